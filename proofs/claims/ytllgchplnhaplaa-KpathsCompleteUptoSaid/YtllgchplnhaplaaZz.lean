/- For all arguments of bulk at most 1048576 the law KpathsComplete returns true, and each argument reads behind the call as it read before. -/
import Derived.Test.YtllgchplnhaplaaZs
namespace Go.Proofs.Ytllgchplnhaplaa.kpathsComplete
open Go.ChangeShapes Go.WideShapes Go.ChangeAt Go.RowKit Go.Ab

set_option maxRecDepth 100000 in
theorem contract (H : Type) (enc : TypeId × Value → H) (W : World) (base : Nat) (args : Array Value) (ds gs : List (DataW H)) (before : List MemPlace)
    (hval : ∀ (j : Nat) t v, Try.f9.params[j]? = some t → args[j]? = some v → Value.okWide Try.prog W .any base t v)
    (hW : DataW.Whole enc Try.prog Try.f9.params.toList Rows.kpathsCompleteSpec.vars false W args.toList ds gs before) (hk : Rows.uptoSmall H (ds ++ gs) = true) :
    Calls Try.prog 9 args W fun e W' => ∃ v, e = .returned v ∧ Rows.kpathsCompleteSpec.post enc Try.prog Try.f9 false true false false W args v W' := by
  have hW' := hW
  obtain ⟨p, q, hA0, hV, rfl, hfz, hnd⟩ := hW
  have hA : DataW.TrodAll enc Try.prog W 0 (fun _ => true) true Try.f9.params.toList args.toList ds p := hA0
  rw [Try.params9] at hA hval
  obtain ⟨v0, vs0, d0, ds0, p0, q0, hargs0, rfl, rfl, h0, r0⟩ := trodAll_cons hA
  obtain ⟨v1, vs1, d1, ds1, p1, q1, hargs1, rfl, rfl, h1, r1⟩ := trodAll_cons r0
  obtain ⟨v2, vs2, d2, ds2, p2, q2, hargs2, rfl, rfl, h2, r2⟩ := trodAll_cons r1
  obtain ⟨rfl, rfl, rfl⟩ := trodAll_nil r2
  subst hargs2
  subst hargs1
  obtain rfl : args = #[v0, v1, v2] := by cases args; simp only at hargs0; rw [hargs0]
  obtain ⟨rfl, rfl⟩ := trodVars_none hV
  clear hA0
  obtain ⟨fuel0, h0⟩ := h0
  obtain ⟨cds0, m0, a0, b0, e0⟩ := arg_read (m := 8) (shs := shTop) (by kernel_rfl) h0
  obtain ⟨c0, hc0, hs0⟩ := dec_top b0
  have hv0 : v0 = .agg v0.cells := agg_of (n := 3) (by rw [a0.1, b0.len]; rfl) (by decide)
  obtain ⟨fuel1, h1⟩ := h1
  obtain ⟨cds1, m1, a1, b1, e1⟩ := arg_read (m := 8) (shs := shKq) (by kernel_rfl) h1
  obtain ⟨c1, hc1, hs1⟩ := dec_kq b1
  have hv1 : v1 = .agg v1.cells := agg_of (n := 5) (by rw [a1.1, b1.len]; rfl) (by decide)
  obtain ⟨s2_a, s2_l, s2_c, rfl⟩ := okWide_slice Try.underlying47 (hval 2 47 v2 rfl rfl)
  obtain ⟨fuel2, h2⟩ := h2
  obtain ⟨cds2, m2, a2, b2, e2⟩ := arg_read (m := 8) (shs := [.list 1 [.int .u8]]) (by kernel_rfl) h2
  obtain ⟨x2, xs2, _, _, rfl, rfl, g2, k2⟩ := b2.un
  obtain rfl := k2.end
  obtain ⟨l2, rfl, hs2⟩ := g2.lm encF (fun _ => 1) dec_f
  rw [sum_one] at hs2
  have hb : Rows.uptoBulkAll ([d0, d1, d2] ++ []) ≤ 1048576 := of_decide_eq_true hk
  simp only [List.append_nil, Rows.uptoBulkAll] at hb
  have hvr : VRs (fun b => b < W.heap.size) W [] [] [v0, v1, .slice s2_a s2_l s2_c] [topA c0, qkA c1, .c (.d (.list false 1 (l2.map encF)))] := VRs_cons (by rw [hc0, hv0]; exact VR_agg a0) (VRs_cons (by rw [hc1, hv1]; exact VR_agg a1) (VRs_cons (VR_one (CsR.head a2)) VRs_nil))
  refine (ret_true (complete_law Try.prog rfl c0 c1 l2) hvr).mono fun e W' ⟨he, hq, hsame⟩ => ?_
  subst he
  exact ⟨_, rfl, law_post (bt := 4) kids full (by rw [Try.params9]; exact of_decide_eq_true (by kernel_rfl)) rfl (by kernel_rfl) Try.underlying4 hW' ⟨rfl, rfl, rfl⟩ hq hsame⟩

set_option maxRecDepth 100000 in
theorem lifted (os : Os) (started : os.Started) (H : Type) (enc : TypeId × Value → H) (F : Stop.Interp) :
    ReturnsInHanded {} Try.checked os 9 .any ((Rows.OpenSpec.upto Rows.kpathsCompleteSpec).pre6 enc Try.prog Try.f9 Rows.kpathsCompleteUptoRow.domain false) (((Rows.OpenSpec.upto Rows.kpathsCompleteSpec).at F).post enc Try.prog Try.f9 false true false false) := by
  refine returnsInHanded_of_cond (C := Try.checked) (s := Rows.OpenSpec.upto Rows.kpathsCompleteSpec) (k := Rows.uptoSmall) rfl own started (by kernel_rfl) Try.func9
    (OpenSpec.witness (enc := enc) (C := Try.checked) (s := Rows.OpenSpec.upto Rows.kpathsCompleteSpec) (k := Rows.uptoSmall) rfl false ⟨#[], #[.agg #[.int .i64 0, .slice none 0 0, .slice none 0 0], .agg #[.slice none 0 0, .int .i64 0, .int .i64 0, .int .i64 0, .int .i64 0], .slice none 0 0], []⟩ 8 (by kernel_rfl) (by kernel_rfl) (by kernel_rfl)
      (x := ([.agg [.lit (.int .i64 0), .nil, .nil], .agg [.nil, .lit (.int .i64 0), .lit (.int .i64 0), .lit (.int .i64 0), .lit (.int .i64 0)], .nil], [], [])) (by kernel_rfl) rfl (by kernel_rfl)) ?_
  intro W base args ds gs before hval hW _ hk _
  exact contract H enc W base args ds gs before hval hW hk

theorem proved : Rows.KpathsCompleteUptoSaid :=
  OpenClaim.holds_of_cond 9 Try.f9 rfl rfl rfl rfl rfl rfl rfl ⟨rfl, rfl, rfl, rfl, rfl⟩ rfl rfl rfl rfl rfl (by kernel_rfl) Try.func9 (by kernel_rfl)
    (of_decide_eq_true (by kernel_rfl)) (by unfold Func.isWrapper; first | (rw [if_pos (by decide +kernel)]; kernel_rfl) | (rw [if_neg (by decide +kernel)]; exact ⟨rfl, rfl⟩))
    (fun os started H enc _ F => lifted os started H enc F)
end Go.Proofs.Ytllgchplnhaplaa.kpathsComplete
