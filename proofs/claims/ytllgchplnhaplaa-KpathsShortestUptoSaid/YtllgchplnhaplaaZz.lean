/- For all arguments of bulk at most 1048576 the law KpathsShortest returns true, and each argument reads behind the call as it read before. -/
import Derived.Test.YtllgchplnhaplaaZt
namespace Go.Proofs.Ytllgchplnhaplaa.kpathsShortest
open Go.ChangeShapes Go.WideShapes Go.ChangeAt Go.RowKit Go.Ab

set_option maxRecDepth 100000 in
theorem contract (H : Type) (enc : TypeId × Value → H) (W : World) (base : Nat) (args : Array Value) (ds gs : List (DataW H)) (before : List MemPlace)
    (hval : ∀ (j : Nat) t v, Try.f3.params[j]? = some t → args[j]? = some v → Value.okWide Try.prog W .any base t v)
    (hW : DataW.Whole enc Try.prog Try.f3.params.toList Rows.kpathsShortestSpec.vars false W args.toList ds gs before) (hk : Rows.uptoSmall H (ds ++ gs) = true) :
    Calls Try.prog 3 args W fun e W' => ∃ v, e = .returned v ∧ Rows.kpathsShortestSpec.post enc Try.prog Try.f3 false true false false W args v W' := by
  have hW' := hW
  obtain ⟨p, q, hA0, hV, rfl, hfz, hnd⟩ := hW
  have hA : DataW.TrodAll enc Try.prog W 0 (fun _ => true) true Try.f3.params.toList args.toList ds p := hA0
  rw [Try.params3] at hA hval
  obtain ⟨v0, vs0, d0, ds0, p0, q0, hargs0, rfl, rfl, h0, r0⟩ := trodAll_cons hA
  obtain ⟨v1, vs1, d1, ds1, p1, q1, hargs1, rfl, rfl, h1, r1⟩ := trodAll_cons r0
  obtain ⟨rfl, rfl, rfl⟩ := trodAll_nil r1
  subst hargs1
  obtain rfl : args = #[v0, v1] := by cases args; simp only at hargs0; rw [hargs0]
  obtain ⟨rfl, rfl⟩ := trodVars_none hV
  clear hA0
  obtain ⟨fuel0, h0⟩ := h0
  obtain ⟨cds0, m0, a0, b0, e0⟩ := arg_read (m := 8) (shs := shTop) (by kernel_rfl) h0
  obtain ⟨c0, hc0, hs0⟩ := dec_top b0
  have hv0 : v0 = .agg v0.cells := agg_of (n := 3) (by rw [a0.1, b0.len]; rfl) (by decide)
  obtain ⟨fuel1, h1⟩ := h1
  obtain ⟨cds1, m1, a1, b1, e1⟩ := arg_read (m := 8) (shs := shKq) (by kernel_rfl) h1
  obtain ⟨c1, hc1, hs1⟩ := dec_kq b1
  have hv1 : v1 = .agg v1.cells := agg_of (n := 5) (by rw [a1.1, b1.len]; rfl) (by decide)
  have hb : Rows.uptoBulkAll ([d0, d1] ++ []) ≤ 1048576 := of_decide_eq_true hk
  simp only [List.append_nil, Rows.uptoBulkAll] at hb
  have hvr : VRs (fun b => b < W.heap.size) W [] [] [v0, v1] [topA c0, qkA c1] := VRs_cons (by rw [hc0, hv0]; exact VR_agg a0) (VRs_cons (by rw [hc1, hv1]; exact VR_agg a1) VRs_nil)
  refine (ret_true (shortest_law Try.prog rfl c0 c1) hvr).mono fun e W' ⟨he, hq, hsame⟩ => ?_
  subst he
  exact ⟨_, rfl, law_post (bt := 4) kids full (by rw [Try.params3]; exact of_decide_eq_true (by kernel_rfl)) rfl (by kernel_rfl) Try.underlying4 hW' ⟨rfl, rfl, rfl⟩ hq hsame⟩

set_option maxRecDepth 100000 in
theorem lifted (os : Os) (started : os.Started) (H : Type) (enc : TypeId × Value → H) (F : Stop.Interp) :
    ReturnsInHanded {} Try.checked os 3 .any ((Rows.OpenSpec.upto Rows.kpathsShortestSpec).pre6 enc Try.prog Try.f3 Rows.kpathsShortestUptoRow.domain false) (((Rows.OpenSpec.upto Rows.kpathsShortestSpec).at F).post enc Try.prog Try.f3 false true false false) := by
  refine returnsInHanded_of_cond (C := Try.checked) (s := Rows.OpenSpec.upto Rows.kpathsShortestSpec) (k := Rows.uptoSmall) rfl own started (by kernel_rfl) Try.func3
    (OpenSpec.witness (enc := enc) (C := Try.checked) (s := Rows.OpenSpec.upto Rows.kpathsShortestSpec) (k := Rows.uptoSmall) rfl false ⟨#[], #[.agg #[.int .i64 0, .slice none 0 0, .slice none 0 0], .agg #[.slice none 0 0, .int .i64 0, .int .i64 0, .int .i64 0, .int .i64 0]], []⟩ 8 (by kernel_rfl) (by kernel_rfl) (by kernel_rfl)
      (x := ([.agg [.lit (.int .i64 0), .nil, .nil], .agg [.nil, .lit (.int .i64 0), .lit (.int .i64 0), .lit (.int .i64 0), .lit (.int .i64 0)]], [], [])) (by kernel_rfl) rfl (by kernel_rfl)) ?_
  intro W base args ds gs before hval hW _ hk _
  exact contract H enc W base args ds gs before hval hW hk

theorem proved : Rows.KpathsShortestUptoSaid :=
  OpenClaim.holds_of_cond 3 Try.f3 rfl rfl rfl rfl rfl rfl rfl ⟨rfl, rfl, rfl, rfl, rfl⟩ rfl rfl rfl rfl rfl (by kernel_rfl) Try.func3 (by kernel_rfl)
    (of_decide_eq_true (by kernel_rfl)) (by unfold Func.isWrapper; first | (rw [if_pos (by decide +kernel)]; kernel_rfl) | (rw [if_neg (by decide +kernel)]; exact ⟨rfl, rfl⟩))
    (fun os started H enc _ F => lifted os started H enc F)
end Go.Proofs.Ytllgchplnhaplaa.kpathsShortest
