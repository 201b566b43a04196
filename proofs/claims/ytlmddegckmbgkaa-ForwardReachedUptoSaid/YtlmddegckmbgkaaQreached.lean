/- For every case and number of bulk at most 1048576 the law ForwardReached returns true, and the case reads behind the call as it read before. -/
import Derived.Test.YtlmddegckmbgkaaPa
import Derived.Test.YtlmddegckmbgkaaNf
namespace Go.Proofs.Ytlmddegckmbgkaa.forwardReached
open Go.ChangeShapes Go.WideShapes Go.ChangeAt Go.RowKit Go.Ab

set_option maxRecDepth 100000 in
theorem contract (H : Type) (enc : TypeId × Value → H) (W : World) (args : Array Value) (base : Nat) (ds gs : List (DataW H)) (before : List MemPlace)
    (hval : ∀ (j : Nat) t v, Try.f6.params[j]? = some t → args[j]? = some v → Value.okWide Try.prog W .any base t v)
    (hW : DataW.Whole enc Try.prog Try.f6.params.toList Rows.forwardReachedSpec.vars false W args.toList ds gs before) (hk : Rows.uptoSmall H (ds ++ gs) = true) :
    Calls Try.prog 6 args W fun e W' => ∃ v, e = .returned v ∧ Rows.forwardReachedSpec.post enc Try.prog Try.f6 false true false false W args v W' := by
  have hW' := hW
  obtain ⟨p, q, hA0, hV, rfl, hfz, hnd⟩ := hW
  have hA : DataW.TrodAll enc Try.prog W 0 (fun _ => true) true Try.f6.params.toList args.toList ds p := hA0
  rw [Try.params6] at hA hval
  obtain ⟨v0, vs0, d0, ds0, p0, q0, hargs, rfl, rfl, ⟨fuel, h0⟩, r0⟩ := trodAll_cons hA
  obtain ⟨v1, vs1, d1, ds1, p1, q1, hargs1, rfl, rfl, h1, r1'⟩ := trodAll_cons r0
  obtain ⟨rfl, rfl, rfl⟩ := trodAll_nil r1'
  subst hargs1
  obtain rfl : args = #[v0, v1] := by cases args; simp only at hargs; rw [hargs]
  have e1 : (#[34, 5] : Array TypeId)[1]? = some 5 := rfl
  have e2 : (#[v0, v1] : Array Value)[1]? = some v1 := rfl
  have hv1 := hval 1 5 v1 e1 e2
  clear hval
  obtain ⟨n8, rfl, rfl, rfl, w8⟩ := open_int Try.underlying5 hv1 h1
  have hn8 : 0 ≤ n8 ∧ n8 ≤ 255 := bounds_u8 w8
  obtain ⟨rfl, rfl⟩ := trodVars_none hV
  clear hA0
  obtain ⟨cds, n, r1, r2, r3⟩ := arg_read (m := 8) (shs := shTop ++ shTab ++ shPkt) (by kernel_rfl) h0
  obtain ⟨c, hc, hs, hw⟩ := dec_cas r2
  have hb : Rows.uptoBulkAll ([d0, .lit (.int .u8 n8)] ++ []) ≤ 1048576 := of_decide_eq_true hk
  simp only [List.append_nil, Rows.uptoBulkAll] at hb
  have hv0 : v0 = .agg v0.cells := agg_of (n := 12) (by rw [r1.1, r2.len]; rfl) (by decide)
  have hvr : VRs (fun b => b < W.heap.size) W [] [] [v0, .int .u8 n8] [casA c, .c (.d (.int .u8 n8))] := VRs_cons (by rw [hc, hv0]; exact VR_agg r1) (VRs_cons (VR_one (.int .u8 n8)) VRs_nil)
  refine (ret_true (reached_law Try.prog rfl c n8 (by simp only [sizeX] at hs; omega) hn8) hvr).mono fun e W' ⟨he, hq, hsame⟩ => ?_
  subst he
  exact ⟨_, rfl, law_post (bt := 4) kids full (by rw [Try.params6]; exact of_decide_eq_true (by kernel_rfl)) rfl (by kernel_rfl) Try.underlying4 hW' ⟨rfl, rfl, rfl⟩ hq hsame⟩

set_option maxRecDepth 100000 in
theorem lifted (os : Os) (started : os.Started) (H : Type) (enc : TypeId × Value → H) (F : Stop.Interp) :
    ReturnsInHanded {} Try.checked os 6 .any ((Rows.OpenSpec.upto Rows.forwardReachedSpec).pre6 enc Try.prog Try.f6 Rows.forwardReachedUptoRow.domain false) (((Rows.OpenSpec.upto Rows.forwardReachedSpec).at F).post enc Try.prog Try.f6 false true false false) := by
  refine returnsInHanded_of_cond (C := Try.checked) (s := Rows.OpenSpec.upto Rows.forwardReachedSpec) (k := Rows.uptoSmall) rfl own started (by kernel_rfl) Try.func6
    (OpenSpec.witness (enc := enc) (C := Try.checked) (s := Rows.OpenSpec.upto Rows.forwardReachedSpec) (k := Rows.uptoSmall) rfl false ⟨#[], #[.agg #[.int .i64 0, .slice none 0 0, .slice none 0 0, .int .i64 0, .slice none 0 0, .slice none 0 0, .int .i64 0, .int .i64 0, .int .i64 0, .int .i64 0, .slice none 0 0, .int .i64 0], .int .u8 0], []⟩ 8 (by kernel_rfl) (by kernel_rfl) (by kernel_rfl)
      (x := ([.agg [.agg [.lit (.int .i64 0), .nil, .nil], .agg [.lit (.int .i64 0), .nil, .nil], .agg [.lit (.int .i64 0), .lit (.int .i64 0), .lit (.int .i64 0), .lit (.int .i64 0), .nil, .lit (.int .i64 0)]], .lit (.int .u8 0)], [], [])) (by kernel_rfl) rfl (by kernel_rfl)) ?_
  intro W base args ds gs before hval hW _ hk _
  exact contract H enc W args base ds gs before hval hW hk

theorem proved : Rows.ForwardReachedUptoSaid :=
  OpenClaim.holds_of_cond 6 Try.f6 rfl rfl rfl rfl rfl rfl rfl ⟨rfl, rfl, rfl, rfl, rfl⟩ rfl rfl rfl rfl rfl (by kernel_rfl) Try.func6 (by kernel_rfl)
    (of_decide_eq_true (by kernel_rfl)) (by unfold Func.isWrapper; first | (rw [if_pos (by decide +kernel)]; kernel_rfl) | (rw [if_neg (by decide +kernel)]; exact ⟨rfl, rfl⟩))
    (fun os started H enc _ F => lifted os started H enc F)
end Go.Proofs.Ytlmddegckmbgkaa.forwardReached
