/- For all arguments of bulk at most 1048576 the law CompressTrie returns true, and each argument reads behind the call as it read before. -/
import Derived.Test.YtollegfnkaomeaaZs
namespace Go.Proofs.Ytollegfnkaomeaa.compressTrie
open Go.ChangeShapes Go.WideShapes Go.ChangeAt Go.RowKit Go.Ab

set_option maxRecDepth 100000 in
theorem contract (H : Type) (enc : TypeId × Value → H) (W : World) (base : Nat) (args : Array Value) (ds gs : List (DataW H)) (before : List MemPlace)
    (hval : ∀ (j : Nat) t v, Try.f8.params[j]? = some t → args[j]? = some v → Value.okWide Try.prog W .any base t v)
    (hW : DataW.Whole enc Try.prog Try.f8.params.toList Rows.compressTrieSpec.vars false W args.toList ds gs before) (hk : Rows.uptoSmall H (ds ++ gs) = true) :
    Calls Try.prog 8 args W fun e W' => ∃ v, e = .returned v ∧ Rows.compressTrieSpec.post enc Try.prog Try.f8 false true false false W args v W' := by
  have hW' := hW
  obtain ⟨p, q, hA0, hV, rfl, hfz, hnd⟩ := hW
  have hA : DataW.TrodAll enc Try.prog W 0 (fun _ => true) true Try.f8.params.toList args.toList ds p := hA0
  rw [Try.params8] at hA hval
  obtain ⟨v0, vs0, d0, ds0, p0, q0, hargs0, rfl, rfl, h0, r0⟩ := trodAll_cons hA
  obtain ⟨v1, vs1, d1, ds1, p1, q1, hargs1, rfl, rfl, h1, r1⟩ := trodAll_cons r0
  obtain ⟨rfl, rfl, rfl⟩ := trodAll_nil r1
  subst hargs1
  obtain rfl : args = #[v0, v1] := by cases args; simp only at hargs0; rw [hargs0]
  obtain ⟨rfl, rfl⟩ := trodVars_none hV
  clear hA0
  obtain ⟨s0_a, s0_l, s0_c, rfl⟩ := okWide_slice Try.underlying22 (hval 0 22 v0 rfl rfl)
  obtain ⟨fuel0, h0⟩ := h0
  obtain ⟨cds0, m0, a0, b0, e0⟩ := arg_read (m := 8) (shs := [.list 3 shRt]) (by kernel_rfl) h0
  obtain ⟨x0, xs0, _, _, rfl, rfl, g0, k0⟩ := b0.un
  obtain rfl := k0.end
  obtain ⟨l0, rfl, hs0⟩ := g0.lm encRR (fun _ => 1) dec_rt
  rw [sum_one] at hs0
  obtain ⟨n1, rfl, rfl, rfl, w1⟩ := open_int Try.underlying29 (hval 1 29 v1 rfl rfl) h1
  have hb : Rows.uptoBulkAll ([d0, .lit (.int .u32 n1)] ++ []) ≤ 1048576 := of_decide_eq_true hk
  simp only [List.append_nil, Rows.uptoBulkAll] at hb
  have hvr : VRs (fun b => b < W.heap.size) W [] [] [.slice s0_a s0_l s0_c, .int .u32 n1] [.c (.d (.list false 3 (l0.map encRR))), .c (.d (.int .u32 n1))] := VRs_cons (VR_one (CsR.head a0)) (VRs_cons (VR_one (.int .u32 n1)) VRs_nil)
  refine (ret_true Try.func8 (trie06R Try.prog rfl l0 n1 (wf_u32 w1)) hvr).mono fun e W' ⟨he, hq, hsame⟩ => ?_
  subst he
  exact ⟨_, rfl, law_post (bt := 4) kids full (by rw [Try.params8]; exact of_decide_eq_true (by kernel_rfl)) rfl (by kernel_rfl) Try.underlying4 hW' ⟨rfl, rfl, rfl⟩ hq hsame⟩

set_option maxRecDepth 100000 in
theorem lifted (os : Os) (started : os.Started) (H : Type) (enc : TypeId × Value → H) (F : Stop.Interp) :
    ReturnsInHanded {} Try.checked os 8 .any ((Rows.OpenSpec.upto Rows.compressTrieSpec).pre6 enc Try.prog Try.f8 Rows.compressTrieUptoRow.domain false) (((Rows.OpenSpec.upto Rows.compressTrieSpec).at F).post enc Try.prog Try.f8 false true false false) := by
  refine returnsInHanded_of_cond (C := Try.checked) (s := Rows.OpenSpec.upto Rows.compressTrieSpec) (k := Rows.uptoSmall) rfl own started (by kernel_rfl) Try.func8
    (OpenSpec.witness (enc := enc) (C := Try.checked) (s := Rows.OpenSpec.upto Rows.compressTrieSpec) (k := Rows.uptoSmall) rfl false ⟨#[], #[.slice none 0 0, .int .u32 0], []⟩ 8 (by kernel_rfl) (by kernel_rfl) (by kernel_rfl)
      (x := ([.nil, .lit (.int .u32 0)], [], [])) (by kernel_rfl) rfl (by kernel_rfl)) ?_
  intro W base args ds gs before hval hW _ hk _
  exact contract H enc W base args ds gs before hval hW hk

theorem proved : Rows.CompressTrieUptoSaid :=
  OpenClaim.holds_of_cond 8 Try.f8 rfl rfl rfl rfl rfl rfl rfl ⟨rfl, rfl, rfl, rfl, rfl⟩ rfl rfl rfl rfl rfl (by kernel_rfl) Try.func8 (by kernel_rfl)
    (of_decide_eq_true (by kernel_rfl)) (by unfold Func.isWrapper; first | (rw [if_pos (by decide +kernel)]; kernel_rfl) | (rw [if_neg (by decide +kernel)]; exact ⟨rfl, rfl⟩))
    (fun os started H enc _ F => lifted os started H enc F)
end Go.Proofs.Ytollegfnkaomeaa.compressTrie
