/-
  The statements of chapter 23, part d: bounds.
-/
import Derived.Test.YtlmddegckmbgkaaNc
namespace Go.Ab
open Go.Proofs

set_option maxHeartbeats 4000000 in
theorem bounds_law (P : Program) (hP : P = Try.prog) (c : Cas) (hs : sizeC c ≤ 10000000) : Ret P n_law23_ForwardBounds [casA c] (bA true) := by
  have haw : Ret P n_law23_awake [] (bA true) := hP ▸ awake_ok
  have hlg := large_ok P hP c hs
  have hstep := fun (h : largeB c = false) => step_ok P hP c.t c.x c.p (fit_of h)
  have htail := fun n => tail_ok P hP c.t n
  have hb := bnd_step c.t c.x c.p
  refine ret_start (hP ▸ mixed) (hP ▸ fn_law23_ForwardBounds) (hP ▸ c_law23_ForwardBounds) (Nat.le_of_ble_eq_true rfl) fun Λ Λo K hK => ?_
  clear hP
  obtain ⟨t, ⟨node, to, down⟩, ⟨id, src, dst, flow, stack, hops⟩⟩ := c
  simp only at hstep htail hb
  generalize largeB _ = lg at *
  generalize stepS t ⟨node, to, down⟩ ⟨id, src, dst, flow, stack, hops⟩ = st at *
  obtain ⟨arcs, ⟨id', src', dst', flow', stack', hops'⟩, r⟩ := st
  obtain ⟨b1, b2, b3, b4, b5, b6, b7⟩ := hb
  simp only at b1 b2 b3 b4 b5 b6 b7
  subst b1 b2 b3 b4
  generalize tailT t = tt at *
  simp only [casA, tabA, pktA, ansA, tupA, boolsD, linksD, entsD, intsA, intsD, segsD] at *
  generalize down.map encI = dl at *
  generalize stack.map encSeg = sl at *
  generalize List.map encEnt to = el at *
  generalize alh : List.map encI arcs = al at *
  have aln : Λ al = arcs.length := by rw [Λo, ← alh]; simp
  generalize sl'h : List.map encSeg stack' = sl' at *
  have sl'n : Λ sl' = stack'.length := by rw [Λo, ← sl'h]; simp
  obtain ⟨nodes, ov, links⟩ := t
  simp only [topA, boolsD, linksD] at *
  generalize hol : ov.map encB = ol at *
  generalize hll : links.map encLk = ll at *
  have hlo : Λ ol = ov.length := by rw [Λo, ← hol]; simp
  have hls : Λ ll = links.length := by rw [Λo, ← hll]; simp
  cases lg
  case true =>
    conv => cbv
    repeat' first | refine call_b haw rfl rfl ?_ ?_ | refine call_b hlg rfl rfl ?_ ?_ | (intro hc; cases hc; done) | (intro (_ : Unit); first | omega | rfl | exact ⟨rfl, by omega⟩ | (simp only [nI_eq]; omega) | ((repeat' first | rfl | omega | refine And.intro ?_ ?_ | (simp only [nI_eq]; omega) | exact Nat.le_of_ble_eq_true rfl); done)) | exact trivial | refine And.intro ?_ ?_ | (intro hc; exact absurd hc (by decide)) | (intro hc; exfalso; omega) | (intro hc; (first | rw [wrap_small (by omega) (by omega)] at hc | rw [nI_eq] at hc | skip); try (conv => cbv))
    exact hK
  have hstep := hstep rfl
  by_cases hr : r = 0
  case neg =>
    have b6 := b6 hr
    have b5 : ¬ 0 < arcs.length := fun h => hr (b5.2 h)
    conv => cbv
    repeat' first | refine call_b haw rfl rfl ?_ ?_ | refine call_b hlg rfl rfl ?_ ?_ | (intro hc; cases hc; done) | (refine call_r hstep rfl rfl ?_; conv => cbv) | (intro (_ : Unit); first | omega | rfl | exact ⟨rfl, by omega⟩ | (simp only [nI_eq]; omega) | ((repeat' first | rfl | omega | refine And.intro ?_ ?_ | (simp only [nI_eq]; omega) | exact Nat.le_of_ble_eq_true rfl); done)) | exact trivial | refine And.intro ?_ ?_ | (intro hc; exact absurd hc (by decide)) | (intro hc; exfalso; omega) | (intro hc; (first | rw [wrap_small (by omega) (by omega)] at hc | rw [nI_eq] at hc | skip); try (conv => cbv))
    all_goals first | exact hK | (exfalso; omega)
  have b5 := b5.1 hr
  obtain ⟨b71, b72, b73, b74, b75⟩ := b7 hr
  clear b6 b7
  conv => cbv
  repeat' first | refine call_b haw rfl rfl ?_ ?_ | refine call_b hlg rfl rfl ?_ ?_ | (intro hc; cases hc; done) | (refine call_r hstep rfl rfl ?_; conv => cbv) | (intro (_ : Unit); first | omega | rfl | exact ⟨rfl, by omega⟩ | (simp only [nI_eq]; omega) | ((repeat' first | rfl | omega | refine And.intro ?_ ?_ | (simp only [nI_eq]; omega) | exact Nat.le_of_ble_eq_true rfl); done)) | exact trivial | refine And.intro ?_ ?_ | (intro hc; exact absurd hc (by decide)) | (intro hc; exfalso; omega) | (intro hc; (first | rw [wrap_small (by omega) (by omega)] at hc | rw [nI_eq] at hc | skip); try (conv => cbv))
  all_goals try (exfalso; omega)
  refine loop_up arcs.length (fun (i : Int) => [(1, .c (.ptr 0 0 0 0)), (4, .c (.ptr 1 0 0 0)), (85, .c (.d (.list false 1 al))), (86, iA (Λ al)), (87, iA i)]) (fun _ => [.bx [.d (iD nodes), .d (.list false 1 ol), .d (.list false 7 ll), .d (iD node), .d (.list false 3 el), .d (.list false 1 dl), .d (iD id'), .d (iD src'), .d (iD dst'), .d (iD flow'), .d (.list false 2 sl), .d (iD hops)],
      .bx [.d (iD id'), .d (iD src'), .d (iD dst'), .d (iD flow'), .d (.list false 2 sl'), .d (iD hops')]])
    (fun k i => i = k ∧ k ≤ arcs.length) 0 (Wk.cut ⟨_, rfl⟩ (Nat.zero_le _) rfl (by repeat' first | exact trivial | refine And.intro ?_ ?_ | rfl)) ⟨rfl, by omega⟩ (fun k s h => h.2) ?_
  rintro k i Q' ⟨hi, hk⟩ norm ex rt
  by_cases hlt : k < arcs.length
  · obtain ⟨x, hx⟩ : ∃ x, arcs[k]? = some x := ⟨_, List.getElem?_eq_getElem hlt⟩
    have hxa := elt_at alh hi hx
    have hm : tt x = node := b71 x (List.mem_of_getElem? hx)
    have ht := htail x
    simp only [encI] at hxa
    conv => cbv
    repeat' first | (refine ex _ _ _ ?_; (conv => cbv)) | (refine rt _ _ ?_; (conv => cbv)) | (intro e he; cases Option.some.inj (he.symm.trans hxa); (conv => cbv)) | refine call_i ht rfl rfl ?_ | (intro (_ : Unit); first | omega | rfl | exact ⟨rfl, by omega⟩ | (simp only [nI_eq]; omega) | ((repeat' first | rfl | omega | refine And.intro ?_ ?_ | (simp only [nI_eq]; omega) | exact Nat.le_of_ble_eq_true rfl); done)) | exact trivial | refine And.intro ?_ ?_ | (intro hc; exact absurd hc (by decide)) | (intro hc; exfalso; omega) | (intro hc; (first | rw [wrap_small (by omega) (by omega)] at hc | rw [nI_eq] at hc | skip); try (conv => cbv))
    all_goals try (exfalso; omega)
    all_goals refine norm _ _ _ ?_ (Wk.cut ⟨_, rfl⟩ (Nat.zero_le _) rfl (by repeat' first | exact trivial | refine And.intro ?_ ?_ | rfl))
    all_goals exact ⟨by omega, by omega⟩
  · conv => cbv
    repeat' first | (refine ex _ _ _ ?_; (conv => cbv)) | (refine rt _ _ ?_; (conv => cbv)) | (intro (_ : Unit); first | omega | rfl | exact ⟨rfl, by omega⟩ | (simp only [nI_eq]; omega) | ((repeat' first | rfl | omega | refine And.intro ?_ ?_ | (simp only [nI_eq]; omega) | exact Nat.le_of_ble_eq_true rfl); done)) | exact trivial | refine And.intro ?_ ?_ | (intro hc; exact absurd hc (by decide)) | (intro hc; exfalso; omega) | (intro hc; (first | rw [wrap_small (by omega) (by omega)] at hc | rw [nI_eq] at hc | skip); try (conv => cbv))
    all_goals first | exact hK | (exfalso; omega)

end Go.Ab
