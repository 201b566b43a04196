/-
  Contracts, part h: copies; the parts of a step.
-/
import Derived.Test.YtlmddegckmbgkaaLg
namespace Go.Ab
open Go.Proofs

theorem cloneSegs_raw (P : Program) (hP : P = Try.prog) (ll : List (List D)) (hl : ll.length ≤ 1000000) : Ret P n_slices_Clone_api_Segment_api_Segment [.c (.d (.list false 2 ll))] (.c (.d (.list false 2 ll))) := by
  refine ret_start (hP ▸ mixed) (hP ▸ fn_slices_Clone_api_Segment_api_Segment) (hP ▸ c_slices_Clone_api_Segment_api_Segment) (Nat.le_of_ble_eq_true rfl) fun Λ Λo K hK => ?_
  clear hP
  have h0 : ll = [] → K (.c (.d (.list false 2 []))) := fun h => by rw [h] at hK; exact hK
  have lln := Λo ll
  conv => cbv
  repeat' first | (intro (_ : Unit); first | omega | rfl | exact ⟨rfl, by omega⟩ | (simp only [nI_eq]; omega) | ((repeat' first | rfl | omega | refine And.intro ?_ ?_ | (simp only [nI_eq]; omega) | exact Nat.le_of_ble_eq_true rfl); done)) | exact trivial | refine And.intro ?_ ?_ | (intro hc; exact absurd hc (by decide)) | (intro hc; exfalso; omega) | (intro hc; (first | rw [wrap_small (by omega) (by omega)] at hc | rw [nI_eq] at hc | skip); try (conv => cbv))
  · rename_i m r es hm hr hes ls
    have : ls = ll := by subst hc hes hm; simp
    rw [this]; exact hK
  · exact h0 hc

theorem cloneSegs_ok (P : Program) (hP : P = Try.prog) (l : List Seg) (hl : l.length ≤ 1000000) : Ret P n_slices_Clone_api_Segment_api_Segment [segsA l] (segsA l) :=
  cloneSegs_raw P hP _ (by rw [List.length_map]; exact hl)

theorem cloneInts_raw (P : Program) (hP : P = Try.prog) (ll : List (List D)) (hl : ll.length ≤ 1000000) : Ret P n_slices_Clone_int_int [.c (.d (.list false 1 ll))] (.c (.d (.list false 1 ll))) := by
  refine ret_start (hP ▸ mixed) (hP ▸ fn_slices_Clone_int_int) (hP ▸ c_slices_Clone_int_int) (Nat.le_of_ble_eq_true rfl) fun Λ Λo K hK => ?_
  clear hP
  have h0 : ll = [] → K (.c (.d (.list false 1 []))) := fun h => by rw [h] at hK; exact hK
  have lln := Λo ll
  conv => cbv
  repeat' first | (intro (_ : Unit); first | omega | rfl | exact ⟨rfl, by omega⟩ | (simp only [nI_eq]; omega) | ((repeat' first | rfl | omega | refine And.intro ?_ ?_ | (simp only [nI_eq]; omega) | exact Nat.le_of_ble_eq_true rfl); done)) | exact trivial | refine And.intro ?_ ?_ | (intro hc; exact absurd hc (by decide)) | (intro hc; exfalso; omega) | (intro hc; (first | rw [wrap_small (by omega) (by omega)] at hc | rw [nI_eq] at hc | skip); try (conv => cbv))
  · rename_i m r es hm hr hes ls
    have : ls = ll := by subst hc hes hm; simp
    rw [this]; exact hK
  · exact h0 hc

theorem cloneInts_ok (P : Program) (hP : P = Try.prog) (l : List Int) (hl : l.length ≤ 1000000) : Ret P n_slices_Clone_int_int [intsA l] (intsA l) :=
  cloneInts_raw P hP _ (by rw [List.length_map]; exact hl)

/-- lists of lists -/
def encSegs (l : List Seg) : List D := [segsD l]

theorem call_in {P : Program} {m : Nat} {L : Lv} {h : Hp} {f : Nat} {fn : Func} {af : AF} {xs : List X} {K : Lv → AV → Hp → Prop} (hm : P.follows .mixedOrders = true) (hf : P.funcs[f]? = some fn) (hc : compF P fn = some af) (hl : (evsN L xs).length ≤ af.nt)
    (hv : ∀ Λ : Len, (∀ l, Λ l = (l.length : Int)) → vcH P Λ af (evsN L xs) h (K L)) : CallS P m false L h f xs K := .fn (fn_heap hm hf hc hl hv)

def sumLen (l : List (List Seg)) : Nat := (l.map List.length).sum

theorem sumLen_take {l : List (List Seg)} {k : Nat} {x : List Seg} (h : l[k]? = some x) : sumLen (l.take (k + 1)) = sumLen (l.take k) + x.length := by
  rw [take_succ_get h]; simp [sumLen]

theorem sumLen_le (l : List (List Seg)) (k : Nat) : sumLen (l.take k) ≤ sumLen l := by
  have : sumLen l = sumLen (l.take k) + sumLen (l.drop k) := by
    conv => lhs; rw [← List.take_append_drop k l]
    simp [sumLen, -List.take_append_drop]
  omega

theorem flat_len (l : List (List Seg)) : l.flatten.length = sumLen l := by simp [sumLen, List.length_flatten]

theorem concatSegs_ok (P : Program) (hP : P = Try.prog) (l : List (List Seg)) (hl : sumLen l ≤ 1000000) : Ret P n_slices_Concat_api_Segment_api_Segment [.c (.d (.list false 1 (l.map encSegs)))] (segsA l.flatten) := by
  refine ret_start (hP ▸ mixed) (hP ▸ fn_slices_Concat_api_Segment_api_Segment) (hP ▸ c_slices_Concat_api_Segment_api_Segment) (Nat.le_of_ble_eq_true rfl) fun Λ Λo K hK => ?_
  have gm : P.follows .mixedOrders = true := hP ▸ mixed
  have gf := hP ▸ fn_slices_Grow_api_Segment_api_Segment
  have gc := hP ▸ c_slices_Grow_api_Segment_api_Segment
  clear hP
  generalize llh : l.map encSegs = ll at *
  have lln : Λ ll = l.length := by rw [Λo, ← llh]; simp
  conv => cbv
  repeat' first | (intro (_ : Unit); first | omega | rfl | exact ⟨rfl, by omega⟩ | (simp only [nI_eq]; omega) | ((repeat' first | rfl | omega | refine And.intro ?_ ?_ | (simp only [nI_eq]; omega) | exact Nat.le_of_ble_eq_true rfl); done)) | exact trivial | refine And.intro ?_ ?_ | (intro hc; exact absurd hc (by decide)) | (intro hc; exfalso; omega) | (intro hc; (first | rw [wrap_small (by omega) (by omega)] at hc | rw [nI_eq] at hc | skip); try (conv => cbv))
  refine loop_up l.length (fun (s : Int × Int) => [(0, .c (.d (.list false 1 ll))), (3, iA s.2), (9, .c (.d (.list false 1 ll))), (10, iA (Λ ll)), (11, iA s.1)]) (fun _ => []) (fun k s => s.1 = k ∧ k ≤ l.length ∧ s.2 = sumLen (l.take k)) (0, 0) (Wk.cut ⟨_, rfl⟩ (Nat.zero_le _) rfl (by repeat' first | exact trivial | refine And.intro ?_ ?_ | rfl)) ⟨rfl, by omega, by simp [sumLen]⟩ (fun k s h => h.2.1) ?_
  rintro k ⟨i, sz⟩ Q' ⟨hi, hk, hsz⟩ norm ex rt
  simp only at hi hsz
  have hle := sumLen_le l k
  by_cases hlt : k < l.length
  · obtain ⟨x, hx⟩ : ∃ x, l[k]? = some x := ⟨_, List.getElem?_eq_getElem hlt⟩
    have hxa := elt_at llh hi hx
    have hst := sumLen_take hx
    have hle2 := sumLen_le l (k + 1)
    simp only [encSegs, segsD] at hxa
    generalize xlh : List.map encSeg x = xl at *
    have xln : Λ xl = x.length := by rw [Λo, ← xlh]; simp
    conv => cbv
    repeat' first | (refine ex _ _ _ ?_; (conv => cbv)) | (refine rt _ _ ?_; (conv => cbv)) | (intro e he; cases Option.some.inj (he.symm.trans hxa); (conv => cbv)) | (intro (_ : Unit); first | omega | rfl | exact ⟨rfl, by omega⟩ | (simp only [nI_eq]; omega) | ((repeat' first | rfl | omega | refine And.intro ?_ ?_ | (simp only [nI_eq]; omega) | exact Nat.le_of_ble_eq_true rfl); done)) | exact trivial | refine And.intro ?_ ?_ | (intro hc; exact absurd hc (by decide)) | (intro hc; exfalso; omega) | (intro hc; (first | rw [wrap_small (by omega) (by omega)] at hc | rw [nI_eq] at hc | skip); try (conv => cbv))
    refine norm _ _ (_, _) ?_ (Wk.cut ⟨_, rfl⟩ (Nat.zero_le _) rfl (by repeat' first | exact trivial | refine And.intro ?_ ?_ | rfl))
    exact ⟨by simp only; omega, by omega, by simp only; omega⟩
  · conv => cbv
    repeat' first | (refine ex _ _ _ ?_; (conv => cbv)) | (refine rt _ _ ?_; (conv => cbv)) | (intro (_ : Unit); first | omega | rfl | exact ⟨rfl, by omega⟩ | (simp only [nI_eq]; omega) | ((repeat' first | rfl | omega | refine And.intro ?_ ?_ | (simp only [nI_eq]; omega) | exact Nat.le_of_ble_eq_true rfl); done)) | exact trivial | refine And.intro ?_ ?_ | (intro hc; exact absurd hc (by decide)) | (intro hc; exfalso; omega) | (intro hc; (first | rw [wrap_small (by omega) (by omega)] at hc | rw [nI_eq] at hc | skip); try (conv => cbv))
    clear norm ex rt
    rw [List.take_of_length_le (by omega)] at hsz
    refine call_in gm gf gc (Nat.le_of_ble_eq_true rfl) fun Λ' Λo' => ?_
    have hΛ0 : Λ' [] = 0 := by rw [Λo']; rfl
    conv => cbv
    repeat' first | (intro (_ : Unit); first | omega | rfl | exact ⟨rfl, by omega⟩ | (simp only [nI_eq]; omega) | ((repeat' first | rfl | omega | refine And.intro ?_ ?_ | (simp only [nI_eq]; omega) | exact Nat.le_of_ble_eq_true rfl); done)) | exact trivial | refine And.intro ?_ ?_ | (intro hc; exact absurd hc (by decide)) | (intro hc; exfalso; omega) | (intro hc; (first | rw [wrap_small (by omega) (by omega)] at hc | rw [nI_eq] at hc | skip); try (conv => cbv))
    all_goals (clear gm gf gc)
    all_goals first
      | refine loop_up l.length (fun (s : Int × Nat × Nat × Bool × List (List D)) => [(6, .c (.arr 0 s.2.1 0 s.2.2.1)), (25, .c (.d (.list false 1 ll))), (26, iA (Λ ll)), (27, iA s.1)]) (fun s => [.da s.2.2.2.1 s.2.1 2 s.2.2.2.2]) (fun k s => s.1 = k ∧ k ≤ l.length ∧ s.2.2.1 = sumLen (l.take k) ∧ s.2.2.2.2.take s.2.2.1 = (l.take k).flatten.map encSeg) (0, 0, _, _, _) (Wk.cut ⟨_, rfl⟩ (Nat.zero_le _) rfl (by repeat' first | exact trivial | refine And.intro ?_ ?_ | rfl)) ⟨rfl, by omega, ?_, ?_⟩ (fun k s h => h.2.1) ?_
      | refine loop_up l.length (fun (s : Int × Nat × Nat × Bool × List (List D)) => [(6, .c (.arr 0 s.2.1 0 s.2.2.1)), (25, .c (.d (.list false 1 ll))), (26, iA (Λ ll)), (27, iA s.1)]) (fun s => [.da s.2.2.2.1 s.2.1 2 s.2.2.2.2]) (fun k s => s.1 = k ∧ k ≤ l.length ∧ s.2.2.1 = sumLen (l.take k) ∧ s.2.2.2.2.take s.2.2.1 = (l.take k).flatten.map encSeg) (0, 0, 0, false, []) (.trans (.nilS 6 2 rfl) (Wk.cut ⟨_, rfl⟩ (Nat.zero_le _) rfl (by repeat' first | exact trivial | refine And.intro ?_ ?_ | rfl))) ⟨rfl, by omega, rfl, rfl⟩ (fun k s h => h.2.1) ?_
    · rename_i n0 hn0; rw [show n0 = 0 by omega]; rfl
    · rename_i n0 hn0; rw [show n0 = 0 by omega]; rfl
    all_goals clear hle hlt hi hk
    all_goals rintro k ⟨i, v, n, r, es⟩ Q' ⟨hi, hk, hn, hes⟩ norm ex rt
    all_goals simp only at hi hes hn
    all_goals have hle := sumLen_le l k
    all_goals by_cases hlt : k < l.length
    case pos | pos =>
      obtain ⟨x, hx⟩ : ∃ x, l[k]? = some x := ⟨_, List.getElem?_eq_getElem hlt⟩
      have hxa := elt_at llh hi hx
      have hst := sumLen_take hx
      have hle2 := sumLen_le l (k + 1)
      simp only [encSegs, segsD] at hxa
      generalize xlh : List.map encSeg x = xl at *
      have xln : Λ xl = x.length := by rw [Λo, ← xlh]; simp
      have xll : xl.length = x.length := by rw [← xlh]; simp
      conv => cbv
      repeat' first | (refine ex _ _ _ ?_; (conv => cbv)) | (refine rt _ _ ?_; (conv => cbv)) | (intro e he; cases Option.some.inj (he.symm.trans hxa); (conv => cbv)) | (intro (_ : Unit); refine ⟨rfl, ?_⟩; rw [xll]; omega) | (intro (_ : Unit); first | omega | rfl | exact ⟨rfl, by omega⟩ | (simp only [nI_eq]; omega) | ((repeat' first | rfl | omega | refine And.intro ?_ ?_ | (simp only [nI_eq]; omega) | exact Nat.le_of_ble_eq_true rfl); done)) | exact trivial | refine And.intro ?_ ?_ | (intro hc; exact absurd hc (by decide)) | (intro hc; exfalso; omega) | (intro hc; (first | rw [wrap_small (by omega) (by omega)] at hc | rw [nI_eq] at hc | skip); try (conv => cbv))
      rename_i m r' es' hm hr he' _
      refine norm _ _ (_, _, _, _, _) ?_ (Wk.cut ⟨_, rfl⟩ (Nat.zero_le _) rfl (by repeat' first | exact trivial | refine And.intro ?_ ?_ | rfl))
      refine ⟨by simp only; omega, by omega, by simp only; omega, ?_⟩
      simp only
      rw [hm, he', take_succ_get hx, List.drop_zero, xll, hes, ← xlh]
      have : n = (List.map encSeg (List.take k l).flatten).length := by rw [List.length_map, flat_len]; exact hn
      rw [List.take_of_length_le (by simp only [List.length_append, List.length_map] at this ⊢; omega)]
      simp
    all_goals
      conv => cbv
      repeat' first | (refine ex _ _ _ ?_; (conv => cbv)) | (refine rt _ _ ?_; (conv => cbv)) | (intro (_ : Unit); first | omega | rfl | exact ⟨rfl, by omega⟩ | (simp only [nI_eq]; omega) | ((repeat' first | rfl | omega | refine And.intro ?_ ?_ | (simp only [nI_eq]; omega) | exact Nat.le_of_ble_eq_true rfl); done)) | exact trivial | refine And.intro ?_ ?_ | (intro hc; exact absurd hc (by decide)) | (intro hc; exfalso; omega) | (intro hc; (first | rw [wrap_small (by omega) (by omega)] at hc | rw [nI_eq] at hc | skip); try (conv => cbv))
      rename_i ls
      have : ls = l.flatten.map encSeg := by rw [hc, List.drop_zero, hes, List.take_of_length_le (by omega)]
      subst this
      exact hK

end Go.Ab
