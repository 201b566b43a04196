/-
  Chapter 21, part d: the search for a policy.
-/
import Derived.Test.YtjaodmgeonfkiaaVc
namespace Go.Ab
open Go.Proofs

def isP (n b : Int) (p : Pol) : Bool := decide (p.node = n ∧ p.bind = b)

set_option maxHeartbeats 4000000 in
theorem pfind_ok (P : Program) (hP : P = Try.prog) (ps : List Pol) (n b : Int) (hs : ∀ p ∈ ps, p.list.length ≤ 1000000) : Ret P n_policy_Find [polsA ps, iA n, iA b] (foundA (ps.find? (isP n b))) := by
  have hcl := fun l h => cloneSegs_ok P hP l h
  refine ret_start (hP ▸ mixed) (hP ▸ fn_policy_Find) (hP ▸ c_policy_Find) (Nat.le_of_ble_eq_true rfl) fun Λ Λo K hK => ?_
  clear hP
  have yes : ∀ p, ps.find? (isP n b) = some p → K (.tup [polA p, bA true]) := fun p h => by rw [h] at hK; exact hK
  have no : ps.find? (isP n b) = none → K (.tup [polA ⟨0, 0, []⟩, bA false]) := fun h => by rw [h] at hK; exact hK
  clear hK
  simp only [polsA, polsD, polA, segsA, segsD, List.map_nil] at *
  generalize plh : List.map encPol ps = pl at *
  have pln : Λ pl = ps.length := by rw [Λo, ← plh]; simp
  conv => cbv
  repeat' first | (intro (_ : Unit); first | omega | rfl | exact ⟨rfl, by omega⟩ | (simp only [nI_eq]; omega) | ((repeat' first | rfl | omega | refine And.intro ?_ ?_ | (simp only [nI_eq]; omega) | exact Nat.le_of_ble_eq_true rfl); done)) | exact trivial | refine And.intro ?_ ?_ | (intro hc; exact absurd hc (by decide)) | (intro hc; exfalso; omega) | (intro hc; (first | rw [wrap_small (by omega) (by omega)] at hc | rw [nI_eq] at hc | skip); try (conv => cbv))
  refine loop_up ps.length (fun (i : Int) => [(1, iA n), (2, iA b), (6, .c (.ptr 0 0 0 0)), (10, .c (.d (.list false 3 pl))), (11, iA (Λ pl)), (12, iA i)]) (fun s => [.bx [.d (iD 0), .d (iD 0), .d (.list true 2 [])]])
    (fun k i => i = k ∧ k ≤ ps.length ∧ (∀ p ∈ ps.take k, isP n b p = false)) 0 (Wk.cut ⟨_, rfl⟩ (Nat.zero_le _) rfl (by repeat' first | exact trivial | refine And.intro ?_ ?_ | rfl)) ⟨rfl, by omega, by simp⟩ (fun k s h => h.2.1) ?_
  rintro k i Q' ⟨hi, hk, hok⟩ norm ex rt
  by_cases hlt : k < ps.length
  · obtain ⟨x, hx⟩ : ∃ x, ps[k]? = some x := ⟨_, List.getElem?_eq_getElem hlt⟩
    have hxa := elt_at plh hi hx
    have hyes := fun h => yes x (find_take hok hx h)
    have hcx := hcl x.list (hs x (List.mem_of_getElem? hx))
    have hnx : isP n b x = false → ∀ p ∈ ps.take (k + 1), isP n b p = false := fun h p hp => by
      rcases (mem_take_succ hx).1 hp with h' | h'
      · exact hok p h'
      · rw [h']; exact h
    obtain ⟨node, bind, list⟩ := x
    simp only [encPol, segsD] at hxa
    simp only [isP, decide_eq_true_eq, decide_eq_false_iff_not] at hyes hnx
    simp only at hcx
    generalize List.map encSeg list = sl at *
    conv => cbv
    repeat' first | (refine ex _ _ _ ?_; (conv => cbv)) | (refine rt _ _ ?_; (conv => cbv)) | (intro e he; cases Option.some.inj (he.symm.trans hxa); (conv => cbv)) | (refine call_r hcx rfl rfl ?_; conv => cbv) | (intro (_ : Unit); first | omega | rfl | exact ⟨rfl, by omega⟩ | (simp only [nI_eq]; omega) | ((repeat' first | rfl | omega | refine And.intro ?_ ?_ | (simp only [nI_eq]; omega) | exact Nat.le_of_ble_eq_true rfl); done)) | exact trivial | refine And.intro ?_ ?_ | (intro hc; exact absurd hc (by decide)) | (intro hc; exfalso; omega) | (intro hc; (first | rw [wrap_small (by omega) (by omega)] at hc | rw [nI_eq] at hc | skip); try (conv => cbv))
    all_goals first
      | exact hyes ⟨by assumption, by assumption⟩
      | (refine norm _ _ _ ?_ (Wk.cut ⟨_, rfl⟩ (Nat.zero_le _) rfl (by repeat' first | exact trivial | refine And.intro ?_ ?_ | rfl)); refine ⟨by omega, by omega, fun p hp => ?_⟩; simp only [isP, decide_eq_false_iff_not]; exact hnx (by omega) p hp)
      | trace_state
  · conv => cbv
    repeat' first | (refine ex _ _ _ ?_; (conv => cbv)) | (refine rt _ _ ?_; (conv => cbv)) | (intro (_ : Unit); first | omega | rfl | exact ⟨rfl, by omega⟩ | (simp only [nI_eq]; omega) | ((repeat' first | rfl | omega | refine And.intro ?_ ?_ | (simp only [nI_eq]; omega) | exact Nat.le_of_ble_eq_true rfl); done)) | exact trivial | refine And.intro ?_ ?_ | (intro hc; exact absurd hc (by decide)) | (intro hc; exfalso; omega) | (intro hc; (first | rw [wrap_small (by omega) (by omega)] at hc | rw [nI_eq] at hc | skip); try (conv => cbv))
    refine no (List.find?_eq_none.2 fun p hp => ?_)
    rw [hok p (by rw [List.take_of_length_le (by omega)]; exact hp)]; decide

theorem rindex_ok (P : Program) (hP : P = Try.prog) (ps : List Pol) (n b : Int) : Ret P n_ref21_index [polsA ps, iA n, iA b] (iA (match ps.findIdx? (isP n b) with | some i => (i : Int) | none => -1)) := by
  refine ret_start (hP ▸ mixed) (hP ▸ fn_ref21_index) (hP ▸ c_ref21_index) (Nat.le_of_ble_eq_true rfl) fun Λ Λo K hK => ?_
  clear hP
  have yes : ∀ i : Nat, ps.findIdx? (isP n b) = some i → K (iA i) := fun p h => by rw [h] at hK; exact hK
  have no : ps.findIdx? (isP n b) = none → K (iA (-1)) := fun h => by rw [h] at hK; exact hK
  clear hK
  simp only [polsA, polsD] at *
  generalize plh : List.map encPol ps = pl at *
  have pln : Λ pl = ps.length := by rw [Λo, ← plh]; simp
  conv => cbv
  repeat' first | (intro (_ : Unit); first | omega | rfl | exact ⟨rfl, by omega⟩ | (simp only [nI_eq]; omega) | ((repeat' first | rfl | omega | refine And.intro ?_ ?_ | (simp only [nI_eq]; omega) | exact Nat.le_of_ble_eq_true rfl); done)) | exact trivial | refine And.intro ?_ ?_ | (intro hc; exact absurd hc (by decide)) | (intro hc; exfalso; omega) | (intro hc; (first | rw [wrap_small (by omega) (by omega)] at hc | rw [nI_eq] at hc | skip); try (conv => cbv))
  refine loop_up ps.length (fun (i : Int) => [(0, .c (.d (.list false 3 pl))), (1, iA n), (2, iA b), (7, iA i)]) (fun s => [])
    (fun k i => i = k ∧ k ≤ ps.length ∧ (∀ p ∈ ps.take k, isP n b p = false)) 0 (Wk.cut ⟨_, rfl⟩ (Nat.zero_le _) rfl (by repeat' first | exact trivial | refine And.intro ?_ ?_ | rfl)) ⟨rfl, by omega, by simp⟩ (fun k s h => h.2.1) ?_
  rintro k i Q' ⟨hi, hk, hok⟩ norm ex rt
  by_cases hlt : k < ps.length
  · obtain ⟨x, hx⟩ : ∃ x, ps[k]? = some x := ⟨_, List.getElem?_eq_getElem hlt⟩
    have hxa := elt_at plh hi hx
    have hyes : isP n b x = true → K (iA k) := fun h => yes k (by
      rw [List.findIdx?_eq_some_iff_getElem]
      have hxe : ps[k] = x := by rw [List.getElem?_eq_getElem hlt] at hx; exact Option.some.inj hx
      refine ⟨hlt, by rw [hxe]; exact h, fun j hj => ?_⟩
      rw [hok _ (List.mem_of_getElem? (i := j) (by rw [List.getElem?_take, if_pos hj, List.getElem?_eq_getElem (by omega)]))]; decide)
    have hnx : isP n b x = false → ∀ p ∈ ps.take (k + 1), isP n b p = false := fun h p hp => by
      rcases (mem_take_succ hx).1 hp with h' | h'
      · exact hok p h'
      · rw [h']; exact h
    obtain ⟨node, bind, list⟩ := x
    simp only [encPol, segsD] at hxa
    simp only [isP, decide_eq_true_eq, decide_eq_false_iff_not] at hyes hnx
    generalize List.map encSeg list = sl at *
    conv => cbv
    repeat' first | (refine ex _ _ _ ?_; (conv => cbv)) | (refine rt _ _ ?_; (conv => cbv)) | (intro e he; cases Option.some.inj (he.symm.trans hxa); (conv => cbv)) | (intro (_ : Unit); first | omega | rfl | exact ⟨rfl, by omega⟩ | (simp only [nI_eq]; omega) | ((repeat' first | rfl | omega | refine And.intro ?_ ?_ | (simp only [nI_eq]; omega) | exact Nat.le_of_ble_eq_true rfl); done)) | exact trivial | refine And.intro ?_ ?_ | (intro hc; exact absurd hc (by decide)) | (intro hc; exfalso; omega) | (intro hc; (first | rw [wrap_small (by omega) (by omega)] at hc | rw [nI_eq] at hc | skip); try (conv => cbv))
    all_goals first
      | (rw [hi]; exact hyes ⟨by assumption, by assumption⟩)
      | (refine norm _ _ _ ?_ (Wk.cut ⟨_, rfl⟩ (Nat.zero_le _) rfl (by repeat' first | exact trivial | refine And.intro ?_ ?_ | rfl)); refine ⟨by omega, by omega, fun p hp => ?_⟩; simp only [isP, decide_eq_false_iff_not]; exact hnx (by omega) p hp)
      | trace_state
  · conv => cbv
    repeat' first | (refine ex _ _ _ ?_; (conv => cbv)) | (refine rt _ _ ?_; (conv => cbv)) | (intro (_ : Unit); first | omega | rfl | exact ⟨rfl, by omega⟩ | (simp only [nI_eq]; omega) | ((repeat' first | rfl | omega | refine And.intro ?_ ?_ | (simp only [nI_eq]; omega) | exact Nat.le_of_ble_eq_true rfl); done)) | exact trivial | refine And.intro ?_ ?_ | (intro hc; exact absurd hc (by decide)) | (intro hc; exfalso; omega) | (intro hc; (first | rw [wrap_small (by omega) (by omega)] at hc | rw [nI_eq] at hc | skip); try (conv => cbv))
    refine no (List.findIdx?_eq_none_iff.2 fun p hp => ?_)
    exact hok p (by rw [List.take_of_length_le (by omega)]; exact hp)

theorem find_idx {ps : List Pol} {f : Pol → Bool} : (∀ i, ps.findIdx? f = some i → ∃ p, ps[i]? = some p ∧ ps.find? f = some p) ∧ (ps.findIdx? f = none → ps.find? f = none) := by
  refine ⟨fun i hi => ?_, fun h => ?_⟩
  · rw [List.findIdx?_eq_some_iff_getElem] at hi
    obtain ⟨h1, h2, h3⟩ := hi
    refine ⟨ps[i], List.getElem?_eq_getElem h1, find_take (k := i) (fun p hp => ?_) (List.getElem?_eq_getElem h1) h2⟩
    obtain ⟨j, hj⟩ := List.getElem?_of_mem hp
    rw [List.getElem?_take] at hj
    split at hj
    · rename_i hji
      have := h3 j hji
      rw [List.getElem?_eq_getElem (by omega)] at hj
      rw [← Option.some.inj hj]; simpa using this
    · cases hj
  · rw [List.findIdx?_eq_none_iff] at h
    exact List.find?_eq_none.2 fun p hp => by rw [h p hp]; decide

theorem rfind_ok (P : Program) (hP : P = Try.prog) (ps : List Pol) (n b : Int) : Ret P n_ref21_Find [polsA ps, iA n, iA b] (foundA (ps.find? (isP n b))) := by
  have hix := rindex_ok P hP ps n b
  refine ret_start (hP ▸ mixed) (hP ▸ fn_ref21_Find) (hP ▸ c_ref21_Find) (Nat.le_of_ble_eq_true rfl) fun Λ Λo K hK => ?_
  clear hP
  have yes : ∀ p, ps.find? (isP n b) = some p → K (.tup [polA p, bA true]) := fun p h => by rw [h] at hK; exact hK
  have no : ps.find? (isP n b) = none → K (.tup [polA ⟨0, 0, []⟩, bA false]) := fun h => by rw [h] at hK; exact hK
  clear hK
  obtain ⟨hf1, hf2⟩ := @find_idx ps (isP n b)
  cases hi : ps.findIdx? (isP n b) with
  | none =>
    rw [hi] at hix
    have no := no (hf2 hi)
    simp only [polsA, polsD, polA, segsD, List.map_nil] at *
    generalize plh : List.map encPol ps = pl at *
    conv => cbv
    repeat' first | refine call_i hix rfl rfl ?_ | (intro (_ : Unit); first | omega | rfl | exact ⟨rfl, by omega⟩ | (simp only [nI_eq]; omega) | ((repeat' first | rfl | omega | refine And.intro ?_ ?_ | (simp only [nI_eq]; omega) | exact Nat.le_of_ble_eq_true rfl); done)) | exact trivial | refine And.intro ?_ ?_ | (intro hc; exact absurd hc (by decide)) | (intro hc; exfalso; omega) | (intro hc; (first | rw [wrap_small (by omega) (by omega)] at hc | rw [nI_eq] at hc | skip); try (conv => cbv))
    all_goals first | exact no | (exfalso; omega)
  | some i =>
    obtain ⟨x, hx, hfx⟩ := hf1 i hi
    rw [hi] at hix
    have yes := yes x hfx
    have hlt := get_lt hx
    simp only [polsA, polsD, polA, segsD] at *
    generalize plh : List.map encPol ps = pl at *
    have pln : Λ pl = ps.length := by rw [Λo, ← plh]; simp
    have hxa : ∀ c : Int, c = i → pl[c.toNat]? = some (encPol x) := fun c hc => elt_at plh hc hx
    obtain ⟨node, bind, list⟩ := x
    simp only [encPol, segsD] at hxa
    simp only at yes
    generalize List.map encSeg list = sl at *
    conv => cbv
    repeat' first | refine call_i hix rfl rfl ?_ | (intro e he; cases Option.some.inj (he.symm.trans (hxa _ (by assumption))); (conv => cbv)) | (intro (_ : Unit); first | omega | rfl | exact ⟨rfl, by omega⟩ | (simp only [nI_eq]; omega) | ((repeat' first | rfl | omega | refine And.intro ?_ ?_ | (simp only [nI_eq]; omega) | exact Nat.le_of_ble_eq_true rfl); done)) | exact trivial | refine And.intro ?_ ?_ | (intro hc; exact absurd hc (by decide)) | (intro hc; exfalso; omega) | (intro hc; (first | rw [wrap_small (by omega) (by omega)] at hc | rw [nI_eq] at hc | skip); try (conv => cbv))
    all_goals first | exact yes | (exfalso; omega) | trace_state

theorem samePol_ok (P : Program) (hP : P = Try.prog) (p : Pol) : Ret P n_ref21_SamePolicy [polA p, polA p] (bA true) := by
  have hss := sameSegs_ok P hP p.list p.list
  simp only [decide_true] at hss
  refine ret_start (hP ▸ mixed) (hP ▸ fn_ref21_SamePolicy) (hP ▸ c_ref21_SamePolicy) (Nat.le_of_ble_eq_true rfl) fun Λ Λo K hK => ?_
  clear hP
  obtain ⟨node, bind, list⟩ := p
  simp only [segsA, segsD, polA] at *
  generalize slh : List.map encSeg list = sl at *
  conv => cbv
  repeat' first | refine call_b hss rfl rfl ?_ ?_ | (intro (_ : Unit); first | omega | rfl | exact ⟨rfl, by omega⟩ | (simp only [nI_eq]; omega) | ((repeat' first | rfl | omega | refine And.intro ?_ ?_ | (simp only [nI_eq]; omega) | exact Nat.le_of_ble_eq_true rfl); done)) | exact trivial | refine And.intro ?_ ?_ | (intro hc; exact absurd hc (by decide)) | (intro hc; exfalso; omega) | (intro hc; (first | rw [wrap_small (by omega) (by omega)] at hc | rw [nI_eq] at hc | skip); try (conv => cbv))
  all_goals first | exact hK | (exfalso; omega)

end Go.Ab
