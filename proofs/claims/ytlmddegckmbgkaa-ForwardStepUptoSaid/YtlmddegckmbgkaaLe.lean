/-
  Contracts, part e: tables.
-/
import Derived.Test.YtlmddegckmbgkaaLd
namespace Go.Ab
open Go.Proofs

/-- an arc of a list that begins at a node, and comes behind the one ahead of it -/
def outAt (t : Top) (n : Int) (l : List Int) (i : Nat) : Bool := decide (tailT t (l.getD i 0) = n) && (decide (i = 0) || decide (l.getD (i - 1) 0 < l.getD i 0))
def outB (t : Top) (n : Int) (l : List Int) : Bool := (List.range l.length).all (outAt t n l)

theorem outB_spec {t : Top} {n : Int} {l : List Int} : outB t n l = true ↔ ∀ i, i < l.length → outAt t n l i = true := by
  simp [outB, List.all_eq_true]

theorem getD_at {α : Type} {l : List α} {i : Nat} {x d : α} (h : l[i]? = some x) : l.getD i d = x := by
  simp [List.getD, h]

theorem outAt_yes {t : Top} {n : Int} {l : List Int} {i : Nat} {x : Int} (hx : l[i]? = some x) (h1 : tailT t x = n) (h2 : i = 0 ∨ ∃ y, l[i - 1]? = some y ∧ y < x) : outAt t n l i = true := by
  simp only [outAt, getD_at hx, h1, decide_true, Bool.true_and, Bool.or_eq_true, decide_eq_true_eq]
  rcases h2 with h2 | ⟨y, hy, h2⟩
  · exact .inl h2
  · exact .inr (by rw [getD_at hy]; exact h2)

theorem outAt_no {t : Top} {n : Int} {l : List Int} {i : Nat} {x : Int} (hx : l[i]? = some x) (h : tailT t x ≠ n ∨ (i ≠ 0 ∧ ∃ y, l[i - 1]? = some y ∧ x ≤ y)) : ¬ outAt t n l i = true := by
  simp only [outAt, getD_at hx, Bool.and_eq_true, Bool.or_eq_true, decide_eq_true_eq]
  rintro ⟨h1, h2⟩
  rcases h with h | ⟨h0, y, hy, h⟩
  · exact h h1
  · rcases h2 with h2 | h2
    · exact h0 h2
    · rw [getD_at hy] at h2; omega

theorem tailT_valid {t : Top} {a : Int} (hv : validT t = true) (h0 : 0 ≤ a) (h1 : a < 2 * t.links.length) : tailT t a = tailG t a := by
  rw [tailT, arcsT, if_pos hv, if_pos ⟨h0, h1⟩]; rfl
theorem tailT_none {t : Top} {a : Int} (hv : validT t = true) (h : ¬ (0 ≤ a ∧ a < 2 * t.links.length)) : tailT t a = -1 := by
  rw [tailT, arcsT, if_pos hv, if_neg h]

theorem outgoing_ok (P : Program) (hP : P = Try.prog) (t : Top) (n : Int) (l : List Int) : Ret P n_ref22_outgoing [topA t, iA n, intsA l] (bA (outB t n l)) := by
  refine ret_start (hP ▸ mixed) (hP ▸ fn_ref22_outgoing) (hP ▸ c_ref22_outgoing) (Nat.le_of_ble_eq_true rfl) fun Λ Λo K hK => ?_
  have ht := tail_ok P hP t
  clear hP
  have yes : (∀ i, i < l.length → outAt t n l i = true) → K (bA true) := fun h => by rw [outB_spec.2 h] at hK; exact hK
  have no : ∀ i, i < l.length → ¬ outAt t n l i = true → K (bA false) := fun i hi h => by
    rw [show outB t n l = false from Bool.eq_false_iff.2 fun h' => h (outB_spec.1 h' i hi)] at hK; exact hK
  have ya := fun i x => @outAt_yes t n l i x
  have na := fun i x => @outAt_no t n l i x
  generalize outAt t n l = oa at *
  generalize tailT t = f at *
  clear hK
  simp only [intsA, intsD] at *
  generalize alh : List.map encI l = al at *
  have aln : Λ al = l.length := by rw [Λo, ← alh]; simp
  obtain ⟨nodes, ov, links⟩ := t
  simp only [topA, boolsD, linksD] at *
  generalize hol : ov.map encB = ol at *
  generalize hll : links.map encLk = ll at *
  have hlo : Λ ol = ov.length := by rw [Λo, ← hol]; simp
  have hls : Λ ll = links.length := by rw [Λo, ← hll]; simp
  conv => cbv
  refine loop_up l.length (fun (i : Int) => [(1, iA n), (2, .c (.d (.list false 1 al))), (3, .c (.ptr 0 0 0 0)), (7, iA i)]) (fun _ => [.bx [.d (.int .i64 nodes), .d (.list false 1 ol), .d (.list false 7 ll)]]) (fun k i => i = k ∧ k ≤ l.length ∧ ∀ j, j < k → oa j = true) 0 (Wk.cut ⟨_, rfl⟩ (Nat.zero_le _) rfl (by repeat' first | exact trivial | refine And.intro ?_ ?_ | rfl)) ⟨rfl, by omega, by simp⟩ (fun k s h => h.2.1) ?_
  rintro k i Q' ⟨hi, hk, hok⟩ norm ex rt
  by_cases hlt : k < l.length
  · obtain ⟨x, hx⟩ : ∃ x, l[k]? = some x := ⟨_, List.getElem?_eq_getElem hlt⟩
    have hxa := elt_at alh hi hx
    conv => cbv
    repeat' first | (refine ex _ _ _ ?_; (conv => cbv)) | (refine rt _ _ ?_; (conv => cbv)) | refine call_i (ht _) rfl rfl ?_ | (intro e he; cases Option.some.inj (he.symm.trans hxa); (conv => cbv)) | (intro e he; obtain ⟨y, hy, rfl⟩ := map_get' alh he; (conv => cbv)) | (intro (_ : Unit); first | omega | rfl | exact ⟨rfl, by omega⟩ | (simp only [nI_eq]; omega) | ((repeat' first | rfl | omega | refine And.intro ?_ ?_ | (simp only [nI_eq]; omega) | exact Nat.le_of_ble_eq_true rfl); done)) | exact trivial | refine And.intro ?_ ?_ | (intro hc; exact absurd hc (by decide)) | (intro hc; exfalso; omega) | (intro hc; (first | rw [wrap_small (by omega) (by omega)] at hc | rw [nI_eq] at hc | skip); try (conv => cbv))
    · exact no k hlt (na k x hx (.inl (by omega)))
    · exact no k hlt (na k x hx (.inr ⟨by omega, _, get_at hy (by omega), by omega⟩))
    all_goals
      refine norm _ _ _ ?_ (Wk.cut ⟨_, rfl⟩ (Nat.zero_le _) rfl (by repeat' first | exact trivial | refine And.intro ?_ ?_ | rfl))
      refine ⟨by omega, by omega, fun j hj => ?_⟩
      rcases Nat.lt_or_ge j k with h | h
      · exact hok j h
      · obtain rfl : j = k := by omega
        first | exact ya j x hx (by omega) (.inr ⟨_, get_at hy (by omega), by omega⟩) | exact ya j x hx (by omega) (.inl (by omega))
  · conv => cbv
    repeat' first | (refine ex _ _ _ ?_; (conv => cbv)) | (refine rt _ _ ?_; (conv => cbv)) | (intro (_ : Unit); first | omega | rfl | exact ⟨rfl, by omega⟩ | (simp only [nI_eq]; omega) | ((repeat' first | rfl | omega | refine And.intro ?_ ?_ | (simp only [nI_eq]; omega) | exact Nat.le_of_ble_eq_true rfl); done)) | exact trivial | refine And.intro ?_ ?_ | (intro hc; exact absurd hc (by decide)) | (intro hc; exfalso; omega) | (intro hc; (first | rw [wrap_small (by omega) (by omega)] at hc | rw [nI_eq] at hc | skip); try (conv => cbv))
    exact yes fun j hj => hok j (by omega)

theorem leaving_ok (P : Program) (hP : P = Try.prog) (t : Top) (n : Int) (l : List Int) (hv : validT t = true) (hn0 : 0 ≤ n) : Ret P n_table_leaving [topA t, iA n, intsA l] (bA (outB t n l)) := by
  refine ret_start (hP ▸ mixed) (hP ▸ fn_table_leaving) (hP ▸ c_table_leaving) (Nat.le_of_ble_eq_true rfl) fun Λ Λo K hK => ?_
  have h256 := (validT_spec.1 hv).2.2.1
  have har := fun a => garc_ok P hP t a h256
  have ht := fun a h0 h1 => gtail_ok P hP t a h0 h1 h256
  clear hP
  have yes : (∀ i, i < l.length → outAt t n l i = true) → K (bA true) := fun h => by rw [outB_spec.2 h] at hK; exact hK
  have no : ∀ i, i < l.length → ¬ outAt t n l i = true → K (bA false) := fun i hi h => by
    rw [show outB t n l = false from Bool.eq_false_iff.2 fun h' => h (outB_spec.1 h' i hi)] at hK; exact hK
  have ya := fun i x => @outAt_yes t n l i x
  have na := fun i x => @outAt_no t n l i x
  have tv := fun a => @tailT_valid t a hv
  have tn := fun a => @tailT_none t a hv
  generalize outAt t n l = oa at *
  generalize tailT t = f at *
  generalize tailG t = g at *
  clear hK hv
  simp only [intsA, intsD] at *
  generalize alh : List.map encI l = al at *
  have aln : Λ al = l.length := by rw [Λo, ← alh]; simp
  obtain ⟨nodes, ov, links⟩ := t
  simp only [topA, boolsD, linksD] at *
  generalize hol : ov.map encB = ol at *
  generalize hll : links.map encLk = ll at *
  have hlo : Λ ol = ov.length := by rw [Λo, ← hol]; simp
  have hls : Λ ll = links.length := by rw [Λo, ← hll]; simp
  conv => cbv
  intro hmax
  conv => cbv
  refine loop_up l.length (fun (i : Int) => [(1, iA n), (2, .c (.d (.list false 1 al))), (3, .c (.ptr 0 0 0 0)), (9, .c (.d (.list false 1 al))), (10, iA (Λ al)), (11, iA i)]) (fun _ => [.bx [.d (.int .i64 nodes), .d (.list false 1 ol), .d (.list false 7 ll)]]) (fun k i => i = k ∧ k ≤ l.length ∧ ∀ j, j < k → oa j = true) 0 (Wk.cut ⟨_, rfl⟩ (Nat.zero_le _) rfl (by repeat' first | exact trivial | refine And.intro ?_ ?_ | rfl)) ⟨rfl, by omega, by simp⟩ (fun k s h => h.2.1) ?_
  rintro k i Q' ⟨hi, hk, hok⟩ norm ex rt
  by_cases hlt : k < l.length
  · obtain ⟨x, hx⟩ : ∃ x, l[k]? = some x := ⟨_, List.getElem?_eq_getElem hlt⟩
    have hxa := elt_at alh hi hx
    conv => cbv
    repeat' first | (refine ex _ _ _ ?_; (conv => cbv)) | (refine rt _ _ ?_; (conv => cbv)) | refine call_b (har _) rfl rfl ?_ ?_ | (refine call_i (ht _ (by simp only [decide_eq_true_eq] at *; omega) (by simp only [decide_eq_true_eq] at *; omega)) rfl rfl ?_) | (intro e he; cases Option.some.inj (he.symm.trans hxa); (conv => cbv)) | (intro e he; obtain ⟨y, hy, rfl⟩ := map_get' alh he; (conv => cbv)) | (intro (_ : Unit); first | omega | rfl | exact ⟨rfl, by omega⟩ | (simp only [nI_eq]; omega) | ((repeat' first | rfl | omega | refine And.intro ?_ ?_ | (simp only [nI_eq]; omega) | exact Nat.le_of_ble_eq_true rfl); done)) | exact trivial | refine And.intro ?_ ?_ | (intro hc; exact absurd hc (by decide)) | (intro hc; exfalso; omega) | (intro hc; (first | rw [wrap_small (by omega) (by omega)] at hc | rw [nI_eq] at hc | skip); try (conv => cbv))
    all_goals simp only [decide_eq_true_eq, decide_eq_false_iff_not] at *
    all_goals first
      | (refine no k hlt (na k x hx (.inl ?_)); rw [tn x (by omega)]; omega)
      | (refine no k hlt (na k x hx (.inl ?_)); rw [tv x (by omega) (by omega)]; omega)
      | (refine no k hlt (na k x hx (.inr ⟨?_, y, get_at hy ?_, ?_⟩)) <;> omega)
      | skip
    all_goals
      refine norm _ _ _ ?_ (Wk.cut ⟨_, rfl⟩ (Nat.zero_le _) rfl (by repeat' first | exact trivial | refine And.intro ?_ ?_ | rfl))
      refine ⟨by omega, by omega, fun j hj => ?_⟩
      rcases Nat.lt_or_ge j k with h | h
      · exact hok j h
      · obtain rfl : j = k := by omega
        first
          | (refine ya j x hx ?_ (.inr ⟨y, get_at hy ?_, ?_⟩); (rw [tv x (by omega) (by omega)]; omega); all_goals omega)
          | (refine ya j x hx ?_ (.inl ?_); (rw [tv x (by omega) (by omega)]; omega); all_goals omega)
  · conv => cbv
    repeat' first | (refine ex _ _ _ ?_; (conv => cbv)) | (refine rt _ _ ?_; (conv => cbv)) | (intro (_ : Unit); first | omega | rfl | exact ⟨rfl, by omega⟩ | (simp only [nI_eq]; omega) | ((repeat' first | rfl | omega | refine And.intro ?_ ?_ | (simp only [nI_eq]; omega) | exact Nat.le_of_ble_eq_true rfl); done)) | exact trivial | refine And.intro ?_ ?_ | (intro hc; exact absurd hc (by decide)) | (intro hc; exfalso; omega) | (intro hc; (first | rw [wrap_small (by omega) (by omega)] at hc | rw [nI_eq] at hc | skip); try (conv => cbv))
    exact yes fun j hj => hok j (by omega)
end Go.Ab
