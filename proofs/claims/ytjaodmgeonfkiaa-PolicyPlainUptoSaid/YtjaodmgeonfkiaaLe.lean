/-
  Contracts, part e: tables.
-/
import Derived.Test.YtjaodmgeonfkiaaLd
namespace Go.Ab
open Go.Proofs

/-- an arc of a list that begins at a node, and comes behind the one ahead of it -/
def outAt (t : Top) (n : Int) (l : List Int) (i : Nat) : Bool := decide (tailT t (l.getD i 0) = n) && (decide (i = 0) || decide (l.getD (i - 1) 0 < l.getD i 0))
def outB (t : Top) (n : Int) (l : List Int) : Bool := (List.range l.length).all (outAt t n l)

theorem outB_spec {t : Top} {n : Int} {l : List Int} : outB t n l = true ↔ ∀ i, i < l.length → outAt t n l i = true := by
  simp [outB, List.all_eq_true]

theorem getD_at {α : Type} {l : List α} {i : Nat} {x d : α} (h : l[i]? = some x) : l.getD i d = x := by
  simp [List.getD, h]

theorem outAt_yes {t : Top} {n : Int} {l : List Int} {i : Nat} {x : Int} (hx : l[i]? = some x) (h1 : tailT t x = n) (h2 : i = 0 ∨ ∃ y, l[i - 1]? = some y ∧ y < x) : outAt t n l i = true := by
  simp only [outAt, getD_at hx, h1, decide_true, Bool.true_and, Bool.or_eq_true, decide_eq_true_eq]
  rcases h2 with h2 | ⟨y, hy, h2⟩
  · exact .inl h2
  · exact .inr (by rw [getD_at hy]; exact h2)

theorem outAt_no {t : Top} {n : Int} {l : List Int} {i : Nat} {x : Int} (hx : l[i]? = some x) (h : tailT t x ≠ n ∨ (i ≠ 0 ∧ ∃ y, l[i - 1]? = some y ∧ x ≤ y)) : ¬ outAt t n l i = true := by
  simp only [outAt, getD_at hx, Bool.and_eq_true, Bool.or_eq_true, decide_eq_true_eq]
  rintro ⟨h1, h2⟩
  rcases h with h | ⟨h0, y, hy, h⟩
  · exact h h1
  · rcases h2 with h2 | h2
    · exact h0 h2
    · rw [getD_at hy] at h2; omega

theorem tailT_valid {t : Top} {a : Int} (hv : validT t = true) (h0 : 0 ≤ a) (h1 : a < 2 * t.links.length) : tailT t a = tailG t a := by
  rw [tailT, arcsT, if_pos hv, if_pos ⟨h0, h1⟩]; rfl
theorem tailT_none {t : Top} {a : Int} (hv : validT t = true) (h : ¬ (0 ≤ a ∧ a < 2 * t.links.length)) : tailT t a = -1 := by
  rw [tailT, arcsT, if_pos hv, if_neg h]
end Go.Ab
