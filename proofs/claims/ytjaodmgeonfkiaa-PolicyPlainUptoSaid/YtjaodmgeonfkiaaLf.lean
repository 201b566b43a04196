/-
  Contracts, part f: entries and tables.
-/
import Derived.Test.YtjaodmgeonfkiaaLe
namespace Go.Ab
open Go.Proofs

def entB (t : Top) (n d : Int) (e : Ety) : Bool :=
  outB t n e.arcs && !(decide (d = n) && decide (0 < e.arcs.length)) && (if e.rep then decide (e.arcs.length = 1 ∧ e.push.length ≤ 32) else decide (e.push.length = 0)) && e.push.all (segB t)

theorem entB_spec {t : Top} {n d : Int} {e : Ety} : entB t n d e = true ↔
    outB t n e.arcs = true ∧ ¬ (d = n ∧ 0 < e.arcs.length) ∧ (e.rep = true → e.arcs.length = 1 ∧ e.push.length ≤ 32) ∧ (e.rep = false → e.push.length = 0) ∧ ∀ s ∈ e.push, segB t s = true := by
  cases h : e.rep <;> simp only [entB, h, Bool.and_eq_true, List.all_eq_true, and_assoc, Bool.not_eq_true', Bool.and_eq_false_iff, decide_eq_false_iff_not, decide_eq_true_eq, if_true, if_false, Bool.false_eq_true, false_implies, true_and, forall_const, Classical.not_and_iff_not_or_not, reduceCtorEq]

def tabB (t : Top) (x : Tab) : Bool :=
  validT t && decide (0 ≤ x.node ∧ x.node < t.nodes) && decide ((x.to.length : Int) = t.nodes) && outB t x.node x.down && (List.range x.to.length).all fun d => entB t x.node d (x.to.getD d default)

theorem tabB_spec {t : Top} {x : Tab} : tabB t x = true ↔ validT t = true ∧ (0 ≤ x.node ∧ x.node < t.nodes) ∧ (x.to.length : Int) = t.nodes ∧ outB t x.node x.down = true ∧ ∀ (i : Nat) (e : Ety), x.to[i]? = some e → entB t x.node i e = true := by
  simp only [tabB, Bool.and_eq_true, decide_eq_true_eq, List.all_eq_true, List.mem_range, and_assoc]
  constructor
  · rintro ⟨h1, h2, h3, h4, h5, h6⟩
    refine ⟨h1, h2, h3, h4, h5, fun i e he => ?_⟩
    have := h6 i (get_lt he)
    rw [getD_at he] at this
    exact this
  · rintro ⟨h1, h2, h3, h4, h5, h6⟩
    exact ⟨h1, h2, h3, h4, h5, fun i hi => h6 i _ (by simp [List.getD, List.getElem?_eq_getElem hi])⟩
end Go.Ab
