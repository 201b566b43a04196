/-
  Shortest paths, part f: distances of a given topology by checking; a ring of four nodes.
-/
import Derived.Test.YtlmddegckmbgkaaMe
namespace Go.Ab
open Go.Proofs

def isDistB (t : Top) (down : List Bool) (e : Int) (fr : Bool) (D : List Int) : Bool :=
  decide ((D.length : Int) = t.nodes) && decide (gt D e = 0) && ((List.range D.length).all fun i => decide (-1 ≤ gt D (i : Nat))) &&
  ((List.range (2 * t.links.length)).all fun a => !(okArc t down e fr (a : Nat) && decide (0 ≤ gt D (yOf t fr (a : Nat)))) || (decide (0 ≤ gt D (xOf t fr (a : Nat))) && decide (gt D (xOf t fr (a : Nat)) ≤ gt D (yOf t fr (a : Nat)) + costT t (a : Nat)))) &&
  ((List.range D.length).all fun x => decide ((x : Int) = e) || decide (gt D (x : Nat) < 0) || (List.range (2 * t.links.length)).any fun a => okArc t down e fr (a : Nat) && decide (xOf t fr (a : Nat) = (x : Nat)) && decide (0 ≤ gt D (yOf t fr (a : Nat))) && decide (gt D (x : Nat) = gt D (yOf t fr (a : Nat)) + costT t (a : Nat)))

theorem isDistB_ok {t : Top} {down : List Bool} {e : Int} {fr : Bool} {D : List Int} (h : isDistB t down e fr D = true) : IsDist t down e fr D := by
  simp only [isDistB, Bool.and_eq_true, decide_eq_true_eq, List.all_eq_true, List.mem_range, Bool.or_eq_true, Bool.not_eq_true', List.any_eq_true] at h
  obtain ⟨⟨⟨⟨h1, h2⟩, h3⟩, h4⟩, h5⟩ := h
  refine ⟨h1, h2, fun i i0 i1 => ?_, fun a a0 a1 => ?_, fun x x0 x1 hx hd => ?_⟩
  · have := h3 i.toNat (by omega)
    rw [show ((i.toNat : Nat) : Int) = i by omega] at this; exact this
  · have := h4 a.toNat (by omega)
    rw [show ((a.toNat : Nat) : Int) = a by omega] at this
    intro ho hy
    rcases this with h | h
    · rw [ho, decide_eq_true hy] at h; cases h
    · exact h
  · have := h5 x.toNat (by omega)
    rw [show ((x.toNat : Nat) : Int) = x by omega] at this
    rcases this with (h | h) | ⟨a, ha, ⟨⟨q1, q2⟩, q3⟩, q4⟩
    · exact absurd h hx
    · omega
    · exact ⟨a, by omega, by omega, q1, q2, q3, q4⟩

def ringT : Top := ⟨4, [], [⟨0, 1, 1, 1, 0, 1, 0⟩, ⟨1, 2, 1, 1, 0, 1, 0⟩, ⟨2, 3, 1, 1, 0, 1, 0⟩, ⟨3, 0, 1, 1, 0, 1, 0⟩]⟩
def ringX : Tab := ⟨0, [⟨[], false, []⟩, ⟨[0], false, []⟩, ⟨[0, 7], false, []⟩, ⟨[7], false, []⟩], []⟩

theorem ring_valid : validT ringT = true := by decide
theorem ring_d0 : distS ringT [] 0 false = [0, 1, 2, 1] := distS_eq ring_valid (isDistB_ok (by decide))
theorem ring_d1 : distS ringT [] 1 false = [1, 0, 1, 2] := distS_eq ring_valid (isDistB_ok (by decide))
theorem ring_d2 : distS ringT [] 2 false = [2, 1, 0, 1] := distS_eq ring_valid (isDistB_ok (by decide))
theorem ring_d3 : distS ringT [] 3 false = [1, 2, 1, 0] := distS_eq ring_valid (isDistB_ok (by decide))
theorem ring_next {d : Int} {D l : List Int} (hd : distS ringT [] d false = D) (h0 : 0 ≤ d ∧ d < ringT.nodes) (h : nextL ringT [] D 0 d = l) : nextS ringT [] 0 d = (l, 0) := by
  rw [nextS, if_pos (by decide), if_pos h0, if_pos (by decide), hd, h]
theorem ring_routes : routesS ringT [] 0 = (ringX, 0) := by
  have n0 := ring_next ring_d0 (by decide) (l := []) (by decide)
  have n1 := ring_next ring_d1 (by decide) (l := [0]) (by decide)
  have n2 := ring_next ring_d2 (by decide) (l := [0, 7]) (by decide)
  have n3 := ring_next ring_d3 (by decide) (l := [7]) (by decide)
  rw [routesS, if_pos (by decide), if_pos (by decide)]
  have e1 : toL ringT [] 0 ringT.nodes.toNat = ringX.to := by
    show (arcsTo 4).map _ = _
    rw [show arcsTo 4 = [0, 1, 2, 3] by decide]
    simp only [List.map_cons, List.map_nil, n0, n1, n2, n3]
    rfl
  have e2 : downL ringT [] 0 = [] := by decide
  rw [e1, e2]
  rfl

theorem ring_run (P : Program) (hP : P = Try.prog) : Ret P n_ref22_Routes [topA ringT, boolsA [], iA 0] (.tup [tabA ringX, iA 0]) := by
  have := routes_ok P hP ringT [] 0
  rw [ring_routes] at this
  exact this

end Go.Ab
