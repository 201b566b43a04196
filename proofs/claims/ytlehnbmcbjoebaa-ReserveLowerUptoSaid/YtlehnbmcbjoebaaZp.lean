/-
  Merged texts, part p.
-/
import Derived.Test.YtlehnbmcbjoebaaZo
import Derived.Calls
/-
  The engine: every step of the machine keeps the tape, and never takes a draw back. So a call (whatever its contract says) leaves the tape as it was and the count of draws no smaller.
-/
namespace Go.Ab
def Up (w w' : World) : Prop := w'.tape = w.tape ∧ w.drawn ≤ w'.drawn
theorem Up.refl (w : World) : Up w w := ⟨rfl, Nat.le_refl _⟩
theorem Up.trans {w w1 w2 : World} (h : Up w w1) (h' : Up w1 w2) : Up w w2 := ⟨h'.1.trans h.1, Nat.le_trans h.2 h'.2⟩
theorem Up.heap {w w1 : World} (h : Up w w1) (hp : Array Obj) : Up w { w1 with heap := hp } := h
theorem Up.os {w w1 : World} (h : Up w w1) (os : Os) : Up w { w1 with os := os } := h
def gw : GStep → World
 | .go _ w _ => w
 | .comm _ _ _ _ w _ => w
 | .spawn _ _ w _ => w
 | .count _ w _ => w
 | .timer _ _ w _ => w
 | .alone _ _ w _ => w
 | .newcoro _ _ _ w _ => w
 | .coroswitch _ _ _ w _ => w
 | .collect _ w _ => w
 | .watch _ w _ => w
 | .ended _ w _ => w
def GUp (w0 : World) (s : GStep) : Prop := Up w0 (gw s)
theorem GUp.after {w0 : World} {es : Array Event} {s : GStep} (h : GUp w0 s) : GUp w0 (GStep.after es s) := by
 cases s <;> exact h
end Go.Ab

