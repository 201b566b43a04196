/-
  Merged texts, part n.
-/
import Derived.Test.YtlehnbmcbjoebaaZm
import Derived.Sort.Grow
/-
  Sorting: the library's contract, as a contract of the machine.
-/
namespace Go.Ab
open Go.Proofs Go.Sort
theorem row_heap {α : Type} [Inhabited α] (enc : α → Value) (w : World) (n b o : Nat) (d : Array α) (os : Array Obj) {c : Array Value} {t : TypeId} {fr : Nat × Nat} (hb : w.heap[b]? = some (.cells c t fr)) :
  (grow (putRow enc (Sort.ahead w n) b o d) os).heap[b]? = some (.cells (putCells enc o d c) t fr) ∧ (∀ x, x < w.heap.size → x ≠ b → (grow (putRow enc (Sort.ahead w n) b o d) os).heap[x]? = w.heap[x]?) ∧
   w.heap.size ≤ (grow (putRow enc (Sort.ahead w n) b o d) os).heap.size := by
 have hlt : b < w.heap.size := by
  rcases Nat.lt_or_ge b w.heap.size with h | h
  ·exact h
  ·rw [Array.getElem?_eq_none h] at hb; cases hb
 have hg : ∀ x, x < w.heap.size → (grow (putRow enc (Sort.ahead w n) b o d) os).heap[x]? = (w.heap.modify b (onCells (putCells enc o d)))[x]? := by
  intro x hx
  rw [heap_grow_old _ _ (by simpa using hx)]
  rfl
 refine ⟨?_, fun x hx hne => ?_, by simp [grow, putRow, mapBlock]⟩
 ·rw [hg b hlt, Array.getElem?_modify, if_pos rfl, hb]; rfl
 ·rw [hg x hx, Array.getElem?_modify, if_neg (fun e => hne e.symm)]
def SortsI (P : Program) (f : Nat) : Prop :=
 (∀ (blk off cap : Nat) (zs : List Int) (w : World), Holds (Value.int .i64) w blk off zs.toArray → blk < w.heap.size → zs.length < 4611686018427387904 →
  Calls P f #[.slice (some ⟨blk, off, none⟩) zs.length cap] w fun e w' => e = .returned (.tuple #[]) ∧ ∃ n os, w' = grow (putRow (Value.int .i64) (Sort.ahead w n) blk off (zs.mergeSort fun x y => decide (x ≤ y)).toArray) os) ∧
 ∀ (p : Option Addr) (cap : Nat) (w : World), Calls P f #[.slice p 0 cap] w fun e w' => e = .returned (.tuple #[]) ∧ w' = w
end Go.Ab

