/-
  Merged texts, part o.
-/
import Derived.Test.YtllgchplnhaplaaZn
import Derived.Shelf.SlSortCmp.Whole1
/-
  Sorting paths: the library's contract, as a contract of the machine.
-/
namespace Go.Ab
open Go.Proofs Go.Sort
inductive SlV where
 | nil
 | emp (a : Addr)
 | sl (b o n cap : Nat)
 deriving Inhabited
def SlV.val : SlV → Value
 | .nil => .slice none 0 0
 | .emp a => .slice (some a) 0 0
 | .sl b o n cap => .slice (some ⟨b, o, none⟩) n cap
theorem SlV.of {G : Nat → Prop} {w : World} {v : Value} {l : List (List D)} (h : DR G w v (.list false 1 l)) : ∃ s : SlV, v = s.val := by
 generalize hx : D.list false 1 l = x at h
 cases h <;> first | (cases hx; done) | skip
 ·exact ⟨.nil, rfl⟩
 ·rename_i a _; exact ⟨.emp a, rfl⟩
 ·exact ⟨.sl _ _ _ _, rfl⟩
abbrev PV (G : Nat → Prop) (w : World) : Type := { z : SlV × List Int // DR G w z.1.val (intsD z.2) ∧ z.2.length ≤ 1000 }
instance (G : Nat → Prop) (w : World) : Inhabited (PV G w) := ⟨⟨(.nil, []), .nils _ _, by simp⟩⟩
def encP {G : Nat → Prop} {w : World} (x : PV G w) : Value := x.1.1.val
def cfP (t : Top) {G : Nat → Prop} {w : World} (x y : PV G w) : Int := ordS (cst t x.1.2) (cst t y.1.2) x.1.2 y.1.2
theorem ltOf_t {t : Top} {G : Nat → Prop} {w : World} {x y : PV G w} : ltOf (cfP t) x y = true ↔ ordS (cst t x.1.2) (cst t y.1.2) x.1.2 y.1.2 < 0 := decide_eq_true_iff
theorem ltOf_f {t : Top} {G : Nat → Prop} {w : World} {x y : PV G w} : ltOf (cfP t) x y = false ↔ ¬ ordS (cst t x.1.2) (cst t y.1.2) x.1.2 y.1.2 < 0 := decide_eq_false_iff_not
theorem swoP (t : Top) (G : Nat → Prop) (w : World) : SWO (ltOf (cfP t (G := G) (w := w))) where
 irrefl x := by rw [ltOf_f, ordS_self]; omega
 trans x y z h1 h2 := by
  rw [ltOf_t] at *
  have h3 := ordS_trans (ca := cst t x.1.2) (cb := cst t y.1.2) (cc := cst t z.1.2) (a := x.1.2) (b := y.1.2) (c := z.1.2) (by omega) (by omega)
  by_cases e : ordS (cst t x.1.2) (cst t z.1.2) x.1.2 z.1.2 = 0
  ·obtain ⟨e1, e2⟩ := ordS_z e
   rw [← e1, ← e2, ordS_neg] at h2
   omega
  ·omega
 ntrans x y z h1 h2 := by
  rw [ltOf_f] at *
  rw [ordS_neg] at h1 h2 ⊢
  have h3 := ordS_trans (ca := cst t z.1.2) (cb := cst t y.1.2) (cc := cst t x.1.2) (a := z.1.2) (b := y.1.2) (c := x.1.2) (by omega) (by omega)
  omega
theorem quiet_grow {w w' : World} (hq : Quiet w w') (hs : w.heap.size ≤ w'.heap.size) (hf : ∀ b, b < w.heap.size → w'.heap[b]? = w.heap[b]?) : ∃ q os, w' = grow (w.drewN q) os := by
 obtain ⟨h1, h2, h3, h4⟩ := hq
 refine ⟨w'.drawn - w.drawn, w'.heap.extract w.heap.size w'.heap.size, ?_⟩
 have hh : w'.heap = w.heap ++ w'.heap.extract w.heap.size w'.heap.size := by
  apply Array.ext_getElem?
  intro i
  rcases Nat.lt_or_ge i w.heap.size with hi | hi
  ·rw [Array.getElem?_append_left hi, hf i hi]
  ·rw [Array.getElem?_append_right hi, Array.getElem?_extract]
   simp only [Nat.min_self]
   rcases Nat.lt_or_ge i w'.heap.size with hj | hj
   ·rw [if_pos (by omega), show w.heap.size + (i - w.heap.size) = i by omega]
   ·rw [if_neg (by omega), Array.getElem?_eq_none hj]
 have hd : w'.drawn = w.drawn + (w'.drawn - w.drawn) := by omega
 cases w' with
 | mk a b c d e =>
  cases w with
  | mk a2 b2 c2 d2 e2 =>
   simp only at h1 h2 h3 hh hd
   subst h1 h2 h3
   simp only [grow, World.drewN, World.mk.injEq, true_and, and_true]
   exact ⟨hh, hd⟩
theorem row_heap {α : Type} [Inhabited α] (enc : α → Value) (w : World) (n b o : Nat) (d : Array α) (os : Array Obj) {c : Array Value} {t : TypeId} {fr : Nat × Nat} (hb : w.heap[b]? = some (.cells c t fr)) :
  (grow (putRow enc (Sort.ahead w n) b o d) os).heap[b]? = some (.cells (putCells enc o d c) t fr) ∧ (∀ x, x < w.heap.size → x ≠ b → (grow (putRow enc (Sort.ahead w n) b o d) os).heap[x]? = w.heap[x]?) ∧
   w.heap.size ≤ (grow (putRow enc (Sort.ahead w n) b o d) os).heap.size := by
 have hlt : b < w.heap.size := by
  rcases Nat.lt_or_ge b w.heap.size with h | h
  ·exact h
  ·rw [Array.getElem?_eq_none h] at hb; cases hb
 have hg : ∀ x, x < w.heap.size → (grow (putRow enc (Sort.ahead w n) b o d) os).heap[x]? = (w.heap.modify b (onCells (putCells enc o d)))[x]? := by
  intro x hx
  rw [heap_grow_old _ _ (by simpa using hx)]
  rfl
 refine ⟨?_, fun x hx hne => ?_, by simp [grow, putRow, mapBlock]⟩
 ·rw [hg b hlt, Array.getElem?_modify, if_pos rfl, hb]; rfl
 ·rw [hg x hx, Array.getElem?_modify, if_neg (fun e => hne e.symm)]
def SortsP (P : Program) (f g : Nat) : Prop :=
 (∀ (α : Type) (_ : Inhabited α) (enc : α → Value) (_ : OneCell enc) (cf : α → α → Int) (_ : SWO (ltOf cf)) (cb : Array Value) (blk off cap : Nat) (d : Array α) (w : World), CmpLays1 P g cb enc cf blk off d.size w → Holds enc w blk off d → blk < w.heap.size → d.size < 4611686018427387904 →
  Calls P f #[.slice (some ⟨blk, off, none⟩) d.size cap, .func (.func g) #[] cb] w fun e w' => e = .returned (.tuple #[]) ∧ ∃ d' n os, PermIn 0 d.size d d' ∧ SortedIn (ltOf cf) 0 d.size d' ∧ w' = sortWorld enc w blk off n d' os) ∧
 ∀ (p : Option Addr) (cap : Nat) (fv : Value) (w : World), Calls P f #[.slice p 0 cap, fv] w fun e w' => e = .returned (.tuple #[]) ∧ w' = w
abbrev topBx (t : Top) : Blk := .bx [.d (iD t.nodes), .d (boolsD t.ov), .d (linksD t.links)]
theorem cmp_lays1 {P : Program} {t : Top} {G : Nat → Prop} {ι : Io} {h : Hp} {w : World} {g : Nat} (hc : ∀ a b : List Int, a.length ≤ 1000 → b.length ≤ 1000 → Ret P g [intsA a, intsA b, .c (.rp [iD t.nodes, boolsD t.ov, linksD t.links])] (iA (ordS (cst t a) (cst t b) a b)))
  (hr : HR G ι h w) (h0 : h[0]? = some (topBx t)) {l blk o0 : Nat} {rb : Blk} (hl : h[l]? = some rb) (hlv : rb.live = true) (hi : ι[l]? = some (blk, o0)) (h1 : l ≠ 0) {vp : Value} (hvp : CR G w ι h vp (.ptr 0 0 0 0)) {c : Array Value} {ty : TypeId} {fr : Nat × Nat}
  (hb : w.heap[blk]? = some (.cells c ty fr)) (off size : Nat) : CmpLays1 P g #[vp] (encP (G := G) (w := w)) (cfP t) blk off size w := by
 intro m os dk _ x y
 obtain ⟨k1, k2, k3⟩ := row_heap (encP (G := G) (w := w)) w m blk off dk os hb
 have hW : sortWorld (encP (G := G) (w := w)) w blk off m dk os = grow (putRow (encP (G := G) (w := w)) (Sort.ahead w m) blk off dk) os := rfl
 rw [← hW] at k1 k2 k3
 generalize sortWorld (encP (G := G) (w := w)) w blk off m dk os = W at *
 obtain ⟨b0, o, c0, t0, fr0, q1, q2, q3, q4, q5⟩ := hr.blk 0 _ h0
 have hb0 : b0 < w.heap.size := owned_lt hr (owned_of (k := topBx t) q1 h0 rfl)
 have hne : b0 ≠ blk := fun e => by
  subst e
  exact h1 (hr.own l 0 b0 _ _ hl h0 (own1_of hi hlv) (own1_of q1 rfl))
 have hG : ∀ b, G b → (b < w.heap.size ∧ b ≠ blk) ∧ W.heap[b]? = w.heap[b]? := fun b hb2 => by
  obtain ⟨a1, a2⟩ := hr.g b hb2
  have a3 : b ≠ blk := fun e => a2 (by subst e; exact owned_of hi hl hlv)
  exact ⟨⟨a1, a3⟩, k2 b a1 a3⟩
 have hp : vp = .pointer (some ⟨b0, 0, none⟩) := by
  cases hvp with
  | ptr _ _ _ _ _ blk2 hb2 ha hk =>
   rw [h0] at hb2; cases hb2
   obtain ⟨b2, o2, e1, e2⟩ := hk 0 rfl
   rw [q1] at e1; cases e1
   rw [e2, q3.2]
 have hrp : CR (fun b => b < w.heap.size ∧ b ≠ blk) W [] [] vp (.rp [iD t.nodes, boolsD t.ov, linksD t.links]) := by
  rw [hp]
  refine .rp b0 0 _ ⟨hb0, hne⟩ fun j d hd => ?_
  have hW0 : W.heap[b0]? = some (.cells c0 t0 fr0) := by rw [k2 b0 hb0 hne]; exact q2
  have hcell : ∀ i (dd : D), ([.d (iD t.nodes), .d (boolsD t.ov), .d (linksD t.links)] : List CV)[i]? = some (.d dd) → ∃ v, c0[0 + i]? = some v ∧ DR G w v dd := fun i dd hd => by
   obtain ⟨v, hv, hcr⟩ := q5 i _ hd
   rw [q3.2] at hv
   cases hcr with
   | d _ _ hdr => exact ⟨v, hv, hdr⟩
  rw [cell_of hW0]
  have : ([.d (iD t.nodes), .d (boolsD t.ov), .d (linksD t.links)] : List CV)[j]? = some (.d d) := by
   match j, hd with
   | 0, hd => cases hd; rfl
   | 1, hd => cases hd; rfl
   | 2, hd => cases hd; rfl
   | j + 3, hd => cases hd
  obtain ⟨v, hv, hdr⟩ := hcell j d this
  exact ⟨v, hv, hdr.mono hG⟩
 have ag : ∀ z : PV G w, VR (fun b => b < w.heap.size ∧ b ≠ blk) W [] [] (encP z) (intsA z.1.2) := fun z => .c _ _ (.d _ _ (z.2.1.mono hG))
 have h2 := (hc x.1.2 y.1.2 x.2.2 y.2.2).out (fun b => b < w.heap.size ∧ b ≠ blk) [] W [encP x, encP y, vp] (HR_nil fun b hb => by omega) ⟨rfl, fun i v u hv hu => by
  match i, hv, hu with
  | 0, hv, hu => cases hv; cases hu; exact ag x
  | 1, hv, hu => cases hv; cases hu; exact ag y
  | 2, hv, hu => cases hv; cases hu; exact .c _ _ hrp
  | i + 3, hv, hu => cases hu⟩
 refine h2.mono fun e w' ⟨v, r, G', ι', h', he, hr, h2, h3, h4⟩ => ?_
 obtain ⟨_, hr⟩ := hr
 subst hr
 have hv : v = .int .i64 (cfP t x y) := by
  cases inv_d h3; rfl
 refine ⟨by rw [he, hv], quiet_grow h4.quiet h4.size fun b hb => h4.frame b hb fun ⟨l, k, h5, _⟩ => by simp at h5⟩
end Go.Ab

