/-
  The statements of chapter 23, part c: what a step answers, in plain terms.
-/
import Derived.Test.YtlmddegckmbgkaaNb
namespace Go.Ab
open Go.Proofs

def sameP (p q : Pkt) : Bool := decide (p.id = q.id ∧ p.src = q.src ∧ p.dst = q.dst ∧ p.flow = q.flow ∧ p.hops = q.hops ∧ p.stack = q.stack)

theorem same_ok (P : Program) (hP : P = Try.prog) (p q : Pkt) : Ret P n_ref23_Same [pktA p, pktA q] (bA (sameP p q)) := by
  have hss := sameSegs_ok P hP p.stack q.stack
  refine ret_start (hP ▸ mixed) (hP ▸ fn_ref23_Same) (hP ▸ c_ref23_Same) (Nat.le_of_ble_eq_true rfl) fun Λ Λo K hK => ?_
  clear hP
  obtain ⟨id, src, dst, flow, stack, hops⟩ := p
  obtain ⟨id2, src2, dst2, flow2, stack2, hops2⟩ := q
  have yes := yes_of hK
  have no := no_of hK
  simp only [segsA, segsD, pktA] at *
  generalize slh : List.map encSeg stack = sl at *
  generalize slh2 : List.map encSeg stack2 = sl2 at *
  conv => cbv
  repeat' first | refine call_b hss rfl rfl ?_ ?_ | (intro (_ : Unit); first | omega | rfl | exact ⟨rfl, by omega⟩ | (simp only [nI_eq]; omega) | ((repeat' first | rfl | omega | refine And.intro ?_ ?_ | (simp only [nI_eq]; omega) | exact Nat.le_of_ble_eq_true rfl); done)) | exact trivial | refine And.intro ?_ ?_ | (intro hc; exact absurd hc (by decide)) | (intro hc; exfalso; omega) | (intro hc; (first | rw [wrap_small (by omega) (by omega)] at hc | rw [nI_eq] at hc | skip); try (conv => cbv))
  all_goals try simp only [decide_eq_true_eq, decide_eq_false_iff_not] at *
  all_goals first
    | exact yes ⟨by assumption, by assumption, by assumption, by assumption, by assumption, by assumption⟩
    | (refine no fun h => ?_; obtain ⟨h1, h2, h3, h4, h5, h6⟩ := h; contradiction)

theorem same_refl (P : Program) (hP : P = Try.prog) (p : Pkt) : Ret P n_ref23_Same [pktA p, pktA p] (bA true) := by
  have h := same_ok P hP p p
  rw [show sameP p p = true by simp [sameP]] at h
  exact h

/-- two answers that no one tells apart: a packet that is dropped is not looked at -/
def Alike (a b : Ans) : Prop := a.1 = b.1 ∧ a.2.2 = b.2.2 ∧ (0 < a.2.2 ∨ a.2.1 = b.2.1)

theorem Alike.refl (a : Ans) : Alike a a := ⟨rfl, rfl, .inr rfl⟩

theorem enter_alike (p : Pkt) (l' l : List Seg) (e : Ety) : Alike (enterS p l e) (enterS {p with stack := l'} l e) := by
  unfold enterS leaveS
  split
  · split
    · exact ⟨rfl, rfl, .inl (show (0 : Int) < 5 by decide)⟩
    · exact ⟨rfl, rfl, .inr rfl⟩
  · exact ⟨rfl, rfl, .inr rfl⟩

theorem plain_alike (t : Top) (x : Tab) (p : Pkt) (l' : List Seg) : Alike (plainS t x p) (plainS t x {p with stack := l'}) := by
  unfold plainS
  simp only
  split
  · exact ⟨rfl, rfl, .inr rfl⟩
  · split
    · exact ⟨rfl, rfl, .inl (show (0 : Int) < 4 by decide)⟩
    · split
      · exact enter_alike p l' [] _
      · exact ⟨rfl, rfl, .inl (show (0 : Int) < 1 by decide)⟩

theorem route_alike (t : Top) (x : Tab) (p : Pkt) (l' l : List Seg) : Alike (routeS t x p l) (routeS t x {p with stack := l'} l) := by
  cases l with
  | nil => exact plain_alike t x p l'
  | cons s r =>
    simp only [routeS]
    split
    · exact ⟨rfl, rfl, .inl (show (0 : Int) < 4 by decide)⟩
    · split
      · split
        · exact enter_alike p l' _ _
        · exact plain_alike t x p l'
      · split
        · split
          · split
            · exact plain_alike t x p l'
            · exact ⟨rfl, rfl, .inr rfl⟩
          · exact ⟨rfl, rfl, .inl (show (0 : Int) < 2 by decide)⟩
        · exact ⟨rfl, rfl, .inl (show (0 : Int) < 1 by decide)⟩

theorem skip_more (n : Int) (k : Nat) (l : List Seg) : skipS n (List.replicate k ⟨1, n⟩ ++ l) = skipS n l := by
  induction k with
  | zero => rfl
  | succ k ih => rw [List.replicate_succ, List.cons_append]; simp only [skipS, List.dropWhile_cons, decide_true, if_true] at *; exact ih

theorem reached {t : Top} {x : Tab} {p : Pkt} {k : Nat} (h : k + p.stack.length ≤ 32) : Alike (stepS t x {p with stack := List.replicate k ⟨1, x.node⟩ ++ p.stack}) (stepS t x p) := by
  unfold stepS
  simp only
  split
  · rw [if_neg (by simp; omega), if_neg (by omega), skip_more]
    have := route_alike t x {p with stack := List.replicate k ⟨1, x.node⟩ ++ p.stack} p.stack (skipS x.node p.stack)
    exact this
  · exact ⟨rfl, rfl, .inl (show (0 : Int) < 1 by decide)⟩

theorem outAt_tail {t : Top} {n : Int} {l : List Int} {i : Nat} {x : Int} (h : outAt t n l i = true) (hx : l[i]? = some x) : tailT t x = n := by
  simp only [outAt, getD_at hx, Bool.and_eq_true, decide_eq_true_eq] at h
  exact h.1

theorem tail_of_down {t : Top} {x : Tab} {a : Int} (hv : tabB t x = true) (h : a ∈ x.down) : (0 ≤ a ∧ a < 2 * t.links.length) ∧ tailG t a = x.node := by
  have hs := tabB_spec.1 hv
  obtain ⟨i, hi, rfl⟩ := List.getElem_of_mem h
  have h1 := outAt_tail (outB_spec.1 hs.2.2.2.1 i hi) (List.getElem?_eq_getElem hi)
  unfold tailT at h1
  split at h1
  · rename_i h2
    have := arcsT_le t
    exact ⟨by omega, h1⟩
  · omega

theorem bypassed {t : Top} {x : Tab} {p : Pkt} {s : Seg} {r : List Seg} (hv : tabB t x = true) (hd : 0 ≤ p.dst ∧ p.dst < t.nodes) (hl : p.stack.length ≤ 32) (hp : p.stack = s :: r) (hh : ¬ (p.hops < 0 ∨ 255 ≤ p.hops))
    (hs : (s.kind = 2 ∧ s.num ∈ x.down) ∨ (s.kind = 1 ∧ s.num ≠ x.node ∧ (s.num < 0 ∨ s.num ≥ t.nodes ∨ (ent x s.num).arcs.length = 0))) : Alike (stepS t x p) (stepS t x {p with stack := []}) := by
  unfold stepS
  simp only
  have hc : tabB t x = true ∧ 0 ≤ p.dst ∧ p.dst < t.nodes := ⟨hv, hd⟩
  simp only [if_pos hc]
  rw [if_neg (by omega), if_neg (by simp)]
  have e : skipS x.node p.stack = s :: r := by
    rw [hp]
    have : s ≠ ⟨1, x.node⟩ := by
      intro e; subst e
      rcases hs with h | h
      · exact absurd h.1 (by simp)
      · exact h.2.1 rfl
    simp [skipS, this]
  rw [e]
  have e2 : routeS t x p (s :: r) = plainS t x p := by
    simp only [routeS]
    rw [if_neg hh]
    rcases hs with h | h
    · have := tail_of_down hv h.2
      rw [if_neg (by omega), if_pos h.1, if_pos this, if_pos h.2]
    · rw [if_pos h.1, if_neg (by omega)]
  rw [e2]
  exact plain_alike t x p []

structure Bnd (t : Top) (x : Tab) (p : Pkt) (a : Ans) : Prop where
  id : a.2.1.id = p.id
  src : a.2.1.src = p.src
  dst : a.2.1.dst = p.dst
  flow : a.2.1.flow = p.flow
  some : a.2.2 = 0 ↔ 0 < a.1.length
  no : a.2.2 ≠ 0 → (a.2.2 = -1 ∨ (1 ≤ a.2.2 ∧ a.2.2 ≤ 5 ∧ a.2.2 ≠ 3)) ∧ a.2.1.hops = p.hops
  yes : a.2.2 = 0 → (∀ y ∈ a.1, tailT t y = x.node) ∧ a.2.1.stack.length ≤ 32 ∧ a.2.1.hops = p.hops + 1 ∧ 0 ≤ p.hops ∧ p.hops < 255

theorem bnd_drop (t : Top) (x : Tab) (p : Pkt) (r : Int) (hr : r = -1 ∨ (1 ≤ r ∧ r ≤ 5 ∧ r ≠ 3)) (l : List Seg) : Bnd t x p ([], {p with stack := l}, r) :=
  ⟨rfl, rfl, rfl, rfl, by simp; omega, fun _ => ⟨hr, rfl⟩, fun h => by simp only at h; omega⟩

theorem bnd_leave {t : Top} {x : Tab} {p : Pkt} {l : List Seg} {arcs : List Int} (hh : ¬ (p.hops < 0 ∨ 255 ≤ p.hops)) (hl : l.length ≤ 32) (ha : 0 < arcs.length) (ht : ∀ y ∈ arcs, tailT t y = x.node) : Bnd t x p (leaveS p l arcs) :=
  ⟨rfl, rfl, rfl, rfl, by simp [leaveS]; exact ha, fun h => absurd rfl h, fun _ => ⟨ht, hl, rfl, by omega, by omega⟩⟩

theorem ent_tail {t : Top} {x : Tab} {n : Int} (hv : tabB t x = true) (hn : 0 ≤ n ∧ n < t.nodes) : ∀ y ∈ (ent x n).arcs, tailT t y = x.node := by
  have hs := tabB_spec.1 hv
  have hg : x.to[n.toNat]? = some (ent x n) := by
    have hlt : n.toNat < x.to.length := by omega
    rw [ent, List.getD_eq_getElem?_getD, List.getElem?_eq_getElem hlt]; rfl
  have he := entB_spec.1 (hs.2.2.2.2 _ _ hg)
  intro y hy
  obtain ⟨i, hi, rfl⟩ := List.getElem_of_mem hy
  exact outAt_tail (outB_spec.1 he.1 i hi) (List.getElem?_eq_getElem hi)

theorem bnd_enter {t : Top} {x : Tab} {p : Pkt} {l : List Seg} {n : Int} (hv : tabB t x = true) (hh : ¬ (p.hops < 0 ∨ 255 ≤ p.hops)) (hl : l.length ≤ 32) (hn : (0 ≤ n ∧ n < t.nodes) ∧ 0 < (ent x n).arcs.length) : Bnd t x p (enterS p l (ent x n)) := by
  unfold enterS
  split
  · split
    · exact bnd_drop t x p 5 (by omega) p.stack
    · exact bnd_leave hh (by omega) hn.2 (ent_tail hv hn.1)
  · exact bnd_leave hh hl hn.2 (ent_tail hv hn.1)

theorem bnd_plain {t : Top} {x : Tab} {p : Pkt} (hv : tabB t x = true) : Bnd t x p (plainS t x p) := by
  unfold plainS
  split
  · exact bnd_drop t x p (-1) (by omega) []
  · split
    · exact bnd_drop t x p 4 (by omega) p.stack
    · split
      · rename_i h1 h2 h3
        exact bnd_enter hv h2 (by simp) h3
      · exact bnd_drop t x p 1 (by omega) p.stack

theorem tailT_of {t : Top} {a n : Int} (hv : validT t = true) (h : (0 ≤ a ∧ a < 2 * t.links.length) ∧ tailG t a = n) : tailT t a = n := by
  unfold tailT
  rw [if_pos ⟨h.1.1, by unfold arcsT; rw [if_pos hv]; exact h.1.2⟩]
  exact h.2

theorem bnd_route {t : Top} {x : Tab} {p : Pkt} {l : List Seg} (hv : tabB t x = true) (hl : l.length ≤ 32) : Bnd t x p (routeS t x p l) := by
  cases l with
  | nil => exact bnd_plain hv
  | cons s r =>
    simp only [routeS]
    split
    · exact bnd_drop t x p 4 (by omega) p.stack
    · rename_i hh
      split
      · split
        · rename_i h3
          exact bnd_enter hv hh hl h3
        · exact bnd_plain hv
      · split
        · split
          · rename_i h3
            split
            · exact bnd_plain hv
            · exact bnd_leave hh (by simp only [List.length_cons] at hl; omega) (by simp) fun y hy => by
                rw [List.mem_singleton.1 hy]
                exact tailT_of (tabB_spec.1 hv).1 h3
          · exact bnd_drop t x p 2 (by omega) p.stack
        · exact bnd_drop t x p 1 (by omega) p.stack

theorem dropWhile_le {α : Type} (f : α → Bool) (l : List α) : (l.dropWhile f).length ≤ l.length := by
  induction l with
  | nil => simp
  | cons a l ih => rw [List.dropWhile_cons]; split <;> simp only [List.length_cons] <;> omega

theorem bnd_step (t : Top) (x : Tab) (p : Pkt) : Bnd t x p (stepS t x p) := by
  unfold stepS
  split
  · rename_i h
    split
    · exact bnd_drop t x p 5 (by omega) p.stack
    · exact bnd_route h.1 (by have := dropWhile_le (fun s => decide (s = ⟨1, x.node⟩)) p.stack; unfold skipS; omega)
  · exact bnd_drop t x p 1 (by omega) p.stack

end Go.Ab
