/-
  The engine, part b: how the heap relation is carried over an allocation, a store, a draw, a freezing.
-/
import Derived.Test.YtjaodmgeonfkiaaEa
namespace Go.Ab

theorem heap_eq_same {w w' : World} (h : w'.heap = w.heap) (b : Nat) : w'.heap[b]? = w.heap[b]? := by rw [h]

theorem Kept.same_heap {ι : Io} {w w' : World} (hw : w'.heap = w.heap) (l : Nat) (k : Blk) : Kept ι ι w w' l k k := by
  cases k <;> simp [Kept, bsize, hw]

theorem Ext.same_heap {G : Nat → Prop} {ι : Io} {h : Hp} {w w' : World} (hw : w'.heap = w.heap) (hq : Quiet w w' := by first | exact ⟨rfl, rfl⟩ | assumption | (subst_vars; exact ⟨rfl, rfl⟩)) : Ext G ι h w G ι h w' where
  quiet := hq
  size := by rw [hw]; exact Nat.le_refl _
  frame _ _ _ := by rw [hw]
  gmono _ h := h
  gnew _ h := .inl h
  onew _ h := .inl h
  keep l k hk := ⟨k, hk, Kept.same_heap hw l k⟩

theorem HR.same_heap {G : Nat → Prop} {ι : Io} {h : Hp} {w w' : World} (r : HR G ι h w) (hw : w'.heap = w.heap) (hq : Quiet w w' := by first | exact ⟨rfl, rfl⟩ | assumption | (subst_vars; exact ⟨rfl, rfl⟩)) : HR G ι h w' where
  len := r.len
  inj := r.inj
  g b hb := by rw [hw]; exact r.g b hb
  blk l k hk := by
    have hx := Ext.same_heap (G := G) (ι := ι) (h := h) hw
    have := r.blk l k hk
    cases k with
    | dead => trivial
    | mp ver es =>
      obtain ⟨b, o, ces, clock, h1, h2, h3, h4⟩ := this
      exact ⟨b, o, ces, clock, h1, by rw [hw]; exact h2, h3, h4.mono (hx.g_same r)⟩
    | mi m ver es =>
      obtain ⟨b, o, mb, seen, clock, blk, h1, h2, h3, h4, h5⟩ := this
      refine ⟨b, o, mb, seen, clock, blk, h1, by rw [hw]; exact h2, h3, h4, fun all ha => ?_⟩
      obtain ⟨o', ces, g1, g2, g3⟩ := h5 all ha
      exact ⟨o', ces, g1, by rw [hw]; exact g2, g3.mono (hx.g_same r)⟩
    | bx cs =>
      obtain ⟨b, o, c, t, fr, h1, h2, h3, h4, h5⟩ := this
      refine ⟨b, o, c, t, fr, h1, by rw [hw]; exact h2, h3, h4, fun i x hx' => ?_⟩
      obtain ⟨v, hv, hc⟩ := h5 i x hx'
      exact ⟨v, hv, hc.ext hx r⟩
    | da rl v sz es =>
      cases rl with
      | false => exact this
      | true =>
      obtain ⟨b, o, c, t, fr, hmx, h1, h2, h3, h4, h5, h6⟩ := this
      refine ⟨b, o, c, t, fr, hmx, h1, by rw [hw]; exact h2, h3, h4, h5, fun i e j x he hx' => ?_⟩
      obtain ⟨v, hv, hc⟩ := h6 i e j x he hx'
      exact ⟨v, hv, hc.ext hx r⟩

/-- a world with one more block -/
def push (w : World) (o : Obj) : World := { w with heap := w.heap.push o }

theorem push_old (w : World) (o : Obj) {b : Nat} (hb : b < w.heap.size) : (push w o).heap[b]? = w.heap[b]? := by
  simp only [push, Array.getElem?_push]
  rw [if_neg (by omega)]

theorem push_new (w : World) (o : Obj) : (push w o).heap[w.heap.size]? = some o := by
  simp [push]

theorem owned_lt {G : Nat → Prop} {ι : Io} {h : Hp} {w : World} (r : HR G ι h w) {b : Nat} (ho : owned ι h b) : b < w.heap.size := by
  obtain ⟨l, o, blk, h1, h2, h3⟩ := ho
  have := r.blk l blk h2
  cases blk with
  | dead => simp [Blk.live] at h3
  | mp ver es =>
    obtain ⟨b', o', c, t, g1, g2, _⟩ := this
    rw [h1] at g1; cases g1
    rcases Nat.lt_or_ge b w.heap.size with h | h
    · exact h
    · rw [Array.getElem?_eq_none h] at g2; cases g2
  | mi m ver es =>
    obtain ⟨b', o', c, t, cl, blk, g1, g2, _⟩ := this
    rw [h1] at g1; cases g1
    rcases Nat.lt_or_ge b w.heap.size with h | h
    · exact h
    · rw [Array.getElem?_eq_none h] at g2; cases g2
  | bx cs =>
    obtain ⟨b', o', c, t, fr, g1, g2, _⟩ := this
    rw [h1] at g1; cases g1
    rcases Nat.lt_or_ge b w.heap.size with h | h
    · exact h
    · rw [Array.getElem?_eq_none h] at g2; cases g2
  | da rl v sz es =>
    simp only [Blk.live] at h3
    subst h3
    obtain ⟨b', o', c, t, fr, _, g1, g2, _⟩ := this
    rw [h1] at g1; cases g1
    rcases Nat.lt_or_ge b w.heap.size with h | h
    · exact h
    · rw [Array.getElem?_eq_none h] at g2; cases g2

theorem get_snoc_old {α : Type} {l : List α} {a x : α} {i : Nat} (h : l[i]? = some x) : (l ++ [a])[i]? = some x := by
  have hi : i < l.length := by
    rcases Nat.lt_or_ge i l.length with h' | h'
    · exact h'
    · rw [List.getElem?_eq_none h'] at h; cases h
  rw [List.getElem?_append_left hi]; exact h

theorem get_snoc {α : Type} {l : List α} {a x : α} {i : Nat} (h : (l ++ [a])[i]? = some x) : l[i]? = some x ∨ (i = l.length ∧ x = a) := by
  rcases Nat.lt_or_ge i l.length with hi | hi
  · rw [List.getElem?_append_left hi] at h; exact .inl h
  · rw [List.getElem?_append_right hi] at h
    right
    rcases Nat.lt_or_ge (i - l.length) 1 with h1 | h1
    · have : i - l.length = 0 := by omega
      rw [this] at h; simp at h; exact ⟨by omega, h.symm⟩
    · rw [List.getElem?_eq_none (by simpa using h1)] at h; cases h

theorem get_lt {α : Type} {l : List α} {i : Nat} {x : α} (h : l[i]? = some x) : i < l.length := by
  rcases Nat.lt_or_ge i l.length with h' | h'
  · exact h'
  · rw [List.getElem?_eq_none h'] at h; cases h

/-- a new block that is not ours: nothing else changes -/
theorem Ext.push_other {G : Nat → Prop} {ι : Io} {h : Hp} {w : World} (r : HR G ι h w) (o : Obj) : Ext G ι h w G ι h (push w o) where
  size := by simp [push]
  quiet := ⟨rfl, rfl⟩
  frame b hb _ := push_old w o hb
  gmono _ h := h
  gnew _ h := .inl h
  onew _ h := .inl h
  keep l k hk := ⟨k, hk, by
    cases k with
    | dead => trivial
    | bx cs => exact ⟨rfl, rfl⟩
    | mi => exact ⟨rfl, rfl, rfl⟩
    | mp v es => exact ⟨rfl, .inr ⟨rfl, rfl, fun b o' hb => push_old w o (owned_lt r ⟨l, o', _, hb, hk, rfl⟩)⟩⟩
    | da rl v sz es =>
      refine .inr ⟨rfl, rfl, rfl, rfl, rfl, fun hrl b o' hb => bsize_same (push_old w o ?_)⟩
      exact owned_lt r ⟨l, o', _, hb, hk, hrl⟩⟩

theorem owned_snoc {ι : Io} {h : Hp} {k : Blk} {n b : Nat} (hl : ι.length = h.length) (ho : owned (ι ++ [(n, 0)]) (h ++ [k]) b) : owned ι h b ∨ b = n := by
  obtain ⟨l, o, blk, h1, h2, h3⟩ := ho
  rcases get_snoc h1 with g1 | ⟨g1, g2⟩
  · rcases get_snoc h2 with g3 | ⟨g3, g4⟩
    · exact .inl ⟨l, o, blk, g1, g3, h3⟩
    · have := get_lt g1; omega
  · cases g2; exact .inr rfl

/-- a new block of our own -/
theorem Ext.push_own {G : Nat → Prop} {ι : Io} {h : Hp} {w : World} (r : HR G ι h w) (o : Obj) (k : Blk) :
    Ext G ι h w G (ι ++ [(w.heap.size, 0)]) (h ++ [k]) (push w o) where
  size := by simp [push]
  quiet := ⟨rfl, rfl⟩
  frame b hb _ := push_old w o hb
  gmono _ h := h
  gnew _ h := .inl h
  onew b ho := by
    rcases owned_snoc r.len ho with h | h
    · exact .inl h
    · right; omega
  keep l k' hk := ⟨k', get_snoc_old hk, by
    have hl := get_lt hk
    have hi : (ι ++ [(w.heap.size, 0)])[l]? = ι[l]? := List.getElem?_append_left (by rw [r.len]; exact hl)
    cases k' with
    | dead => trivial
    | bx cs => exact ⟨rfl, hi⟩
    | mi => exact ⟨rfl, rfl, hi⟩
    | mp v es => exact ⟨hi, .inr ⟨rfl, rfl, fun b o' hb => push_old w o (owned_lt r ⟨l, o', _, hb, hk, rfl⟩)⟩⟩
    | da rl v sz es =>
      refine .inr ⟨rfl, rfl, rfl, rfl, hi, fun hrl b o' hb => bsize_same (push_old w o ?_)⟩
      exact owned_lt r ⟨l, o', _, hb, hk, hrl⟩⟩

theorem BR.ext {G G' : Nat → Prop} {ι ι' : Io} {h h' : Hp} {w w' : World} (e : Ext G ι h w G' ι' h' w') (r : HR G ι h w) {l : Nat} {k : Blk}
    (hk : h[l]? = some k) (hi : ι'[l]? = ι[l]?) (hw : ∀ b o, ι[l]? = some (b, o) → w'.heap[b]? = w.heap[b]?) : BR G' w' ι' h' l k := by
  have := r.blk l k hk
  cases k with
  | dead => trivial
  | mp ver es =>
    obtain ⟨b, o, ces, clock, h1, h2, h3, h4⟩ := this
    exact ⟨b, o, ces, clock, by rw [hi]; exact h1, by rw [hw b o h1]; exact h2, h3, h4.mono (e.g_same r)⟩
  | mi m ver es =>
    obtain ⟨b, o, mb, seen, clock, blk, h1, h2, h3, h4, h5⟩ := this
    obtain ⟨k', hk', hkept⟩ := e.keep m blk h3
    refine ⟨b, o, mb, seen, clock, k', by rw [hi]; exact h1, by rw [hw b o h1]; exact h2, hk', hkept.allows h4, fun all ha => ?_⟩
    obtain ⟨v0, es0, rfl, g1, g2⟩ := hkept.mp ha
    rcases g2 with g2 | ⟨g2, g3, g4⟩
    · simp only [Blk.allows, decide_eq_true_eq] at h4; omega
    · subst g2 g3
      obtain ⟨o', ces, f1, f2, f3⟩ := h5 _ rfl
      exact ⟨o', ces, by rw [g1]; exact f1, by rw [g4 mb o' f1]; exact f2, f3.mono (e.g_same r)⟩
  | bx cs =>
    obtain ⟨b, o, c, t, fr, h1, h2, h3, h4, h5⟩ := this
    refine ⟨b, o, c, t, fr, by rw [hi]; exact h1, by rw [hw b o h1]; exact h2, h3, h4, fun i x hx' => ?_⟩
    obtain ⟨v, hv, hc⟩ := h5 i x hx'
    exact ⟨v, hv, hc.ext e r⟩
  | da rl v sz es =>
    cases rl with
    | false => exact this
    | true =>
    obtain ⟨b, o, c, t, fr, hmx, h1, h2, h3, h4, h5, h6⟩ := this
    refine ⟨b, o, c, t, fr, hmx, by rw [hi]; exact h1, by rw [hw b o h1]; exact h2, h3, h4, h5, fun i e' j x he hx' => ?_⟩
    obtain ⟨v, hv, hc⟩ := h6 i e' j x he hx'
    exact ⟨v, hv, hc.ext e r⟩

theorem BR.of_dead {G G' : Nat → Prop} {ι ι' : Io} {h h' : Hp} {w w' : World} {l : Nat} {k : Blk} (hb : BR G w ι h l k) (hk : k.live = false) : BR G' w' ι' h' l k := by
  cases k with
  | dead => trivial
  | bx cs => simp [Blk.live] at hk
  | mp => simp [Blk.live] at hk
  | mi => simp [Blk.live] at hk
  | da rl v sz es => simp only [Blk.live] at hk; subst hk; exact hb

theorem HR.push_own {G : Nat → Prop} {ι : Io} {h : Hp} {w : World} (r : HR G ι h w) (o : Obj) (k : Blk)
    (hb : BR G (push w o) (ι ++ [(w.heap.size, 0)]) (h ++ [k]) h.length k) :
    HR G (ι ++ [(w.heap.size, 0)]) (h ++ [k]) (push w o) where
  len := by simp [r.len]
  inj l l' b o1 o2 k1 k2 a1 a2 b1 b2 c1 c2 := by
    rcases get_snoc b1 with d1 | ⟨d1, d1'⟩ <;> rcases get_snoc b2 with d2 | ⟨d2, d2'⟩
    · have e1 : ι[l]? = some (b, o1) := by rw [← a1, List.getElem?_append_left (by rw [r.len]; exact get_lt d1)]
      have e2 : ι[l']? = some (b, o2) := by rw [← a2, List.getElem?_append_left (by rw [r.len]; exact get_lt d2)]
      exact r.inj l l' b o1 o2 k1 k2 e1 e2 d1 d2 c1 c2
    · have e1 : ι[l]? = some (b, o1) := by rw [← a1, List.getElem?_append_left (by rw [r.len]; exact get_lt d1)]
      have e2 : b = w.heap.size := by
        rcases get_snoc a2 with f | ⟨_, f⟩
        · have := get_lt f; rw [r.len] at this; omega
        · cases f; rfl
      have := owned_lt r ⟨l, o1, k1, e1, d1, c1⟩
      omega
    · have e1 : ι[l']? = some (b, o2) := by rw [← a2, List.getElem?_append_left (by rw [r.len]; exact get_lt d2)]
      have e2 : b = w.heap.size := by
        rcases get_snoc a1 with f | ⟨_, f⟩
        · have := get_lt f; rw [r.len] at this; omega
        · cases f; rfl
      have := owned_lt r ⟨l', o2, k2, e1, d2, c2⟩
      omega
    · omega
  g b hb' := by
    have := r.g b hb'
    refine ⟨by simp [push]; omega, fun ho => ?_⟩
    rcases owned_snoc r.len ho with h | h
    · exact this.2 h
    · omega
  blk l k' hk := by
    rcases get_snoc hk with d | ⟨d, d'⟩
    · have hl := get_lt d
      have e := Ext.push_own r o k
      cases hlive : k'.live with
      | false => exact BR.of_dead (r.blk l k' d) hlive
      | true =>
        refine BR.ext e r d (List.getElem?_append_left (by rw [r.len]; exact hl)) fun b o' hi => push_old w o ?_
        exact owned_lt r ⟨l, o', k', hi, d, hlive⟩
    · subst d d'; exact hb

theorem get_set {α : Type} {l : List α} {i j : Nat} {a x : α} (h : (l.set i a)[j]? = some x) : (j = i ∧ x = a ∧ i < l.length) ∨ (j ≠ i ∧ l[j]? = some x) := by
  by_cases hj : i = j
  · subst hj
    have hl := get_lt h
    simp only [List.length_set] at hl
    rw [List.getElem?_set_self hl] at h
    cases h; exact .inl ⟨rfl, rfl, hl⟩
  · rw [List.getElem?_set_ne hj] at h; exact .inr ⟨fun e => hj e.symm, h⟩

theorem owned_set {ι : Io} {h : Hp} {l b : Nat} {k k0 : Blk} (hk0 : h[l]? = some k0) (hlive : k.live = true → k0.live = true)
    (ho : owned ι (h.set l k) b) : owned ι h b := by
  obtain ⟨l', o, blk, h1, h2, h3⟩ := ho
  rcases get_set h2 with ⟨a, b', _⟩ | ⟨_, a⟩
  · subst a b'; exact ⟨l', o, k0, h1, hk0, hlive h3⟩
  · exact ⟨l', o, blk, h1, a, h3⟩

/-- a store into an owned block: 'k0' becomes 'k' at the same place, the block's object becomes 'o'' -/
theorem Ext.set_own {G : Nat → Prop} {ι : Io} {h : Hp} {w w' : World} (r : HR G ι h w) {l b0 o0 : Nat} {k0 k : Blk} (hk0 : h[l]? = some k0) (hi : ι[l]? = some (b0, o0))
    (hlive : k0.live = true) (hkept : Kept ι ι w w' l k0 k) (hsize : w'.heap.size = w.heap.size) (hother : ∀ b, b ≠ b0 → w'.heap[b]? = w.heap[b]?) (hq : Quiet w w' := by first | exact ⟨rfl, rfl⟩ | assumption | (subst_vars; exact ⟨rfl, rfl⟩)) :
    Ext G ι h w G ι (h.set l k) w' where
  size := by omega
  quiet := hq
  frame b _ ho := hother b fun e => ho (e ▸ ⟨l, o0, k0, hi, hk0, hlive⟩)
  gmono _ h := h
  gnew _ h := .inl h
  onew b ho := .inl (owned_set hk0 (fun _ => hlive) ho)
  keep l' k' hk' := by
    by_cases e : l = l'
    · subst e
      rw [hk0] at hk'; cases hk'
      exact ⟨k, by rw [List.getElem?_set_self (get_lt hk0)], hkept⟩
    · refine ⟨k', by rw [List.getElem?_set_ne e]; exact hk', ?_⟩
      cases k' with
      | dead => trivial
      | bx cs => exact ⟨rfl, rfl⟩
      | mi => exact ⟨rfl, rfl, rfl⟩
      | mp v es => exact ⟨rfl, .inr ⟨rfl, rfl, fun b o' hb => hother b fun eb => e (by subst eb; exact r.inj l l' b o0 o' k0 _ hi hb hk0 hk' hlive rfl)⟩⟩
      | da rl v sz es =>
        refine .inr ⟨rfl, rfl, rfl, rfl, rfl, fun hrl b o' hb => bsize_same (hother b fun eb => e ?_)⟩
        subst eb
        exact (r.inj l l' b o0 o' k0 _ hi hb hk0 hk' hlive hrl)

theorem HR.set_own {G : Nat → Prop} {ι : Io} {h : Hp} {w w' : World} (r : HR G ι h w) {l b0 o0 : Nat} {k0 k : Blk} (hk0 : h[l]? = some k0) (hi : ι[l]? = some (b0, o0))
    (hlive : k0.live = true) (hkept : Kept ι ι w w' l k0 k) (hsize : w'.heap.size = w.heap.size) (hother : ∀ b, b ≠ b0 → w'.heap[b]? = w.heap[b]?)
    (hb : BR G w' ι (h.set l k) l k) (hq : Quiet w w' := by first | exact ⟨rfl, rfl⟩ | assumption | (subst_vars; exact ⟨rfl, rfl⟩)) : HR G ι (h.set l k) w' where
  len := by simp [r.len]
  inj l1 l2 b o1 o2 k1 k2 a1 a2 b1 b2 c1 c2 := by
    rcases get_set b1 with ⟨d1, d2, _⟩ | ⟨_, d1⟩ <;> rcases get_set b2 with ⟨e1, e2, _⟩ | ⟨_, e1⟩
    · omega
    · subst d1 d2; exact r.inj l1 l2 b o1 o2 k0 k2 a1 a2 hk0 e1 hlive c2
    · subst e1 e2; exact r.inj l1 l2 b o1 o2 k1 k0 a1 a2 d1 hk0 c1 hlive
    · exact r.inj l1 l2 b o1 o2 k1 k2 a1 a2 d1 e1 c1 c2
  g b hb' := by
    have := r.g b hb'
    exact ⟨by omega, fun ho => this.2 (owned_set hk0 (fun _ => hlive) ho)⟩
  blk l' k' hk' := by
    rcases get_set hk' with ⟨d1, d2, _⟩ | ⟨d0, d1⟩
    · subst d1 d2; exact hb
    · cases hl : k'.live with
      | false => exact BR.of_dead (r.blk l' k' d1) hl
      | true =>
        refine BR.ext (Ext.set_own r hk0 hi hlive hkept hsize hother) r d1 rfl fun b o' hb => hother b fun eb => d0 ?_
        subst eb
        exact (r.inj l l' b o0 o' k0 _ hi hb hk0 d1 hlive hl).symm

/-- an owned block is given up: it is frozen from now on -/
theorem Ext.freeze {G : Nat → Prop} {ι : Io} {h : Hp} {w : World} {l b0 o0 : Nat} {k0 : Blk} (hk0 : h[l]? = some k0) (hi : ι[l]? = some (b0, o0))
    (hlive : k0.live = true) : Ext G ι h w (fun b => G b ∨ b = b0) ι (h.set l .dead) w where
  size := Nat.le_refl _
  quiet := ⟨rfl, rfl⟩
  frame _ _ _ := rfl
  gmono _ h := .inl h
  gnew b hb := by
    rcases hb with h | h
    · exact .inl h
    · subst h; exact .inr (.inr ⟨l, o0, k0, hi, hk0, hlive⟩)
  onew b ho := .inl (owned_set hk0 (fun _ => hlive) ho)
  keep l' k' hk' := by
    by_cases e : l = l'
    · subst e
      exact ⟨.dead, by rw [List.getElem?_set_self (get_lt hk0)], by cases k' <;> trivial⟩
    · exact ⟨k', by rw [List.getElem?_set_ne e]; exact hk', Kept.refl ι w l' k'⟩

theorem HR.freeze {G : Nat → Prop} {ι : Io} {h : Hp} {w : World} (r : HR G ι h w) {l b0 o0 : Nat} {k0 : Blk} (hk0 : h[l]? = some k0) (hi : ι[l]? = some (b0, o0))
    (hlive : k0.live = true) : HR (fun b => G b ∨ b = b0) ι (h.set l .dead) w where
  len := by simp [r.len]
  inj l1 l2 b o1 o2 k1 k2 a1 a2 b1 b2 c1 c2 := by
    rcases get_set b1 with ⟨d1, d2, _⟩ | ⟨_, d1⟩
    · subst d2; simp [Blk.live] at c1
    · rcases get_set b2 with ⟨e1, e2, _⟩ | ⟨_, e1⟩
      · subst e2; simp [Blk.live] at c2
      · exact r.inj l1 l2 b o1 o2 k1 k2 a1 a2 d1 e1 c1 c2
  g b hb := by
    rcases hb with hb | hb
    · have := r.g b hb
      exact ⟨this.1, fun ho => this.2 (owned_set hk0 (fun _ => hlive) ho)⟩
    · subst hb
      refine ⟨owned_lt r ⟨l, o0, k0, hi, hk0, hlive⟩, fun ⟨l', o, blk, g1, g2, g3⟩ => ?_⟩
      rcases get_set g2 with ⟨_, e2, _⟩ | ⟨e0, e1⟩
      · subst e2; simp [Blk.live] at g3
      · exact e0 (r.inj l l' b o0 o k0 blk hi g1 hk0 e1 hlive g3).symm
  blk l' k' hk' := by
    rcases get_set hk' with ⟨_, d2, _⟩ | ⟨_, d1⟩
    · subst d2; trivial
    · exact BR.ext (Ext.freeze hk0 hi hlive) r d1 rfl fun _ _ _ => rfl

/-- a block is given up, and nothing is said of its memory any more -/
theorem Ext.kill {G : Nat → Prop} {ι : Io} {h : Hp} {w : World} {l : Nat} {k0 : Blk} (hk0 : h[l]? = some k0) : Ext G ι h w G ι (h.set l .dead) w where
  size := Nat.le_refl _
  quiet := ⟨rfl, rfl⟩
  frame _ _ _ := rfl
  gmono _ h := h
  gnew b hb := .inl hb
  onew b ho := .inl (owned_set hk0 (fun hc => by simp [Blk.live] at hc) ho)
  keep l' k' hk' := by
    by_cases e : l = l'
    · subst e
      exact ⟨.dead, by rw [List.getElem?_set_self (get_lt hk0)], by cases k' <;> trivial⟩
    · exact ⟨k', by rw [List.getElem?_set_ne e]; exact hk', Kept.refl ι w l' k'⟩

theorem HR.kill {G : Nat → Prop} {ι : Io} {h : Hp} {w : World} (r : HR G ι h w) {l : Nat} {k0 : Blk} (hk0 : h[l]? = some k0) : HR G ι (h.set l .dead) w where
  len := by simp [r.len]
  inj l1 l2 b o1 o2 k1 k2 a1 a2 b1 b2 c1 c2 := by
    rcases get_set b1 with ⟨d1, d2, _⟩ | ⟨_, d1⟩
    · subst d2; simp [Blk.live] at c1
    · rcases get_set b2 with ⟨e1, e2, _⟩ | ⟨_, e1⟩
      · subst e2; simp [Blk.live] at c2
      · exact r.inj l1 l2 b o1 o2 k1 k2 a1 a2 d1 e1 c1 c2
  g b hb := by
    have := r.g b hb
    exact ⟨this.1, fun ho => this.2 (owned_set hk0 (fun hc => by simp [Blk.live] at hc) ho)⟩
  blk l' k' hk' := by
    rcases get_set hk' with ⟨_, d2, _⟩ | ⟨_, d1⟩
    · subst d2; trivial
    · exact BR.ext (Ext.kill hk0) r d1 rfl fun _ _ _ => rfl

end Go.Ab
