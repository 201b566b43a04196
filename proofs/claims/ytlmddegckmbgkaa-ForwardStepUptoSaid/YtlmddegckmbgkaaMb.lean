/-
  Shortest paths, part b: distances, plainly.
-/
import Derived.Test.YtlmddegckmbgkaaMa
namespace Go.Ab
open Go.Proofs

def xOf (t : Top) (fr : Bool) (a : Int) : Int := if fr then headT t a else tailT t a
def yOf (t : Top) (fr : Bool) (a : Int) : Int := if fr then tailT t a else headT t a
def okArc (t : Top) (down : List Bool) (e : Int) (fr : Bool) (a : Int) : Bool := upB down a && transitB t (yOf t fr a) e
abbrev gt (D : List Int) (i : Int) : Int := D.getD i.toNat (-1)

/-- nothing can be improved by an arc -/
def fixAt (t : Top) (down : List Bool) (e : Int) (fr : Bool) (D : List Int) (a : Int) : Prop :=
  okArc t down e fr a = true → 0 ≤ gt D (yOf t fr a) → 0 ≤ gt D (xOf t fr a) ∧ gt D (xOf t fr a) ≤ gt D (yOf t fr a) + costT t a

structure IsDist (t : Top) (down : List Bool) (e : Int) (fr : Bool) (D : List Int) : Prop where
  len : (D.length : Int) = t.nodes
  zero : gt D e = 0
  lo : ∀ i, 0 ≤ i → i < t.nodes → -1 ≤ gt D i
  fix : ∀ a : Int, 0 ≤ a → a < 2 * t.links.length → fixAt t down e fr D a
  tight : ∀ x, 0 ≤ x → x < t.nodes → x ≠ e → 0 ≤ gt D x → ∃ a : Int, 0 ≤ a ∧ a < 2 * t.links.length ∧ okArc t down e fr a = true ∧ xOf t fr a = x ∧ 0 ≤ gt D (yOf t fr a) ∧ gt D x = gt D (yOf t fr a) + costT t a

/-- facts of a valid topology's arcs -/
theorem arc_facts {t : Top} (hv : validT t = true) {a : Int} (h0 : 0 ≤ a) (h1 : a < 2 * t.links.length) :
    (0 ≤ tailT t a ∧ tailT t a < t.nodes) ∧ (0 ≤ headT t a ∧ headT t a < t.nodes) ∧ tailT t a ≠ headT t a ∧ 1 ≤ costT t a ∧ costT t a ≤ 65535 := by
  have ha : arcsT t = 2 * t.links.length := by rw [arcsT, if_pos hv]
  have hx : t.links[(a / 2).toNat]? = some (t.links[(a / 2).toNat]'(by omega)) := List.getElem?_eq_getElem (by omega)
  have hk := okLk_spec.1 ((validT_spec.1 hv).2.2.2 _ (List.getElem_mem (l := t.links) (n := (a / 2).toNat) (by omega)))
  have hl : lkAt t a = t.links[(a / 2).toNat]'(by omega) := by rw [lkAt, hx]; rfl
  rw [← hl] at hk
  have hin : 0 ≤ a ∧ a < arcsT t := by omega
  simp only [tailT, headT, costT, if_pos hin]
  by_cases h : a % 2 = 0
  · simp only [if_pos h]; omega
  · simp only [if_neg h]; omega

theorem xy_facts {t : Top} (hv : validT t = true) (fr : Bool) {a : Int} (h0 : 0 ≤ a) (h1 : a < 2 * t.links.length) :
    (0 ≤ xOf t fr a ∧ xOf t fr a < t.nodes) ∧ (0 ≤ yOf t fr a ∧ yOf t fr a < t.nodes) ∧ xOf t fr a ≠ yOf t fr a := by
  have := arc_facts hv h0 h1
  cases fr
  · simp only [xOf, yOf, Bool.false_eq_true, if_false]; exact ⟨this.1, this.2.1, this.2.2.1⟩
  · simp only [xOf, yOf, if_true]; exact ⟨this.2.1, this.1, fun h => this.2.2.1 h.symm⟩

theorem dist_le {t : Top} (hv : validT t = true) {down : List Bool} {e : Int} {fr : Bool} {D D' : List Int} (h : IsDist t down e fr D) (h' : IsDist t down e fr D') : ∀ (n : Nat) (x : Int), 0 ≤ x → x < t.nodes → gt D x = n → 0 ≤ gt D' x ∧ gt D' x ≤ n := by
  intro n
  induction n using Nat.strongRecOn with
  | _ n ih =>
    intro x h0 h1 hx
    by_cases hxe : x = e
    · subst hxe; rw [h'.zero]; omega
    · obtain ⟨a, a0, a1, ha, hxa, hy, hd⟩ := h.tight x h0 h1 hxe (by omega)
      have hf := xy_facts hv fr a0 a1
      have hc := arc_facts hv a0 a1
      obtain ⟨i0, i1⟩ := ih (gt D (yOf t fr a)).toNat (by omega) (yOf t fr a) hf.2.1.1 hf.2.1.2 (by omega)
      obtain ⟨j0, j1⟩ := h'.fix a a0 a1 ha i0
      rw [hxa] at j0 j1
      exact ⟨j0, by omega⟩

theorem dist_unique {t : Top} (hv : validT t = true) {down : List Bool} {e : Int} {fr : Bool} {D D' : List Int} (h : IsDist t down e fr D) (h' : IsDist t down e fr D') : D = D' := by
  have hl := h.len
  have hl' := h'.len
  have key : ∀ x : Int, 0 ≤ x → x < t.nodes → gt D x = gt D' x := by
    intro x h0 h1
    have l1 := h.lo x h0 h1
    have l2 := h'.lo x h0 h1
    by_cases c : 0 ≤ gt D x
    · have e1 := dist_le hv h h' (gt D x).toNat x h0 h1 (by omega)
      have e2 := dist_le hv h' h (gt D' x).toNat x h0 h1 (by omega)
      omega
    · by_cases c' : 0 ≤ gt D' x
      · have e2 := dist_le hv h' h (gt D' x).toNat x h0 h1 (by omega)
        omega
      · omega
  apply List.ext_getElem?
  intro i
  rcases Nat.lt_or_ge i D.length with hi | hi
  · have := key (i : Int) (by omega) (by omega)
    simp only [gt, Int.toNat_natCast, List.getD_eq_getElem?_getD, List.getElem?_eq_getElem hi, List.getElem?_eq_getElem (show i < D'.length by omega), Option.getD_some] at this
    rw [List.getElem?_eq_getElem hi, List.getElem?_eq_getElem (by omega), this]
  · rw [List.getElem?_eq_none hi, List.getElem?_eq_none (by omega)]

/-- the distances -/
noncomputable def distS (t : Top) (down : List Bool) (e : Int) (fr : Bool) : List Int := by
  classical
  exact if h : ∃ D, IsDist t down e fr D then Classical.choose h else []

theorem distS_eq {t : Top} (hv : validT t = true) {down : List Bool} {e : Int} {fr : Bool} {D : List Int} (h : IsDist t down e fr D) : distS t down e fr = D := by
  have hx : ∃ D, IsDist t down e fr D := ⟨D, h⟩
  unfold distS
  rw [dif_pos hx]
  exact dist_unique hv (Classical.choose_spec hx) h

/-! While the distances are searched for. -/
def wt (d : Int) : Nat := if d < 0 then 5000000 else d.toNat
def msr (D : List Int) : Nat := (D.map wt).sum
def cntD (D : List Int) : Nat := (D.map fun d => if d < 0 then 0 else 1).sum

theorem sum_set (f : Int → Nat) : ∀ (D : List Int) (i : Nat) (v : Int) (u : Int), D[i]? = some u → ((D.set i v).map f).sum + f u = (D.map f).sum + f v := by
  intro D
  induction D with
  | nil => intro i v u h; simp at h
  | cons d D ih =>
    intro i v u h
    cases i with
    | zero => simp at h; subst h; simp; omega
    | succ i =>
      simp only [List.getElem?_cons_succ] at h
      have := ih i v u h
      simp only [List.set_cons_succ, List.map_cons, List.sum_cons]
      omega

theorem cnt_le : ∀ (D : List Int), cntD D ≤ D.length := by
  intro D
  induction D with
  | nil => simp [cntD]
  | cons d D ih => simp only [cntD, List.map_cons, List.sum_cons, List.length_cons] at *; split <;> omega

structure Mid (t : Top) (down : List Bool) (e : Int) (fr : Bool) (D : List Int) : Prop where
  len : (D.length : Int) = t.nodes
  zero : gt D e = 0
  lo : ∀ i, 0 ≤ i → i < t.nodes → -1 ≤ gt D i
  hi : ∀ i, 0 ≤ i → i < t.nodes → gt D i ≤ 65535 * cntD D
  loose : ∀ x, 0 ≤ x → x < t.nodes → x ≠ e → 0 ≤ gt D x → ∃ a : Int, 0 ≤ a ∧ a < 2 * t.links.length ∧ okArc t down e fr a = true ∧ xOf t fr a = x ∧ 0 ≤ gt D (yOf t fr a) ∧ gt D (yOf t fr a) + costT t a ≤ gt D x

theorem Mid.le {t : Top} (hv : validT t = true) {down : List Bool} {e : Int} {fr : Bool} {D : List Int} (h : Mid t down e fr D) {i : Int} (h0 : 0 ≤ i) (h1 : i < t.nodes) : gt D i ≤ 4194240 := by
  have := h.hi i h0 h1
  have h2 := cnt_le D
  have h3 := h.len
  have h4 := (validT_spec.1 hv).1
  omega

theorem Mid.dist {t : Top} {down : List Bool} {e : Int} {fr : Bool} {D : List Int} (h : Mid t down e fr D) (hf : ∀ a : Int, 0 ≤ a → a < 2 * t.links.length → fixAt t down e fr D a) : IsDist t down e fr D where
  len := h.len
  zero := h.zero
  lo := h.lo
  fix := hf
  tight x h0 h1 hx hd := by
    obtain ⟨a, a0, a1, ha, hxa, hy, hc⟩ := h.loose x h0 h1 hx hd
    have := (hf a a0 a1 ha hy).2
    rw [hxa] at this
    exact ⟨a, a0, a1, ha, hxa, hy, by omega⟩

theorem gt_set {D : List Int} {i j : Int} {v : Int} (h0 : 0 ≤ i) (h1 : i < D.length) (j0 : 0 ≤ j) : gt (D.set i.toNat v) j = if j = i then v else gt D j := by
  simp only [gt, List.getD_eq_getElem?_getD, List.getElem?_set]
  by_cases h : j = i
  · subst h; simp [show j.toNat < D.length by omega]
  · have : i.toNat ≠ j.toNat := by omega
    simp [this, h]

theorem Mid.step {t : Top} (hv : validT t = true) {down : List Bool} {e : Int} {fr : Bool} {D : List Int} (h : Mid t down e fr D) {a : Int} (a0 : 0 ≤ a) (a1 : a < 2 * t.links.length) (ha : okArc t down e fr a = true) (hy : 0 ≤ gt D (yOf t fr a))
    (hc : gt D (xOf t fr a) < 0 ∨ gt D (yOf t fr a) + costT t a < gt D (xOf t fr a)) : Mid t down e fr (D.set (xOf t fr a).toNat (gt D (yOf t fr a) + costT t a)) ∧ msr (D.set (xOf t fr a).toNat (gt D (yOf t fr a) + costT t a)) < msr D := by
  have hf := xy_facts hv fr a0 a1
  have hcs := (arc_facts hv a0 a1).2.2.2
  have hlen := h.len
  generalize hX : xOf t fr a = X at *
  generalize hY : yOf t fr a = Y at *
  generalize hC : gt D Y + costT t a = C at *
  have hXl : X < D.length := by omega
  have hg : ∀ j, 0 ≤ j → gt (D.set X.toNat C) j = if j = X then C else gt D j := fun j j0 => gt_set hf.1.1 hXl j0
  have hget : D[X.toNat]? = some (gt D X) := by
    simp only [gt, List.getD_eq_getElem?_getD, List.getElem?_eq_getElem (show X.toNat < D.length by omega), Option.getD_some]
  have hYle := h.hi Y hf.2.1.1 hf.2.1.2
  have hs1 := sum_set wt D X.toNat C (gt D X) hget
  have hs2 := sum_set (fun d => if d < 0 then 0 else 1) D X.toNat C (gt D X) hget
  have hYm := h.le hv hf.2.1.1 hf.2.1.2
  have hXe : X ≠ e := by
    intro hh
    rw [hh, h.zero] at hc
    omega
  have hcnt : cntD (D.set X.toNat C) = cntD D + (if gt D X < 0 then 1 else 0) := by
    simp only [cntD]
    simp only [show ¬ C < 0 by omega, if_false] at hs2
    by_cases hX0 : gt D X < 0
    · rw [if_pos hX0] at hs2 ⊢; omega
    · rw [if_neg hX0] at hs2 ⊢; omega
  refine ⟨⟨by simp only [List.length_set]; exact hlen, ?_, ?_, ?_, ?_⟩, ?_⟩
  · have he : gt D e = 0 := h.zero
    by_cases e0 : 0 ≤ e
    · rw [hg e e0, if_neg (fun hh => hXe hh.symm)]; exact he
    · simp only [gt, show e.toNat = 0 by omega] at he ⊢
      by_cases x0 : X = 0
      · exfalso
        have hXg : gt D X = 0 := by rw [x0]; exact he
        rw [hXg] at hc; omega
      · rw [List.getD_eq_getElem?_getD, List.getElem?_set_ne (by omega), ← List.getD_eq_getElem?_getD]; exact he
  · intro i i0 i1
    rw [hg i i0]
    split
    · omega
    · exact h.lo i i0 i1
  · intro i i0 i1
    rw [hg i i0, hcnt]
    have hi := h.hi i i0 i1
    split
    · split
      · omega
      · have hX := h.hi X hf.1.1 hf.1.2
        omega
    · split <;> omega
  · intro x x0 x1 hxe hd
    rw [hg x x0] at hd ⊢
    by_cases hxX : x = X
    · subst hxX
      refine ⟨a, a0, a1, ha, hX, ?_, ?_⟩
      · rw [hY, hg Y hf.2.1.1, if_neg (fun hh => hf.2.2 hh.symm)]; exact hy
      · rw [hY, hg Y hf.2.1.1, if_neg (fun hh => hf.2.2 hh.symm), if_pos rfl]; omega
    · rw [if_neg hxX] at hd ⊢
      obtain ⟨b, b0, b1, hb, hxb, hyb, hcb⟩ := h.loose x x0 x1 hxe hd
      have hfb := xy_facts hv fr b0 b1
      refine ⟨b, b0, b1, hb, hxb, ?_, ?_⟩
      · rw [hg _ hfb.2.1.1]
        split <;> omega
      · rw [hg _ hfb.2.1.1]
        split
        · rename_i hh; rw [hh] at hyb hcb; omega
        · exact hcb
  · simp only [msr]
    have w1 : wt C = C.toNat := by rw [wt, if_neg (by omega)]
    have w2 : wt (gt D X) > C.toNat := by
      rw [wt]
      split <;> omega
    omega

end Go.Ab
