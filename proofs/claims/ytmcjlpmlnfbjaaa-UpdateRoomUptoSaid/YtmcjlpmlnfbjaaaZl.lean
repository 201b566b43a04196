/-
  Merged texts, part l.
-/
import Derived.Test.YtmcjlpmlnfbjaaaZk
/-
  Updates, part a: steps that replace parts of a load, plainly.
-/
namespace Go.Ab
open Go.Proofs
structure Stps where
 (n w : Nat)
 (B A : Nat → Nat → Int)
 (S C : Nat → Int)
def sumN (f : Nat → Int) : Nat → Int
 | 0 => 0
 | k + 1 => sumN f k + f k
def Stps.tm (J : Stps) (m : Nat) (mv : Int) (e i : Nat) : Int := if (i : Int) = mv then max (J.B i e) (J.A i e) else if m.testBit i = true then J.A i e else J.B i e
def Stps.load (J : Stps) (m : Nat) (mv : Int) (e : Nat) : Int := J.S e + sumN (J.tm m mv e) J.n
def Stps.Fit (J : Stps) (m : Nat) (mv : Int) : Prop := ∀ e, e < J.w → J.load m mv e ≤ J.C e
instance (J : Stps) (m : Nat) (mv : Int) : Decidable (J.Fit m mv) := by unfold Stps.Fit; infer_instance
theorem sumN_le {f g : Nat → Int} : ∀ n, (∀ i, i < n → f i ≤ g i) → sumN f n ≤ sumN g n := by
 intro n
 induction n with
 | zero => intro _; exact Int.le_refl _
 | succ n ih =>
  intro h
  have h1 := ih fun i hi => h i (by omega)
  have h2 := h n (by omega)
  simp only [sumN]; omega
theorem Stps.Fit.le {J : Stps} {m m' : Nat} {mv mv' : Int} (h : J.Fit m mv) (hle : ∀ e, e < J.w → ∀ i, i < J.n → J.tm m' mv' e i ≤ J.tm m mv e i) : J.Fit m' mv' := by
 intro e he
 have h1 := h e he
 have h2 := sumN_le J.n (hle e he)
 simp only [Stps.load] at *; omega
def bitS (m i : Nat) : Nat := m ||| 2 ^ i
theorem tb_set (m i j : Nat) : (bitS m i).testBit j = (m.testBit j || decide (i = j)) := by
 rw [bitS, Nat.testBit_or, Nat.testBit_two_pow]
theorem tb_set_self (m i : Nat) : (bitS m i).testBit i = true := by rw [tb_set]; simp
theorem tb_set_ne {m i j : Nat} (h : i ≠ j) : (bitS m i).testBit j = m.testBit j := by rw [tb_set]; simp [h]
theorem tb_set_of {m i j : Nat} (h : m.testBit j = true) : (bitS m i).testBit j = true := by rw [tb_set, h]; rfl
def cnt : Nat → Nat → Nat
 | 0, _ => 0
 | n + 1, m => cnt n m + if m.testBit n = true then 0 else 1
theorem cnt_out {m i : Nat} : ∀ {n : Nat}, n ≤ i → cnt n (bitS m i) = cnt n m := by
 intro n
 induction n with
 | zero => intro _; rfl
 | succ n ih =>
  intro h
  rw [cnt, cnt, ih (by omega), tb_set_ne (by omega)]
theorem cnt_set {m i : Nat} (hm : m.testBit i = false) : ∀ {n : Nat}, i < n → cnt n (bitS m i) + 1 = cnt n m := by
 intro n
 induction n with
 | zero => intro h; omega
 | succ n ih =>
  intro h
  rw [cnt, cnt]
  by_cases e : i = n
  ·subst e
   rw [cnt_out (Nat.le_refl _), tb_set_self, hm]; simp
  ·rw [tb_set_ne e]
   have := ih (by omega)
   omega
theorem cnt_zero {m : Nat} : ∀ {n : Nat}, cnt n m = 0 → ∀ i, i < n → m.testBit i = true := by
 intro n
 induction n with
 | zero => intro _ i hi; omega
 | succ n ih =>
  intro h i hi
  rw [cnt] at h
  by_cases e : i = n
  ·subst e
   cases hb : m.testBit i with
   | true => rfl
   | false => rw [hb] at h; simp at h
  ·exact ih (by omega) i (by omega)
theorem cnt_none : ∀ {n : Nat}, cnt n 0 = n := by
 intro n
 induction n with
 | zero => rfl
 | succ n ih => rw [cnt, ih]; simp
def Can (J : Stps) : Nat → Nat → Prop
 | 0, _ => True
 | k + 1, m => ∃ i, i < J.n ∧ m.testBit i = false ∧ J.Fit m i ∧ Can J k (bitS m i)
def Stps.shr (J : Stps) (i : Nat) : Prop := ∀ e, e < J.w → J.A i e ≤ J.B i e
def Stps.gro (J : Stps) (i : Nat) : Prop := ∀ e, e < J.w → J.B i e ≤ J.A i e
structure Kinds (J : Stps) (sh mx : Nat) : Prop where
 sh : ∀ i, sh.testBit i = true ↔ i < J.n ∧ J.shr i
 mx : ∀ i, mx.testBit i = true ↔ i < J.n ∧ ¬ J.shr i ∧ ¬ J.gro i
def CM (J : Stps) (mx : Nat) : Nat → Nat → Prop
 | 0, _ => True
 | k + 1, m => (∀ i, mx.testBit i = true → m.testBit i = true) ∨ ∃ i, i < J.n ∧ mx.testBit i = true ∧ m.testBit i = false ∧ J.Fit m i ∧ CM J mx k (bitS m i)
structure Ahead (J : Stps) (mx m m' : Nat) : Prop where
 s : ∀ i, i < J.n → J.shr i → m'.testBit i = true
 x : ∀ i, mx.testBit i = true → m'.testBit i = m.testBit i
 g : ∀ i, i < J.n → ¬ J.shr i → J.gro i → m'.testBit i = true → m.testBit i = true
theorem Ahead.fit {J : Stps} {sh mx m m' : Nat} (hk : Kinds J sh mx) (h : Ahead J mx m m') {i : Nat} (hf : J.Fit m i) : J.Fit m' i := by
 refine hf.le fun e he j hj => ?_
 unfold Stps.tm
 by_cases e1 : (j : Int) = i
 ·rw [if_pos e1, if_pos e1]; exact Int.le_refl _
 rw [if_neg e1, if_neg e1]
 by_cases h1 : J.shr j
 ·rw [if_pos (h.s j hj h1)]
  have := h1 e he
  split <;> omega
 ·by_cases h2 : J.gro j
  ·have h3 := h.g j hj h1 h2
   have := h2 e he
   cases hb : m'.testBit j with
   | true => rw [h3 hb]; exact Int.le_refl _
   | false =>
    rw [if_neg (by simp)]
    split <;> omega
  ·rw [h.x j ((hk.mx j).2 ⟨hj, h1, h2⟩)]; exact Int.le_refl _
theorem can_cm {J : Stps} {sh mx : Nat} (hk : Kinds J sh mx) : ∀ (k m m' : Nat), cnt J.n m = k → Ahead J mx m m' → Can J k m → CM J mx (cnt J.n m') m' := by
  intro k
  induction k with
  | zero =>
    intro m m' hc ha _
    have hf := cnt_zero hc
    have : ∀ i, mx.testBit i = true → m'.testBit i = true := fun i hi => by
      rw [ha.x i hi]; exact hf i ((hk.mx i).1 hi).1
    cases hc' : cnt J.n m' with
    | zero => trivial
    | succ k' => exact .inl this
  | succ k ih =>
    rintro m m' hc ha ⟨i, hi, hb, hf, hcan⟩
    have hc1 := cnt_set hb hi
    by_cases hx : mx.testBit i = true
    · have hb' : m'.testBit i = false := by rw [ha.x i hx]; exact hb
      have hc2 := cnt_set hb' hi
      have h1 : Ahead J mx (bitS m i) (bitS m' i) :=
        { s := fun j hj h => tb_set_of (ha.s j hj h)
          x := fun j hj => by rw [tb_set, tb_set, ha.x j hj]
          g := fun j hj h h' hb => by
            rw [tb_set, Bool.or_eq_true] at hb ⊢
            rcases hb with hb | hb
            · exact .inl (ha.g j hj h h' hb)
            · exact .inr hb }
      have h2 := ih (bitS m i) (bitS m' i) (by omega) h1 hcan
      rw [← hc2]
      exact .inr ⟨i, hi, hx, hb', ha.fit hk hf, h2⟩
    · have h1 : Ahead J mx (bitS m i) m' :=
        { s := ha.s
          x := fun j hj => by
            rw [tb_set_ne (fun e => by subst e; exact hx hj)]; exact ha.x j hj
          g := fun j hj h h' hb => tb_set_of (ha.g j hj h h' hb) }
      exact ih (bitS m i) m' (by omega) h1 hcan
theorem cm_can {J : Stps} {sh mx : Nat} (hk : Kinds J sh mx) {fu : Nat} (hfu : ∀ i, i < J.n → fu.testBit i = true) (hfit : J.Fit fu (-1)) :
  ∀ (k m : Nat), cnt J.n m = k → (∀ i, sh.testBit i = true → m.testBit i = true) → CM J mx k m → Can J k m := by
 intro k
 induction k with
 | zero => intro _ _ _ _; trivial
 | succ k ih =>
  intro m hc hs hcm
  rcases hcm with h1 | ⟨i, hi, hx, hb, hf, hcm⟩
  ·have : ∃ i, i < J.n ∧ m.testBit i = false := by
    apply Classical.byContradiction
    intro hno
    have : ∀ n, n ≤ J.n → cnt n m = 0 := by
     intro n
     induction n with
     | zero => intro _; rfl
     | succ n ih =>
      intro hn
      have hb : m.testBit n = true := by
       cases hb : m.testBit n with
       | true => rfl
       | false => exact absurd ⟨n, by omega, hb⟩ hno
      rw [cnt, ih (by omega), if_pos hb]
    have := this J.n (Nat.le_refl _)
    omega
   obtain ⟨i, hi, hb⟩ := this
   have hc1 := cnt_set hb hi
   have gr : ∀ j, j < J.n → m.testBit j = false → J.gro j := fun j hj hbj => by
    apply Classical.byContradiction
    intro hg
    by_cases hsj : J.shr j
    ·have := hs j ((hk.sh j).2 ⟨hj, hsj⟩)
     rw [hbj] at this; cases this
    ·have := h1 j ((hk.mx j).2 ⟨hj, hsj, hg⟩)
     rw [hbj] at this; cases this
   have hf : J.Fit m i := hfit.le fun e he j hj => by
    unfold Stps.tm
    rw [if_neg (show ¬ (j : Int) = -1 by omega), hfu j hj, if_pos rfl]
    cases hbj : m.testBit j with
    | true =>
     by_cases e1 : (j : Int) = i
     ·have : j = i := by omega
      subst this; rw [hb] at hbj; cases hbj
     ·rw [if_neg e1, if_pos rfl]; exact Int.le_refl _
    | false =>
     have := gr j hj hbj e he
     split
     ·omega
     ·rw [if_neg (by simp)]; exact this
   refine ⟨i, hi, hb, hf, ih (bitS m i) (by omega) (fun j hj => tb_set_of (hs j hj)) ?_⟩
   cases k with
   | zero => trivial
   | succ k => exact .inl fun j hj => tb_set_of (h1 j hj)
  ·have hc1 := cnt_set hb hi
   exact ⟨i, hi, hb, hf, ih (bitS m i) (by omega) (fun j hj => tb_set_of (hs j hj)) hcm⟩
theorem fit_after {J : Stps} {m i : Nat} (hb : m.testBit i = false) (h : J.Fit m i) : J.Fit (bitS m i) (-1) := h.le fun e _ j _ => by
 unfold Stps.tm
 rw [if_neg (show ¬ (j : Int) = -1 by omega)]
 by_cases e1 : (j : Int) = i
 ·have : j = i := by omega
  subst this
  rw [if_pos rfl, tb_set_self, if_pos rfl]; omega
 ·rw [if_neg e1, tb_set_ne (by omega)]; exact Int.le_refl _
theorem can_sh {J : Stps} {sh mx : Nat} (hk : Kinds J sh mx) : ∀ (k m : Nat), cnt J.n m = k → J.Fit m (-1) → Can J (cnt J.n (m ||| sh)) (m ||| sh) → Can J k m := by
 intro k
 induction k with
 | zero => intro _ _ _ _; trivial
 | succ k ih =>
  intro m hc hf hcan
  by_cases hall : ∀ i, sh.testBit i = true → m.testBit i = true
  ·have : m ||| sh = m := by
    apply Nat.eq_of_testBit_eq
    intro i
    rw [Nat.testBit_or]
    cases hb : sh.testBit i with
    | true => rw [hall i hb]; rfl
    | false => simp
   rw [this, hc] at hcan
   exact hcan
  ·obtain ⟨i, hi⟩ := Classical.not_forall.1 hall
   obtain ⟨hsi, hb⟩ := Classical.not_imp.1 hi
   have hb : m.testBit i = false := by simpa using hb
   obtain ⟨hin, hsh⟩ := (hk.sh i).1 hsi
   have hc1 := cnt_set hb hin
   have hfi : J.Fit m i := hf.le fun e he j hj => by
    unfold Stps.tm
    rw [if_neg (show ¬ (j : Int) = -1 by omega)]
    by_cases e1 : (j : Int) = i
    ·have : j = i := by omega
     subst this
     have := hsh e he
     rw [if_pos rfl, hb, if_neg (by simp)]; omega
    ·rw [if_neg e1]; exact Int.le_refl _
   have e2 : bitS m i ||| sh = m ||| sh := by
    apply Nat.eq_of_testBit_eq
    intro j
    rw [Nat.testBit_or, Nat.testBit_or, tb_set]
    by_cases e : i = j
    ·subst e; rw [hsi]; simp
    ·simp [e]
   refine ⟨i, hin, hb, hfi, ih (bitS m i) (by omega) (fit_after hb hfi) (by rw [e2]; exact hcan)⟩
theorem complete_spec {J : Stps} {sh mx : Nat} (hk : Kinds J sh mx) {fu : Nat} (hfu : ∀ i, i < J.n → fu.testBit i = true) (hfit : J.Fit fu (-1)) {m : Nat} (hf : J.Fit m (-1)) :
  CM J mx (cnt J.n (m ||| sh)) (m ||| sh) ↔ Can J (cnt J.n m) m := by
 constructor
 ·intro h
  exact can_sh hk _ m rfl hf (cm_can hk hfu hfit _ _ rfl (fun i hi => by rw [Nat.testBit_or, hi]; simp) h)
 ·intro h
  refine can_cm hk _ m (m ||| sh) rfl ⟨fun i hi hs => ?_, fun i hi => ?_, fun i hi h1 _ hb => ?_⟩ h
  ·rw [Nat.testBit_or, (hk.sh i).2 ⟨hi, hs⟩]; simp
  ·have : sh.testBit i = false := by
    cases hb : sh.testBit i with
    | false => rfl
    | true => exact absurd ((hk.sh i).1 hb).2 ((hk.mx i).1 hi).2.1
   rw [Nat.testBit_or, this]; simp
  ·rw [Nat.testBit_or, Bool.or_eq_true] at hb
   rcases hb with hb | hb
   ·exact hb
   ·exact absurd ((hk.sh i).1 hb).2 h1
def fndN {α : Type} (p : Nat → Option α) : Nat → Nat → Option α
 | 0, _ => none
 | f + 1, i => match p i with
  | some x => some x
  | none => fndN p f (i + 1)
theorem fndN_hit {α : Type} {p : Nat → Option α} {x : Option α} {i : Nat} (hx : p i = x) (hs : x.isSome = true) : ∀ {f i0 : Nat}, i0 ≤ i → i < i0 + f → (∀ j, i0 ≤ j → j < i → p j = none) → fndN p f i0 = x := by
 intro f
 induction f with
 | zero => intro i0 h1 h2; omega
 | succ f ih =>
  intro i0 h1 h2 h3
  rw [fndN]
  by_cases e : i0 = i
  ·subst e
   rw [hx]
   cases x with
   | none => cases hs
   | some x => rfl
  ·rw [h3 i0 (Nat.le_refl _) (by omega)]
   exact ih (by omega) (by omega) fun j hj => h3 j (by omega)
theorem fndN_no {α : Type} {p : Nat → Option α} : ∀ {f i0 : Nat}, (∀ j, i0 ≤ j → j < i0 + f → p j = none) → fndN p f i0 = none := by
 intro f
 induction f with
 | zero => intro i0 _; rfl
 | succ f ih =>
  intro i0 h
  rw [fndN, h i0 (Nat.le_refl _) (by omega)]
  exact ih fun j h1 h2 => h j (by omega) (by omega)
theorem fndN_some {α : Type} {p : Nat → Option α} {x : α} : ∀ {f i0 : Nat}, fndN p f i0 = some x → ∃ j, i0 ≤ j ∧ j < i0 + f ∧ p j = some x := by
 intro f
 induction f with
 | zero => intro i0 h; cases h
 | succ f ih =>
  intro i0 h
  rw [fndN] at h
  split at h
  ·rename_i y hy
   cases h
   exact ⟨i0, Nat.le_refl _, by omega, hy⟩
  ·obtain ⟨j, h1, h2, h3⟩ := ih h
   exact ⟨j, by omega, by omega, h3⟩
theorem fndN_none {α : Type} {p : Nat → Option α} : ∀ {f i0 : Nat}, fndN p f i0 = none → ∀ j, i0 ≤ j → j < i0 + f → p j = none := by
 intro f
 induction f with
 | zero => intro i0 _ j h1 h2; omega
 | succ f ih =>
  intro i0 h j h1 h2
  rw [fndN] at h
  split at h
  ·cases h
  ·rename_i hy
   by_cases e : i0 = j
   ·subst e; exact hy
   ·exact ih h j (by omega) (by omega)
def dfs (J : Stps) : Nat → Nat → List Nat → Option (List Nat)
 | 0, _, acc => some acc
 | k + 1, m, acc => fndN (fun i => if m.testBit i = false ∧ J.Fit m i then dfs J k (bitS m i) (acc ++ [i]) else none) J.n 0
theorem dfs_can {J : Stps} : ∀ (k m : Nat) (acc : List Nat), (dfs J k m acc).isSome = true ↔ Can J k m := by
 intro k
 induction k with
 | zero => intro m acc; simp [dfs, Can]
 | succ k ih =>
  intro m acc
  constructor
  ·intro h
   obtain ⟨x, hx⟩ := Option.isSome_iff_exists.1 h
   obtain ⟨i, _, h2, h3⟩ := fndN_some hx
   split at h3
   ·rename_i hc
    exact ⟨i, by omega, hc.1, hc.2, (ih _ (acc ++ [i])).1 (by rw [h3]; rfl)⟩
   ·cases h3
  ·rintro ⟨i, h1, h2, h3, h4⟩
   cases hd : dfs J (k + 1) m acc with
   | some x => rfl
   | none =>
    have := fndN_none hd i (Nat.zero_le _) (by omega)
    rw [if_pos ⟨h2, h3⟩] at this
    have h5 := (ih (bitS m i) (acc ++ [i])).2 h4
    rw [this] at h5; cases h5
def Good (J : Stps) (k m i : Nat) : Prop := m.testBit i = false ∧ J.Fit m i ∧ Can J k (bitS m i)
theorem dfs_bad {J : Stps} {k m i : Nat} {acc : List Nat} (h : ¬ Good J k m i) : (if m.testBit i = false ∧ J.Fit m i then dfs J k (bitS m i) (acc ++ [i]) else none) = none := by
 split
 ·rename_i hc
  cases hd : dfs J k (bitS m i) (acc ++ [i]) with
  | none => rfl
  | some x => exact absurd ⟨hc.1, hc.2, (dfs_can _ _ (acc ++ [i])).1 (by rw [hd]; rfl)⟩ h
 ·rfl
theorem dfs_step {J : Stps} {k m i : Nat} {acc : List Nat} (hi : i < J.n) (h : Good J k m i) (hb : ∀ j, j < i → ¬ Good J k m j) : dfs J (k + 1) m acc = dfs J k (bitS m i) (acc ++ [i]) := by
 rw [dfs]
 exact fndN_hit (by rw [if_pos ⟨h.1, h.2.1⟩]) ((dfs_can _ _ _).2 h.2.2) (Nat.zero_le _) (by omega) fun j _ hj => dfs_bad (hb j hj)
theorem dfs_none {J : Stps} {k m : Nat} {acc : List Nat} (hb : ∀ j, j < J.n → ¬ Good J k m j) : dfs J (k + 1) m acc = none :=
 fndN_no fun j _ hj => dfs_bad (hb j (by omega))
def Seq (J : Stps) : Nat → List Nat → Prop
 | _, [] => True
 | m, i :: s => J.Fit m i ∧ J.Fit (bitS m i) (-1) ∧ Seq J (bitS m i) s
def Fresh (J : Stps) : Nat → List Nat → Prop
 | _, [] => True
 | m, i :: s => i < J.n ∧ m.testBit i = false ∧ Fresh J (bitS m i) s
theorem dfs_seq {J : Stps} : ∀ (k m : Nat) (acc o : List Nat), dfs J k m acc = some o → ∃ s, o = acc ++ s ∧ s.length = k ∧ Fresh J m s ∧ Seq J m s := by
 intro k
 induction k with
 | zero => intro m acc o h; cases h; exact ⟨[], by simp, rfl, trivial, trivial⟩
 | succ k ih =>
  intro m acc o h
  obtain ⟨i, _, h2, h3⟩ := fndN_some h
  split at h3
  ·rename_i hc
   obtain ⟨s, g1, g2, g3, g4⟩ := ih _ _ _ h3
   exact ⟨i :: s, by rw [g1]; simp, by simp [g2], ⟨by omega, hc.1, g3⟩, ⟨hc.2, fit_after hc.1 hc.2, g4⟩⟩
  ·cases h3
end Go.Ab

/-
  Contracts, part b: topologies.
-/
namespace Go.Ab
open Go.Proofs
def okLk (n : Int) (l : Lk) : Bool :=
 decide (0 ≤ l.a ∧ l.a ≤ n - 1) && decide (0 ≤ l.b ∧ l.b ≤ n - 1) && !decide (l.a = l.b) && decide (1 ≤ l.c0 ∧ l.c0 ≤ 65535) && decide (1 ≤ l.c1 ∧ l.c1 ≤ 65535) &&
 decide (0 ≤ l.cap ∧ l.cap ≤ 1048576) && decide (1 ≤ l.dl ∧ l.dl ≤ 65536) && decide (0 ≤ l.gr ∧ l.gr ≤ 64)
def validT (t : Top) : Bool :=
 decide (1 ≤ t.nodes ∧ t.nodes ≤ 64) && (decide (t.ov.length = 0) || decide ((t.ov.length : Int) = t.nodes)) && decide (t.links.length ≤ 256) && t.links.all (okLk t.nodes)
theorem okLk_spec {n : Int} {l : Lk} : okLk n l = true ↔ (0 ≤ l.a ∧ l.a ≤ n - 1) ∧ (0 ≤ l.b ∧ l.b ≤ n - 1) ∧ l.a ≠ l.b ∧ (1 ≤ l.c0 ∧ l.c0 ≤ 65535) ∧ (1 ≤ l.c1 ∧ l.c1 ≤ 65535) ∧
  (0 ≤ l.cap ∧ l.cap ≤ 1048576) ∧ (1 ≤ l.dl ∧ l.dl ≤ 65536) ∧ (0 ≤ l.gr ∧ l.gr ≤ 64) := by
 simp only [okLk, Bool.and_eq_true, decide_eq_true_eq, Bool.not_eq_true', decide_eq_false_iff_not, and_assoc, ne_eq]
theorem validT_spec {t : Top} : validT t = true ↔ (1 ≤ t.nodes ∧ t.nodes ≤ 64) ∧ ((t.ov.length : Int) = 0 ∨ (t.ov.length : Int) = t.nodes) ∧ (t.links.length : Int) ≤ 256 ∧ ∀ l ∈ t.links, okLk t.nodes l = true := by
 simp only [validT, Bool.and_eq_true, Bool.or_eq_true, decide_eq_true_eq, List.all_eq_true, and_assoc]
 constructor
 ·rintro ⟨h1, h2, h3, h4, h5⟩; exact ⟨h1, h2, by omega, by omega, h5⟩
 ·rintro ⟨h1, h2, h3, h4, h5⟩; exact ⟨h1, h2, by omega, by omega, h5⟩
theorem valid_ok (P : Program) (hP : P = Try.prog) (t : Top) : Ret P n_ref09_Valid [topA t] (bA (validT t)) := by
 refine ret_start (hP ▸ mixed) (hP ▸ fn_ref09_Valid) (hP ▸ c_ref09_Valid) (Nat.le_of_ble_eq_true rfl) fun Λ Λo K hK => ?_
 have hw := within_ok P hP
 clear hP
 obtain ⟨nodes, ov, links⟩ := t
 simp only [topA, boolsD, linksD] at *
 generalize hol : ov.map encB = ol at *
 generalize hll : links.map encLk = ll at *
 have hlo : Λ ol = ov.length := by rw [Λo, ← hol]; simp
 have hls : Λ ll = links.length := by rw [Λo, ← hll]; simp
 have leaf : ∀ b, validT ⟨nodes, ov, links⟩ = b → K (bA b) := fun b hb => by rw [← hb]; exact hK
 have no : (validT ⟨nodes, ov, links⟩ = true → False) → K (bA false) := fun h => leaf _ (Bool.eq_false_iff.2 h)
 conv => cbv
 repeat' first | refine call_b (hw _ _ _) rfl rfl ?_ ?_ | exact gu | exact trivial | refine And.intro ?_ ?_ | (intro hc; exact absurd hc (by decide)) | (intro hc; exfalso; omega) | (intro hc; (first | rw [wrap_small (by omega) (by omega)] at hc | rw [nI_eq] at hc | skip); try (conv => cbv))
 all_goals try simp only [decide_eq_true_eq, decide_eq_false_iff_not] at *
 all_goals try (refine no fun h => ?_; obtain ⟨h1, h2, h3, h4⟩ := validT_spec.1 h; simp only at h1 h2 h3; omega)
 all_goals
  refine loop_up links.length (fun (i : Int) => [(1, .c (.ptr 0 0 0 0)), (3, iA i)]) (fun _ => [.bx [.d (.int .i64 nodes), .d (.list false 1 ol), .d (.list false 7 ll)]]) (fun k i => i = k ∧ k ≤ links.length ∧ ∀ l ∈ links.take k, okLk nodes l = true) 0 (Wk.cw) ⟨rfl, by omega, by simp⟩ (fun k s h => h.2.1) ?_
  rintro k i Q' ⟨hi, hk, hok⟩ norm ex rt
  conv => cbv
  repeat' first | (refine ex _ _ _ ?_; (conv => cbv)) | (refine rt _ _ ?_; (conv => cbv)) | refine call_b (hw _ _ _) rfl rfl ?_ ?_ | (intro e he; obtain ⟨⟨xa, xb, xc, xd, xe, xf, xg⟩, hx, rfl⟩ := map_get' hll he; (conv => cbv)) | exact gu | exact trivial | refine And.intro ?_ ?_ | (intro hc; exact absurd hc (by decide)) | (intro hc; exfalso; omega) | (intro hc; (first | rw [wrap_small (by omega) (by omega)] at hc | rw [nI_eq] at hc | skip); try (conv => cbv))
 all_goals try simp only [decide_eq_true_eq, decide_eq_false_iff_not] at *
 all_goals try (refine no fun h => ?_; obtain ⟨h1, h2, h3, h4⟩ := validT_spec.1 h; have h5 := okLk_spec.1 (h4 _ (List.mem_of_getElem? hx)); simp only at h5; omega)
 all_goals try (refine leaf _ (validT_spec.2 ⟨by assumption, by simp only; omega, by simp only; omega, fun l hl => hok l ?_⟩); rw [List.take_of_length_le (by omega)]; exact hl)
 all_goals
  refine norm _ _ _ ?_ (Wk.cw)
  refine ⟨by omega, by omega, ?_⟩
  rw [show i.toNat = k by omega] at hx
  rw [take_succ_get hx]
  intro l hl
  rcases List.mem_append.1 hl with hl | hl
  ·exact hok l hl
  ·simp only [List.mem_singleton] at hl
   subst hl
   exact okLk_spec.2 ⟨by simp only; omega, by simp only; omega, by simp only; omega, by simp only; omega, by simp only; omega, by simp only; omega, by simp only; omega, by simp only; omega⟩
def arcsT (t : Top) : Int := if validT t then 2 * t.links.length else 0
def lkAt (t : Top) (a : Int) : Lk := (t.links[(a / 2).toNat]?).getD default
theorem tdiv2 {x : Int} (h1 : 0 ≤ x) (h2 : x < 9223372036854775808) : IntKind.i64.wrap (x.tdiv 2) = x / 2 := by
 rw [Int.tdiv_eq_ediv_of_nonneg h1, wrap64]; omega
theorem arcs_ok (P : Program) (hP : P = Try.prog) (t : Top) : Ret P n_ref09_Arcs [topA t] (iA (arcsT t)) := by
 refine ret_start (hP ▸ mixed) (hP ▸ fn_ref09_Arcs) (hP ▸ c_ref09_Arcs) (Nat.le_of_ble_eq_true rfl) fun Λ Λo K hK => ?_
 have hw := valid_ok P hP t
 clear hP
 have leaf : ∀ b, arcsT t = b → K (iA b) := fun b hb => by rw [← hb]; exact hK
 have h256 : validT t = true → (t.links.length : Int) ≤ 256 := fun h => (validT_spec.1 h).2.2.1
 have ha : arcsT t = if validT t then 2 * (t.links.length : Int) else 0 := rfl
 generalize arcsT t = r at *
 generalize validT t = v at *
 cases v
 all_goals
  obtain ⟨nodes, ov, links⟩ := t
  simp only [topA, boolsD, linksD] at *
  generalize hol : ov.map encB = ol at *
  generalize hll : links.map encLk = ll at *
  have hlo : Λ ol = ov.length := by rw [Λo, ← hol]; simp
  have hls : Λ ll = links.length := by rw [Λo, ← hll]; simp
  simp only [Bool.false_eq_true, if_true, if_false, forall_const] at ha h256
  conv => cbv
  repeat' first | refine call_b hw rfl rfl ?_ ?_ | (intro hc; cases hc; done) | exact gu | exact trivial | refine And.intro ?_ ?_ | (intro hc; exact absurd hc (by decide)) | (intro hc; exfalso; omega) | (intro hc; (first | rw [wrap_small (by omega) (by omega)] at hc | rw [nI_eq] at hc | skip); try (conv => cbv))
 ·exact leaf _ ha
 ·exact leaf _ (by omega)
end Go.Ab

/-
  Updates, part b: sets of tunnels, what they put on the arcs, and orders, plainly.
-/
namespace Go.Ab
open Go.Proofs
structure Tn where
 (id : Int) (arcs : List Int) (rate : Int)
 deriving DecidableEq
def encTn (x : Tn) : List D := [iD x.id, intsD x.arcs, iD x.rate]
abbrev tnsD (l : List Tn) : D := .list false 3 (l.map encTn)
abbrev tnsA (l : List Tn) : AV := .c (.d (tnsD l))
def tnA (x : Tn) : AV := .agg [.d (iD x.id), .d (intsD x.arcs), .d (iD x.rate)]
def namedS (l : List Tn) : Bool := decide ((l.map (·.id)).Nodup) && decide (l.length ≤ 12)
def okTn (n : Int) (x : Tn) : Prop := 0 ≤ x.id ∧ (1 ≤ x.arcs.length ∧ x.arcs.length ≤ 64) ∧ (1 ≤ x.rate ∧ x.rate ≤ 1048576) ∧ x.arcs.Nodup ∧ ∀ a ∈ x.arcs, 0 ≤ a ∧ a < n
instance (n : Int) (x : Tn) : Decidable (okTn n x) := by unfold okTn; infer_instance
def properS (t : Top) (l : List Tn) : Bool := validT t && namedS l && decide (∀ x ∈ l, okTn (2 * (t.links.length : Int)) x)
def findS (l : List Tn) (id : Int) : Option Tn := l.find? fun x => decide (x.id = id)
def eqS (a b : List Tn) (id : Int) : Bool := decide (findS a id = findS b id)
def insS : List Int → Int → List Int
 | [], n => [n]
 | x :: r, n => if x < n then x :: insS r n else if x = n then x :: r else n :: x :: r
def chS (a b : List Tn) : List Int := ((a ++ b).map (·.id)).foldl (fun l i => if eqS a b i = true then l else insS l i) []
def changedS (a b : List Tn) : List Int := if namedS a = true ∧ namedS b = true then chS a b else []
def rateS (l : List Tn) (id arc : Int) : Int := match findS l id with
 | none => 0
 | some x => if arc ∈ x.arcs then x.rate else 0
def stayS (a b : List Tn) (e : Int) : Int := (a.map fun x => if x.id ∈ changedS a b then 0 else if e ∈ x.arcs then x.rate else 0).sum
def stepsT (t : Top) (a b : List Tn) : Stps :=
 { n := (changedS a b).length, w := 2 * t.links.length, B := fun i e => rateS a ((changedS a b).getD i 0) e, A := fun i e => rateS b ((changedS a b).getD i 0) e, S := fun e => stayS a b e, C := fun e => (lkAt t e).cap }
def fullM (n : Nat) : Nat := 2 ^ n - 1
def goodD (ch done : List Int) : Prop := done.Nodup ∧ ∀ x ∈ done, x ∈ ch
instance (ch done : List Int) : Decidable (goodD ch done) := by unfold goodD; infer_instance
instance Seq.dec (J : Stps) : ∀ (l : List Nat) (m : Nat), Decidable (Seq J m l)
 | [], _ => isTrue trivial
 | i :: s, m => by
  have := Seq.dec J s (bitS m i)
  unfold Seq
  infer_instance
def orderRes (t : Top) (a b : List Tn) : List Int × Int :=
 if ¬ (properS t a = true ∧ properS t b = true) then ([], 1) else if ¬ ((stepsT t a b).Fit 0 (-1) ∧ (stepsT t a b).Fit (fullM (changedS a b).length) (-1)) then ([], 12)
 else match dfs (stepsT t a b) (changedS a b).length 0 [] with
  | none => ([], 8)
  | some o => (o.map fun i => (changedS a b).getD i 0, 0)
/-! increasing lists -/
theorem mem_ins {n z : Int} : ∀ {l : List Int}, z ∈ insS l n ↔ z = n ∨ z ∈ l := by
 intro l
 induction l with
 | nil => simp [insS]
 | cons x r ih =>
  rw [insS]
  split
  ·rw [List.mem_cons, ih, List.mem_cons]; exact or_left_comm
  ·split
   ·rename_i h; subst h; simp
   ·rw [List.mem_cons]
theorem sinc_ins {n : Int} : ∀ {l : List Int}, l.Pairwise (· < ·) → (insS l n).Pairwise (· < ·) := by
 intro l
 induction l with
 | nil => intro _; simp [insS]
 | cons x r ih =>
  intro h
  obtain ⟨h1, h2⟩ := List.pairwise_cons.1 h
  rw [insS]
  split
  ·rename_i hx
   refine List.pairwise_cons.2 ⟨fun z hz => ?_, ih h2⟩
   rcases mem_ins.1 hz with rfl | hz
   ·exact hx
   ·exact h1 z hz
  ·split
   ·exact h
   ·refine List.pairwise_cons.2 ⟨fun z hz => ?_, h⟩
    rcases List.mem_cons.1 hz with rfl | hz
    ·omega
    ·have := h1 z hz; omega
theorem fold_insP {p : Int → Bool} : ∀ (l : List Int) (s : List Int), s.Pairwise (· < ·) →
  (l.foldl (fun l i => if p i = true then l else insS l i) s).Pairwise (· < ·) ∧ ∀ z, z ∈ l.foldl (fun l i => if p i = true then l else insS l i) s ↔ z ∈ s ∨ (z ∈ l ∧ p z = false) := by
 intro l
 induction l with
 | nil => intro s h; exact ⟨h, by simp⟩
 | cons x r ih =>
  intro s h
  rw [List.foldl_cons]
  by_cases hp : p x = true
  ·rw [if_pos hp]
   obtain ⟨h1, h2⟩ := ih s h
   refine ⟨h1, fun z => ?_⟩
   rw [h2, List.mem_cons]
   constructor
   ·rintro (h | h)
    ·exact .inl h
    ·exact .inr ⟨.inr h.1, h.2⟩
   ·rintro (h | ⟨rfl | h, hz⟩)
    ·exact .inl h
    ·rw [hp] at hz; cases hz
    ·exact .inr ⟨h, hz⟩
  ·rw [if_neg hp]
   have hp : p x = false := by simpa using hp
   obtain ⟨h1, h2⟩ := ih (insS s x) (sinc_ins h)
   refine ⟨h1, fun z => ?_⟩
   rw [h2, mem_ins, List.mem_cons]
   constructor
   ·rintro ((rfl | h) | h)
    ·exact .inr ⟨.inl rfl, hp⟩
    ·exact .inl h
    ·exact .inr ⟨.inr h.1, h.2⟩
   ·rintro (h | ⟨rfl | h, hz⟩)
    ·exact .inl (.inr h)
    ·exact .inl (.inl rfl)
    ·exact .inr ⟨h, hz⟩
theorem lt_nodup {l : List Int} (h : l.Pairwise (· < ·)) : l.Nodup := h.imp fun h e => by omega
theorem chS_inc (a b : List Tn) : (chS a b).Pairwise (· < ·) := (fold_insP _ [] .nil).1
theorem chS_mem {a b : List Tn} {z : Int} : z ∈ chS a b ↔ (z ∈ a.map (·.id) ∨ z ∈ b.map (·.id)) ∧ eqS a b z = false := by
 rw [chS, (fold_insP _ [] .nil).2]
 simp only [List.not_mem_nil, false_or, List.map_append, List.mem_append]
theorem changed_inc (a b : List Tn) : (changedS a b).Pairwise (· < ·) := by
 unfold changedS
 split
 ·exact chS_inc a b
 ·exact .nil
/-! finding -/
theorem findS_none {l : List Tn} {id : Int} : findS l id = none ↔ id ∉ l.map (·.id) := by
 rw [findS, List.find?_eq_none]
 simp only [decide_eq_true_eq, List.mem_map, not_exists, not_and]
theorem findS_some {l : List Tn} {id : Int} {x : Tn} (h : findS l id = some x) : x ∈ l ∧ x.id = id := by
 rw [findS] at h
 exact ⟨List.mem_of_find?_eq_some h, by simpa using List.find?_some h⟩
theorem findS_of {l : List Tn} (hn : (l.map (·.id)).Nodup) {x : Tn} (hx : x ∈ l) : findS l x.id = some x := by
 induction l with
 | nil => cases hx
 | cons y l ih =>
  simp only [List.map_cons, List.nodup_cons] at hn
  rw [findS, List.find?_cons]
  by_cases e : y.id = x.id
  ·rw [decide_eq_true e]
   rcases List.mem_cons.1 hx with rfl | h
   ·rfl
   ·exact absurd (List.mem_map.2 ⟨x, h, e.symm⟩) hn.1
  ·rw [decide_eq_false e]
   rcases List.mem_cons.1 hx with rfl | h
   ·exact absurd rfl e
   ·exact ih hn.2 h
/-! sums -/
theorem sumN_list (f : Int → Int) : ∀ l : List Int, sumN (fun i => f (l.getD i 0)) l.length = (l.map f).sum := by
 intro l
 have h : ∀ k, k ≤ l.length → sumN (fun i => f (l.getD i 0)) k = ((l.take k).map f).sum := by
  intro k
  induction k with
  | zero => intro _; simp [sumN]
  | succ k ih =>
   intro hk
   have hx : l[k]? = some (l[k]'(by omega)) := List.getElem?_eq_getElem _
   rw [sumN, ih (by omega), take_succ_get hx, List.map_append, List.sum_append, List.getD_eq_getElem?_getD, hx]
   simp
 rw [h l.length (Nat.le_refl _), List.take_length]
/-! sets of changed IDs -/
theorem nodup_idx {l : List Int} (h : l.Nodup) {i : Nat} {x : Int} (hi : l[i]? = some x) : l.idxOf x = i := by
 induction l generalizing i with
 | nil => simp at hi
 | cons y l ih =>
  obtain ⟨h1, h2⟩ := List.nodup_cons.1 h
  cases i with
  | zero => simp at hi; subst hi; simp
  | succ i =>
   have hi : l[i]? = some x := by simpa using hi
   have hne : y ≠ x := fun e => h1 (by rw [e]; exact List.mem_of_getElem? hi)
   rw [List.idxOf_cons, beq_eq_false_iff_ne.2 hne, cond_false, ih h2 hi]
theorem idx_get {l : List Int} {x : Int} (h : x ∈ l) : l[l.idxOf x]? = some x := by
 induction l with
 | nil => cases h
 | cons y l ih =>
  by_cases e : y = x
  ·subst e; simp
  ·rw [List.idxOf_cons, beq_eq_false_iff_ne.2 e, cond_false, List.getElem?_cons_succ]
   rcases List.mem_cons.1 h with rfl | h
   ·exact absurd rfl e
   ·exact ih h
/-! the loads of the steps -/
theorem namedS_spec {l : List Tn} : namedS l = true ↔ (l.map (·.id)).Nodup ∧ l.length ≤ 12 := by simp [namedS]
theorem properS_spec {t : Top} {l : List Tn} : properS t l = true ↔ validT t = true ∧ ((l.map (·.id)).Nodup ∧ l.length ≤ 12) ∧ ∀ x ∈ l, okTn (2 * (t.links.length : Int)) x := by
 simp only [properS, Bool.and_eq_true, namedS_spec, decide_eq_true_eq, and_assoc]
theorem changed_eq {t : Top} {a b : List Tn} (ha : properS t a = true) (hb : properS t b = true) : changedS a b = chS a b := by
 have h1 := (properS_spec.1 ha).2.1
 have h2 := (properS_spec.1 hb).2.1
 rw [changedS, if_pos ⟨namedS_spec.2 h1, namedS_spec.2 h2⟩]
end Go.Ab

/-
  Contracts, part c: lists.
-/
namespace Go.Ab
open Go.Proofs
theorem yes_of {K : AV → Prop} {p : Prop} [Decidable p] (hK : K (bA (decide p))) : p → K (bA true) := fun h => by rw [decide_eq_true h] at hK; exact hK
theorem no_of {K : AV → Prop} {p : Prop} [Decidable p] (hK : K (bA (decide p))) : ¬ p → K (bA false) := fun h => by rw [decide_eq_false h] at hK; exact hK
theorem mem_take_succ {α : Type} {l : List α} {k : Nat} {x y : α} (h : l[k]? = some x) : y ∈ l.take (k + 1) ↔ y ∈ l.take k ∨ y = x := by
 rw [take_succ_get h]; simp
theorem has_ok (P : Program) (hP : P = Try.prog) (l : List Int) (n : Int) : Ret P n_ref09_Has [intsA l, iA n] (bA (decide (n ∈ l))) := by
 refine ret_start (hP ▸ mixed) (hP ▸ fn_ref09_Has) (hP ▸ c_ref09_Has) (Nat.le_of_ble_eq_true rfl) fun Λ Λo K hK => ?_
 clear hP
 have yes := yes_of hK
 have no := no_of hK
 simp only [intsA, intsD] at *
 generalize llh : List.map encI l = ll at *
 have lln : Λ ll = l.length := by rw [Λo, ← llh]; simp
 conv => cbv
 refine loop_up l.length (fun i : Int => [(0, .c (.d (.list false 1 ll))), (1, iA n), (5, iA i)]) (fun _ => []) (fun k i => i = k ∧ k ≤ l.length ∧ n ∉ l.take k) 0 (Wk.cw) ⟨rfl, by omega, by simp⟩ (fun k s h => h.2.1) ?_
 rintro k i Q' ⟨hi, hk, hno⟩ norm ex rt
 conv => cbv
 repeat' first | (refine ex _ _ _ ?_; (conv => cbv)) | (refine rt _ _ ?_; (conv => cbv)) | (intro e he; obtain ⟨x, hx, rfl⟩ := map_get' llh he; (conv => cbv)) | exact gu | exact trivial | refine And.intro ?_ ?_ | (intro hc; exact absurd hc (by decide)) | (intro hc; exfalso; omega) | (intro hc; (first | rw [wrap_small (by omega) (by omega)] at hc | rw [nI_eq] at hc | skip); try (conv => cbv))
 ·subst hc; exact yes (List.mem_of_getElem? hx)
 ·refine norm _ _ _ ?_ (Wk.cw)
  exact ⟨by omega, by omega, by rw [mem_take_succ (get_at hx (by omega))]; intro h; rcases h with h | h; exact hno h; omega⟩
 ·exact no (by rw [List.take_of_length_le (by omega)] at hno; exact hno)
theorem sameInts_ok (P : Program) (hP : P = Try.prog) (l m : List Int) : Ret P n_ref09_SameInts [intsA l, intsA m] (bA (decide (l = m))) := by
 refine ret_start (hP ▸ mixed) (hP ▸ fn_ref09_SameInts) (hP ▸ c_ref09_SameInts) (Nat.le_of_ble_eq_true rfl) fun Λ Λo K hK => ?_
 clear hP
 have yes := yes_of hK
 have no := no_of hK
 simp only [intsA, intsD] at *
 generalize llh : List.map encI l = ll at *
 have lln : Λ ll = l.length := by rw [Λo, ← llh]; simp
 generalize mlh : List.map encI m = ml at *
 have mln : Λ ml = m.length := by rw [Λo, ← mlh]; simp
 conv => cbv
 repeat' first | exact gu | exact trivial | refine And.intro ?_ ?_ | (intro hc; exact absurd hc (by decide)) | (intro hc; exfalso; omega) | (intro hc; (first | rw [wrap_small (by omega) (by omega)] at hc | rw [nI_eq] at hc | skip); try (conv => cbv))
 ·exact no fun h => by subst h; omega
 refine loop_up l.length (fun i : Int => [(0, .c (.d (.list false 1 ll))), (1, .c (.d (.list false 1 ml))), (5, iA i)]) (fun _ => []) (fun k i => i = k ∧ k ≤ l.length ∧ l.take k = m.take k) 0 (Wk.cw) ⟨rfl, by omega, by simp⟩ (fun k s h => h.2.1) ?_
 rintro k i Q' ⟨hi, hk, hno⟩ norm ex rt
 conv => cbv
 repeat' first | (refine ex _ _ _ ?_; (conv => cbv)) | (refine rt _ _ ?_; (conv => cbv)) | (intro e he; obtain ⟨x, hx, rfl⟩ := map_get' llh he; (conv => cbv)) | (intro e he; obtain ⟨y, hy, rfl⟩ := map_get' mlh he; (conv => cbv)) | exact gu | exact trivial | refine And.intro ?_ ?_ | (intro hc; exact absurd hc (by decide)) | (intro hc; exfalso; omega) | (intro hc; (first | rw [wrap_small (by omega) (by omega)] at hc | rw [nI_eq] at hc | skip); try (conv => cbv))
 ·refine no fun h => ?_
  subst h; rw [hx] at hy; cases hy; exact hc rfl
 ·refine norm _ _ _ ?_ (Wk.cw)
  exact ⟨by omega, by omega, by rw [take_succ_get (get_at hx (by omega)), take_succ_get (get_at hy (by omega)), hno, show x = y by omega]⟩
 ·exact yes (by rw [List.take_of_length_le (by omega), List.take_of_length_le (by omega)] at hno; exact hno)
theorem index_ok (P : Program) (hP : P = Try.prog) (l : List Int) (n : Int) : Ret P n_slices_Index_int_int [intsA l, iA n] (iA (if n ∈ l then (l.idxOf n : Int) else -1)) := by
 refine ret_start (hP ▸ mixed) (hP ▸ fn_slices_Index_int_int) (hP ▸ c_slices_Index_int_int) (Nat.le_of_ble_eq_true rfl) fun Λ Λo K hK => ?_
 clear hP
 have leaf : ∀ b : Int, (if n ∈ l then (l.idxOf n : Int) else -1) = b → K (iA b) := fun b hb => by rw [← hb]; exact hK
 simp only [intsA, intsD] at *
 generalize llh : List.map encI l = ll at *
 have lln : Λ ll = l.length := by rw [Λo, ← llh]; simp
 conv => cbv
 intro hmax
 conv => cbv
 refine loop_up l.length (fun i : Int => [(0, .c (.d (.list false 1 ll))), (1, iA n), (7, iA (Λ ll)), (8, iA i)]) (fun _ => []) (fun k i => i = k ∧ k ≤ l.length ∧ n ∉ l.take k) 0 (Wk.cw) ⟨rfl, by omega, by simp⟩ (fun k s h => h.2.1) ?_
 rintro k i Q' ⟨hi, hk, hno⟩ norm ex rt
 conv => cbv
 repeat' first | (refine ex _ _ _ ?_; (conv => cbv)) | (refine rt _ _ ?_; (conv => cbv)) | (intro e he; obtain ⟨x, hx, rfl⟩ := map_get' llh he; (conv => cbv)) | exact gu | exact trivial | refine And.intro ?_ ?_ | (intro hc; exact absurd hc (by decide)) | (intro hc; exfalso; omega) | (intro hc; (first | rw [wrap_small (by omega) (by omega)] at hc | rw [nI_eq] at hc | skip); try (conv => cbv))
 ·refine leaf _ ?_
  subst hc
  have hx := get_at hx (show i.toNat = k by omega)
  rw [if_pos (List.mem_of_getElem? hx), hi]
  congr 1
  have e : l = l.take k ++ n :: l.drop (k + 1) := by
   conv => lhs; rw [← List.take_append_drop k l]
   congr 1
   rw [List.drop_eq_getElem_cons (by have := get_lt hx; exact this)]
   congr 1
   rw [List.getElem?_eq_getElem (get_lt hx)] at hx
   exact Option.some.inj hx
  rw [e, List.idxOf_append, if_neg hno, List.idxOf_cons_self]
  simp; omega
 ·refine norm _ _ _ ?_ (Wk.cw)
  exact ⟨by omega, by omega, by rw [mem_take_succ (get_at hx (by omega))]; intro h; rcases h with h | h; exact hno h; omega⟩
 ·exact leaf _ (if_neg (by rw [List.take_of_length_le (by omega)] at hno; exact hno))
theorem contains_ok (P : Program) (hP : P = Try.prog) (l : List Int) (n : Int) : Ret P n_slices_Contains_int_int [intsA l, iA n] (bA (decide (n ∈ l))) := by
 refine ret_start (hP ▸ mixed) (hP ▸ fn_slices_Contains_int_int) (hP ▸ c_slices_Contains_int_int) (Nat.le_of_ble_eq_true rfl) fun Λ Λo K hK => ?_
 have hw := index_ok P hP l n
 clear hP
 have yes := yes_of hK
 have no := no_of hK
 have hi : (0 : Int) ≤ (if n ∈ l then (l.idxOf n : Int) else -1) ↔ n ∈ l := by split <;> simp_all <;> omega
 generalize (if n ∈ l then (l.idxOf n : Int) else -1) = r at *
 simp only [intsA, intsD] at *
 generalize llh : List.map encI l = ll at *
 have lln : Λ ll = l.length := by rw [Λo, ← llh]; simp
 conv => cbv
 repeat' first | refine call_i hw rfl rfl ?_ | exact gu | exact trivial | refine And.intro ?_ ?_ | (intro hc; exact absurd hc (by decide)) | (intro hc; exfalso; omega) | (intro hc; (first | rw [wrap_small (by omega) (by omega)] at hc | rw [nI_eq] at hc | skip); try (conv => cbv))
 ·exact yes (hi.1 (by omega))
 ·exact no fun h => by have := hi.2 h; omega
end Go.Ab

/-
  Contracts, part d: arcs, segments, the program's validity of topologies.
-/
namespace Go.Ab
open Go.Proofs
theorem twithin_ok (P : Program) (hP : P = Try.prog) (n lo hi : Int) : Ret P n_topology_within [iA n, iA lo, iA hi] (bA (decide (lo ≤ n ∧ n ≤ hi))) := by
 refine ret_start (hP ▸ mixed) (hP ▸ fn_topology_within) (hP ▸ c_topology_within) (Nat.le_of_ble_eq_true rfl) fun Λ Λo K hK => ?_
 clear hP
 have yes := yes_of hK
 have no := no_of hK
 conv => cbv
 repeat' first | exact gu | exact trivial | refine And.intro ?_ ?_ | (intro hc; exact absurd hc (by decide)) | (intro hc; exfalso; omega) | (intro hc; (first | rw [wrap_small (by omega) (by omega)] at hc | rw [nI_eq] at hc | skip); try (conv => cbv))
 ·exact yes (by omega)
 ·exact no (by omega)
 ·exact no (by omega)
theorem gnode_ok (P : Program) (hP : P = Try.prog) (t : Top) (n : Int) : Ret P n_graph_Node [topA t, iA n] (bA (decide (0 ≤ n ∧ n < t.nodes))) := by
 refine ret_start (hP ▸ mixed) (hP ▸ fn_graph_Node) (hP ▸ c_graph_Node) (Nat.le_of_ble_eq_true rfl) fun Λ Λo K hK => ?_
 clear hP
 have yes := yes_of hK
 have no := no_of hK
 obtain ⟨nodes, ov, links⟩ := t
 simp only [topA, boolsD, linksD] at *
 generalize hol : ov.map encB = ol at *
 generalize hll : links.map encLk = ll at *
 have hlo : Λ ol = ov.length := by rw [Λo, ← hol]; simp
 have hls : Λ ll = links.length := by rw [Λo, ← hll]; simp
 conv => cbv
 repeat' first | exact gu | exact trivial | refine And.intro ?_ ?_ | (intro hc; exact absurd hc (by decide)) | (intro hc; exfalso; omega) | (intro hc; (first | rw [wrap_small (by omega) (by omega)] at hc | rw [nI_eq] at hc | skip); try (conv => cbv))
 ·exact yes (by omega)
 ·exact no (by omega)
 ·exact no (by omega)
theorem tvalid_ok (P : Program) (hP : P = Try.prog) (t : Top) : Ret P n_topology_Valid [topA t] (bA (validT t)) := by
 refine ret_start (hP ▸ mixed) (hP ▸ fn_topology_Valid) (hP ▸ c_topology_Valid) (Nat.le_of_ble_eq_true rfl) fun Λ Λo K hK => ?_
 have hw := twithin_ok P hP
 have hn := gnode_ok P hP t
 clear hP
 have leaf : ∀ b, validT t = b → K (bA b) := fun b hb => by rw [← hb]; exact hK
 have no : (validT t = true → False) → K (bA false) := fun h => leaf _ (Bool.eq_false_iff.2 h)
 obtain ⟨nodes, ov, links⟩ := t
 simp only [topA, boolsD, linksD] at *
 generalize hol : ov.map encB = ol at *
 generalize hll : links.map encLk = ll at *
 have hlo : Λ ol = ov.length := by rw [Λo, ← hol]; simp
 have hls : Λ ll = links.length := by rw [Λo, ← hll]; simp
 conv => cbv
 repeat' first | refine call_b (hw _ _ _) rfl rfl ?_ ?_ | exact gu | exact trivial | refine And.intro ?_ ?_ | (intro hc; exact absurd hc (by decide)) | (intro hc; exfalso; omega) | (intro hc; (first | rw [wrap_small (by omega) (by omega)] at hc | rw [nI_eq] at hc | skip); try (conv => cbv))
 all_goals try simp only [decide_eq_true_eq, decide_eq_false_iff_not] at *
 all_goals try (refine no fun h => ?_; obtain ⟨h1, h2, h3, h4⟩ := validT_spec.1 h; simp only at h1 h2 h3; omega)
 all_goals
  refine loop_up links.length (fun (i : Int) => [(1, .c (.ptr 0 0 0 0)), (29, iA (Λ ll)), (30, iA i)]) (fun _ => [.bx [.d (.int .i64 nodes), .d (.list false 1 ol), .d (.list false 7 ll)]]) (fun k i => i = k ∧ k ≤ links.length ∧ ∀ l ∈ links.take k, okLk nodes l = true) 0 (Wk.cw) ⟨rfl, by omega, by simp⟩ (fun k s h => h.2.1) ?_
  rintro k i Q' ⟨hi, hk, hok⟩ norm ex rt
  conv => cbv
  repeat' first | (refine ex _ _ _ ?_; (conv => cbv)) | (refine rt _ _ ?_; (conv => cbv)) | refine call_b (hw _ _ _) rfl rfl ?_ ?_ | refine call_b (hn _) rfl rfl ?_ ?_ | (intro e he; obtain ⟨⟨xa, xb, xc, xd, xe, xf, xg⟩, hx, rfl⟩ := map_get' hll he; (conv => cbv)) | exact gu | exact trivial | refine And.intro ?_ ?_ | (intro hc; exact absurd hc (by decide)) | (intro hc; exfalso; omega) | (intro hc; (first | rw [wrap_small (by omega) (by omega)] at hc | rw [nI_eq] at hc | skip); try (conv => cbv))
 all_goals try simp only [decide_eq_true_eq, decide_eq_false_iff_not] at *
 all_goals try (refine no fun h => ?_; obtain ⟨h1, h2, h3, h4⟩ := validT_spec.1 h; have h5 := okLk_spec.1 (h4 _ (List.mem_of_getElem? hx)); simp only at h5; omega)
 all_goals try (refine leaf _ (validT_spec.2 ⟨by simp only; omega, by simp only; omega, by simp only; omega, fun l hl => hok l ?_⟩); rw [List.take_of_length_le (by omega)]; exact hl)
 all_goals
  refine norm _ _ _ ?_ (Wk.cw)
  refine ⟨by omega, by omega, ?_⟩
  rw [show i.toNat = k by omega] at hx
  rw [take_succ_get hx]
  intro l hl
  rcases List.mem_append.1 hl with hl | hl
  ·exact hok l hl
  ·simp only [List.mem_singleton] at hl
   subst hl
   exact okLk_spec.2 ⟨by simp only; omega, by simp only; omega, by simp only; omega, by simp only; omega, by simp only; omega, by simp only; omega, by simp only; omega, by simp only; omega⟩
theorem garcs_ok (P : Program) (hP : P = Try.prog) (t : Top) (h : (t.links.length : Int) ≤ 256) : Ret P n_graph_Arcs [topA t] (iA (2 * t.links.length)) := by
 refine ret_start (hP ▸ mixed) (hP ▸ fn_graph_Arcs) (hP ▸ c_graph_Arcs) (Nat.le_of_ble_eq_true rfl) fun Λ Λo K hK => ?_
 clear hP
 obtain ⟨nodes, ov, links⟩ := t
 simp only [topA, boolsD, linksD] at *
 generalize hol : ov.map encB = ol at *
 generalize hll : links.map encLk = ll at *
 have hlo : Λ ol = ov.length := by rw [Λo, ← hol]; simp
 have hls : Λ ll = links.length := by rw [Λo, ← hll]; simp
 conv => cbv
 repeat' first | exact gu | exact trivial | refine And.intro ?_ ?_ | (intro hc; exact absurd hc (by decide)) | (intro hc; exfalso; omega) | (intro hc; (first | rw [wrap_small (by omega) (by omega)] at hc | rw [nI_eq] at hc | skip); try (conv => cbv))
 rename_i c
 rw [show c = 2 * (links.length : Int) by omega]
 exact hK
theorem garc_ok (P : Program) (hP : P = Try.prog) (t : Top) (a : Int) (h : (t.links.length : Int) ≤ 256) : Ret P n_graph_Arc [topA t, iA a] (bA (decide (0 ≤ a ∧ a < 2 * t.links.length))) := by
 refine ret_start (hP ▸ mixed) (hP ▸ fn_graph_Arc) (hP ▸ c_graph_Arc) (Nat.le_of_ble_eq_true rfl) fun Λ Λo K hK => ?_
 have hw := garcs_ok P hP t h
 clear hP
 have yes := yes_of hK
 have no := no_of hK
 obtain ⟨nodes, ov, links⟩ := t
 simp only [topA, boolsD, linksD] at *
 generalize hol : ov.map encB = ol at *
 generalize hll : links.map encLk = ll at *
 have hlo : Λ ol = ov.length := by rw [Λo, ← hol]; simp
 have hls : Λ ll = links.length := by rw [Λo, ← hll]; simp
 conv => cbv
 repeat' first | refine call_i hw rfl rfl ?_ | exact gu | exact trivial | refine And.intro ?_ ?_ | (intro hc; exact absurd hc (by decide)) | (intro hc; exfalso; omega) | (intro hc; (first | rw [wrap_small (by omega) (by omega)] at hc | rw [nI_eq] at hc | skip); try (conv => cbv))
 ·exact yes (by omega)
 ·exact no (by omega)
 ·exact no (by omega)
end Go.Ab

/-
  Maps whose keys are numbers.
-/
namespace Go.Ab
open Go.Proofs
abbrev Isc := List (Int × DV)
def encZ (e : Int × DV) : DV × DV := (.s (iD e.1), e.2)
def ifind (k : Int) : Isc → Nat → Option (Nat × DV)
 | [], _ => none
 | e :: r, i => if k = e.1 then some (i, e.2) else ifind k r (i + 1)
theorem eqc_int (a x : Int) : eqc [.d (.int .i64 a)] [.d (.int .i64 x)] [(0, 0)] = some (decide (a = x)) := by
 have e : eqc [.d (.int .i64 a)] [.d (.int .i64 x)] [(0, 0)] = some ((a == x) && true) := rfl
 rw [e]
 by_cases h1 : a = x
 ·simp [h1]
 ·simp [h1]
theorem mfind_ints (a : Int) : ∀ (m : Isc) (i : Nat), mfind true 1 [(0, 0)] (.s (.int .i64 a)) (m.map encZ) i = some (ifind a m i) := by
 intro m
 induction m with
 | nil => intro i; rfl
 | cons e r ih =>
  intro i
  obtain ⟨x, v⟩ := e
  have e1 : mfind true 1 [(0, 0)] (.s (.int .i64 a)) (List.map encZ ((x, v) :: r)) i =
    (match eqc [.d (.int .i64 a)] [.d (.int .i64 x)] [(0, 0)] with
    | some true => some (some (i, v))
    | some false => mfind true 1 [(0, 0)] (.s (.int .i64 a)) (List.map encZ r) (i + 1)
    | none => none) := rfl
  rw [e1, eqc_int]
  simp only [ifind]
  by_cases h : a = x
  ·rw [decide_eq_true h, if_pos h]
  ·rw [decide_eq_false h, if_neg h]; exact ih (i + 1)
theorem vlk_ints {a : Int} {m : Isc} {ml : List (DV × DV)} {ok : Bool} {z : AV} {K : AV → Prop} (mlh : m.map encZ = ml) (h0 : ifind a m 0 = none → K (lkR ok z false)) (h1 : ∀ i v, ifind a m 0 = some (i, v) → K (lkR ok (avDV v) true)) :
  ∀ r, mfind true 1 [(0, 0)] (.s (.int .i64 a)) ml 0 = r → vLk ok z K r := by
 intro r hr
 rw [← mlh, mfind_ints] at hr
 subst hr
 cases hp : ifind a m 0 with
 | none => exact h0 hp
 | some p => exact h1 p.1 p.2 hp
theorem vup_ints {a : Int} {m : Isc} {ml : List (DV × DV)} {vd : DV} {K : List (DV × DV) → Prop} (mlh : m.map encZ = ml) (h0 : ifind a m 0 = none → ∀ es', (m ++ [(a, vd)]).map encZ = es' → K es') (h1 : ∀ i v, ifind a m 0 = some (i, v) → ∀ es', (m.set i (a, vd)).map encZ = es' → K es') :
  ∀ r, mfind true 1 [(0, 0)] (.s (.int .i64 a)) ml 0 = r → vUp ml (.s (.int .i64 a)) vd K r := by
 intro r hr
 have hm : mfind true 1 [(0, 0)] (.s (.int .i64 a)) ml 0 = some (ifind a m 0) := by rw [← mlh, mfind_ints]
 rw [hm] at hr
 subst hr
 cases hp : ifind a m 0 with
 | none => intro es' he; exact h0 hp es' (by rw [he, ← mlh]; simp [encZ])
 | some p => intro es' he; exact h1 p.1 p.2 hp es' (by rw [he, ← mlh, List.map_set]; rfl)
theorem ifind_none {k : Int} {m : Isc} : ∀ {i : Nat}, ifind k m i = none ↔ k ∉ m.map (·.1) := by
 induction m with
 | nil => intro i; simp [ifind]
 | cons e r ih =>
  intro i
  simp only [ifind, List.map_cons, List.mem_cons, not_or]
  split
  ·rename_i h; simp [h]
  ·rename_i h; rw [ih]; simp [h]
theorem ifind_some {k : Int} {m : Isc} {v : DV} : ∀ {i j : Nat}, ifind k m i = some (j, v) → i ≤ j ∧ m[j - i]? = some (k, v) := by
 induction m with
 | nil => intro i j h; simp [ifind] at h
 | cons e r ih =>
  intro i j h
  simp only [ifind] at h
  split at h
  ·rename_i hk
   cases h
   exact ⟨Nat.le_refl _, by rw [hk]; simp⟩
  ·obtain ⟨h1, h2⟩ := ih h
   refine ⟨by omega, ?_⟩
   rw [show j - i = (j - (i + 1)) + 1 by omega]; simpa using h2
end Go.Ab

/-
  Updates, part c: bits; small functions of the program.
-/
namespace Go.Ab
open Go.Proofs
/-! bits -/
theorem wrapu32 {x : Int} (h : 0 ≤ x) (h' : x < 4294967296) : IntKind.u32.wrap x = x := by
 have : IntKind.u32.wrap x = x % 4294967296 := by
  simp [IntKind.wrap, IntKind.bits, IntKind.signed]
 rw [this]; omega
theorem wrapu64 {x : Int} (h : 0 ≤ x) (h' : x < 18446744073709551616) : IntKind.u64.wrap x = x := by
 have : IntKind.u64.wrap x = x % 18446744073709551616 := by
  simp [IntKind.wrap, IntKind.bits, IntKind.signed]
 rw [this]; omega
theorem shr1u {x y : Int} (h : y = x.fdiv (2 ^ (min (Int.toNat 1) (IntKind.bits .u64)))) : y = x / 2 := by
 rw [h]
 have : (2 : Int) ^ (min (Int.toNat 1) (IntKind.bits .u64)) = 2 := by decide
 rw [this, Int.fdiv_eq_ediv_of_nonneg _ (by omega)]
theorem bv32 {m : Nat} : BitVec.ofInt 32 (m : Int) = BitVec.ofNat 32 m := BitVec.ofInt_natCast 32 m
theorem or_lt {m n : Nat} (hm : m < 4294967296) (hn : n < 4294967296) : m ||| n < 4294967296 := Nat.or_lt_two_pow (n := 32) hm hn
theorem orU {a b c : Int} {m n : Nat} (ha : a = m) (hb : b = n) (hm : m < 4294967296) (hn : n < 4294967296) (hc : c = ((m ||| n : Nat) : Int)) : binD .or (.int .u32 a) (.int .u32 b) = some (.int .u32 c) := by
 subst ha hb hc
 have e : binD .or (.int .u32 m) (.int .u32 n) = some (.int .u32 (IntKind.u32.wrap (BitVec.ofInt 32 (m : Int) ||| BitVec.ofInt 32 (n : Int)).toNat)) := rfl
 rw [e, bv32, bv32, BitVec.toNat_or, BitVec.toNat_ofNat, BitVec.toNat_ofNat, Nat.mod_eq_of_lt hm, Nat.mod_eq_of_lt hn, wrapu32 (by omega) (by have := or_lt hm hn; omega)]
theorem andU {a b c : Int} {m n : Nat} (ha : a = m) (hb : b = n) (hm : m < 4294967296) (hn : n < 4294967296) (hc : c = ((m &&& n : Nat) : Int)) : binD .and (.int .u32 a) (.int .u32 b) = some (.int .u32 c) := by
 subst ha hb hc
 have e : binD .and (.int .u32 m) (.int .u32 n) = some (.int .u32 (IntKind.u32.wrap (BitVec.ofInt 32 (m : Int) &&& BitVec.ofInt 32 (n : Int)).toNat)) := rfl
 have hl : m &&& n ≤ m := Nat.and_le_left
 rw [e, bv32, bv32, BitVec.toNat_and, BitVec.toNat_ofNat, BitVec.toNat_ofNat, Nat.mod_eq_of_lt hm, Nat.mod_eq_of_lt hn, wrapu32 (by omega) (by omega)]
theorem andNotU {a b : Int} {m n : Nat} (ha : a = m) (hb : b = n) (hm : m < 4294967296) (hn : n < 4294967296) : ∃ c : Int, binD .andNot (.int .u32 a) (.int .u32 b) = some (.int .u32 c) ∧ (c = 0 ↔ ∀ i, m.testBit i = true → n.testBit i = true) := by
 subst ha hb
 have e : binD .andNot (.int .u32 m) (.int .u32 n) = some (.int .u32 (IntKind.u32.wrap (BitVec.ofInt 32 (m : Int) &&& ~~~ BitVec.ofInt 32 (n : Int)).toNat)) := rfl
 refine ⟨_, e, ?_⟩
 have h1 : (BitVec.ofInt 32 (m : Int) &&& ~~~ BitVec.ofInt 32 (n : Int)).toNat < 4294967296 := BitVec.isLt _
 rw [wrapu32 (by omega) (by omega), bv32, bv32]
 have hbit : ∀ i, (BitVec.ofNat 32 m &&& ~~~ BitVec.ofNat 32 n).toNat.testBit i = (m.testBit i && !n.testBit i) := by
  intro i
  rw [BitVec.testBit_toNat, BitVec.getLsbD_and, BitVec.getLsbD_not, BitVec.getLsbD_ofNat, BitVec.getLsbD_ofNat]
  by_cases hi : i < 32
  ·simp [hi]
  ·have h2 : m.testBit i = false := Nat.testBit_lt_two_pow (Nat.lt_of_lt_of_le hm (by rw [show (4294967296 : Nat) = 2 ^ 32 from rfl]; exact Nat.pow_le_pow_right (by omega) (by omega)))
   simp [hi, h2]
 constructor
 ·intro h i hi
  have h0 : (BitVec.ofNat 32 m &&& ~~~ BitVec.ofNat 32 n).toNat = 0 := by omega
  have := hbit i
  rw [h0, Nat.zero_testBit, hi] at this
  simpa using this.symm
 ·intro h
  have : (BitVec.ofNat 32 m &&& ~~~ BitVec.ofNat 32 n).toNat = 0 := by
   apply Nat.eq_of_testBit_eq
   intro i
   rw [hbit, Nat.zero_testBit]
   cases hm' : m.testBit i with
   | false => rfl
   | true => rw [h i hm']; rfl
  omega
theorem shlU {b c : Int} {i : Nat} (hb : b = i) (hi : i < 32) (hc : c = IntKind.u32.wrap (1 * 2 ^ (min b.toNat (IntKind.bits .u32)))) : c = ((2 ^ i : Nat) : Int) := by
 subst hb
 have h1 : min (i : Int).toNat (IntKind.bits .u32) = i := by
  show min (i : Int).toNat 32 = i
  omega
 have h2 : 2 ^ i < 4294967296 := Nat.pow_lt_pow_right (by omega) hi
 have h3 : ((2 : Int) ^ i) = ((2 ^ i : Nat) : Int) := (Int.natCast_pow 2 i).symm
 rw [h1, Int.one_mul, h3] at hc
 generalize 2 ^ i = q at *
 rw [hc, wrapu32 (by omega) (by omega)]
theorem pow_lt32 {i : Nat} (hi : i < 32) : 2 ^ i < 4294967296 := Nat.pow_lt_pow_right (by omega) hi
theorem bitS_lt {m i : Nat} (hm : m < 4294967296) (hi : i < 32) : bitS m i < 4294967296 := or_lt hm (pow_lt32 hi)
theorem shrU {a b c : Int} {m i : Nat} (ha : a = m) (hb : b = i) (hi : i < 32) (hc : c = a.fdiv (2 ^ (min b.toNat (IntKind.bits .u32)))) : c = ((m / 2 ^ i : Nat) : Int) := by
 subst ha hb
 have h1 : min (i : Int).toNat (IntKind.bits .u32) = i := by
  show min (i : Int).toNat 32 = i
  omega
 have h3 : ((2 : Int) ^ i) = ((2 ^ i : Nat) : Int) := (Int.natCast_pow 2 i).symm
 rw [h1, h3, Int.fdiv_eq_ediv_of_nonneg _ (Int.natCast_nonneg _)] at hc
 rw [hc, Int.natCast_ediv]
theorem tb_div {m i : Nat} : ((m / 2 ^ i) &&& 1 = 1) ↔ m.testBit i = true := by
 rw [Nat.testBit_eq_decide_div_mod_eq, decide_eq_true_eq, Nat.and_one_is_mod]
theorem tb_and {m i : Nat} : (m &&& 2 ^ i = 0) ↔ m.testBit i = false := by
 constructor
 ·intro h
  have := Nat.testBit_and m (2 ^ i) i
  rw [h, Nat.zero_testBit, Nat.testBit_two_pow_self, Bool.and_true] at this
  exact this.symm
 ·intro h
  apply Nat.eq_of_testBit_eq
  intro j
  rw [Nat.testBit_and, Nat.zero_testBit, Nat.testBit_two_pow]
  by_cases e : i = j
  ·subst e; simp [h]
  ·simp [e]
theorem full_tb {n i : Nat} : (fullM n).testBit i = true ↔ i < n := by
 rw [fullM, Nat.testBit_two_pow_sub_one, decide_eq_true_eq]
theorem fullU {a b c : Int} {n : Nat} (hn : n < 32) (ha : a = ((2 ^ n : Nat) : Int)) (hc : c = IntKind.u32.wrap (a - 1)) : c = (fullM n : Nat) := by
 have h1 := pow_lt32 hn
 have h2 : 0 < 2 ^ n := Nat.two_pow_pos n
 rw [hc, wrapu32 (by omega) (by omega), fullM]; omega
theorem full_lt {n : Nat} (hn : n < 32) : fullM n < 4294967296 := by have := pow_lt32 hn; rw [fullM]; omega
/-! sets of numbers, as maps -/
theorem vlk_iset {a : Int} {m : Isc} {ml : List (DV × DV)} {z : AV} {K : AV → Prop} (mlh : m.map encZ = ml) (hall : ∀ e ∈ m, e.2 = .s (.bool true)) (h0 : a ∉ m.map (·.1) → K z) (h1 : a ∈ m.map (·.1) → K (bA true)) :
  ∀ r, mfind true 1 [(0, 0)] (.s (.int .i64 a)) ml 0 = r → vLk false z K r := by
 refine vlk_ints mlh (fun h => h0 (ifind_none.1 h)) fun i v h => ?_
 have hm := List.mem_of_getElem? (ifind_some h).2
 have := hall _ hm
 simp only at this
 subst this
 exact h1 (List.mem_map.2 ⟨_, hm, rfl⟩)
def setI (l : List Int) : List (DV × DV) := l.map fun i => (.s (iD i), .s (.bool true))
theorem setI_enc (l : List Int) : (l.map fun i => (i, DV.s (.bool true))).map encZ = setI l := by rw [List.map_map]; rfl
theorem vlk_setI {a : Int} {l : List Int} {ml : List (DV × DV)} {z : AV} {K : AV → Prop} (mlh : setI l = ml) (h0 : a ∉ l → K z) (h1 : a ∈ l → K (bA true)) :
  ∀ r, mfind true 1 [(0, 0)] (.s (.int .i64 a)) ml 0 = r → vLk false z K r := by
 have hk : ((l.map fun i => (i, DV.s (.bool true))) : Isc).map (·.1) = l := by simp [Function.comp_def]
 refine vlk_iset ((setI_enc l).trans mlh) (fun e he => ?_) (fun h => h0 (by rw [hk] at h; exact h)) fun h => h1 (by rw [hk] at h; exact h)
 obtain ⟨i, _, rfl⟩ := List.mem_map.1 he
 rfl
theorem vup_setI {a : Int} {l : List Int} {ml : List (DV × DV)} {K : List (DV × DV) → Prop} (mlh : setI l = ml) (h0 : a ∉ l → ∀ es', setI (l ++ [a]) = es' → K es') (h1 : a ∈ l → K ml) :
  ∀ r, mfind true 1 [(0, 0)] (.s (.int .i64 a)) ml 0 = r → vUp ml (.s (.int .i64 a)) (.s (.bool true)) K r := by
 have hk : ((l.map fun i => (i, DV.s (.bool true))) : Isc).map (·.1) = l := by simp [Function.comp_def]
 refine vup_ints ((setI_enc l).trans mlh) (fun h es' he => ?_) fun i v h es' he => ?_
 ·rw [ifind_none, hk] at h
  subst he
  refine h0 h _ ?_
  rw [List.map_append, setI_enc, setI, List.map_append]
  rfl
 ·have hg := (ifind_some h).2
  rw [Nat.sub_zero] at hg
  have hm := List.mem_of_getElem? hg
  obtain ⟨j, hj, e⟩ := List.mem_map.1 hm
  simp only [Prod.mk.injEq] at e
  obtain ⟨rfl, rfl⟩ := e
  rw [set_same hg, setI_enc, mlh] at he
  subst he
  exact h1 hj
/-! looking for a number in an increasing list -/
def posS (l : List Int) (x : Int) : Nat := (l.filter fun y => decide (y < x)).length
theorem posS_eq {l : List Int} {x : Int} {i : Nat} (hi : i ≤ l.length) (h1 : ∀ k y, l[k]? = some y → k < i → y < x) (h2 : ∀ k y, l[k]? = some y → i ≤ k → x ≤ y) : posS l x = i := by
 have e : l = l.take i ++ l.drop i := (List.take_append_drop i l).symm
 rw [posS, e, List.filter_append, List.filter_eq_self.2, List.filter_eq_nil_iff.2, List.append_nil, List.length_take]
 ·omega
 ·intro y hy
  obtain ⟨k, hk⟩ := List.mem_iff_getElem?.1 hy
  rw [List.getElem?_drop] at hk
  have := h2 _ y hk (by omega)
  simp only [decide_eq_true_eq]; omega
 ·intro y hy
  obtain ⟨k, hk⟩ := List.mem_iff_getElem?.1 hy
  rw [List.getElem?_take] at hk
  split at hk
  ·exact decide_eq_true (h1 k y hk (by omega))
  ·cases hk
theorem inc_le {l : List Int} (h : l.Pairwise (· < ·)) {i j : Nat} {x y : Int} (hi : l[i]? = some x) (hj : l[j]? = some y) (hij : i ≤ j) : x ≤ y := by
 by_cases e : i = j
 ·subst e; rw [hi] at hj; cases hj; exact Int.le_refl _
 ·have h1 := get_lt hi
  have h2 := get_lt hj
  have := List.pairwise_iff_getElem.1 h i j h1 h2 (by omega)
  rw [List.getElem?_eq_getElem h1] at hi
  rw [List.getElem?_eq_getElem h2] at hj
  cases hi; cases hj; omega
theorem posS_idx {l : List Int} (h : l.Pairwise (· < ·)) {x : Int} (hx : x ∈ l) : posS l x = l.idxOf x := by
 have hg := idx_get hx
 refine posS_eq (by have := get_lt hg; omega) (fun k y hk hlt => ?_) fun k y hk hle => inc_le h hg hk hle
 have h1 := get_lt hk
 have h2 := get_lt hg
 have := List.pairwise_iff_getElem.1 h k (l.idxOf x) h1 h2 hlt
 rw [List.getElem?_eq_getElem h1] at hk
 rw [List.getElem?_eq_getElem h2] at hg
 cases hk
 rw [Option.some.inj hg] at this
 exact this
theorem nanS_ok (P : Program) (hP : P = Try.prog) (x : Int) : Ret P n_slices_isNaN_int [iA x] (bA false) := by
 refine ret_start (hP ▸ mixed) (hP ▸ fn_slices_isNaN_int) (hP ▸ c_slices_isNaN_int) (Nat.le_of_ble_eq_true rfl) fun Λ Λo K hK => ?_
 clear hP
 conv => cbv
 repeat' first | exact gu | exact trivial | refine And.intro ?_ ?_ | (intro hc; exact absurd hc (by decide)) | (intro hc; exfalso; omega) | (intro hc; (first | rw [wrap_small (by omega) (by omega)] at hc | rw [nI_eq] at hc | skip); try (conv => cbv))
 exact hK
theorem nanC_ok (P : Program) (hP : P = Try.prog) (x : Int) : Ret P n_cmp_isNaN_int [iA x] (bA false) := by
 refine ret_start (hP ▸ mixed) (hP ▸ fn_cmp_isNaN_int) (hP ▸ c_cmp_isNaN_int) (Nat.le_of_ble_eq_true rfl) fun Λ Λo K hK => ?_
 clear hP
 conv => cbv
 repeat' first | exact gu | exact trivial | refine And.intro ?_ ?_ | (intro hc; exact absurd hc (by decide)) | (intro hc; exfalso; omega) | (intro hc; (first | rw [wrap_small (by omega) (by omega)] at hc | rw [nI_eq] at hc | skip); try (conv => cbv))
 exact hK
theorem less_ok (P : Program) (hP : P = Try.prog) (x y : Int) : Ret P n_cmp_Less_int [iA x, iA y] (bA (decide (x < y))) := by
 have hn := nanC_ok P hP
 refine ret_start (hP ▸ mixed) (hP ▸ fn_cmp_Less_int) (hP ▸ c_cmp_Less_int) (Nat.le_of_ble_eq_true rfl) fun Λ Λo K hK => ?_
 clear hP
 have yes := yes_of hK
 have no := no_of hK
 clear hK
 conv => cbv
 repeat' first | refine call_b (hn _) rfl rfl ?_ ?_ | exact gu | exact trivial | refine And.intro ?_ ?_ | (intro hc; exact absurd hc (by decide)) | (intro hc; exfalso; omega) | (intro hc; (first | rw [wrap_small (by omega) (by omega)] at hc | rw [nI_eq] at hc | skip); try (conv => cbv))
 ·exact yes (by assumption)
 ·exact no (by assumption)
theorem search_ok (P : Program) (hP : P = Try.prog) (l : List Int) (x : Int) (hl : l.length ≤ 1000000) (hs : l.Pairwise (· < ·)) : Ret P n_slices_BinarySearch_int_int [intsA l, iA x] (.tup [iA (posS l x), bA (decide (x ∈ l))]) := by
 have hls := less_ok P hP
 have hnn := nanS_ok P hP
 refine ret_start (hP ▸ mixed) (hP ▸ fn_slices_BinarySearch_int_int) (hP ▸ c_slices_BinarySearch_int_int) (Nat.le_of_ble_eq_true rfl) fun Λ Λo K hK => ?_
 clear hP
 have leaf : ∀ (c : Int) (b : Bool), c = posS l x → b = decide (x ∈ l) → K (.tup [iA c, bA b]) := fun c b h1 h2 => by rw [h1, h2]; exact hK
 clear hK
 simp only [intsA, intsD] at *
 generalize llh : List.map encI l = ll at *
 have lln : Λ ll = l.length := by rw [Λo, ← llh]; simp
 conv => cbv
 repeat' first | exact gu | exact trivial | refine And.intro ?_ ?_ | (intro hc; exact absurd hc (by decide)) | (intro hc; exfalso; omega) | (intro hc; (first | rw [wrap_small (by omega) (by omega)] at hc | rw [nI_eq] at hc | skip); try (conv => cbv))
 refine loop_upx l.length (fun s : Int × Int => [(0, .c (.d (.list false 1 ll))), (1, iA x), (6, iA (Λ ll)), (7, iA s.1), (8, iA s.2)]) (fun _ => [])
  (fun k s => 0 ≤ s.1 ∧ s.1 ≤ s.2 ∧ s.2 ≤ l.length ∧ s.2 - s.1 + k ≤ l.length ∧ (∀ (j : Nat) (y : Int), l[j]? = some y → (j : Int) < s.1 → y < x) ∧ (∀ (j : Nat) (y : Int), l[j]? = some y → s.2 ≤ (j : Int) → x ≤ y)) (0, (l.length : Int)) 0
  (fun s : Int => [(0, .c (.d (.list false 1 ll))), (1, iA x), (6, iA (Λ ll)), (7, iA s)]) (fun _ => [])
  (fun s => 0 ≤ s ∧ s ≤ l.length ∧ (∀ (j : Nat) (y : Int), l[j]? = some y → (j : Int) < s → y < x) ∧ (∀ (j : Nat) (y : Int), l[j]? = some y → s ≤ (j : Int) → x ≤ y)) (by rw [← lln]; exact Wk.cw) ⟨by omega, by omega, by omega, by omega, fun j y _ h => by omega, fun j y hj h => by have := get_lt hj; omega⟩ (fun k s h => by have := h.2.1; have := h.2.2.2.1; omega) ?_ ?_
 ·rintro k ⟨i, j⟩ Q' ⟨h1, h2, h3, h4, h5, h6⟩ norm jn ex rt
  simp only at h1 h2 h3 h4 h5 h6
  by_cases hlt : i < j
  ·clear jn
   obtain ⟨m, hm⟩ : ∃ m : Int, m = (i + j) / 2 := ⟨_, rfl⟩
   obtain ⟨y, hy⟩ : ∃ y, l[m.toNat]? = some y := ⟨_, List.getElem?_eq_getElem (by omega)⟩
   have hya := elt_at llh (i := m) (by omega) hy
   have hy2 := hls y x
   have up : y < x → ∀ (k : Nat) (z : Int), l[k]? = some z → (k : Int) < m + 1 → z < x := fun hyx k z hk hkm => by
    have := inc_le hs hk hy (by omega); omega
   have dn : ¬ y < x → ∀ (k : Nat) (z : Int), l[k]? = some z → m ≤ (k : Int) → x ≤ z := fun hyx k z hk hkm => by
    have := inc_le hs hy hk (by omega); omega
   clear hs hls hnn
   conv => cbv
   repeat' first | (refine ex _ _ _ ?_; (conv => cbv)) | (refine rt _ _ ?_; (conv => cbv)) | (intro c hc; rw [wrapu64 (by omega) (by omega)] at hc; (conv => cbv)) | (intro c hc; replace hc := shr1u hc; (conv => cbv)) | (intro c hc; rw [wrap_small (by omega) (by omega)] at hc; refine (fun (hz : m = c) => ?_) (by omega); subst hz; (conv => cbv)) | (intro (e : List D) he; cases Option.some.inj (he.symm.trans hya); (conv => cbv)) | refine call_b hy2 rfl rfl ?_ ?_ | exact gu | exact trivial | refine And.intro ?_ ?_ | (intro hc; exact absurd hc (by decide)) | (intro hc; exfalso; omega) | (intro hc; (first | rw [wrap_small (by omega) (by omega)] at hc | rw [nI_eq] at hc | skip); try (conv => cbv))
   ·refine norm _ _ (_, _) ?_ (Wk.cw)
    have hyx : y < x := of_decide_eq_true (by assumption)
    exact ⟨by simp only; omega, by simp only; omega, h3, by simp only; omega, fun k z hk hlt => up hyx k z hk (by simp only at hlt; omega), h6⟩
   ·refine norm _ _ (_, _) ?_ (Wk.cw)
    have hyx : ¬ y < x := of_decide_eq_false (by assumption)
    exact ⟨h1, by simp only; omega, by simp only; omega, by simp only; omega, h5, fun k z hk hlt => dn hyx k z hk (by simp only at hlt; omega)⟩
  ·clear norm
   conv => cbv
   repeat' first | exact gu | exact trivial | refine And.intro ?_ ?_ | (intro hc; exact absurd hc (by decide)) | (intro hc; exfalso; omega) | (intro hc; (first | rw [wrap_small (by omega) (by omega)] at hc | rw [nI_eq] at hc | skip); try (conv => cbv))
   exact jn _ _ i ⟨h1, by omega, h5, fun k y hk hle => h6 k y hk (by omega)⟩ (Wk.cw)
 ·rintro i ⟨h1, h2, h3, h4⟩
  have hpos := posS_eq (i := i.toNat) (l := l) (x := x) (by omega) (fun k y hk hlt => h3 k y hk (by omega)) fun k y hk hle => h4 k y hk (by omega)
  by_cases hil : i < l.length
  ·obtain ⟨y, hy⟩ : ∃ y, l[i.toNat]? = some y := ⟨_, List.getElem?_eq_getElem (by omega)⟩
   have hya := elt_at llh (i := i) (by omega) hy
   have hmem : x ∈ l ↔ y = x := by
    constructor
    ·intro hx
     have := posS_idx hs hx
     have hg := idx_get hx
     rw [← this, hpos, hy] at hg
     exact Option.some.inj hg
    ·rintro rfl; exact List.mem_of_getElem? hy
   clear hls h3 h4
   conv => cbv
   repeat' first | (refine ex _ _ _ ?_; (conv => cbv)) | (refine rt _ _ ?_; (conv => cbv)) | (intro (e : List D) he; cases Option.some.inj (he.symm.trans hya); (conv => cbv)) | refine call_b (hnn _) rfl rfl ?_ ?_ | exact gu | exact trivial | refine And.intro ?_ ?_ | (intro hc; exact absurd hc (by decide)) | (intro hc; exfalso; omega) | (intro hc; (first | rw [wrap_small (by omega) (by omega)] at hc | rw [nI_eq] at hc | skip); try (conv => cbv))
   ·exact leaf _ _ (by omega) (decide_eq_true (hmem.2 (by assumption))).symm
   ·exact leaf _ _ (by omega) (decide_eq_false (fun h => absurd (hmem.1 h) (by assumption))).symm
  ·have hno : x ∉ l := fun hx => by
    obtain ⟨k, hk⟩ := List.mem_iff_getElem?.1 hx
    have := h3 k x hk (by have := get_lt hk; omega)
    omega
   clear hls h3 h4
   conv => cbv
   repeat' first | (refine ex _ _ _ ?_; (conv => cbv)) | (refine rt _ _ ?_; (conv => cbv)) | exact gu | exact trivial | refine And.intro ?_ ?_ | (intro hc; exact absurd hc (by decide)) | (intro hc; exfalso; omega) | (intro hc; (first | rw [wrap_small (by omega) (by omega)] at hc | rw [nI_eq] at hc | skip); try (conv => cbv))
   exact leaf _ _ (by omega) (decide_eq_false hno).symm
theorem equalI_ok (P : Program) (hP : P = Try.prog) (l m : List Int) : Ret P n_slices_Equal_int_int [intsA l, intsA m] (bA (decide (l = m))) := by
 refine ret_start (hP ▸ mixed) (hP ▸ fn_slices_Equal_int_int) (hP ▸ c_slices_Equal_int_int) (Nat.le_of_ble_eq_true rfl) fun Λ Λo K hK => ?_
 clear hP
 have yes := yes_of hK
 have no := no_of hK
 simp only [intsA, intsD] at *
 generalize llh : List.map encI l = ll at *
 have lln : Λ ll = l.length := by rw [Λo, ← llh]; simp
 generalize mlh : List.map encI m = ml at *
 have mln : Λ ml = m.length := by rw [Λo, ← mlh]; simp
 conv => cbv
 repeat' first | exact gu | exact trivial | refine And.intro ?_ ?_ | (intro hc; exact absurd hc (by decide)) | (intro hc; exfalso; omega) | (intro hc; (first | rw [wrap_small (by omega) (by omega)] at hc | rw [nI_eq] at hc | skip); try (conv => cbv))
 ·exact no fun h => by subst h; omega
 refine loop_up l.length (fun i : Int => [(0, .c (.d (.list false 1 ll))), (1, .c (.d (.list false 1 ml))), (12, iA (Λ ll)), (13, iA i)]) (fun _ => []) (fun k i => i = k ∧ k ≤ l.length ∧ l.take k = m.take k) 0 (Wk.cw) ⟨rfl, by omega, by simp⟩ (fun k s h => h.2.1) ?_
 rintro k i Q' ⟨hi, hk, hno⟩ norm ex rt
 conv => cbv
 repeat' first | (refine ex _ _ _ ?_; (conv => cbv)) | (refine rt _ _ ?_; (conv => cbv)) | (intro e he; obtain ⟨x, hx, rfl⟩ := map_get' llh he; (conv => cbv)) | (intro e he; obtain ⟨y, hy, rfl⟩ := map_get' mlh he; (conv => cbv)) | exact gu | exact trivial | refine And.intro ?_ ?_ | (intro hc; exact absurd hc (by decide)) | (intro hc; exfalso; omega) | (intro hc; (first | rw [wrap_small (by omega) (by omega)] at hc | rw [nI_eq] at hc | skip); try (conv => cbv))
 ·refine no fun h => ?_
  subst h; rw [hx] at hy; cases hy; exact hc rfl
 ·refine norm _ _ _ ?_ (Wk.cw)
  exact ⟨by omega, by omega, by rw [take_succ_get (get_at hx (by omega)), take_succ_get (get_at hy (by omega)), hno, show x = y by omega]⟩
 ·exact yes (by rw [List.take_of_length_le (by omega), List.take_of_length_le (by omega)] at hno; exact hno)
theorem nodup_atU {l : List Int} {k : Nat} {a : Int} (h : l.Nodup) (hk : l[k]? = some a) : a ∉ l.take k := by
 intro hm
 rw [← List.take_append_drop k l, List.nodup_append] at h
 have hd : a ∈ l.drop k := List.mem_of_getElem? (i := 0) (by rw [List.getElem?_drop]; exact hk)
 exact h.2.2 a hm a hd rfl
theorem named_false {l : List Tn} (h : ¬ ((l.map (·.id)).Nodup ∧ l.length ≤ 12)) : namedS l = false := by
 rw [Bool.eq_false_iff]; intro h1; exact h (namedS_spec.1 h1)
theorem distinct_ok (P : Program) (hP : P = Try.prog) (l : List Tn) : Ret P n_update_distinct [tnsA l] (bA (namedS l)) := by
 refine ret_start (hP ▸ mixed) (hP ▸ fn_update_distinct) (hP ▸ c_update_distinct) (Nat.le_of_ble_eq_true rfl) fun Λ Λo K hK => ?_
 clear hP
 have yes : (l.map (·.id)).Nodup → l.length ≤ 12 → K (bA true) := fun h1 h2 => by rw [namedS_spec.2 ⟨h1, h2⟩] at hK; exact hK
 have no : ¬ ((l.map (·.id)).Nodup ∧ l.length ≤ 12) → K (bA false) := fun h => by rw [named_false h] at hK; exact hK
 clear hK
 simp only [tnsA, tnsD] at *
 generalize llh : l.map encTn = ll at *
 have lln : Λ ll = l.length := by rw [Λo, ← llh]; simp
 conv => cbv
 repeat' first | exact gu | exact trivial | refine And.intro ?_ ?_ | (intro hc; exact absurd hc (by decide)) | (intro hc; exfalso; omega) | (intro hc; (first | rw [wrap_small (by omega) (by omega)] at hc | rw [nI_eq] at hc | skip); try (conv => cbv))
 ·exact no (by omega)
 refine loop_up l.length (fun s : Int × Nat × List (DV × DV) => [(3, .c (.mp 0)), (10, .c (.d (.list false 3 ll))), (11, iA (Λ ll)), (12, iA s.1)]) (fun s => [.mp s.2.1 s.2.2])
  (fun k s => s.1 = k ∧ k ≤ l.length ∧ setI ((l.take k).map (·.id)) = s.2.2 ∧ ((l.take k).map (·.id)).Nodup) (0, 0, []) (Wk.cw) ⟨rfl, by omega, rfl, by simp⟩ (fun k s h => h.2.1) ?_
 rintro k ⟨i, v, es⟩ Q' ⟨hi, hk, hes, hnd⟩ norm ex rt
 simp only at hi hes
 by_cases hlt : k < l.length
 ·obtain ⟨x, hx⟩ : ∃ x, l[k]? = some x := ⟨_, List.getElem?_eq_getElem hlt⟩
  have hxa := elt_at llh hi hx
  have htk := take_succ_get hx
  obtain ⟨xi, xa, xr⟩ := x
  simp only [encTn, intsD] at hxa
  generalize xa.map encI = xl at *
  conv => cbv
  repeat' first | (refine ex _ _ _ ?_; (conv => cbv)) | (refine rt _ _ ?_; (conv => cbv)) | (intro e he; cases Option.some.inj (he.symm.trans hxa); (conv => cbv)) | (refine vlk_setI hes (fun h0 => ?_) (fun h0 => ?_) <;> (conv => cbv)) | (refine vup_setI hes (fun _ es' he' => ?_) (fun h1 => absurd h1 h0); (conv => cbv)) | exact gu | exact trivial | refine And.intro ?_ ?_ | (intro hc; exact absurd hc (by decide)) | (intro hc; exfalso; omega) | (intro hc; (first | rw [wrap_small (by omega) (by omega)] at hc | rw [nI_eq] at hc | skip); try (conv => cbv))
  ·refine norm _ _ (_, _, _) ?_ (Wk.cw)
   rw [htk, List.map_append]
   exact ⟨by simp only; omega, by omega, he', by
    rw [List.nodup_append]
    exact ⟨hnd, by simp, fun a ha b hb e => by simp only [List.map_cons, List.map_nil, List.mem_singleton] at hb; subst hb; subst e; exact h0 ha⟩⟩
  ·refine no fun h => ?_
   have h1 : (l.map (·.id))[k]? = some xi := by rw [List.getElem?_map, hx]; rfl
   exact nodup_atU h.1 h1 (by rw [← List.map_take]; exact h0)
 ·conv => cbv
  repeat' first | (refine ex _ _ _ ?_; (conv => cbv)) | (refine rt _ _ ?_; (conv => cbv)) | exact gu | exact trivial | refine And.intro ?_ ?_ | (intro hc; exact absurd hc (by decide)) | (intro hc; exfalso; omega) | (intro hc; (first | rw [wrap_small (by omega) (by omega)] at hc | rw [nI_eq] at hc | skip); try (conv => cbv))
  rw [List.take_of_length_le (by omega)] at hnd
  exact yes hnd (by omega)
end Go.Ab

/-
  Updates, part d: the reference's sets of tunnels: what is proper, found, equal, changed.
-/
namespace Go.Ab
open Go.Proofs
def tn0 : Tn := ⟨0, [], 0⟩
theorem rnamed_ok (P : Program) (hP : P = Try.prog) (l : List Tn) : Ret P n_ref48_Named [tnsA l] (bA (namedS l)) := by
 refine ret_start (hP ▸ mixed) (hP ▸ fn_ref48_Named) (hP ▸ c_ref48_Named) (Nat.le_of_ble_eq_true rfl) fun Λ Λo K hK => ?_
 clear hP
 have yes : (l.map (·.id)).Nodup → l.length ≤ 12 → K (bA true) := fun h1 h2 => by rw [namedS_spec.2 ⟨h1, h2⟩] at hK; exact hK
 have no : ¬ ((l.map (·.id)).Nodup ∧ l.length ≤ 12) → K (bA false) := fun h => by rw [named_false h] at hK; exact hK
 clear hK
 simp only [tnsA, tnsD] at *
 generalize llh : l.map encTn = ll at *
 have lln : Λ ll = l.length := by rw [Λo, ← llh]; simp
 conv => cbv
 refine loop_up l.length (fun i : Int => [(0, .c (.d (.list false 3 ll))), (3, iA i)]) (fun _ => []) (fun k i => i = k ∧ k ≤ l.length ∧ ((l.take k).map (·.id)).Nodup) 0 (Wk.cw) ⟨rfl, by omega, by simp⟩ (fun k s h => h.2.1) ?_
 rintro k i Q' ⟨hi, hk, hnd⟩ norm ex rt
 by_cases hlt : k < l.length
 ·obtain ⟨x, hx⟩ : ∃ x, l[k]? = some x := ⟨_, List.getElem?_eq_getElem hlt⟩
  have hxa := elt_at llh hi hx
  have htk := take_succ_get hx
  obtain ⟨xi, xa, xr⟩ := x
  simp only [encTn, intsD] at hxa
  generalize xa.map encI = xl at *
  conv => cbv
  repeat' first | (refine ex _ _ _ ?_; (conv => cbv)) | (refine rt _ _ ?_; (conv => cbv)) | exact gu | exact trivial | refine And.intro ?_ ?_ | (intro hc; exact absurd hc (by decide)) | (intro hc; exfalso; omega) | (intro hc; (first | rw [wrap_small (by omega) (by omega)] at hc | rw [nI_eq] at hc | skip); try (conv => cbv))
  refine loop_upx k (fun j : Int => [(0, .c (.d (.list false 3 ll))), (3, iA i), (4, iA j)]) (fun _ => []) (fun m j => j = m ∧ m ≤ k ∧ xi ∉ (l.take m).map (·.id)) 0 2
   (fun (_ : Unit) => [(0, .c (.d (.list false 3 ll))), (3, iA i)]) (fun _ => []) (fun _ => xi ∉ (l.take k).map (·.id)) (Wk.cw) ⟨rfl, by omega, by simp⟩ (fun k s h => h.2.1) ?_ ?_
  ·rintro m j Q2 ⟨hj, hm, hno⟩ norm2 jn ex2 rt2
   by_cases hml : m < k
   ·clear jn norm
    obtain ⟨y, hy⟩ : ∃ y, l[m]? = some y := ⟨_, List.getElem?_eq_getElem (by omega)⟩
    have hya := elt_at llh hj hy
    have hty := take_succ_get hy
    obtain ⟨yi, ya, yr⟩ := y
    simp only [encTn, intsD] at hya
    generalize ya.map encI = yl at *
    conv => cbv
    repeat' first | (intro e he; cases Option.some.inj (he.symm.trans hya); (conv => cbv)) | (intro e he; cases Option.some.inj (he.symm.trans hxa); (conv => cbv)) | (refine rt2 _ _ ?_; (conv => cbv)) | (refine rt _ _ ?_; (conv => cbv)) | exact gu | exact trivial | refine And.intro ?_ ?_ | (intro hc; exact absurd hc (by decide)) | (intro hc; exfalso; omega) | (intro hc; (first | rw [wrap_small (by omega) (by omega)] at hc | rw [nI_eq] at hc | skip); try (conv => cbv))
    ·refine no fun h => ?_
     have h1 : (l.map (·.id))[k]? = some xi := by rw [List.getElem?_map, hx]; rfl
     refine nodup_atU h.1 h1 ?_
     rw [← List.map_take]
     have h2 : (l.take k)[m]? = some ⟨yi, ya, yr⟩ := by rw [List.getElem?_take_of_lt hml]; exact hy
     refine List.mem_map.2 ⟨_, List.mem_of_getElem? h2, by assumption⟩
    ·refine norm2 _ _ _ ?_ (Wk.cw)
     refine ⟨by omega, by omega, ?_⟩
     rw [hty, List.map_append, List.mem_append]
     rintro (h | h)
     ·exact hno h
     ·simp only [List.map_cons, List.map_nil, List.mem_singleton] at h
      omega
   ·obtain rfl : m = k := by omega
    clear norm2
    conv => cbv
    repeat' first | exact gu | exact trivial | refine And.intro ?_ ?_ | (intro hc; exact absurd hc (by decide)) | (intro hc; exfalso; omega) | (intro hc; (first | rw [wrap_small (by omega) (by omega)] at hc | rw [nI_eq] at hc | skip); try (conv => cbv))
    exact jn _ _ () hno (Wk.cw)
  ·rintro - hno
   conv => cbv
   repeat' first | exact gu | exact trivial | refine And.intro ?_ ?_ | (intro hc; exact absurd hc (by decide)) | (intro hc; exfalso; omega) | (intro hc; (first | rw [wrap_small (by omega) (by omega)] at hc | rw [nI_eq] at hc | skip); try (conv => cbv))
   refine norm _ _ _ ?_ (Wk.cw)
   rw [htk, List.map_append]
   exact ⟨by omega, by omega, by
    rw [List.nodup_append]
    exact ⟨hnd, by simp, fun a ha b hb e => by simp only [List.map_cons, List.map_nil, List.mem_singleton] at hb; subst hb; subst e; exact hno ha⟩⟩
 ·rw [List.take_of_length_le (by omega)] at hnd
  conv => cbv
  repeat' first | (refine ex _ _ _ ?_; (conv => cbv)) | (refine rt _ _ ?_; (conv => cbv)) | exact gu | exact trivial | refine And.intro ?_ ?_ | (intro hc; exact absurd hc (by decide)) | (intro hc; exfalso; omega) | (intro hc; (first | rw [wrap_small (by omega) (by omega)] at hc | rw [nI_eq] at hc | skip); try (conv => cbv))
  ·exact yes hnd (by omega)
  ·exact no (by omega)
theorem rproper48_ok (P : Program) (hP : P = Try.prog) (t : Top) (l : List Tn) : Ret P n_ref48_Proper [topA t, tnsA l] (bA (properS t l)) := by
 have hv := valid_ok P hP t
 have hn := rnamed_ok P hP l
 have ha := arcs_ok P hP t
 have hhas := fun l n => has_ok P hP l n
 refine ret_start (hP ▸ mixed) (hP ▸ fn_ref48_Proper) (hP ▸ c_ref48_Proper) (Nat.le_of_ble_eq_true rfl) fun Λ Λo K hK => ?_
 clear hP
 have yes : validT t = true → namedS l = true → (∀ x ∈ l, okTn (2 * (t.links.length : Int)) x) → K (bA true) := fun h1 h2 h3 => by
  rw [properS, h1, h2, decide_eq_true h3] at hK; exact hK
 have no : ¬ (validT t = true ∧ namedS l = true ∧ ∀ x ∈ l, okTn (2 * (t.links.length : Int)) x) → K (bA false) := fun h => by
  have : properS t l = false := by
   rw [Bool.eq_false_iff]
   intro h1
   simp only [properS, Bool.and_eq_true, decide_eq_true_eq, and_assoc] at h1
   exact h h1
  rw [this] at hK; exact hK
 clear hK
 cases hvt : validT t with
 | false =>
  rw [hvt] at hv no
  have no2 := no (by simp)
  simp only [tnsA, tnsD] at *
  generalize tlh : l.map encTn = tl at *
  obtain ⟨nodes, ov, links⟩ := t
  simp only [topA, boolsD, linksD] at *
  generalize hol : ov.map encB = ol at *
  generalize hll : links.map encLk = ll at *
  have hlo : Λ ol = ov.length := by rw [Λo, ← hol]; simp
  have hls : Λ ll = links.length := by rw [Λo, ← hll]; simp
  conv => cbv
  repeat' first | refine call_b hv rfl rfl ?_ ?_ | exact gu | exact trivial | refine And.intro ?_ ?_ | (intro hc; exact absurd hc (by decide)) | (intro hc; exfalso; omega) | (intro hc; (first | rw [wrap_small (by omega) (by omega)] at hc | rw [nI_eq] at hc | skip); try (conv => cbv))
  exact no2
 | true =>
  rw [hvt] at hv no
  rw [arcsT, hvt, if_pos rfl] at ha
  have yes2 := yes hvt
  have h256 := (validT_spec.1 hvt).2.2.1
  generalize hN : 2 * (t.links.length : Int) = N at *
  have hN5 : 0 ≤ N ∧ N ≤ 512 := by omega
  clear hvt hN h256
  cases hnn : namedS l with
  | false =>
   rw [hnn] at hn no
   have no2 := no (by simp)
   simp only [tnsA, tnsD] at *
   generalize tlh : l.map encTn = tl at *
   obtain ⟨nodes, ov, links⟩ := t
   simp only [topA, boolsD, linksD] at *
   generalize hol : ov.map encB = ol at *
   generalize hll : links.map encLk = ll at *
   have hlo : Λ ol = ov.length := by rw [Λo, ← hol]; simp
   have hls : Λ ll = links.length := by rw [Λo, ← hll]; simp
   conv => cbv
   repeat' first | refine call_b hv rfl rfl ?_ ?_ | refine call_b hn rfl rfl ?_ ?_ | exact gu | exact trivial | refine And.intro ?_ ?_ | (intro hc; exact absurd hc (by decide)) | (intro hc; exfalso; omega) | (intro hc; (first | rw [wrap_small (by omega) (by omega)] at hc | rw [nI_eq] at hc | skip); try (conv => cbv))
   exact no2
  | true =>
   rw [hnn] at hn no
   have yes3 := yes2 hnn
   have no3 : ∀ x ∈ l, ¬ okTn N x → K (bA false) := fun x hx hno => no fun h => hno (h.2.2 x hx)
   have h12 := (namedS_spec.1 hnn).2
   clear hnn yes yes2 no
   simp only [tnsA, tnsD] at *
   generalize tlh : l.map encTn = tl at *
   have tln : Λ tl = l.length := by rw [Λo, ← tlh]; simp
   obtain ⟨nodes, ov, links⟩ := t
   simp only [topA, boolsD, linksD] at *
   generalize hol : ov.map encB = ol at *
   generalize hll : links.map encLk = ll at *
   have hlo : Λ ol = ov.length := by rw [Λo, ← hol]; simp
   have hls : Λ ll = links.length := by rw [Λo, ← hll]; simp
   conv => cbv
   repeat' first | refine call_b hv rfl rfl ?_ ?_ | refine call_b hn rfl rfl ?_ ?_ | exact gu | exact trivial | refine And.intro ?_ ?_ | (intro hc; exact absurd hc (by decide)) | (intro hc; exfalso; omega) | (intro hc; (first | rw [wrap_small (by omega) (by omega)] at hc | rw [nI_eq] at hc | skip); try (conv => cbv))
   clear hv hn
   refine loop_up l.length (fun i : Int => [(1, .c (.d (.list false 3 tl))), (2, .c (.ptr 0 0 0 0)), (5, iA i)]) (fun _ => [.bx [.d (iD nodes), .d (.list false 1 ol), .d (.list false 7 ll)]]) (fun k i => i = k ∧ k ≤ l.length ∧ ∀ x ∈ l.take k, okTn N x) 0 (Wk.cw) ⟨rfl, by omega, by simp⟩ (fun k s h => h.2.1) ?_
   rintro k i Q' ⟨hi, hk, hok⟩ norm ex rt
   by_cases hlt : k < l.length
   ·obtain ⟨x, hx⟩ : ∃ x, l[k]? = some x := ⟨_, List.getElem?_eq_getElem hlt⟩
    have hxa := elt_at tlh hi hx
    have htk := take_succ_get hx
    have no := no3 x (List.mem_of_getElem? hx)
    clear yes3 no3
    have next : okTn N x → ∀ z ∈ l.take (k + 1), okTn N z := fun h z hz => by
     rw [htk] at hz
     rcases List.mem_append.1 hz with hz | hz
     ·exact hok z hz
     ·simp only [List.mem_singleton] at hz; subst hz; exact h
    clear hok
    obtain ⟨xi, xa, xr⟩ := x
    unfold okTn at no next
    simp only [encTn, intsD] at hxa no next
    obtain ⟨xl, xlh⟩ : ∃ xl, xa.map encI = xl := ⟨_, rfl⟩
    rw [xlh] at hxa
    have xln : Λ xl = xa.length := by rw [Λo, ← xlh]; simp
    conv => cbv
    repeat' first | (refine ex _ _ _ ?_; (conv => cbv)) | (refine rt _ _ ?_; (conv => cbv)) | (intro e he; cases Option.some.inj (he.symm.trans hxa); (conv => cbv)) | exact gu | exact trivial | refine And.intro ?_ ?_ | (intro hc; exact absurd hc (by decide)) | (intro hc; exfalso; omega) | (intro hc; (first | rw [wrap_small (by omega) (by omega)] at hc | rw [nI_eq] at hc | skip); try (conv => cbv))
    all_goals try (exact no (by omega))
    refine loop_upx xa.length (fun j : Int => [(1, .c (.d (.list false 3 tl))), (2, .c (.ptr 0 0 0 0)), (5, iA i), (6, .c (.ptr 1 0 0 0)), (7, iA j)]) (fun _ => [.bx [.d (iD nodes), .d (.list false 1 ol), .d (.list false 7 ll)], .bx [.d (iD xi), .d (.list false 1 xl), .d (iD xr)]])
     (fun m j => j = m ∧ m ≤ xa.length ∧ (xa.take m).Nodup ∧ ∀ a ∈ xa.take m, 0 ≤ a ∧ a < N) 0 2
     (fun (_ : Unit) => [(1, .c (.d (.list false 3 tl))), (2, .c (.ptr 0 0 0 0)), (5, iA i)]) (fun _ => [.bx [.d (iD nodes), .d (.list false 1 ol), .d (.list false 7 ll)]]) (fun _ => xa.Nodup ∧ ∀ a ∈ xa, 0 ≤ a ∧ a < N) (Wk.cw) ⟨rfl, by omega, by simp, by simp⟩ (fun k s h => h.2.1) ?_ ?_
    ·rintro m j Q2 ⟨hj, hm, hnd, hrg⟩ norm2 jn ex2 rt2
     by_cases hml : m < xa.length
     ·clear jn norm
      obtain ⟨y, hy⟩ : ∃ y, xa[m]? = some y := ⟨_, List.getElem?_eq_getElem hml⟩
      have hya := elt_at xlh hj hy
      have hhy := hhas (xa.take m) y
      have jm : j.toNat = m := by omega
      obtain ⟨sl, hsl⟩ : ∃ sl, sl = List.take (Int.toNat j) xl := ⟨_, rfl⟩
      rw [intsA, intsD, List.map_take, xlh, ← jm, ← hsl, jm] at hhy
      conv => cbv
      repeat' first | (intro e he; cases Option.some.inj (he.symm.trans hya); (conv => cbv)) | refine call_i ha rfl rfl ?_ | (intro (z : List (List D)) hz; refine (fun (hq : sl = z) => ?_) (hsl.trans hz.symm); subst hq; (conv => cbv)) | refine call_b hhy rfl rfl ?_ ?_ | (refine rt2 _ _ ?_; (conv => cbv)) | (refine rt _ _ ?_; (conv => cbv)) | exact gu | exact trivial | refine And.intro ?_ ?_ | (intro hc; exact absurd hc (by decide)) | (intro hc; exfalso; omega) | (intro hc; (first | rw [wrap_small (by omega) (by omega)] at hc | rw [nI_eq] at hc | skip); try (conv => cbv))
      ·exact no fun h => by have := h.2.2.2.2 y (List.mem_of_getElem? hy); omega
      ·exact no fun h => by have := h.2.2.2.2 y (List.mem_of_getElem? hy); omega
      ·exact no fun h => nodup_atU h.2.2.2.1 hy (of_decide_eq_true (by assumption))
      ·refine norm2 _ _ _ ?_ (Wk.cw)
       have hny : y ∉ xa.take m := of_decide_eq_false (by assumption)
       rw [take_succ_get hy]
       refine ⟨by omega, by omega, ?_, ?_⟩
       ·rw [List.nodup_append]
        exact ⟨hnd, by simp, fun a ha b hb => by simp only [List.mem_singleton] at hb; subst hb; intro e; subst e; exact hny ha⟩
       ·intro a ha
        rcases List.mem_append.1 ha with ha | ha
        ·exact hrg a ha
        ·simp only [List.mem_singleton] at ha; subst ha; omega
     ·obtain rfl : m = xa.length := by omega
      rw [List.take_length] at hnd hrg
      clear norm2
      conv => cbv
      repeat' first | exact gu | exact trivial | refine And.intro ?_ ?_ | (intro hc; exact absurd hc (by decide)) | (intro hc; exfalso; omega) | (intro hc; (first | rw [wrap_small (by omega) (by omega)] at hc | rw [nI_eq] at hc | skip); try (conv => cbv))
      exact jn _ _ () ⟨hnd, hrg⟩ (Wk.cw)
    ·rintro - ⟨hnd, hrg⟩
     conv => cbv
     repeat' first | exact gu | exact trivial | refine And.intro ?_ ?_ | (intro hc; exact absurd hc (by decide)) | (intro hc; exfalso; omega) | (intro hc; (first | rw [wrap_small (by omega) (by omega)] at hc | rw [nI_eq] at hc | skip); try (conv => cbv))
     refine norm _ _ _ ?_ (Wk.cw)
     exact ⟨by omega, by omega, next ⟨by omega, by omega, by omega, hnd, hrg⟩⟩
   ·rw [List.take_of_length_le (by omega)] at hok
    conv => cbv
    repeat' first | (refine ex _ _ _ ?_; (conv => cbv)) | (refine rt _ _ ?_; (conv => cbv)) | exact gu | exact trivial | refine And.intro ?_ ?_ | (intro hc; exact absurd hc (by decide)) | (intro hc; exfalso; omega) | (intro hc; (first | rw [wrap_small (by omega) (by omega)] at hc | rw [nI_eq] at hc | skip); try (conv => cbv))
    exact yes3 hok
theorem find_first {α : Type} {p : α → Bool} {x : α} : ∀ {l : List α} {k : Nat}, l[k]? = some x → p x = true → (∀ y ∈ l.take k, p y = false) → l.find? p = some x := by
 intro l
 induction l with
 | nil => intro k h; simp at h
 | cons z l ih =>
  intro k h hp hn
  cases k with
  | zero => simp at h; subst h; rw [List.find?_cons, hp]
  | succ k =>
   simp only [List.getElem?_cons_succ, List.take_succ_cons, List.mem_cons] at h hn
   rw [List.find?_cons, hn z (.inl rfl)]
   exact ih h hp fun y hy => hn y (.inr hy)
theorem rfind48_ok (P : Program) (hP : P = Try.prog) (l : List Tn) (id : Int) : Ret P n_ref48_find [tnsA l, iA id] (.tup [tnA ((findS l id).getD tn0), bA (findS l id).isSome]) := by
 refine ret_start (hP ▸ mixed) (hP ▸ fn_ref48_find) (hP ▸ c_ref48_find) (Nat.le_of_ble_eq_true rfl) fun Λ Λo K hK => ?_
 clear hP
 have yes : ∀ x, findS l id = some x → K (.tup [tnA x, bA true]) := fun x h => by rw [h] at hK; exact hK
 have no : findS l id = none → K (.tup [tnA tn0, bA false]) := fun h => by rw [h] at hK; exact hK
 clear hK
 simp only [tnsA, tnsD, tnA, tn0, intsD] at *
 generalize llh : l.map encTn = ll at *
 have lln : Λ ll = l.length := by rw [Λo, ← llh]; simp
 conv => cbv
 repeat' first | exact gu | exact trivial | refine And.intro ?_ ?_ | (intro hc; exact absurd hc (by decide)) | (intro hc; exfalso; omega) | (intro hc; (first | rw [wrap_small (by omega) (by omega)] at hc | rw [nI_eq] at hc | skip); try (conv => cbv))
 refine loop_up l.length (fun i : Int => [(0, .c (.d (.list false 3 ll))), (1, iA id), (4, .c (.ptr 0 0 0 0)), (6, iA i)]) (fun _ => [.bx [.d (iD 0), .d (.list true 1 []), .d (iD 0)]]) (fun k i => i = k ∧ k ≤ l.length ∧ id ∉ (l.take k).map (·.id)) 0 (Wk.cw) ⟨rfl, by omega, by simp⟩ (fun k s h => h.2.1) ?_
 rintro k i Q' ⟨hi, hk, hno⟩ norm ex rt
 by_cases hlt : k < l.length
 ·obtain ⟨x, hx⟩ : ∃ x, l[k]? = some x := ⟨_, List.getElem?_eq_getElem hlt⟩
  have hxa := elt_at llh hi hx
  have htk := take_succ_get hx
  have yes := yes x
  obtain ⟨xi, xa, xr⟩ := x
  simp only [encTn, intsD] at hxa yes
  have hfd : xi = id → findS l id = some ⟨xi, xa, xr⟩ := fun e => find_first hx (decide_eq_true e) fun y hy => decide_eq_false fun e => hno (List.mem_map.2 ⟨y, hy, e⟩)
  generalize xa.map encI = xl at *
  conv => cbv
  repeat' first | (refine ex _ _ _ ?_; (conv => cbv)) | (refine rt _ _ ?_; (conv => cbv)) | (intro e he; cases Option.some.inj (he.symm.trans hxa); (conv => cbv)) | exact gu | exact trivial | refine And.intro ?_ ?_ | (intro hc; exact absurd hc (by decide)) | (intro hc; exfalso; omega) | (intro hc; (first | rw [wrap_small (by omega) (by omega)] at hc | rw [nI_eq] at hc | skip); try (conv => cbv))
  ·exact yes (hfd (by assumption))
  ·refine norm _ _ _ ?_ (Wk.cw)
   refine ⟨by omega, by omega, ?_⟩
   rw [htk, List.map_append, List.mem_append]
   rintro (h | h)
   ·exact hno h
   ·simp only [List.map_cons, List.map_nil, List.mem_singleton] at h
    omega
 ·rw [List.take_of_length_le (by omega)] at hno
  conv => cbv
  repeat' first | (refine ex _ _ _ ?_; (conv => cbv)) | (refine rt _ _ ?_; (conv => cbv)) | exact gu | exact trivial | refine And.intro ?_ ?_ | (intro hc; exact absurd hc (by decide)) | (intro hc; exfalso; omega) | (intro hc; (first | rw [wrap_small (by omega) (by omega)] at hc | rw [nI_eq] at hc | skip); try (conv => cbv))
  exact no (findS_none.2 hno)
theorem requal_ok (P : Program) (hP : P = Try.prog) (a b : List Tn) (id : Int) : Ret P n_ref48_equal [tnsA a, tnsA b, iA id] (bA (eqS a b id)) := by
 have hfa := rfind48_ok P hP a id
 have hfb := rfind48_ok P hP b id
 have hs := fun l m => sameInts_ok P hP l m
 refine ret_start (hP ▸ mixed) (hP ▸ fn_ref48_equal) (hP ▸ c_ref48_equal) (Nat.le_of_ble_eq_true rfl) fun Λ Λo K hK => ?_
 clear hP
 have hid : ∀ l x, findS l id = some x → x.id = id := fun l x h => (findS_some h).2
 have ea := hid a
 have eb := hid b
 clear hid
 have yes : findS a id = findS b id → K (bA true) := fun h => by rw [eqS, decide_eq_true h] at hK; exact hK
 have no : ¬ findS a id = findS b id → K (bA false) := fun h => by rw [eqS, decide_eq_false h] at hK; exact hK
 clear hK
 generalize findS a id = fa at *
 generalize findS b id = fb at *
 obtain ⟨⟨xi, xa, xr⟩, hx⟩ : ∃ x, x = fa.getD tn0 := ⟨_, rfl⟩
 obtain ⟨⟨yi, ya, yr⟩, hy⟩ : ∃ x, x = fb.getD tn0 := ⟨_, rfl⟩
 rw [← hx] at hfa
 rw [← hy] at hfb
 have hs := hs xa ya
 have main : (fa.isSome = fb.isSome ∧ xr = yr ∧ xa = ya) ↔ fa = fb := by
  cases fa with
  | none =>
   cases fb with
   | none => simp only [Option.getD_none, tn0, Tn.mk.injEq] at hx hy; simp [hx, hy]
   | some y => simp
  | some x =>
   cases fb with
   | none => simp
   | some y =>
    have e1 := ea x rfl
    have e2 := eb y rfl
    simp only [Option.getD_some] at hx hy
    subst hx hy
    simp only at e1 e2
    subst e1 e2
    simp [and_comm]
 have yes : fa.isSome = fb.isSome → xr = yr → xa = ya → K (bA true) := fun h1 h2 h3 => yes (main.1 ⟨h1, h2, h3⟩)
 have no : ¬ (fa.isSome = fb.isSome ∧ xr = yr ∧ xa = ya) → K (bA false) := fun h => no fun e => h (main.2 e)
 clear main ea eb hx hy
 generalize fa.isSome = u at *
 generalize fb.isSome = v at *
 simp only [tnsA, tnsD, tnA, intsA, intsD] at *
 generalize a.map encTn = al at *
 generalize b.map encTn = bl at *
 generalize xa.map encI = xl at *
 generalize ya.map encI = yl at *
 cases u <;> cases v <;> (conv => cbv)
 all_goals
  repeat' first | (refine call_r hfa rfl rfl ?_; conv => cbv) | (refine call_r hfb rfl rfl ?_; conv => cbv) | refine call_b hs rfl rfl ?_ ?_ | exact gu | exact trivial | refine And.intro ?_ ?_ | (intro hc; exact absurd hc (by decide)) | (intro hc; exfalso; omega) | (intro hc; (first | rw [wrap_small (by omega) (by omega)] at hc | rw [nI_eq] at hc | skip); try (conv => cbv))
 all_goals first | exact yes rfl (by assumption) (of_decide_eq_true (by assumption)) | (refine no (fun h => ?_); cases h.1; done) | (refine no (fun h => absurd h.2.1 ?_); assumption) | (refine no (fun h => absurd h.2.2 (of_decide_eq_false ?_)); assumption)
end Go.Ab

/-
  Updates, part h: the program's test of a set of tunnels.
-/
namespace Go.Ab
open Go.Proofs
theorem pproper_ok (P : Program) (hP : P = Try.prog) (t : Top) (l : List Tn) : Ret P n_update_Proper [topA t, tnsA l] (bA (properS t l)) := by
 have hv := tvalid_ok P hP t
 have hn := distinct_ok P hP l
 have ha := fun a h => garc_ok P hP t a h
 have hhas := fun l n => contains_ok P hP l n
 refine ret_start (hP ▸ mixed) (hP ▸ fn_update_Proper) (hP ▸ c_update_Proper) (Nat.le_of_ble_eq_true rfl) fun Λ Λo K hK => ?_
 clear hP
 have yes : validT t = true → namedS l = true → (∀ x ∈ l, okTn (2 * (t.links.length : Int)) x) → K (bA true) := fun h1 h2 h3 => by
  rw [properS, h1, h2, decide_eq_true h3] at hK; exact hK
 have no : ¬ (validT t = true ∧ namedS l = true ∧ ∀ x ∈ l, okTn (2 * (t.links.length : Int)) x) → K (bA false) := fun h => by
  have : properS t l = false := by
   rw [Bool.eq_false_iff]
   intro h1
   simp only [properS, Bool.and_eq_true, decide_eq_true_eq, and_assoc] at h1
   exact h h1
  rw [this] at hK; exact hK
 clear hK
 cases hvt : validT t with
 | false =>
  rw [hvt] at hv no
  have no2 := no (by simp)
  simp only [tnsA, tnsD] at *
  generalize tlh : l.map encTn = tl at *
  obtain ⟨nodes, ov, links⟩ := t
  simp only [topA, boolsD, linksD] at *
  generalize hol : ov.map encB = ol at *
  generalize hll : links.map encLk = ll at *
  have hlo : Λ ol = ov.length := by rw [Λo, ← hol]; simp
  have hls : Λ ll = links.length := by rw [Λo, ← hll]; simp
  conv => cbv
  repeat' first | refine call_b hv rfl rfl ?_ ?_ | exact gu | exact trivial | refine And.intro ?_ ?_ | (intro hc; exact absurd hc (by decide)) | (intro hc; exfalso; omega) | (intro hc; (first | rw [wrap_small (by omega) (by omega)] at hc | rw [nI_eq] at hc | skip); try (conv => cbv))
  exact no2
 | true =>
  rw [hvt] at hv no
  have yes2 := yes hvt
  have h256 := (validT_spec.1 hvt).2.2.1
  have ha := fun a => ha a (by omega)
  generalize hN : 2 * (t.links.length : Int) = N at *
  have hN5 : 0 ≤ N ∧ N ≤ 512 := by omega
  clear hvt hN h256
  cases hnn : namedS l with
  | false =>
   rw [hnn] at hn no
   have no2 := no (by simp)
   simp only [tnsA, tnsD] at *
   generalize tlh : l.map encTn = tl at *
   obtain ⟨nodes, ov, links⟩ := t
   simp only [topA, boolsD, linksD] at *
   generalize hol : ov.map encB = ol at *
   generalize hll : links.map encLk = ll at *
   have hlo : Λ ol = ov.length := by rw [Λo, ← hol]; simp
   have hls : Λ ll = links.length := by rw [Λo, ← hll]; simp
   conv => cbv
   repeat' first | refine call_b hv rfl rfl ?_ ?_ | refine call_b hn rfl rfl ?_ ?_ | exact gu | exact trivial | refine And.intro ?_ ?_ | (intro hc; exact absurd hc (by decide)) | (intro hc; exfalso; omega) | (intro hc; (first | rw [wrap_small (by omega) (by omega)] at hc | rw [nI_eq] at hc | skip); try (conv => cbv))
   exact no2
  | true =>
   rw [hnn] at hn no
   have yes3 := yes2 hnn
   have no3 : ∀ x ∈ l, ¬ okTn N x → K (bA false) := fun x hx hno => no fun h => hno (h.2.2 x hx)
   have h12 := (namedS_spec.1 hnn).2
   clear hnn yes yes2 no
   simp only [tnsA, tnsD] at *
   generalize tlh : l.map encTn = tl at *
   have tln : Λ tl = l.length := by rw [Λo, ← tlh]; simp
   obtain ⟨nodes, ov, links⟩ := t
   simp only [topA, boolsD, linksD] at *
   generalize hol : ov.map encB = ol at *
   generalize hll : links.map encLk = ll at *
   have hlo : Λ ol = ov.length := by rw [Λo, ← hol]; simp
   have hls : Λ ll = links.length := by rw [Λo, ← hll]; simp
   conv => cbv
   repeat' first | refine call_b hv rfl rfl ?_ ?_ | refine call_b hn rfl rfl ?_ ?_ | exact gu | exact trivial | refine And.intro ?_ ?_ | (intro hc; exact absurd hc (by decide)) | (intro hc; exfalso; omega) | (intro hc; (first | rw [wrap_small (by omega) (by omega)] at hc | rw [nI_eq] at hc | skip); try (conv => cbv))
   clear hv hn
   refine loop_up l.length (fun i : Int => [(2, .c (.ptr 0 0 0 0)), (17, .c (.d (.list false 3 tl))), (18, iA (Λ tl)), (19, iA i)]) (fun _ => [.bx [.d (iD nodes), .d (.list false 1 ol), .d (.list false 7 ll)]]) (fun k i => i = k ∧ k ≤ l.length ∧ ∀ x ∈ l.take k, okTn N x) 0 (Wk.cw) ⟨rfl, by omega, by simp⟩ (fun k s h => h.2.1) ?_
   rintro k i Q' ⟨hi, hk, hok⟩ norm ex rt
   by_cases hlt : k < l.length
   ·obtain ⟨x, hx⟩ : ∃ x, l[k]? = some x := ⟨_, List.getElem?_eq_getElem hlt⟩
    have hxa := elt_at tlh hi hx
    have htk := take_succ_get hx
    have no := no3 x (List.mem_of_getElem? hx)
    clear yes3 no3
    have next : okTn N x → ∀ z ∈ l.take (k + 1), okTn N z := fun h z hz => by
     rw [htk] at hz
     rcases List.mem_append.1 hz with hz | hz
     ·exact hok z hz
     ·simp only [List.mem_singleton] at hz; subst hz; exact h
    clear hok
    obtain ⟨xi, xa, xr⟩ := x
    unfold okTn at no next
    simp only [encTn, intsD] at hxa no next
    obtain ⟨xl, xlh⟩ : ∃ xl, xa.map encI = xl := ⟨_, rfl⟩
    rw [xlh] at hxa
    have xln : Λ xl = xa.length := by rw [Λo, ← xlh]; simp
    conv => cbv
    repeat' first | (refine ex _ _ _ ?_; (conv => cbv)) | (refine rt _ _ ?_; (conv => cbv)) | (intro e he; cases Option.some.inj (he.symm.trans hxa); (conv => cbv)) | exact gu | exact trivial | refine And.intro ?_ ?_ | (intro hc; exact absurd hc (by decide)) | (intro hc; exfalso; omega) | (intro hc; (first | rw [wrap_small (by omega) (by omega)] at hc | rw [nI_eq] at hc | skip); try (conv => cbv))
    all_goals try (exact no (by omega))
    refine loop_upx xa.length (fun j : Int => [(2, .c (.ptr 0 0 0 0)), (6, .c (.ptr 1 0 0 0)), (17, .c (.d (.list false 3 tl))), (18, iA (Λ tl)), (19, iA i), (49, .c (.d (.list false 1 xl))), (50, iA (Λ xl)), (51, iA j)]) (fun _ => [.bx [.d (iD nodes), .d (.list false 1 ol), .d (.list false 7 ll)], .bx [.d (iD xi), .d (.list false 1 xl), .d (iD xr)]])
     (fun m j => j = m ∧ m ≤ xa.length ∧ (xa.take m).Nodup ∧ ∀ a ∈ xa.take m, 0 ≤ a ∧ a < N) 0 2
     (fun (_ : Unit) => [(2, .c (.ptr 0 0 0 0)), (17, .c (.d (.list false 3 tl))), (18, iA (Λ tl)), (19, iA i)]) (fun _ => [.bx [.d (iD nodes), .d (.list false 1 ol), .d (.list false 7 ll)]]) (fun _ => xa.Nodup ∧ ∀ a ∈ xa, 0 ≤ a ∧ a < N) (Wk.cw) ⟨rfl, by omega, by simp, by simp⟩ (fun k s h => h.2.1) ?_ ?_
    ·rintro m j Q2 ⟨hj, hm, hnd, hrg⟩ norm2 jn ex2 rt2
     by_cases hml : m < xa.length
     ·clear jn norm
      obtain ⟨y, hy⟩ : ∃ y, xa[m]? = some y := ⟨_, List.getElem?_eq_getElem hml⟩
      have hya := elt_at xlh hj hy
      have hhy := hhas (xa.take m) y
      have hay := ha y
      have jm : j.toNat = m := by omega
      obtain ⟨sl, hsl⟩ : ∃ sl, sl = List.take (Int.toNat j) xl := ⟨_, rfl⟩
      rw [intsA, intsD, List.map_take, xlh, ← jm, ← hsl, jm] at hhy
      conv => cbv
      repeat' first | (intro e he; cases Option.some.inj (he.symm.trans hya); (conv => cbv)) | refine call_b hay rfl rfl ?_ ?_ | (intro (z : List (List D)) hz; refine (fun (hq : sl = z) => ?_) (hsl.trans hz.symm); subst hq; (conv => cbv)) | refine call_b hhy rfl rfl ?_ ?_ | (refine rt2 _ _ ?_; (conv => cbv)) | (refine rt _ _ ?_; (conv => cbv)) | exact gu | exact trivial | refine And.intro ?_ ?_ | (intro hc; exact absurd hc (by decide)) | (intro hc; exfalso; omega) | (intro hc; (first | rw [wrap_small (by omega) (by omega)] at hc | rw [nI_eq] at hc | skip); try (conv => cbv))
      ·exact no fun h => nodup_atU h.2.2.2.1 hy (of_decide_eq_true (by assumption))
      ·refine norm2 _ _ _ ?_ (Wk.cw)
       have hny : y ∉ xa.take m := of_decide_eq_false (by assumption)
       rw [take_succ_get hy]
       refine ⟨by omega, by omega, ?_, ?_⟩
       ·rw [List.nodup_append]
        exact ⟨hnd, by simp, fun a ha b hb => by simp only [List.mem_singleton] at hb; subst hb; intro e; subst e; exact hny ha⟩
       ·intro a ha
        rcases List.mem_append.1 ha with ha | ha
        ·exact hrg a ha
        ·simp only [List.mem_singleton] at ha; subst ha; exact of_decide_eq_true (by assumption)
      ·exact no fun h => absurd (h.2.2.2.2 y (List.mem_of_getElem? hy)) (of_decide_eq_false (by assumption))
     ·obtain rfl : m = xa.length := by omega
      rw [List.take_length] at hnd hrg
      clear norm2
      conv => cbv
      repeat' first | exact gu | exact trivial | refine And.intro ?_ ?_ | (intro hc; exact absurd hc (by decide)) | (intro hc; exfalso; omega) | (intro hc; (first | rw [wrap_small (by omega) (by omega)] at hc | rw [nI_eq] at hc | skip); try (conv => cbv))
      exact jn _ _ () ⟨hnd, hrg⟩ (Wk.cw)
    ·rintro - ⟨hnd, hrg⟩
     conv => cbv
     repeat' first | exact gu | exact trivial | refine And.intro ?_ ?_ | (intro hc; exact absurd hc (by decide)) | (intro hc; exfalso; omega) | (intro hc; (first | rw [wrap_small (by omega) (by omega)] at hc | rw [nI_eq] at hc | skip); try (conv => cbv))
     refine norm _ _ _ ?_ (Wk.cw)
     exact ⟨by omega, by omega, next ⟨by omega, by omega, by omega, hnd, hrg⟩⟩
   ·rw [List.take_of_length_le (by omega)] at hok
    conv => cbv
    repeat' first | (refine ex _ _ _ ?_; (conv => cbv)) | (refine rt _ _ ?_; (conv => cbv)) | exact gu | exact trivial | refine And.intro ?_ ?_ | (intro hc; exact absurd hc (by decide)) | (intro hc; exfalso; omega) | (intro hc; (first | rw [wrap_small (by omega) (by omega)] at hc | rw [nI_eq] at hc | skip); try (conv => cbv))
    exact yes3 hok
end Go.Ab

/-
  The engine: a contract over a few blocks, used where these blocks are some of many.
-/
namespace Go.Ab
section
variable {G : Nat → Prop} {w : World} {ιc ι : Io} {hc h : Hp} {ρ : Nat → Nat}
theorem Kept.rn {ι' ιc' : Io} {w' : World} {i l : Nat} {k k' : Blk} (hk : Kept ιc ιc' w w' i k k') (h1 : ι[l]? = ιc[i]?) (h2 : ι'[l]? = ιc'[i]?) : Kept ι ι' w w' l (rnB ρ k) (rnB ρ k') := by
 cases k' with
 | dead => cases k <;> trivial
 | am m' =>
  cases k with
  | am m => trivial
  | _ => simp [Kept] at hk
 | bx cs' =>
  cases k with
  | bx cs => exact ⟨by rw [rnCs_len, rnCs_len]; exact hk.1, by rw [h1, h2]; exact hk.2⟩
  | _ => simp [Kept] at hk
 | da r' v' sz' es' =>
  cases k with
  | da r v sz es =>
   rcases hk with hk | ⟨a1, a2, a3, a4, a5, a6⟩
   ·exact .inl hk
   ·exact .inr ⟨a1, a2, a3, a4, by rw [h1, h2]; exact a5, fun hr b o hb => a6 hr b o (by rw [← h1]; exact hb)⟩
  | _ => simp [Kept] at hk
 | mp v' es' =>
  cases k with
  | mp v es =>
   obtain ⟨a1, a2⟩ := hk
   refine ⟨by rw [h1, h2]; exact a1, ?_⟩
   rcases a2 with a2 | ⟨a2, a3, a4⟩
   ·exact .inl a2
   ·exact .inr ⟨a2, a3, fun b o hb => a4 b o (by rw [← h1]; exact hb)⟩
  | _ => simp [Kept] at hk
 | mi m' v' es' =>
  cases k with
  | mi m v es =>
   obtain ⟨a1, a2, a3⟩ := hk
   exact ⟨by rw [a1], a2, by rw [h1, h2]; exact a3⟩
  | _ => simp [Kept] at hk
end
def setAll {α : Type} : List α → List Nat → List α → List α
 | h, [], _ => h
 | h, _ :: _, [] => h
 | h, l :: σ, b :: bs => setAll (h.set l b) σ bs
theorem setAll_len {α : Type} : ∀ (σ : List Nat) (h bs : List α), (setAll h σ bs).length = h.length
 | [], _, _ => by simp only [setAll]
 | _ :: _, _, [] => by simp only [setAll]
 | l :: σ, h, b :: bs => by simp only [setAll]; rw [setAll_len σ]; simp
theorem setAll_other {α : Type} : ∀ (σ : List Nat) (h bs : List α) (l : Nat), l ∉ σ → (setAll h σ bs)[l]? = h[l]?
 | [], _, _, _, _ => by simp only [setAll]
 | _ :: _, _, [], _, _ => by simp only [setAll]
 | l :: σ, h, b :: bs, l', hn => by
  simp only [setAll]
  rw [setAll_other σ _ bs l' (fun hm => hn (List.mem_cons_of_mem _ hm)), List.getElem?_set_ne (fun (e : l = l') => hn (by rw [e]; exact List.mem_cons_self ..))]
theorem setAll_at {α : Type} : ∀ (σ : List Nat) (h bs : List α) (i l : Nat) (b : α), σ.Nodup → (∀ l ∈ σ, l < h.length) → σ[i]? = some l → bs[i]? = some b → (setAll h σ bs)[l]? = some b
 | [], _, _, _, _, _, _, _, h1, _ => by simp at h1
 | _ :: _, _, [], _, _, _, _, _, _, h2 => by simp at h2
 | l0 :: σ, h, b0 :: bs, i, l, b, hn, hl, h1, h2 => by
  simp only [setAll]
  cases i with
  | zero =>
   simp at h1 h2
   subst h1 h2
   rw [setAll_other σ _ bs l0 (List.nodup_cons.1 hn).1, List.getElem?_set_self (hl l0 (List.mem_cons_self ..))]
  | succ i =>
   exact setAll_at σ _ bs i l b (List.nodup_cons.1 hn).2 (fun x hx => by simpa using hl x (List.mem_cons_of_mem _ hx)) (by simpa using h1) (by simpa using h2)
def rho : List Nat → Nat → Nat → Nat
 | [], n, i => n + i
 | l :: _, _, 0 => l
 | _ :: σ, n, i + 1 => rho σ n i
theorem rho_old : ∀ (σ : List Nat) (n i : Nat), i < σ.length → σ[i]? = some (rho σ n i)
 | [], _, _, h => by simp at h
 | l :: σ, n, 0, _ => rfl
 | l :: σ, n, i + 1, h => by simpa [rho] using rho_old σ n i (by simpa using h)
theorem rho_new : ∀ (σ : List Nat) (n i : Nat), σ.length ≤ i → rho σ n i = n + (i - σ.length)
 | [], _, _, _ => rfl
 | l :: σ, n, 0, h => by simp at h
 | l :: σ, n, i + 1, h => by simp only [rho, List.length_cons]; rw [rho_new σ n i (by simpa using h)]; omega
def backH (h : Hp) (σ : List Nat) (hc : Hp) : Hp := setAll h σ (rnH (rho σ h.length) hc) ++ rnH (rho σ h.length) (hc.drop σ.length)
def backI (ι : Io) (σ : List Nat) (ιc : Io) : Io := setAll ι σ ιc ++ ιc.drop σ.length
theorem FnS.frame {P : Program} {f : Nat} {args : List AV} {hc : Hp} {R : AV → Hp → Prop} (hf : FnS P f args hc R) (σ : List Nat) (h : Hp) (hlen : σ.length = hc.length) (hnd : σ.Nodup)
    (hh : ∀ i k, hc[i]? = some k → h[rho σ h.length i]? = some (rnB (rho σ h.length) k)) (hcl : refsH hc.length hc = true) (hca : ∀ x ∈ args, refsA hc.length x = true) :
    FnS P f (rnAs (rho σ h.length) args) h fun r' h' => ∃ r hc', R r hc' ∧ r' = rnA (rho σ h.length) r ∧ h' = backH h σ hc' := by
  refine ⟨fun G ι w vs hr hv => ?_⟩
  have hlt : ∀ l ∈ σ, l < h.length := by
    intro l hl
    obtain ⟨i, hi, rfl⟩ := List.getElem_of_mem hl
    have h1 := rho_old σ h.length i hi
    rw [List.getElem?_eq_getElem hi] at h1
    have h2 := hh i _ (List.getElem?_eq_getElem (by omega))
    rw [← Option.some.inj h1] at h2
    exact get_lt h2
  have hιl : ∀ l ∈ σ, l < ι.length := fun l hl => by rw [hr.len]; exact hlt l hl
  generalize hρ : rho σ h.length = ρ at *
  have rold : ∀ i, i < σ.length → σ[i]? = some (ρ i) := fun i hi => by rw [← hρ]; exact rho_old σ _ i hi
  have rnew : ∀ i, σ.length ≤ i → ρ i = h.length + (i - σ.length) := fun i hi => by rw [← hρ]; exact rho_new σ _ i hi
  have rmem : ∀ i, i < σ.length → ρ i ∈ σ := fun i hi => List.mem_of_getElem? (rold i hi)
  have rinj : ∀ i j, ρ i = ρ j → i = j := by
    intro i j e
    rcases Nat.lt_or_ge i σ.length with hi | hi <;> rcases Nat.lt_or_ge j σ.length with hj | hj
    · have h1 := rold i hi
      have h2 := rold j hj
      rw [e, ← h2] at h1
      exact (List.getElem?_inj hi hnd).1 h1
    · have := hlt _ (rmem i hi); have := rnew j hj; omega
    · have := hlt _ (rmem j hj); have := rnew i hi; omega
    · have := rnew i hi; have := rnew j hj; omega
  let ιc : Io := σ.map fun l => (ι[l]?).getD (0, 0)
  have hιc : ∀ i, i < σ.length → ιc[i]? = ι[ρ i]? := by
    intro i hi
    simp only [ιc, List.getElem?_map, rold i hi, Option.map_some]
    rw [List.getElem?_eq_getElem (hιl _ (rmem i hi))]; rfl
  have am : Among ρ ιc hc ι h := ⟨hh, fun i k hk => (hιc i (by rw [hlen]; exact get_lt hk)).symm⟩
  have hrc : HR G ιc hc w := HR.down am hr (by simp [ιc, hlen]) (fun i j _ _ e => rinj i j e) hcl
  have hvc : VRs G w ιc hc vs args := by
    refine ⟨by rw [hv.1, rnAs_len], fun i v x h1 h2 => ?_⟩
    exact (hv.2 i v (rnA ρ x) h1 (by rw [rnAs_get, h2]; rfl)).unrn am (hca x (List.mem_of_getElem? h2))
  refine (hf.out G ιc w vs hrc hvc).mono fun e w2 ⟨v, r, G2, ι2, hc2, he, hR, hr2, hvr, hx⟩ => ?_
  have hl2 : hc.length ≤ hc2.length := by
    rcases Nat.lt_or_ge hc2.length hc.length with hb | hb
    · obtain ⟨k', h1, _⟩ := hx.keep hc2.length _ (List.getElem?_eq_getElem hb)
      have := get_lt h1; omega
    · exact hb
  have hl2' : ι2.length = hc2.length := hr2.len
  have hset : (setAll h σ (rnH ρ hc2)).length = h.length := setAll_len σ h _
  have hseti : (setAll ι σ ι2).length = h.length := by rw [setAll_len, hr.len]
  have hbh : backH h σ hc2 = setAll h σ (rnH ρ hc2) ++ rnH ρ (hc2.drop σ.length) := by simp only [backH, hρ]
  -- the callee's blocks, at the caller
  have am2 : Among ρ ι2 hc2 (backI ι σ ι2) (backH h σ hc2) := by
    rw [hbh]
    constructor
    · intro i k hk
      rcases Nat.lt_or_ge i σ.length with hi | hi
      · rw [List.getElem?_append_left (by rw [hset]; exact hlt _ (rmem i hi))]
        exact setAll_at σ h _ i _ _ hnd hlt (rold i hi) (by rw [rnH_get, hk]; rfl)
      · rw [rnew i hi, List.getElem?_append_right (by omega), hset, rnH_get, List.getElem?_drop]
        rw [show σ.length + (h.length + (i - σ.length) - h.length) = i by omega, hk]; rfl
    · intro i k hk
      unfold backI
      have hi2 : ι2[i]? = some (ι2[i]'(by rw [hl2']; exact get_lt hk)) := List.getElem?_eq_getElem _
      rcases Nat.lt_or_ge i σ.length with hi | hi
      · rw [List.getElem?_append_left (by rw [hseti]; exact hlt _ (rmem i hi)), hi2]
        exact setAll_at σ ι _ i _ _ hnd hιl (rold i hi) hi2
      · rw [rnew i hi, List.getElem?_append_right (by omega), hseti, List.getElem?_drop]
        rw [show σ.length + (h.length + (i - σ.length) - h.length) = i by omega]
  -- each of the caller's blocks is one of the callee's, or as it was
  have part : ∀ l k', (backH h σ hc2)[l]? = some k' → (∃ i k, hc2[i]? = some k ∧ l = ρ i ∧ k' = rnB ρ k) ∨ (h[l]? = some k' ∧ l ∉ σ ∧ (backI ι σ ι2)[l]? = ι[l]?) := by
    intro l k' hk'
    by_cases hm : l ∈ σ
    · obtain ⟨i, hi, rfl⟩ := List.getElem_of_mem hm
      have e : σ[i] = ρ i := by have := rold i hi; rw [List.getElem?_eq_getElem hi] at this; exact Option.some.inj this
      have hki : hc2[i]? = some (hc2[i]'(by omega)) := List.getElem?_eq_getElem _
      have := am2.blk i _ hki
      rw [e, this] at hk'
      exact .inl ⟨i, _, hki, e, (Option.some.inj hk').symm⟩
    · rcases Nat.lt_or_ge l h.length with hl | hl
      · rw [hbh, List.getElem?_append_left (by omega), setAll_other σ h _ l hm] at hk'
        exact .inr ⟨hk', hm, by unfold backI; rw [List.getElem?_append_left (by omega), setAll_other σ ι _ l hm]⟩
      · rw [hbh, List.getElem?_append_right (by omega), hset, rnH_get, List.getElem?_drop, Option.map_eq_some_iff] at hk'
        obtain ⟨k, h1, rfl⟩ := hk'
        exact .inl ⟨_, k, h1, by rw [rnew _ (by omega)]; omega, rfl⟩
  have other : ∀ l b k, h[l]? = some k → l ∉ σ → own1 ι l k b → b < w.heap.size ∧ ¬ owned ιc hc b := by
    intro l b k h1 h2 h3
    refine ⟨owned_lt hr ⟨l, k, h1, h3⟩, fun ho => ?_⟩
    obtain ⟨i, kc, g1, g2, g3, g4⟩ := owned_rn am ho
    have := hr.own l (ρ i) b k _ h1 g4 h3 g3
    exact h2 (this ▸ rmem i (by rw [hlen]; exact get_lt g1))
  have same : ∀ l b k, h[l]? = some k → l ∉ σ → own1 ι l k b → w2.heap[b]? = w.heap[b]? := by
    intro l b k h1 h2 h3
    have := other l b k h1 h2 h3
    exact hx.frame b this.1 this.2
  have hext : Ext G ι h w G2 (backI ι σ ι2) (backH h σ hc2) w2 :=
    { size := hx.size
      quiet := hx.quiet
      frame := fun b hb ho => hx.frame b hb fun ho' => ho (owned_up am ho')
      gmono := hx.gmono
      gnew := fun b hb => by
        rcases hx.gnew b hb with h1 | h1 | h1
        · exact .inl h1
        · exact .inr (.inl h1)
        · exact .inr (.inr (owned_up am h1))
      onew := fun b ⟨l, k, h2, h3⟩ => by
        rcases part l k h2 with ⟨i, kc, g1, rfl, rfl⟩ | ⟨g1, g2, g3⟩
        · rcases hx.onew b ⟨i, kc, g1, (own1_rn (am2.at' i kc g1)).1 h3⟩ with h4 | h4
          · exact .inl (owned_up am h4)
          · exact .inr h4
        · exact .inl ⟨l, k, g1, own1_io h3 fun _ => g3.symm⟩
      keep := fun l k hk => by
        by_cases hm : l ∈ σ
        · obtain ⟨i, hi, rfl⟩ := List.getElem_of_mem hm
          have e : σ[i] = ρ i := by have := rold i hi; rw [List.getElem?_eq_getElem hi] at this; exact Option.some.inj this
          have hki : hc[i]? = some (hc[i]'(by omega)) := List.getElem?_eq_getElem _
          rw [e, hh i _ hki] at hk
          cases hk
          obtain ⟨k', g1, g2⟩ := hx.keep i _ hki
          exact ⟨rnB ρ k', by rw [e]; exact am2.blk i k' g1, by rw [e]; exact g2.rn (am.at' i _ hki) (am2.at' i k' g1)⟩
        · have hl : l < h.length := get_lt hk
          have e1 : (backH h σ hc2)[l]? = some k := by rw [hbh, List.getElem?_append_left (by omega), setAll_other σ h _ l hm]; exact hk
          have e2 : (backI ι σ ι2)[l]? = ι[l]? := by unfold backI; rw [List.getElem?_append_left (by omega), setAll_other σ ι _ l hm]
          exact ⟨k, e1, Kept.frame e2 fun b hb => same l b k hk hm hb⟩ }
  refine ⟨v, rnA ρ r, G2, backI ι σ ι2, backH h σ hc2, he, ⟨r, hc2, hR, rfl, rfl⟩, ?_, hvr.rn am2, hext⟩
  exact
    { len := by
        rw [hbh]; unfold backI
        simp only [List.length_append, hset, hseti, rnH_len, List.length_drop, hl2']
      own := by
        intro l l' b k k' h3 h4 h5 h6
        rcases part l k h3 with ⟨i, kc, g1, rfl, rfl⟩ | ⟨g1, g2, g3⟩ <;> rcases part l' k' h4 with ⟨i', kc', q1, rfl, rfl⟩ | ⟨q1, q2, q3⟩
        · rw [hr2.own i i' b kc kc' g1 q1 ((own1_rn (am2.at' i kc g1)).1 h5) ((own1_rn (am2.at' i' kc' q1)).1 h6)]
        · exfalso
          have ot := other l' b k' q1 q2 (own1_io h6 fun _ => q3.symm)
          rcases hx.onew b ⟨i, kc, g1, (own1_rn (am2.at' i kc g1)).1 h5⟩ with h7 | h7
          · exact ot.2 h7
          · omega
        · exfalso
          have ot := other l b k g1 g2 (own1_io h5 fun _ => g3.symm)
          rcases hx.onew b ⟨i', kc', q1, (own1_rn (am2.at' i' kc' q1)).1 h6⟩ with h7 | h7
          · exact ot.2 h7
          · omega
        · exact hr.own l l' b k k' g1 q1 (own1_io h5 fun _ => g3.symm) (own1_io h6 fun _ => q3.symm)
      g := by
        intro b hb
        refine ⟨(hr2.g b hb).1, fun ⟨l, k, h2, h3⟩ => ?_⟩
        rcases part l k h2 with ⟨i, kc, g1, rfl, rfl⟩ | ⟨g1, g2, g3⟩
        · exact (hr2.g b hb).2 ⟨i, kc, g1, (own1_rn (am2.at' i kc g1)).1 h3⟩
        · have h3' : own1 ι l k b := own1_io h3 fun _ => g3.symm
          have ot := other l b k g1 g2 h3'
          rcases hx.gnew b hb with h4 | h4 | h4
          · exact (hr.g b h4).2 ⟨l, k, g1, h3'⟩
          · omega
          · exact ot.2 h4
      blk := by
        intro l k hk
        rcases part l k hk with ⟨i, kc, g1, rfl, rfl⟩ | ⟨g1, g2, g3⟩
        · exact BR.rn am2 g1 (hr2.blk i kc g1)
        · exact BR.ext hext hr g1 g3 fun b hb => same l b k g1 g2 hb }
end Go.Ab

/-
  Contracts, part h: copies; the parts of a step.
-/
namespace Go.Ab
open Go.Proofs
theorem cloneInts_raw (P : Program) (hP : P = Try.prog) (ll : List (List D)) (hl : ll.length ≤ 1000000) : Ret P n_slices_Clone_int_int [.c (.d (.list false 1 ll))] (.c (.d (.list false 1 ll))) := by
 refine ret_start (hP ▸ mixed) (hP ▸ fn_slices_Clone_int_int) (hP ▸ c_slices_Clone_int_int) (Nat.le_of_ble_eq_true rfl) fun Λ Λo K hK => ?_
 clear hP
 have h0 : ll = [] → K (.c (.d (.list false 1 []))) := fun h => by rw [h] at hK; exact hK
 have lln := Λo ll
 conv => cbv
 repeat' first | exact gu | exact trivial | refine And.intro ?_ ?_ | (intro hc; exact absurd hc (by decide)) | (intro hc; exfalso; omega) | (intro hc; (first | rw [wrap_small (by omega) (by omega)] at hc | rw [nI_eq] at hc | skip); try (conv => cbv))
 ·rename_i m r es hm hr hes ls
  have : ls = ll := by subst hc hes hm; simp
  rw [this]; exact hK
 ·exact h0 hc
end Go.Ab

/-
  Calls over a few of the caller's blocks.
-/
namespace Go.Ab
open Go.Proofs
def frOk (h : Hp) (ρ : Nat → Nat) : Nat → Hp → Prop
 | _, [] => True
 | n, k :: r => h[ρ n]? = some (rnB ρ k) ∧ frOk h ρ (n + 1) r
theorem frOk_get {h : Hp} {ρ : Nat → Nat} : ∀ {hc : Hp} {n : Nat}, frOk h ρ n hc → ∀ i k, hc[i]? = some k → h[ρ (n + i)]? = some (rnB ρ k) := by
 intro hc
 induction hc with
 | nil => intro n _ i k h; simp at h
 | cons b r ih =>
  intro n ⟨h1, h2⟩ i k hk
  cases i with
  | zero => simp at hk; subst hk; exact h1
  | succ i =>
   simp at hk
   have := ih h2 i k hk
   rw [show n + 1 + i = n + (i + 1) by omega] at this; exact this
theorem call_fr {P : Program} {m : Nat} {L : Lv} {h : Hp} {f : Nat} {xs : List X} {K : Lv → AV → Hp → Prop} {args : List AV} {hc : Hp} {R : AV → Hp → Prop} (σ : List Nat) (hf : FnS P f args hc R) (ha : evsN L xs = rnAs (rho σ h.length) args) (hlen : σ.length = hc.length) (hnd : σ.Nodup)
  (hh : frOk h (rho σ h.length) 0 hc) (hcl : refsH hc.length hc = true) (hca : args.all (refsA hc.length) = true) (k : ∀ r hc', R r hc' → K L (rnA (rho σ h.length) r) (backH h σ hc')) : CallS P m false L h f xs K := by
 refine .fn ?_
 rw [ha]
 refine (hf.frame σ h hlen hnd (fun i b hb => by have := frOk_get hh i b hb; rw [Nat.zero_add] at this; exact this) hcl fun x hx => List.all_eq_true.1 hca x hx).mono ?_
 rintro r h' ⟨r0, hc', h1, rfl, rfl⟩
 exact k r0 hc' h1
theorem callv_fr {P : Program} {h : Hp} {f : Nat} {args' : List AV} {K : AV → Hp → Prop} {args : List AV} {hc : Hp} {R : AV → Hp → Prop} (σ : List Nat) (hf : FnS P f args hc R) (ha : args' = rnAs (rho σ h.length) args) (hlen : σ.length = hc.length) (hnd : σ.Nodup)
  (hh : frOk h (rho σ h.length) 0 hc) (hcl : refsH hc.length hc = true) (hca : args.all (refsA hc.length) = true) (k : ∀ r hc', R r hc' → K (rnA (rho σ h.length) r) (backH h σ hc')) : CallV P h f args' K := by
 refine .fn ?_
 rw [ha]
 refine (hf.frame σ h hlen hnd (fun i b hb => by have := frOk_get hh i b hb; rw [Nat.zero_add] at this; exact this) hcl fun x hx => List.all_eq_true.1 hca x hx).mono ?_
 rintro r h' ⟨r0, hc', h1, rfl, rfl⟩
 exact k r0 hc' h1
end Go.Ab

/-
  The engine: a function's new blocks, given up behind it.
-/
namespace Go.Ab
theorem FnS.cut {P : Program} {f : Nat} {args : List AV} {h : Hp} {R : AV → Hp → Prop} (hf : FnS P f args h R) (hc : ∀ r h', R r h' → refsA h.length r = true ∧ refsH h.length (h'.take h.length) = true) :
  FnS P f args h fun r h1 => ∃ h2, R r (h1 ++ h2) ∧ h1.length = h.length := by
 refine ⟨fun G ι w vs hr hv => ?_⟩
 refine (hf.out G ι w vs hr hv).mono fun e w2 ⟨v, r, G2, ι2, hc2, he, hR, hr2, hvr, hx⟩ => ?_
 have hl2 : h.length ≤ hc2.length := by
  rcases Nat.lt_or_ge hc2.length h.length with hb | hb
  ·obtain ⟨k', h1, _⟩ := hx.keep hc2.length _ (List.getElem?_eq_getElem hb)
   have := get_lt h1; omega
  ·exact hb
 obtain ⟨c1, c2⟩ := hc r hc2 hR
 have hlt : (hc2.take h.length).length = h.length := by rw [List.length_take]; omega
 let a : Act := ⟨#[v], []⟩
 have hfit : Fits 1 G ι h w (lkL [(0, r)]) hc2 a w2 := ⟨G2, ι2, ⟨hr2, rfl, rfl, fun i => by
  cases i with
  | zero => exact hvr
  | succ i => exact .c _ _ (.u _)⟩, hx⟩
 obtain ⟨G3, ι3, st⟩ := Wk.cut_fits (m := h.length) (L' := [(0, r)]) (h' := hc2.take h.length) ⟨hc2.drop h.length, (List.take_append_drop _ _).symm⟩ (by omega) (by rw [hlt]; exact c2)
  (by rw [hlt]; exact ⟨⟨rfl, c1⟩, trivial⟩) (Nat.le_refl _) hfit
 have hv0 := st.rel.env 0
 exact ⟨v, r, G3, ι3, hc2.take h.length, he, ⟨hc2.drop h.length, by rw [List.take_append_drop]; exact hR, hlt⟩, st.rel.hr, hv0, st.ext⟩
theorem Kept.unrn {ι ι2 ιc : Io} {w w2 : World} {l : Nat} {k kc : Blk} {ρ : Nat → Nat} (hk : Kept ι ι2 w w2 l k (rnB ρ kc)) (hi : ιc[l]? = ι2[l]?) (hm : ∀ m v es, kc ≠ .mi m v es) : Kept ι ιc w w2 l k kc := by
 cases kc with
 | dead => cases k <;> trivial
 | am m' =>
  cases k with
  | am m => trivial
  | _ => simp [rnB, Kept] at hk
 | bx cs' =>
  cases k with
  | bx cs => exact ⟨by have := hk.1; rw [rnCs_len] at this; exact this, by rw [hi]; exact hk.2⟩
  | _ => simp [rnB, Kept] at hk
 | da r' v' sz' es' =>
  cases k with
  | da r v sz es =>
   rcases hk with hk | ⟨a1, a2, a3, a4, a5, a6⟩
   ·exact .inl hk
   ·exact .inr ⟨a1, a2, a3, a4, by rw [hi]; exact a5, a6⟩
  | _ => simp [rnB, Kept] at hk
 | mp v' es' =>
  cases k with
  | mp v es => exact ⟨by rw [hi]; exact hk.1, hk.2⟩
  | _ => simp [rnB, Kept] at hk
 | mi m v es => exact absurd rfl (hm m v es)
end Go.Ab

/-
  The priority queue, part a: heaps, plainly (no program in sight).
-/
namespace Go.Ab
open Go.Proofs
def ltK (K : List Int) (a b : Int) : Prop := K.getD a.toNat 0 < K.getD b.toNat 0 ∨ (K.getD a.toNat 0 = K.getD b.toNat 0 ∧ a < b)
instance (K : List Int) (a b : Int) : Decidable (ltK K a b) := by unfold ltK; infer_instance
def leK (K : List Int) (a b : Int) : Prop := ¬ ltK K b a
theorem leK_trans {K : List Int} {a b c : Int} (h1 : leK K a b) (h2 : leK K b c) : leK K a c := by unfold leK ltK at *; omega
abbrev at' (O : List Int) (p : Nat) : Int := O.getD p 0
structure Pre (K O : List Int) (p : Nat) : Prop where
 e1 : ∀ c, 0 < c → c < O.length → c ≠ p → (c - 1) / 2 ≠ p → leK K (at' O ((c - 1) / 2)) (at' O c)
 e2 : ∀ c, 0 < p → 0 < c → c < O.length → (c - 1) / 2 = p → leK K (at' O ((p - 1) / 2)) (at' O c)
def HO (K O : List Int) : Prop := ∀ c, 0 < c → c < O.length → leK K (at' O ((c - 1) / 2)) (at' O c)
def swp (O : List Int) (p q : Nat) : List Int := (O.set p (at' O q)).set q (at' O p)
theorem swp_len (O : List Int) (p q : Nat) : (swp O p q).length = O.length := by simp [swp]
theorem swp_at {O : List Int} {p q : Nat} (hp : p < O.length) (hq : q < O.length) (c : Nat) : at' (swp O p q) c = if c = q then at' O p else if c = p then at' O q else at' O c := by
 simp only [at', swp, List.getD_eq_getElem?_getD, List.getElem?_set, List.length_set]
 by_cases h1 : c = q
 ·subst h1; simp [hq]
 ·have h1' : ¬ q = c := fun h => h1 h.symm
  simp only [if_neg h1, if_neg h1']
  by_cases h2 : c = p
  ·subst h2; simp [hp]
  ·have h2' : ¬ p = c := fun h => h2 h.symm
   simp only [if_neg h2, if_neg h2']
theorem Pre.up {K O : List Int} {p : Nat} (h : Pre K O p) (hp0 : 0 < p) (hp : p < O.length) (_hlt : ltK K (at' O p) (at' O ((p - 1) / 2))) : Pre K (swp O p ((p - 1) / 2)) ((p - 1) / 2) := by
 have hq : (p - 1) / 2 < O.length := by omega
 have hsw := swp_at hp hq
 have hqp : (p - 1) / 2 ≠ p := by omega
 refine ⟨fun c c0 cl cq cpq => ?_, fun c q0 c0 cl cpq => ?_⟩
 ·rw [swp_len] at cl
  rw [hsw, hsw, if_neg cpq, if_neg cq]
  by_cases h1 : c = p
  ·exact absurd (by rw [h1]) cpq
  ·rw [if_neg h1]
   by_cases h2 : (c - 1) / 2 = p
   ·rw [if_pos h2]; exact h.e2 c hp0 c0 cl h2
   ·rw [if_neg h2]; exact h.e1 c c0 cl h1 h2
 ·rw [swp_len] at cl
  have hg : ((p - 1) / 2 - 1) / 2 ≠ (p - 1) / 2 := by omega
  have hg2 : ((p - 1) / 2 - 1) / 2 ≠ p := by omega
  have e0 : leK K (at' O (((p - 1) / 2 - 1) / 2)) (at' O ((p - 1) / 2)) := h.e1 ((p - 1) / 2) q0 hq hqp (by omega)
  rw [hsw, hsw, if_neg hg, if_neg hg2]
  by_cases h1 : c = (p - 1) / 2
  ·omega
  ·rw [if_neg h1]
   by_cases h2 : c = p
   ·rw [if_pos h2]; exact e0
   ·rw [if_neg h2]
    have := h.e1 c c0 cl h2 (by omega)
    rw [cpq] at this
    exact leK_trans e0 this
structure PreD (K O : List Int) (p : Nat) : Prop where
 pre : Pre K O p
 top : 0 < p → leK K (at' O ((p - 1) / 2)) (at' O p)
theorem PreD.done {K O : List Int} {p : Nat} (h : PreD K O p) (hk : ∀ c, 0 < c → c < O.length → (c - 1) / 2 = p → leK K (at' O p) (at' O c)) : HO K O := by
 intro c c0 cl
 by_cases h1 : c = p
 ·subst h1; exact h.top c0
 ·by_cases h2 : (c - 1) / 2 = p
  ·rw [h2]; exact hk c c0 cl h2
  ·exact h.pre.e1 c c0 cl h1 h2
end Go.Ab

/-
  The priority queue, part b: the contracts of before and swap.
-/
namespace Go.Ab
open Go.Proofs
theorem heap_start {P : Program} {f : Nat} {fn : Func} {af : AF} {args : List AV} {h : Hp} {R : AV → Hp → Prop} (hm : P.follows .mixedOrders = true) (hf : P.funcs[f]? = some fn) (hc : compF P fn = some af) (hl : args.length ≤ af.nt)
  (hv : ∀ Λ : Len, (∀ l, Λ l = (l.length : Int)) → ∀ K : AV → Hp → Prop, (∀ r h', R r h' → K r h') → vcH P Λ af args h K) : FnS P f args h R := fn_heap hm hf hc hl fun Λ h => hv Λ h _ fun _ _ h => h
end Go.Ab

/-
  Updates, part i: whether a set holds a tunnel.
-/
namespace Go.Ab
open Go.Proofs
theorem callv_r {P : Program} {h : Hp} {f : Nat} {args args' : List AV} {K : AV → Hp → Prop} {r : AV} (hf : Ret P f args' r) (ha : args.map fgA = args') (hp : args'.all pureA = true) (k : K r h) : CallV P h f args K :=
 .pure (Or.inl ⟨args', .inl ha.symm, hp, hf⟩) k
theorem pequal_ok (P : Program) (hP : P = Try.prog) (x y : Tn) : Ret P n_update_Changed_1 [tnA x, tnA y] (bA (decide (x = y))) := by
 have hq := equalI_ok P hP x.arcs y.arcs
 refine ret_start (hP ▸ mixed) (hP ▸ fn_update_Changed_1) (hP ▸ c_update_Changed_1) (Nat.le_of_ble_eq_true rfl) fun Λ Λo K hK => ?_
 clear hP
 obtain ⟨xi, xa, xr⟩ := x
 obtain ⟨yi, ya, yr⟩ := y
 have yes : xi = yi → xr = yr → xa = ya → K (bA true) := fun h1 h2 h3 => by rw [h1, h2, h3, decide_eq_true rfl] at hK; exact hK
 have no : ¬ (xi = yi ∧ xr = yr ∧ xa = ya) → K (bA false) := fun h => by
  rw [decide_eq_false (fun e => h (by cases e; exact ⟨rfl, rfl, rfl⟩))] at hK; exact hK
 clear hK
 simp only [tnA, intsA, intsD] at *
 generalize xa.map encI = xl at *
 generalize ya.map encI = yl at *
 conv => cbv
 repeat' first | refine call_b hq rfl rfl ?_ ?_ | exact gu | exact trivial | refine And.intro ?_ ?_ | (intro hc; exact absurd hc (by decide)) | (intro hc; exfalso; omega) | (intro hc; (first | rw [wrap_small (by omega) (by omega)] at hc | rw [nI_eq] at hc | skip); try (conv => cbv))
 all_goals first | (refine no fun h => ?_; exact absurd h.2.2 (of_decide_eq_false (by assumption)); done) | (refine no fun h => ?_; omega) | exact yes (by assumption) (by assumption) (of_decide_eq_true (by assumption))
abbrev sameH (x : Tn) : Hp := [.bx [.fn false n_update_Changed_1 []], .bx [.d (iD x.id), .d (intsD x.arcs), .d (iD x.rate)]]
theorem psame_ok (P : Program) (hP : P = Try.prog) (x y : Tn) : FnS P n_update_Changed_2 [tnA y, .c (.ptr 0 0 0 0), .c (.ptr 1 0 0 0)] (sameH x) fun r h' => r = bA (decide (x = y)) ∧ h' = sameH x := by
 have h1 : FnS P n_update_Changed_2 [tnA y, .c (.ptr 0 0 0 0), .c (.ptr 1 0 0 0)] (sameH x) fun r h' => ∃ h2, r = bA (decide (x = y)) ∧ h' = sameH x ++ h2 := by
  have heq := pequal_ok P hP x y
  have hfo : FnOk P n_update_Changed_1 := hP ▸ ⟨_, fn_update_Changed_1, rfl, by decide⟩
  refine heap_start (hP ▸ mixed) (hP ▸ fn_update_Changed_2) (hP ▸ c_update_Changed_2) (Nat.le_of_ble_eq_true rfl) fun Λ Λo K hK => ?_
  clear hP
  have leaf : ∀ h2, K (bA (decide (x = y))) (sameH x ++ h2) := fun h2 => hK _ _ ⟨h2, rfl, rfl⟩
  clear hK
  generalize decide (x = y) = b at *
  obtain ⟨xi, xa, xr⟩ := x
  obtain ⟨yi, ya, yr⟩ := y
  simp only [sameH, tnA, intsD, List.cons_append, List.nil_append] at *
  generalize xa.map encI = xl at *
  generalize ya.map encI = yl at *
  conv => cbv
  repeat' first | exact hfo | (refine callv_r heq rfl rfl ?_; (conv => cbv)) | exact gu | exact trivial | refine And.intro ?_ ?_ | (intro hc; exact absurd hc (by decide)) | (intro hc; exfalso; omega) | (intro hc; (first | rw [wrap_small (by omega) (by omega)] at hc | rw [nI_eq] at hc | skip); try (conv => cbv))
  exact leaf [_]
 refine (FnS.cut h1 ?_).mono ?_
 ·rintro r' h' ⟨h2, rfl, rfl⟩
  exact ⟨rfl, rfl⟩
 ·rintro r' h1 ⟨h2, ⟨h3, rfl, e⟩, hl⟩
  exact ⟨rfl, (List.append_inj e hl).1⟩
theorem pindexf_ok (P : Program) (hP : P = Try.prog) (x : Tn) (l : List Tn) (hl : l.length ≤ 1000000) :
  FnS P n_slices_IndexFunc_update_Tunnel_update_Tunnel [tnsA l, .c (.fn false n_update_Changed_2 [.ptr 0 0 0 0, .ptr 1 0 0 0])] (sameH x) fun r h' => (∃ i : Int, r = iA i ∧ decide (0 ≤ i) = decide (x ∈ l)) ∧ h' = sameH x := by
 have hfo : FnOk P n_update_Changed_2 := hP ▸ ⟨_, fn_update_Changed_2, rfl, by decide⟩
 have h1 : FnS P n_slices_IndexFunc_update_Tunnel_update_Tunnel [tnsA l, .c (.fn false n_update_Changed_2 [.ptr 0 0 0 0, .ptr 1 0 0 0])] (sameH x) fun r h' => ∃ h2 i, decide (0 ≤ i) = decide (x ∈ l) ∧ r = iA i ∧ h' = sameH x ++ h2 := by
  have hcl := fun y => psame_ok P hP x y
  refine heap_start (hP ▸ mixed) (hP ▸ fn_slices_IndexFunc_update_Tunnel_update_Tunnel) (hP ▸ c_slices_IndexFunc_update_Tunnel_update_Tunnel) (Nat.le_of_ble_eq_true rfl) fun Λ Λo K hK => ?_
  clear hP
  have leaf : ∀ (i : Int) h2, decide (0 ≤ i) = decide (x ∈ l) → K (iA i) (sameH x ++ h2) := fun i h2 e => hK _ _ ⟨h2, i, e, rfl, rfl⟩
  clear hK
  obtain ⟨p, hp⟩ : ∃ p : Tn → Bool, p = fun y => decide (x = y) := ⟨_, rfl⟩
  have hpe : ∀ y, decide (x = y) = p y := fun y => by rw [hp]
  have hpx : ∀ y, p y = true ↔ x = y := fun y => by rw [hp]; exact decide_eq_true_iff
  simp only [hpe] at hcl
  clear hp hpe
  obtain ⟨b, hb⟩ : ∃ b, b = decide (x ∈ l) := ⟨_, rfl⟩
  have hyes : ∀ y ∈ l, p y = true → b = true := fun y hy h => by rw [hb]; rw [hpx] at h; subst h; exact decide_eq_true hy
  have hno : (∀ y ∈ l, p y = false) → b = false := fun h => by
   rw [hb]; refine decide_eq_false fun hx => ?_
   have := h x hx; rw [(hpx x).2 rfl] at this; cases this
  rw [← hb] at leaf
  clear hb hpx
  obtain ⟨xi, xa, xr⟩ := x
  simp only [sameH, tnA, tnsA, tnsD, intsD, List.cons_append, List.nil_append] at *
  generalize xa.map encI = xl at *
  generalize llh : l.map encTn = ll at *
  have lln : Λ ll = l.length := by rw [Λo, ← llh]; simp
  conv => cbv
  repeat' first | exact gu | exact trivial | refine And.intro ?_ ?_ | (intro hc; exact absurd hc (by decide)) | (intro hc; exfalso; omega) | (intro hc; (first | rw [wrap_small (by omega) (by omega)] at hc | rw [nI_eq] at hc | skip); try (conv => cbv))
  refine loop_up l.length (fun (i : Int) => [(0, .c (.d (.list false 3 ll))), (1, .c (.fn false n_update_Changed_2 [.ptr 0 0 0 0, .ptr 1 0 0 0])), (7, iA (Λ ll)), (8, iA i)])
   (fun _ => [.bx [.fn false n_update_Changed_1 []], .bx [.d (iD xi), .d (.list false 1 xl), .d (iD xr)]])
   (fun k i => i = k ∧ k ≤ l.length ∧ ∀ y ∈ l.take k, p y = false) 0 (Wk.ca) ⟨rfl, by omega, by simp⟩ (fun k s h => h.2.1) ?_
  rintro k i Q' ⟨hi, hk, hal⟩ norm ex rt
  by_cases hlt : k < l.length
  ·obtain ⟨y, hy⟩ : ∃ y, l[k]? = some y := ⟨_, List.getElem?_eq_getElem hlt⟩
   have hya := elt_at llh hi hy
   have hcly := hcl y
   have yes := hyes y (List.mem_of_getElem? hy)
   have nxt : p y = false → ∀ z ∈ l.take (k + 1), p z = false := fun h z hz => by
    rw [take_succ_get hy] at hz
    rcases List.mem_append.1 hz with hz | hz
    ·exact hal z hz
    ·simp only [List.mem_singleton] at hz; subst hz; exact h
   obtain ⟨yi, ya, yr⟩ := y
   simp only [encTn, intsD] at hya hcly
   generalize ya.map encI = yl at *
   generalize p ⟨yi, ya, yr⟩ = c at *
   conv => cbv
   repeat' first | (refine ex _ _ _ ?_; (conv => cbv)) | (refine rt _ _ ?_; (conv => cbv)) | (intro e he; cases Option.some.inj (he.symm.trans hya); (conv => cbv)) | exact hfo | (refine callv_fr [0, 1] hcly rfl rfl (by decide) (by repeat' first | exact trivial | refine And.intro ?_ ?_ | rfl) rfl rfl ?_; rintro r hc' ⟨rfl, rfl⟩; (conv => cbv)) | exact gu | exact trivial | refine And.intro ?_ ?_ | (intro hc; exact absurd hc (by decide)) | (intro hc; exfalso; omega) | (intro hc; (first | rw [wrap_small (by omega) (by omega)] at hc | rw [nI_eq] at hc | skip); try (conv => cbv))
   cases c with
   | true =>
    repeat' first | (refine ex _ _ _ ?_; (conv => cbv)) | (refine rt _ _ ?_; (conv => cbv)) | exact gu | exact trivial | refine And.intro ?_ ?_ | (intro hc; exact absurd hc (by decide)) | (intro hc; exfalso; omega) | (intro hc; (first | rw [wrap_small (by omega) (by omega)] at hc | rw [nI_eq] at hc | skip); try (conv => cbv))
    refine leaf _ [] ?_
    rw [yes rfl]; exact decide_eq_true (by omega)
   | false =>
    repeat' first | (refine ex _ _ _ ?_; (conv => cbv)) | (refine rt _ _ ?_; (conv => cbv)) | exact gu | exact trivial | refine And.intro ?_ ?_ | (intro hc; exact absurd hc (by decide)) | (intro hc; exfalso; omega) | (intro hc; (first | rw [wrap_small (by omega) (by omega)] at hc | rw [nI_eq] at hc | skip); try (conv => cbv))
    refine norm _ _ _ ?_ (Wk.ca)
    exact ⟨by omega, by omega, nxt rfl⟩
  ·obtain rfl : k = l.length := by omega
   rw [List.take_length] at hal
   conv => cbv
   repeat' first | (refine ex _ _ _ ?_; (conv => cbv)) | (refine rt _ _ ?_; (conv => cbv)) | exact gu | exact trivial | refine And.intro ?_ ?_ | (intro hc; exact absurd hc (by decide)) | (intro hc; exfalso; omega) | (intro hc; (first | rw [wrap_small (by omega) (by omega)] at hc | rw [nI_eq] at hc | skip); try (conv => cbv))
   refine leaf _ [] ?_
   rw [hno hal]; rfl
 refine (FnS.cut h1 ?_).mono ?_
 ·rintro r' h' ⟨h2, i, _, rfl, rfl⟩
  exact ⟨rfl, rfl⟩
 ·rintro r' h1 ⟨h2, ⟨h3, i, e1, rfl, e⟩, hl⟩
  exact ⟨⟨i, rfl, e1⟩, (List.append_inj e hl).1⟩
theorem pcontf_ok (P : Program) (hP : P = Try.prog) (x : Tn) (l : List Tn) (hl : l.length ≤ 1000000) :
  FnS P n_slices_ContainsFunc_update_Tunnel_update_Tunnel [tnsA l, .c (.fn false n_update_Changed_2 [.ptr 0 0 0 0, .ptr 1 0 0 0])] (sameH x) fun r h' => r = bA (decide (x ∈ l)) ∧ h' = sameH x := by
 have h1 : FnS P n_slices_ContainsFunc_update_Tunnel_update_Tunnel [tnsA l, .c (.fn false n_update_Changed_2 [.ptr 0 0 0 0, .ptr 1 0 0 0])] (sameH x) fun r h' => ∃ h2, r = bA (decide (x ∈ l)) ∧ h' = sameH x ++ h2 := by
  have hix := pindexf_ok P hP x l hl
  refine heap_start (hP ▸ mixed) (hP ▸ fn_slices_ContainsFunc_update_Tunnel_update_Tunnel) (hP ▸ c_slices_ContainsFunc_update_Tunnel_update_Tunnel) (Nat.le_of_ble_eq_true rfl) fun Λ Λo K hK => ?_
  clear hP
  have leaf : ∀ b h2, b = decide (x ∈ l) → K (bA b) (sameH x ++ h2) := fun b h2 e => hK _ _ ⟨h2, by rw [e], rfl⟩
  clear hK
  generalize decide (x ∈ l) = b at *
  obtain ⟨xi, xa, xr⟩ := x
  simp only [sameH, tnsA, tnsD, intsD, List.cons_append, List.nil_append] at *
  generalize xa.map encI = xl at *
  generalize l.map encTn = ll at *
  conv => cbv
  repeat' first | (refine call_fr [0, 1] hix rfl rfl (by decide) (by repeat' first | exact trivial | refine And.intro ?_ ?_ | rfl) rfl rfl ?_; rintro r hc' ⟨⟨i, rfl, hi⟩, rfl⟩; (conv => cbv)) | exact gu | exact trivial | refine And.intro ?_ ?_ | (intro hc; exact absurd hc (by decide)) | (intro hc; exfalso; omega) | (intro hc; (first | rw [wrap_small (by omega) (by omega)] at hc | rw [nI_eq] at hc | skip); try (conv => cbv))
  all_goals first | exact leaf _ [] (by rw [← hi]; exact (decide_eq_true (by omega)).symm) | exact leaf _ [] (by rw [← hi]; exact (decide_eq_false (by omega)).symm)
 refine (FnS.cut h1 ?_).mono ?_
 ·rintro r' h' ⟨h2, rfl, rfl⟩
  exact ⟨rfl, rfl⟩
 ·rintro r' h1 ⟨h2, ⟨h3, rfl, e⟩, hl⟩
  exact ⟨rfl, (List.append_inj e hl).1⟩
end Go.Ab

/-
  The engine: results that are new memory.
-/
namespace Go.Ab
def scalD : D → Bool
 | .bool _ => true
 | .int _ _ => true
 | .str _ => true
 | _ => false
theorem scalD_move {G G' : Nat → Prop} {w w' : World} {v : Value} {d : D} (hs : scalD d = true) (hd : DR G w v d) : DR G' w' v d := by
 cases hd <;> first | (simp [scalD] at hs; done) | exact .bool _ | exact .int _ _ | exact .str _
theorem new_arr {G : Nat → Prop} {ι : Io} {h : Hp} {w w' : World} {v : Value} {l ver sz n : Nat} {r : Bool} {es : List (List D)} (hr : HR G ι h w') (hv : CR G w' ι h v (.arr l ver 0 n)) (hl : h[l]? = some (.da r ver sz es)) (hn : n = es.length)
  (hnew : ∀ b, owned ι h b → w.heap.size ≤ b) (hsc : ∀ e ∈ es, ∀ d ∈ e, scalD d = true) : DR (fun b => w.heap.size ≤ b ∧ b < w'.heap.size) w' v (.list false sz es) := by
 have hf : frz h (.arr l ver 0 n) = some (.list false sz es, h.set l .dead) := by simp [frz, hl, hn]
 obtain ⟨G', _, hd, _⟩ := frz_sound hr hv hf
 cases hv with
 | arr _ _ _ _ _ blk hb ha hk hk0 =>
  rw [hl] at hb
  cases hb
  cases r with
  | false =>
   obtain ⟨_, _, rfl⟩ := hk0 sz es rfl
   have : es = [] := hr.blk l _ hl
   subst this
   exact .nils false sz
  | true =>
   obtain ⟨b, o, cap, g1, g2, g3, g4, g5⟩ := hk sz es rfl
   have ho : owned ι h b := owned_of g1 hl rfl
   have hb2 := owned_lt hr ho
   have hb1 := hnew b ho
   generalize hx : D.list false sz es = x at hd
   cases hd with
   | bool => cases hx
   | int => cases hx
   | str => cases hx
   | nilp => cases hx
   | nilm => cases hx
   | nilf => cases hx
   | nili => cases hx
   | adr => cases hx
   | slA => cases hx
   | mpf => cases hx
   | nils nl sz' => cases hx; exact .nils _ _
   | emp a sz' => cases hx; exact .emp _ _
   | sl b' off cap' sz' l' g hG hcap hmax hsz hc hr' =>
    cases hx
    refine .sl b' off cap' sz es g (fun hne => ?_) hcap hmax hsz hc fun i e j x he hx => scalD_move (hsc e (List.mem_of_getElem? he) x (List.mem_of_getElem? hx)) (hr' i e j x he hx)
    have hbb : b' = b := by
     rcases g5 with g5 | ⟨g5, _⟩
     ·cases g5; rfl
     ·exact absurd (List.eq_nil_of_length_eq_zero (hn ▸ g5)) hne
    rw [hbb]; exact ⟨hb1, hb2⟩
end Go.Ab

