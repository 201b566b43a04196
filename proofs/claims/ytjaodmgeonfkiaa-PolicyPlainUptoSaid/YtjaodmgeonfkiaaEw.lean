/-
  The engine, part w: texts and functions.
-/
import Derived.Test.YtjaodmgeonfkiaaEv
namespace Go.Ab

section
variable {P : Program} {N : Nat} {G0 : Nat → Prop} {ι0 : Io} {h0 : Hp} {w0 : World}

theorem take_get {α : Type} {l t : List α} {i : Nat} (hi : i < l.length) : (l ++ t)[i]? = l[i]? := List.getElem?_append_left hi

theorem refsCs_get {n : Nat} {l : List CV} (h : refsCs n l = true) : ∀ (i : Nat) (x : CV), l[i]? = some x → refsC n x = true := by
  induction l with
  | nil => intro i x hx; simp at hx
  | cons y r ih =>
    intro i x hx
    simp only [refsCs, refsC.refsCs] at h
    split at h
    · rename_i hy
      cases i with
      | zero => simp at hx; subst hx; exact hy
      | succ i => simp at hx; exact ih h i x hx
    · cases h

theorem refsC_move {G : Nat → Prop} {w : World} {ι : Io} {h' t : Hp} {v : Value} {x : CV} (hx : CR G w ι (h' ++ t) v x) (hr : refsC h'.length x = true) : CR G w (ι.take h'.length) h' v x := by
  induction hx with
  | u => exact .u _
  | d _ _ hd => exact .d _ _ hd
  | cl _ _ _ _ hd hc => exact .cl _ _ _ _ hd hc
  | rp b o cs hG hc => exact .rp b o cs hG hc
  | mp _ l blk hb hk =>
    have hl : l < h'.length := Nat.le_of_ble_eq_true hr
    rw [take_get hl] at hb
    refine .mp _ _ blk hb fun ver es he => ?_
    obtain ⟨b, o, h1, h2⟩ := hk ver es he
    exact ⟨b, o, by rw [List.getElem?_take, if_pos hl]; exact h1, h2⟩
  | it _ l blk hb hk =>
    have hl : l < h'.length := Nat.le_of_ble_eq_true hr
    rw [take_get hl] at hb
    refine .it _ _ blk hb fun m ver es he => ?_
    obtain ⟨b, o, h1, h2⟩ := hk m ver es he
    exact ⟨b, o, by rw [List.getElem?_take, if_pos hl]; exact h1, h2⟩
  | ptr _ l ver i j blk hb ha hk =>
    have hl : l < h'.length := Nat.le_of_ble_eq_true hr
    rw [take_get hl] at hb
    refine .ptr _ _ _ _ _ blk hb ha fun k hk' => ?_
    obtain ⟨b, o, h1, h2⟩ := hk k hk'
    exact ⟨b, o, by rw [List.getElem?_take, if_pos hl]; exact h1, h2⟩
  | arr _ l ver i j blk hb ha hk hk0 =>
    have hl : l < h'.length := Nat.le_of_ble_eq_true hr
    rw [take_get hl] at hb
    refine .arr _ _ _ _ _ blk hb ha (fun sz es he => ?_) hk0
    obtain ⟨b, o, cap, h1, h2⟩ := hk sz es he
    exact ⟨b, o, cap, by rw [List.getElem?_take, if_pos hl]; exact h1, h2⟩
  | fn f vs caps hn hc ih =>
    simp only [refsC] at hr
    exact .fn f vs caps hn fun i v c hv hx => ih i v c hv hx (refsCs_get hr i c hx)

theorem refsA_move {G : Nat → Prop} {w : World} {ι : Io} {h' t : Hp} {v : Value} {x : AV} (hx : VR G w ι (h' ++ t) v x) (hr : refsA h'.length x = true) : VR G w (ι.take h'.length) h' v x := by
  cases hx with
  | c _ _ hc => exact .c _ _ (refsC_move hc hr)
  | agg cs l hn hc => exact .agg _ _ hn fun i v x hv hx => refsC_move (hc i v x hv hx) (refsCs_get hr i x hx)
  | tup cs l hn hc =>
    cases l with
    | nil => exact .tup _ _ hn (by simp)
    | cons => simp [refsA] at hr

theorem refsH_get {n : Nat} {h : Hp} (hr : refsH n h = true) : ∀ (i : Nat) (b : Blk), h[i]? = some b → refsB n b = true := by
  induction h with
  | nil => intro i x hx; simp at hx
  | cons y r ih =>
    intro i x hx
    simp only [refsH] at hr
    split at hr
    · rename_i hy
      cases i with
      | zero => simp at hx; subst hx; exact hy
      | succ i => simp at hx; exact ih hr i x hx
    · cases hr

theorem KeepL_get {n : Nat} {L : Lv} : ∀ {L' : Lv}, KeepL n L L' → ∀ i, lkL L' i = .c .u ∨ (lkL L' i = lkL L i ∧ refsA n (lkL L i) = true) := by
  intro L'
  induction L' with
  | nil => intro _ i; exact .inl rfl
  | cons p r ih =>
    intro hk i
    obtain ⟨j, v⟩ := p
    obtain ⟨⟨h1, h2⟩, h3⟩ := hk
    simp only [lkL, upd]
    by_cases hj : j = i
    · subst hj
      rw [if_pos rfl]
      rw [lkN_eq] at h1
      right; exact ⟨h1.symm, by rw [h1]; exact h2⟩
    · rw [if_neg hj]; exact ih h3 i

theorem Wk.cut_fits {m : Nat} {L L' : Lv} {h h' : Hp} {a : Act} {w : World} (heap : ∃ t, h = h' ++ t) (least : m ≤ h'.length) (refs : refsH h'.length h' = true) (env : KeepL h'.length L L') (hm : h0.length ≤ m)
    (hf : Fits N G0 ι0 h0 w0 (lkL L) h a w) : Fits N G0 ι0 h0 w0 (lkL L') h' a w := by
  obtain ⟨t, rfl⟩ := heap
  obtain ⟨G, ι, st⟩ := hf
  have hlen := st.rel.hr.len
  simp only [List.length_append] at hlen
  have hle := least
  have hι : ∀ l, l < h'.length → (ι.take h'.length)[l]? = ι[l]? := fun l hl => by rw [List.getElem?_take, if_pos hl]
  have hown : ∀ b, owned (ι.take h'.length) h' b → owned ι (h' ++ t) b := fun b ⟨l, o, k, h1, h2, h3⟩ =>
    ⟨l, o, k, by rw [← hι l (get_lt h2)]; exact h1, by rw [take_get (get_lt h2)]; exact h2, h3⟩
  have hr : HR G (ι.take h'.length) h' w :=
    { len := by simp; omega
      inj := fun l l' b o o' k k' a1 a2 b1 b2 c1 c2 => st.rel.hr.inj l l' b o o' k k' (by rw [← hι l (get_lt b1)]; exact a1) (by rw [← hι l' (get_lt b2)]; exact a2)
        (by rw [take_get (get_lt b1)]; exact b1) (by rw [take_get (get_lt b2)]; exact b2) c1 c2
      g := fun b hb => ⟨(st.rel.hr.g b hb).1, fun ho => (st.rel.hr.g b hb).2 (hown b ho)⟩
      blk := fun l k hk => by
        have hl := get_lt hk
        have hb := st.rel.hr.blk l k (by rw [take_get hl]; exact hk)
        have hrb := refsH_get refs l k hk
        cases k with
        | dead => trivial
        | bx cs =>
          obtain ⟨b, o, c, ty, fr, h1, h2, h3, h4, h5⟩ := hb
          refine ⟨b, o, c, ty, fr, by rw [hι l hl]; exact h1, h2, h3, h4, fun i x hx => ?_⟩
          obtain ⟨v, hv, hc⟩ := h5 i x hx
          exact ⟨v, hv, refsC_move hc (refsCs_get hrb i x hx)⟩
        | mp ver es =>
          obtain ⟨b, o, ces, clock, h1, h2⟩ := hb
          exact ⟨b, o, ces, clock, by rw [hι l hl]; exact h1, h2⟩
        | mi m' ver es =>
          have hm' : m' < h'.length := Nat.le_of_ble_eq_true hrb
          obtain ⟨b, o, mb, seen, clock, blk, h1, h2, h3, h4, h5⟩ := hb
          rw [take_get hm'] at h3
          refine ⟨b, o, mb, seen, clock, blk, by rw [hι l hl]; exact h1, h2, h3, h4, fun all ha => ?_⟩
          obtain ⟨o', ces, g1, g2⟩ := h5 all ha
          exact ⟨o', ces, by rw [hι m' hm']; exact g1, g2⟩
        | da rl v sz es =>
          cases rl with
          | false => exact hb
          | true =>
            obtain ⟨b, o, c, ty, fr, hmx, h1, h2, h3⟩ := hb
            exact ⟨b, o, c, ty, fr, hmx, by rw [hι l hl]; exact h1, h2, h3⟩ }
  refine ⟨G, ι.take h'.length, ⟨hr, st.rel.dfr, st.rel.size, fun i => ?_⟩, ?_⟩
  · rcases KeepL_get env i with h1 | ⟨h1, h2⟩
    · simp only [lk, h1]; exact .c _ _ (.u _)
    · simp only [lk, h1]; exact refsA_move (st.rel.env i) h2
  · exact
      { size := st.ext.size
        quiet := st.ext.quiet
        frame := st.ext.frame
        gmono := st.ext.gmono
        gnew := st.ext.gnew
        onew := fun b ho => st.ext.onew b (hown b ho)
        keep := fun l k hk => by
          obtain ⟨k', h1, h2⟩ := st.ext.keep l k hk
          have hl : l < h'.length := by have := get_lt hk; omega
          rw [take_get hl] at h1
          refine ⟨k', h1, ?_⟩
          cases k with
          | dead => cases k' <;> first | trivial | (simp [Kept] at h2)
          | bx cs =>
            cases k' with
            | dead => trivial
            | bx cs' => exact ⟨h2.1, by rw [hι l hl]; exact h2.2⟩
            | _ => simp [Kept] at h2
          | mp v es =>
            cases k' with
            | dead => trivial
            | mp v' es' => exact ⟨by rw [hι l hl]; exact h2.1, h2.2⟩
            | _ => simp [Kept] at h2
          | mi m' v es =>
            cases k' with
            | dead => trivial
            | mi m2 v' es' => exact ⟨h2.1, h2.2.1, by rw [hι l hl]; exact h2.2.2⟩
            | _ => simp [Kept] at h2
          | da rl v sz es =>
            cases k' with
            | dead => trivial
            | da rl' v' sz' es' =>
              rcases h2 with h2 | ⟨q1, q0, q2, q3, q4, q5⟩
              · exact .inl h2
              · exact .inr ⟨q1, q0, q2, q3, by rw [hι l hl]; exact q4, q5⟩
            | _ => simp [Kept] at h2 }

theorem nil_value {G : Nat → Prop} {w : World} {v : Value} {sz : Nat} (hd : DR G w v (.list true sz [])) : v = .slice none 0 0 := by
  cases hd; rfl

theorem FzH_get {l v sz : Nat} {es : List (List D)} : ∀ {h h' : Hp} {n : Nat}, FzH l v sz es n h h' → h.length = h'.length ∧
    ∀ (i : Nat) (b b' : Blk), h[i]? = some b → h'[i]? = some b' → (n + i = l ∧ b' = .dead) ∨ (n + i ≠ l ∧ FzB l v sz es b b') := by
  intro h
  induction h with
  | nil =>
    intro h' n hf
    cases h' with
    | nil => exact ⟨rfl, by simp⟩
    | cons => simp [FzH] at hf
  | cons b h ih =>
    intro h' n hf
    cases h' with
    | nil => simp [FzH] at hf
    | cons b' h' =>
      obtain ⟨h1, h2⟩ := hf
      obtain ⟨i1, i2⟩ := ih h2
      refine ⟨by simp [i1], fun i x y hx hy => ?_⟩
      cases i with
      | zero => simp at hx hy; subst hx hy; exact h1
      | succ i =>
        simp at hx hy
        rcases i2 i x y hx hy with ⟨q1, q2⟩ | ⟨q1, q2⟩
        · exact .inl ⟨by omega, q2⟩
        · exact .inr ⟨by omega, q2⟩

theorem FzCs_get {l v sz : Nat} {es : List (List D)} : ∀ {xs ys : List CV}, FzCs l v sz es xs ys → xs.length = ys.length ∧ ∀ (i : Nat) (x y : CV), xs[i]? = some x → ys[i]? = some y → FzC l v sz es x y := by
  intro xs
  induction xs with
  | nil =>
    intro ys hf
    cases ys with
    | nil => exact ⟨rfl, by simp⟩
    | cons => simp [FzCs] at hf
  | cons x xs ih =>
    intro ys hf
    cases ys with
    | nil => simp [FzCs] at hf
    | cons y ys =>
      obtain ⟨h1, h2⟩ := hf
      obtain ⟨i1, i2⟩ := ih h2
      refine ⟨by simp [i1], fun i a b ha hb => ?_⟩
      cases i with
      | zero => simp at ha hb; subst ha hb; exact h1
      | succ i => simp at ha hb; exact i2 i a b ha hb

theorem Wk.fz_fits {L L' : Lv} {h h' : Hp} {a : Act} {w : World} (l v sz : Nat) (rl : Bool) (es : List (List D)) (hl : h[l]? = some (.da rl v sz es)) (env : ∀ i, lkL L' i = .c .u ∨ FzA l v sz es (lkL L i) (lkL L' i)) (heap : FzH l v sz es 0 h h')
    (hf : Fits N G0 ι0 h0 w0 (lkL L) h a w) : Fits N G0 ι0 h0 w0 (lkL L') h' a w := by
  obtain ⟨G, ι, st⟩ := hf
  have hr := st.rel.hr
  obtain ⟨G1, q1, q2, qd⟩ : ∃ G1, HR G1 ι (h.set l .dead) w ∧ Ext G ι h w G1 ι (h.set l .dead) w ∧ ∀ (u : Value) (n : Nat), n = es.length → CR G w ι h u (.arr l v 0 n) → DR G1 w u (.list false sz es) := by
    cases rl with
    | false =>
      have hes : es = [] := hr.blk l _ hl
      subst hes
      refine ⟨G, HR.kill hr hl, Ext.kill hl, fun u n hn hc => ?_⟩
      cases hc with
      | arr _ _ _ _ _ blk hb _ _ hk0 => rw [hl] at hb; cases hb; obtain ⟨_, _, rfl⟩ := hk0 sz [] rfl; exact .nils false sz
    | true =>
      obtain ⟨b, o, c, ty, fr, hmx, g1, g2, g3⟩ := hr.blk l _ hl
      refine ⟨_, HR.freeze hr hl g1 rfl, Ext.freeze hl g1 rfl, fun u n hn hc => ?_⟩
      subst hn
      have hfz : frz h (.arr l v 0 es.length) = some (.list false sz es, h.set l .dead) := by simp [frz, hl]
      obtain ⟨G', k1, k2, k3⟩ := frz_sound hr hc hfz
      -- the frozen set of 'frz_sound' is the same one
      cases hc with
      | arr _ _ _ _ _ blk hb ha hk hk0 =>
        rw [hl] at hb; cases hb
        obtain ⟨b', o', cap, f1, f2, f3, f4, f5⟩ := hk sz es rfl
        rw [g1] at f1; cases f1
        obtain ⟨b2, o2, c2, t2, fr2, hmx2, p1, p2, p3, p4, p5, p6⟩ := hr.blk l _ hl
        rw [g1] at p1; cases p1
        have hext := Ext.freeze (G := G) (w := w) hl g1 rfl
        rcases f5 with rfl | ⟨hn0, hc0, o', rfl⟩
        · have := DR.sl (G := fun x => G x ∨ x = b) (w := w) b (o + 0 * sz) cap sz es (fun p q => (c2[o + p * sz + q]?).getD undef) (fun _ => .inr rfl) (by omega) hmx p5 ?_ ?_
          · exact this
          · intro p e q x he hq
            obtain ⟨y, hy, _⟩ := p6 _ e q x he hq
            rw [cell_of p2]
            have : o + 0 * sz + p * sz + q = o + p * sz + q := by omega
            rw [this, hy]; rfl
          · intro p e q x he hq
            obtain ⟨y, hy, hd⟩ := p6 _ e q x he hq
            simp only [hy, Option.getD_some]
            exact hd.ext hext hr
        · have : es = [] := List.eq_nil_of_length_eq_zero hn0
          subst this
          exact .emp _ _
  obtain ⟨hlen, hget⟩ := FzH_get heap
  have hk : ∀ k b, (h.set l .dead)[k]? = some b → ∃ b', h'[k]? = some b' ∧ Kept ι ι w w k b b' ∧ (b'.live = b.live) ∧ ((b = .dead ∧ b' = .dead) ∨ ∃ b0, h[k]? = some b0 ∧ b = b0 ∧ k ≠ l ∧ FzB l v sz es b0 b') := by
    intro k b hb
    have hkl : k < h'.length := by have := get_lt hb; simp at this; omega
    have hb' : h'[k]? = some h'[k] := List.getElem?_eq_getElem hkl
    refine ⟨h'[k], hb', ?_⟩
    rcases get_set hb with ⟨e1, e2, _⟩ | ⟨e1, e2⟩
    · subst e1 e2
      rcases hget k _ _ hl hb' with ⟨_, q⟩ | ⟨q, _⟩
      · rw [q]; exact ⟨trivial, rfl, .inl ⟨rfl, rfl⟩⟩
      · omega
    · rcases hget k _ _ e2 hb' with ⟨q, _⟩ | ⟨q, q3⟩
      · omega
      · refine ⟨?_, ?_, .inr ⟨b, e2, rfl, e1, q3⟩⟩
        · generalize h'[k] = x at q3
          cases q3 with
          | same => exact Kept.refl ι w k b
          | bx xs ys hc => exact ⟨(FzCs_get hc).1.symm, rfl⟩
        · generalize h'[k] = x at q3
          cases q3 <;> rfl
  have hk1 : ∀ k b, (h.set l .dead)[k]? = some b → ∃ b', h'[k]? = some b' ∧ Kept ι ι w w k b b' := fun k b hb => let ⟨b', x1, x2, _⟩ := hk k b hb; ⟨b', x1, x2⟩
  have hg1 : ∀ b, G1 b → G1 b ∧ w.heap[b]? = w.heap[b]? := fun b hb => ⟨hb, rfl⟩
  have hcv : ∀ (u : Value) (x y : CV), CR G w ι h u x → FzC l v sz es x y → CR G1 w ι h' u y := by
    intro u x y hc hz
    cases hz with
    | keep => exact (hc.ext q2 hr).mono hg1 hk1
    | arr n hn => exact .d _ _ (qd u n hn hc)
    | drop => exact .u _
  have hback : ∀ (k : Nat) (b' : Blk), h'[k]? = some b' → ∃ b : Blk, (List.set h l Blk.dead)[k]? = some b ∧ b'.live = b.live := by
    intro k b' hb'
    have hkl : k < (List.set h l Blk.dead).length := by have := get_lt hb'; simp; omega
    have hb := List.getElem?_eq_getElem hkl
    obtain ⟨b2, x1, _, x3, _⟩ := hk k _ hb
    rw [hb'] at x1; cases x1
    exact ⟨_, hb, x3⟩
  have hown : ∀ b, owned ι h' b ↔ owned ι (h.set l .dead) b := by
    intro b
    constructor
    · rintro ⟨k, o, blk, x1, x2, x3⟩
      obtain ⟨b1, y1, y2⟩ := hback k blk x2
      exact ⟨k, o, b1, x1, y1, by rw [← y2]; exact x3⟩
    · rintro ⟨k, o, blk, x1, x2, x3⟩
      obtain ⟨b1, y1, _, y2, _⟩ := hk k blk x2
      exact ⟨k, o, b1, x1, y1, by rw [y2]; exact x3⟩
  have hr' : HR G1 ι h' w :=
    { len := by rw [← hlen]; exact hr.len
      inj := fun l1 l2 b o1 o2 k1 k2 a1 a2 c1 c2 d1 d2 => by
        obtain ⟨b1, x1, x2⟩ := hback l1 k1 c1
        obtain ⟨b2, y1, y2⟩ := hback l2 k2 c2
        exact q1.inj l1 l2 b o1 o2 b1 b2 a1 a2 x1 y1 (by rw [← x2]; exact d1) (by rw [← y2]; exact d2)
      g := fun b hb => ⟨(q1.g b hb).1, fun ho => (q1.g b hb).2 ((hown b).1 ho)⟩
      blk := fun k b' hb' => by
        have hkl : k < (List.set h l Blk.dead).length := by have := get_lt hb'; simp; omega
        have hb := List.getElem?_eq_getElem hkl
        obtain ⟨b2, x1, _, _, x4⟩ := hk k _ hb
        rw [hb'] at x1; cases x1
        have hbr := q1.blk k _ hb
        rcases x4 with ⟨_, e2⟩ | ⟨b0, e1, e2, e3, e4⟩
        · subst e2; trivial
        · rw [e2] at hbr hb
          cases e4 with
          | bx xs ys hc =>
            obtain ⟨b, o, c, t, fr, h1, h2, h3, h4, h5⟩ := hr.blk k _ e1
            obtain ⟨z1, z2⟩ := FzCs_get hc
            refine ⟨b, o, c, t, fr, h1, h2, by omega, h4, fun i y hy => ?_⟩
            have hi := get_lt hy
            have hx : xs[i]? = some (xs[i]'(by omega)) := List.getElem?_eq_getElem (by omega)
            obtain ⟨u, hu, hcr⟩ := h5 i _ hx
            exact ⟨u, hu, hcv u _ y hcr (z2 i _ y hx hy)⟩
          | same =>
            cases b' with
            | dead => trivial
            | bx cs =>
              obtain ⟨b, o, c, t, fr, h1, h2, h3, h4, h5⟩ := hbr
              refine ⟨b, o, c, t, fr, h1, h2, h3, h4, fun i x hx => ?_⟩
              obtain ⟨u, hu, hcr⟩ := h5 i x hx
              exact ⟨u, hu, hcr.mono hg1 hk1⟩
            | mp ver es => exact hbr
            | mi m' ver es' =>
              obtain ⟨b, o, mb, seen, clock, blk, h1, h2, h3, h4, h5⟩ := hbr
              obtain ⟨b3, y1, y2, _, y4⟩ := hk m' blk h3
              refine ⟨b, o, mb, seen, clock, b3, h1, h2, y1, y2.allows h4, fun all ha => ?_⟩
              obtain ⟨v0, es0, z1, z2, z3⟩ := y2.mp ha
              subst z1
              rcases z3 with z3 | ⟨z3, z4, _⟩
              · simp only [Blk.allows, decide_eq_true_eq] at h4; omega
              · subst z3 z4; exact h5 _ rfl
            | da rl v2 sz2 es2 =>
              cases rl with
              | false => exact hbr
              | true => exact hbr }
  have hext : Ext G1 ι (h.set l .dead) w G1 ι h' w :=
    { size := Nat.le_refl _
      quiet := ⟨rfl, rfl⟩
      frame := fun _ _ _ => rfl
      gmono := fun _ h => h
      gnew := fun _ h => .inl h
      onew := fun b ho => .inl ((hown b).1 ho)
      keep := hk1 }
  refine ⟨G1, ι, ⟨hr', st.rel.dfr, st.rel.size, fun i => ?_⟩, (st.ext.trans q2).trans hext⟩
  rcases env i with h1 | h1
  · simp only [lk, h1]; exact .c _ _ (.u _)
  · have hvr := st.rel.env i
    simp only [lk] at hvr ⊢
    revert h1
    generalize lkL L' i = y
    intro h1
    generalize lkL L i = x at hvr h1
    generalize a.tmps.getD i undef = u at hvr ⊢
    cases h1 with
    | same => exact (hvr.ext q2 hr).mono hg1 hk1
    | c x y hz =>
      cases hvr with
      | c _ _ hc => exact .c _ _ (hcv _ _ _ hc hz)
    | agg xs ys hz =>
      obtain ⟨z1, z2⟩ := FzCs_get hz
      cases hvr with
      | agg cs _ hn hc =>
        refine .agg _ _ (by omega) fun j u y hu hy => ?_
        have hj := get_lt hy
        have hx : xs[j]? = some (xs[j]'(by omega)) := List.getElem?_eq_getElem (by omega)
        exact hcv u _ y (hc j u _ hu hx) (z2 j _ y hx hy)

theorem Wk.fits {m : Nat} {L L' : Lv} {h h' : Hp} {a : Act} {w : World} (hw : Wk m L h L' h') (hm : h0.length ≤ m) : Fits N G0 ι0 h0 w0 (lkL L) h a w → Fits N G0 ι0 h0 w0 (lkL L') h' a w := by
  induction hw with
  | trans _ _ ih1 ih2 => exact fun hf => ih2 (ih1 hf)
  | fz l v sz r es hl env heap => exact Wk.fz_fits l v sz r es hl env heap
  | cut heap least refs env => exact Wk.cut_fits heap least refs env hm
  | same hh env =>
    intro hf
    subst hh
    obtain ⟨G, ι, st⟩ := hf
    refine ⟨G, ι, ⟨st.rel.hr, st.rel.dfr, st.rel.size, fun i => ?_⟩, st.ext⟩
    rcases env i with h1 | h1
    · simp only [lk, h1]; exact .c _ _ (.u _)
    · simp only [lk, h1]; exact st.rel.env i
  | fg i =>
    intro ⟨G, ι, st⟩
    refine ⟨G, ι, ⟨st.rel.hr, st.rel.dfr, st.rel.size, fun k => ?_⟩, st.ext⟩
    simp only [lkL, lk, upd]
    split
    · rename_i e
      subst e
      have := st.rel.env i
      rw [lk, ← lkN_eq] at this
      exact this.fg
    · exact st.rel.env k
  | nilS i sz hi =>
    intro ⟨G, ι, st⟩
    obtain ⟨q1, q2, q3⟩ := new_nil (sz := sz) st.rel.hr
    refine ⟨G, _, ⟨q1, st.rel.dfr, st.rel.size, fun k => ?_⟩, st.ext.trans q3⟩
    simp only [lkL, lk, upd]
    split
    · rename_i e
      subst e
      have := st.rel.env i
      rw [lk, ← lkN_eq, hi] at this
      rw [nil_value (inv_d this)]
      exact q2
    · exact (st.rel.env k).ext q3 st.rel.hr
  | nilB l j sz cs hl hj =>
    rename_i L h
    intro ⟨G, ι, st⟩
    obtain ⟨q1, q2, q3⟩ := new_nil (sz := sz) st.rel.hr
    have hl' := get_snoc_old (a := Blk.da false 0 sz []) hl
    obtain ⟨b, o, c, ty, fr, h1, h2, h3, h4, h5⟩ := q1.blk l _ hl'
    have hkept : Kept (ι ++ [(0, 0)]) (ι ++ [(0, 0)]) w w l (.bx cs) (.bx (cs.set j (.arr h.length 0 0 0))) := ⟨by simp, rfl⟩
    have hext := Ext.set_own (G := G) q1 hl' h1 rfl hkept rfl (fun _ _ => rfl)
    have hr := HR.set_own (G := G) q1 hl' h1 rfl hkept rfl (fun _ _ => rfl) ⟨b, o, c, ty, fr, h1, h2, by simpa using h3, h4, fun i x hx => by
      rcases get_set hx with ⟨e1, e2, _⟩ | ⟨_, e1⟩
      · subst e1 e2
        obtain ⟨v, hv, hc⟩ := h5 i _ hj
        refine ⟨v, hv, ?_⟩
        have hd : DR G w v (.list true sz []) := by cases hc; assumption
        rw [nil_value hd]
        exact (inv_c q2).ext hext q1
      · obtain ⟨v, hv, hc⟩ := h5 i x e1
        exact ⟨v, hv, hc.ext hext q1⟩⟩
    exact ⟨G, _, ⟨hr, st.rel.dfr, st.rel.size, fun k => ((st.rel.env k).ext q3 st.rel.hr).ext hext q1⟩, (st.ext.trans q3).trans hext⟩

theorem callv_exec {o : Oper} {x : X} {xs : List X} {a : Act} {w : World} {f : Nat} {vs : Array Value} (hc : compOp P o = .callv x xs) (hx : ∀ op, cx P 0 op = some x → a.eval op = .func (.func f) #[] vs) (hf : FnOk P f) :
    ∃ c : Call, (execOp a.eval o).run P w = .ok (.enter f (c.args.map a.eval ++ vs)) w ∧ cxs P c.argTypes.toList c.args.toList = some xs := by
  cases hoo : o.op
  case call c =>
    simp only [compOp, hoo] at hc
    split at hc
    · exact absurd hc compB_callv
    · split at hc
      · split at hc <;> cases hc
      · cases hc
    · rename_i t hcal
      split at hc
      · rename_i l hl
        cases hc
        have hev := hx (.tmp t) rfl
        obtain ⟨fn, h1, h2, h3⟩ := hf.ok
        refine ⟨c, ?_, hl⟩
        simp only [execOp, hoo, resolve, hcal, hev, Deferred.ofValue, Sem.run_bind, Sem.run_pure, Result.andThen_ok, invoke, Array.empty_append]
        exact callFunc_run h1 h2 h3
      · cases hc
    · cases hc
  case makeMap t rs => exfalso; cases rs <;> (simp only [compOp, hoo] at hc; cases hc)
  case makeFunc fn first caps =>
    exfalso
    cases fn
    case func g =>
      simp only [compOp, hoo] at hc
      revert hc
      (repeat' split) <;> intro hc <;> cases hc
    all_goals (simp only [compOp, hoo] at hc; cases hc)
  all_goals
    exfalso
    simp only [compOp, hoo] at hc
    revert hc
    (repeat' split) <;> intro hc <;> cases hc

theorem callv_slot {o : Oper} {x : X} {xs : List X} (hc : compOp P o = .callv x xs) : ∃ t, x = .t t := by
  cases hoo : o.op
  case call c =>
    simp only [compOp, hoo] at hc
    split at hc
    · exact absurd hc compB_callv
    · split at hc
      · split at hc <;> cases hc
      · cases hc
    · split at hc
      · cases hc; exact ⟨_, rfl⟩
      · cases hc
    · cases hc
  case makeMap t rs => exfalso; cases rs <;> (simp only [compOp, hoo] at hc; cases hc)
  case makeFunc fn first caps =>
    exfalso
    cases fn
    case func g =>
      simp only [compOp, hoo] at hc
      revert hc
      (repeat' split) <;> intro hc <;> cases hc
    all_goals (simp only [compOp, hoo] at hc; cases hc)
  all_goals
    exfalso
    simp only [compOp, hoo] at hc
    revert hc
    (repeat' split) <;> intro hc <;> cases hc

theorem isnil_exec {o : Oper} {ne : Bool} {x : X} {G : Nat → Prop} {ι : Io} {e : Env} {h : Hp} {a : Act} {w : World} {nl : Bool} {sz : Nat} {l : List (List D)} (hc : compOp P o = .isnil 0 ne x) (r : Rel N G ι e h a w)
    (hx : ev e x = .c (.d (.list nl sz l))) : ∃ b : Bool, (b = true → l = []) ∧ OpRes G ι h w (.c (.d (.bool (if ne then !b else b)))) h ((execOp a.eval o).run P w) := by
  have key : ∀ op xt (x0 y0 : Operand) yt x', o.op = .binOp op xt x0 y0 yt → cx P xt x0 = some x' → (op = .eql ∨ op = .neq) → lnil y0 = true → (∃ el, P.underlying xt = some (.slice el)) → x' = x → (op == .neq) = ne →
      ∃ b : Bool, (b = true → l = []) ∧ OpRes G ι h w (.c (.d (.bool (if ne then !b else b)))) h ((execOp a.eval o).run P w) := by
    intro op xt x0 y0 yt x' hop hcx hopk hl hu he hne
    subst he hne
    have r1 := cx_sound hcx r
    rw [hx] at r1
    obtain ⟨ad, n, c, e1, e2⟩ := nil_either r1
    exact ⟨ad.isNone, e2, b_nil_at r hop x' 0 ad.isNone hcx hopk (.inl ⟨rfl, hl, hu⟩) (fun _ => ⟨ad, n, c, e1, rfl⟩) (fun h => by cases h)⟩
  cases hoo : o.op
  case binOp op xt x0 y0 yt =>
    simp only [compOp, hoo] at hc
    split at hc
    · rename_i x' y' hx' hy'
      split at hc
      all_goals
        (repeat' split at hc) <;> first | (cases hc; done) | skip
        all_goals
          simp only [AOp.isnil.injEq] at hc
          obtain ⟨hk, hne, hxx⟩ := hc
          first | (cases hk; done) | skip
          rename_i hu hl
          exact key _ _ _ _ _ _ hoo hx' (by simp) hl ⟨_, hu⟩ hxx hne
    · cases hc
  case call c =>
    exfalso
    simp only [compOp, hoo] at hc
    split at hc
    · exact absurd hc compB_isnil
    · split at hc
      · split at hc <;> cases hc
      · cases hc
    · split at hc <;> cases hc
    · cases hc
  case makeMap t rs => exfalso; cases rs <;> (simp only [compOp, hoo] at hc; cases hc)
  case makeFunc fn first caps =>
    exfalso
    cases fn
    case func g =>
      simp only [compOp, hoo] at hc
      revert hc
      (repeat' split) <;> intro hc <;> cases hc
    all_goals (simp only [compOp, hoo] at hc; cases hc)
  all_goals
    exfalso
    simp only [compOp, hoo] at hc
    revert hc
    (repeat' split) <;> intro hc <;> cases hc

theorem len_slot {o : Oper} {x : X} {G : Nat → Prop} {ι : Io} {e : Env} {h : Hp} {a : Act} {w : World} (hc : compOp P o = .len x) (r : Rel N G ι e h a w) : ∃ v, VR G w ι h v (ev e x) := by
  have key : ∀ t y, cx P t y = some x → ∃ v, VR G w ι h v (ev e x) := fun t y hy => ⟨_, cx_sound hy r⟩
  cases hoo : o.op
  case call c =>
    simp only [compOp, hoo] at hc
    split at hc
    · unfold compB at hc
      (repeat' split at hc) <;> first | (cases hc; done) | skip
      cases hc
      exact key _ _ (by assumption)
    · split at hc
      · split at hc <;> cases hc
      · cases hc
    · split at hc <;> cases hc
    · cases hc
  case makeMap t rs => exfalso; cases rs <;> (simp only [compOp, hoo] at hc; cases hc)
  case makeFunc fn first caps =>
    exfalso
    cases fn
    case func g =>
      simp only [compOp, hoo] at hc
      revert hc
      (repeat' split) <;> intro hc <;> cases hc
    all_goals (simp only [compOp, hoo] at hc; cases hc)
  all_goals
    exfalso
    simp only [compOp, hoo] at hc
    revert hc
    (repeat' split) <;> intro hc <;> cases hc

theorem len_bound {o : Oper} {x : X} {G : Nat → Prop} {ι : Io} {e : Env} {h : Hp} {a : Act} {w : World} {sz : Nat} {l : List (List D)} (hc : compOp P o = .len x) (r : Rel N G ι e h a w)
    (hx : view h (ev e x) = some (sz, l)) : l.length ≤ 9223372036854775807 := by
  have key : ∀ t y, cx P t y = some x → l.length ≤ 9223372036854775807 := fun t y hy => by
    obtain ⟨_, _, _, _, hm⟩ := view_len r.hr (cx_sound hy r) hx
    exact hm
  cases hoo : o.op
  case call c =>
    simp only [compOp, hoo] at hc
    split at hc
    · unfold compB at hc
      (repeat' split at hc) <;> first | (cases hc; done) | skip
      cases hc
      exact key _ _ (by assumption)
    · split at hc
      · split at hc <;> cases hc
      · cases hc
    · split at hc <;> cases hc
    · cases hc
  case makeMap t rs => exfalso; cases rs <;> (simp only [compOp, hoo] at hc; cases hc)
  case makeFunc fn first caps =>
    exfalso
    cases fn
    case func g =>
      simp only [compOp, hoo] at hc
      revert hc
      (repeat' split) <;> intro hc <;> cases hc
    all_goals (simp only [compOp, hoo] at hc; cases hc)
  all_goals
    exfalso
    simp only [compOp, hoo] at hc
    revert hc
    (repeat' split) <;> intro hc <;> cases hc

theorem fn_enter {o : Oper} {f : Nat} {vs : List Value} {args : List AV} {h : Hp} {K : AV → Hp → Prop} {G : Nat → Prop} {ι : Io} {e : Env} {a : Act} {w : World} {K' : Act → World → Prop} {Q : Exit → Act → World → Prop}
    (st : St N G0 ι0 h0 w0 G ι e h a w) (hd : ∀ d, o.dst = some d → d < N) (hf : FnS P f args h K) (hv : VRs G w ι h vs args) (hrun : (execOp a.eval o).run P w = .ok (.enter f vs.toArray) w)
    (hK : ∀ v h' a' w', K v h' → Fits N G0 ι0 h0 w0 (putE e o.dst v) h' a' w' → K' a' w') : o.wp P a w K' Q := by
  unfold Oper.wp
  rw [hrun, Oper.upon_enter]
  refine (hf.out G ι w vs st.rel.hr hv).mono fun en w' ⟨v, r, G', ι', h', k0, k1, k2, k3, k4⟩ => ?_
  subst k0
  exact hK r h' _ _ k1 ⟨G', ι', st.step hd k2 k3 k4⟩

/-- a call by its name -/
theorem callS_sound {o : Oper} {c : Call} {f : Nat} {xs : List X} {m : Nat} (hm : h0.length ≤ m) (hoo : o.op = .call c) (ho : compOp P o = .call f xs) (hdN : ∀ d, o.dst = some d → d < N) {d : Bool} {L : Lv} {h : Hp} {K : Lv → AV → Hp → Prop}
    (hc : CallS P m d L h f xs K) : ∀ {a : Act} {w : World} {K' : Act → World → Prop} {Q : Exit → Act → World → Prop}, Fits N G0 ι0 h0 w0 (lkL L) h a w →
    (∀ L v h' a' w', K L v h' → Fits N G0 ι0 h0 w0 (putE (lkL L) o.dst v) h' a' w' → K' a' w') → o.wp P a w K' Q := by
  induction hc with
  | pure hp k =>
    intro a w K' Q hf hK
    obtain ⟨G, ι, st⟩ := hf
    obtain ⟨q1, q2⟩ := call_exec (a := a) (w := w) hoo ho
    have hargs : c.args.map a.eval = (c.args.toList.map a.eval).toArray := by apply Array.ext'; simp
    rw [hargs] at q1
    rw [evsN_eq] at hp
    exact fn_enter st hdN hp.fn (args_sound st.rel q2) q1 (fun v h' a' w' hk hf => by obtain ⟨rfl, rfl⟩ := hk; exact hK _ _ _ _ _ k hf)
  | fn hfn =>
    intro a w K' Q hf hK
    obtain ⟨G, ι, st⟩ := hf
    obtain ⟨q1, q2⟩ := call_exec (a := a) (w := w) hoo ho
    have hargs : c.args.map a.eval = (c.args.toList.map a.eval).toArray := by apply Array.ext'; simp
    rw [hargs] at q1
    rw [evsN_eq] at hfn
    exact fn_enter st hdN hfn (args_sound st.rel q2) q1 fun v h' a' w' hk hf => hK _ _ _ _ _ hk hf
  | wk hw _ ih =>
    intro a w K' Q hf hK
    exact ih ho (hw.fits hm hf) hK

theorem did_sound {ops : Array Oper} {o : Oper} {ao : AO} {m : Nat} (hm : h0.length ≤ m) {L : Lv} {h : Hp} {a : Act} {w : World} {K : Lv → AV → Hp → Prop} {K' : Act → World → Prop} {Q : Exit → Act → World → Prop}
    (hc : compO P ops N o = some ao) (hs : Did P m false ao.op L h K) (hf : Fits N G0 ι0 h0 w0 (lkL L) h a w)
    (hK : ∀ L v h' a' w', K L v h' → Fits N G0 ι0 h0 w0 (putE (lkL L) ao.dst v) h' a' w' → K' a' w') : o.wp P a w K' Q := by
  obtain ⟨hd, hdN, hop, hg⟩ := compO_dst hc
  rw [hd] at hK
  induction hs with
  | wk _ hw _ ih => exact ih (hw.fits hm hf) hK
  | @step L h K v h' hs _ hk =>
    have hf0 := hf
    obtain ⟨G, ι, st⟩ := hf
    rw [hop] at hs
    obtain ⟨v', w', G', ι', hrun, k1, k2, k3⟩ := op_sound st.rel hs
    unfold Oper.wp
    rcases hrun with hrun | ⟨hrun, rfl⟩
    · rw [hrun]; exact hK _ _ _ _ _ hk ⟨G', ι', st.step hdN k1 k2 k3⟩
    · rw [hrun]; exact hK _ _ _ _ _ hk ⟨G', ι', st.step hdN k1 k2 k3⟩
  | @call L h K f xs ho hc' =>
    have hf0 := hf
    obtain ⟨G, ι, st⟩ := hf
    rw [hop] at ho
    obtain ⟨c, hoo⟩ := compOp_call ho
    exact callS_sound hm hoo ho hdN hc' hf0 hK
  | @len L h K x sz l ho _ hx hk =>
    have hf0 := hf
    obtain ⟨G, ι, st⟩ := hf
    have hb := len_bound (by rw [← hop]; exact ho) st.rel hx
    have hs : astep (lkL L) h ao.op = some (.c (.d (.int .i64 l.length)), h) := by rw [ho]; simp only [astep, hx]
    rw [hop] at hs
    obtain ⟨v', w', G', ι', hrun, k1, k2, k3⟩ := op_sound st.rel hs
    unfold Oper.wp
    rcases hrun with hrun | ⟨hrun, rfl⟩
    · rw [hrun]; exact hK _ _ _ _ _ (hk hb) ⟨G', ι', st.step hdN k1 k2 k3⟩
    · rw [hrun]; exact hK _ _ _ _ _ (hk hb) ⟨G', ι', st.step hdN k1 k2 k3⟩
  | @lenA L h K x l v i n ho _ hx hsol hk =>
    have hf0 := hf
    obtain ⟨G, ι, st⟩ := hf
    obtain ⟨vv, hvv⟩ := len_slot (by rw [← hop]; exact ho) st.rel
    obtain ⟨sz, ls, hview, hlen⟩ : ∃ sz ls, view h (ev (lkL L) x) = some (sz, ls) ∧ ls.length = n := by
      rw [hx] at hvv ⊢
      cases inv_c hvv with
      | arr _ _ _ _ _ blk hb ha hk1 hk0 =>
        simp only [solid, hb] at hsol
        cases blk <;> simp at hsol
        rename_i rl v' sz es
        subst hsol
        refine ⟨sz, (es.drop i).take n, by simp [view, hb], ?_⟩
        cases rl with
        | false => obtain ⟨_, hn, _⟩ := hk0 sz es rfl; subst hn; simp
        | true => obtain ⟨b, o', cap, h1, h2, _⟩ := hk1 sz es rfl; simp; omega
    have hb := len_bound (by rw [← hop]; exact ho) st.rel hview
    have hs : astep (lkL L) h ao.op = some (.c (.d (.int .i64 n)), h) := by rw [ho]; simp only [astep, hview, hlen]
    rw [hop] at hs
    obtain ⟨v', w', G', ι', hrun, k1, k2, k3⟩ := op_sound st.rel hs
    unfold Oper.wp
    rcases hrun with hrun | ⟨hrun, rfl⟩
    · rw [hrun]; exact hK _ _ _ _ _ (hk (by omega)) ⟨G', ι', st.step hdN k1 k2 k3⟩
    · rw [hrun]; exact hK _ _ _ _ _ (hk (by omega)) ⟨G', ι', st.step hdN k1 k2 k3⟩
  | @nil L h K ne x nl sz l ho _ hx hk =>
    have hf0 := hf
    obtain ⟨G, ι, st⟩ := hf
    rw [hop] at ho
    obtain ⟨b, hb, v', w', G', ι', hrun, k1, k2, k3⟩ := isnil_exec ho st.rel hx
    unfold Oper.wp
    rcases hrun with hrun | ⟨hrun, rfl⟩
    · rw [hrun]; exact hK _ _ _ _ _ (hk b hb) ⟨G', ι', st.step hdN k1 k2 k3⟩
    · rw [hrun]; exact hK _ _ _ _ _ (hk b hb) ⟨G', ι', st.step hdN k1 k2 k3⟩
  | @callv L h K x xs f caps ho _ hx hfn hc' =>
    have hf0 := hf
    obtain ⟨G, ι, st⟩ := hf
    rw [hop] at ho
    obtain ⟨t, rfl⟩ := callv_slot ho
    have hvx := st.rel.env t
    have hx' : lk (lkL L) t = .c (.fn f caps) := hx
    rw [hx'] at hvx
    obtain ⟨vs, hvs, hn, hcr⟩ : ∃ vs : Array Value, a.tmps.getD t undef = .func (.func f) #[] vs ∧ vs.size = caps.length ∧ ∀ (i : Nat) (v : Value) (c : CV), vs[i]? = some v → caps[i]? = some c → CR G w ι h v c := by
      revert hvx
      generalize a.tmps.getD t undef = v
      intro hvx
      cases inv_c hvx with
      | fn _ vs _ hn hc => exact ⟨vs, rfl, hn, hc⟩
    obtain ⟨c, q1, q2⟩ := callv_exec (a := a) (w := w) (vs := vs) ho (fun op hop' => by
      cases op with
      | tmp t' => simp only [cx, Option.some.injEq, X.t.injEq] at hop'; subst hop'; exact hvs
      | const v => simp [cx] at hop'
      | global g => simp [cx] at hop'
      | func g => simp [cx] at hop') hfn
    obtain ⟨t1, t2⟩ := args_sound st.rel q2
    have hargs : c.args.map a.eval ++ vs = (c.args.toList.map a.eval ++ vs.toList).toArray := by apply Array.ext'; simp
    rw [hargs] at q1
    have hv : VRs G w ι h (c.args.toList.map a.eval ++ vs.toList) (evsN L xs ++ caps.map .c) := by
      rw [evsN_eq]
      refine ⟨by simp only [List.length_append, t1, Array.length_toList, hn, List.length_map], fun i v x hv hx => ?_⟩
      rcases Nat.lt_or_ge i (c.args.toList.map a.eval).length with hi | hi
      · rw [List.getElem?_append_left hi] at hv
        rw [List.getElem?_append_left (by omega)] at hx
        exact t2 i v x hv hx
      · rw [List.getElem?_append_right hi] at hv
        rw [List.getElem?_append_right (by omega)] at hx
        simp only [List.getElem?_map, Option.map_eq_some_iff] at hx
        obtain ⟨y, hy, rfl⟩ := hx
        rw [← t1] at hy
        exact .c _ _ (hcr _ v y (by simpa using hv) hy)
    cases hc' with
    | pure hp k => exact fn_enter st hdN hp.fn hv q1 (fun v h' a' w' hk hf => by obtain ⟨rfl, rfl⟩ := hk; exact hK _ _ _ _ _ k hf)
    | fn hf => exact fn_enter st hdN hf hv q1 fun v h' a' w' hk hf => hK _ _ _ _ _ hk hf

/-- a region in the text's order -/
theorem region_seq {ops : Array Oper} {m : Nat} (hm : h0.length ≤ m) {Q : Exit → Act → World → Prop} : ∀ (os : List Oper) (aos : List AO) (k : Nat) (L : Lv) (h : Hp) (K : Lv → Hp → Prop) (a : Act) (w : World),
    (∀ i, os[i]? = ops[k + i]?) → compOs P ops N os = some aos → aos.all (gOk N) = true → runO P m false aos L h K → Fits N G0 ι0 h0 w0 (lkL L) h a w →
    (∀ L' h' a' w', K L' h' → Fits N G0 ι0 h0 w0 (lkL L') h' a' w' → Q .normal a' w') → wpOps P ops Q (List.range' k os.length) a w := by
  intro os
  induction os with
  | nil =>
    intro aos k L h K a w _ hc _ hv hf hQ
    simp only [compOs, Option.some.injEq] at hc
    subst hc
    exact hQ L h a w hv hf
  | cons o os ih =>
    intro aos k L h K a w hk hc hg hv hf hQ
    simp only [compOs] at hc
    split at hc
    · rename_i ao l hao hl
      cases hc
      simp only [List.all_cons, Bool.and_eq_true] at hg
      have hok : ops[k]? = some o := by have := hk 0; simpa using this.symm
      have hrest : ∀ L' h' a' w', runO P m false l L' h' K → Fits N G0 ι0 h0 w0 (lkL L') h' a' w' → wpOps P ops Q (List.range' (k + 1) os.length) a' w' := fun L' h' a' w' hv' hf' =>
        ih l (k + 1) L' h' K a' w' (fun i => by have := hk (i + 1); simp only [List.getElem?_cons_succ] at this; rw [this]; congr 1; omega) hl hg.2 hv' hf' hQ
      simp only [List.length_cons, List.range'_succ]
      rw [wpOps_cons]
      unfold wpOp
      simp only [hok]
      obtain ⟨G, ι, st⟩ := hf
      obtain ⟨hd, hdN, hop, hgs⟩ := compO_dst hao
      have hgN := gOk_spec hg.1
      rcases hv with ⟨hgv, hv⟩ | ⟨hgv, hv⟩
      · rw [gv_wanted st.rel hgs hgv hgN]
        simp only [if_true]
        left
        refine did_sound hm hao hv ⟨G, ι, st⟩ fun L' v h' a' w' hk' hf' => ?_
        exact hrest _ _ _ _ hk' (by rw [putL_eq]; exact hf')
      · rw [gv_wanted st.rel hgs hgv hgN]
        simp only [Bool.false_eq_true, if_false]
        refine hrest _ _ _ _ hv ⟨G, ι, ?_⟩
        rw [putL_eq, hd]
        exact st.step hdN st.rel.hr (.tup #[] [] rfl (by simp)) (Ext.refl _ _ _ _)
    · cases hc

/-- the same operations as steps -/
theorem runO_run {aops : List AO} {m : Nat} : ∀ (aos : List AO) (k : Nat) (L : Lv) (h : Hp) (K : Lv → Hp → Prop), (∀ i, aos[i]? = aops[k + i]?) → runO P m true aos L h K →
    ∃ L' h', RunI P aops (List.range' k aos.length) (lkL L) h (lkL L') h' ∧ K L' h' := by
  intro aos
  induction aos with
  | nil => intro k L h K _ hv; exact ⟨L, h, ⟨rfl, rfl⟩, hv⟩
  | cons o aos ih =>
    intro k L h K hk hv
    have hok : aops[k]? = some o := by have := hk 0; simpa using this.symm
    have next : ∀ L' h', StepD P o (lkL L) h (lkL L') h' → runO P m true aos L' h' K → ∃ L' h', RunI P aops (List.range' k (o :: aos).length) (lkL L) h (lkL L') h' ∧ K L' h' := by
      intro L' h' hs hv'
      obtain ⟨L2, h2, hr, hk2⟩ := ih (k + 1) L' h' K (fun i => by have := hk (i + 1); simp only [List.getElem?_cons_succ] at this; rw [this]; congr 1; omega) hv'
      exact ⟨L2, h2, ⟨o, _, _, hok, hs, hr⟩, hk2⟩
    rcases hv with ⟨hgv, hv⟩ | ⟨hgv, hv⟩
    · cases hv with
      | wk hd => cases hd
      | step v h' hs hcl hk' =>
        refine next (putL L o.dst v) h' ⟨?_, fun hc => .inr (hcl rfl hc)⟩ hk'
        rw [putL_eq]; unfold StepR; rw [hgv]; exact .inl ⟨v, hs, rfl⟩
      | call f xs ho hc =>
        cases hc with
        | pure hp hk' =>
          rename_i r
          rw [evsN_eq] at hp
          refine next (putL L o.dst r) h ⟨?_, fun hc => .inl rfl⟩ hk'
          rw [putL_eq]; unfold StepR; rw [hgv]; exact .inr ⟨f, xs, r, ho, hp, rfl, rfl⟩
      | callv x xs f caps ho hd => cases hd
      | nil ne x nl sz l ho hd => cases hd
      | len x sz l ho hd => cases hd
      | lenA x l v i n ho hd => cases hd
    · refine next (putL L o.dst (.tup [])) h ⟨?_, fun _ => .inl rfl⟩ hv
      rw [putL_eq]; unfold StepR; rw [hgv]; exact ⟨rfl, rfl⟩

end
end Go.Ab
