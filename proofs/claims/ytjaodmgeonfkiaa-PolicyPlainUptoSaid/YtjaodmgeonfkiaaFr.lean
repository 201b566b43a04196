/-
  The engine: a contract over a few blocks, used where these blocks are some of many.
-/
import Derived.Test.YtjaodmgeonfkiaaEz
namespace Go.Ab

/-- other numbers for the blocks -/
def rnC (ρ : Nat → Nat) : CV → CV
  | .ptr l v i j => .ptr (ρ l) v i j
  | .arr l v i n => .arr (ρ l) v i n
  | .mp l => .mp (ρ l)
  | .it l => .it (ρ l)
  | .fn f caps => .fn f (rnCs ρ caps)
  | x => x
where
  rnCs (ρ : Nat → Nat) : List CV → List CV
  | [] => []
  | x :: r => rnC ρ x :: rnCs ρ r
abbrev rnCs (ρ : Nat → Nat) : List CV → List CV := rnC.rnCs ρ

theorem rnCs_get (ρ : Nat → Nat) (l : List CV) (i : Nat) : (rnCs ρ l)[i]? = (l[i]?).map (rnC ρ) := by
  induction l generalizing i with
  | nil => simp [rnCs, rnC.rnCs]
  | cons x r ih =>
    cases i with
    | zero => simp [rnCs, rnC.rnCs]
    | succ i => simpa [rnCs, rnC.rnCs] using ih i
theorem rnCs_len (ρ : Nat → Nat) (l : List CV) : (rnCs ρ l).length = l.length := by
  induction l with
  | nil => rfl
  | cons x r ih => simpa [rnCs, rnC.rnCs] using ih

def rnA (ρ : Nat → Nat) : AV → AV
  | .c x => .c (rnC ρ x)
  | .agg l => .agg (rnCs ρ l)
  | .tup l => .tup (rnAs ρ l)
where
  rnAs (ρ : Nat → Nat) : List AV → List AV
  | [] => []
  | x :: r => rnA ρ x :: rnAs ρ r
abbrev rnAs (ρ : Nat → Nat) : List AV → List AV := rnA.rnAs ρ
theorem rnAs_get (ρ : Nat → Nat) (l : List AV) (i : Nat) : (rnAs ρ l)[i]? = (l[i]?).map (rnA ρ) := by
  induction l generalizing i with
  | nil => simp [rnAs, rnA.rnAs]
  | cons x r ih =>
    cases i with
    | zero => simp [rnAs, rnA.rnAs]
    | succ i => simpa [rnAs, rnA.rnAs] using ih i
theorem rnAs_len (ρ : Nat → Nat) (l : List AV) : (rnAs ρ l).length = l.length := by
  induction l with
  | nil => rfl
  | cons x r ih => simpa [rnAs, rnA.rnAs] using ih

def rnB (ρ : Nat → Nat) : Blk → Blk
  | .bx cs => .bx (rnCs ρ cs)
  | .mi m v es => .mi (ρ m) v es
  | b => b
def rnH (ρ : Nat → Nat) : Hp → Hp
  | [] => []
  | b :: r => rnB ρ b :: rnH ρ r
theorem rnH_get (ρ : Nat → Nat) (h : Hp) (i : Nat) : (rnH ρ h)[i]? = (h[i]?).map (rnB ρ) := by
  induction h generalizing i with
  | nil => simp [rnH]
  | cons x r ih =>
    cases i with
    | zero => simp [rnH]
    | succ i => simpa [rnH] using ih i
theorem rnH_len (ρ : Nat → Nat) (h : Hp) : (rnH ρ h).length = h.length := by
  induction h with
  | nil => rfl
  | cons x r ih => simpa [rnH] using ih

theorem rnB_live (ρ : Nat → Nat) (b : Blk) : (rnB ρ b).live = b.live := by cases b <;> rfl
theorem rnB_off (ρ : Nat → Nat) (b : Blk) (v i j : Nat) : (rnB ρ b).off v i j = b.off v i j := by cases b <;> rfl
theorem rnB_allows (ρ : Nat → Nat) (b : Blk) (v : Nat) : (rnB ρ b).allows v = b.allows v := by cases b <;> rfl
theorem rnB_da {ρ : Nat → Nat} {b : Blk} {r : Bool} {v sz : Nat} {es : List (List D)} : rnB ρ b = .da r v sz es ↔ b = .da r v sz es := by cases b <;> simp [rnB]
theorem rnB_mp {ρ : Nat → Nat} {b : Blk} {v : Nat} {es : List (DV × DV)} : rnB ρ b = .mp v es ↔ b = .mp v es := by cases b <;> simp [rnB]

/-- the blocks of 'hc' lie among those of 'h' -/
structure Among (ρ : Nat → Nat) (ιc : Io) (hc : Hp) (ι : Io) (h : Hp) : Prop where
  blk : ∀ i k, hc[i]? = some k → h[ρ i]? = some (rnB ρ k)
  at' : ∀ i k, hc[i]? = some k → ι[ρ i]? = ιc[i]?

section
variable {G : Nat → Prop} {w : World} {ιc ι : Io} {hc h : Hp} {ρ : Nat → Nat}

theorem CR.rn (am : Among ρ ιc hc ι h) {v : Value} {c : CV} (hx : CR G w ιc hc v c) : CR G w ι h v (rnC ρ c) := by
  induction hx with
  | u => exact .u _
  | d _ _ hd => exact .d _ _ hd
  | cl _ _ _ _ hd hc => exact .cl _ _ _ _ hd hc
  | rp b o cs hG hc => exact .rp b o cs hG hc
  | mp _ l blk hb hk =>
    refine .mp _ _ _ (am.blk l blk hb) fun ver es he => ?_
    obtain ⟨b, o, h1, h2⟩ := hk ver es (rnB_mp.1 he)
    exact ⟨b, o, by rw [am.at' l blk hb]; exact h1, h2⟩
  | it _ l blk hb hk =>
    refine .it _ _ _ (am.blk l blk hb) fun m ver es he => ?_
    cases blk with
    | mi m0 v0 es0 =>
      simp only [rnB, Blk.mi.injEq] at he
      obtain ⟨b, o, h1, h2⟩ := hk m0 v0 es0 rfl
      exact ⟨b, o, by rw [am.at' l _ hb]; exact h1, h2⟩
    | _ => simp [rnB] at he
  | ptr _ l ver i j blk hb ha hk =>
    refine .ptr _ _ _ _ _ _ (am.blk l blk hb) (by rw [rnB_allows]; exact ha) fun k hk' => ?_
    rw [rnB_off] at hk'
    obtain ⟨b, o, h1, h2⟩ := hk k hk'
    exact ⟨b, o, by rw [am.at' l blk hb]; exact h1, h2⟩
  | arr _ l ver i j blk hb ha hk hk0 =>
    refine .arr _ _ _ _ _ _ (am.blk l blk hb) (by rw [rnB_allows]; exact ha) (fun sz es he => ?_) fun sz es he => hk0 sz es (rnB_da.1 he)
    obtain ⟨b, o, cap, h1, h2⟩ := hk sz es (rnB_da.1 he)
    exact ⟨b, o, cap, by rw [am.at' l blk hb]; exact h1, h2⟩
  | fn f vs caps hn hc ih =>
    refine .fn f vs _ (by rw [hn]; exact (rnCs_len ρ caps).symm) fun i v c hv hx => ?_
    rw [show rnC.rnCs ρ caps = rnCs ρ caps from rfl, rnCs_get, Option.map_eq_some_iff] at hx
    obtain ⟨c0, h1, rfl⟩ := hx
    exact ih i v c0 hv h1

theorem CR.unrn (am : Among ρ ιc hc ι h) {v : Value} {x : CV} (hx : CR G w ι h v x) : ∀ c, x = rnC ρ c → refsC hc.length c = true → CR G w ιc hc v c := by
  have at1 : ∀ l, l < hc.length → ∃ k, hc[l]? = some k := fun l hl => ⟨_, List.getElem?_eq_getElem hl⟩
  induction hx with
  | u v => intro c e hr; cases c <;> first | exact .u _ | (simp [rnC] at e)
  | d _ _ hd => intro c e hr; cases c <;> simp [rnC] at e; subst e; exact .d _ _ hd
  | cl _ _ _ _ hd hc => intro c e hr; cases c <;> simp [rnC] at e; obtain ⟨rfl, rfl, rfl⟩ := e; exact .cl _ _ _ _ hd hc
  | rp b o cs hG hc => intro c e hr; cases c <;> simp [rnC] at e; subst e; exact .rp b o _ hG hc
  | mp _ l blk hb hk =>
    intro c e hr
    cases c <;> simp [rnC] at e
    rename_i l0
    obtain ⟨k, hk0⟩ := at1 l0 (Nat.le_of_ble_eq_true hr)
    rw [e, am.blk l0 k hk0] at hb
    cases hb
    refine .mp _ _ k hk0 fun ver es he => ?_
    obtain ⟨b, o, h1, h2⟩ := hk ver es (rnB_mp.2 he)
    exact ⟨b, o, by rw [← am.at' l0 k hk0, ← e]; exact h1, h2⟩
  | it _ l blk hb hk =>
    intro c e hr
    cases c <;> simp [rnC] at e
    rename_i l0
    obtain ⟨k, hk0⟩ := at1 l0 (Nat.le_of_ble_eq_true hr)
    rw [e, am.blk l0 k hk0] at hb
    cases hb
    refine .it _ _ k hk0 fun m ver es he => ?_
    subst he
    obtain ⟨b, o, h1, h2⟩ := hk (ρ m) ver es rfl
    exact ⟨b, o, by rw [← am.at' l0 _ hk0, ← e]; exact h1, h2⟩
  | ptr _ l ver i j blk hb ha hk =>
    intro c e hr
    cases c <;> simp [rnC] at e
    rename_i l0 v0 i0 j0
    obtain ⟨e, rfl, rfl, rfl⟩ := e
    obtain ⟨k, hk0⟩ := at1 l0 (Nat.le_of_ble_eq_true hr)
    rw [e, am.blk l0 k hk0] at hb
    cases hb
    rw [rnB_allows] at ha
    refine .ptr _ _ _ _ _ k hk0 ha fun n hn => ?_
    obtain ⟨b, o, h1, h2⟩ := hk n (by rw [rnB_off]; exact hn)
    exact ⟨b, o, by rw [← am.at' l0 k hk0, ← e]; exact h1, h2⟩
  | arr _ l ver i j blk hb ha hk hk0 =>
    intro c e hr
    cases c <;> simp [rnC] at e
    rename_i l0 v0 i0 j0
    obtain ⟨e, rfl, rfl, rfl⟩ := e
    obtain ⟨k, hk1⟩ := at1 l0 (Nat.le_of_ble_eq_true hr)
    rw [e, am.blk l0 k hk1] at hb
    cases hb
    rw [rnB_allows] at ha
    refine .arr _ _ _ _ _ k hk1 ha (fun sz es he => ?_) fun sz es he => hk0 sz es (rnB_da.2 he)
    obtain ⟨b, o, cap, h1, h2⟩ := hk sz es (rnB_da.2 he)
    exact ⟨b, o, cap, by rw [← am.at' l0 k hk1, ← e]; exact h1, h2⟩
  | fn f vs caps hn hc ih =>
    intro c e hr
    cases c <;> simp [rnC] at e
    rename_i f0 caps0
    obtain ⟨rfl, e⟩ := e
    have e' : caps = rnCs ρ caps0 := e
    refine .fn _ vs caps0 (by rw [hn, e', rnCs_len]) fun i v c hv hx => ?_
    have hx' : caps[i]? = some (rnC ρ c) := by rw [e', rnCs_get, hx]; rfl
    exact ih i v _ hv hx' c rfl (refsCs_get hr i c hx)

theorem VR.rn (am : Among ρ ιc hc ι h) {v : Value} {x : AV} (hx : VR G w ιc hc v x) : VR G w ι h v (rnA ρ x) := by
  induction hx with
  | c _ _ h1 => exact .c _ _ (h1.rn am)
  | agg cs l hn h1 =>
    refine .agg cs _ (by rw [hn]; exact (rnCs_len ρ l).symm) fun i v x hv hx => ?_
    rw [rnCs_get, Option.map_eq_some_iff] at hx
    obtain ⟨c0, h2, rfl⟩ := hx
    exact (h1 i v c0 hv h2).rn am
  | tup cs l hn h1 ih =>
    refine .tup cs _ (by rw [hn]; exact (rnAs_len ρ l).symm) fun i v x hv hx => ?_
    rw [show rnA.rnAs ρ l = rnAs ρ l from rfl, rnAs_get, Option.map_eq_some_iff] at hx
    obtain ⟨c0, h2, rfl⟩ := hx
    exact ih i v c0 hv h2

theorem VR.unrn (am : Among ρ ιc hc ι h) {v : Value} {x : AV} (hx : VR G w ι h v (rnA ρ x)) (hr : refsA hc.length x = true) : VR G w ιc hc v x := by
  cases x with
  | c x =>
    cases hx with
    | c _ _ h1 => exact .c _ _ (h1.unrn am x rfl hr)
  | agg l =>
    cases hx with
    | agg cs _ hn h1 =>
      refine .agg cs l (by rw [hn, rnCs_len]) fun i v x hv hx => ?_
      exact (h1 i v (rnC ρ x) hv (by rw [rnCs_get, hx]; rfl)).unrn am x rfl (refsCs_get hr i x hx)
  | tup l =>
    cases l with
    | nil => cases hx with | tup cs _ hn h1 => exact .tup cs [] hn (by simp)
    | cons a r => simp [refsA] at hr

theorem BR.rn (am : Among ρ ιc hc ι h) {i : Nat} {k : Blk} (hk : hc[i]? = some k) (hx : BR G w ιc hc i k) : BR G w ι h (ρ i) (rnB ρ k) := by
  have ha := am.at' i k hk
  cases k with
  | dead => trivial
  | bx cs =>
    obtain ⟨b, o, c, t, fr, h1, h2, h3, h4, h5⟩ := hx
    refine ⟨b, o, c, t, fr, by rw [ha]; exact h1, h2, by rw [rnCs_len]; exact h3, h4, fun j x hx => ?_⟩
    rw [rnCs_get, Option.map_eq_some_iff] at hx
    obtain ⟨c0, g1, rfl⟩ := hx
    obtain ⟨v, g2, g3⟩ := h5 j c0 g1
    exact ⟨v, g2, g3.rn am⟩
  | da r v sz es =>
    cases r with
    | false => exact hx
    | true =>
      obtain ⟨b, o, c, t, fr, h0, h1, h2⟩ := hx
      exact ⟨b, o, c, t, fr, h0, by rw [ha]; exact h1, h2⟩
  | mp v es =>
    obtain ⟨b, o, ces, clock, h1, h2⟩ := hx
    exact ⟨b, o, ces, clock, by rw [ha]; exact h1, h2⟩
  | mi m v es =>
    obtain ⟨b, o, mb, seen, clock, blk, h1, h2, h3, h4, h5⟩ := hx
    refine ⟨b, o, mb, seen, clock, _, by rw [ha]; exact h1, h2, am.blk m blk h3, by rw [rnB_allows]; exact h4, fun all he => ?_⟩
    obtain ⟨o', ces, g1, g2⟩ := h5 all (rnB_mp.1 he)
    exact ⟨o', ces, by rw [am.at' m blk h3]; exact g1, g2⟩

theorem BR.unrn (am : Among ρ ιc hc ι h) {i : Nat} {k : Blk} (hk : hc[i]? = some k) (hr : refsB hc.length k = true) (hx : BR G w ι h (ρ i) (rnB ρ k)) : BR G w ιc hc i k := by
  have ha := am.at' i k hk
  cases k with
  | dead => trivial
  | bx cs =>
    obtain ⟨b, o, c, t, fr, h1, h2, h3, h4, h5⟩ := hx
    refine ⟨b, o, c, t, fr, by rw [← ha]; exact h1, h2, by rw [rnCs_len] at h3; exact h3, h4, fun j x hx => ?_⟩
    obtain ⟨v, g2, g3⟩ := h5 j (rnC ρ x) (by rw [rnCs_get, hx]; rfl)
    exact ⟨v, g2, g3.unrn am x rfl (refsCs_get hr j x hx)⟩
  | da r v sz es =>
    cases r with
    | false => exact hx
    | true =>
      obtain ⟨b, o, c, t, fr, h0, h1, h2⟩ := hx
      exact ⟨b, o, c, t, fr, h0, by rw [← ha]; exact h1, h2⟩
  | mp v es =>
    obtain ⟨b, o, ces, clock, h1, h2⟩ := hx
    exact ⟨b, o, ces, clock, by rw [← ha]; exact h1, h2⟩
  | mi m v es =>
    obtain ⟨b, o, mb, seen, clock, blk, h1, h2, h3, h4, h5⟩ := hx
    have hm : m < hc.length := Nat.le_of_ble_eq_true hr
    have hkm : hc[m]? = some (hc[m]'hm) := List.getElem?_eq_getElem hm
    rw [am.blk m _ hkm] at h3
    cases h3
    rw [rnB_allows] at h4
    refine ⟨b, o, mb, seen, clock, _, by rw [← ha]; exact h1, h2, hkm, h4, fun all he => ?_⟩
    obtain ⟨o', ces, g1, g2⟩ := h5 all (rnB_mp.2 he)
    exact ⟨o', ces, by rw [← am.at' m _ hkm]; exact g1, g2⟩

theorem owned_rn (am : Among ρ ιc hc ι h) {b : Nat} (ho : owned ιc hc b) : ∃ i o k, hc[i]? = some k ∧ k.live = true ∧ ιc[i]? = some (b, o) ∧ ι[ρ i]? = some (b, o) ∧ h[ρ i]? = some (rnB ρ k) := by
  obtain ⟨i, o, k, h1, h2, h3⟩ := ho
  exact ⟨i, o, k, h2, h3, h1, by rw [am.at' i k h2]; exact h1, am.blk i k h2⟩

theorem owned_up (am : Among ρ ιc hc ι h) {b : Nat} (ho : owned ιc hc b) : owned ι h b := by
  obtain ⟨i, o, k, h1, h2, h3, h4, h5⟩ := owned_rn am ho
  exact ⟨ρ i, o, _, h4, h5, by rw [rnB_live]; exact h2⟩

theorem HR.down (am : Among ρ ιc hc ι h) (hr : HR G ι h w) (hl : ιc.length = hc.length) (hinj : ∀ i j, i < hc.length → j < hc.length → ρ i = ρ j → i = j) (hcl : refsH hc.length hc = true) : HR G ιc hc w where
  len := hl
  inj l l' b o o' k k' h1 h2 h3 h4 h5 h6 := by
    refine hinj l l' (get_lt h3) (get_lt h4) ?_
    exact hr.inj (ρ l) (ρ l') b o o' _ _ (by rw [am.at' l k h3]; exact h1) (by rw [am.at' l' k' h4]; exact h2) (am.blk l k h3) (am.blk l' k' h4) (by rw [rnB_live]; exact h5) (by rw [rnB_live]; exact h6)
  g b hb := ⟨(hr.g b hb).1, fun ho => (hr.g b hb).2 (owned_up am ho)⟩
  blk l k hk := BR.unrn am hk (refsH_get hcl l k hk) (hr.blk _ _ (am.blk l k hk))

theorem Kept.rn {ι' ιc' : Io} {w' : World} {i l : Nat} {k k' : Blk} (hk : Kept ιc ιc' w w' i k k') (h1 : ι[l]? = ιc[i]?) (h2 : ι'[l]? = ιc'[i]?) : Kept ι ι' w w' l (rnB ρ k) (rnB ρ k') := by
  cases k' with
  | dead => cases k <;> trivial
  | bx cs' =>
    cases k with
    | bx cs => exact ⟨by rw [rnCs_len, rnCs_len]; exact hk.1, by rw [h1, h2]; exact hk.2⟩
    | _ => simp [Kept] at hk
  | da r' v' sz' es' =>
    cases k with
    | da r v sz es =>
      rcases hk with hk | ⟨a1, a2, a3, a4, a5, a6⟩
      · exact .inl hk
      · exact .inr ⟨a1, a2, a3, a4, by rw [h1, h2]; exact a5, fun hr b o hb => a6 hr b o (by rw [← h1]; exact hb)⟩
    | _ => simp [Kept] at hk
  | mp v' es' =>
    cases k with
    | mp v es =>
      obtain ⟨a1, a2⟩ := hk
      refine ⟨by rw [h1, h2]; exact a1, ?_⟩
      rcases a2 with a2 | ⟨a2, a3, a4⟩
      · exact .inl a2
      · exact .inr ⟨a2, a3, fun b o hb => a4 b o (by rw [← h1]; exact hb)⟩
    | _ => simp [Kept] at hk
  | mi m' v' es' =>
    cases k with
    | mi m v es =>
      obtain ⟨a1, a2, a3⟩ := hk
      exact ⟨by rw [a1], a2, by rw [h1, h2]; exact a3⟩
    | _ => simp [Kept] at hk
end

/-- some places of a list, set -/
def setAll {α : Type} : List α → List Nat → List α → List α
  | h, [], _ => h
  | h, _ :: _, [] => h
  | h, l :: σ, b :: bs => setAll (h.set l b) σ bs

theorem setAll_len {α : Type} : ∀ (σ : List Nat) (h bs : List α), (setAll h σ bs).length = h.length
  | [], _, _ => by simp only [setAll]
  | _ :: _, _, [] => by simp only [setAll]
  | l :: σ, h, b :: bs => by simp only [setAll]; rw [setAll_len σ]; simp

theorem setAll_other {α : Type} : ∀ (σ : List Nat) (h bs : List α) (l : Nat), l ∉ σ → (setAll h σ bs)[l]? = h[l]?
  | [], _, _, _, _ => by simp only [setAll]
  | _ :: _, _, [], _, _ => by simp only [setAll]
  | l :: σ, h, b :: bs, l', hn => by
    simp only [setAll]
    rw [setAll_other σ _ bs l' (fun hm => hn (List.mem_cons_of_mem _ hm)), List.getElem?_set_ne (fun (e : l = l') => hn (by rw [e]; exact List.mem_cons_self ..))]

theorem setAll_at {α : Type} : ∀ (σ : List Nat) (h bs : List α) (i l : Nat) (b : α), σ.Nodup → (∀ l ∈ σ, l < h.length) → σ[i]? = some l → bs[i]? = some b → (setAll h σ bs)[l]? = some b
  | [], _, _, _, _, _, _, _, h1, _ => by simp at h1
  | _ :: _, _, [], _, _, _, _, _, _, h2 => by simp at h2
  | l0 :: σ, h, b0 :: bs, i, l, b, hn, hl, h1, h2 => by
    simp only [setAll]
    cases i with
    | zero =>
      simp at h1 h2
      subst h1 h2
      rw [setAll_other σ _ bs l0 (List.nodup_cons.1 hn).1, List.getElem?_set_self (hl l0 (List.mem_cons_self ..))]
    | succ i =>
      exact setAll_at σ _ bs i l b (List.nodup_cons.1 hn).2 (fun x hx => by simpa using hl x (List.mem_cons_of_mem _ hx)) (by simpa using h1) (by simpa using h2)

/-- the numbers of a callee's blocks at its caller: those it was handed, then new ones -/
def rho : List Nat → Nat → Nat → Nat
  | [], n, i => n + i
  | l :: _, _, 0 => l
  | _ :: σ, n, i + 1 => rho σ n i

theorem rho_old : ∀ (σ : List Nat) (n i : Nat), i < σ.length → σ[i]? = some (rho σ n i)
  | [], _, _, h => by simp at h
  | l :: σ, n, 0, _ => rfl
  | l :: σ, n, i + 1, h => by simpa [rho] using rho_old σ n i (by simpa using h)
theorem rho_new : ∀ (σ : List Nat) (n i : Nat), σ.length ≤ i → rho σ n i = n + (i - σ.length)
  | [], _, _, _ => rfl
  | l :: σ, n, 0, h => by simp at h
  | l :: σ, n, i + 1, h => by simp only [rho, List.length_cons]; rw [rho_new σ n i (by simpa using h)]; omega

/-- the caller's heap behind the call -/
def backH (h : Hp) (σ : List Nat) (hc : Hp) : Hp := setAll h σ (rnH (rho σ h.length) hc) ++ rnH (rho σ h.length) (hc.drop σ.length)
def backI (ι : Io) (σ : List Nat) (ιc : Io) : Io := setAll ι σ ιc ++ ιc.drop σ.length

/-- A CONTRACT OVER A FEW BLOCKS, USED WHERE THESE ARE SOME OF MANY. -/
theorem FnS.frame {P : Program} {f : Nat} {args : List AV} {hc : Hp} {R : AV → Hp → Prop} (hf : FnS P f args hc R) (σ : List Nat) (h : Hp) (hlen : σ.length = hc.length) (hnd : σ.Nodup)
    (hh : ∀ i k, hc[i]? = some k → h[rho σ h.length i]? = some (rnB (rho σ h.length) k)) (hcl : refsH hc.length hc = true) (hca : ∀ x ∈ args, refsA hc.length x = true) :
    FnS P f (rnAs (rho σ h.length) args) h fun r' h' => ∃ r hc', R r hc' ∧ r' = rnA (rho σ h.length) r ∧ h' = backH h σ hc' := by
  refine ⟨fun G ι w vs hr hv => ?_⟩
  have hlt : ∀ l ∈ σ, l < h.length := by
    intro l hl
    obtain ⟨i, hi, rfl⟩ := List.getElem_of_mem hl
    have h1 := rho_old σ h.length i hi
    rw [List.getElem?_eq_getElem hi] at h1
    have h2 := hh i _ (List.getElem?_eq_getElem (by omega))
    rw [← Option.some.inj h1] at h2
    exact get_lt h2
  have hιl : ∀ l ∈ σ, l < ι.length := fun l hl => by rw [hr.len]; exact hlt l hl
  generalize hρ : rho σ h.length = ρ at *
  have rold : ∀ i, i < σ.length → σ[i]? = some (ρ i) := fun i hi => by rw [← hρ]; exact rho_old σ _ i hi
  have rnew : ∀ i, σ.length ≤ i → ρ i = h.length + (i - σ.length) := fun i hi => by rw [← hρ]; exact rho_new σ _ i hi
  have rmem : ∀ i, i < σ.length → ρ i ∈ σ := fun i hi => List.mem_of_getElem? (rold i hi)
  have rinj : ∀ i j, ρ i = ρ j → i = j := by
    intro i j e
    rcases Nat.lt_or_ge i σ.length with hi | hi <;> rcases Nat.lt_or_ge j σ.length with hj | hj
    · have h1 := rold i hi
      have h2 := rold j hj
      rw [e, ← h2] at h1
      exact (List.getElem?_inj hi hnd).1 h1
    · have := hlt _ (rmem i hi); have := rnew j hj; omega
    · have := hlt _ (rmem j hj); have := rnew i hi; omega
    · have := rnew i hi; have := rnew j hj; omega
  let ιc : Io := σ.map fun l => (ι[l]?).getD (0, 0)
  have hιc : ∀ i, i < σ.length → ιc[i]? = ι[ρ i]? := by
    intro i hi
    simp only [ιc, List.getElem?_map, rold i hi, Option.map_some]
    rw [List.getElem?_eq_getElem (hιl _ (rmem i hi))]; rfl
  have am : Among ρ ιc hc ι h := ⟨hh, fun i k hk => (hιc i (by rw [hlen]; exact get_lt hk)).symm⟩
  have hrc : HR G ιc hc w := HR.down am hr (by simp [ιc, hlen]) (fun i j _ _ e => rinj i j e) hcl
  have hvc : VRs G w ιc hc vs args := by
    refine ⟨by rw [hv.1, rnAs_len], fun i v x h1 h2 => ?_⟩
    exact (hv.2 i v (rnA ρ x) h1 (by rw [rnAs_get, h2]; rfl)).unrn am (hca x (List.mem_of_getElem? h2))
  refine (hf.out G ιc w vs hrc hvc).mono fun e w2 ⟨v, r, G2, ι2, hc2, he, hR, hr2, hvr, hx⟩ => ?_
  have hl2 : hc.length ≤ hc2.length := by
    rcases Nat.lt_or_ge hc2.length hc.length with hb | hb
    · obtain ⟨k', h1, _⟩ := hx.keep hc2.length _ (List.getElem?_eq_getElem hb)
      have := get_lt h1; omega
    · exact hb
  have hl2' : ι2.length = hc2.length := hr2.len
  have hset : (setAll h σ (rnH ρ hc2)).length = h.length := setAll_len σ h _
  have hseti : (setAll ι σ ι2).length = h.length := by rw [setAll_len, hr.len]
  have hbh : backH h σ hc2 = setAll h σ (rnH ρ hc2) ++ rnH ρ (hc2.drop σ.length) := by simp only [backH, hρ]
  -- the callee's blocks, at the caller
  have am2 : Among ρ ι2 hc2 (backI ι σ ι2) (backH h σ hc2) := by
    rw [hbh]
    constructor
    · intro i k hk
      rcases Nat.lt_or_ge i σ.length with hi | hi
      · rw [List.getElem?_append_left (by rw [hset]; exact hlt _ (rmem i hi))]
        exact setAll_at σ h _ i _ _ hnd hlt (rold i hi) (by rw [rnH_get, hk]; rfl)
      · rw [rnew i hi, List.getElem?_append_right (by omega), hset, rnH_get, List.getElem?_drop]
        rw [show σ.length + (h.length + (i - σ.length) - h.length) = i by omega, hk]; rfl
    · intro i k hk
      unfold backI
      have hi2 : ι2[i]? = some (ι2[i]'(by rw [hl2']; exact get_lt hk)) := List.getElem?_eq_getElem _
      rcases Nat.lt_or_ge i σ.length with hi | hi
      · rw [List.getElem?_append_left (by rw [hseti]; exact hlt _ (rmem i hi)), hi2]
        exact setAll_at σ ι _ i _ _ hnd hιl (rold i hi) hi2
      · rw [rnew i hi, List.getElem?_append_right (by omega), hseti, List.getElem?_drop]
        rw [show σ.length + (h.length + (i - σ.length) - h.length) = i by omega]
  -- each of the caller's blocks is one of the callee's, or as it was
  have part : ∀ l k', (backH h σ hc2)[l]? = some k' → (∃ i k, hc2[i]? = some k ∧ l = ρ i ∧ k' = rnB ρ k) ∨ (h[l]? = some k' ∧ l ∉ σ ∧ (backI ι σ ι2)[l]? = ι[l]?) := by
    intro l k' hk'
    by_cases hm : l ∈ σ
    · obtain ⟨i, hi, rfl⟩ := List.getElem_of_mem hm
      have e : σ[i] = ρ i := by have := rold i hi; rw [List.getElem?_eq_getElem hi] at this; exact Option.some.inj this
      have hki : hc2[i]? = some (hc2[i]'(by omega)) := List.getElem?_eq_getElem _
      have := am2.blk i _ hki
      rw [e, this] at hk'
      exact .inl ⟨i, _, hki, e, (Option.some.inj hk').symm⟩
    · rcases Nat.lt_or_ge l h.length with hl | hl
      · rw [hbh, List.getElem?_append_left (by omega), setAll_other σ h _ l hm] at hk'
        exact .inr ⟨hk', hm, by unfold backI; rw [List.getElem?_append_left (by omega), setAll_other σ ι _ l hm]⟩
      · rw [hbh, List.getElem?_append_right (by omega), hset, rnH_get, List.getElem?_drop, Option.map_eq_some_iff] at hk'
        obtain ⟨k, h1, rfl⟩ := hk'
        exact .inl ⟨_, k, h1, by rw [rnew _ (by omega)]; omega, rfl⟩
  have other : ∀ l o b k, h[l]? = some k → l ∉ σ → ι[l]? = some (b, o) → k.live = true → b < w.heap.size ∧ ¬ owned ιc hc b := by
    intro l o b k h1 h2 h3 h4
    refine ⟨owned_lt hr ⟨l, o, k, h3, h1, h4⟩, fun ho => ?_⟩
    obtain ⟨i, o', kc, g1, g2, g3, g4, g5⟩ := owned_rn am ho
    have := hr.inj l (ρ i) b o o' k _ h3 g4 h1 g5 h4 (by rw [rnB_live]; exact g2)
    exact h2 (this ▸ rmem i (by rw [hlen]; exact get_lt g1))
  have same : ∀ l o b k, h[l]? = some k → l ∉ σ → ι[l]? = some (b, o) → k.live = true → w2.heap[b]? = w.heap[b]? := by
    intro l o b k h1 h2 h3 h4
    have := other l o b k h1 h2 h3 h4
    exact hx.frame b this.1 this.2
  have hext : Ext G ι h w G2 (backI ι σ ι2) (backH h σ hc2) w2 :=
    { size := hx.size
      quiet := hx.quiet
      frame := fun b hb ho => hx.frame b hb fun ho' => ho (owned_up am ho')
      gmono := hx.gmono
      gnew := fun b hb => by
        rcases hx.gnew b hb with h1 | h1 | h1
        · exact .inl h1
        · exact .inr (.inl h1)
        · exact .inr (.inr (owned_up am h1))
      onew := fun b ⟨l, o, k, h1, h2, h3⟩ => by
        rcases part l k h2 with ⟨i, kc, g1, rfl, rfl⟩ | ⟨g1, g2, g3⟩
        · rw [am2.at' i kc g1] at h1
          rw [rnB_live] at h3
          rcases hx.onew b ⟨i, o, kc, h1, g1, h3⟩ with h4 | h4
          · exact .inl (owned_up am h4)
          · exact .inr h4
        · rw [g3] at h1
          exact .inl ⟨l, o, k, h1, g1, h3⟩
      keep := fun l k hk => by
        by_cases hm : l ∈ σ
        · obtain ⟨i, hi, rfl⟩ := List.getElem_of_mem hm
          have e : σ[i] = ρ i := by have := rold i hi; rw [List.getElem?_eq_getElem hi] at this; exact Option.some.inj this
          have hki : hc[i]? = some (hc[i]'(by omega)) := List.getElem?_eq_getElem _
          rw [e, hh i _ hki] at hk
          cases hk
          obtain ⟨k', g1, g2⟩ := hx.keep i _ hki
          exact ⟨rnB ρ k', by rw [e]; exact am2.blk i k' g1, by rw [e]; exact g2.rn (am.at' i _ hki) (am2.at' i k' g1)⟩
        · have hl : l < h.length := get_lt hk
          have e1 : (backH h σ hc2)[l]? = some k := by rw [hbh, List.getElem?_append_left (by omega), setAll_other σ h _ l hm]; exact hk
          have e2 : (backI ι σ ι2)[l]? = ι[l]? := by unfold backI; rw [List.getElem?_append_left (by omega), setAll_other σ ι _ l hm]
          refine ⟨k, e1, ?_⟩
          cases k with
          | dead => trivial
          | bx cs => exact ⟨rfl, e2⟩
          | mi => exact ⟨rfl, rfl, e2⟩
          | mp v es => exact ⟨e2, .inr ⟨rfl, rfl, fun b o hb => same l o b _ hk hm hb rfl⟩⟩
          | da rl v sz es => exact .inr ⟨rfl, rfl, rfl, rfl, e2, fun hrl b o hb => bsize_same (same l o b _ hk hm hb hrl)⟩ }
  refine ⟨v, rnA ρ r, G2, backI ι σ ι2, backH h σ hc2, he, ⟨r, hc2, hR, rfl, rfl⟩, ?_, hvr.rn am2, hext⟩
  exact
    { len := by
        rw [hbh]; unfold backI
        simp only [List.length_append, hset, hseti, rnH_len, List.length_drop, hl2']
      inj := by
        intro l l' b o o' k k' h1 h2 h3 h4 h5 h6
        rcases part l k h3 with ⟨i, kc, g1, rfl, rfl⟩ | ⟨g1, g2, g3⟩ <;> rcases part l' k' h4 with ⟨i', kc', q1, rfl, rfl⟩ | ⟨q1, q2, q3⟩
        · rw [am2.at' i kc g1] at h1
          rw [am2.at' i' kc' q1] at h2
          rw [rnB_live] at h5 h6
          rw [hr2.inj i i' b o o' kc kc' h1 h2 g1 q1 h5 h6]
        · exfalso
          rw [am2.at' i kc g1] at h1
          rw [q3] at h2
          rw [rnB_live] at h5
          have ot := other l' o' b k' q1 q2 h2 h6
          rcases hx.onew b ⟨i, o, kc, h1, g1, h5⟩ with h7 | h7
          · exact ot.2 h7
          · omega
        · exfalso
          rw [am2.at' i' kc' q1] at h2
          rw [g3] at h1
          rw [rnB_live] at h6
          have ot := other l o b k g1 g2 h1 h5
          rcases hx.onew b ⟨i', o', kc', h2, q1, h6⟩ with h7 | h7
          · exact ot.2 h7
          · omega
        · rw [g3] at h1; rw [q3] at h2
          exact hr.inj l l' b o o' k k' h1 h2 g1 q1 h5 h6
      g := by
        intro b hb
        refine ⟨(hr2.g b hb).1, fun ⟨l, o, k, h1, h2, h3⟩ => ?_⟩
        rcases part l k h2 with ⟨i, kc, g1, rfl, rfl⟩ | ⟨g1, g2, g3⟩
        · rw [am2.at' i kc g1] at h1
          rw [rnB_live] at h3
          exact (hr2.g b hb).2 ⟨i, o, kc, h1, g1, h3⟩
        · rw [g3] at h1
          have ot := other l o b k g1 g2 h1 h3
          rcases hx.gnew b hb with h4 | h4 | h4
          · exact (hr.g b h4).2 ⟨l, o, k, h1, g1, h3⟩
          · omega
          · exact ot.2 h4
      blk := by
        intro l k hk
        rcases part l k hk with ⟨i, kc, g1, rfl, rfl⟩ | ⟨g1, g2, g3⟩
        · exact BR.rn am2 g1 (hr2.blk i kc g1)
        · cases hlv : k.live with
          | false => exact BR.of_dead (hr.blk l k g1) hlv
          | true => exact BR.ext hext hr g1 g3 fun b o hb => same l o b k g1 g2 hb hlv }

end Go.Ab
