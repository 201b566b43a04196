/-
  Merged texts, part m.
-/
import Derived.Test.YtllgchplnhaplaaZl
/-
  The engine: a contract over a few blocks, used where these blocks are some of many.
-/
namespace Go.Ab
section
variable {G : Nat → Prop} {w : World} {ιc ι : Io} {hc h : Hp} {ρ : Nat → Nat}
theorem Kept.rn {ι' ιc' : Io} {w' : World} {i l : Nat} {k k' : Blk} (hk : Kept ιc ιc' w w' i k k') (h1 : ι[l]? = ιc[i]?) (h2 : ι'[l]? = ιc'[i]?) : Kept ι ι' w w' l (rnB ρ k) (rnB ρ k') := by
 cases k' with
 | dead => cases k <;> trivial
 | am m' =>
  cases k with
  | am m => trivial
  | _ => simp [Kept] at hk
 | bx cs' =>
  cases k with
  | bx cs => exact ⟨by rw [rnCs_len, rnCs_len]; exact hk.1, by rw [h1, h2]; exact hk.2⟩
  | _ => simp [Kept] at hk
 | da r' v' sz' es' =>
  cases k with
  | da r v sz es =>
   rcases hk with hk | ⟨a1, a2, a3, a4, a5, a6⟩
   ·exact .inl hk
   ·exact .inr ⟨a1, a2, a3, a4, by rw [h1, h2]; exact a5, fun hr b o hb => a6 hr b o (by rw [← h1]; exact hb)⟩
  | _ => simp [Kept] at hk
 | mp v' es' =>
  cases k with
  | mp v es =>
   obtain ⟨a1, a2⟩ := hk
   refine ⟨by rw [h1, h2]; exact a1, ?_⟩
   rcases a2 with a2 | ⟨a2, a3, a4⟩
   ·exact .inl a2
   ·exact .inr ⟨a2, a3, fun b o hb => a4 b o (by rw [← h1]; exact hb)⟩
  | _ => simp [Kept] at hk
 | mi m' v' es' =>
  cases k with
  | mi m v es =>
   obtain ⟨a1, a2, a3⟩ := hk
   exact ⟨by rw [a1], a2, by rw [h1, h2]; exact a3⟩
  | _ => simp [Kept] at hk
end
def setAll {α : Type} : List α → List Nat → List α → List α
 | h, [], _ => h
 | h, _ :: _, [] => h
 | h, l :: σ, b :: bs => setAll (h.set l b) σ bs
theorem setAll_len {α : Type} : ∀ (σ : List Nat) (h bs : List α), (setAll h σ bs).length = h.length
 | [], _, _ => by simp only [setAll]
 | _ :: _, _, [] => by simp only [setAll]
 | l :: σ, h, b :: bs => by simp only [setAll]; rw [setAll_len σ]; simp
theorem setAll_other {α : Type} : ∀ (σ : List Nat) (h bs : List α) (l : Nat), l ∉ σ → (setAll h σ bs)[l]? = h[l]?
 | [], _, _, _, _ => by simp only [setAll]
 | _ :: _, _, [], _, _ => by simp only [setAll]
 |l :: σ, h, b :: bs, l', hn => by
  simp only [setAll]
  rw [setAll_other σ _ bs l' (fun hm => hn (List.mem_cons_of_mem _ hm)), List.getElem?_set_ne (fun (e : l = l') => hn (by rw [e]; exact List.mem_cons_self ..))]
theorem setAll_at {α : Type} : ∀ (σ : List Nat) (h bs : List α) (i l : Nat) (b : α), σ.Nodup → (∀ l ∈ σ, l < h.length) → σ[i]? = some l → bs[i]? = some b → (setAll h σ bs)[l]? = some b
 | [], _, _, _, _, _, _, _, h1, _ => by simp at h1
 | _ :: _, _, [], _, _, _, _, _, _, h2 => by simp at h2
 |l0 :: σ, h, b0 :: bs, i, l, b, hn, hl, h1, h2 => by
  simp only [setAll]
  cases i with
  | zero =>
   simp at h1 h2
   subst h1 h2
   rw [setAll_other σ _ bs l0 (List.nodup_cons.1 hn).1, List.getElem?_set_self (hl l0 (List.mem_cons_self ..))]
  | succ i =>
   exact setAll_at σ _ bs i l b (List.nodup_cons.1 hn).2 (fun x hx => by simpa using hl x (List.mem_cons_of_mem _ hx)) (by simpa using h1) (by simpa using h2)
def rho : List Nat → Nat → Nat → Nat
 | [], n, i => n + i
 | l :: _, _, 0 => l
 | _ :: σ, n, i + 1 => rho σ n i
theorem rho_old : ∀ (σ : List Nat) (n i : Nat), i < σ.length → σ[i]? = some (rho σ n i)
 | [], _, _, h => by simp at h
 | l :: σ, n, 0, _ => rfl
 | l :: σ, n, i + 1, h => by simpa [rho] using rho_old σ n i (by simpa using h)
theorem rho_new : ∀ (σ : List Nat) (n i : Nat), σ.length ≤ i → rho σ n i = n + (i - σ.length)
 | [], _, _, _ => rfl
 | l :: σ, n, 0, h => by simp at h
 | l :: σ, n, i + 1, h => by simp only [rho, List.length_cons]; rw [rho_new σ n i (by simpa using h)]; omega
def backH (h : Hp) (σ : List Nat) (hc : Hp) : Hp := setAll h σ (rnH (rho σ h.length) hc) ++ rnH (rho σ h.length) (hc.drop σ.length)
def backI (ι : Io) (σ : List Nat) (ιc : Io) : Io := setAll ι σ ιc ++ ιc.drop σ.length
theorem FnS.frame {P : Program} {f : Nat} {args : List AV} {hc : Hp} {R : AV → Hp → Prop} (hf : FnS P f args hc R) (σ : List Nat) (h : Hp) (hlen : σ.length = hc.length) (hnd : σ.Nodup)
    (hh : ∀ i k, hc[i]? = some k → h[rho σ h.length i]? = some (rnB (rho σ h.length) k)) (hcl : refsH hc.length hc = true) (hca : ∀ x ∈ args, refsA hc.length x = true) :
    FnS P f (rnAs (rho σ h.length) args) h fun r' h' => ∃ r hc', R r hc' ∧ r' = rnA (rho σ h.length) r ∧ h' = backH h σ hc' := by
  refine ⟨fun G ι w vs hr hv => ?_⟩
  have hlt : ∀ l ∈ σ, l < h.length := by
    intro l hl
    obtain ⟨i, hi, rfl⟩ := List.getElem_of_mem hl
    have h1 := rho_old σ h.length i hi
    rw [lgE hi] at h1
    have h2 := hh i _ (lgE (by omega))
    rw [← osj h1] at h2
    exact get_lt h2
  have hιl : ∀ l ∈ σ, l < ι.length := fun l hl => by rw [hr.len]; exact hlt l hl
  generalize hρ : rho σ h.length = ρ at *
  have rold : ∀ i, i < σ.length → σ[i]? = some (ρ i) := fun i hi => by rw [← hρ]; exact rho_old σ _ i hi
  have rnew : ∀ i, σ.length ≤ i → ρ i = h.length + (i - σ.length) := fun i hi => by rw [← hρ]; exact rho_new σ _ i hi
  have rmem : ∀ i, i < σ.length → ρ i ∈ σ := fun i hi => List.mem_of_getElem? (rold i hi)
  have rinj : ∀ i j, ρ i = ρ j → i = j := by
    intro i j e
    rcases Nat.lt_or_ge i σ.length with hi | hi <;> rcases Nat.lt_or_ge j σ.length with hj | hj
    · have h1 := rold i hi
      have h2 := rold j hj
      rw [e, ← h2] at h1
      exact (List.getElem?_inj hi hnd).1 h1
    · have := hlt _ (rmem i hi); have := rnew j hj; omega
    · have := hlt _ (rmem j hj); have := rnew i hi; omega
    · have := rnew i hi; have := rnew j hj; omega
  let ιc : Io := σ.map fun l => (ι[l]?).getD (0, 0)
  have hιc : ∀ i, i < σ.length → ιc[i]? = ι[ρ i]? := by
    intro i hi
    simp only [ιc, List.getElem?_map, rold i hi, Option.map_some]
    rw [lgE (hιl _ (rmem i hi))]; rfl
  have am : Among ρ ιc hc ι h := ⟨hh, fun i k hk => (hιc i (by rw [hlen]; exact get_lt hk)).symm⟩
  have hrc : HR G ιc hc w := HR.down am hr (by simp [ιc, hlen]) (fun i j _ _ e => rinj i j e) hcl
  have hvc : VRs G w ιc hc vs args := by
    refine ⟨by rw [hv.1, rnAs_len], fun i v x h1 h2 => ?_⟩
    exact (hv.2 i v (rnA ρ x) h1 (by rw [rnAs_get, h2]; rfl)).unrn am (hca x (List.mem_of_getElem? h2))
  refine (hf.out G ιc w vs hrc hvc).mono fun e w2 ⟨v, r, G2, ι2, hc2, he, hR, hr2, hvr, hx⟩ => ?_
  have hl2 : hc.length ≤ hc2.length := by
    rcases Nat.lt_or_ge hc2.length hc.length with hb | hb
    · obtain ⟨k', h1, _⟩ := hx.keep hc2.length _ (lgE hb)
      have := get_lt h1; omega
    · exact hb
  have hl2' : ι2.length = hc2.length := hr2.len
  have hset : (setAll h σ (rnH ρ hc2)).length = h.length := setAll_len σ h _
  have hseti : (setAll ι σ ι2).length = h.length := by rw [setAll_len, hr.len]
  have hbh : backH h σ hc2 = setAll h σ (rnH ρ hc2) ++ rnH ρ (hc2.drop σ.length) := by simp only [backH, hρ]
  -- the callee's blocks, at the caller
  have am2 : Among ρ ι2 hc2 (backI ι σ ι2) (backH h σ hc2) := by
    rw [hbh]
    constructor
    · intro i k hk
      rcases Nat.lt_or_ge i σ.length with hi | hi
      · rw [List.getElem?_append_left (by rw [hset]; exact hlt _ (rmem i hi))]
        exact setAll_at σ h _ i _ _ hnd hlt (rold i hi) (by rw [rnH_get, hk]; rfl)
      · rw [rnew i hi, List.getElem?_append_right (by omega), hset, rnH_get, List.getElem?_drop]
        rw [show σ.length + (h.length + (i - σ.length) - h.length) = i by omega, hk]; rfl
    · intro i k hk
      unfold backI
      have hi2 : ι2[i]? = some (ι2[i]'(by rw [hl2']; exact get_lt hk)) := lgE _
      rcases Nat.lt_or_ge i σ.length with hi | hi
      · rw [List.getElem?_append_left (by rw [hseti]; exact hlt _ (rmem i hi)), hi2]
        exact setAll_at σ ι _ i _ _ hnd hιl (rold i hi) hi2
      · rw [rnew i hi, List.getElem?_append_right (by omega), hseti, List.getElem?_drop]
        rw [show σ.length + (h.length + (i - σ.length) - h.length) = i by omega]
  -- each of the caller's blocks is one of the callee's, or as it was
  have part : ∀ l k', (backH h σ hc2)[l]? = some k' → (∃ i k, hc2[i]? = some k ∧ l = ρ i ∧ k' = rnB ρ k) ∨ (h[l]? = some k' ∧ l ∉ σ ∧ (backI ι σ ι2)[l]? = ι[l]?) := by
    intro l k' hk'
    by_cases hm : l ∈ σ
    · obtain ⟨i, hi, rfl⟩ := List.getElem_of_mem hm
      have e : σ[i] = ρ i := by have := rold i hi; rw [lgE hi] at this; exact osj this
      have hki : hc2[i]? = some (hc2[i]'(by omega)) := lgE _
      have := am2.blk i _ hki
      rw [e, this] at hk'
      exact .inl ⟨i, _, hki, e, (osj hk').symm⟩
    · rcases Nat.lt_or_ge l h.length with hl | hl
      · rw [hbh, List.getElem?_append_left (by omega), setAll_other σ h _ l hm] at hk'
        exact .inr ⟨hk', hm, by unfold backI; rw [List.getElem?_append_left (by omega), setAll_other σ ι _ l hm]⟩
      · rw [hbh, List.getElem?_append_right (by omega), hset, rnH_get, List.getElem?_drop, omi] at hk'
        obtain ⟨k, h1, rfl⟩ := hk'
        exact .inl ⟨_, k, h1, by rw [rnew _ (by omega)]; omega, rfl⟩
  have other : ∀ l b k, h[l]? = some k → l ∉ σ → own1 ι l k b → b < w.heap.size ∧ ¬ owned ιc hc b := by
    intro l b k h1 h2 h3
    refine ⟨owned_lt hr ⟨l, k, h1, h3⟩, fun ho => ?_⟩
    obtain ⟨i, kc, g1, g2, g3, g4⟩ := owned_rn am ho
    have := hr.own l (ρ i) b k _ h1 g4 h3 g3
    exact h2 (this ▸ rmem i (by rw [hlen]; exact get_lt g1))
  have same : ∀ l b k, h[l]? = some k → l ∉ σ → own1 ι l k b → w2.heap[b]? = w.heap[b]? := by
    intro l b k h1 h2 h3
    have := other l b k h1 h2 h3
    exact hx.frame b this.1 this.2
  have hext : Ext G ι h w G2 (backI ι σ ι2) (backH h σ hc2) w2 :=
    { size := hx.size
      quiet := hx.quiet
      frame := fun b hb ho => hx.frame b hb fun ho' => ho (owned_up am ho')
      gmono := hx.gmono
      gnew := fun b hb => by
        rcases hx.gnew b hb with h1 | h1 | h1
        · exact .inl h1
        · exact .inr (.inl h1)
        · exact .inr (.inr (owned_up am h1))
      onew := fun b ⟨l, k, h2, h3⟩ => by
        rcases part l k h2 with ⟨i, kc, g1, rfl, rfl⟩ | ⟨g1, g2, g3⟩
        · rcases hx.onew b ⟨i, kc, g1, (own1_rn (am2.at' i kc g1)).1 h3⟩ with h4 | h4
          · exact .inl (owned_up am h4)
          · exact .inr h4
        · exact .inl ⟨l, k, g1, own1_io h3 fun _ => g3.symm⟩
      keep := fun l k hk => by
        by_cases hm : l ∈ σ
        · obtain ⟨i, hi, rfl⟩ := List.getElem_of_mem hm
          have e : σ[i] = ρ i := by have := rold i hi; rw [lgE hi] at this; exact osj this
          have hki : hc[i]? = some (hc[i]'(by omega)) := lgE _
          rw [e, hh i _ hki] at hk
          cases hk
          obtain ⟨k', g1, g2⟩ := hx.keep i _ hki
          exact ⟨rnB ρ k', by rw [e]; exact am2.blk i k' g1, by rw [e]; exact g2.rn (am.at' i _ hki) (am2.at' i k' g1)⟩
        · have hl : l < h.length := get_lt hk
          have e1 : (backH h σ hc2)[l]? = some k := by rw [hbh, List.getElem?_append_left (by omega), setAll_other σ h _ l hm]; exact hk
          have e2 : (backI ι σ ι2)[l]? = ι[l]? := by unfold backI; rw [List.getElem?_append_left (by omega), setAll_other σ ι _ l hm]
          exact ⟨k, e1, Kept.frame e2 fun b hb => same l b k hk hm hb⟩ }
  refine ⟨v, rnA ρ r, G2, backI ι σ ι2, backH h σ hc2, he, ⟨r, hc2, hR, rfl, rfl⟩, ?_, hvr.rn am2, hext⟩
  exact
    { len := by
        rw [hbh]; unfold backI
        simp only [List.length_append, hset, hseti, rnH_len, List.length_drop, hl2']
      own := by
        intro l l' b k k' h3 h4 h5 h6
        rcases part l k h3 with ⟨i, kc, g1, rfl, rfl⟩ | ⟨g1, g2, g3⟩ <;> rcases part l' k' h4 with ⟨i', kc', q1, rfl, rfl⟩ | ⟨q1, q2, q3⟩
        · rw [hr2.own i i' b kc kc' g1 q1 ((own1_rn (am2.at' i kc g1)).1 h5) ((own1_rn (am2.at' i' kc' q1)).1 h6)]
        · exfalso
          have ot := other l' b k' q1 q2 (own1_io h6 fun _ => q3.symm)
          rcases hx.onew b ⟨i, kc, g1, (own1_rn (am2.at' i kc g1)).1 h5⟩ with h7 | h7
          · exact ot.2 h7
          · omega
        · exfalso
          have ot := other l b k g1 g2 (own1_io h5 fun _ => g3.symm)
          rcases hx.onew b ⟨i', kc', q1, (own1_rn (am2.at' i' kc' q1)).1 h6⟩ with h7 | h7
          · exact ot.2 h7
          · omega
        · exact hr.own l l' b k k' g1 q1 (own1_io h5 fun _ => g3.symm) (own1_io h6 fun _ => q3.symm)
      g := by
        intro b hb
        refine ⟨(hr2.g b hb).1, fun ⟨l, k, h2, h3⟩ => ?_⟩
        rcases part l k h2 with ⟨i, kc, g1, rfl, rfl⟩ | ⟨g1, g2, g3⟩
        · exact (hr2.g b hb).2 ⟨i, kc, g1, (own1_rn (am2.at' i kc g1)).1 h3⟩
        · have h3' : own1 ι l k b := own1_io h3 fun _ => g3.symm
          have ot := other l b k g1 g2 h3'
          rcases hx.gnew b hb with h4 | h4 | h4
          · exact (hr.g b h4).2 ⟨l, k, g1, h3'⟩
          · omega
          · exact ot.2 h4
      blk := by
        intro l k hk
        rcases part l k hk with ⟨i, kc, g1, rfl, rfl⟩ | ⟨g1, g2, g3⟩
        · exact BR.rn am2 g1 (hr2.blk i kc g1)
        · exact BR.ext hext hr g1 g3 fun b hb => same l b k g1 g2 hb }
end Go.Ab

/-
  The engine: functions that work in an arena of their own; at their end it is given up, and what leads into it is plain data.
-/
namespace Go.Ab
inductive ThD (m : Ar) : D → D → Prop
 | same (x : D) : ThD m x x
 | fg (x : D) : ThD m x (fgD x)
 | row (b o sz n cap N : Nat) (xs : List D) (rows : List (List D)) (g : Nat → Nat → D) (hm : m b = some (.cs N xs)) (hn : rows.length = n) (hcap : n ≤ cap) (hmx : n ≤ 9223372036854775807)
   (hs : ∀ (i : Nat) (e : List D), rows[i]? = some e → e.length = sz) (hx : ∀ (i : Nat) (e : List D) (j : Nat) (x : D), rows[i]? = some e → e[j]? = some x → xs[o + i * sz + j]? = some (g i j))
   (hr : ∀ (i : Nat) (e : List D) (j : Nat) (x : D), rows[i]? = some e → e[j]? = some x → ThD m (g i j) x) : ThD m (.sl b o sz n cap) (.list false sz rows)
 | list (nl : Bool) (sz : Nat) (l l' : List (List D)) (hlen : l.length = l'.length) (hs : ∀ (i : Nat) (e : List D), l'[i]? = some e → e.length = sz)
   (hr : ∀ (i : Nat) (e e' : List D) (j : Nat) (x x' : D), l[i]? = some e → l'[i]? = some e' → e[j]? = some x → e'[j]? = some x' → ThD m x x') : ThD m (.list nl sz l) (.list nl sz l')
section
variable {G : Nat → Prop} {ι : Io} {h : Hp} {w : World} {m : Ar}
theorem thD_sound {G' : Nat → Prop} (hG : ∀ b x, m b = some x → G' b ∧ ABR G' w b x) {x x' : D} (ht : ThD m x x') : ∀ {v : Value}, DR G' w v x → DR G' w v x' := by
 induction ht with
 | same x => exact fun h => h
 | fg x => exact fun h => h.fg
 | row b o sz n cap N xs rows g hm hn hcap hmx hs hx hr ih =>
  intro v hd
  cases hd
  obtain ⟨hg, c, t, fr, a1, a2, a3, a4, a5⟩ := hG b _ hm
  subst hn
  refine .sl b o cap sz rows (fun i j => (c[o + i * sz + j]?).getD undef) (fun _ => hg) hcap hmx hs (fun i e j x he hx' => ?_) fun i e j x he hx' => ?_
  ·obtain ⟨v, hv, _⟩ := a5 _ _ (hx i e j x he hx')
   rw [cell_of a1, hv]; rfl
  ·obtain ⟨v, hv, hd⟩ := a5 _ _ (hx i e j x he hx')
   simp only [hv, Option.getD_some]
   exact ih i e j x he hx' hd
 | list nl sz l l' hlen hs hr ih =>
  intro v hd
  cases hd with
  | nils =>
   have : l' = [] := List.eq_nil_of_length_eq_zero (by simpa using hlen.symm)
   subst this; exact .nils nl sz
  | emp a =>
   have : l' = [] := List.eq_nil_of_length_eq_zero (by simpa using hlen.symm)
   subst this; exact .emp a sz
  | sl b off cap _ _ g hg hcap hmax hsz hc hr' =>
   have both : ∀ (i : Nat) (e' : List D) (j : Nat) (x' : D), l'[i]? = some e' → e'[j]? = some x' → ∃ e x, l[i]? = some e ∧ e[j]? = some x := by
    intro i e' j x' he hx
    have hi := get_lt he
    have hj := get_lt hx
    have h1 : l[i]? = some (l[i]'(by omega)) := lgE _
    have h2 := hsz i _ h1
    have h3 := hs i e' he
    exact ⟨_, _, h1, lgE (by omega)⟩
   rw [hlen]
   refine .sl b off cap sz l' g (fun hne => hg fun h0 => hne ?_) (by omega) (by omega) hs (fun i e j x he hx => ?_) fun i e j x he hx => ?_
   ·subst h0; exact List.eq_nil_of_length_eq_zero (by simpa using hlen.symm)
   ·obtain ⟨e0, x0, h1, h2⟩ := both i e j x he hx
    exact hc i e0 j x0 h1 h2
   ·obtain ⟨e0, x0, h1, h2⟩ := both i e j x he hx
    exact ih i e0 e j x0 x h1 he h2 hx (hr' i e0 j x0 h1 h2)
theorem HR.thaw (r : HR G ι h w) (h0 : h[0]? = some (.am m)) : HR (fun b => G b ∨ ∃ x, m b = some x) ι (h.set 0 .dead) w ∧ Ext G ι h w (fun b => G b ∨ ∃ x, m b = some x) ι (h.set 0 .dead) w ∧
    ∀ b x, m b = some x → (G b ∨ ∃ x, m b = some x) ∧ ABR (fun b => G b ∨ ∃ x, m b = some x) w b x := by
  have hgm : ∀ b, G b → (G b ∨ ∃ x, m b = some x) ∧ w.heap[b]? = w.heap[b]? := fun b hb => ⟨.inl hb, rfl⟩
  have hext : Ext G ι h w (fun b => G b ∨ ∃ x, m b = some x) ι (h.set 0 .dead) w :=
    { size := Nat.le_refl _
      quiet := ⟨rfl, rfl, rfl, Nat.le_refl _⟩
      frame := fun _ _ _ => rfl
      gmono := fun _ h => .inl h
      gnew := fun b hb => by
        rcases hb with h | ⟨x, hx⟩
        · exact .inl h
        · exact .inr (.inr (am_owned h0 hx))
      onew := fun b ho => .inl (owned_set h0 own1_dead ho)
      keep := fun l k hk => by
        by_cases e : 0 = l
        · subst e
          exact ⟨.dead, by rw [List.getElem?_set_self (get_lt h0)], by cases k <;> trivial⟩
        · exact ⟨k, by rw [List.getElem?_set_ne e]; exact hk, Kept.refl ι w l k⟩ }
  refine ⟨?_, hext, fun b x hx => ⟨.inr ⟨x, hx⟩, (r.blk 0 _ h0 b x hx).mono hgm rfl⟩⟩
  exact
    { len := by simp [r.len]
      own := own_kill r
      g := fun b hb => by
        rcases hb with hb | ⟨x, hx⟩
        · exact ⟨(r.g b hb).1, fun ho => (r.g b hb).2 (owned_set h0 own1_dead ho)⟩
        · refine ⟨owned_lt r (am_owned h0 hx), fun ⟨l, k, g1, g2⟩ => ?_⟩
          rcases get_set g1 with ⟨_, e2, _⟩ | ⟨e0, e1⟩
          · subst e2; exact own1_dead g2
          · exact e0 (r.own 0 l b _ k h0 e1 ⟨x, hx⟩ g2).symm
      blk := fun l k hk => by
        rcases get_set hk with ⟨_, d2, _⟩ | ⟨_, d1⟩
        · subst d2; trivial
        · exact BR.ext hext r d1 rfl fun _ _ => rfl }
end
def ThDs (m : Ar) : List D → List D → Prop
 | [], [] => True
 | x :: r, y :: s => ThD m x y ∧ ThDs m r s
 | _, _ => False
theorem thDs_get {m : Ar} : ∀ {l l' : List D}, ThDs m l l' → ∀ (i : Nat) (y : D), l'[i]? = some y → ∃ x, l[i]? = some x ∧ ThD m x y := by
 intro l
 induction l with
 | nil => intro l' h; cases l' with | nil => simp | cons => exact h.elim
 | cons x r ih =>
  intro l' h
  cases l' with
  | nil => exact h.elim
  | cons y s =>
   obtain ⟨h1, h2⟩ := h
   intro i b hb
   cases i with
   | zero => simp at hb; subst hb; exact ⟨x, rfl, h1⟩
   | succ i => simp at hb; obtain ⟨z, hz, ht⟩ := ih h2 i b hb; exact ⟨z, by simpa using hz, ht⟩
inductive ThC (m : Ar) : CV → CV → Prop
 | same (x : CV) (hx : pureC x = true) : ThC m x x
 | d (x x' : D) (h : ThD m x x') : ThC m (.d x) (.d x')
 | rp (l l' : List D) (h : ThDs m l l') : ThC m (.rp l) (.rp l')
def ThCs (m : Ar) : List CV → List CV → Prop
 | [], [] => True
 | x :: r, y :: s => ThC m x y ∧ ThCs m r s
 | _, _ => False
inductive ThA (m : Ar) : AV → AV → Prop
 | c (x y : CV) (h : ThC m x y) : ThA m (.c x) (.c y)
 | agg (l l' : List CV) (h : ThCs m l l') : ThA m (.agg l) (.agg l')
def ThAs (m : Ar) : List AV → List AV → Prop
 | [], [] => True
 | x :: r, y :: s => ThA m x y ∧ ThAs m r s
 | _, _ => False
theorem thC_pure {m : Ar} {x y : CV} (h : ThC m x y) : pureC y = true := by
 cases h with
 | same _ hx => exact hx
 | d => rfl
 | rp => rfl
theorem thCs_pure {m : Ar} : ∀ {l l' : List CV}, ThCs m l l' → l.length = l'.length ∧ l'.all pureC = true ∧ ∀ (i : Nat) (x y : CV), l[i]? = some x → l'[i]? = some y → ThC m x y := by
 intro l
 induction l with
 | nil => intro l' h; cases l' with | nil => simp | cons => exact h.elim
 | cons x r ih =>
  intro l' h
  cases l' with
  | nil => exact h.elim
  | cons y s =>
   obtain ⟨h1, h2⟩ := h
   obtain ⟨i1, i2, i3⟩ := ih h2
   refine ⟨by simp [i1], by simp [thC_pure h1, i2], fun i a b ha hb => ?_⟩
   cases i with
   | zero => simp at ha hb; subst ha hb; exact h1
   | succ i => simp at ha hb; exact i3 i a b ha hb
theorem thA_pure {m : Ar} {x y : AV} (h : ThA m x y) : pureA y = true := by
 cases h with
 | c _ _ h => exact thC_pure h
 | agg _ _ h => exact (thCs_pure h).2.1
theorem thAs_get {m : Ar} : ∀ {l l' : List AV}, ThAs m l l' → l.length = l'.length ∧ pureA.pureAs l' = true ∧ ∀ (i : Nat) (x y : AV), l[i]? = some x → l'[i]? = some y → ThA m x y := by
 intro l
 induction l with
 | nil => intro l' h; cases l' with | nil => simp [pureA.pureAs] | cons => exact h.elim
 | cons x r ih =>
  intro l' h
  cases l' with
  | nil => exact h.elim
  | cons y s =>
   obtain ⟨h1, h2⟩ := h
   obtain ⟨i1, i2, i3⟩ := ih h2
   refine ⟨by simp [i1], by simp [pureA.pureAs, thA_pure h1, i2], fun i a b ha hb => ?_⟩
   cases i with
   | zero => simp at ha hb; subst ha hb; exact h1
   | succ i => simp at ha hb; exact i3 i a b ha hb
def RetA (res : List (Nat × Option (Option Nat))) (L : Lv) (h : Hp) (K : AV → Prop) : Prop :=
 match resA (lkN L) h res with
 | some vs => vFrzAs h vs fun rs h2 => match h2 with
  | .am m :: _ => ∃ rs', ThAs m rs rs' ∧ K (pack rs')
  | _ => False
 | none => False
def am0 : Ar := fun _ => none
def vcFAE (res : List (Nat × Option (Option Nat))) (K : AV → Prop) : Post := fun x L h => match x with
 | .exit _ => False
 | _ => RetA res L h K
def vcFA (P : Program) (Λ : Len) (af : AF) (args : List AV) (K : AV → Prop) : Prop :=
 match af with
 | ⟨_, res, body⟩ => vcC P Λ 1 body (argL 0 args) [.am am0] (vcFAE res K)
theorem HR.am0 {G : Nat → Prop} {w : World} {ι : Io} (r : HR G ι [] w) : HR G [(0, 0)] [.am am0] w :=
  { len := rfl
    own := fun l l' b k k' h1 h2 _ _ => by
      have := get_lt h1; have := get_lt h2; simp at *; omega
    g := fun b hb => ⟨(r.g b hb).1, fun ⟨l, k, h1, h2⟩ => by
      have hl : l = 0 := by have := get_lt h1; simpa using this
      subst hl; cases h1
      obtain ⟨x, hx⟩ := h2; cases hx⟩
    blk := fun l k h1 => by
      have hl : l = 0 := by have := get_lt h1; simpa using this
      subst hl; cases h1
      intro b x hx; cases hx }
theorem fn_arena {P : Program} {f : Nat} {fn : Func} {af : AF} {args : List AV} {K : AV → Prop} (hmo : P.follows .mixedOrders = true) (hf : P.funcs[f]? = some fn) (hc : compF P fn = some af) (hl : args.length ≤ af.nt) (hv : ∀ Λ : Len, (∀ l, Λ l = (l.length : Int)) → vcFA P Λ af args K) :
    FnS P f args [] fun r _ => pureA r = true ∧ K r := by
  obtain ⟨c, hb, hcc, hres, hnt⟩ := compF_spec hc
  have hv1 := hv (fun l => (l.length : Int)) fun _ => rfl
  refine ⟨fun G ι w vs hr hvs => ?_⟩
  have hr1 := hr.am0
  have hι : ι = [] := by have := hr.len; exact List.eq_nil_of_length_eq_zero this
  subst hι
  have hvs1 : VRs G w [(0, 0)] [.am am0] vs args := ⟨hvs.1, fun i v x h1 h2 => (hvs.2 i v x h1 h2).mono (fun b hb => ⟨hb, rfl⟩) (fun l k hk => by simp at hk)⟩
  have none1 : ∀ b, ¬ owned [(0, 0)] [.am am0] b := fun b ⟨l, k, h1, h2⟩ => by
    have hl : l = 0 := by have := get_lt h1; simpa using this
    subst hl; cases h1
    obtain ⟨x, hx⟩ := h2; cases hx
  have henter := enter_fits (af := af) hnt (by omega) hr1 hvs1
  have hwp := vcC_sound (h0 := [.am am0]) (Λ := fun l => (l.length : Int)) (fun _ => rfl) (m := 1) hmo (by simp) c af.body _ _ (vcFAE af.res K) _ w hcc (by cases af; exact hv1) henter
  refine calls_of_wp hf hb (wp_mono hwp fun x a w' ⟨L, h', hq, hfit⟩ => ?_)
  have fin : RetA af.res L h' K → a.defers = [] ∧ ∃ v, (results fn a.tmps).run P w' = .ok v w' ∧ ∃ v' r G' ι' h'', Ending.returned v = .returned v' ∧ (pureA r = true ∧ K r) ∧ HR G' ι' h'' w' ∧ VR G' w' ι' h'' v' r ∧ Ext G [] [] w G' ι' h'' w' := by
    intro hret
    obtain ⟨G1, ι1, st⟩ := hfit
    refine ⟨st.rel.dfr, ?_⟩
    unfold RetA at hret
    split at hret
    · rename_i vs' hvs'
      obtain ⟨rs, h2, hrs, hret⟩ := vFrzAs_sound hret
      split at hret
      · rename_i m rest
        obtain ⟨rs', ht, hK⟩ := hret
        rw [lkN_fun] at hvs'
        obtain ⟨us, q1, q2⟩ := results_all (P := P) (fn := fn) (af := af) hres st.rel.hr st.rel.env hvs'
        obtain ⟨G2, k1, k2, k3, k4⟩ := frzAs_sound st.rel.hr q2 hrs
        obtain ⟨j1, j2, j3⟩ := HR.thaw k1 (m := m) rfl
        have e := (st.ext.trans k2).trans j2
        obtain ⟨t1, t2, t3⟩ := thAs_get ht
        have hvr : VRs (fun b => G2 b ∨ ∃ x, m b = some x) w' ι1 (List.set (.am m :: rest) 0 .dead) us rs' := by
          refine ⟨by rw [k3.1, t1], fun i v y h1 h2 => ?_⟩
          have hi := get_lt h2
          have hx : rs[i]? = some (rs[i]'(by omega)) := lgE _
          have hvx := (k3.2 i v _ h1 hx).ext j2 k1
          have hth := t3 i _ y hx h2
          revert hvx hth
          generalize rs[i]'(by omega) = z
          intro hvx hth
          have cc : ∀ {v : Value} {p q : CV}, CR (fun b => G2 b ∨ ∃ x, m b = some x) w' ι1 (List.set (.am m :: rest) 0 .dead) v p → ThC m p q → CR (fun b => G2 b ∨ ∃ x, m b = some x) w' ι1 (List.set (.am m :: rest) 0 .dead) v q := by
            intro v p q hp hq
            cases hq with
            | same => exact hp
            | d x x' h => cases hp with | d _ _ hd => exact .d _ _ (thD_sound j3 h hd)
            | rp l l' h =>
              cases hp with
              | rp b o _ hG hc =>
                refine .rp b o _ hG fun k y hy => ?_
                obtain ⟨x, hx, ht⟩ := thDs_get h k y hy
                obtain ⟨v, hv, hd⟩ := hc k x hx
                exact ⟨v, hv, thD_sound j3 ht hd⟩
          cases hth with
          | c _ _ h => cases hvx with | c _ _ hc => exact .c _ _ (cc hc h)
          | agg l l' h =>
            obtain ⟨u1, u2, u3⟩ := thCs_pure h
            cases hvx with
            | agg cs _ hn hc =>
              refine .agg _ _ (by omega) fun j v y hv hy => ?_
              have hj := get_lt hy
              exact cc (hc j v _ hv (lgE (by omega))) (u3 j _ y (lgE (by omega)) hy)
        refine ⟨_, q1, _, pack rs', _, ι1, _, rfl, ⟨?_, hK⟩, j1, pack_sound hvr, ?_⟩
        · cases rs' with
          | nil => rfl
          | cons x rs' =>
            cases rs' with
            | nil => simp only [pureA.pureAs, Bool.and_true] at t2; exact t2
            | cons y rs' => exact t2
        · exact
            { size := e.size
              quiet := e.quiet
              frame := fun b hb _ => e.frame b hb (none1 b)
              gmono := e.gmono
              gnew := fun b hb => by
                rcases e.gnew b hb with h | h | h
                · exact .inl h
                · exact .inr (.inl h)
                · exact absurd h (none1 b)
              onew := fun b hb => by
                rcases e.onew b hb with h | h
                · exact absurd h (none1 b)
                · exact .inr h
              keep := fun l k hk => by simp at hk }
      · exact hret.elim
    · exact hret.elim
  cases x with
  | normal => exact fin hq
  | ret => exact fin hq
  | exit i => exact hq.elim
  | goto => exact hq.elim
  | panic => exact hq.elim
  | outgrown => exact hq.elim
end Go.Ab

/-
  Contracts, part d: arcs, segments, the program's validity of topologies.
-/
namespace Go.Ab
open Go.Proofs
theorem twithin_ok (P : Program) (hP : P = Try.prog) (n lo hi : Int) : Ret P n_topology_within [iA n, iA lo, iA hi] (bA (decide (lo ≤ n ∧ n ≤ hi))) := by
 refine ret_start (hP ▸ mixed) (hP ▸ fn_topology_within) (hP ▸ c_topology_within) (nle rfl) fun Λ Λo K hK => ?_
 clear hP
 have yes := yes_of hK
 have no := no_of hK
 conv => cbv
 repeat' first | exact gu | exact trivial | refine And.intro ?_ ?_ | (intro hc; exact absurd hc (by decide)) | (intro hc; exfalso; omega) | (intro hc; (first | rw [wS (by omega) (by omega)] at hc | rw [nI_eq] at hc | skip); try (conv => cbv))
 ·exact yes (by omega)
 ·exact no (by omega)
 ·exact no (by omega)
theorem gnode_ok (P : Program) (hP : P = Try.prog) (t : Top) (n : Int) : Ret P n_graph_Node [topA t, iA n] (bA (decide (0 ≤ n ∧ n < t.nodes))) := by
 refine ret_start (hP ▸ mixed) (hP ▸ fn_graph_Node) (hP ▸ c_graph_Node) (nle rfl) fun Λ Λo K hK => ?_
 clear hP
 have yes := yes_of hK
 have no := no_of hK
 obtain ⟨nodes, ov, links⟩ := t
 simp only [topA, boolsD, linksD] at *
 generalize hol : ov.map encB = ol at *
 generalize hll : links.map encLk = ll at *
 have hlo : Λ ol = ov.length := by rw [Λo, ← hol]; simp
 have hls : Λ ll = links.length := by rw [Λo, ← hll]; simp
 conv => cbv
 repeat' first | exact gu | exact trivial | refine And.intro ?_ ?_ | (intro hc; exact absurd hc (by decide)) | (intro hc; exfalso; omega) | (intro hc; (first | rw [wS (by omega) (by omega)] at hc | rw [nI_eq] at hc | skip); try (conv => cbv))
 ·exact yes (by omega)
 ·exact no (by omega)
 ·exact no (by omega)
theorem tvalid_ok (P : Program) (hP : P = Try.prog) (t : Top) : Ret P n_topology_Valid [topA t] (bA (validT t)) := by
 refine ret_start (hP ▸ mixed) (hP ▸ fn_topology_Valid) (hP ▸ c_topology_Valid) (nle rfl) fun Λ Λo K hK => ?_
 have hw := twithin_ok P hP
 have hn := gnode_ok P hP t
 clear hP
 have leaf : ∀ b, validT t = b → K (bA b) := fun b hb => by rw [← hb]; exact hK
 have no : (validT t = true → False) → K (bA false) := fun h => leaf _ (Bool.eq_false_iff.2 h)
 obtain ⟨nodes, ov, links⟩ := t
 simp only [topA, boolsD, linksD] at *
 generalize hol : ov.map encB = ol at *
 generalize hll : links.map encLk = ll at *
 have hlo : Λ ol = ov.length := by rw [Λo, ← hol]; simp
 have hls : Λ ll = links.length := by rw [Λo, ← hll]; simp
 conv => cbv
 repeat' first | refine call_b (hw _ _ _) rfl rfl ?_ ?_ | exact gu | exact trivial | refine And.intro ?_ ?_ | (intro hc; exact absurd hc (by decide)) | (intro hc; exfalso; omega) | (intro hc; (first | rw [wS (by omega) (by omega)] at hc | rw [nI_eq] at hc | skip); try (conv => cbv))
 all_goals try simp only [decide_eq_true_eq, decide_eq_false_iff_not] at *
 all_goals try (refine no fun h => ?_; obtain ⟨h1, h2, h3, h4⟩ := validT_spec.1 h; simp only at h1 h2 h3; omega)
 all_goals
  refine loop_up links.length (fun (i : Int) => [(1, .c (.ptr 0 0 0 0)), (29, iA (Λ ll)), (30, iA i)]) (fun _ => [.bx [.d (.int .i64 nodes), .d (.list false 1 ol), .d (.list false 7 ll)]]) (fun k i => i = k ∧ k ≤ links.length ∧ ∀ l ∈ links.take k, okLk nodes l = true) 0 (Wk.cw) ⟨rfl, by omega, by simp⟩ (fun k s h => h.2.1) ?_
  rintro k i Q' ⟨hi, hk, hok⟩ norm ex rt
  conv => cbv
  repeat' first | (refine ex _ _ _ ?_; (conv => cbv)) | (refine rt _ _ ?_; (conv => cbv)) | refine call_b (hw _ _ _) rfl rfl ?_ ?_ | refine call_b (hn _) rfl rfl ?_ ?_ | (intro e he; obtain ⟨⟨xa, xb, xc, xd, xe, xf, xg⟩, hx, rfl⟩ := map_get' hll he; (conv => cbv)) | exact gu | exact trivial | refine And.intro ?_ ?_ | (intro hc; exact absurd hc (by decide)) | (intro hc; exfalso; omega) | (intro hc; (first | rw [wS (by omega) (by omega)] at hc | rw [nI_eq] at hc | skip); try (conv => cbv))
 all_goals try simp only [decide_eq_true_eq, decide_eq_false_iff_not] at *
 all_goals try (refine no fun h => ?_; obtain ⟨h1, h2, h3, h4⟩ := validT_spec.1 h; have h5 := okLk_spec.1 (h4 _ (List.mem_of_getElem? hx)); simp only at h5; omega)
 all_goals try (refine leaf _ (validT_spec.2 ⟨by simp only; omega, by simp only; omega, by simp only; omega, fun l hl => hok l ?_⟩); rw [List.take_of_length_le (by omega)]; exact hl)
 all_goals
  refine norm _ _ _ ?_ (Wk.cw)
  refine ⟨by omega, by omega, ?_⟩
  rw [show i.toNat = k by omega] at hx
  rw [take_succ_get hx]
  intro l hl
  rcases List.mem_append.1 hl with hl | hl
  ·exact hok l hl
  ·simp only [List.mem_singleton] at hl
   subst hl
   exact okLk_spec.2 ⟨by simp only; omega, by simp only; omega, by simp only; omega, by simp only; omega, by simp only; omega, by simp only; omega, by simp only; omega, by simp only; omega⟩
theorem garcs_ok (P : Program) (hP : P = Try.prog) (t : Top) (h : (t.links.length : Int) ≤ 256) : Ret P n_graph_Arcs [topA t] (iA (2 * t.links.length)) := by
 refine ret_start (hP ▸ mixed) (hP ▸ fn_graph_Arcs) (hP ▸ c_graph_Arcs) (nle rfl) fun Λ Λo K hK => ?_
 clear hP
 obtain ⟨nodes, ov, links⟩ := t
 simp only [topA, boolsD, linksD] at *
 generalize hol : ov.map encB = ol at *
 generalize hll : links.map encLk = ll at *
 have hlo : Λ ol = ov.length := by rw [Λo, ← hol]; simp
 have hls : Λ ll = links.length := by rw [Λo, ← hll]; simp
 conv => cbv
 repeat' first | exact gu | exact trivial | refine And.intro ?_ ?_ | (intro hc; exact absurd hc (by decide)) | (intro hc; exfalso; omega) | (intro hc; (first | rw [wS (by omega) (by omega)] at hc | rw [nI_eq] at hc | skip); try (conv => cbv))
 rename_i c
 rw [show c = 2 * (links.length : Int) by omega]
 exact hK
theorem garc_ok (P : Program) (hP : P = Try.prog) (t : Top) (a : Int) (h : (t.links.length : Int) ≤ 256) : Ret P n_graph_Arc [topA t, iA a] (bA (decide (0 ≤ a ∧ a < 2 * t.links.length))) := by
 refine ret_start (hP ▸ mixed) (hP ▸ fn_graph_Arc) (hP ▸ c_graph_Arc) (nle rfl) fun Λ Λo K hK => ?_
 have hw := garcs_ok P hP t h
 clear hP
 have yes := yes_of hK
 have no := no_of hK
 obtain ⟨nodes, ov, links⟩ := t
 simp only [topA, boolsD, linksD] at *
 generalize hol : ov.map encB = ol at *
 generalize hll : links.map encLk = ll at *
 have hlo : Λ ol = ov.length := by rw [Λo, ← hol]; simp
 have hls : Λ ll = links.length := by rw [Λo, ← hll]; simp
 conv => cbv
 repeat' first | refine call_i hw rfl rfl ?_ | exact gu | exact trivial | refine And.intro ?_ ?_ | (intro hc; exact absurd hc (by decide)) | (intro hc; exfalso; omega) | (intro hc; (first | rw [wS (by omega) (by omega)] at hc | rw [nI_eq] at hc | skip); try (conv => cbv))
 ·exact yes (by omega)
 ·exact no (by omega)
 ·exact no (by omega)
def tailG (t : Top) (a : Int) : Int := if a % 2 = 0 then (lkAt t a).a else (lkAt t a).b
def headG (t : Top) (a : Int) : Int := if a % 2 = 0 then (lkAt t a).b else (lkAt t a).a
theorem gtail_ok (P : Program) (hP : P = Try.prog) (t : Top) (a : Int) (h0 : 0 ≤ a) (h1 : a < 2 * t.links.length) (h2 : (t.links.length : Int) ≤ 256) : Ret P n_graph_Tail [topA t, iA a] (iA (tailG t a)) := by
 refine ret_start (hP ▸ mixed) (hP ▸ fn_graph_Tail) (hP ▸ c_graph_Tail) (nle rfl) fun Λ Λo K hK => ?_
 clear hP
 have leaf : ∀ b, tailG t a = b → K (iA b) := fun b hb => by rw [← hb]; exact hK
 have hta : tailG t a = if a % 2 = 0 then (lkAt t a).a else (lkAt t a).b := rfl
 have hat : ∀ x, t.links[(a / 2).toNat]? = some x → lkAt t a = x := fun x hx => by simp [lkAt, hx]
 obtain ⟨nodes, ov, links⟩ := t
 simp only [topA, boolsD, linksD] at *
 generalize hol : ov.map encB = ol at *
 generalize hll : links.map encLk = ll at *
 have hlo : Λ ol = ov.length := by rw [Λo, ← hol]; simp
 have hls : Λ ll = links.length := by rw [Λo, ← hll]; simp
 conv => cbv
 repeat' first | (intro hc; rw [tdiv2 (by omega) (by omega)] at hc; conv => cbv) | (intro hc; rw [tmod2 (by omega)] at hc; conv => cbv) | (intro (_ : Unit); decide) | (intro e he; obtain ⟨⟨xa, xb, xc, xd, xe, xf, xg⟩, hx, rfl⟩ := map_get' hll he; (conv => cbv)) | exact gu | exact trivial | refine And.intro ?_ ?_ | (intro hc; exact absurd hc (by decide)) | (intro hc; exfalso; omega) | (intro hc; (first | rw [wS (by omega) (by omega)] at hc | rw [nI_eq] at hc | skip); try (conv => cbv))
 ·exact leaf _ (by rw [hta, if_pos (by omega), hat _ (get_at hx (by omega))])
 ·exact leaf _ (by rw [hta, if_neg (by omega), hat _ (get_at hx (by omega))])
end Go.Ab

/-
  Contracts, part e: tables.
-/
namespace Go.Ab
open Go.Proofs
theorem tailT_valid {t : Top} {a : Int} (hv : validT t = true) (h0 : 0 ≤ a) (h1 : a < 2 * t.links.length) : tailT t a = tailG t a := by
 rw [tailT, arcsT, if_pos hv, if_pos ⟨h0, h1⟩]; rfl
end Go.Ab

/-
  Arenas, part a: rows that grow.
-/
namespace Go.Ab
open Go.Proofs
theorem arena_start {P : Program} {f : Nat} {fn : Func} {af : AF} {args : List AV} {r : AV} (hm : P.follows .mixedOrders = true) (hf : P.funcs[f]? = some fn) (hc : compF P fn = some af) (hl : args.length ≤ af.nt)
  (hv : ∀ (Λ : Len), (∀ l, Λ l = (l.length : Int)) → ∀ (K : AV → Prop), K r → vcFA P Λ af args K) : Ret P f args r :=
 fn_arena (K := fun r' => r' = r) hm hf hc hl fun Λ h => hv Λ h _ rfl
def RowR (sz : Nat) (m : Ar) (d : D) (l : List (List D)) : Prop :=
 (d = .list true sz [] ∧ l = []) ∨ ∃ b N cap, d = .sl b 0 sz l.length cap ∧ m b = some (.cs N l.flatten) ∧ (∀ e ∈ l, e.length = sz) ∧ l.length ≤ cap ∧ cap * sz ≤ N
structure RowsR (sz : Nat) (m : Ar) (es : List (List D)) (rows : List (List (List D))) : Prop where
 len : es.length = rows.length
 one : ∀ (j : Nat) (e : List D), es[j]? = some e → ∃ d, e = [d]
 row : ∀ (j : Nat) (d : D) (l : List (List D)), es[j]? = some [d] → rows[j]? = some l → RowR sz m d l
 dis : ∀ (i j b o n c o' n' c' : Nat), es[i]? = some [.sl b o sz n c] → es[j]? = some [.sl b o' sz n' c'] → i = j
theorem RowsR.nils (sz k : Nat) (m : Ar) : RowsR sz m (List.replicate k [.list true sz []]) (List.replicate k []) where
 len := by simp
 one j e h := by
  rw [List.getElem?_replicate] at h; split at h <;> cases h; exact ⟨_, rfl⟩
 row j d l h1 h2 := by
  rw [List.getElem?_replicate] at h1 h2; split at h1 <;> simp_all
  exact .inl ⟨h1.symm, rfl⟩
 dis i j b o n c o' n' c' h1 h2 := by
  rw [List.getElem?_replicate] at h1; split at h1 <;> simp at h1
theorem set_self {α : Type} {l : List α} {i : Nat} {a x : α} (h : (l.set i a)[i]? = some x) : x = a := by
 rcases get_set h with ⟨_, h, _⟩ | ⟨h, _⟩
 ·exact h
 ·exact absurd rfl h
theorem RowsR.put {sz : Nat} {m m' : Ar} {es : List (List D)} {rows : List (List (List D))} (h : RowsR sz m es rows) {j b' N' cap' : Nat} {l' : List (List D)} (hm' : m' b' = some (.cs N' l'.flatten))
  (hs : ∀ e ∈ l', e.length = sz) (hcap : l'.length ≤ cap') (hN : cap' * sz ≤ N') (hfree : ∀ (i o n c : Nat), i ≠ j → es[i]? = some [.sl b' o sz n c] → False) (hsame : ∀ (i b o n c : Nat), i ≠ j → es[i]? = some [.sl b o sz n c] → m' b = m b) :
  RowsR sz m' (es.set j [.sl b' 0 sz l'.length cap']) (rows.set j l') where
 len := by simp [h.len]
 one i e he := by
  rcases get_set he with ⟨_, he, _⟩ | ⟨_, he⟩
  ·exact ⟨_, he⟩
  ·exact h.one i e he
 row i d l h1 h2 := by
  rcases get_set h1 with ⟨e1, e2, _⟩ | ⟨e1, e2⟩
  ·subst e1
   have := set_self h2
   subst this
   cases e2
   exact .inr ⟨b', N', cap', rfl, hm', hs, hcap, hN⟩
  ·rw [List.getElem?_set_ne (fun e => e1 e.symm)] at h2
   rcases h.row i d l e2 h2 with hr | ⟨b, N, cap, rfl, r2, r3⟩
   ·exact .inl hr
   ·exact .inr ⟨b, N, cap, rfl, by rw [hsame i b _ _ _ e1 e2]; exact r2, r3⟩
 dis i k b o n c o' n' c' h1 h2 := by
  rcases get_set h1 with ⟨e1, e2, _⟩ | ⟨e1, e2⟩ <;> rcases get_set h2 with ⟨f1, f2, _⟩ | ⟨f1, f2⟩
  ·omega
  ·cases e2; exact (hfree k _ _ _ f1 f2).elim
  ·cases f2; exact (hfree i _ _ _ e1 e2).elim
  ·exact h.dis i k b o n c o' n' c' e2 f2
theorem RowsR.key {sz : Nat} {m : Ar} {es : List (List D)} {rows : List (List (List D))} (h : RowsR sz m es rows) {i b o n c : Nat} (he : es[i]? = some [.sl b o sz n c]) : ∃ x, m b = some x := by
 have hi := get_lt he
 rcases h.row i _ _ he (lgE (by rw [← h.len]; exact hi)) with ⟨h1, _⟩ | ⟨b', N, cap, h1, h2, _⟩
 ·cases h1
 ·cases h1; exact ⟨_, h2⟩
theorem RowsR.first {sz : Nat} {m : Ar} {es : List (List D)} {rows : List (List (List D))} (h : RowsR sz m es rows) {j b' N' cap' : Nat} {l' : List (List D)} (hm : m b' = none)
  (hs : ∀ e ∈ l', e.length = sz) (hcap : l'.length ≤ cap') (hN : cap' * sz ≤ N') : RowsR sz (mup m b' (.cs N' l'.flatten)) (es.set j [.sl b' 0 sz l'.length cap']) (rows.set j l') :=
 h.put (mup_at _ _ _) hs hcap hN (fun i o n c _ he => by obtain ⟨x, hx⟩ := h.key he; rw [hm] at hx; cases hx)
  fun i b o n c _ he => by
   obtain ⟨x, hx⟩ := h.key he
   exact mup_ne fun e => by rw [e, hm] at hx; cases hx
theorem RowsR.more {sz : Nat} {m : Ar} {es : List (List D)} {rows : List (List (List D))} (h : RowsR sz m es rows) {j b n c b' N' cap' : Nat} (hj : es[j]? = some [.sl b 0 sz n c]) {l' : List (List D)} (hm : mdel m b b' = none)
  (hs : ∀ e ∈ l', e.length = sz) (hcap : l'.length ≤ cap') (hN : cap' * sz ≤ N') : RowsR sz (mup (mdel m b) b' (.cs N' l'.flatten)) (es.set j [.sl b' 0 sz l'.length cap']) (rows.set j l') := by
 have other : ∀ (i b2 o n2 c2 : Nat), i ≠ j → es[i]? = some [.sl b2 o sz n2 c2] → b2 ≠ b ∧ b2 ≠ b' := by
  intro i b2 o n2 c2 hi he
  have h1 : b2 ≠ b := fun e => by subst e; exact hi (h.dis i j _ _ _ _ _ _ _ he hj)
  refine ⟨h1, fun e => ?_⟩
  obtain ⟨x, hx⟩ := h.key he
  rw [← e, mdel_ne h1, hx] at hm; cases hm
 refine h.put (mup_at _ _ _) hs hcap hN (fun i o n2 c2 hi he => (other i _ _ _ _ hi he).2 rfl) fun i b2 o n2 c2 hi he => ?_
 obtain ⟨h1, h2⟩ := other i _ _ _ _ hi he
 rw [mup_ne h2, mdel_ne h1]
theorem RowsR.thaw {sz : Nat} {m : Ar} {es : List (List D)} {rows : List (List (List D))} (h : RowsR sz m es rows) (hb : ∀ l ∈ rows, l.length ≤ 9223372036854775807) : ThD m (.list false 1 es) (.list false 1 (rows.map fun l => [.list false sz l])) := by
 refine .list _ _ _ _ (by simp [h.len]) (fun i e he => ?_) fun i e e' j x x' he he' hx hx' => ?_
 ·simp only [List.getElem?_map, omi] at he
  obtain ⟨_, _, rfl⟩ := he; rfl
 ·simp only [List.getElem?_map, omi] at he'
  obtain ⟨l, hl, rfl⟩ := he'
  obtain ⟨d, rfl⟩ := h.one i e he
  have hj : j = 0 := by have := get_lt hx; simpa using this
  subst hj
  simp only [List.getElem?_cons_zero, osi] at hx hx'
  subst hx hx'
  rcases h.row i d l he hl with ⟨rfl, rfl⟩ | ⟨b, N, cap, rfl, hm, hs, hc, hN⟩
  ·exact .fg _
  ·have hl2 := hb l (List.mem_of_getElem? hl)
   refine .row b 0 sz l.length cap N l.flatten l (fun i j => l.flatten.getD (i * sz + j) default) hm rfl hc hl2 (fun i e he => hs e (List.mem_of_getElem? he)) (fun i e j x he hx => ?_) fun i e j x he hx => ?_
   ·rw [Nat.zero_add, List.getD_eq_getElem?_getD, arget_flat hs he hx]; rfl
   ·simp only [List.getD_eq_getElem?_getD, arget_flat hs he hx, Option.getD_some]; exact .same _
end Go.Ab

/-
  Where an arc leads.
-/
namespace Go.Ab
open Go.Proofs
theorem xor_one : ∀ a : Fin 512, IntKind.i64.wrap ((BitVec.ofInt 64 (a.val : Int) ^^^ BitVec.ofInt 64 1).toNat : Int) = if a.val % 2 = 0 then (a.val : Int) + 1 else (a.val : Int) - 1 := by
 decide +kernel
theorem ghead_ok (P : Program) (hP : P = Try.prog) (t : Top) (a : Int) (h0 : 0 ≤ a) (h1 : a < 2 * t.links.length) (h2 : (t.links.length : Int) ≤ 256) : Ret P n_graph_Head [topA t, iA a] (iA (headG t a)) := by
 have hx : IntKind.i64.wrap ((BitVec.ofInt 64 a ^^^ BitVec.ofInt 64 1).toNat : Int) = if a % 2 = 0 then a + 1 else a - 1 := by
  have := xor_one ⟨a.toNat, by omega⟩
  simp only at this
  rw [show ((a.toNat : Nat) : Int) = a by omega] at this
  rw [this]
  by_cases hm : a % 2 = 0
  ·rw [if_pos (by omega), if_pos hm]
  ·rw [if_neg (by omega), if_neg hm]
 generalize hb : (if a % 2 = 0 then a + 1 else a - 1 : Int) = b at hx
 have ht := gtail_ok P hP t b (by rw [← hb]; split <;> omega) (by rw [← hb]; split <;> omega) h2
 have he : tailG t b = headG t a := by
  rw [← hb]
  unfold tailG headG lkAt
  by_cases hm : a % 2 = 0
  ·rw [if_pos hm, if_pos hm, if_neg (by omega), show (a + 1) / 2 = a / 2 by omega]
  ·rw [if_neg hm, if_neg hm, if_pos (by omega), show (a - 1) / 2 = a / 2 by omega]
 rw [he] at ht
 refine ret_start (hP ▸ mixed) (hP ▸ fn_graph_Head) (hP ▸ c_graph_Head) (nle rfl) fun Λ Λo K hK => ?_
 clear hP he
 generalize headG t a = hd at *
 obtain ⟨nodes, ov, links⟩ := t
 simp only [topA, boolsD, linksD] at *
 generalize hol : ov.map encB = ol at *
 generalize hll : links.map encLk = ll at *
 have hlo : Λ ol = ov.length := by rw [Λo, ← hol]; simp
 have hls : Λ ll = links.length := by rw [Λo, ← hll]; simp
 conv => cbv
 repeat' first | exact gu | exact trivial | refine And.intro ?_ ?_ | (intro hc; exact absurd hc (by decide)) | (intro hc; exfalso; omega) | (intro hc; (first | rw [wS (by omega) (by omega)] at hc | rw [nI_eq] at hc | skip); try (conv => cbv))
 refine ⟨.int .i64 b, ?_, ?_⟩
 ·rw [← hx]; rfl
 rintro _ rfl
 conv => cbv
 repeat' first | refine call_i ht rfl rfl ?_ | exact gu | exact trivial | refine And.intro ?_ ?_ | (intro hc; exact absurd hc (by decide)) | (intro hc; exfalso; omega) | (intro hc; (first | rw [wS (by omega) (by omega)] at hc | rw [nI_eq] at hc | skip); try (conv => cbv))
 all_goals (subst hc; exact hK)
end Go.Ab

/-
  Contracts, part j: forward.Step.
-/
namespace Go.Ab
open Go.Proofs
def ent (x : Tab) (n : Int) : Ety := x.to.getD n.toNat default
end Go.Ab

/-
  Contracts of the shortest paths (the document's), part a: costs, masks.
-/
namespace Go.Ab
open Go.Proofs
theorem cost_ok (P : Program) (hP : P = Try.prog) (t : Top) (a : Int) : Ret P n_ref09_Cost [topA t, iA a] (iA (costT t a)) := by
 refine ret_start (hP ▸ mixed) (hP ▸ fn_ref09_Cost) (hP ▸ c_ref09_Cost) (nle rfl) fun Λ Λo K hK => ?_
 have hw := arcs_ok P hP t
 clear hP
 have leaf : ∀ b, costT t a = b → K (iA b) := fun b hb => by rw [← hb]; exact hK
 have hv2 := arcsT_le t
 have hta : costT t a = if 0 ≤ a ∧ a < arcsT t then (if a % 2 = 0 then (lkAt t a).c0 else (lkAt t a).c1) else -1 := rfl
 have hat : ∀ x, t.links[(a / 2).toNat]? = some x → lkAt t a = x := fun x hx => by simp [lkAt, hx]
 generalize arcsT t = v at *
 obtain ⟨nodes, ov, links⟩ := t
 simp only [topA, boolsD, linksD] at *
 generalize hol : ov.map encB = ol at *
 generalize hll : links.map encLk = ll at *
 have hlo : Λ ol = ov.length := by rw [Λo, ← hol]; simp
 have hls : Λ ll = links.length := by rw [Λo, ← hll]; simp
 conv => cbv
 repeat' first | refine call_i hw rfl rfl ?_ | (intro hc; rw [tdiv2 (by omega) (by omega)] at hc; conv => cbv) | (intro hc; rw [tmod2 (by omega)] at hc; conv => cbv) | (intro (_ : Unit); decide) | (intro e he; obtain ⟨⟨xa, xb, xc, xd, xe, xf, xg⟩, hx, rfl⟩ := map_get' hll he; (conv => cbv)) | exact gu | exact trivial | refine And.intro ?_ ?_ | (intro hc; exact absurd hc (by decide)) | (intro hc; exfalso; omega) | (intro hc; (first | rw [wS (by omega) (by omega)] at hc | rw [nI_eq] at hc | skip); try (conv => cbv))
 ·exact leaf _ (by rw [hta, if_neg (by omega)])
 ·exact leaf _ (by rw [hta, if_neg (by omega)])
 all_goals
  refine leaf _ ?_
  rw [hta, if_pos (by omega), hat _ (get_at hx (by omega))]
 ·rw [if_pos (by omega)]
 ·rw [if_neg (by omega)]
abbrev boolsA (l : List Bool) : AV := .c (.d (boolsD l))
def ovT (t : Top) (n : Int) : Bool := validT t && decide (0 ≤ n ∧ n < t.ov.length) && t.ov.getD n.toNat false
theorem overloaded_ok (P : Program) (hP : P = Try.prog) (t : Top) (n : Int) : Ret P n_ref09_Overloaded [topA t, iA n] (bA (ovT t n)) := by
 refine ret_start (hP ▸ mixed) (hP ▸ fn_ref09_Overloaded) (hP ▸ c_ref09_Overloaded) (nle rfl) fun Λ Λo K hK => ?_
 have hw := valid_ok P hP t
 clear hP
 have leaf : ∀ b, ovT t n = b → K (bA b) := fun b hb => by rw [← hb]; exact hK
 have hta : ovT t n = (validT t && decide (0 ≤ n ∧ n < t.ov.length) && t.ov.getD n.toNat false) := rfl
 generalize ovT t n = r at *
 generalize validT t = v at *
 obtain ⟨nodes, ov, links⟩ := t
 simp only [topA, boolsD, linksD] at *
 generalize hol : ov.map encB = ol at *
 generalize hll : links.map encLk = ll at *
 have hlo : Λ ol = ov.length := by rw [Λo, ← hol]; simp
 have hls : Λ ll = links.length := by rw [Λo, ← hll]; simp
 conv => cbv
 repeat' first | refine call_b hw rfl rfl ?_ ?_ | (intro e he; obtain ⟨x, hx, rfl⟩ := map_get' hol he; (conv => cbv)) | exact gu | exact trivial | refine And.intro ?_ ?_ | (intro hc; exact absurd hc (by decide)) | (intro hc; exfalso; omega) | (intro hc; (first | rw [wS (by omega) (by omega)] at hc | rw [nI_eq] at hc | skip); try (conv => cbv))
 ·refine leaf _ (hta.trans ?_)
  rw [‹v = true›, decide_eq_true (by omega)]; simp [hx]
 ·refine leaf _ (hta.trans ?_)
  rw [decide_eq_false (by omega)]; simp
 ·refine leaf _ (hta.trans ?_)
  rw [decide_eq_false (by omega)]; simp
 ·refine leaf _ (hta.trans ?_)
  rw [hc]; simp
def upB (down : List Bool) (a : Int) : Bool := decide (down.length = 0) || !down.getD a.toNat false
def arcsTo (k : Nat) : List Int := (List.range k).map fun (k : Nat) => (k : Int)
def outT (t : Top) (n : Int) : List Int := (arcsTo (arcsT t).toNat).filter fun a => decide (tailT t a = n)
theorem arcsTo_succ (k : Nat) : arcsTo (k + 1) = arcsTo k ++ [(k : Int)] := by simp [arcsTo, List.range_succ]
theorem out_ok (P : Program) (hP : P = Try.prog) (t : Top) (n : Int) : Ret P n_ref09_Out [topA t, iA n] (intsA (outT t n)) := by
 refine ret_start (hP ▸ mixed) (hP ▸ fn_ref09_Out) (hP ▸ c_ref09_Out) (nle rfl) fun Λ Λo K hK => ?_
 have hw := arcs_ok P hP t
 have ht := tail_ok P hP t
 clear hP
 have hv2 := arcsT_le t
 have ho : outT t n = (arcsTo (arcsT t).toNat).filter fun a => decide (tailT t a = n) := rfl
 rw [ho] at hK
 clear ho
 generalize hf : tailT t = f at *
 generalize arcsT t = v at *
 obtain ⟨nodes, ov, links⟩ := t
 simp only [topA, boolsD, linksD] at *
 generalize hol : ov.map encB = ol at *
 generalize hll : links.map encLk = ll at *
 have hlo : Λ ol = ov.length := by rw [Λo, ← hol]; simp
 have hls : Λ ll = links.length := by rw [Λo, ← hll]; simp
 simp only [intsA, intsD] at hK
 conv => cbv
 repeat' first | exact gu | exact trivial | refine And.intro ?_ ?_ | (intro hc; exact absurd hc (by decide)) | (intro hc; exfalso; omega) | (intro hc; (first | rw [wS (by omega) (by omega)] at hc | rw [nI_eq] at hc | skip); try (conv => cbv))
 refine loop_up v.toNat (fun (s : Int × Nat × Nat × Bool × List (List D)) => [(1, iA n), (2, .c (.ptr 0 0 0 0)), (5, .c (.arr 1 s.2.1 0 s.2.2.1)), (6, iA s.1)]) (fun s => [.bx [.d (.int .i64 nodes), .d (.list false 1 ol), .d (.list false 7 ll)], .da s.2.2.2.1 s.2.1 1 s.2.2.2.2])
  (fun k s => s.1 = k ∧ k ≤ v.toNat ∧ s.2.2.1 = s.2.2.2.2.length ∧ s.2.2.2.2 = (((arcsTo k).filter fun a => decide (f a = n)).map encI)) (0, 0, 0, false, []) (.trans (.nilS 5 1 rfl) (Wk.cw)) ⟨rfl, by omega, rfl, rfl⟩ (fun k s h => h.2.1) ?_
 rintro k ⟨i, ve, m, r, es⟩ Q' ⟨hi, hk, hm, hes⟩ norm ex rt
 simp only at hi hm hes
 have hesl : es.length ≤ k := by
  rw [hes, List.length_map]
  refine Nat.le_trans (List.length_filter_le _ _) ?_
  simp [arcsTo]
 conv => cbv
 repeat' first | (refine ex _ _ _ ?_; (conv => cbv)) | (refine rt _ _ ?_; (conv => cbv)) | refine call_i hw rfl rfl ?_ | refine call_i (ht _) rfl rfl ?_ | (intro (_ : Unit); refine ⟨rfl, ?_⟩; simp only [List.length_cons, List.length_nil]; omega) | exact gu | exact trivial | refine And.intro ?_ ?_ | (intro hc; exact absurd hc (by decide)) | (intro hc; exfalso; omega) | (intro hc; (first | rw [wS (by omega) (by omega)] at hc | rw [nI_eq] at hc | skip); try (conv => cbv))
 ·rename_i hfi hn m' r' es' hm' hr' he' i'
  refine norm _ _ (_, _, _, _, _) ?_ (Wk.cw)
  have e : es' = ((arcsTo (k + 1)).filter fun a => decide (f a = n)).map encI := by
   rw [he', List.drop_zero, hm, List.take_length, hes, arcsTo_succ, List.filter_append, List.map_append]
   rw [← hi, List.filter_cons_of_pos (by simp only [decide_eq_true_eq]; omega)]; rfl
  exact ⟨by simp only; omega, by omega, by simp only; rw [hm', he', List.drop_zero, hm, List.take_length]; simp, e⟩
 ·rename_i hfi hn i'
  refine norm _ _ (_, _, _, _, _) ?_ (Wk.cw)
  have e : es = ((arcsTo (k + 1)).filter fun a => decide (f a = n)).map encI := by
   rw [hes, arcsTo_succ, List.filter_append, List.map_append]
   rw [← hi, List.filter_cons_of_neg (by simp only [decide_eq_true_eq]; omega)]; simp
  exact ⟨by simp only; omega, by omega, hm, e⟩
 ·rename_i ls
  have e : ls = ((arcsTo v.toNat).filter fun a => decide (f a = n)).map encI := by
   rw [hc, List.drop_zero, hm, List.take_length, hes, show k = v.toNat by omega]
  subst e
  exact hK
end Go.Ab

/-
  Arenas, part b: the arcs of each node.
-/
namespace Go.Ab
open Go.Proofs
def endG (t : Top) (fr : Bool) (a : Int) : Int := if fr then headG t a else tailG t a
def rowG (t : Top) (fr : Bool) (n : Int) (k : Nat) : List Int := (arcsTo k).filter fun a => decide (endG t fr a = n)
def rowsG (t : Top) (fr : Bool) (k : Nat) : List (List (List D)) := (List.range t.nodes.toNat).map fun (n : Nat) => (rowG t fr (n : Int) k).map encI
def encRow (l : List Int) : List D := [intsD l]
abbrev rowsA (l : List (List Int)) : AV := .c (.d (.list false 1 (l.map encRow)))
theorem rowG_len (t : Top) (fr : Bool) (n : Int) (k : Nat) : (rowG t fr n k).length ≤ k := by
 refine Nat.le_trans (List.length_filter_le _ _) (by simp [arcsTo])
theorem rowsG_len (t : Top) (fr : Bool) (k : Nat) : (rowsG t fr k).length = t.nodes.toNat := by simp [rowsG]
theorem rowsG_at {t : Top} {fr : Bool} {k n : Nat} (h : n < t.nodes.toNat) : (rowsG t fr k)[n]? = some ((rowG t fr n k).map encI) := by
 simp [rowsG, h]
theorem rowsG_zero (t : Top) (fr : Bool) : rowsG t fr 0 = List.replicate t.nodes.toNat [] := by
 refine List.ext_getElem? fun i => ?_
 rw [List.getElem?_replicate]
 rcases Nat.lt_or_ge i t.nodes.toNat with h | h
 ·rw [rowsG_at h, if_pos h]; simp [rowG, arcsTo]
 ·rw [List.getElem?_eq_none (by rw [rowsG_len]; exact h), if_neg (by omega)]
theorem rowsG_succ {t : Top} {fr : Bool} {k j : Nat} (hj : endG t fr k = j) (_hlt : j < t.nodes.toNat) : rowsG t fr (k + 1) = (rowsG t fr k).set j ((rowG t fr j k).map encI ++ [encI k]) := by
 refine List.ext_getElem? fun i => ?_
 rcases Nat.lt_or_ge i t.nodes.toNat with h | h
 ·rw [rowsG_at h]
  by_cases e : j = i
  ·subst e
   rw [List.getElem?_set_self (by rw [rowsG_len]; exact h)]
   simp [rowG, arcsTo_succ, hj]
  ·rw [List.getElem?_set_ne e, rowsG_at h]
   simp only [rowG, arcsTo_succ, List.filter_append]
   have : decide (endG t fr k = (i : Int)) = false := by rw [hj]; simp; omega
   simp [this]
 ·rw [List.getElem?_eq_none (by rw [rowsG_len]; exact h), List.getElem?_eq_none (by rw [List.length_set, rowsG_len]; exact h)]
theorem endG_range {t : Top} (hv : validT t = true) (fr : Bool) {a : Int} (h0 : 0 ≤ a) (h1 : a < 2 * t.links.length) : 0 ≤ endG t fr a ∧ endG t fr a < t.nodes := by
 have hk := okLk_spec.1 ((validT_spec.1 hv).2.2.2 _ (List.getElem_mem (l := t.links) (n := (a / 2).toNat) (by omega)))
 have hl : lkAt t a = t.links[(a / 2).toNat]'(by omega) := by rw [lkAt, lgE (by omega)]; rfl
 rw [← hl] at hk
 unfold endG headG tailG
 split <;> split <;> omega
theorem rowsA_eq (t : Top) (fr : Bool) (k : Nat) : ((rowsG t fr k).map fun l => [D.list false 1 l]) = ((List.range t.nodes.toNat).map fun (n : Nat) => rowG t fr (n : Int) k).map encRow := by
 simp [rowsG, encRow, Function.comp_def]
end Go.Ab

/-
  The arcs that leave each node.
-/
namespace Go.Ab
open Go.Proofs
theorem leaving_ok (P : Program) (hP : P = Try.prog) (t : Top) (hv : validT t = true) : Ret P n_graph_Leaving [topA t] (rowsA ((List.range t.nodes.toNat).map fun (n : Nat) => rowG t false (n : Int) (2 * t.links.length))) := by
 refine arena_start (hP ▸ mixed) (hP ▸ fn_graph_Leaving) (hP ▸ c_graph_Leaving) (nle rfl) fun Λ Λo K hK => ?_
 have v1 := validT_spec.1 hv
 have ha := garcs_ok P hP t v1.2.2.1
 have hh : ∀ a : Int, 0 ≤ a → a < 2 * t.links.length → Ret P n_graph_Tail [topA t, iA a] (iA (endG t false a)) := fun a h0 h1 => by
  have := gtail_ok P hP t a h0 h1 v1.2.2.1
  exact this
 have hr := fun a => endG_range hv false (a := a)
 have hn : ∃ nn : Nat, (nn : Int) = t.nodes := ⟨t.nodes.toNat, by omega⟩
 obtain ⟨nn, hnn⟩ := hn
 have rows0 := rowsG_zero t false
 have rstep := fun k j => @rowsG_succ t false k j
 have rat := fun k n => @rowsG_at t false k n
 have rfin := rowsA_eq t false (2 * t.links.length)
 have rlen := fun n k => rowG_len t false n k
 have rrl := rowsG_len t false
 rw [show t.nodes.toNat = nn by omega] at *
 generalize hrr : rowsG t false = rr at *
 rw [rowsA, ← rfin] at hK
 have rb : ∀ l ∈ rr (2 * t.links.length), l.length ≤ 9223372036854775807 := by
  intro l hl
  obtain ⟨i, hi⟩ := List.mem_iff_getElem?.1 hl
  have hlt : i < nn := by
   have := get_lt hi
   rw [← hrr, rowsG_len] at this; omega
  rw [rat _ _ hlt] at hi
  cases hi
  have := rlen i (2 * t.links.length)
  rw [List.length_map]; omega
 clear hP hv hrr rfin
 generalize endG t false = eg at *
 generalize rowG t false = rg at *
 obtain ⟨nodes, ov, links⟩ := t
 simp only [topA, boolsD, linksD] at *
 generalize hol : ov.map encB = ol at *
 generalize hll : links.map encLk = ll at *
 have hlo : Λ ol = ov.length := by rw [Λo, ← hol]; simp
 have hls : Λ ll = links.length := by rw [Λo, ← hll]; simp
 conv => cbv
 repeat' first | (left; intro (_ : Unit); (conv => cbv)) | refine call_i ha rfl rfl ?_ | exact gu | exact trivial | refine And.intro ?_ ?_ | (intro hc; exact absurd hc (by decide)) | (intro hc; exfalso; omega) | (intro hc; (first | rw [wS (by omega) (by omega)] at hc | rw [nI_eq] at hc | skip); try (conv => cbv))
 rename_i k0 es0 hk0 hes0 n0
 have hk1 : k0 = nn := by omega
 subst hk1
 rw [show nodes.toNat = k0 by omega] at hes0
 refine loop_up (2 * links.length) (fun (s : Int × List (List D) × Ar) => [(1, .c (.ptr 1 0 0 0)), (3, .c (.arr 2 0 0 k0)), (10, iA n0), (11, iA s.1)]) (fun s => [.am s.2.2, .bx [.d (.int .i64 nodes), .d (.list false 1 ol), .d (.list false 7 ll)], .da true 0 1 s.2.1]) (fun k s => s.1 = k ∧ k ≤ 2 * links.length ∧ RowsR 1 s.2.2 s.2.1 (rr k)) (0, es0, am0) (Wk.ca) ⟨rfl, by omega, by simp only; rw [rows0, hes0]; exact .nils 1 _ _⟩ (fun k s h => h.2.1) ?_
 rintro k ⟨i, es, m⟩ Q' ⟨hi, hk, hrow⟩ norm ex rt
 simp only at hi hrow
 have lel : es.length = k0 := by rw [hrow.len, rrl]
 by_cases hlt : k < 2 * links.length
 ·obtain ⟨r1, r2⟩ := hr i (by omega) (by omega)
  obtain ⟨j, hj⟩ : ∃ j : Nat, (j : Int) = eg i := ⟨(eg i).toNat, by omega⟩
  have hjn : j < k0 := by omega
  have hej : es[j]? = some (es[j]'(by omega)) := lgE _
  obtain ⟨d, hd⟩ := hrow.one j _ hej
  rw [hd] at hej
  have hrj := rat k j hjn
  have hst := rstep k j (by rw [← hi]; exact hj.symm) hjn
  rw [← hi] at hst
  have hrl : ((rg j k).map encI).length ≤ k := by rw [List.length_map]; exact rlen _ _
  have hra : ∀ e ∈ (rg j k).map encI ++ [encI i], e.length = 1 := by
   intro e he
   rcases List.mem_append.1 he with he | he
   ·obtain ⟨x, _, rfl⟩ := List.mem_map.1 he; rfl
   ·rw [List.mem_singleton.1 he]; rfl
  generalize (rg j k).map encI = row at *
  obtain ⟨nr, hnr⟩ : ∃ n : Nat, n = row.length := ⟨_, rfl⟩
  have hrr := hrow.row j d _ hej hrj
  unfold RowR at hrr
  rw [← hnr] at hrr
  rcases hrr with ⟨rfl, rfl⟩ | ⟨b, N, cap, rfl, hm, hs, hc1, hc2⟩
  ·conv => cbv
   repeat' first | (refine ex _ _ _ ?_; (conv => cbv)) | (refine rt _ _ ?_; (conv => cbv)) | (intro (_ : Unit); refine ⟨(fun hq => by cases hq), ?_⟩; simp only [List.length_cons, List.length_nil]; omega) | refine call_i (hh i (by omega) (by omega)) rfl rfl ?_ | (intro (k : Nat) hk; refine (fun (hz : j = k) => ?_) ?_; rotate_left; omega; subst hz; (conv => cbv)) | (intro (e : List D) he; cases osj (he.symm.trans hej); (conv => cbv)) | (right; intro (_ : Unit); (conv => cbv)) | (intro (b' : Nat) N' cap' k' m' hb' hk' hkc hcN hm'; (conv => cbv)) | exact gu | exact trivial | refine And.intro ?_ ?_ | (intro hc; exact absurd hc (by decide)) | (intro hc; exfalso; omega) | (intro hc; (first | rw [wS (by omega) (by omega)] at hc | rw [nI_eq] at hc | skip); try (conv => cbv))
   rename_i es' hes' n1
   have hk1 : k' = 1 := by rw [hk']; rfl
   refine norm _ _ (n1, es', m') ⟨by simp only; omega, by omega, ?_⟩ (Wk.ca)
   simp only
   rw [hst, hes', hm', hk1]
   exact hrow.first (l' := [encI i]) hb' hra (by simp only [List.length_cons, List.length_nil]; omega) hcN
  ·conv => cbv
   repeat' first | (refine ex _ _ _ ?_; (conv => cbv)) | (refine rt _ _ ?_; (conv => cbv)) | (intro (_ : Unit); refine ⟨(fun hq => by cases hq), ?_⟩; simp only [List.length_cons, List.length_nil]; omega) | refine call_i (hh i (by omega) (by omega)) rfl rfl ?_ | (intro (k : Nat) hk; refine (fun (hz : j = k) => ?_) ?_; rotate_left; omega; subst hz; (conv => cbv)) | (intro (e : List D) he; cases osj (he.symm.trans hej); (conv => cbv)) | (refine ⟨N, row, hm, rfl, hnr.symm, hs, hc1, hc2, ?_, ?_⟩) | (intro (b' : Nat) N' cap' k' m' hb' hk' hkc hcN hm'; (conv => cbv)) | exact gu | exact trivial | refine And.intro ?_ ?_ | (intro hc; exact absurd hc (by decide)) | (intro hc; exfalso; omega) | (intro hc; (first | rw [wS (by omega) (by omega)] at hc | rw [nI_eq] at hc | skip); try (conv => cbv))
   rename_i es' hes' n1
   have hk1 : k' = (row ++ [encI i]).length := by rw [hk', List.length_append, hnr]; rfl
   refine norm _ _ (n1, es', m') ⟨by simp only; omega, by omega, ?_⟩ (Wk.ca)
   simp only
   rw [hst, hes', hm', hk1]
   exact hrow.more hej hb' hra (hk1 ▸ hkc) hcN
 ·conv => cbv
  repeat' first | (refine ex _ _ _ ?_; (conv => cbv)) | (refine rt _ _ ?_; (conv => cbv)) | exact gu | exact trivial | refine And.intro ?_ ?_ | (intro hc; exact absurd hc (by decide)) | (intro hc; exfalso; omega) | (intro hc; (first | rw [wS (by omega) (by omega)] at hc | rw [nI_eq] at hc | skip); try (conv => cbv))
  rename_i ls
  have : ls = es := by rw [hc, List.drop_zero, List.take_of_length_le (by omega)]
  subst this
  have e : k = 2 * links.length := by omega
  subst e
  exact ⟨[.c (.d _)], ⟨.c _ _ (.d _ _ (hrow.thaw rb)), trivial⟩, hK⟩
end Go.Ab

/-
  The program's costs, masks and overloaded nodes.
-/
namespace Go.Ab
open Go.Proofs
theorem gover_ok (P : Program) (hP : P = Try.prog) (t : Top) (n : Int) (hv : validT t = true) (h0 : 0 ≤ n) (h1 : n < t.nodes) : Ret P n_graph_Over [topA t, iA n] (bA (ovT t n)) := by
 refine ret_start (hP ▸ mixed) (hP ▸ fn_graph_Over) (hP ▸ c_graph_Over) (nle rfl) fun Λ Λo K hK => ?_
 clear hP
 have v1 := validT_spec.1 hv
 have hta : ovT t n = (validT t && decide (0 ≤ n ∧ n < t.ov.length) && t.ov.getD n.toNat false) := rfl
 rw [hv] at hta
 have leaf : ∀ b, ovT t n = b → K (bA b) := fun b hb => by rw [← hb]; exact hK
 generalize ovT t n = r at *
 clear hK hv
 obtain ⟨nodes, ov, links⟩ := t
 simp only [topA, boolsD, linksD] at *
 generalize hol : ov.map encB = ol at *
 generalize hll : links.map encLk = ll at *
 have hlo : Λ ol = ov.length := by rw [Λo, ← hol]; simp
 have hls : Λ ll = links.length := by rw [Λo, ← hll]; simp
 conv => cbv
 repeat' first | (intro e he; obtain ⟨x, hx, rfl⟩ := map_get' hol he; (conv => cbv)) | exact gu | exact trivial | refine And.intro ?_ ?_ | (intro hc; exact absurd hc (by decide)) | (intro hc; exfalso; omega) | (intro hc; (first | rw [wS (by omega) (by omega)] at hc | rw [nI_eq] at hc | skip); try (conv => cbv))
 ·refine leaf _ (hta.trans ?_)
  rw [decide_eq_true (by omega)]; simp [hx]
 ·refine leaf _ (hta.trans ?_)
  rw [decide_eq_false (by omega)]; simp
theorem gdown_ok (P : Program) (hP : P = Try.prog) (down : List Bool) (a : Int) (h : down.length = 0 ∨ (0 ≤ a ∧ a < down.length)) : Ret P n_graph_Down [boolsA down, iA a] (bA (!upB down a)) := by
 refine ret_start (hP ▸ mixed) (hP ▸ fn_graph_Down) (hP ▸ c_graph_Down) (nle rfl) fun Λ Λo K hK => ?_
 clear hP
 have leaf : ∀ b, (!upB down a) = b → K (bA b) := fun b hb => by rw [← hb]; exact hK
 have hta : upB down a = (decide (down.length = 0) || !down.getD a.toNat false) := rfl
 generalize upB down a = r at *
 simp only [boolsA, boolsD] at *
 generalize hdl : down.map encB = dl at *
 have hdn : Λ dl = down.length := by rw [Λo, ← hdl]; simp
 clear hK
 conv => cbv
 repeat' first | (intro e he; obtain ⟨x, hx, rfl⟩ := map_get' hdl he; (conv => cbv)) | exact gu | exact trivial | refine And.intro ?_ ?_ | (intro hc; exact absurd hc (by decide)) | (intro hc; exfalso; omega) | (intro hc; (first | rw [wS (by omega) (by omega)] at hc | rw [nI_eq] at hc | skip); try (conv => cbv))
 ·refine leaf _ ?_
  rw [hta, decide_eq_false (by omega)]; simp [hx]
 ·refine leaf _ ?_
  rw [hta, decide_eq_true (by omega)]; simp
theorem gfits_ok (P : Program) (hP : P = Try.prog) (t : Top) (down : List Bool) (h : (t.links.length : Int) ≤ 256) : Ret P n_graph_Fits [topA t, boolsA down] (bA (decide (down.length = 0 ∨ down.length = 2 * t.links.length))) := by
 refine ret_start (hP ▸ mixed) (hP ▸ fn_graph_Fits) (hP ▸ c_graph_Fits) (nle rfl) fun Λ Λo K hK => ?_
 have ha := garcs_ok P hP t h
 clear hP
 have yes := yes_of hK
 have no := no_of hK
 simp only [boolsA, boolsD] at *
 generalize hdl : down.map encB = dl at *
 have hdn : Λ dl = down.length := by rw [Λo, ← hdl]; simp
 obtain ⟨nodes, ov, links⟩ := t
 simp only [topA, boolsD, linksD] at *
 generalize hol : ov.map encB = ol at *
 generalize hll : links.map encLk = ll at *
 have hlo : Λ ol = ov.length := by rw [Λo, ← hol]; simp
 have hls : Λ ll = links.length := by rw [Λo, ← hll]; simp
 conv => cbv
 repeat' first | refine call_i ha rfl rfl ?_ | exact gu | exact trivial | refine And.intro ?_ ?_ | (intro hc; exact absurd hc (by decide)) | (intro hc; exfalso; omega) | (intro hc; (first | rw [wS (by omega) (by omega)] at hc | rw [nI_eq] at hc | skip); try (conv => cbv))
 ·exact yes (by omega)
 ·exact yes (by omega)
 ·exact no (by omega)
theorem gcost_ok (P : Program) (hP : P = Try.prog) (t : Top) (a : Int) (hv : validT t = true) (h0 : 0 ≤ a) (h1 : a < 2 * t.links.length) : Ret P n_graph_Cost [topA t, iA a] (iA (costT t a)) := by
 refine ret_start (hP ▸ mixed) (hP ▸ fn_graph_Cost) (hP ▸ c_graph_Cost) (nle rfl) fun Λ Λo K hK => ?_
 clear hP
 have v1 := validT_spec.1 hv
 have harc : arcsT t = 2 * t.links.length := by rw [arcsT, if_pos hv]
 have leaf : ∀ b, costT t a = b → K (iA b) := fun b hb => by rw [← hb]; exact hK
 have hta : costT t a = if 0 ≤ a ∧ a < arcsT t then (if a % 2 = 0 then (lkAt t a).c0 else (lkAt t a).c1) else -1 := rfl
 rw [if_pos (by omega)] at hta
 have hat : ∀ x, t.links[(a / 2).toNat]? = some x → lkAt t a = x := fun x hx => by simp [lkAt, hx]
 generalize costT t a = cc at *
 clear hK hv harc
 obtain ⟨nodes, ov, links⟩ := t
 simp only [topA, boolsD, linksD] at *
 generalize hol : ov.map encB = ol at *
 generalize hll : links.map encLk = ll at *
 have hlo : Λ ol = ov.length := by rw [Λo, ← hol]; simp
 have hls : Λ ll = links.length := by rw [Λo, ← hll]; simp
 conv => cbv
 repeat' first | (intro hc; rw [tdiv2 (by omega) (by omega)] at hc; conv => cbv) | (intro hc; rw [tmod2 (by omega)] at hc; conv => cbv) | (intro (_ : Unit); decide) | (intro e he; obtain ⟨⟨xa, xb, xc, xd, xe, xf, xg⟩, hx, rfl⟩ := map_get' hll he; (conv => cbv)) | exact gu | exact trivial | refine And.intro ?_ ?_ | (intro hc; exact absurd hc (by decide)) | (intro hc; exfalso; omega) | (intro hc; (first | rw [wS (by omega) (by omega)] at hc | rw [nI_eq] at hc | skip); try (conv => cbv))
 all_goals
  refine leaf _ ?_
  rw [hta, hat _ (get_at hx (by omega))]
 ·rw [if_pos (by omega)]
 ·rw [if_neg (by omega)]
end Go.Ab

/-
  The search for the next deviation: its bounds.
-/
namespace Go.Ab
open Go.Proofs
theorem nodup_bound : ∀ (n : Nat) (l : List Int), l.Nodup → (∀ x ∈ l, 0 ≤ x ∧ x < n) → l.length ≤ n
 | 0, [], _, _ => by simp
 | 0, x :: l, _, h => by have := h x (by simp); omega
 |n + 1, l, hn, h => by
  by_cases hm : (n : Int) ∈ l
  ·have h1 := List.length_erase_of_mem hm
   have h2 := nodup_bound n (l.erase n) (hn.erase _) fun x hx => by
    have h3 := (hn.mem_erase_iff).1 hx
    have := h x h3.2
    have h4 := h3.1
    omega
   omega
  ·have := nodup_bound n l hn fun x hx => by
    have h4 : x ≠ n := fun e => hm (e ▸ hx)
    have := h x hx
    omega
   omega
variable {g : SV}
theorem SV.WL.arcs {l : Lb} (h : g.WL l) : ∀ a ∈ l.arcs, 0 ≤ a ∧ a < g.M := by
 induction h with
 | ini => intro a ha; simp [SV.ini] at ha
 | ext h _ _ hp ih =>
  intro a ha
  simp only [SV.ext, List.mem_append, List.mem_singleton] at ha
  rcases ha with ha | rfl
  ·exact ih a ha
  ·exact hp.r
theorem SV.WL.big {B : Int} {l : Lb} (h : g.WL l) (hc : ∀ a : Int, 0 ≤ a → a < g.M → g.co a ≤ B ∧ g.de a ≤ B) : l.cost ≤ l.arcs.length * B ∧ l.delay ≤ g.d0 + l.arcs.length * B := by
 induction h with
 | ini => simp [SV.ini]
 | @ext l a h _ _ hp ih =>
  have := hc a hp.r.1 hp.r.2
  simp only [SV.ext, List.length_append, List.length_cons, List.length_nil]
  have e : ((l.arcs.length + (0 + 1) : Nat) : Int) * B = l.arcs.length * B + B := by
   push_cast; rw [Int.add_mul, Int.one_mul]
  rw [e]
  omega
theorem SV.DI.lenA (hg : g.Ok) {A Q : List Lb} {least : Int → Int} {P : Lb → Int → Prop} (h : g.DI P A Q least) {l : Lb} (hl : l ∈ A) : l.arcs.length + 1 ≤ g.N := by
 have := nodup_bound g.N _ (h.c7 l hl) fun x hx => by
  rcases List.mem_cons.1 hx with rfl | hx
  ·exact hg.n0
  ·obtain ⟨a, ha, rfl⟩ := List.mem_map.1 hx
   have := (h.w l (.inl hl)).arcs a ha
   exact hg.hdr a this.1 this.2
 simpa using this
theorem SV.DI.lenQ (hg : g.Ok) {A Q : List Lb} {least : Int → Int} {P : Lb → Int → Prop} (h : g.DI P A Q least) {q : Lb} (hq : q ∈ Q) : q.arcs.length ≤ g.N := by
 rcases h.c8 q hq with rfl | ⟨l, hl, a, rfl, _⟩
 ·simp [SV.ini]
 ·have := h.lenA hg hl
  simp only [SV.ext, List.length_append, List.length_cons, List.length_nil]
  omega
def phi (Q : List Lb) : Nat := (Q.map fun l => 23 ^ (8 - l.arcs.length)).sum
theorem phi_cons (q : Lb) (Q : List Lb) : phi (q :: Q) = 23 ^ (8 - q.arcs.length) + phi Q := by simp [phi]
theorem phi_perm {Q Q' : List Lb} (h : Q.Perm Q') : phi Q = phi Q' := (h.map _).sum_nat
theorem phi_len (Q : List Lb) : Q.length ≤ phi Q := by
 induction Q with
 | nil => simp
 | cons q Q ih =>
  rw [phi_cons, List.length_cons]
  have := Nat.pow_pos (n := 8 - q.arcs.length) (show 0 < 23 by decide)
  omega
theorem phi_step {k : Nat} (hk : k ≤ 7) : 23 ^ (8 - k) = 23 * 23 ^ (8 - (k + 1)) ∧ 0 < 23 ^ (8 - (k + 1)) := by
 refine ⟨?_, Nat.pow_pos (by decide)⟩
 rw [show 8 - k = (8 - (k + 1)) + 1 by omega, Nat.pow_succ, Nat.mul_comm]
def lsF (ls : List Int) (v : Int) : Int := if 0 ≤ v then ls.getD v.toNat (-1) else -1
theorem lsF_set {ls : List Int} {j : Nat} {x : Int} (hj : j < ls.length) (v : Int) : lsF (ls.set j x) v = if v = j then x else lsF ls v := by
 unfold lsF
 by_cases h0 : 0 ≤ v
 ·rw [if_pos h0, if_pos h0]
  by_cases e : v = j
  ·subst e; simp [List.getD_eq_getElem?_getD, hj]
  ·rw [if_neg e]
   have : ¬ j = v.toNat := by omega
   simp [List.getD_eq_getElem?_getD, this]
 ·rw [if_neg h0, if_neg h0, if_neg (by omega)]
theorem lsF_at {ls : List Int} {j : Nat} (hj : j < ls.length) : (ls.map encI)[j]? = some [iD (lsF ls j)] := by
 simp [lsF, encI, hj]
def devG (t : Top) (down : List Bool) (us : Int → Bool) (n d most : Int) (root : List Int) : SV :=
  { tl := tailG t, hd := headG t, co := costT t, de := fun a => if 0 < most then (lkAt t a).dl else 0, dn := fun a => !upB down a, ov := ovT t, us := us, cl := fun v => v ∈ root.map (tailG t), n := n, d := d, most := most,
    d0 := (root.map fun a => if 0 < most then (lkAt t a).dl else 0).sum, M := 2 * t.links.length, N := t.nodes.toNat }
theorem lk_ok {t : Top} (hv : validT t = true) {a : Int} (h0 : 0 ≤ a) (h1 : a < 2 * t.links.length) : okLk t.nodes (lkAt t a) = true := by
 have hk := (validT_spec.1 hv).2.2.2 _ (List.getElem_mem (l := t.links) (n := (a / 2).toNat) (by omega))
 have hl : lkAt t a = t.links[(a / 2).toNat]'(by omega) := by rw [lkAt, lgE (by omega)]; rfl
 rw [hl]; exact hk
theorem cost_rg {t : Top} (hv : validT t = true) {a : Int} (h0 : 0 ≤ a) (h1 : a < 2 * t.links.length) : 1 ≤ costT t a ∧ costT t a ≤ 65535 := by
 have := okLk_spec.1 (lk_ok hv h0 h1)
 rw [costT, arcsT, if_pos hv, if_pos ⟨h0, h1⟩]
 split <;> omega
theorem devG_ok {t : Top} {down : List Bool} {us : Int → Bool} {n d most : Int} {root : List Int} (hv : validT t = true) (hn : 0 ≤ n ∧ n < t.nodes) (hr : ∀ a ∈ root, 0 ≤ a ∧ a < 2 * t.links.length) (hnc : n ∉ root.map (tailG t)) (hdc : d ∉ root.map (tailG t)) :
  (devG t down us n d most root).Ok where
 hdr a h0 h1 := by
  have := endG_range hv true (a := a) h0 (by simpa [devG] using h1)
  have h2 := (validT_spec.1 hv).1
  simp only [devG]
  simp only [endG, if_true] at this
  omega
 co0 a h0 h1 := by
  have := cost_rg hv (a := a) h0 (by simpa [devG] using h1)
  simp only [devG]; omega
 de0 a h0 h1 := by
  have := okLk_spec.1 (lk_ok hv (a := a) h0 (by simpa [devG] using h1))
  simp only [devG]; split <;> omega
 n0 := by
  have h2 := (validT_spec.1 hv).1
  simp only [devG]; omega
 ncl := hnc
 dcl := hdc
 d00 := by
  simp only [devG]
  clear hnc hdc
  induction root with
  | nil => simp
  | cons a r ih =>
   have h1 := hr a (by simp)
   have := okLk_spec.1 (lk_ok hv h1.1 h1.2)
   have h3 := ih fun x hx => hr x (List.mem_cons_of_mem _ hx)
   simp only [List.map_cons, List.sum_cons]
   obtain ⟨s, hs⟩ : ∃ s, s = (List.map (fun a => if 0 < most then (lkAt t a).dl else 0) r).sum := ⟨_, rfl⟩
   rw [← hs] at h3 ⊢
   split <;> omega
theorem row_mem {t : Top} {n a : Int} {k : Nat} : a ∈ rowG t false n k ↔ (0 ≤ a ∧ a < k) ∧ tailG t a = n := by
 have e : endG t false a = tailG t a := rfl
 rw [rowG, List.mem_filter, decide_eq_true_eq, e]
 refine and_congr ?_ Iff.rfl
 clear e
 induction k with
 | zero => simp [arcsTo]
 | succ k ih => rw [arcsTo_succ, List.mem_append, ih, List.mem_singleton]; omega
end Go.Ab

/-
  Good paths, plainly, and the ways that a search goes on.
-/
namespace Go.Ab
open Go.Proofs
def endN (hd : Int → Int) : Int → List Int → Int
 | v, [] => v
 | _, a :: r => endN hd (hd a) r
theorem endN_app (hd : Int → Int) : ∀ (v : Int) (p q : List Int), endN hd v (p ++ q) = endN hd (endN hd v p) q
 | _, [], _ => rfl
 | _, a :: r, q => endN_app hd (hd a) r q
theorem endN_mem (hd : Int → Int) : ∀ (v : Int) (p : List Int), endN hd v p ∈ v :: p.map hd
 | v, [] => by simp [endN]
 |v, a :: r => by
  have := endN_mem hd (hd a) r
  rw [List.map_cons]
  exact List.mem_cons_of_mem _ this
theorem cut_cases {a b : Int} {l q1 q2 : List Int} (h : l ++ [a] = q1 ++ b :: q2) : (q2 = [] ∧ q1 = l ∧ b = a) ∨ ∃ q3, q2 = q3 ++ [a] ∧ l = q1 ++ b :: q3 := by
 rcases List.eq_nil_or_concat q2 with rfl | ⟨q3, c, rfl⟩
 ·obtain ⟨h1, h2⟩ := List.append_inj' h rfl
  cases h2
  exact .inl ⟨rfl, h1.symm, rfl⟩
 ·have h : l ++ [a] = (q1 ++ b :: q3) ++ [c] := by rw [h]; simp
  obtain ⟨h1, h2⟩ := List.append_inj' h rfl
  cases h2
  exact .inr ⟨q3, by simp, h1⟩
variable (g : SV)
structure SV.StepW (q1 : List Int) (a : Int) : Prop where
 r : 0 ≤ a ∧ a < g.M
 t : g.tl a = endN g.hd g.n q1
 dn : g.dn a = false
 us : q1 = [] → g.us a = false
 md : q1 ≠ [] → ¬ g.cl (endN g.hd g.n q1) ∧ endN g.hd g.n q1 ≠ g.n ∧ g.ov (endN g.hd g.n q1) = false
 nd : endN g.hd g.n q1 ≠ g.d
 de : g.d0 + ((q1 ++ [a]).map g.de).sum ≤ g.most
def SV.WQ (q : List Int) : Prop := ∀ q1 a q2, q = q1 ++ a :: q2 → g.StepW q1 a
variable {g}
theorem SV.WL.flat {l : Lb} (h : g.WL l) : l.node = endN g.hd g.n l.arcs ∧ l.cost = (l.arcs.map g.co).sum ∧ l.delay = g.d0 + (l.arcs.map g.de).sum ∧ g.WQ l.arcs := by
 induction h with
 | ini => exact ⟨rfl, rfl, by simp [SV.ini], fun q1 a q2 h => by simp [SV.ini] at h⟩
 | @ext l a h hm hd hp ih =>
  obtain ⟨h1, h2, h3, h4⟩ := ih
  refine ⟨by simp [SV.ext, endN_app, endN], by simp [SV.ext, h2], by simp only [SV.ext, List.map_append, List.sum_append, List.map_cons, List.map_nil, List.sum_cons, List.sum_nil]; omega, fun q1 b q2 e => ?_⟩
  rcases cut_cases e with ⟨rfl, rfl, rfl⟩ | ⟨q3, rfl, e2⟩
  ·have hde := hp.de
   rw [h1] at hm hd
   exact ⟨hp.r, by rw [hp.t, h1], hp.dn, hp.us, hm, hd, by simp only [List.map_append, List.sum_append, List.map_cons, List.map_nil, List.sum_cons, List.sum_nil]; omega⟩
  ·exact h4 q1 b q3 e2
theorem SV.WQ.wl : ∀ (k : Nat) (q : List Int), q.length = k → g.WQ q → ∃ l, g.WL l ∧ l.arcs = q
 |0, q, hk, _ => by
  obtain rfl := List.length_eq_zero_iff.1 hk
  exact ⟨g.ini, .ini, rfl⟩
 |k + 1, q, hk, h => by
  rcases List.eq_nil_or_concat q with rfl | ⟨q3, a, rfl⟩
  ·simp at hk
  ·obtain ⟨l, hl, rfl⟩ := SV.WQ.wl k q3 (by simpa using hk) fun q1 b q2 e => h q1 b (q2 ++ [a]) (by rw [e]; simp)
   obtain ⟨h1, h2, h3, _⟩ := hl.flat
   have hs := h l.arcs a [] (by simp)
   refine ⟨g.ext l a, .ext hl (by rw [h1]; exact hs.md) (by rw [h1]; exact hs.nd) ⟨hs.r, by rw [hs.t, h1], hs.dn, hs.us, ?_⟩, by simp [SV.ext]⟩
   have := hs.de
   simp only [List.map_append, List.sum_append, List.map_cons, List.map_nil, List.sum_cons, List.sum_nil] at this
   omega
def costP (t : Top) (p : List Int) : Int := (p.map (costT t)).sum
def ltP (t : Top) (p q : List Int) : Prop := ordS (costP t p) (costP t q) p q < 0
def leP (t : Top) (p q : List Int) : Prop := ordS (costP t p) (costP t q) p q ≤ 0
theorem leP_trans {t : Top} {p q r : List Int} (h1 : leP t p q) (h2 : leP t q r) : leP t p r := ordS_trans h1 h2
theorem ltP_iff {t : Top} {p q : List Int} : ltP t p q ↔ leP t p q ∧ p ≠ q := by
 unfold ltP leP
 constructor
 ·intro h
  refine ⟨by omega, ?_⟩
  rintro rfl
  rw [ordS_self] at h; omega
 ·rintro ⟨h1, h2⟩
  have : ordS (costP t p) (costP t q) p q ≠ 0 := fun e => h2 (ordS_z e).2
  omega
theorem leP_anti {t : Top} {p q : List Int} (h1 : leP t p q) (h2 : leP t q p) : p = q := by
 rcases Classical.em (p = q) with e | e
 ·exact e
 ·have h3 := ltP_iff.2 ⟨h1, e⟩
  unfold ltP at h3; unfold leP at h2; rw [ordS_neg] at h2; omega
theorem ltP_trans {t : Top} {p q r : List Int} (h1 : ltP t p q) (h2 : ltP t q r) : ltP t p r := by
 rw [ltP_iff] at h1 h2 ⊢
 refine ⟨leP_trans h1.1 h2.1, ?_⟩
 rintro rfl
 exact h1.2 (leP_anti h1.1 h2.1)
theorem lexC_pre : ∀ (r : List Int) {a b : List Int}, lexC (r ++ a) (r ++ b) = lexC a b
 | [], _, _ => rfl
 | x :: r, a, b => by rw [List.cons_append, List.cons_append, lexC, if_neg (by omega), if_neg (by omega)]; exact lexC_pre r
theorem leP_pre {t : Top} (r : List Int) {a b : List Int} : leP t (r ++ a) (r ++ b) ↔ leP t a b := by
 unfold leP
 rw [ordS_le, ordS_le, lexC_pre]
 simp only [costP, List.map_append, List.sum_append, List.length_append]
 omega
structure GoodP (t : Top) (down : List Bool) (s d most : Int) (p : List Int) : Prop where
 st : ∀ (p1 : List Int) (a : Int) (p2 : List Int), p = p1 ++ a :: p2 → (0 ≤ a ∧ a < 2 * t.links.length) ∧ tailG t a = endN (headG t) s p1 ∧ upB down a = true ∧ (p1 ≠ [] → ovT t (endN (headG t) s p1) = false)
 en : endN (headG t) s p = d
 nd : (s :: p.map (headG t)).Nodup
 de : 0 < most → (p.map fun a => (lkAt t a).dl).sum ≤ most
theorem tails_nodes {hd tl : Int → Int} : ∀ (p : List Int) (s : Int), (∀ p1 a p2, p = p1 ++ a :: p2 → tl a = endN hd s p1) → p.map tl = (s :: p.map hd).take p.length
 | [], _, _ => rfl
 |a :: r, s, h => by
  have h0 := h [] a r rfl
  have ih := tails_nodes r (hd a) fun p1 b p2 e => h (a :: p1) b p2 (by rw [e]; rfl)
  rw [List.map_cons, List.length_cons, List.take_succ_cons, ih, List.map_cons, h0]
  rfl
theorem sum_le_pre {f : Int → Int} : ∀ (p q : List Int), (∀ a ∈ q, 0 ≤ f a) → (p.map f).sum ≤ ((p ++ q).map f).sum
 |p, q, h => by
  have : 0 ≤ (q.map f).sum := by
   induction q with
   | nil => simp
   | cons a r ih =>
    have h1 := h a (by simp)
    have h2 := ih fun b hb => h b (List.mem_cons_of_mem _ hb)
    simp only [List.map_cons, List.sum_cons]; omega
  rw [List.map_append, List.sum_append]; omega
structure RootP (t : Top) (down : List Bool) (s d most : Int) (r : List Int) : Prop where
 st : ∀ (p1 : List Int) (a : Int) (p2 : List Int), r = p1 ++ a :: p2 → (0 ≤ a ∧ a < 2 * t.links.length) ∧ tailG t a = endN (headG t) s p1 ∧ upB down a = true ∧ (p1 ≠ [] → ovT t (endN (headG t) s p1) = false)
 nd : (s :: r.map (headG t)).Nodup
 ov : r ≠ [] → ovT t (endN (headG t) s r) = false
 dm : d ∉ r.map (tailG t)
theorem RootP.nil (t : Top) (down : List Bool) (s d most : Int) : RootP t down s d most [] where
 st p1 a p2 h := by simp at h
 nd := by simp
 ov h := absurd rfl h
 dm := by simp
theorem GoodP.root {t : Top} {down : List Bool} {s d most : Int} {p : List Int} (h : GoodP t down s d most p) {i : Nat} (hi : i < p.length) : RootP t down s d most (p.take i) ∧ endN (headG t) s (p.take i) ≠ d := by
 have hcut : p = p.take i ++ p[i] :: p.drop (i + 1) := by rw [← List.drop_eq_getElem_cons hi, List.take_append_drop]
 have hst : ∀ p1 a p2, p.take i = p1 ++ a :: p2 → p = p1 ++ a :: (p2 ++ p.drop i) := fun p1 a p2 e => by
  have h1 := List.take_append_drop i p
  rw [e] at h1
  rw [List.append_assoc] at h1
  exact h1.symm
 have hdn : d ∉ (s :: (p.take i).map (headG t)) := by
  have h1 := h.nd
  rw [hcut, List.map_append, ← List.cons_append, List.nodup_append] at h1
  intro hm
  have h2 := h.en
  rw [hcut, endN_app] at h2
  have h3 := endN_mem (headG t) (headG t p[i]) (p.drop (i + 1))
  exact h1.2.2 _ hm d (by rw [← h2]; exact h3) rfl
 refine ⟨⟨fun p1 a p2 e => h.st p1 a _ (hst p1 a p2 e), ?_, fun hne => (h.st _ _ _ hcut).2.2.2 hne, fun hm => ?_⟩, fun e => ?_⟩
 ·have h1 := h.nd
  rw [hcut, List.map_append, ← List.cons_append, List.nodup_append] at h1
  exact h1.1
 ·rw [tails_nodes (hd := headG t) (p.take i) s fun p1 a p2 e => (h.st p1 a _ (hst p1 a p2 e)).2.1] at hm
  exact hdn (List.mem_of_mem_take hm)
 ·exact hdn (by rw [← e]; exact endN_mem _ _ _)
theorem RootP.ncl {t : Top} {down : List Bool} {s d most : Int} {r : List Int} (h : RootP t down s d most r) : endN (headG t) s r ∉ r.map (tailG t) := by
 rw [tails_nodes (hd := headG t) r s fun p1 a p2 e => (h.st p1 a p2 e).2.1]
 have key : ∀ (r : List Int) (s : Int), (s :: r.map (headG t)).Nodup → endN (headG t) s r ∉ (s :: r.map (headG t)).take r.length := by
  intro r
  induction r with
  | nil => intro s _; simp
  | cons a r ih =>
   intro s hn
   have h1 := ih (headG t a) (List.nodup_cons.1 hn).2
   rw [List.length_cons, List.take_succ_cons, List.mem_cons, not_or]
   refine ⟨fun e => ?_, h1⟩
   have h2 := endN_mem (headG t) (headG t a) r
   have h3 := (List.nodup_cons.1 hn).1
   have e : endN (headG t) (headG t a) r = s := e
   rw [e] at h2
   exact h3 h2
 exact key r s h.nd
theorem nodes_join {t : Top} {s : Int} {r q : List Int} (hr : ∀ p1 a p2, r = p1 ++ a :: p2 → tailG t a = endN (headG t) s p1) : s :: (r ++ q).map (headG t) = r.map (tailG t) ++ endN (headG t) s r :: q.map (headG t) := by
 induction r generalizing s with
 | nil => rfl
 | cons a r ih =>
  have h0 := hr [] a r rfl
  have := ih (s := headG t a) fun p1 b p2 e => hr (a :: p1) b p2 (by rw [e]; rfl)
  rw [List.map_cons, List.cons_append, List.cons_append, List.map_cons, this, h0]
  rfl
theorem sum_ite {t : Top} {most : Int} (p : List Int) : (p.map fun a => if 0 < most then (lkAt t a).dl else 0).sum = if 0 < most then (p.map fun a => (lkAt t a).dl).sum else 0 := by
 by_cases h : 0 < most
 ·simp [h]
 ·simp only [if_neg h]
  induction p with
  | nil => rfl
  | cons a r ih => simpa using ih
section
variable {t : Top} {down : List Bool} {s d most : Int} {r : List Int} {us : Int → Bool} (hv : validT t = true) (hm : 0 ≤ most) (hr : RootP t down s d most r)
include hv hm hr
theorem good_wq {q : List Int} (h : GoodP t down s d most (r ++ q)) (hu : ∀ a q', q = a :: q' → us a = false) : (devG t down us (endN (headG t) s r) d most r).WQ q ∧ endN (headG t) (endN (headG t) s r) q = d ∧
  (q = [] ∨ (d ∉ r.map (tailG t) ∧ d ≠ endN (headG t) s r)) ∧ (endN (headG t) s r :: q.map (headG t)).Nodup := by
 have hen := h.en
 rw [endN_app] at hen
 have hnd := h.nd
 rw [nodes_join fun p1 a p2 e => (hr.st p1 a p2 e).2.1, List.nodup_append] at hnd
 have hend : ∀ q1 a q2, q = q1 ++ a :: q2 → endN (headG t) (endN (headG t) s r) q1 ≠ d := fun q1 a q2 e e2 => by
  have h1 := hnd.2.1
  rw [e, List.map_append, ← List.cons_append, List.nodup_append] at h1
  rw [e, endN_app] at hen
  exact h1.2.2 _ (endN_mem _ _ q1) _ (by rw [List.map_cons]; exact endN_mem (headG t) (headG t a) q2) (by rw [e2, ← hen]; rfl)
 refine ⟨fun q1 a q2 e => ?_, hen, ?_, hnd.2.1⟩
 ·have h1 := h.st (r ++ q1) a q2 (by rw [e]; simp)
  rw [endN_app] at h1
  refine ⟨by simpa [devG] using h1.1, h1.2.1, ?_, fun e0 => hu a q2 (by rw [e, e0]; rfl), fun hne => ⟨fun hc => ?_, fun hc => ?_, h1.2.2.2 (by simp [hne])⟩, hend q1 a q2 e, ?_⟩
  ·simp [devG, h1.2.2.1]
  ·refine hnd.2.2 _ hc _ ?_ rfl
   have := endN_mem (headG t) (endN (headG t) s r) q1
   rw [e, List.map_append, ← List.cons_append]
   exact List.mem_append_left _ this
  ·have h2 := hnd.2.1
   rcases List.eq_nil_or_concat q1 with rfl | ⟨q3, b, rfl⟩
   ·exact hne rfl
   ·rw [e] at h2
    rw [List.nodup_cons] at h2
    refine h2.1 ?_
    have hc : endN (headG t) (endN (headG t) s r) (q3.concat b) = endN (headG t) s r := hc
    rw [List.concat_eq_append, endN_app] at hc
    rw [← hc]
    simp [endN]
  ·have h5 := h.de
   simp only [devG]
   rw [← List.sum_append, ← List.map_append, sum_ite]
   split
   ·rename_i h0
    have h6 := h5 h0
    have e3 : r ++ q = (r ++ (q1 ++ [a])) ++ q2 := by rw [e]; simp
    have h7 := sum_le_pre (f := fun a => (lkAt t a).dl) (r ++ (q1 ++ [a])) q2 fun b hb => by
     have hq := (h.st ((r ++ q1 ++ [a]) ++ q2.take (q2.idxOf b)) b (q2.drop (q2.idxOf b + 1)) (by
      have hi := List.idxOf_lt_length_iff.2 hb
      have : q2 = q2.take (q2.idxOf b) ++ b :: q2.drop (q2.idxOf b + 1) := by
       have h8 := List.drop_eq_getElem_cons hi
       rw [List.getElem_idxOf] at h8
       rw [← h8, List.take_append_drop]
      rw [e]
      conv => lhs; rw [this]
      simp)).1
     have := okLk_spec.1 (lk_ok hv hq.1 hq.2)
     omega
    rw [← e3] at h7
    omega
   ·omega
 ·by_cases hq : q = []
  ·exact .inl hq
  ·obtain ⟨a, q', rfl⟩ := List.exists_cons_of_ne_nil hq
   exact .inr ⟨hr.dm, fun e => hend [] a q' rfl e.symm⟩
theorem wq_good {q : List Int} (h : (devG t down us (endN (headG t) s r) d most r).WQ q) (hn : (endN (headG t) s r :: q.map (headG t)).Nodup) (he : endN (headG t) (endN (headG t) s r) q = d) (h0 : q = [] → 0 < most → (r.map fun a => (lkAt t a).dl).sum ≤ most) : GoodP t down s d most (r ++ q) := by
 have _ := hv
 have _ := hm
 refine ⟨fun p1 a p2 e => ?_, by rw [endN_app]; exact he, ?_, fun hm0 => ?_⟩
 ·rcases List.append_eq_append_iff.1 e with ⟨q1, h1, h2⟩ | ⟨q1, h1, h2⟩
  ·have hs := h q1 a p2 h2
   subst h1
   rw [endN_app]
   refine ⟨by have := hs.r; simpa [devG] using this, hs.t, ?_, fun hne => ?_⟩
   ·have := hs.dn; simpa [devG] using this
   ·by_cases hq1 : q1 = []
    ·subst hq1
     exact hr.ov (by simpa using hne)
    ·exact (hs.md hq1).2.2
  ·cases q1 with
   | nil =>
    have hs := h [] a p2 (by simpa using h2.symm)
    have e1 : p1 = r := by simpa using h1.symm
    subst e1
    refine ⟨by have := hs.r; simpa [devG] using this, hs.t, ?_, fun hne => hr.ov hne⟩
    have := hs.dn; simpa [devG] using this
   | cons b q1 =>
    rw [List.cons_append] at h2
    obtain ⟨rfl, h3⟩ := List.cons.inj h2
    exact hr.st p1 a q1 h1
 ·rw [nodes_join fun p1 a p2 e => (hr.st p1 a p2 e).2.1, List.nodup_append]
  refine ⟨?_, hn, fun x hx y hy exy => ?_⟩
  ·rw [tails_nodes (hd := headG t) r s fun p1 a p2 e => (hr.st p1 a p2 e).2.1]
   exact hr.nd.sublist (List.take_sublist _ _)
  ·subst exy
   rcases List.mem_cons.1 hy with rfl | hy
   ·exact hr.ncl hx
   ·obtain ⟨a, ha, rfl⟩ := List.mem_map.1 hy
    obtain ⟨q1, q2, rfl⟩ := List.append_of_mem ha
    cases q2 with
    | nil =>
     rw [endN_app] at he
     have he : headG t a = d := he
     rw [he] at hx
     exact hr.dm hx
    | cons b q2 =>
     have hs := (h (q1 ++ [a]) b q2 (by simp)).md (by simp)
     refine hs.1 ?_
     have e2 : endN (devG t down us (endN (headG t) s r) d most r).hd (devG t down us (endN (headG t) s r) d most r).n (q1 ++ [a]) = headG t a := by rw [endN_app]; rfl
     rw [e2]
     exact hx
 ·rcases List.eq_nil_or_concat q with rfl | ⟨q3, a, rfl⟩
  ·simpa using h0 rfl hm0
  ·have := (h q3 a [] (by simp)).de
   simp only [devG] at this
   rw [← List.sum_append, ← List.map_append, sum_ite, if_pos hm0] at this
   simpa using this
theorem dev_good (g : SV) (hg : g = devG t down us (endN (headG t) s r) d most r) (hd0 : 0 < most → endN (headG t) s r = d → (r.map fun a => (lkAt t a).dl).sum ≤ most) : ∀ o, g.DevO o → match o with
  | some q => GoodP t down s d most (r ++ q) ∧ (∀ a q', q = a :: q' → us a = false) ∧ ∀ q2, GoodP t down s d most (r ++ q2) → (∀ a q', q2 = a :: q' → us a = false) → leP t (r ++ q) (r ++ q2)
  |none => ∀ q2, (∀ a q', q2 = a :: q' → us a = false) → ¬ GoodP t down s d most (r ++ q2) := by
 subst hg
 have ov : ∀ q2, GoodP t down s d most (r ++ q2) → (∀ a q', q2 = a :: q' → us a = false) → ∃ l, (devG t down us (endN (headG t) s r) d most r).WL l ∧ l.arcs = q2 ∧ l.node = d ∧ (devG t down us (endN (headG t) s r) d most r).GE l ∧ l.cost = costP t q2 := fun q2 h1 h2 => by
  obtain ⟨a1, a2, a3, a4⟩ := good_wq hv hm hr (us := us) h1 h2
  obtain ⟨l, hl, rfl⟩ := SV.WQ.wl _ _ rfl a1
  obtain ⟨b1, b2, b3, _⟩ := hl.flat
  have hn : l.node = d := b1.trans a2
  refine ⟨l, hl, rfl, hn, ?_, b2⟩
  rcases a3 with h3 | h3
  ·exact .inl h3
  ·exact .inr (by rw [hn]; exact h3)
 intro o ho
 cases o with
 | some q =>
  obtain ⟨l, h1, h2, h3, rfl, h5, h6⟩ := ho
  obtain ⟨b1, b2, b3, b4⟩ := h1.flat
  have hen : endN (headG t) (endN (headG t) s r) l.arcs = d := b1.symm.trans h2
  refine ⟨wq_good hv hm hr b4 h6 hen fun e hm0 => hd0 hm0 (by rw [e] at hen; exact hen), fun a q' e => (b4 [] a q' e).us rfl, fun q2 g1 g2 => ?_⟩
  obtain ⟨l2, c1, rfl, c3, c4, c5⟩ := ov q2 g1 g2
  have := h5 l2 c1 c3 c4
  rw [leP_pre]
  unfold leL at this
  rw [b2, c5] at this
  exact this
 | none =>
  intro q2 h1 h2
  obtain ⟨l2, c1, _, c3, c4, _⟩ := ov q2 h2 h1
  exact ho l2 c1 c3 c4
end
end Go.Ab

/-
  The shortest paths, plainly: found ones, candidates, what each round keeps.
-/
namespace Go.Ab
open Go.Proofs
def usedL (F : List (List Int)) (root : List Int) : List Int := F.filterMap fun f => if f.take root.length = root then f[root.length]? else none
theorem usedL_mem {F : List (List Int)} {root : List Int} {a : Int} : a ∈ usedL F root ↔ ∃ f ∈ F, f.take root.length = root ∧ f[root.length]? = some a := by
 unfold usedL
 rw [List.mem_filterMap]
 constructor
 ·rintro ⟨f, hf, h⟩
  split at h
  ·rename_i h1; exact ⟨f, hf, h1, h⟩
  ·cases h
 ·rintro ⟨f, hf, h1, h2⟩
  exact ⟨f, hf, by rw [if_pos h1]; exact h2⟩
section
variable (t : Top) (down : List Bool) (s d most : Int)
def Cls (F : List (List Int)) (root p : List Int) : Prop := GoodP t down s d most p ∧ p.take root.length = root ∧ ∃ a, p[root.length]? = some a ∧ a ∉ usedL F root
def MinIn (F : List (List Int)) (root : List Int) (C : List (List Int)) : Prop := (∀ p, ¬ Cls t down s d most F root p) ∨ ∃ c ∈ C, Cls t down s d most F root c ∧ ∀ p, Cls t down s d most F root p → leP t c p
structure FoundP (F : List (List Int)) : Prop where
 ne : F ≠ []
 good : ∀ f ∈ F, GoodP t down s d most f
 srt : F.Pairwise (ltP t)
 low : ∀ f ∈ F, ∀ p, GoodP t down s d most p → p ∉ F → ltP t f p
structure CandP (F C : List (List Int)) : Prop where
 nd : C.Nodup
 good : ∀ c ∈ C, GoodP t down s d most c ∧ c ∉ F
structure YenP (F C : List (List Int)) (last : List Int) : Prop where
 f : FoundP t down s d most F
 c : CandP t down s d most F C
 l : last ∈ F
 q : ∀ f ∈ F, ∀ i, i < f.length → ¬ (i < last.length ∧ last.take i = f.take i) → MinIn t down s d most F (f.take i) C
structure RouP (F C : List (List Int)) (last : List Int) (k : Nat) : Prop where
 c : CandP t down s d most F C
 q : ∀ f ∈ F, ∀ i, i < f.length → (¬ (i < last.length ∧ last.take i = f.take i) ∨ i < k) → MinIn t down s d most F (f.take i) C
end
variable {t : Top} {down : List Bool} {s d most : Int} {F C : List (List Int)}
theorem good_pre {p : List Int} {i : Nat} (h : GoodP t down s d most p) (h2 : GoodP t down s d most (p.take i)) : p.length ≤ i := by
 rcases Nat.lt_or_ge i p.length with hi | hi
 ·exact absurd h2.en (h.root hi).2
 ·exact hi
theorem MinIn.mono {root : List Int} {C' : List (List Int)} (h : MinIn t down s d most F root C) (hs : ∀ c ∈ C, c ∈ C') : MinIn t down s d most F root C' := by
 rcases h with h | ⟨c, h1, h2⟩
 ·exact .inl h
 ·exact .inr ⟨c, hs c h1, h2⟩
theorem YenP.start {last : List Int} (h : YenP t down s d most F C last) : RouP t down s d most F C last 0 :=
 ⟨h.c, fun f hf i hi hor => h.q f hf i hi (hor.resolve_right (Nat.not_lt_zero _))⟩
theorem RouP.step {last : List Int} {k : Nat} {o : Option (List Int)} (h : RouP t down s d most F C last k) (hl : last ∈ F) (hk : k < last.length) (hgl : GoodP t down s d most last)
  (ho : match o with
   | some q => GoodP t down s d most (last.take k ++ q) ∧ (∀ a q', q = a :: q' → a ∉ usedL F (last.take k)) ∧ ∀ q2, GoodP t down s d most (last.take k ++ q2) → (∀ a q', q2 = a :: q' → a ∉ usedL F (last.take k)) → leP t (last.take k ++ q) (last.take k ++ q2)
   | none => ∀ q2, (∀ a q', q2 = a :: q' → a ∉ usedL F (last.take k)) → ¬ GoodP t down s d most (last.take k ++ q2)) :
  RouP t down s d most F (match o with
   | some q => if last.take k ++ q ∈ C then C else C ++ [last.take k ++ q]
   |none => C) last (k + 1) := by
 have hlen : (last.take k).length = k := by rw [List.length_take]; omega
 have hcl : ∀ p, Cls t down s d most F (last.take k) p → ∃ q2, p = last.take k ++ q2 ∧ (∀ a q', q2 = a :: q' → a ∉ usedL F (last.take k)) := fun p ⟨h1, h2, a, h3, h4⟩ => by
  rw [hlen] at h2 h3
  refine ⟨p.drop k, by rw [← h2, List.take_append_drop], fun b q' e => ?_⟩
  have : p[k]? = some b := by rw [← List.head?_drop, e]; rfl
  rw [this] at h3; cases h3; exact h4
 cases o with
 | none =>
  refine ⟨h.c, fun f hf i hi hor => ?_⟩
  by_cases h1 : ¬ (i < last.length ∧ last.take i = f.take i) ∨ i < k
  ·exact h.q f hf i hi h1
  ·have hik : i = k := by
    rcases hor with h5 | h5
    ·exact absurd (Or.inl h5) h1
    ·rcases Nat.lt_or_ge i k with h6 | h6
     ·exact absurd (Or.inr h6) h1
     ·omega
   subst hik
   have e1 : last.take i = f.take i := Classical.byContradiction fun h2 => h1 (.inl fun h3 => h2 h3.2)
   rw [← e1]
   exact .inl fun p hp => by
    obtain ⟨q2, rfl, h3⟩ := hcl p hp
    exact ho q2 h3 hp.1
 | some q =>
  obtain ⟨h1, h2, h3⟩ := ho
  have hq : q ≠ [] := fun e => by
   rw [e, List.append_nil] at h1
   have := good_pre hgl h1
   omega
  obtain ⟨a, q', hqa⟩ := List.exists_cons_of_ne_nil hq
  have hap : (last.take k ++ q)[k]? = some a := by rw [List.getElem?_append_right (by omega), hlen, hqa]; simp
  have htk : (last.take k ++ q).take k = last.take k := by rw [List.take_append_of_le_length (by omega), List.take_of_length_le (by omega)]
  have hcls : Cls t down s d most F (last.take k) (last.take k ++ q) := ⟨h1, by rw [hlen]; exact htk, a, by rw [hlen]; exact hap, h2 a q' hqa⟩
  have hnF : last.take k ++ q ∉ F := fun hm => h2 a q' hqa (usedL_mem.2 ⟨_, hm, by rw [hlen]; exact htk, by rw [hlen]; exact hap⟩)
  have key : ∀ C', (∀ c ∈ C, c ∈ C') → last.take k ++ q ∈ C' → CandP t down s d most F C' → RouP t down s d most F C' last (k + 1) := fun C' hs hm hc => ⟨hc, fun f hf i hi hor => by
   by_cases h4 : ¬ (i < last.length ∧ last.take i = f.take i) ∨ i < k
   ·exact (h.q f hf i hi h4).mono hs
   ·have hik : i = k := by
     rcases hor with h5 | h5
     ·exact absurd (Or.inl h5) h4
     ·rcases Nat.lt_or_ge i k with h6 | h6
      ·exact absurd (Or.inr h6) h4
      ·omega
    subst hik
    have e1 : last.take i = f.take i := Classical.byContradiction fun h2 => h4 (.inl fun h3 => h2 h3.2)
    rw [← e1]
    exact .inr ⟨_, hm, hcls, fun p hp => by
     obtain ⟨q2, rfl, h5⟩ := hcl p hp
     exact h3 q2 hp.1 h5⟩⟩
  simp only
  split
  ·rename_i hm
   exact key C (fun _ h => h) hm h.c
  ·rename_i hm
   refine key _ (fun c hc => List.mem_append_left _ hc) (by simp) ⟨?_, fun c hc => ?_⟩
   ·rw [List.nodup_append]
    refine ⟨h.c.nd, by simp, fun x hx y hy e => ?_⟩
    rw [List.mem_singleton] at hy
    rw [e, hy] at hx
    exact hm hx
   ·rcases List.mem_append.1 hc with hc | hc
    ·exact h.c.good c hc
    ·rw [List.mem_singleton] at hc
     rw [hc]
     exact ⟨h1, hnF⟩
theorem max_pre : ∀ (n : Nat) (Q : Nat → Prop), Q 0 → ∃ i, i ≤ n ∧ Q i ∧ (i < n → ¬ Q (i + 1))
 | 0, _, h => ⟨0, Nat.le_refl _, h, fun h => absurd h (Nat.lt_irrefl _)⟩
 |n + 1, Q, h => by
  obtain ⟨i, h1, h2, h3⟩ := max_pre n Q h
  rcases Nat.lt_or_ge i n with hi | hi
  ·exact ⟨i, by omega, h2, fun _ => h3 hi⟩
  ·have : i = n := by omega
   subst this
   rcases Classical.em (Q (i + 1)) with hq | hq
   ·exact ⟨i + 1, Nat.le_refl _, hq, fun h => absurd h (Nat.lt_irrefl _)⟩
   ·exact ⟨i, by omega, h2, fun _ => hq⟩
theorem RouP.cover {last : List Int} (hF : FoundP t down s d most F) (h : RouP t down s d most F C last last.length) {p : List Int} (hp : GoodP t down s d most p) (hn : p ∉ F) : ∃ c ∈ C, leP t c p := by
 obtain ⟨f0, hf0⟩ := List.exists_mem_of_ne_nil F hF.ne
 obtain ⟨i, hi, ⟨f, hf, he, hfl⟩, hmax⟩ := max_pre p.length (fun i => ∃ f ∈ F, f.take i = p.take i ∧ i ≤ f.length) ⟨f0, hf0, by simp, Nat.zero_le _⟩
 have hlt : i < f.length := by
  rcases Nat.lt_or_ge i f.length with h1 | h1
  ·exact h1
  ·rw [List.take_of_length_le h1] at he
   have := good_pre hp (i := i) (by rw [← he]; exact hF.good f hf)
   rw [List.take_of_length_le this] at he
   exact absurd (he ▸ hf) hn
 have hlp : i < p.length := by
  rcases Nat.lt_or_ge i p.length with h1 | h1
  ·exact h1
  ·have e : p.take i = p := List.take_of_length_le h1
   have h2 := good_pre (hF.good f hf) (i := i) (by rw [he, e]; exact hp)
   omega
 have hlen : (f.take i).length = i := by rw [List.length_take]; omega
 have hcls : Cls t down s d most F (f.take i) p := by
  refine ⟨hp, by rw [hlen]; exact he.symm, p[i], by rw [hlen]; exact lgE hlp, fun hu => ?_⟩
  obtain ⟨f2, hf2, h1, h2⟩ := usedL_mem.1 hu
  rw [hlen] at h1 h2
  refine hmax hlp ⟨f2, hf2, ?_, ?_⟩
  ·rw [List.take_add_one, List.take_add_one, h1, he, h2, lgE hlp]
  ·have := get_lt h2; omega
 rcases h.q f hf i hlt (by omega) with h1 | ⟨c, h1, h2, h3⟩
 ·exact absurd hcls (h1 p)
 ·exact ⟨c, h1, h3 p hcls⟩
theorem RouP.all {last : List Int} (hF : FoundP t down s d most F) (h : RouP t down s d most F [] last last.length) {p : List Int} (hp : GoodP t down s d most p) : p ∈ F := by
 rcases Classical.em (p ∈ F) with h1 | h1
 ·exact h1
 ·obtain ⟨c, hc, _⟩ := h.cover hF hp h1
  cases hc
theorem RouP.next {last c : List Int} {C2 : List (List Int)} (hF : FoundP t down s d most F) (h : RouP t down s d most F C last last.length) (hp : (c :: C2).Perm C) (hmin : ∀ x ∈ C2, leP t c x) : YenP t down s d most (F ++ [c]) C2 c := by
 have hcC : c ∈ C := hp.mem_iff.1 (by simp)
 have hsub : ∀ x ∈ C2, x ∈ C := fun x hx => hp.mem_iff.1 (List.mem_cons_of_mem _ hx)
 have hnd : (c :: C2).Nodup := hp.nodup_iff.2 h.c.nd
 obtain ⟨hgc, hcF⟩ := h.c.good c hcC
 have hlow : ∀ f ∈ F ++ [c], ∀ p, GoodP t down s d most p → p ∉ F ++ [c] → ltP t f p := fun f hf p hp2 hn => by
  rw [List.mem_append, List.mem_singleton, not_or] at hn
  rcases List.mem_append.1 hf with hf | hf
  ·exact hF.low f hf p hp2 hn.1
  ·rw [List.mem_singleton.1 hf]
   obtain ⟨x, hx, hle⟩ := h.cover hF hp2 hn.1
   refine ltP_iff.2 ⟨?_, fun e => hn.2 e.symm⟩
   rcases List.mem_cons.1 (hp.mem_iff.2 hx) with rfl | hx
   ·exact hle
   ·exact leP_trans (hmin x hx) hle
 refine ⟨⟨by simp, fun f hf => ?_, ?_, hlow⟩, ⟨(List.nodup_cons.1 hnd).2, fun x hx => ?_⟩, by simp, fun f hf i hi hno => ?_⟩
 ·rcases List.mem_append.1 hf with hf | hf
  ·exact hF.good f hf
  ·rw [List.mem_singleton.1 hf]; exact hgc
 ·rw [List.pairwise_append]
  exact ⟨hF.srt, by simp, fun f hf y hy => by rw [List.mem_singleton.1 hy]; exact hF.low f hf c hgc hcF⟩
 ·obtain ⟨h1, h2⟩ := h.c.good x (hsub x hx)
  refine ⟨h1, ?_⟩
  rw [List.mem_append, List.mem_singleton, not_or]
  exact ⟨h2, fun e => (List.nodup_cons.1 hnd).1 (e ▸ hx)⟩
 ·have hfc : f ≠ c := fun e => hno ⟨e ▸ hi, by rw [e]⟩
  have hfF : f ∈ F := by
   rcases List.mem_append.1 hf with hf | hf
   ·exact hf
   ·exact absurd (List.mem_singleton.1 hf) hfc
  have hlen : (f.take i).length = i := by rw [List.length_take]; omega
  have hcno : c.take i = f.take i → c[i]? = none := fun e => by
   rw [List.getElem?_eq_none_iff]
   rcases Nat.lt_or_ge i c.length with h1 | h1
   ·exact absurd ⟨h1, e⟩ hno
   ·exact h1
  have hus : ∀ a, a ∈ usedL (F ++ [c]) (f.take i) ↔ a ∈ usedL F (f.take i) := fun a => by
   rw [usedL_mem, usedL_mem, hlen]
   constructor
   ·rintro ⟨x, hx, h1, h2⟩
    rcases List.mem_append.1 hx with hx | hx
    ·exact ⟨x, hx, h1, h2⟩
    ·rw [List.mem_singleton.1 hx] at h1 h2
     rw [hcno h1] at h2; cases h2
   ·rintro ⟨x, hx, h1, h2⟩
    exact ⟨x, List.mem_append_left _ hx, h1, h2⟩
  have hcls : ∀ p, Cls t down s d most (F ++ [c]) (f.take i) p ↔ Cls t down s d most F (f.take i) p := fun p => by
   unfold Cls
   simp only [hus]
  rcases h.q f hfF i hi (by omega) with h1 | ⟨x, h1, h2, h3⟩
  ·exact .inl fun p hp => h1 p ((hcls p).1 hp)
  ·refine .inr ⟨x, ?_, (hcls x).2 h2, fun p hp => h3 p ((hcls p).1 hp)⟩
   rcases List.mem_cons.1 (hp.mem_iff.2 h1) with rfl | h4
   ·obtain ⟨_, h5, a, h6, _⟩ := h2
    rw [hlen] at h5 h6
    rw [hcno h5] at h6; cases h6
   ·exact h4
theorem YenP.init {f : List Int} (h : GoodP t down s d most f) (hmin : ∀ p, GoodP t down s d most p → leP t f p) : YenP t down s d most [f] [] f := by
 refine ⟨⟨by simp, fun x hx => by rw [List.mem_singleton.1 hx]; exact h, by simp, fun x hx p hp hn => ?_⟩, ⟨by simp, fun c hc => by cases hc⟩, by simp, fun x hx i hi hno => ?_⟩
 ·rw [List.mem_singleton.1 hx]
  exact ltP_iff.2 ⟨hmin p hp, fun e => hn (by rw [e]; simp)⟩
 ·rw [List.mem_singleton.1 hx] at hi hno
  exact absurd ⟨hi, rfl⟩ hno
structure IsSrt (t : Top) (G : List Int → Prop) (L : List (List Int)) : Prop where
 srt : L.Pairwise (ltP t)
 mem : ∀ p, p ∈ L ↔ G p
theorem ltP_irr {p : List Int} : ¬ ltP t p p := fun h => (ltP_iff.1 h).2 rfl
theorem srt_take : ∀ {F L : List (List Int)}, F.Pairwise (ltP t) → L.Pairwise (ltP t) → (∀ f ∈ F, f ∈ L) → (∀ f ∈ F, ∀ p ∈ L, p ∉ F → ltP t f p) → F = L.take F.length
 | [], _, _, _, _, _ => by simp
 | f :: F, [], _, _, h, _ => by have := h f (by simp); cases this
 |f :: F, l :: L, h1, h2, h3, h4 => by
  obtain ⟨a1, a2⟩ := List.pairwise_cons.1 h1
  obtain ⟨b1, b2⟩ := List.pairwise_cons.1 h2
  have e : f = l := by
   rcases List.mem_cons.1 (h3 f (by simp)) with e | hm
   ·exact e
   ·have hlf := b1 f hm
    rcases Classical.em (l ∈ f :: F) with hl | hl
    ·rcases List.mem_cons.1 hl with e | hl
     ·exact e.symm
     ·exact absurd (ltP_trans hlf (a1 l hl)) ltP_irr
    ·exact absurd (ltP_trans hlf (h4 f (by simp) l (by simp) hl)) ltP_irr
  subst e
  rw [List.length_cons, List.take_succ_cons, ← srt_take a2 b2 (fun x hx => ?_) fun x hx p hp hn => ?_]
  ·rcases List.mem_cons.1 (h3 x (List.mem_cons_of_mem _ hx)) with rfl | hm
   ·exact absurd (a1 x hx) ltP_irr
   ·exact hm
  ·refine h4 x (List.mem_cons_of_mem _ hx) p (List.mem_cons_of_mem _ hp) fun hm => ?_
   rcases List.mem_cons.1 hm with rfl | hm
   ·exact ltP_irr (b1 p hp)
   ·exact hn hm
theorem FoundP.take {L : List (List Int)} (hF : FoundP t down s d most F) (hL : IsSrt t (GoodP t down s d most) L) {k : Nat} (hk : F.length ≤ k) (hor : F.length = k ∨ ∀ p, GoodP t down s d most p → p ∈ F) : F = L.take k := by
 have h1 := srt_take hF.srt hL.srt (fun f hf => (hL.mem f).2 (hF.good f hf)) fun f hf p hp hn => hF.low f hf p ((hL.mem p).1 hp) hn
 rcases hor with h | h
 ·rw [← h]; exact h1
 ·have h2 := srt_take hL.srt hF.srt (fun f hf => h f ((hL.mem f).1 hf)) fun f hf p hp hn => absurd ((hL.mem p).2 (hF.good p hp)) hn
  have l1 := congrArg List.length h1
  have l2 := congrArg List.length h2
  rw [List.length_take] at l1 l2
  rw [h1, List.take_of_length_le (by omega), List.take_of_length_le (by omega)]
end Go.Ab

/-
  Paths in order: the program's comparison.
-/
namespace Go.Ab
open Go.Proofs
theorem nanN_ok (P : Program) (hP : P = Try.prog) (n : Int) : Ret P n_cmp_isNaN_int [iA n] (bA false) := by
 refine ret_start (hP ▸ mixed) (hP ▸ fn_cmp_isNaN_int) (hP ▸ c_cmp_isNaN_int) (nle rfl) fun Λ Λo K hK => ?_
 clear hP
 conv => cbv
 repeat' first | exact gu | exact trivial | refine And.intro ?_ ?_ | (intro hc; exact absurd hc (by decide)) | (intro hc; exfalso; omega) | (intro hc; (first | rw [wS (by omega) (by omega)] at hc | rw [nI_eq] at hc | skip); try (conv => cbv))
 exact hK
theorem cmpN_ok (P : Program) (hP : P = Try.prog) (a b : Int) : Ret P n_cmp_Compare_int [iA a, iA b] (iA (cmI a b)) := by
 have h1 := fun n => nanN_ok P hP n
 refine ret_start (hP ▸ mixed) (hP ▸ fn_cmp_Compare_int) (hP ▸ c_cmp_Compare_int) (nle rfl) fun Λ Λo K hK => ?_
 clear hP
 have leaf : ∀ c, c = cmI a b → K (iA c) := fun c h => by rw [h]; exact hK
 clear hK
 conv => cbv
 repeat' first | refine call_b (h1 _) rfl rfl ?_ ?_ | exact gu | exact trivial | refine And.intro ?_ ?_ | (intro hc; exact absurd hc (by decide)) | (intro hc; exfalso; omega) | (intro hc; (first | rw [wS (by omega) (by omega)] at hc | rw [nI_eq] at hc | skip); try (conv => cbv))
 all_goals refine leaf _ ?_
 all_goals rw [cmI]
 ·rw [if_pos (by omega)]
 ·rw [if_neg (by omega), if_pos (by omega)]
 ·rw [if_neg (by omega), if_neg (by omega)]
def or3 (a b c : Int) : Int := if a = 0 then (if b = 0 then c else b) else a
theorem or3_ok (P : Program) (hP : P = Try.prog) (a b c : Int) : Ret P n_cmp_Or_int [.c (.d (.list false 1 [[iD a], [iD b], [iD c]]))] (iA (or3 a b c)) := by
 refine ret_start (hP ▸ mixed) (hP ▸ fn_cmp_Or_int) (hP ▸ c_cmp_Or_int) (nle rfl) fun Λ Λo K hK => ?_
 clear hP
 have y1 : a ≠ 0 → K (iA a) := fun h => by rw [or3, if_neg h] at hK; exact hK
 have y2 : a = 0 → b ≠ 0 → K (iA b) := fun h h2 => by rw [or3, if_pos h, if_neg h2] at hK; exact hK
 have y3 : a = 0 → b = 0 → K (iA c) := fun h h2 => by rw [or3, if_pos h, if_pos h2] at hK; exact hK
 clear hK
 obtain ⟨l, hl⟩ : ∃ l, l = [[iD a], [iD b], [iD c]] := ⟨_, rfl⟩
 have hln : Λ l = 3 := by rw [Λo, hl]; rfl
 have g0 : l[(0 : Int).toNat]? = some [iD a] := by rw [hl]; rfl
 have g1 : l[(1 : Int).toNat]? = some [iD b] := by rw [hl]; rfl
 have g2 : l[(2 : Int).toNat]? = some [iD c] := by rw [hl]; rfl
 rw [← hl]
 clear hl
 conv => cbv
 repeat' first | exact gu | exact trivial | refine And.intro ?_ ?_ | (intro hc; exact absurd hc (by decide)) | (intro hc; exfalso; omega) | (intro hc; (first | rw [wS (by omega) (by omega)] at hc | rw [nI_eq] at hc | skip); try (conv => cbv))
 refine loop_up 3 (fun i : Int => [(3, iA 0), (6, .c (.d (.list false 1 l))), (7, iA (Λ l)), (8, iA i)]) (fun _ => []) (fun k i => i = k ∧ k ≤ 3 ∧ (1 ≤ k → a = 0) ∧ (2 ≤ k → b = 0) ∧ (3 ≤ k → c = 0)) 0 (Wk.cw) ⟨rfl, by omega, by omega, by omega, by omega⟩ (fun k s h => h.2.1) ?_
 rintro k i Q' ⟨hi, hk, h1, h2, h3⟩ norm ex rt
 match k, hk with
 | 0, _ =>
  obtain rfl : i = 0 := hi
  conv => cbv
  repeat' first | (refine ex _ _ _ ?_; (conv => cbv)) | (refine rt _ _ ?_; (conv => cbv)) | (intro (e : List D) he; cases osj (he.symm.trans g0); (conv => cbv)) | exact gu | exact trivial | refine And.intro ?_ ?_ | (intro hc; exact absurd hc (by decide)) | (intro hc; exfalso; omega) | (intro hc; (first | rw [wS (by omega) (by omega)] at hc | rw [nI_eq] at hc | skip); try (conv => cbv))
  ·exact y1 (by assumption)
  ·rename_i i2
   refine norm _ _ i2 ?_ (Wk.cw)
   exact ⟨by omega, by omega, fun _ => (by assumption), by omega, by omega⟩
 | 1, _ =>
  obtain rfl : i = 1 := hi
  have h1 := h1 (by omega)
  conv => cbv
  repeat' first | (refine ex _ _ _ ?_; (conv => cbv)) | (refine rt _ _ ?_; (conv => cbv)) | (intro (e : List D) he; cases osj (he.symm.trans g1); (conv => cbv)) | exact gu | exact trivial | refine And.intro ?_ ?_ | (intro hc; exact absurd hc (by decide)) | (intro hc; exfalso; omega) | (intro hc; (first | rw [wS (by omega) (by omega)] at hc | rw [nI_eq] at hc | skip); try (conv => cbv))
  ·exact y2 h1 (by assumption)
  ·rename_i i2
   refine norm _ _ i2 ?_ (Wk.cw)
   exact ⟨by omega, by omega, fun _ => h1, fun _ => (by assumption), by omega⟩
 | 2, _ =>
  obtain rfl : i = 2 := hi
  have h1 := h1 (by omega)
  have h2 := h2 (by omega)
  conv => cbv
  repeat' first | (refine ex _ _ _ ?_; (conv => cbv)) | (refine rt _ _ ?_; (conv => cbv)) | (intro (e : List D) he; cases osj (he.symm.trans g2); (conv => cbv)) | exact gu | exact trivial | refine And.intro ?_ ?_ | (intro hc; exact absurd hc (by decide)) | (intro hc; exfalso; omega) | (intro hc; (first | rw [wS (by omega) (by omega)] at hc | rw [nI_eq] at hc | skip); try (conv => cbv))
  ·exact y3 h1 h2
  ·rename_i i2
   refine norm _ _ i2 ?_ (Wk.cw)
   exact ⟨by omega, by omega, fun _ => h1, fun _ => h2, fun _ => (by assumption)⟩
 | 3, _ =>
  have y3 := y3 (h1 (by omega)) (h2 (by omega))
  rw [h3 (by omega)] at y3
  conv => cbv
  repeat' first | (refine ex _ _ _ ?_; (conv => cbv)) | (refine rt _ _ ?_; (conv => cbv)) | exact gu | exact trivial | refine And.intro ?_ ?_ | (intro hc; exact absurd hc (by decide)) | (intro hc; exfalso; omega) | (intro hc; (first | rw [wS (by omega) (by omega)] at hc | rw [nI_eq] at hc | skip); try (conv => cbv))
  exact y3
theorem lexC_drop {a b : List Int} {k : Nat} {x y : Int} (hx : a[k]? = some x) (hy : b[k]? = some y) : lexC (a.drop k) (b.drop k) = if x < y then -1 else if y < x then 1 else lexC (a.drop (k + 1)) (b.drop (k + 1)) := by
 obtain ⟨h1, rfl⟩ := List.getElem?_eq_some_iff.1 hx
 obtain ⟨h2, rfl⟩ := List.getElem?_eq_some_iff.1 hy
 rw [List.drop_eq_getElem_cons h1, List.drop_eq_getElem_cons h2, lexC]
theorem lex_ok (P : Program) (hP : P = Try.prog) (a b : List Int) : Ret P n_slices_Compare_int_int [intsA a, intsA b] (iA (lexC a b)) := by
 have hcm := fun x y => cmpN_ok P hP x y
 refine ret_start (hP ▸ mixed) (hP ▸ fn_slices_Compare_int_int) (hP ▸ c_slices_Compare_int_int) (nle rfl) fun Λ Λo K hK => ?_
 clear hP
 have leaf : ∀ c, c = lexC a b → K (iA c) := fun c h => by rw [h]; exact hK
 clear hK
 have d0 : lexC a b = lexC (a.drop 0) (b.drop 0) := rfl
 have hst := fun k x y => @lexC_drop a b k x y
 have he1 : ∀ k : Nat, a.length ≤ k → k < b.length → lexC (a.drop k) (b.drop k) = -1 := fun k h1 h2 => by
  rw [List.drop_of_length_le h1, List.drop_eq_getElem_cons h2]; rfl
 have he2 : ∀ k : Nat, k < a.length → b.length ≤ k → lexC (a.drop k) (b.drop k) = 1 := fun k h1 h2 => by
  rw [List.drop_of_length_le h2, List.drop_eq_getElem_cons h1]; rfl
 have he3 : ∀ k : Nat, a.length ≤ k → b.length ≤ k → lexC (a.drop k) (b.drop k) = 0 := fun k h1 h2 => by
  rw [List.drop_of_length_le h1, List.drop_of_length_le h2]; rfl
 generalize (lexC a b) = r at *
 obtain ⟨Z, hZ⟩ : ∃ Z : Nat → Int, Z = fun k => lexC (a.drop k) (b.drop k) := ⟨_, rfl⟩
 have hZ' : ∀ k, lexC (a.drop k) (b.drop k) = Z k := fun k => by rw [hZ]
 rw [hZ'] at d0
 have hst : ∀ k x y, a[k]? = some x → b[k]? = some y → Z k = if x < y then -1 else if y < x then 1 else Z (k + 1) := fun k x y h1 h2 => by rw [← hZ', ← hZ']; exact hst k x y h1 h2
 have he1 : ∀ k : Nat, a.length ≤ k → k < b.length → Z k = -1 := fun k h1 h2 => by rw [← hZ']; exact he1 k h1 h2
 have he2 : ∀ k : Nat, k < a.length → b.length ≤ k → Z k = 1 := fun k h1 h2 => by rw [← hZ']; exact he2 k h1 h2
 have he3 : ∀ k : Nat, a.length ≤ k → b.length ≤ k → Z k = 0 := fun k h1 h2 => by rw [← hZ']; exact he3 k h1 h2
 clear hZ hZ'
 simp only [intsA, intsD] at *
 generalize alh : List.map encI a = al at *
 have aln : Λ al = a.length := by rw [Λo, ← alh]; simp
 generalize blh : List.map encI b = bl at *
 have bln : Λ bl = b.length := by rw [Λo, ← blh]; simp
 conv => cbv
 repeat' first | exact gu | exact trivial | refine And.intro ?_ ?_ | (intro hc; exact absurd hc (by decide)) | (intro hc; exfalso; omega) | (intro hc; (first | rw [wS (by omega) (by omega)] at hc | rw [nI_eq] at hc | skip); try (conv => cbv))
 refine loop_up a.length (fun i : Int => [(0, .c (.d (.list false 1 al))), (1, .c (.d (.list false 1 bl))), (9, .c (.d (.list false 1 al))), (10, iA (Λ al)), (11, iA i)]) (fun _ => []) (fun k i => i = k ∧ k ≤ a.length ∧ k ≤ b.length ∧ r = Z k) 0 (Wk.cw) ⟨rfl, by omega, by omega, d0⟩ (fun k s h => h.2.1) ?_
 rintro k i Q' ⟨hi, hk, hkb, hr⟩ norm ex rt
 by_cases hlt : k < a.length
 ·by_cases hlb : k < b.length
  ·obtain ⟨x, hx⟩ : ∃ x, a[k]? = some x := ⟨_, lgE hlt⟩
   have hxa := elt_at alh hi hx
   obtain ⟨y, hy⟩ : ∃ y, b[k]? = some y := ⟨_, lgE hlb⟩
   have hya := elt_at blh hi hy
   have hs := hst k x y hx hy
   have hcxy := hcm x y
   have c1 := @cmI_lt x y
   have c2 := @cmI_z x y
   have c3 : cmI x y = if x < y then -1 else if y < x then 1 else 0 := rfl
   generalize cmI x y = c at *
   conv => cbv
   repeat' first | (refine ex _ _ _ ?_; (conv => cbv)) | (refine rt _ _ ?_; (conv => cbv)) | (intro e he; cases osj (he.symm.trans hxa); (conv => cbv)) | (intro e he; cases osj (he.symm.trans hya); (conv => cbv)) | (refine call_r hcxy rfl rfl ?_; conv => cbv) | exact gu | exact trivial | refine And.intro ?_ ?_ | (intro hc; exact absurd hc (by decide)) | (intro hc; exfalso; omega) | (intro hc; (first | rw [wS (by omega) (by omega)] at hc | rw [nI_eq] at hc | skip); try (conv => cbv))
   ·refine leaf c ?_
    rw [hr, hs, c3]
    by_cases e1 : x < y
    ·rw [if_pos e1, if_pos e1]
    ·rw [if_neg e1, if_neg e1]
     have : y < x := by omega
     rw [if_pos this, if_pos this]
   ·rename_i j
    refine norm _ _ j ?_ (Wk.cw)
    refine ⟨by omega, by omega, by omega, ?_⟩
    rw [hr, hs, if_neg (by omega), if_neg (by omega)]
  ·have e := he2 k hlt (by omega)
   obtain ⟨x, hx⟩ : ∃ x, a[k]? = some x := ⟨_, lgE hlt⟩
   have hxa := elt_at alh hi hx
   conv => cbv
   repeat' first | (refine ex _ _ _ ?_; (conv => cbv)) | (refine rt _ _ ?_; (conv => cbv)) | (intro e he; cases osj (he.symm.trans hxa); (conv => cbv)) | exact gu | exact trivial | refine And.intro ?_ ?_ | (intro hc; exact absurd hc (by decide)) | (intro hc; exfalso; omega) | (intro hc; (first | rw [wS (by omega) (by omega)] at hc | rw [nI_eq] at hc | skip); try (conv => cbv))
   exact leaf _ (by rw [hr, e])
 ·conv => cbv
  repeat' first | (refine ex _ _ _ ?_; (conv => cbv)) | (refine rt _ _ ?_; (conv => cbv)) | exact gu | exact trivial | refine And.intro ?_ ?_ | (intro hc; exact absurd hc (by decide)) | (intro hc; exfalso; omega) | (intro hc; (first | rw [wS (by omega) (by omega)] at hc | rw [nI_eq] at hc | skip); try (conv => cbv))
  ·exact leaf _ (by rw [hr]; exact (he1 k (by omega) (by omega)).symm)
  ·exact leaf _ (by rw [hr]; exact (he3 k (by omega) (by omega)).symm)
theorem order_ok (P : Program) (hP : P = Try.prog) (ca cb : Int) (a b : List Int) : Ret P n_kpaths_order [iA ca, iA cb, intsA a, intsA b] (iA (ordS ca cb a b)) := by
 have h1 := cmpN_ok P hP ca cb
 have h2 := cmpN_ok P hP (a.length) (b.length)
 have h3 := lex_ok P hP a b
 have h4 := or3_ok P hP (cmI ca cb) (cmI a.length b.length) (lexC a b)
 have h5 : or3 (cmI ca cb) (cmI a.length b.length) (lexC a b) = ordS ca cb a b := rfl
 rw [h5] at h4
 clear h5
 generalize ordS ca cb a b = r at *
 generalize cmI ca cb = c1 at *
 generalize cmI a.length b.length = c2 at *
 generalize lexC a b = c3 at *
 refine ret_start (hP ▸ mixed) (hP ▸ fn_kpaths_order) (hP ▸ c_kpaths_order) (nle rfl) fun Λ Λo K hK => ?_
 clear hP
 simp only [intsA, intsD] at *
 generalize alh : List.map encI a = al at *
 have aln : Λ al = a.length := by rw [Λo, ← alh]; simp
 generalize blh : List.map encI b = bl at *
 have bln : Λ bl = b.length := by rw [Λo, ← blh]; simp
 rw [← aln, ← bln] at h2
 conv => cbv
 repeat' first | (refine call_r h1 rfl rfl ?_; conv => cbv) | (refine call_r h2 rfl rfl ?_; conv => cbv) | (refine call_r h3 rfl rfl ?_; conv => cbv) | (refine call_z 0 0 1 3 rfl rfl (by repeat' first | exact trivial | refine And.intro ?_ ?_ | rfl) (by repeat' first | exact trivial | refine And.intro ?_ ?_ | rfl) ?_; conv => cbv) | (refine call_r h4 rfl rfl ?_; conv => cbv) | exact gu | exact trivial | refine And.intro ?_ ?_ | (intro hc; exact absurd hc (by decide)) | (intro hc; exfalso; omega) | (intro hc; (first | rw [wS (by omega) (by omega)] at hc | rw [nI_eq] at hc | skip); try (conv => cbv))
 all_goals exact hK
end Go.Ab

/-
  Calls by a contract over a few blocks.
-/
namespace Go.Ab
open Go.Proofs
def frOk (h : Hp) (ρ : Nat → Nat) : Nat → Hp → Prop
 | _, [] => True
 | n, k :: r => h[ρ n]? = some (rnB ρ k) ∧ frOk h ρ (n + 1) r
theorem frOk_get {h : Hp} {ρ : Nat → Nat} : ∀ {hc : Hp} {n : Nat}, frOk h ρ n hc → ∀ i k, hc[i]? = some k → h[ρ (n + i)]? = some (rnB ρ k) := by
 intro hc
 induction hc with
 | nil => intro n _ i k h; simp at h
 | cons b r ih =>
  intro n ⟨h1, h2⟩ i k hk
  cases i with
  | zero => simp at hk; subst hk; exact h1
  | succ i =>
   simp at hk
   have := ih h2 i k hk
   rw [show n + 1 + i = n + (i + 1) by omega] at this; exact this
theorem call_fr {P : Program} {m : Nat} {L : Lv} {h : Hp} {f : Nat} {xs : List X} {K : Lv → AV → Hp → Prop} {args : List AV} {hc : Hp} {R : AV → Hp → Prop} (σ : List Nat) (hf : FnS P f args hc R) (ha : evsN L xs = rnAs (rho σ h.length) args) (hlen : σ.length = hc.length) (hnd : σ.Nodup)
  (hh : frOk h (rho σ h.length) 0 hc) (hcl : refsH hc.length hc = true) (hca : args.all (refsA hc.length) = true) (k : ∀ r hc', R r hc' → K L (rnA (rho σ h.length) r) (backH h σ hc')) : CallS P m false L h f xs K := by
 refine .fn ?_
 rw [ha]
 refine (hf.frame σ h hlen hnd (fun i b hb => by have := frOk_get hh i b hb; rw [Nat.zero_add] at this; exact this) hcl fun x hx => List.all_eq_true.1 hca x hx).mono ?_
 rintro r h' ⟨r0, hc', h1, rfl, rfl⟩
 exact k r0 hc' h1
theorem callv_fr {P : Program} {h : Hp} {f : Nat} {args' : List AV} {K : AV → Hp → Prop} {args : List AV} {hc : Hp} {R : AV → Hp → Prop} (σ : List Nat) (hf : FnS P f args hc R) (ha : args' = rnAs (rho σ h.length) args) (hlen : σ.length = hc.length) (hnd : σ.Nodup)
  (hh : frOk h (rho σ h.length) 0 hc) (hcl : refsH hc.length hc = true) (hca : args.all (refsA hc.length) = true) (k : ∀ r hc', R r hc' → K (rnA (rho σ h.length) r) (backH h σ hc')) : CallV P h f args' K := by
 refine .fn ?_
 rw [ha]
 refine (hf.frame σ h hlen hnd (fun i b hb => by have := frOk_get hh i b hb; rw [Nat.zero_add] at this; exact this) hcl fun x hx => List.all_eq_true.1 hca x hx).mono ?_
 rintro r h' ⟨r0, hc', h1, rfl, rfl⟩
 exact k r0 hc' h1
theorem heap_start {P : Program} {f : Nat} {fn : Func} {af : AF} {args : List AV} {h : Hp} {R : AV → Hp → Prop} (hm : P.follows .mixedOrders = true) (hf : P.funcs[f]? = some fn) (hc : compF P fn = some af) (hl : args.length ≤ af.nt)
  (hv : ∀ Λ : Len, (∀ l, Λ l = (l.length : Int)) → ∀ K : AV → Hp → Prop, (∀ r h', R r h' → K r h') → vcH P Λ af args h K) : FnS P f args h R := fn_heap hm hf hc hl fun Λ h => hv Λ h _ fun _ _ h => h
end Go.Ab

/-
  The engine: a function's new blocks, given up behind it.
-/
namespace Go.Ab
theorem FnS.cut {P : Program} {f : Nat} {args : List AV} {h : Hp} {R : AV → Hp → Prop} (hf : FnS P f args h R) (hc : ∀ r h', R r h' → refsA h.length r = true ∧ refsH h.length (h'.take h.length) = true) :
  FnS P f args h fun r h1 => ∃ h2, R r (h1 ++ h2) ∧ h1.length = h.length := by
 refine ⟨fun G ι w vs hr hv => ?_⟩
 refine (hf.out G ι w vs hr hv).mono fun e w2 ⟨v, r, G2, ι2, hc2, he, hR, hr2, hvr, hx⟩ => ?_
 have hl2 : h.length ≤ hc2.length := by
  rcases Nat.lt_or_ge hc2.length h.length with hb | hb
  ·obtain ⟨k', h1, _⟩ := hx.keep hc2.length _ (lgE hb)
   have := get_lt h1; omega
  ·exact hb
 obtain ⟨c1, c2⟩ := hc r hc2 hR
 have hlt : (hc2.take h.length).length = h.length := by rw [List.length_take]; omega
 let a : Act := ⟨#[v], []⟩
 have hfit : Fits 1 G ι h w (lkL [(0, r)]) hc2 a w2 := ⟨G2, ι2, ⟨hr2, rfl, rfl, fun i => by
  cases i with
  | zero => exact hvr
  | succ i => exact .c _ _ (.u _)⟩, hx⟩
 obtain ⟨G3, ι3, st⟩ := Wk.cut_fits (m := h.length) (L' := [(0, r)]) (h' := hc2.take h.length) ⟨hc2.drop h.length, (List.take_append_drop _ _).symm⟩ (by omega) (by rw [hlt]; exact c2)
  (by rw [hlt]; exact ⟨⟨rfl, c1⟩, trivial⟩) (Nat.le_refl _) hfit
 have hv0 := st.rel.env 0
 exact ⟨v, r, G3, ι3, hc2.take h.length, he, ⟨hc2.drop h.length, by rw [List.take_append_drop]; exact hR, hlt⟩, st.rel.hr, hv0, st.ext⟩
theorem FnS.cut2 {P : Program} {f : Nat} {args : List AV} {h : Hp} {R : AV → Hp → Prop} (hf : FnS P f args h R) (hc : ∀ r h', R r h' → ∃ x y, r = .tup [x, y] ∧ refsA h.length x = true ∧ refsA h.length y = true ∧ refsH h.length (h'.take h.length) = true) :
  FnS P f args h fun r h1 => ∃ h2, R r (h1 ++ h2) ∧ h1.length = h.length := by
 refine ⟨fun G ι w vs hr hv => ?_⟩
 refine (hf.out G ι w vs hr hv).mono fun e w2 ⟨v, r, G2, ι2, hc2, he, hR, hr2, hvr, hx⟩ => ?_
 have hl2 : h.length ≤ hc2.length := by
  rcases Nat.lt_or_ge hc2.length h.length with hb | hb
  ·obtain ⟨k', h1, _⟩ := hx.keep hc2.length _ (lgE hb)
   have := get_lt h1; omega
  ·exact hb
 obtain ⟨x, y, rfl, c1, c2, c3⟩ := hc r hc2 hR
 have hlt : (hc2.take h.length).length = h.length := by rw [List.length_take]; omega
 cases hvr with
 | tup cs _ hn hcs =>
  have hn2 : cs.size = 2 := hn
  let a : Act := ⟨#[cs[0], cs[1]], []⟩
  have hfit : Fits 2 G ι h w (lkL [(0, x), (1, y)]) hc2 a w2 := ⟨G2, ι2, ⟨hr2, rfl, rfl, fun i => by
   match i with
   | 0 => exact hcs 0 _ _ (Array.getElem?_eq_getElem (by omega)) rfl
   | 1 => exact hcs 1 _ _ (Array.getElem?_eq_getElem (by omega)) rfl
   | i + 2 => exact .c _ _ (.u _)⟩, hx⟩
  obtain ⟨G3, ι3, st⟩ := Wk.cut_fits (m := h.length) (L' := [(0, x), (1, y)]) (h' := hc2.take h.length) ⟨hc2.drop h.length, (List.take_append_drop _ _).symm⟩ (by omega) (by rw [hlt]; exact c3)
   (by rw [hlt]; exact ⟨⟨rfl, c1⟩, ⟨rfl, c2⟩, trivial⟩) (Nat.le_refl _) hfit
  have hv0 := st.rel.env 0
  have hv1 := st.rel.env 1
  refine ⟨.tuple cs, _, G3, ι3, hc2.take h.length, he, ⟨hc2.drop h.length, by rw [List.take_append_drop]; exact hR, hlt⟩, st.rel.hr, .tup cs _ hn fun i v z hv hz => ?_, st.ext⟩
  match i, hz with
  | 0, hz => cases hz; rw [Array.getElem?_eq_getElem (by omega)] at hv; cases hv; exact hv0
  | 1, hz => cases hz; rw [Array.getElem?_eq_getElem (by omega)] at hv; cases hv; exact hv1
  | i + 2, hz => cases hz
theorem Kept.unrn {ι ι2 ιc : Io} {w w2 : World} {l : Nat} {k kc : Blk} {ρ : Nat → Nat} (hk : Kept ι ι2 w w2 l k (rnB ρ kc)) (hi : ιc[l]? = ι2[l]?) (hm : ∀ m v es, kc ≠ .mi m v es) : Kept ι ιc w w2 l k kc := by
 cases kc with
 | dead => cases k <;> trivial
 | am m' =>
  cases k with
  | am m => trivial
  | _ => simp [rnB, Kept] at hk
 | bx cs' =>
  cases k with
  | bx cs => exact ⟨by have := hk.1; rw [rnCs_len] at this; exact this, by rw [hi]; exact hk.2⟩
  | _ => simp [rnB, Kept] at hk
 | da r' v' sz' es' =>
  cases k with
  | da r v sz es =>
   rcases hk with hk | ⟨a1, a2, a3, a4, a5, a6⟩
   ·exact .inl hk
   ·exact .inr ⟨a1, a2, a3, a4, by rw [hi]; exact a5, a6⟩
  | _ => simp [rnB, Kept] at hk
 | mp v' es' =>
  cases k with
  | mp v es => exact ⟨by rw [hi]; exact hk.1, hk.2⟩
  | _ => simp [rnB, Kept] at hk
 | mi m v es => exact absurd rfl (hm m v es)
theorem FnS.gc {P : Program} {f : Nat} {args : List AV} {h : Hp} {R : AV → Hp → Prop} (hf : FnS P f args h R) (Q : AV → Hp → Prop)
    (hg : ∀ r h', R r h' → ∃ (σ : List Nat) (r' : AV) (hc : Hp), Q r' hc ∧ σ.length = hc.length ∧ σ.Nodup ∧ (∀ l ∈ σ, l < h'.length) ∧ (∀ (i : Nat) (k : Blk), hc[i]? = some k → h'[rho σ h'.length i]? = some (rnB (rho σ h'.length) k)) ∧
      r = rnA (rho σ h'.length) r' ∧ refsH hc.length hc = true ∧ refsA hc.length r' = true ∧ h.length ≤ hc.length ∧ (∀ i, i < h.length → rho σ h'.length i = i) ∧ ∀ k ∈ hc, ∀ m v es, k ≠ .mi m v es) : FnS P f args h Q := by
  refine ⟨fun G ι w vs hr hv => ?_⟩
  refine (hf.out G ι w vs hr hv).mono fun e w2 ⟨v, r, G2, ι2, h', he, hR, hr2, hvr, hx⟩ => ?_
  obtain ⟨σ, r', hc, hQ, hlen, hnd, hlt, hh, hrr, hcl, hca, hle, hid, hmi⟩ := hg r h' hR
  generalize hρ : rho σ h'.length = ρ at *
  have rold : ∀ i, i < σ.length → σ[i]? = some (ρ i) := fun i hi => by rw [← hρ]; exact rho_old σ _ i hi
  have rnew : ∀ i, σ.length ≤ i → ρ i = h'.length + (i - σ.length) := fun i hi => by rw [← hρ]; exact rho_new σ _ i hi
  have rmem : ∀ i, i < σ.length → ρ i ∈ σ := fun i hi => List.mem_of_getElem? (rold i hi)
  have rinj : ∀ i j, ρ i = ρ j → i = j := by
    intro i j e
    rcases Nat.lt_or_ge i σ.length with hi | hi <;> rcases Nat.lt_or_ge j σ.length with hj | hj
    · have h1 := rold i hi
      have h2 := rold j hj
      rw [e, ← h2] at h1
      exact (List.getElem?_inj hi hnd).1 h1
    · have := hlt _ (rmem i hi); have := rnew j hj; omega
    · have := hlt _ (rmem j hj); have := rnew i hi; omega
    · have := rnew i hi; have := rnew j hj; omega
  let ιc : Io := σ.map fun l => (ι2[l]?).getD (0, 0)
  have hιc : ∀ i, i < σ.length → ιc[i]? = ι2[ρ i]? := by
    intro i hi
    simp only [ιc, List.getElem?_map, rold i hi, Option.map_some]
    rw [lgE (by rw [hr2.len]; exact hlt _ (rmem i hi))]; rfl
  have am : Among ρ ιc hc ι2 h' := ⟨hh, fun i k hk => (hιc i (by rw [hlen]; exact get_lt hk)).symm⟩
  have hrc : HR G2 ιc hc w2 := HR.down am hr2 (by simp [ιc, hlen]) (fun i j _ _ e => rinj i j e) hcl
  have hvc : VR G2 w2 ιc hc v r' := VR.unrn am (hrr ▸ hvr) hca
  refine ⟨v, r', G2, ιc, hc, he, hQ, hrc, hvc, ?_⟩
  exact
    { size := hx.size
      quiet := hx.quiet
      frame := hx.frame
      gmono := hx.gmono
      gnew := hx.gnew
      onew := fun b ho => hx.onew b (owned_up am ho)
      keep := fun l k hk => by
        obtain ⟨k', h1, h2⟩ := hx.keep l k hk
        have hl := get_lt hk
        have hkc : hc[l]? = some (hc[l]'(by omega)) := lgE _
        have h3 := hh l _ hkc
        rw [hid l hl, h1] at h3
        cases h3
        exact ⟨_, hkc, h2.unrn (by rw [hιc l (by omega), hid l hl]) (hmi _ (List.getElem_mem _))⟩ }
end Go.Ab

