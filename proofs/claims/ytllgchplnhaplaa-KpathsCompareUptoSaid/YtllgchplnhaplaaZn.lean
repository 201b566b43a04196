/-
  Merged texts, part n.
-/
import Derived.Test.YtllgchplnhaplaaZm
/-
  The shortest paths, plainly: found ones, candidates, what each round keeps.
-/
namespace Go.Ab
open Go.Proofs
def usedL (F : List (List Int)) (root : List Int) : List Int := F.filterMap fun f => if f.take root.length = root then f[root.length]? else none
theorem usedL_mem {F : List (List Int)} {root : List Int} {a : Int} : a ∈ usedL F root ↔ ∃ f ∈ F, f.take root.length = root ∧ f[root.length]? = some a := by
 unfold usedL
 rw [List.mem_filterMap]
 constructor
 ·rintro ⟨f, hf, h⟩
  split at h
  ·rename_i h1; exact ⟨f, hf, h1, h⟩
  ·cases h
 ·rintro ⟨f, hf, h1, h2⟩
  exact ⟨f, hf, by rw [if_pos h1]; exact h2⟩
section
variable (t : Top) (down : List Bool) (s d most : Int)
def Cls (F : List (List Int)) (root p : List Int) : Prop := GoodP t down s d most p ∧ p.take root.length = root ∧ ∃ a, p[root.length]? = some a ∧ a ∉ usedL F root
def MinIn (F : List (List Int)) (root : List Int) (C : List (List Int)) : Prop := (∀ p, ¬ Cls t down s d most F root p) ∨ ∃ c ∈ C, Cls t down s d most F root c ∧ ∀ p, Cls t down s d most F root p → leP t c p
structure FoundP (F : List (List Int)) : Prop where
 ne : F ≠ []
 good : ∀ f ∈ F, GoodP t down s d most f
 srt : F.Pairwise (ltP t)
 low : ∀ f ∈ F, ∀ p, GoodP t down s d most p → p ∉ F → ltP t f p
structure CandP (F C : List (List Int)) : Prop where
 nd : C.Nodup
 good : ∀ c ∈ C, GoodP t down s d most c ∧ c ∉ F
structure YenP (F C : List (List Int)) (last : List Int) : Prop where
 f : FoundP t down s d most F
 c : CandP t down s d most F C
 l : last ∈ F
 q : ∀ f ∈ F, ∀ i, i < f.length → ¬ (i < last.length ∧ last.take i = f.take i) → MinIn t down s d most F (f.take i) C
structure RouP (F C : List (List Int)) (last : List Int) (k : Nat) : Prop where
 c : CandP t down s d most F C
 q : ∀ f ∈ F, ∀ i, i < f.length → (¬ (i < last.length ∧ last.take i = f.take i) ∨ i < k) → MinIn t down s d most F (f.take i) C
end
variable {t : Top} {down : List Bool} {s d most : Int} {F C : List (List Int)}
theorem good_pre {p : List Int} {i : Nat} (h : GoodP t down s d most p) (h2 : GoodP t down s d most (p.take i)) : p.length ≤ i := by
 rcases Nat.lt_or_ge i p.length with hi | hi
 ·exact absurd h2.en (h.root hi).2
 ·exact hi
theorem MinIn.mono {root : List Int} {C' : List (List Int)} (h : MinIn t down s d most F root C) (hs : ∀ c ∈ C, c ∈ C') : MinIn t down s d most F root C' := by
 rcases h with h | ⟨c, h1, h2⟩
 ·exact .inl h
 ·exact .inr ⟨c, hs c h1, h2⟩
theorem YenP.start {last : List Int} (h : YenP t down s d most F C last) : RouP t down s d most F C last 0 :=
 ⟨h.c, fun f hf i hi hor => h.q f hf i hi (hor.resolve_right (Nat.not_lt_zero _))⟩
theorem RouP.step {last : List Int} {k : Nat} {o : Option (List Int)} (h : RouP t down s d most F C last k) (hl : last ∈ F) (hk : k < last.length) (hgl : GoodP t down s d most last)
  (ho : match o with
   | some q => GoodP t down s d most (last.take k ++ q) ∧ (∀ a q', q = a :: q' → a ∉ usedL F (last.take k)) ∧ ∀ q2, GoodP t down s d most (last.take k ++ q2) → (∀ a q', q2 = a :: q' → a ∉ usedL F (last.take k)) → leP t (last.take k ++ q) (last.take k ++ q2)
   | none => ∀ q2, (∀ a q', q2 = a :: q' → a ∉ usedL F (last.take k)) → ¬ GoodP t down s d most (last.take k ++ q2)) :
  RouP t down s d most F (match o with
   | some q => if last.take k ++ q ∈ C then C else C ++ [last.take k ++ q]
   | none => C) last (k + 1) := by
 have hlen : (last.take k).length = k := by rw [List.length_take]; omega
 have hcl : ∀ p, Cls t down s d most F (last.take k) p → ∃ q2, p = last.take k ++ q2 ∧ (∀ a q', q2 = a :: q' → a ∉ usedL F (last.take k)) := fun p ⟨h1, h2, a, h3, h4⟩ => by
  rw [hlen] at h2 h3
  refine ⟨p.drop k, by rw [← h2, List.take_append_drop], fun b q' e => ?_⟩
  have : p[k]? = some b := by rw [← List.head?_drop, e]; rfl
  rw [this] at h3; cases h3; exact h4
 cases o with
 | none =>
  refine ⟨h.c, fun f hf i hi hor => ?_⟩
  by_cases h1 : ¬ (i < last.length ∧ last.take i = f.take i) ∨ i < k
  ·exact h.q f hf i hi h1
  ·have hik : i = k := by
    rcases hor with h5 | h5
    ·exact absurd (Or.inl h5) h1
    ·rcases Nat.lt_or_ge i k with h6 | h6
     ·exact absurd (Or.inr h6) h1
     ·omega
   subst hik
   have e1 : last.take i = f.take i := Classical.byContradiction fun h2 => h1 (.inl fun h3 => h2 h3.2)
   rw [← e1]
   exact .inl fun p hp => by
    obtain ⟨q2, rfl, h3⟩ := hcl p hp
    exact ho q2 h3 hp.1
 | some q =>
  obtain ⟨h1, h2, h3⟩ := ho
  have hq : q ≠ [] := fun e => by
   rw [e, List.append_nil] at h1
   have := good_pre hgl h1
   omega
  obtain ⟨a, q', hqa⟩ := List.exists_cons_of_ne_nil hq
  have hap : (last.take k ++ q)[k]? = some a := by rw [List.getElem?_append_right (by omega), hlen, hqa]; simp
  have htk : (last.take k ++ q).take k = last.take k := by rw [List.take_append_of_le_length (by omega), List.take_of_length_le (by omega)]
  have hcls : Cls t down s d most F (last.take k) (last.take k ++ q) := ⟨h1, by rw [hlen]; exact htk, a, by rw [hlen]; exact hap, h2 a q' hqa⟩
  have hnF : last.take k ++ q ∉ F := fun hm => h2 a q' hqa (usedL_mem.2 ⟨_, hm, by rw [hlen]; exact htk, by rw [hlen]; exact hap⟩)
  have key : ∀ C', (∀ c ∈ C, c ∈ C') → last.take k ++ q ∈ C' → CandP t down s d most F C' → RouP t down s d most F C' last (k + 1) := fun C' hs hm hc => ⟨hc, fun f hf i hi hor => by
   by_cases h4 : ¬ (i < last.length ∧ last.take i = f.take i) ∨ i < k
   ·exact (h.q f hf i hi h4).mono hs
   ·have hik : i = k := by
     rcases hor with h5 | h5
     ·exact absurd (Or.inl h5) h4
     ·rcases Nat.lt_or_ge i k with h6 | h6
      ·exact absurd (Or.inr h6) h4
      ·omega
    subst hik
    have e1 : last.take i = f.take i := Classical.byContradiction fun h2 => h4 (.inl fun h3 => h2 h3.2)
    rw [← e1]
    exact .inr ⟨_, hm, hcls, fun p hp => by
     obtain ⟨q2, rfl, h5⟩ := hcl p hp
     exact h3 q2 hp.1 h5⟩⟩
  simp only
  split
  ·rename_i hm
   exact key C (fun _ h => h) hm h.c
  ·rename_i hm
   refine key _ (fun c hc => List.mem_append_left _ hc) (by simp) ⟨?_, fun c hc => ?_⟩
   ·rw [List.nodup_append]
    refine ⟨h.c.nd, by simp, fun x hx y hy e => ?_⟩
    rw [List.mem_singleton] at hy
    rw [e, hy] at hx
    exact hm hx
   ·rcases List.mem_append.1 hc with hc | hc
    ·exact h.c.good c hc
    ·rw [List.mem_singleton] at hc
     rw [hc]
     exact ⟨h1, hnF⟩
theorem max_pre : ∀ (n : Nat) (Q : Nat → Prop), Q 0 → ∃ i, i ≤ n ∧ Q i ∧ (i < n → ¬ Q (i + 1))
 | 0, _, h => ⟨0, Nat.le_refl _, h, fun h => absurd h (Nat.lt_irrefl _)⟩
 | n + 1, Q, h => by
  obtain ⟨i, h1, h2, h3⟩ := max_pre n Q h
  rcases Nat.lt_or_ge i n with hi | hi
  ·exact ⟨i, by omega, h2, fun _ => h3 hi⟩
  ·have : i = n := by omega
   subst this
   rcases Classical.em (Q (i + 1)) with hq | hq
   ·exact ⟨i + 1, Nat.le_refl _, hq, fun h => absurd h (Nat.lt_irrefl _)⟩
   ·exact ⟨i, by omega, h2, fun _ => hq⟩
theorem RouP.cover {last : List Int} (hF : FoundP t down s d most F) (h : RouP t down s d most F C last last.length) {p : List Int} (hp : GoodP t down s d most p) (hn : p ∉ F) : ∃ c ∈ C, leP t c p := by
 obtain ⟨f0, hf0⟩ := List.exists_mem_of_ne_nil F hF.ne
 obtain ⟨i, hi, ⟨f, hf, he, hfl⟩, hmax⟩ := max_pre p.length (fun i => ∃ f ∈ F, f.take i = p.take i ∧ i ≤ f.length) ⟨f0, hf0, by simp, Nat.zero_le _⟩
 have hlt : i < f.length := by
  rcases Nat.lt_or_ge i f.length with h1 | h1
  ·exact h1
  ·rw [List.take_of_length_le h1] at he
   have := good_pre hp (i := i) (by rw [← he]; exact hF.good f hf)
   rw [List.take_of_length_le this] at he
   exact absurd (he ▸ hf) hn
 have hlp : i < p.length := by
  rcases Nat.lt_or_ge i p.length with h1 | h1
  ·exact h1
  ·have e : p.take i = p := List.take_of_length_le h1
   have h2 := good_pre (hF.good f hf) (i := i) (by rw [he, e]; exact hp)
   omega
 have hlen : (f.take i).length = i := by rw [List.length_take]; omega
 have hcls : Cls t down s d most F (f.take i) p := by
  refine ⟨hp, by rw [hlen]; exact he.symm, p[i], by rw [hlen]; exact List.getElem?_eq_getElem hlp, fun hu => ?_⟩
  obtain ⟨f2, hf2, h1, h2⟩ := usedL_mem.1 hu
  rw [hlen] at h1 h2
  refine hmax hlp ⟨f2, hf2, ?_, ?_⟩
  ·rw [List.take_add_one, List.take_add_one, h1, he, h2, List.getElem?_eq_getElem hlp]
  ·have := get_lt h2; omega
 rcases h.q f hf i hlt (by omega) with h1 | ⟨c, h1, h2, h3⟩
 ·exact absurd hcls (h1 p)
 ·exact ⟨c, h1, h3 p hcls⟩
theorem RouP.all {last : List Int} (hF : FoundP t down s d most F) (h : RouP t down s d most F [] last last.length) {p : List Int} (hp : GoodP t down s d most p) : p ∈ F := by
 rcases Classical.em (p ∈ F) with h1 | h1
 ·exact h1
 ·obtain ⟨c, hc, _⟩ := h.cover hF hp h1
  cases hc
theorem RouP.next {last c : List Int} {C2 : List (List Int)} (hF : FoundP t down s d most F) (h : RouP t down s d most F C last last.length) (hp : (c :: C2).Perm C) (hmin : ∀ x ∈ C2, leP t c x) : YenP t down s d most (F ++ [c]) C2 c := by
 have hcC : c ∈ C := hp.mem_iff.1 (by simp)
 have hsub : ∀ x ∈ C2, x ∈ C := fun x hx => hp.mem_iff.1 (List.mem_cons_of_mem _ hx)
 have hnd : (c :: C2).Nodup := hp.nodup_iff.2 h.c.nd
 obtain ⟨hgc, hcF⟩ := h.c.good c hcC
 have hlow : ∀ f ∈ F ++ [c], ∀ p, GoodP t down s d most p → p ∉ F ++ [c] → ltP t f p := fun f hf p hp2 hn => by
  rw [List.mem_append, List.mem_singleton, not_or] at hn
  rcases List.mem_append.1 hf with hf | hf
  ·exact hF.low f hf p hp2 hn.1
  ·rw [List.mem_singleton.1 hf]
   obtain ⟨x, hx, hle⟩ := h.cover hF hp2 hn.1
   refine ltP_iff.2 ⟨?_, fun e => hn.2 e.symm⟩
   rcases List.mem_cons.1 (hp.mem_iff.2 hx) with rfl | hx
   ·exact hle
   ·exact leP_trans (hmin x hx) hle
 refine ⟨⟨by simp, fun f hf => ?_, ?_, hlow⟩, ⟨(List.nodup_cons.1 hnd).2, fun x hx => ?_⟩, by simp, fun f hf i hi hno => ?_⟩
 ·rcases List.mem_append.1 hf with hf | hf
  ·exact hF.good f hf
  ·rw [List.mem_singleton.1 hf]; exact hgc
 ·rw [List.pairwise_append]
  exact ⟨hF.srt, by simp, fun f hf y hy => by rw [List.mem_singleton.1 hy]; exact hF.low f hf c hgc hcF⟩
 ·obtain ⟨h1, h2⟩ := h.c.good x (hsub x hx)
  refine ⟨h1, ?_⟩
  rw [List.mem_append, List.mem_singleton, not_or]
  exact ⟨h2, fun e => (List.nodup_cons.1 hnd).1 (e ▸ hx)⟩
 ·have hfc : f ≠ c := fun e => hno ⟨e ▸ hi, by rw [e]⟩
  have hfF : f ∈ F := by
   rcases List.mem_append.1 hf with hf | hf
   ·exact hf
   ·exact absurd (List.mem_singleton.1 hf) hfc
  have hlen : (f.take i).length = i := by rw [List.length_take]; omega
  have hcno : c.take i = f.take i → c[i]? = none := fun e => by
   rw [List.getElem?_eq_none_iff]
   rcases Nat.lt_or_ge i c.length with h1 | h1
   ·exact absurd ⟨h1, e⟩ hno
   ·exact h1
  have hus : ∀ a, a ∈ usedL (F ++ [c]) (f.take i) ↔ a ∈ usedL F (f.take i) := fun a => by
   rw [usedL_mem, usedL_mem, hlen]
   constructor
   ·rintro ⟨x, hx, h1, h2⟩
    rcases List.mem_append.1 hx with hx | hx
    ·exact ⟨x, hx, h1, h2⟩
    ·rw [List.mem_singleton.1 hx] at h1 h2
     rw [hcno h1] at h2; cases h2
   ·rintro ⟨x, hx, h1, h2⟩
    exact ⟨x, List.mem_append_left _ hx, h1, h2⟩
  have hcls : ∀ p, Cls t down s d most (F ++ [c]) (f.take i) p ↔ Cls t down s d most F (f.take i) p := fun p => by
   unfold Cls
   simp only [hus]
  rcases h.q f hfF i hi (by omega) with h1 | ⟨x, h1, h2, h3⟩
  ·exact .inl fun p hp => h1 p ((hcls p).1 hp)
  ·refine .inr ⟨x, ?_, (hcls x).2 h2, fun p hp => h3 p ((hcls p).1 hp)⟩
   rcases List.mem_cons.1 (hp.mem_iff.2 h1) with rfl | h4
   ·obtain ⟨_, h5, a, h6, _⟩ := h2
    rw [hlen] at h5 h6
    rw [hcno h5] at h6; cases h6
   ·exact h4
theorem YenP.init {f : List Int} (h : GoodP t down s d most f) (hmin : ∀ p, GoodP t down s d most p → leP t f p) : YenP t down s d most [f] [] f := by
 refine ⟨⟨by simp, fun x hx => by rw [List.mem_singleton.1 hx]; exact h, by simp, fun x hx p hp hn => ?_⟩, ⟨by simp, fun c hc => by cases hc⟩, by simp, fun x hx i hi hno => ?_⟩
 ·rw [List.mem_singleton.1 hx]
  exact ltP_iff.2 ⟨hmin p hp, fun e => hn (by rw [e]; simp)⟩
 ·rw [List.mem_singleton.1 hx] at hi hno
  exact absurd ⟨hi, rfl⟩ hno
structure IsSrt (t : Top) (G : List Int → Prop) (L : List (List Int)) : Prop where
 srt : L.Pairwise (ltP t)
 mem : ∀ p, p ∈ L ↔ G p
theorem ltP_irr {p : List Int} : ¬ ltP t p p := fun h => (ltP_iff.1 h).2 rfl
theorem srt_take : ∀ {F L : List (List Int)}, F.Pairwise (ltP t) → L.Pairwise (ltP t) → (∀ f ∈ F, f ∈ L) → (∀ f ∈ F, ∀ p ∈ L, p ∉ F → ltP t f p) → F = L.take F.length
 | [], _, _, _, _, _ => by simp
 | f :: F, [], _, _, h, _ => by have := h f (by simp); cases this
 | f :: F, l :: L, h1, h2, h3, h4 => by
  obtain ⟨a1, a2⟩ := List.pairwise_cons.1 h1
  obtain ⟨b1, b2⟩ := List.pairwise_cons.1 h2
  have e : f = l := by
   rcases List.mem_cons.1 (h3 f (by simp)) with e | hm
   ·exact e
   ·have hlf := b1 f hm
    rcases Classical.em (l ∈ f :: F) with hl | hl
    ·rcases List.mem_cons.1 hl with e | hl
     ·exact e.symm
     ·exact absurd (ltP_trans hlf (a1 l hl)) ltP_irr
    ·exact absurd (ltP_trans hlf (h4 f (by simp) l (by simp) hl)) ltP_irr
  subst e
  rw [List.length_cons, List.take_succ_cons, ← srt_take a2 b2 (fun x hx => ?_) fun x hx p hp hn => ?_]
  ·rcases List.mem_cons.1 (h3 x (List.mem_cons_of_mem _ hx)) with rfl | hm
   ·exact absurd (a1 x hx) ltP_irr
   ·exact hm
  ·refine h4 x (List.mem_cons_of_mem _ hx) p (List.mem_cons_of_mem _ hp) fun hm => ?_
   rcases List.mem_cons.1 hm with rfl | hm
   ·exact ltP_irr (b1 p hp)
   ·exact hn hm
theorem IsSrt.uniq {G : List Int → Prop} {L M : List (List Int)} (h1 : IsSrt t G L) (h2 : IsSrt t G M) : L = M := by
 have a := srt_take h1.srt h2.srt (fun f hf => (h2.mem f).2 ((h1.mem f).1 hf)) fun f _ p hp hn => absurd ((h1.mem p).2 ((h2.mem p).1 hp)) hn
 have b := srt_take h2.srt h1.srt (fun f hf => (h1.mem f).2 ((h2.mem f).1 hf)) fun f _ p hp hn => absurd ((h2.mem p).2 ((h1.mem p).1 hp)) hn
 have l1 := congrArg List.length a
 have l2 := congrArg List.length b
 rw [List.length_take] at l1 l2
 rw [a, List.take_of_length_le (by omega)]
theorem FoundP.take {L : List (List Int)} (hF : FoundP t down s d most F) (hL : IsSrt t (GoodP t down s d most) L) {k : Nat} (hk : F.length ≤ k) (hor : F.length = k ∨ ∀ p, GoodP t down s d most p → p ∈ F) : F = L.take k := by
 have h1 := srt_take hF.srt hL.srt (fun f hf => (hL.mem f).2 (hF.good f hf)) fun f hf p hp hn => hF.low f hf p ((hL.mem p).1 hp) hn
 rcases hor with h | h
 ·rw [← h]; exact h1
 ·have h2 := srt_take hL.srt hF.srt (fun f hf => h f ((hL.mem f).1 hf)) fun f hf p hp hn => absurd ((hL.mem p).2 (hF.good p hp)) hn
  have l1 := congrArg List.length h1
  have l2 := congrArg List.length h2
  rw [List.length_take] at l1 l2
  rw [h1, List.take_of_length_le (by omega), List.take_of_length_le (by omega)]
end Go.Ab

/-
  Paths in order: the program's comparison.
-/
namespace Go.Ab
open Go.Proofs
theorem nanN_ok (P : Program) (hP : P = Try.prog) (n : Int) : Ret P n_cmp_isNaN_int [iA n] (bA false) := by
 refine ret_start (hP ▸ mixed) (hP ▸ fn_cmp_isNaN_int) (hP ▸ c_cmp_isNaN_int) (Nat.le_of_ble_eq_true rfl) fun Λ Λo K hK => ?_
 clear hP
 conv => cbv
 repeat' first | exact gu | exact trivial | refine And.intro ?_ ?_ | (intro hc; exact absurd hc (by decide)) | (intro hc; exfalso; omega) | (intro hc; (first | rw [wrap_small (by omega) (by omega)] at hc | rw [nI_eq] at hc | skip); try (conv => cbv))
 exact hK
theorem cmpN_ok (P : Program) (hP : P = Try.prog) (a b : Int) : Ret P n_cmp_Compare_int [iA a, iA b] (iA (cmI a b)) := by
 have h1 := fun n => nanN_ok P hP n
 refine ret_start (hP ▸ mixed) (hP ▸ fn_cmp_Compare_int) (hP ▸ c_cmp_Compare_int) (Nat.le_of_ble_eq_true rfl) fun Λ Λo K hK => ?_
 clear hP
 have leaf : ∀ c, c = cmI a b → K (iA c) := fun c h => by rw [h]; exact hK
 clear hK
 conv => cbv
 repeat' first | refine call_b (h1 _) rfl rfl ?_ ?_ | exact gu | exact trivial | refine And.intro ?_ ?_ | (intro hc; exact absurd hc (by decide)) | (intro hc; exfalso; omega) | (intro hc; (first | rw [wrap_small (by omega) (by omega)] at hc | rw [nI_eq] at hc | skip); try (conv => cbv))
 all_goals refine leaf _ ?_
 all_goals rw [cmI]
 ·rw [if_pos (by omega)]
 ·rw [if_neg (by omega), if_pos (by omega)]
 ·rw [if_neg (by omega), if_neg (by omega)]
def or3 (a b c : Int) : Int := if a = 0 then (if b = 0 then c else b) else a
theorem or3_ok (P : Program) (hP : P = Try.prog) (a b c : Int) : Ret P n_cmp_Or_int [.c (.d (.list false 1 [[iD a], [iD b], [iD c]]))] (iA (or3 a b c)) := by
 refine ret_start (hP ▸ mixed) (hP ▸ fn_cmp_Or_int) (hP ▸ c_cmp_Or_int) (Nat.le_of_ble_eq_true rfl) fun Λ Λo K hK => ?_
 clear hP
 have y1 : a ≠ 0 → K (iA a) := fun h => by rw [or3, if_neg h] at hK; exact hK
 have y2 : a = 0 → b ≠ 0 → K (iA b) := fun h h2 => by rw [or3, if_pos h, if_neg h2] at hK; exact hK
 have y3 : a = 0 → b = 0 → K (iA c) := fun h h2 => by rw [or3, if_pos h, if_pos h2] at hK; exact hK
 clear hK
 obtain ⟨l, hl⟩ : ∃ l, l = [[iD a], [iD b], [iD c]] := ⟨_, rfl⟩
 have hln : Λ l = 3 := by rw [Λo, hl]; rfl
 have g0 : l[(0 : Int).toNat]? = some [iD a] := by rw [hl]; rfl
 have g1 : l[(1 : Int).toNat]? = some [iD b] := by rw [hl]; rfl
 have g2 : l[(2 : Int).toNat]? = some [iD c] := by rw [hl]; rfl
 rw [← hl]
 clear hl
 conv => cbv
 repeat' first | exact gu | exact trivial | refine And.intro ?_ ?_ | (intro hc; exact absurd hc (by decide)) | (intro hc; exfalso; omega) | (intro hc; (first | rw [wrap_small (by omega) (by omega)] at hc | rw [nI_eq] at hc | skip); try (conv => cbv))
 refine loop_up 3 (fun i : Int => [(3, iA 0), (6, .c (.d (.list false 1 l))), (7, iA (Λ l)), (8, iA i)]) (fun _ => []) (fun k i => i = k ∧ k ≤ 3 ∧ (1 ≤ k → a = 0) ∧ (2 ≤ k → b = 0) ∧ (3 ≤ k → c = 0)) 0 (Wk.cw) ⟨rfl, by omega, by omega, by omega, by omega⟩ (fun k s h => h.2.1) ?_
 rintro k i Q' ⟨hi, hk, h1, h2, h3⟩ norm ex rt
 match k, hk with
 | 0, _ =>
  obtain rfl : i = 0 := hi
  conv => cbv
  repeat' first | (refine ex _ _ _ ?_; (conv => cbv)) | (refine rt _ _ ?_; (conv => cbv)) | (intro (e : List D) he; cases Option.some.inj (he.symm.trans g0); (conv => cbv)) | exact gu | exact trivial | refine And.intro ?_ ?_ | (intro hc; exact absurd hc (by decide)) | (intro hc; exfalso; omega) | (intro hc; (first | rw [wrap_small (by omega) (by omega)] at hc | rw [nI_eq] at hc | skip); try (conv => cbv))
  ·exact y1 (by assumption)
  ·rename_i i2
   refine norm _ _ i2 ?_ (Wk.cw)
   exact ⟨by omega, by omega, fun _ => (by assumption), by omega, by omega⟩
 | 1, _ =>
  obtain rfl : i = 1 := hi
  have h1 := h1 (by omega)
  conv => cbv
  repeat' first | (refine ex _ _ _ ?_; (conv => cbv)) | (refine rt _ _ ?_; (conv => cbv)) | (intro (e : List D) he; cases Option.some.inj (he.symm.trans g1); (conv => cbv)) | exact gu | exact trivial | refine And.intro ?_ ?_ | (intro hc; exact absurd hc (by decide)) | (intro hc; exfalso; omega) | (intro hc; (first | rw [wrap_small (by omega) (by omega)] at hc | rw [nI_eq] at hc | skip); try (conv => cbv))
  ·exact y2 h1 (by assumption)
  ·rename_i i2
   refine norm _ _ i2 ?_ (Wk.cw)
   exact ⟨by omega, by omega, fun _ => h1, fun _ => (by assumption), by omega⟩
 | 2, _ =>
  obtain rfl : i = 2 := hi
  have h1 := h1 (by omega)
  have h2 := h2 (by omega)
  conv => cbv
  repeat' first | (refine ex _ _ _ ?_; (conv => cbv)) | (refine rt _ _ ?_; (conv => cbv)) | (intro (e : List D) he; cases Option.some.inj (he.symm.trans g2); (conv => cbv)) | exact gu | exact trivial | refine And.intro ?_ ?_ | (intro hc; exact absurd hc (by decide)) | (intro hc; exfalso; omega) | (intro hc; (first | rw [wrap_small (by omega) (by omega)] at hc | rw [nI_eq] at hc | skip); try (conv => cbv))
  ·exact y3 h1 h2
  ·rename_i i2
   refine norm _ _ i2 ?_ (Wk.cw)
   exact ⟨by omega, by omega, fun _ => h1, fun _ => h2, fun _ => (by assumption)⟩
 | 3, _ =>
  have y3 := y3 (h1 (by omega)) (h2 (by omega))
  rw [h3 (by omega)] at y3
  conv => cbv
  repeat' first | (refine ex _ _ _ ?_; (conv => cbv)) | (refine rt _ _ ?_; (conv => cbv)) | exact gu | exact trivial | refine And.intro ?_ ?_ | (intro hc; exact absurd hc (by decide)) | (intro hc; exfalso; omega) | (intro hc; (first | rw [wrap_small (by omega) (by omega)] at hc | rw [nI_eq] at hc | skip); try (conv => cbv))
  exact y3
theorem lexC_drop {a b : List Int} {k : Nat} {x y : Int} (hx : a[k]? = some x) (hy : b[k]? = some y) : lexC (a.drop k) (b.drop k) = if x < y then -1 else if y < x then 1 else lexC (a.drop (k + 1)) (b.drop (k + 1)) := by
 obtain ⟨h1, rfl⟩ := List.getElem?_eq_some_iff.1 hx
 obtain ⟨h2, rfl⟩ := List.getElem?_eq_some_iff.1 hy
 rw [List.drop_eq_getElem_cons h1, List.drop_eq_getElem_cons h2, lexC]
theorem lex_ok (P : Program) (hP : P = Try.prog) (a b : List Int) : Ret P n_slices_Compare_int_int [intsA a, intsA b] (iA (lexC a b)) := by
 have hcm := fun x y => cmpN_ok P hP x y
 refine ret_start (hP ▸ mixed) (hP ▸ fn_slices_Compare_int_int) (hP ▸ c_slices_Compare_int_int) (Nat.le_of_ble_eq_true rfl) fun Λ Λo K hK => ?_
 clear hP
 have leaf : ∀ c, c = lexC a b → K (iA c) := fun c h => by rw [h]; exact hK
 clear hK
 have d0 : lexC a b = lexC (a.drop 0) (b.drop 0) := rfl
 have hst := fun k x y => @lexC_drop a b k x y
 have he1 : ∀ k : Nat, a.length ≤ k → k < b.length → lexC (a.drop k) (b.drop k) = -1 := fun k h1 h2 => by
  rw [List.drop_of_length_le h1, List.drop_eq_getElem_cons h2]; rfl
 have he2 : ∀ k : Nat, k < a.length → b.length ≤ k → lexC (a.drop k) (b.drop k) = 1 := fun k h1 h2 => by
  rw [List.drop_of_length_le h2, List.drop_eq_getElem_cons h1]; rfl
 have he3 : ∀ k : Nat, a.length ≤ k → b.length ≤ k → lexC (a.drop k) (b.drop k) = 0 := fun k h1 h2 => by
  rw [List.drop_of_length_le h1, List.drop_of_length_le h2]; rfl
 generalize (lexC a b) = r at *
 obtain ⟨Z, hZ⟩ : ∃ Z : Nat → Int, Z = fun k => lexC (a.drop k) (b.drop k) := ⟨_, rfl⟩
 have hZ' : ∀ k, lexC (a.drop k) (b.drop k) = Z k := fun k => by rw [hZ]
 rw [hZ'] at d0
 have hst : ∀ k x y, a[k]? = some x → b[k]? = some y → Z k = if x < y then -1 else if y < x then 1 else Z (k + 1) := fun k x y h1 h2 => by rw [← hZ', ← hZ']; exact hst k x y h1 h2
 have he1 : ∀ k : Nat, a.length ≤ k → k < b.length → Z k = -1 := fun k h1 h2 => by rw [← hZ']; exact he1 k h1 h2
 have he2 : ∀ k : Nat, k < a.length → b.length ≤ k → Z k = 1 := fun k h1 h2 => by rw [← hZ']; exact he2 k h1 h2
 have he3 : ∀ k : Nat, a.length ≤ k → b.length ≤ k → Z k = 0 := fun k h1 h2 => by rw [← hZ']; exact he3 k h1 h2
 clear hZ hZ'
 simp only [intsA, intsD] at *
 generalize alh : List.map encI a = al at *
 have aln : Λ al = a.length := by rw [Λo, ← alh]; simp
 generalize blh : List.map encI b = bl at *
 have bln : Λ bl = b.length := by rw [Λo, ← blh]; simp
 conv => cbv
 repeat' first | exact gu | exact trivial | refine And.intro ?_ ?_ | (intro hc; exact absurd hc (by decide)) | (intro hc; exfalso; omega) | (intro hc; (first | rw [wrap_small (by omega) (by omega)] at hc | rw [nI_eq] at hc | skip); try (conv => cbv))
 refine loop_up a.length (fun i : Int => [(0, .c (.d (.list false 1 al))), (1, .c (.d (.list false 1 bl))), (9, .c (.d (.list false 1 al))), (10, iA (Λ al)), (11, iA i)]) (fun _ => []) (fun k i => i = k ∧ k ≤ a.length ∧ k ≤ b.length ∧ r = Z k) 0 (Wk.cw) ⟨rfl, by omega, by omega, d0⟩ (fun k s h => h.2.1) ?_
 rintro k i Q' ⟨hi, hk, hkb, hr⟩ norm ex rt
 by_cases hlt : k < a.length
 ·by_cases hlb : k < b.length
  ·obtain ⟨x, hx⟩ : ∃ x, a[k]? = some x := ⟨_, List.getElem?_eq_getElem hlt⟩
   have hxa := elt_at alh hi hx
   obtain ⟨y, hy⟩ : ∃ y, b[k]? = some y := ⟨_, List.getElem?_eq_getElem hlb⟩
   have hya := elt_at blh hi hy
   have hs := hst k x y hx hy
   have hcxy := hcm x y
   have c1 := @cmI_lt x y
   have c2 := @cmI_z x y
   have c3 : cmI x y = if x < y then -1 else if y < x then 1 else 0 := rfl
   generalize cmI x y = c at *
   conv => cbv
   repeat' first | (refine ex _ _ _ ?_; (conv => cbv)) | (refine rt _ _ ?_; (conv => cbv)) | (intro e he; cases Option.some.inj (he.symm.trans hxa); (conv => cbv)) | (intro e he; cases Option.some.inj (he.symm.trans hya); (conv => cbv)) | (refine call_r hcxy rfl rfl ?_; conv => cbv) | exact gu | exact trivial | refine And.intro ?_ ?_ | (intro hc; exact absurd hc (by decide)) | (intro hc; exfalso; omega) | (intro hc; (first | rw [wrap_small (by omega) (by omega)] at hc | rw [nI_eq] at hc | skip); try (conv => cbv))
   ·refine leaf c ?_
    rw [hr, hs, c3]
    by_cases e1 : x < y
    ·rw [if_pos e1, if_pos e1]
    ·rw [if_neg e1, if_neg e1]
     have : y < x := by omega
     rw [if_pos this, if_pos this]
   ·rename_i j
    refine norm _ _ j ?_ (Wk.cw)
    refine ⟨by omega, by omega, by omega, ?_⟩
    rw [hr, hs, if_neg (by omega), if_neg (by omega)]
  ·have e := he2 k hlt (by omega)
   obtain ⟨x, hx⟩ : ∃ x, a[k]? = some x := ⟨_, List.getElem?_eq_getElem hlt⟩
   have hxa := elt_at alh hi hx
   conv => cbv
   repeat' first | (refine ex _ _ _ ?_; (conv => cbv)) | (refine rt _ _ ?_; (conv => cbv)) | (intro e he; cases Option.some.inj (he.symm.trans hxa); (conv => cbv)) | exact gu | exact trivial | refine And.intro ?_ ?_ | (intro hc; exact absurd hc (by decide)) | (intro hc; exfalso; omega) | (intro hc; (first | rw [wrap_small (by omega) (by omega)] at hc | rw [nI_eq] at hc | skip); try (conv => cbv))
   exact leaf _ (by rw [hr, e])
 ·conv => cbv
  repeat' first | (refine ex _ _ _ ?_; (conv => cbv)) | (refine rt _ _ ?_; (conv => cbv)) | exact gu | exact trivial | refine And.intro ?_ ?_ | (intro hc; exact absurd hc (by decide)) | (intro hc; exfalso; omega) | (intro hc; (first | rw [wrap_small (by omega) (by omega)] at hc | rw [nI_eq] at hc | skip); try (conv => cbv))
  ·exact leaf _ (by rw [hr]; exact (he1 k (by omega) (by omega)).symm)
  ·exact leaf _ (by rw [hr]; exact (he3 k (by omega) (by omega)).symm)
theorem order_ok (P : Program) (hP : P = Try.prog) (ca cb : Int) (a b : List Int) : Ret P n_kpaths_order [iA ca, iA cb, intsA a, intsA b] (iA (ordS ca cb a b)) := by
 have h1 := cmpN_ok P hP ca cb
 have h2 := cmpN_ok P hP (a.length) (b.length)
 have h3 := lex_ok P hP a b
 have h4 := or3_ok P hP (cmI ca cb) (cmI a.length b.length) (lexC a b)
 have h5 : or3 (cmI ca cb) (cmI a.length b.length) (lexC a b) = ordS ca cb a b := rfl
 rw [h5] at h4
 clear h5
 generalize ordS ca cb a b = r at *
 generalize cmI ca cb = c1 at *
 generalize cmI a.length b.length = c2 at *
 generalize lexC a b = c3 at *
 refine ret_start (hP ▸ mixed) (hP ▸ fn_kpaths_order) (hP ▸ c_kpaths_order) (Nat.le_of_ble_eq_true rfl) fun Λ Λo K hK => ?_
 clear hP
 simp only [intsA, intsD] at *
 generalize alh : List.map encI a = al at *
 have aln : Λ al = a.length := by rw [Λo, ← alh]; simp
 generalize blh : List.map encI b = bl at *
 have bln : Λ bl = b.length := by rw [Λo, ← blh]; simp
 rw [← aln, ← bln] at h2
 conv => cbv
 repeat' first | (refine call_r h1 rfl rfl ?_; conv => cbv) | (refine call_r h2 rfl rfl ?_; conv => cbv) | (refine call_r h3 rfl rfl ?_; conv => cbv) | (refine call_z 0 0 1 3 rfl rfl (by repeat' first | exact trivial | refine And.intro ?_ ?_ | rfl) (by repeat' first | exact trivial | refine And.intro ?_ ?_ | rfl) ?_; conv => cbv) | (refine call_r h4 rfl rfl ?_; conv => cbv) | exact gu | exact trivial | refine And.intro ?_ ?_ | (intro hc; exact absurd hc (by decide)) | (intro hc; exfalso; omega) | (intro hc; (first | rw [wrap_small (by omega) (by omega)] at hc | rw [nI_eq] at hc | skip); try (conv => cbv))
 all_goals exact hK
end Go.Ab

/-
  Calls by a contract over a few blocks.
-/
namespace Go.Ab
open Go.Proofs
def frOk (h : Hp) (ρ : Nat → Nat) : Nat → Hp → Prop
 | _, [] => True
 | n, k :: r => h[ρ n]? = some (rnB ρ k) ∧ frOk h ρ (n + 1) r
theorem frOk_get {h : Hp} {ρ : Nat → Nat} : ∀ {hc : Hp} {n : Nat}, frOk h ρ n hc → ∀ i k, hc[i]? = some k → h[ρ (n + i)]? = some (rnB ρ k) := by
 intro hc
 induction hc with
 | nil => intro n _ i k h; simp at h
 | cons b r ih =>
  intro n ⟨h1, h2⟩ i k hk
  cases i with
  | zero => simp at hk; subst hk; exact h1
  | succ i =>
   simp at hk
   have := ih h2 i k hk
   rw [show n + 1 + i = n + (i + 1) by omega] at this; exact this
theorem call_fr {P : Program} {m : Nat} {L : Lv} {h : Hp} {f : Nat} {xs : List X} {K : Lv → AV → Hp → Prop} {args : List AV} {hc : Hp} {R : AV → Hp → Prop} (σ : List Nat) (hf : FnS P f args hc R) (ha : evsN L xs = rnAs (rho σ h.length) args) (hlen : σ.length = hc.length) (hnd : σ.Nodup)
  (hh : frOk h (rho σ h.length) 0 hc) (hcl : refsH hc.length hc = true) (hca : args.all (refsA hc.length) = true) (k : ∀ r hc', R r hc' → K L (rnA (rho σ h.length) r) (backH h σ hc')) : CallS P m false L h f xs K := by
 refine .fn ?_
 rw [ha]
 refine (hf.frame σ h hlen hnd (fun i b hb => by have := frOk_get hh i b hb; rw [Nat.zero_add] at this; exact this) hcl fun x hx => List.all_eq_true.1 hca x hx).mono ?_
 rintro r h' ⟨r0, hc', h1, rfl, rfl⟩
 exact k r0 hc' h1
theorem callv_fr {P : Program} {h : Hp} {f : Nat} {args' : List AV} {K : AV → Hp → Prop} {args : List AV} {hc : Hp} {R : AV → Hp → Prop} (σ : List Nat) (hf : FnS P f args hc R) (ha : args' = rnAs (rho σ h.length) args) (hlen : σ.length = hc.length) (hnd : σ.Nodup)
  (hh : frOk h (rho σ h.length) 0 hc) (hcl : refsH hc.length hc = true) (hca : args.all (refsA hc.length) = true) (k : ∀ r hc', R r hc' → K (rnA (rho σ h.length) r) (backH h σ hc')) : CallV P h f args' K := by
 refine .fn ?_
 rw [ha]
 refine (hf.frame σ h hlen hnd (fun i b hb => by have := frOk_get hh i b hb; rw [Nat.zero_add] at this; exact this) hcl fun x hx => List.all_eq_true.1 hca x hx).mono ?_
 rintro r h' ⟨r0, hc', h1, rfl, rfl⟩
 exact k r0 hc' h1
theorem heap_start {P : Program} {f : Nat} {fn : Func} {af : AF} {args : List AV} {h : Hp} {R : AV → Hp → Prop} (hm : P.follows .mixedOrders = true) (hf : P.funcs[f]? = some fn) (hc : compF P fn = some af) (hl : args.length ≤ af.nt)
  (hv : ∀ Λ : Len, (∀ l, Λ l = (l.length : Int)) → ∀ K : AV → Hp → Prop, (∀ r h', R r h' → K r h') → vcH P Λ af args h K) : FnS P f args h R := fn_heap hm hf hc hl fun Λ h => hv Λ h _ fun _ _ h => h
end Go.Ab

/-
  The engine: a function's new blocks, given up behind it.
-/
namespace Go.Ab
theorem FnS.cut {P : Program} {f : Nat} {args : List AV} {h : Hp} {R : AV → Hp → Prop} (hf : FnS P f args h R) (hc : ∀ r h', R r h' → refsA h.length r = true ∧ refsH h.length (h'.take h.length) = true) :
  FnS P f args h fun r h1 => ∃ h2, R r (h1 ++ h2) ∧ h1.length = h.length := by
 refine ⟨fun G ι w vs hr hv => ?_⟩
 refine (hf.out G ι w vs hr hv).mono fun e w2 ⟨v, r, G2, ι2, hc2, he, hR, hr2, hvr, hx⟩ => ?_
 have hl2 : h.length ≤ hc2.length := by
  rcases Nat.lt_or_ge hc2.length h.length with hb | hb
  ·obtain ⟨k', h1, _⟩ := hx.keep hc2.length _ (List.getElem?_eq_getElem hb)
   have := get_lt h1; omega
  ·exact hb
 obtain ⟨c1, c2⟩ := hc r hc2 hR
 have hlt : (hc2.take h.length).length = h.length := by rw [List.length_take]; omega
 let a : Act := ⟨#[v], []⟩
 have hfit : Fits 1 G ι h w (lkL [(0, r)]) hc2 a w2 := ⟨G2, ι2, ⟨hr2, rfl, rfl, fun i => by
  cases i with
  | zero => exact hvr
  | succ i => exact .c _ _ (.u _)⟩, hx⟩
 obtain ⟨G3, ι3, st⟩ := Wk.cut_fits (m := h.length) (L' := [(0, r)]) (h' := hc2.take h.length) ⟨hc2.drop h.length, (List.take_append_drop _ _).symm⟩ (by omega) (by rw [hlt]; exact c2)
  (by rw [hlt]; exact ⟨⟨rfl, c1⟩, trivial⟩) (Nat.le_refl _) hfit
 have hv0 := st.rel.env 0
 exact ⟨v, r, G3, ι3, hc2.take h.length, he, ⟨hc2.drop h.length, by rw [List.take_append_drop]; exact hR, hlt⟩, st.rel.hr, hv0, st.ext⟩
theorem FnS.cut2 {P : Program} {f : Nat} {args : List AV} {h : Hp} {R : AV → Hp → Prop} (hf : FnS P f args h R) (hc : ∀ r h', R r h' → ∃ x y, r = .tup [x, y] ∧ refsA h.length x = true ∧ refsA h.length y = true ∧ refsH h.length (h'.take h.length) = true) :
  FnS P f args h fun r h1 => ∃ h2, R r (h1 ++ h2) ∧ h1.length = h.length := by
 refine ⟨fun G ι w vs hr hv => ?_⟩
 refine (hf.out G ι w vs hr hv).mono fun e w2 ⟨v, r, G2, ι2, hc2, he, hR, hr2, hvr, hx⟩ => ?_
 have hl2 : h.length ≤ hc2.length := by
  rcases Nat.lt_or_ge hc2.length h.length with hb | hb
  ·obtain ⟨k', h1, _⟩ := hx.keep hc2.length _ (List.getElem?_eq_getElem hb)
   have := get_lt h1; omega
  ·exact hb
 obtain ⟨x, y, rfl, c1, c2, c3⟩ := hc r hc2 hR
 have hlt : (hc2.take h.length).length = h.length := by rw [List.length_take]; omega
 cases hvr with
 | tup cs _ hn hcs =>
  have hn2 : cs.size = 2 := hn
  let a : Act := ⟨#[cs[0], cs[1]], []⟩
  have hfit : Fits 2 G ι h w (lkL [(0, x), (1, y)]) hc2 a w2 := ⟨G2, ι2, ⟨hr2, rfl, rfl, fun i => by
   match i with
   | 0 => exact hcs 0 _ _ (Array.getElem?_eq_getElem (by omega)) rfl
   | 1 => exact hcs 1 _ _ (Array.getElem?_eq_getElem (by omega)) rfl
   | i + 2 => exact .c _ _ (.u _)⟩, hx⟩
  obtain ⟨G3, ι3, st⟩ := Wk.cut_fits (m := h.length) (L' := [(0, x), (1, y)]) (h' := hc2.take h.length) ⟨hc2.drop h.length, (List.take_append_drop _ _).symm⟩ (by omega) (by rw [hlt]; exact c3)
   (by rw [hlt]; exact ⟨⟨rfl, c1⟩, ⟨rfl, c2⟩, trivial⟩) (Nat.le_refl _) hfit
  have hv0 := st.rel.env 0
  have hv1 := st.rel.env 1
  refine ⟨.tuple cs, _, G3, ι3, hc2.take h.length, he, ⟨hc2.drop h.length, by rw [List.take_append_drop]; exact hR, hlt⟩, st.rel.hr, .tup cs _ hn fun i v z hv hz => ?_, st.ext⟩
  match i, hz with
  | 0, hz => cases hz; rw [Array.getElem?_eq_getElem (by omega)] at hv; cases hv; exact hv0
  | 1, hz => cases hz; rw [Array.getElem?_eq_getElem (by omega)] at hv; cases hv; exact hv1
  | i + 2, hz => cases hz
theorem Kept.unrn {ι ι2 ιc : Io} {w w2 : World} {l : Nat} {k kc : Blk} {ρ : Nat → Nat} (hk : Kept ι ι2 w w2 l k (rnB ρ kc)) (hi : ιc[l]? = ι2[l]?) (hm : ∀ m v es, kc ≠ .mi m v es) : Kept ι ιc w w2 l k kc := by
 cases kc with
 | dead => cases k <;> trivial
 | am m' =>
  cases k with
  | am m => trivial
  | _ => simp [rnB, Kept] at hk
 | bx cs' =>
  cases k with
  | bx cs => exact ⟨by have := hk.1; rw [rnCs_len] at this; exact this, by rw [hi]; exact hk.2⟩
  | _ => simp [rnB, Kept] at hk
 | da r' v' sz' es' =>
  cases k with
  | da r v sz es =>
   rcases hk with hk | ⟨a1, a2, a3, a4, a5, a6⟩
   ·exact .inl hk
   ·exact .inr ⟨a1, a2, a3, a4, by rw [hi]; exact a5, a6⟩
  | _ => simp [rnB, Kept] at hk
 | mp v' es' =>
  cases k with
  | mp v es => exact ⟨by rw [hi]; exact hk.1, hk.2⟩
  | _ => simp [rnB, Kept] at hk
 | mi m v es => exact absurd rfl (hm m v es)
theorem FnS.gc {P : Program} {f : Nat} {args : List AV} {h : Hp} {R : AV → Hp → Prop} (hf : FnS P f args h R) (Q : AV → Hp → Prop)
    (hg : ∀ r h', R r h' → ∃ (σ : List Nat) (r' : AV) (hc : Hp), Q r' hc ∧ σ.length = hc.length ∧ σ.Nodup ∧ (∀ l ∈ σ, l < h'.length) ∧ (∀ (i : Nat) (k : Blk), hc[i]? = some k → h'[rho σ h'.length i]? = some (rnB (rho σ h'.length) k)) ∧
      r = rnA (rho σ h'.length) r' ∧ refsH hc.length hc = true ∧ refsA hc.length r' = true ∧ h.length ≤ hc.length ∧ (∀ i, i < h.length → rho σ h'.length i = i) ∧ ∀ k ∈ hc, ∀ m v es, k ≠ .mi m v es) : FnS P f args h Q := by
  refine ⟨fun G ι w vs hr hv => ?_⟩
  refine (hf.out G ι w vs hr hv).mono fun e w2 ⟨v, r, G2, ι2, h', he, hR, hr2, hvr, hx⟩ => ?_
  obtain ⟨σ, r', hc, hQ, hlen, hnd, hlt, hh, hrr, hcl, hca, hle, hid, hmi⟩ := hg r h' hR
  generalize hρ : rho σ h'.length = ρ at *
  have rold : ∀ i, i < σ.length → σ[i]? = some (ρ i) := fun i hi => by rw [← hρ]; exact rho_old σ _ i hi
  have rnew : ∀ i, σ.length ≤ i → ρ i = h'.length + (i - σ.length) := fun i hi => by rw [← hρ]; exact rho_new σ _ i hi
  have rmem : ∀ i, i < σ.length → ρ i ∈ σ := fun i hi => List.mem_of_getElem? (rold i hi)
  have rinj : ∀ i j, ρ i = ρ j → i = j := by
    intro i j e
    rcases Nat.lt_or_ge i σ.length with hi | hi <;> rcases Nat.lt_or_ge j σ.length with hj | hj
    · have h1 := rold i hi
      have h2 := rold j hj
      rw [e, ← h2] at h1
      exact (List.getElem?_inj hi hnd).1 h1
    · have := hlt _ (rmem i hi); have := rnew j hj; omega
    · have := hlt _ (rmem j hj); have := rnew i hi; omega
    · have := rnew i hi; have := rnew j hj; omega
  let ιc : Io := σ.map fun l => (ι2[l]?).getD (0, 0)
  have hιc : ∀ i, i < σ.length → ιc[i]? = ι2[ρ i]? := by
    intro i hi
    simp only [ιc, List.getElem?_map, rold i hi, Option.map_some]
    rw [List.getElem?_eq_getElem (by rw [hr2.len]; exact hlt _ (rmem i hi))]; rfl
  have am : Among ρ ιc hc ι2 h' := ⟨hh, fun i k hk => (hιc i (by rw [hlen]; exact get_lt hk)).symm⟩
  have hrc : HR G2 ιc hc w2 := HR.down am hr2 (by simp [ιc, hlen]) (fun i j _ _ e => rinj i j e) hcl
  have hvc : VR G2 w2 ιc hc v r' := VR.unrn am (hrr ▸ hvr) hca
  refine ⟨v, r', G2, ιc, hc, he, hQ, hrc, hvc, ?_⟩
  exact
    { size := hx.size
      quiet := hx.quiet
      frame := hx.frame
      gmono := hx.gmono
      gnew := hx.gnew
      onew := fun b ho => hx.onew b (owned_up am ho)
      keep := fun l k hk => by
        obtain ⟨k', h1, h2⟩ := hx.keep l k hk
        have hl := get_lt hk
        have hkc : hc[l]? = some (hc[l]'(by omega)) := List.getElem?_eq_getElem _
        have h3 := hh l _ hkc
        rw [hid l hl, h1] at h3
        cases h3
        exact ⟨_, hkc, h2.unrn (by rw [hιc l (by omega), hid l hl]) (hmi _ (List.getElem_mem _))⟩ }
end Go.Ab

/-
  Comparing paths, and their delays, as the program does it.
-/
namespace Go.Ab
open Go.Proofs
def cst (t : Top) (p : List Int) : Int := (p.map fun a => max 0 (costT t a)).sum
abbrev cmpH (t : Top) (b : Bool) : Hp := [.bx [.d (.bool b)], .bx [.d (iD t.nodes), .d (boolsD t.ov), .d (linksD t.links)]]
theorem costT_out {t : Top} {a : Int} (h : ¬ (validT t = true ∧ 0 ≤ a ∧ a < 2 * t.links.length)) : max 0 (costT t a) = 0 := by
 rw [costT, arcsT]
 by_cases hv : validT t = true
 ·rw [if_pos hv, if_neg (fun e => h ⟨hv, e⟩)]; rfl
 ·rw [if_neg hv, if_neg (by omega)]; rfl
set_option maxHeartbeats 1000000 in
theorem cmpc_ok (P : Program) (hP : P = Try.prog) (t : Top) (p : List Int) (hL : (t.links.length : Int) ≤ 256) (hp : p.length ≤ 1000) :
  FnS P n_kpaths_Compare_1 [intsA p, .c (.ptr 0 0 0 0), .c (.ptr 1 0 0 0)] (cmpH t (validT t)) fun r h' => r = iA (cst t p) ∧ h' = cmpH t (validT t) := by
 have harc := fun a => garc_ok P hP t a hL
 have hco := fun a hv h0 h1 => gcost_ok P hP t a hv h0 h1
 refine heap_start (hP ▸ mixed) (hP ▸ fn_kpaths_Compare_1) (hP ▸ c_kpaths_Compare_1) (Nat.le_of_ble_eq_true rfl) fun Λ Λo K hK => ?_
 clear hP
 have leaf : ∀ x, x = cst t p → K (iA x) (cmpH t (validT t)) := fun x e => hK _ _ ⟨by rw [e], rfl⟩
 clear hK
 have hout := fun a => @costT_out t a
 have hin : ∀ a : Int, validT t = true → 0 ≤ a → a < 2 * t.links.length → 1 ≤ costT t a ∧ costT t a ≤ 65535 := fun a h0 h1 h2 => cost_rg h0 h1 h2
 have hcs : cst t p = (p.map fun a => max 0 (costT t a)).sum := rfl
 rw [hcs] at leaf
 clear hcs
 simp only [topA, intsA, intsD, cmpH, boolsD, linksD] at *
 generalize t.ov.map encB = ovl at *
 generalize t.links.map encLk = lkl at *
 generalize t.nodes = nodes at *
 generalize t.links.length = nl at *
 generalize costT t = co at *
 cases hv : validT t
 all_goals
  rw [hv] at leaf
  simp only [hv] at hout hin hco
  clear hv
  generalize plh : List.map encI p = pl at *
  have pln : Λ pl = p.length := by rw [Λo, ← plh]; simp
  conv => cbv
  repeat' first | exact gu | exact trivial | refine And.intro ?_ ?_ | (intro hc; exact absurd hc (by decide)) | (intro hc; exfalso; omega) | (intro hc; (first | rw [wrap_small (by omega) (by omega)] at hc | rw [nI_eq] at hc | skip); try (conv => cbv))
  refine loop_up p.length (fun (s : Int × Int) => [(1, .c (.ptr 0 0 0 0)), (2, .c (.ptr 1 0 0 0)), (5, iA s.1), (8, .c (.d (.list false 1 pl))), (9, iA (Λ pl)), (10, iA s.2)])
   (fun _ => [.bx [.d (.bool _)], .bx [.d (iD nodes), .d (.list false 1 ovl), .d (.list false 7 lkl)]])
   (fun k s => s.2 = k ∧ k ≤ p.length ∧ s.1 = ((p.take k).map fun a => max 0 (co a)).sum ∧ 0 ≤ s.1 ∧ s.1 ≤ 65535 * k) (0, 0) (Wk.ca) ⟨rfl, by omega, by simp, by simp, by simp⟩ (fun k s h => h.2.1) ?_
  rintro k ⟨sm, i⟩ Q' ⟨hi, hk, hsm, hs0, hs1⟩ norm ex rt
  simp only at hi hsm hs0 hs1
  by_cases hlt : k < p.length
  ·obtain ⟨x, hx⟩ : ∃ x, p[k]? = some x := ⟨_, List.getElem?_eq_getElem hlt⟩
   have hxa := elt_at plh hi hx
   have hax := harc x
   have hox := hout x
   have hix := hin x
   have hcx := hco x
   have htk : ((p.take (k + 1)).map fun a => max 0 (co a)).sum = sm + max 0 (co x) := by rw [take_succ_get hx]; simp [hsm]
   by_cases hr : 0 ≤ x ∧ x < 2 * nl
   ·rw [decide_eq_true hr] at hax
    first
    |have hcx2 := hcx trivial hr.1 hr.2
     have hix2 := hix trivial hr.1 hr.2
     clear hcx hix hox
     generalize co x = cx at *
     conv => cbv
     repeat' first | (intro e he; cases Option.some.inj (he.symm.trans hxa); (conv => cbv)) | (refine call_r hax rfl rfl ?_; conv => cbv) | (refine call_r hcx2 rfl rfl ?_; conv => cbv) | exact gu | exact trivial | refine And.intro ?_ ?_ | (intro hc; exact absurd hc (by decide)) | (intro hc; exfalso; omega) | (intro hc; (first | rw [wrap_small (by omega) (by omega)] at hc | rw [nI_eq] at hc | skip); try (conv => cbv))
     rename_i sm2 hsm2 i2
     refine norm _ _ (sm2, i2) ⟨by simp only; omega, by omega, by simp only; rw [htk]; omega, by simp only; omega, by simp only; omega⟩ (Wk.ca)
    |have hox2 := hox (by simp)
     clear hcx hix hox
     conv => cbv
     repeat' first | (intro e he; cases Option.some.inj (he.symm.trans hxa); (conv => cbv)) | (refine call_r hax rfl rfl ?_; conv => cbv) | exact gu | exact trivial | refine And.intro ?_ ?_ | (intro hc; exact absurd hc (by decide)) | (intro hc; exfalso; omega) | (intro hc; (first | rw [wrap_small (by omega) (by omega)] at hc | rw [nI_eq] at hc | skip); try (conv => cbv))
     rename_i i2
     refine norm _ _ (sm, i2) ⟨by simp only; omega, by omega, by simp only; rw [htk, hox2]; omega, by simp only; omega, by simp only; omega⟩ (Wk.ca)
   ·rw [decide_eq_false hr] at hax
    have hox2 := hox (fun h => hr h.2)
    clear hcx hix hox
    conv => cbv
    repeat' first | (intro e he; cases Option.some.inj (he.symm.trans hxa); (conv => cbv)) | (refine call_r hax rfl rfl ?_; conv => cbv) | exact gu | exact trivial | refine And.intro ?_ ?_ | (intro hc; exact absurd hc (by decide)) | (intro hc; exfalso; omega) | (intro hc; (first | rw [wrap_small (by omega) (by omega)] at hc | rw [nI_eq] at hc | skip); try (conv => cbv))
    rename_i i2
    refine norm _ _ (sm, i2) ⟨by simp only; omega, by omega, by simp only; rw [htk, hox2]; omega, by simp only; omega, by simp only; omega⟩ (Wk.ca)
  ·rw [List.take_of_length_le (by omega)] at hsm
   conv => cbv
   repeat' first | exact gu | exact trivial | refine And.intro ?_ ?_ | (intro hc; exact absurd hc (by decide)) | (intro hc; exfalso; omega) | (intro hc; (first | rw [wrap_small (by omega) (by omega)] at hc | rw [nI_eq] at hc | skip); try (conv => cbv))
   refine ex _ _ _ ?_
   conv => cbv
   repeat' first | exact gu | exact trivial | refine And.intro ?_ ?_ | (intro hc; exact absurd hc (by decide)) | (intro hc; exfalso; omega) | (intro hc; (first | rw [wrap_small (by omega) (by omega)] at hc | rw [nI_eq] at hc | skip); try (conv => cbv))
   exact leaf _ hsm
theorem cst_bound {t : Top} {p : List Int} : 0 ≤ cst t p ∧ cst t p ≤ 65535 * p.length := by
 unfold cst
 induction p with
 | nil => simp
 | cons a r ih =>
  have h1 : max 0 (costT t a) ≤ 65535 := by
   by_cases h : validT t = true ∧ 0 ≤ a ∧ a < 2 * t.links.length
   ·have := cost_rg h.1 h.2.1 h.2.2; omega
   ·rw [costT_out h]; omega
  simp only [List.map_cons, List.sum_cons, List.length_cons]
  omega
theorem compare_ok (P : Program) (hP : P = Try.prog) (t : Top) (a b : List Int) (hL : (t.links.length : Int) ≤ 256) (ha : a.length ≤ 1000) (hb : b.length ≤ 1000) :
  Ret P n_kpaths_Compare [topA t, intsA a, intsA b] (iA (ordS (cst t a) (cst t b) a b)) := by
 have hfo : FnOk P n_kpaths_Compare_1 := hP ▸ ⟨_, fn_kpaths_Compare_1, rfl, by decide⟩
 have h1 := cmpc_ok P hP t a hL ha
 have h2 := cmpc_ok P hP t b hL hb
 have h3 := order_ok P hP (cst t a) (cst t b) a b
 have hv := tvalid_ok P hP t
 refine ret_start (hP ▸ mixed) (hP ▸ fn_kpaths_Compare) (hP ▸ c_kpaths_Compare) (Nat.le_of_ble_eq_true rfl) fun Λ Λo K hK => ?_
 clear hP
 generalize ordS (cst t a) (cst t b) a b = r at *
 simp only [topA, intsA, intsD, cmpH, boolsD, linksD] at *
 generalize t.ov.map encB = ovl at *
 generalize t.links.map encLk = lkl at *
 generalize cst t a = ca at *
 generalize cst t b = cb at *
 generalize t.nodes = nodes at *
 generalize validT t = vb at *
 generalize a.map encI = al at *
 generalize b.map encI = bl at *
 conv => cbv
 repeat' first | (refine call_r hv rfl rfl ?_; conv => cbv) | exact hfo | (refine callv_fr [1, 0] h1 rfl rfl (by decide) (by repeat' first | exact trivial | refine And.intro ?_ ?_ | rfl) rfl rfl ?_; rintro r hc' ⟨rfl, rfl⟩; (conv => cbv)) | (refine callv_fr [1, 0] h2 rfl rfl (by decide) (by repeat' first | exact trivial | refine And.intro ?_ ?_ | rfl) rfl rfl ?_; rintro r hc' ⟨rfl, rfl⟩; (conv => cbv)) | (refine call_r h3 rfl rfl ?_; conv => cbv) | exact gu | exact trivial | refine And.intro ?_ ?_ | (intro hc; exact absurd hc (by decide)) | (intro hc; exfalso; omega) | (intro hc; (first | rw [wrap_small (by omega) (by omega)] at hc | rw [nI_eq] at hc | skip); try (conv => cbv))
 exact hK
def delS (t : Top) (p : List Int) : Int × Int := if validT t = true then (if ∀ a ∈ p, 0 ≤ a ∧ a < 2 * t.links.length then ((p.map fun a => (lkAt t a).dl).sum, 0) else (0, 2)) else (0, 1)
theorem delay_ok (P : Program) (hP : P = Try.prog) (t : Top) (p : List Int) (hL : (t.links.length : Int) ≤ 256) (hp : p.length ≤ 1000) : Ret P n_kpaths_Delay [topA t, intsA p] (.tup [iA (delS t p).1, iA (delS t p).2]) := by
 have harc := fun a => garc_ok P hP t a hL
 have hv := tvalid_ok P hP t
 refine ret_start (hP ▸ mixed) (hP ▸ fn_kpaths_Delay) (hP ▸ c_kpaths_Delay) (Nat.le_of_ble_eq_true rfl) fun Λ Λo K hK => ?_
 clear hP
 have hdl : validT t = true → ∀ a : Int, 0 ≤ a → a < 2 * t.links.length → 1 ≤ (lkAt t a).dl ∧ (lkAt t a).dl ≤ 65536 := fun hv a h0 h1 => (okLk_spec.1 (lk_ok hv h0 h1)).2.2.2.2.2.2.1
 have hat : ∀ (a : Int) x, t.links[(a / 2).toNat]? = some x → lkAt t a = x := fun a x hx => by simp [lkAt, hx]
 have kv : validT t = true → (∀ a ∈ p, 0 ≤ a ∧ a < 2 * t.links.length) → K (.tup [iA ((p.map fun a => (lkAt t a).dl).sum), iA 0]) := fun h1 h2 => by rw [delS, if_pos h1, if_pos h2] at hK; exact hK
 have kr : validT t = true → ¬ (∀ a ∈ p, 0 ≤ a ∧ a < 2 * t.links.length) → K (.tup [iA 0, iA 2]) := fun h1 h2 => by rw [delS, if_pos h1, if_neg h2] at hK; exact hK
 have kn : validT t = false → K (.tup [iA 0, iA 1]) := fun h1 => by rw [delS, if_neg (by rw [h1]; decide)] at hK; exact hK
 clear hK
 generalize lkAt t = lk at *
 simp only [intsA, intsD] at *
 cases hvb : validT t
 ·rw [hvb] at hv
  have kn := kn hvb
  simp only [topA, boolsD, linksD] at *
  generalize t.ov.map encB = ovl at *
  generalize t.links.map encLk = lkl at *
  generalize p.map encI = pl at *
  conv => cbv
  repeat' first | (refine call_r hv rfl rfl ?_; conv => cbv) | exact gu | exact trivial | refine And.intro ?_ ?_ | (intro hc; exact absurd hc (by decide)) | (intro hc; exfalso; omega) | (intro hc; (first | rw [wrap_small (by omega) (by omega)] at hc | rw [nI_eq] at hc | skip); try (conv => cbv))
  exact kn
 ·rw [hvb] at hv
  have kr := kr hvb
  have kv := kv hvb
  have hdl := hdl hvb
  clear kn hvb
  obtain ⟨nodes, ov, links⟩ := t
  simp only [topA, boolsD, linksD] at *
  generalize hol : ov.map encB = ol at *
  generalize hll : links.map encLk = ll at *
  have hlo : Λ ol = ov.length := by rw [Λo, ← hol]; simp
  have hls : Λ ll = links.length := by rw [Λo, ← hll]; simp
  generalize plh : List.map encI p = pl at *
  have pln : Λ pl = p.length := by rw [Λo, ← plh]; simp
  conv => cbv
  repeat' first | (refine call_r hv rfl rfl ?_; conv => cbv) | exact gu | exact trivial | refine And.intro ?_ ?_ | (intro hc; exact absurd hc (by decide)) | (intro hc; exfalso; omega) | (intro hc; (first | rw [wrap_small (by omega) (by omega)] at hc | rw [nI_eq] at hc | skip); try (conv => cbv))
  refine loop_up p.length (fun (s : Int × Int) => [(2, .c (.ptr 0 0 0 0)), (4, iA 0), (5, iA 0), (6, iA s.1), (12, .c (.d (.list false 1 pl))), (13, iA (Λ pl)), (14, iA s.2)])
   (fun _ => [.bx [.d (.int .i64 nodes), .d (.list false 1 ol), .d (.list false 7 ll)]])
   (fun k s => s.2 = k ∧ k ≤ p.length ∧ s.1 = ((p.take k).map fun a => (lk a).dl).sum ∧ 0 ≤ s.1 ∧ s.1 ≤ 65536 * k ∧ ∀ a ∈ p.take k, 0 ≤ a ∧ a < 2 * links.length) (0, 0) (Wk.cw) ⟨rfl, by omega, by simp, by simp, by simp, by simp⟩ (fun k s h => h.2.1) ?_
  rintro k ⟨sm, i⟩ Q' ⟨hi, hk, hsm, hs0, hs1, hal⟩ norm ex rt
  simp only at hi hsm hs0 hs1 hal
  by_cases hlt : k < p.length
  ·obtain ⟨x, hx⟩ : ∃ x, p[k]? = some x := ⟨_, List.getElem?_eq_getElem hlt⟩
   have hxa := elt_at plh hi hx
   have hax := harc x
   have hdx := hdl x
   have hatx := hat x
   have htk : ((p.take (k + 1)).map fun a => (lk a).dl).sum = sm + (lk x).dl := by rw [take_succ_get hx]; simp [hsm]
   by_cases hr : 0 ≤ x ∧ x < 2 * links.length
   ·rw [decide_eq_true hr] at hax
    have hdx := hdx hr.1 hr.2
    conv => cbv
    repeat' first | (intro e he; cases Option.some.inj (he.symm.trans hxa); (conv => cbv)) | (refine call_r hax rfl rfl ?_; conv => cbv) | (intro hc; rw [tdiv2 (by omega) (by omega)] at hc; conv => cbv) | (intro (_ : Unit); decide) | (intro e he; obtain ⟨⟨xa, xb, xc, xd, xe, xf, xg⟩, hlx, rfl⟩ := map_get' hll he; have hlk := hatx _ (get_at hlx (by omega)); rw [hlk] at hdx htk; simp only at hdx htk; (conv => cbv)) | exact gu | exact trivial | refine And.intro ?_ ?_ | (intro hc; exact absurd hc (by decide)) | (intro hc; exfalso; omega) | (intro hc; (first | rw [wrap_small (by omega) (by omega)] at hc | rw [nI_eq] at hc | skip); try (conv => cbv))
    refine norm _ _ (_, _) ?_ (Wk.cw)
    refine ⟨by simp only; omega, by omega, by simp only; rw [htk]; omega, by simp only; omega, by simp only; omega, fun a ha => ?_⟩
    rw [take_succ_get hx] at ha
    rcases List.mem_append.1 ha with ha | ha
    ·exact hal a ha
    ·rw [List.mem_singleton.1 ha]; exact hr
   ·rw [decide_eq_false hr] at hax
    have kr := kr (fun h => hr (h x (List.mem_of_getElem? hx)))
    conv => cbv
    repeat' first | (intro e he; cases Option.some.inj (he.symm.trans hxa); (conv => cbv)) | (refine call_r hax rfl rfl ?_; conv => cbv) | exact gu | exact trivial | refine And.intro ?_ ?_ | (intro hc; exact absurd hc (by decide)) | (intro hc; exfalso; omega) | (intro hc; (first | rw [wrap_small (by omega) (by omega)] at hc | rw [nI_eq] at hc | skip); try (conv => cbv))
    refine rt _ _ ?_
    conv => cbv
    exact kr
  ·rw [List.take_of_length_le (by omega)] at hsm hal
   have kv := kv hal
   rw [← hsm] at kv
   conv => cbv
   repeat' first | exact gu | exact trivial | refine And.intro ?_ ?_ | (intro hc; exact absurd hc (by decide)) | (intro hc; exfalso; omega) | (intro hc; (first | rw [wrap_small (by omega) (by omega)] at hc | rw [nI_eq] at hc | skip); try (conv => cbv))
   refine ex _ _ _ ?_
   conv => cbv
   repeat' first | exact gu | exact trivial | refine And.intro ?_ ?_ | (intro hc; exact absurd hc (by decide)) | (intro hc; exfalso; omega) | (intro hc; (first | rw [wrap_small (by omega) (by omega)] at hc | rw [nI_eq] at hc | skip); try (conv => cbv))
   exact kv
theorem sortc_ok (P : Program) (hP : P = Try.prog) (t : Top) (a b : List Int) (hL : (t.links.length : Int) ≤ 256) (ha : a.length ≤ 1000) (hb : b.length ≤ 1000) :
  Ret P n_kpaths_Shortest_1 [intsA a, intsA b, .c (.rp [iD t.nodes, boolsD t.ov, linksD t.links])] (iA (ordS (cst t a) (cst t b) a b)) := by
 have h3 := compare_ok P hP t a b hL ha hb
 refine ret_start (hP ▸ mixed) (hP ▸ fn_kpaths_Shortest_1) (hP ▸ c_kpaths_Shortest_1) (Nat.le_of_ble_eq_true rfl) fun Λ Λo K hK => ?_
 clear hP
 generalize ordS (cst t a) (cst t b) a b = r at *
 simp only [topA, intsA, intsD, boolsD, linksD] at *
 generalize t.ov.map encB = ovl at *
 generalize t.links.map encLk = lkl at *
 generalize a.map encI = al at *
 generalize b.map encI = bl at *
 generalize t.nodes = nodes at *
 conv => cbv
 repeat' first | (refine call_r h3 rfl rfl ?_; conv => cbv) | exact gu | exact trivial | refine And.intro ?_ ?_ | (intro hc; exact absurd hc (by decide)) | (intro hc; exfalso; omega) | (intro hc; (first | rw [wrap_small (by omega) (by omega)] at hc | rw [nI_eq] at hc | skip); try (conv => cbv))
 exact hK
end Go.Ab

/-
  Putting lists of numbers together.
-/
namespace Go.Ab
open Go.Proofs
theorem call_inI {P : Program} {m : Nat} {L : Lv} {h : Hp} {f : Nat} {fn : Func} {af : AF} {xs : List X} {K : Lv → AV → Hp → Prop} (hm : P.follows .mixedOrders = true) (hf : P.funcs[f]? = some fn) (hc : compF P fn = some af) (hl : (evsN L xs).length ≤ af.nt)
  (hv : ∀ Λ : Len, (∀ l, Λ l = (l.length : Int)) → vcH P Λ af (evsN L xs) h (K L)) : CallS P m false L h f xs K := .fn (fn_heap hm hf hc hl hv)
def sumLenI (l : List (List Int)) : Nat := (l.map List.length).sum
theorem sumLenI_take {l : List (List Int)} {k : Nat} {x : List Int} (h : l[k]? = some x) : sumLenI (l.take (k + 1)) = sumLenI (l.take k) + x.length := by
 rw [take_succ_get h]; simp [sumLenI]
theorem sumLenI_le (l : List (List Int)) (k : Nat) : sumLenI (l.take k) ≤ sumLenI l := by
 have : sumLenI l = sumLenI (l.take k) + sumLenI (l.drop k) := by
  conv => lhs; rw [← List.take_append_drop k l]
  simp [sumLenI, -List.take_append_drop]
 omega
theorem flat_lenI (l : List (List Int)) : l.flatten.length = sumLenI l := by simp [sumLenI, List.length_flatten]
theorem concatInts_ok (P : Program) (hP : P = Try.prog) (l : List (List Int)) (hl : sumLenI l ≤ 1000000) : Ret P n_slices_Concat_int_int [.c (.d (.list false 1 (l.map encRow)))] (intsA l.flatten) := by
 refine ret_start (hP ▸ mixed) (hP ▸ fn_slices_Concat_int_int) (hP ▸ c_slices_Concat_int_int) (Nat.le_of_ble_eq_true rfl) fun Λ Λo K hK => ?_
 have gm : P.follows .mixedOrders = true := hP ▸ mixed
 have gf := hP ▸ fn_slices_Grow_int_int
 have gc := hP ▸ c_slices_Grow_int_int
 clear hP
 generalize llh : l.map encRow = ll at *
 have lln : Λ ll = l.length := by rw [Λo, ← llh]; simp
 conv => cbv
 repeat' first | exact gu | exact trivial | refine And.intro ?_ ?_ | (intro hc; exact absurd hc (by decide)) | (intro hc; exfalso; omega) | (intro hc; (first | rw [wrap_small (by omega) (by omega)] at hc | rw [nI_eq] at hc | skip); try (conv => cbv))
 refine loop_up l.length (fun (s : Int × Int) => [(0, .c (.d (.list false 1 ll))), (3, iA s.2), (9, .c (.d (.list false 1 ll))), (10, iA (Λ ll)), (11, iA s.1)]) (fun _ => []) (fun k s => s.1 = k ∧ k ≤ l.length ∧ s.2 = sumLenI (l.take k)) (0, 0) (Wk.cw) ⟨rfl, by omega, by simp [sumLenI]⟩ (fun k s h => h.2.1) ?_
 rintro k ⟨i, sz⟩ Q' ⟨hi, hk, hsz⟩ norm ex rt
 simp only at hi hsz
 have hle := sumLenI_le l k
 by_cases hlt : k < l.length
 ·obtain ⟨x, hx⟩ : ∃ x, l[k]? = some x := ⟨_, List.getElem?_eq_getElem hlt⟩
  have hxa := elt_at llh hi hx
  have hst := sumLenI_take hx
  have hle2 := sumLenI_le l (k + 1)
  simp only [encRow, intsD] at hxa
  generalize xlh : List.map encI x = xl at *
  have xln : Λ xl = x.length := by rw [Λo, ← xlh]; simp
  conv => cbv
  repeat' first | (refine ex _ _ _ ?_; (conv => cbv)) | (refine rt _ _ ?_; (conv => cbv)) | (intro e he; cases Option.some.inj (he.symm.trans hxa); (conv => cbv)) | exact gu | exact trivial | refine And.intro ?_ ?_ | (intro hc; exact absurd hc (by decide)) | (intro hc; exfalso; omega) | (intro hc; (first | rw [wrap_small (by omega) (by omega)] at hc | rw [nI_eq] at hc | skip); try (conv => cbv))
  refine norm _ _ (_, _) ?_ (Wk.cw)
  exact ⟨by simp only; omega, by omega, by simp only; omega⟩
 ·conv => cbv
  repeat' first | (refine ex _ _ _ ?_; (conv => cbv)) | (refine rt _ _ ?_; (conv => cbv)) | exact gu | exact trivial | refine And.intro ?_ ?_ | (intro hc; exact absurd hc (by decide)) | (intro hc; exfalso; omega) | (intro hc; (first | rw [wrap_small (by omega) (by omega)] at hc | rw [nI_eq] at hc | skip); try (conv => cbv))
  clear norm ex rt
  rw [List.take_of_length_le (by omega)] at hsz
  refine call_inI gm gf gc (Nat.le_of_ble_eq_true rfl) fun Λ' Λo' => ?_
  have hΛ0 : Λ' [] = 0 := by rw [Λo']; rfl
  conv => cbv
  repeat' first | exact gu | exact trivial | refine And.intro ?_ ?_ | (intro hc; exact absurd hc (by decide)) | (intro hc; exfalso; omega) | (intro hc; (first | rw [wrap_small (by omega) (by omega)] at hc | rw [nI_eq] at hc | skip); try (conv => cbv))
  all_goals (clear gm gf gc)
  all_goals first
   | refine loop_up l.length (fun (s : Int × Nat × Nat × Bool × List (List D)) => [(6, .c (.arr 0 s.2.1 0 s.2.2.1)), (25, .c (.d (.list false 1 ll))), (26, iA (Λ ll)), (27, iA s.1)]) (fun s => [.da s.2.2.2.1 s.2.1 1 s.2.2.2.2]) (fun k s => s.1 = k ∧ k ≤ l.length ∧ s.2.2.1 = sumLenI (l.take k) ∧ s.2.2.2.2.take s.2.2.1 = (l.take k).flatten.map encI) (0, 0, _, _, _) (Wk.cw) ⟨rfl, by omega, ?_, ?_⟩ (fun k s h => h.2.1) ?_
   | refine loop_up l.length (fun (s : Int × Nat × Nat × Bool × List (List D)) => [(6, .c (.arr 0 s.2.1 0 s.2.2.1)), (25, .c (.d (.list false 1 ll))), (26, iA (Λ ll)), (27, iA s.1)]) (fun s => [.da s.2.2.2.1 s.2.1 1 s.2.2.2.2]) (fun k s => s.1 = k ∧ k ≤ l.length ∧ s.2.2.1 = sumLenI (l.take k) ∧ s.2.2.2.2.take s.2.2.1 = (l.take k).flatten.map encI) (0, 0, 0, false, []) (.trans (.nilS 6 1 rfl) (Wk.cw)) ⟨rfl, by omega, rfl, rfl⟩ (fun k s h => h.2.1) ?_
  ·rename_i n0 hn0; rw [show n0 = 0 by omega]; rfl
  ·rename_i n0 hn0; rw [show n0 = 0 by omega]; rfl
  all_goals clear hle hlt hi hk
  all_goals rintro k ⟨i, v, n, r, es⟩ Q' ⟨hi, hk, hn, hes⟩ norm ex rt
  all_goals simp only at hi hes hn
  all_goals have hle := sumLenI_le l k
  all_goals by_cases hlt : k < l.length
  case pos | pos =>
   obtain ⟨x, hx⟩ : ∃ x, l[k]? = some x := ⟨_, List.getElem?_eq_getElem hlt⟩
   have hxa := elt_at llh hi hx
   have hst := sumLenI_take hx
   have hle2 := sumLenI_le l (k + 1)
   simp only [encRow, intsD] at hxa
   generalize xlh : List.map encI x = xl at *
   have xln : Λ xl = x.length := by rw [Λo, ← xlh]; simp
   have xll : xl.length = x.length := by rw [← xlh]; simp
   conv => cbv
   repeat' first | (refine ex _ _ _ ?_; (conv => cbv)) | (refine rt _ _ ?_; (conv => cbv)) | (intro e he; cases Option.some.inj (he.symm.trans hxa); (conv => cbv)) | (intro (_ : Unit); refine ⟨rfl, ?_⟩; rw [xll]; omega) | exact gu | exact trivial | refine And.intro ?_ ?_ | (intro hc; exact absurd hc (by decide)) | (intro hc; exfalso; omega) | (intro hc; (first | rw [wrap_small (by omega) (by omega)] at hc | rw [nI_eq] at hc | skip); try (conv => cbv))
   rename_i m r' es' hm hr he' _
   refine norm _ _ (_, _, _, _, _) ?_ (Wk.cw)
   refine ⟨by simp only; omega, by omega, by simp only; omega, ?_⟩
   simp only
   rw [hm, he', take_succ_get hx, List.drop_zero, xll, hes, ← xlh]
   have : n = (List.map encI (List.take k l).flatten).length := by rw [List.length_map, flat_lenI]; exact hn
   rw [List.take_of_length_le (by simp only [List.length_append, List.length_map] at this ⊢; omega)]
   simp
  all_goals
   conv => cbv
   repeat' first | (refine ex _ _ _ ?_; (conv => cbv)) | (refine rt _ _ ?_; (conv => cbv)) | exact gu | exact trivial | refine And.intro ?_ ?_ | (intro hc; exact absurd hc (by decide)) | (intro hc; exfalso; omega) | (intro hc; (first | rw [wrap_small (by omega) (by omega)] at hc | rw [nI_eq] at hc | skip); try (conv => cbv))
   rename_i ls
   have : ls = l.flatten.map encI := by rw [hc, List.drop_zero, hes, List.take_of_length_le (by omega)]
   subst this
   exact hK
theorem cloneI_any (P : Program) (hP : P = Try.prog) (ll : List (List D)) (hl : ll.length ≤ 1000000) : FnS P n_slices_Clone_int_int [.c (.d (.list false 1 ll))] [] fun r h' => (ll = [] ∧ r = .c (.d (.list true 1 [])) ∧ h' = []) ∨ ∃ rr n, n = ll.length ∧ r = .c (.arr 0 1 0 n) ∧ h' = [.da rr 1 1 ll] := by
 refine fn_heap (hP ▸ mixed) (hP ▸ fn_slices_Clone_int_int) (hP ▸ c_slices_Clone_int_int) (Nat.le_of_ble_eq_true rfl) fun Λ Λo => ?_
 clear hP
 generalize hK : (fun (r : AV) (h' : Hp) => (ll = [] ∧ r = .c (.d (.list true 1 [])) ∧ h' = []) ∨ ∃ rr n, n = ll.length ∧ r = .c (.arr 0 1 0 n) ∧ h' = [.da rr 1 1 ll]) = K
 have k1 : ∀ n rl es, es = ll → n = ll.length → K (.c (.arr 0 1 0 n)) [Blk.da rl 1 1 es] := by
  intro n rl es h1 h2; rw [← hK]; subst h1; exact .inr ⟨_, n, h2, rfl, rfl⟩
 have k0 : ll = [] → K (.c (.d (.list true 1 []))) [] := fun h => by rw [← hK]; exact .inl ⟨h, rfl, rfl⟩
 clear hK
 have lln := Λo ll
 conv => cbv
 repeat' first | exact gu | exact trivial | refine And.intro ?_ ?_ | (intro hc; exact absurd hc (by decide)) | (intro hc; exfalso; omega) | (intro hc; (first | rw [wrap_small (by omega) (by omega)] at hc | rw [nI_eq] at hc | skip); try (conv => cbv))
 ·refine k1 _ _ _ ?_ ?_
  ·rw [hc]; simp
  ·rename_i h1 _; rw [h1]; simp
 ·exact k0 (by assumption)
end Go.Ab

/-
  The reference's small functions on paths.
-/
namespace Go.Ab
open Go.Proofs
def dnB (down : List Bool) (a : Int) : Bool := decide (0 ≤ a ∧ a < down.length) && down.getD a.toNat false
theorem dnB_up {down : List Bool} {a : Int} (h0 : 0 ≤ a) (h1 : down.length = 0 ∨ a < down.length) : dnB down a = !upB down a := by
 unfold dnB upB
 rcases h1 with h1 | h1
 ·have : ¬ (a < (down.length : Int)) := by omega
  rw [decide_eq_false (fun h => this h.2), decide_eq_true h1]; rfl
 ·rw [decide_eq_true ⟨h0, h1⟩, decide_eq_false (by omega)]; simp
theorem rdown_ok (P : Program) (hP : P = Try.prog) (down : List Bool) (a : Int) : Ret P n_ref14_Down [boolsA down, iA a] (bA (dnB down a)) := by
 refine ret_start (hP ▸ mixed) (hP ▸ fn_ref14_Down) (hP ▸ c_ref14_Down) (Nat.le_of_ble_eq_true rfl) fun Λ Λo K hK => ?_
 clear hP
 have key : ∀ (b : Bool), 0 ≤ a → a < down.length → down[a.toNat]? = some b → K (bA b) := fun b h0 h1 h2 => by
  rw [dnB, decide_eq_true ⟨h0, h1⟩, List.getD_eq_getElem?_getD, h2] at hK; exact hK
 have no : ¬ (0 ≤ a ∧ a < down.length) → K (bA false) := fun h => by rw [dnB, decide_eq_false h] at hK; exact hK
 clear hK
 simp only [boolsA, boolsD] at *
 generalize hdl : down.map encB = dl at *
 have hln : Λ dl = down.length := by rw [Λo, ← hdl]; simp
 conv => cbv
 repeat' first | (intro e he; obtain ⟨b, hb, rfl⟩ := map_get' hdl he; (conv => cbv)) | exact gu | exact trivial | refine And.intro ?_ ?_ | (intro hc; exact absurd hc (by decide)) | (intro hc; exfalso; omega) | (intro hc; (first | rw [wrap_small (by omega) (by omega)] at hc | rw [nI_eq] at hc | skip); try (conv => cbv))
 all_goals first
  | exact no (by omega)
  | exact key _ (by omega) (by omega) hb
theorem mask_ok (P : Program) (hP : P = Try.prog) (t : Top) (down : List Bool) : Ret P n_ref14_Mask [topA t, boolsA down] (bA (decide (down.length = 0 ∨ (down.length : Int) = arcsT t))) := by
 have ha := arcs_ok P hP t
 refine ret_start (hP ▸ mixed) (hP ▸ fn_ref14_Mask) (hP ▸ c_ref14_Mask) (Nat.le_of_ble_eq_true rfl) fun Λ Λo K hK => ?_
 clear hP
 have yes := yes_of hK
 have no := no_of hK
 clear hK
 have har := arcsT_le t
 simp only [topA, boolsA, boolsD, linksD] at *
 generalize t.ov.map encB = ovl at *
 generalize t.links.map encLk = lkl at *
 generalize hdl : down.map encB = dl at *
 generalize t.nodes = nodes at *
 have hln : Λ dl = down.length := by rw [Λo, ← hdl]; simp
 generalize arcsT t = ar at *
 conv => cbv
 repeat' first | (refine call_r ha rfl rfl ?_; conv => cbv) | exact gu | exact trivial | refine And.intro ?_ ?_ | (intro hc; exact absurd hc (by decide)) | (intro hc; exfalso; omega) | (intro hc; (first | rw [wrap_small (by omega) (by omega)] at hc | rw [nI_eq] at hc | skip); try (conv => cbv))
 all_goals first
  | exact yes (by omega)
  | exact no (by omega)
theorem rcost_ok (P : Program) (hP : P = Try.prog) (t : Top) (p : List Int) (hp : p.length ≤ 1000) : Ret P n_ref14_cost [topA t, intsA p] (iA (cst t p)) := by
 have hc := fun a => cost_ok P hP t a
 refine ret_start (hP ▸ mixed) (hP ▸ fn_ref14_cost) (hP ▸ c_ref14_cost) (Nat.le_of_ble_eq_true rfl) fun Λ Λo K hK => ?_
 clear hP
 have hb : ∀ a : Int, -1 ≤ costT t a ∧ costT t a ≤ 65535 := fun a => by
  by_cases h : validT t = true ∧ 0 ≤ a ∧ a < 2 * t.links.length
  ·have := cost_rg h.1 h.2.1 h.2.2; omega
  ·rw [costT, arcsT]
   by_cases hv : validT t = true
   ·rw [if_pos hv, if_neg (fun e => h ⟨hv, e⟩)]; omega
   ·rw [if_neg hv, if_neg (by omega)]; omega
 have hcs : cst t p = (p.map fun a => max 0 (costT t a)).sum := rfl
 rw [hcs] at hK
 clear hcs
 simp only [topA, intsA, intsD, boolsD, linksD] at *
 generalize t.ov.map encB = ovl at *
 generalize t.links.map encLk = lkl at *
 generalize t.nodes = nodes at *
 generalize costT t = co at *
 generalize plh : List.map encI p = pl at *
 have pln : Λ pl = p.length := by rw [Λo, ← plh]; simp
 conv => cbv
 repeat' first | exact gu | exact trivial | refine And.intro ?_ ?_ | (intro hc; exact absurd hc (by decide)) | (intro hc; exfalso; omega) | (intro hc; (first | rw [wrap_small (by omega) (by omega)] at hc | rw [nI_eq] at hc | skip); try (conv => cbv))
 refine loop_up p.length (fun (s : Int × Int) => [(1, .c (.d (.list false 1 pl))), (2, .c (.ptr 0 0 0 0)), (5, iA s.1), (6, iA s.2)])
  (fun _ => [.bx [.d (iD nodes), .d (.list false 1 ovl), .d (.list false 7 lkl)]])
  (fun k s => s.2 = k ∧ k ≤ p.length ∧ s.1 = ((p.take k).map fun a => max 0 (co a)).sum ∧ 0 ≤ s.1 ∧ s.1 ≤ 65535 * k) (0, 0) (Wk.cw) ⟨rfl, by omega, by simp, by simp, by simp⟩ (fun k s h => h.2.1) ?_
 rintro k ⟨sm, i⟩ Q' ⟨hi, hk, hsm, hs0, hs1⟩ norm ex rt
 simp only at hi hsm hs0 hs1
 by_cases hlt : k < p.length
 ·obtain ⟨x, hx⟩ : ∃ x, p[k]? = some x := ⟨_, List.getElem?_eq_getElem hlt⟩
  have hxa := elt_at plh hi hx
  have hcx := hc x
  have hbx := hb x
  have htk : ((p.take (k + 1)).map fun a => max 0 (co a)).sum = sm + max 0 (co x) := by rw [take_succ_get hx]; simp [hsm]
  generalize co x = cx at *
  obtain ⟨mx, hmx⟩ : ∃ m, m = max 0 cx := ⟨_, rfl⟩
  rw [← hmx] at htk
  conv => cbv
  repeat' first | (intro e he; cases Option.some.inj (he.symm.trans hxa); (conv => cbv)) | (refine call_r hcx rfl rfl ?_; conv => cbv) | exact gu | exact trivial | refine And.intro ?_ ?_ | (intro hc; exact absurd hc (by decide)) | (intro hc; exfalso; omega) | (intro hc; (first | rw [wrap_small (by omega) (by omega)] at hc | rw [nI_eq] at hc | skip); try (conv => cbv))
  refine norm _ _ (_, _) ?_ (Wk.cw)
  exact ⟨by simp only; omega, by omega, by simp only; rw [htk]; omega, by simp only; omega, by simp only; omega⟩
 ·rw [List.take_of_length_le (by omega)] at hsm
  rw [← hsm] at hK
  conv => cbv
  repeat' first | exact gu | exact trivial | refine And.intro ?_ ?_ | (intro hc; exact absurd hc (by decide)) | (intro hc; exfalso; omega) | (intro hc; (first | rw [wrap_small (by omega) (by omega)] at hc | rw [nI_eq] at hc | skip); try (conv => cbv))
  refine ex _ _ _ ?_
  conv => cbv
  repeat' first | exact gu | exact trivial | refine And.intro ?_ ?_ | (intro hc; exact absurd hc (by decide)) | (intro hc; exfalso; omega) | (intro hc; (first | rw [wrap_small (by omega) (by omega)] at hc | rw [nI_eq] at hc | skip); try (conv => cbv))
  exact hK
theorem sign_ok (P : Program) (hP : P = Try.prog) (n : Int) : Ret P n_ref14_sign [iA n] (iA (cmI n 0)) := by
 refine ret_start (hP ▸ mixed) (hP ▸ fn_ref14_sign) (hP ▸ c_ref14_sign) (Nat.le_of_ble_eq_true rfl) fun Λ Λo K hK => ?_
 clear hP
 have k1 : n < 0 → K (iA (-1)) := fun h => by rw [cmI, if_pos h] at hK; exact hK
 have k2 : 0 < n → K (iA 1) := fun h => by rw [cmI, if_neg (by omega), if_pos h] at hK; exact hK
 have k3 : n = 0 → K (iA 0) := fun h => by rw [cmI, if_neg (by omega), if_neg (by omega)] at hK; exact hK
 clear hK
 conv => cbv
 repeat' first | exact gu | exact trivial | refine And.intro ?_ ?_ | (intro hc; exact absurd hc (by decide)) | (intro hc; exfalso; omega) | (intro hc; (first | rw [wrap_small (by omega) (by omega)] at hc | rw [nI_eq] at hc | skip); try (conv => cbv))
 all_goals first
  | exact k1 (by omega)
  | exact k2 (by omega)
  | exact k3 (by omega)
theorem rsame_ok (P : Program) (hP : P = Try.prog) (a b : List (List Int)) (ha : a.length ≤ 1000000) (hb : b.length ≤ 1000000) : Ret P n_ref14_Same [.c (.d (.list false 1 (a.map encRow))), .c (.d (.list false 1 (b.map encRow)))] (bA (decide (a = b))) := by
 have hs := fun x y => sameInts_ok P hP x y
 refine ret_start (hP ▸ mixed) (hP ▸ fn_ref14_Same) (hP ▸ c_ref14_Same) (Nat.le_of_ble_eq_true rfl) fun Λ Λo K hK => ?_
 clear hP
 have yes := yes_of hK
 have no := no_of hK
 clear hK
 have hxa' : ∀ (k : Nat) (x : List Int), a[k]? = some x → (a.map encRow)[k]? = some [.list false 1 (x.map encI)] := fun k x hx => by rw [List.getElem?_map, hx]; rfl
 have hxb' : ∀ (k : Nat) (x : List Int), b[k]? = some x → (b.map encRow)[k]? = some [.list false 1 (x.map encI)] := fun k x hx => by rw [List.getElem?_map, hx]; rfl
 simp only [intsA, intsD] at *
 generalize hal : a.map encRow = al at *
 generalize hbl : b.map encRow = bl at *
 have aln : Λ al = a.length := by rw [Λo, ← hal]; simp
 have bln : Λ bl = b.length := by rw [Λo, ← hbl]; simp
 conv => cbv
 repeat' first | exact gu | exact trivial | refine And.intro ?_ ?_ | (intro hc; exact absurd hc (by decide)) | (intro hc; exfalso; omega) | (intro hc; (first | rw [wrap_small (by omega) (by omega)] at hc | rw [nI_eq] at hc | skip); try (conv => cbv))
 ·exact no fun h => by subst h; omega
 refine loop_up a.length (fun i : Int => [(0, .c (.d (.list false 1 al))), (1, .c (.d (.list false 1 bl))), (5, iA i)]) (fun _ => []) (fun k i => i = k ∧ k ≤ a.length ∧ a.take k = b.take k) 0 (Wk.cw) ⟨rfl, by omega, by simp⟩ (fun k s h => h.2.1) ?_
 rintro k i Q' ⟨hi, hk, hno⟩ norm ex rt
 by_cases hlt : k < a.length
 ·obtain ⟨x, hx⟩ : ∃ x, a[k]? = some x := ⟨_, List.getElem?_eq_getElem hlt⟩
  obtain ⟨y, hy⟩ : ∃ y, b[k]? = some y := ⟨_, List.getElem?_eq_getElem (by omega)⟩
  have hxa := hxa' k x hx
  have hya := hxb' k y hy
  have hsx := hs x y
  have e1 : i.toNat = k := by omega
  rw [← e1] at hxa hya
  by_cases hxy : x = y
  ·rw [decide_eq_true hxy] at hsx
   generalize x.map encI = xl at *
   generalize y.map encI = yl at *
   conv => cbv
   repeat' first | (intro e he; cases Option.some.inj (he.symm.trans hxa); (conv => cbv)) | (intro e he; cases Option.some.inj (he.symm.trans hya); (conv => cbv)) | (refine call_r hsx rfl rfl ?_; conv => cbv) | exact gu | exact trivial | refine And.intro ?_ ?_ | (intro hc; exact absurd hc (by decide)) | (intro hc; exfalso; omega) | (intro hc; (first | rw [wrap_small (by omega) (by omega)] at hc | rw [nI_eq] at hc | skip); try (conv => cbv))
   refine norm _ _ _ ?_ (Wk.cw)
   exact ⟨by omega, by omega, by rw [take_succ_get hx, take_succ_get hy, hno, hxy]⟩
  ·rw [decide_eq_false hxy] at hsx
   generalize x.map encI = xl at *
   generalize y.map encI = yl at *
   conv => cbv
   repeat' first | (intro e he; cases Option.some.inj (he.symm.trans hxa); (conv => cbv)) | (intro e he; cases Option.some.inj (he.symm.trans hya); (conv => cbv)) | (refine call_r hsx rfl rfl ?_; conv => cbv) | exact gu | exact trivial | refine And.intro ?_ ?_ | (intro hc; exact absurd hc (by decide)) | (intro hc; exfalso; omega) | (intro hc; (first | rw [wrap_small (by omega) (by omega)] at hc | rw [nI_eq] at hc | skip); try (conv => cbv))
   refine rt _ _ ?_
   conv => cbv
   refine no fun h => ?_
   subst h; rw [hx] at hy; cases hy; exact hxy rfl
 ·conv => cbv
  repeat' first | exact gu | exact trivial | refine And.intro ?_ ?_ | (intro hc; exact absurd hc (by decide)) | (intro hc; exfalso; omega) | (intro hc; (first | rw [wrap_small (by omega) (by omega)] at hc | rw [nI_eq] at hc | skip); try (conv => cbv))
  refine ex _ _ _ ?_
  conv => cbv
  repeat' first | exact gu | exact trivial | refine And.intro ?_ ?_ | (intro hc; exact absurd hc (by decide)) | (intro hc; exfalso; omega) | (intro hc; (first | rw [wrap_small (by omega) (by omega)] at hc | rw [nI_eq] at hc | skip); try (conv => cbv))
  exact yes (by rw [List.take_of_length_le (by omega), List.take_of_length_le (by omega)] at hno; exact hno)
theorem rcmp_ok (P : Program) (hP : P = Try.prog) (t : Top) (a b : List Int) (ha : a.length ≤ 1000) (hb : b.length ≤ 1000) :
  Ret P n_ref14_Compare [topA t, intsA a, intsA b] (iA (ordS (cst t a) (cst t b) a b)) := by
 have h1 := rcost_ok P hP t a ha
 have h2 := rcost_ok P hP t b hb
 have h3 := fun n => sign_ok P hP n
 have c1 := cst_bound (t := t) (p := a)
 have c2 := cst_bound (t := t) (p := b)
 refine ret_start (hP ▸ mixed) (hP ▸ fn_ref14_Compare) (hP ▸ c_ref14_Compare) (Nat.le_of_ble_eq_true rfl) fun Λ Λo K hK => ?_
 clear hP
 generalize cst t a = ca at *
 generalize cst t b = cb at *
 have k1 : ca ≠ cb → K (iA (cmI (ca - cb) 0)) := fun h => by
  rw [ordS, if_neg (fun e => h (cmI_z.1 e))] at hK
  rw [show cmI (ca - cb) 0 = cmI ca cb by unfold cmI; split <;> split <;> (try split) <;> (try split) <;> omega]; exact hK
 have k2 : ca = cb → a.length ≠ b.length → K (iA (cmI ((a.length : Int) - b.length) 0)) := fun h0 h => by
  rw [ordS, if_pos (cmI_z.2 h0), if_neg (fun e => h (by have := cmI_z.1 e; omega))] at hK
  rw [show cmI ((a.length : Int) - b.length) 0 = cmI a.length b.length by unfold cmI; split <;> split <;> (try split) <;> (try split) <;> omega]; exact hK
 have k3 : ca = cb → a.length = b.length → K (iA (lexC a b)) := fun h0 h => by
  rw [ordS, if_pos (cmI_z.2 h0), if_pos (cmI_z.2 (by omega))] at hK; exact hK
 clear hK
 have lz := @lexC_drop a b
 have l0 : lexC (a.drop 0) (b.drop 0) = lexC a b := by simp
 simp only [topA, intsA, intsD, boolsD, linksD] at *
 generalize t.ov.map encB = ovl at *
 generalize t.links.map encLk = lkl at *
 generalize t.nodes = nodes at *
 by_cases hca : ca = cb
 rotate_left
 ·have h3 := h3 (ca - cb)
  have k1 := k1 hca
  generalize cmI (ca - cb) 0 = r at *
  generalize a.map encI = al at *
  generalize b.map encI = bl at *
  obtain ⟨df, hdf⟩ : ∃ x, x = ca - cb := ⟨_, rfl⟩
  rw [← hdf] at h3
  conv => cbv
  repeat' first | (refine call_r h1 rfl rfl ?_; conv => cbv) | (refine call_r h2 rfl rfl ?_; conv => cbv) | (intro (k : Int) hk; rw [wrap_small (by omega) (by omega)] at hk; refine (fun (hz : df = k) => ?_) ?_; rotate_left; omega; subst hz; (conv => cbv)) | (refine call_r h3 rfl rfl ?_; conv => cbv) | exact gu | exact trivial | refine And.intro ?_ ?_ | (intro hc; exact absurd hc (by decide)) | (intro hc; exfalso; omega) | (intro hc; (first | rw [wrap_small (by omega) (by omega)] at hc | rw [nI_eq] at hc | skip); try (conv => cbv))
  exact k1
 subst hca
 generalize alh : List.map encI a = al at *
 have aln : Λ al = a.length := by rw [Λo, ← alh]; simp
 generalize blh : List.map encI b = bl at *
 have bln : Λ bl = b.length := by rw [Λo, ← blh]; simp
 by_cases hlen : a.length = b.length
 rotate_left
 ·have h3 := h3 ((a.length : Int) - b.length)
  have k2 := k2 rfl hlen
  generalize cmI ((a.length : Int) - b.length) 0 = r at *
  obtain ⟨df, hdf⟩ : ∃ x, x = (a.length : Int) - b.length := ⟨_, rfl⟩
  rw [← hdf] at h3
  conv => cbv
  repeat' first | (refine call_r h1 rfl rfl ?_; conv => cbv) | (refine call_r h2 rfl rfl ?_; conv => cbv) | (intro (k : Int) hk; rw [wrap_small (by omega) (by omega)] at hk; refine (fun (hz : df = k) => ?_) ?_; rotate_left; omega; subst hz; (conv => cbv)) | (refine call_r h3 rfl rfl ?_; conv => cbv) | exact gu | exact trivial | refine And.intro ?_ ?_ | (intro hc; exact absurd hc (by decide)) | (intro hc; exfalso; omega) | (intro hc; (first | rw [wrap_small (by omega) (by omega)] at hc | rw [nI_eq] at hc | skip); try (conv => cbv))
  exact k2
 have k3 := k3 rfl hlen
 clear k1 k2 h3
 rw [← l0] at k3
 conv => cbv
 repeat' first | (refine call_r h1 rfl rfl ?_; conv => cbv) | (refine call_r h2 rfl rfl ?_; conv => cbv) | exact gu | exact trivial | refine And.intro ?_ ?_ | (intro hc; exact absurd hc (by decide)) | (intro hc; exfalso; omega) | (intro hc; (first | rw [wrap_small (by omega) (by omega)] at hc | rw [nI_eq] at hc | skip); try (conv => cbv))
 refine loop_up a.length (fun i : Int => [(1, .c (.d (.list false 1 al))), (2, .c (.d (.list false 1 bl))), (9, iA i)]) (fun _ => []) (fun k i => i = k ∧ k ≤ a.length ∧ lexC (a.drop k) (b.drop k) = lexC (a.drop 0) (b.drop 0)) 0 (Wk.cw) ⟨rfl, by omega, rfl⟩ (fun k s h => h.2.1) ?_
 rintro k i Q' ⟨hi, hk, hno⟩ norm ex rt
 rw [← hno] at k3
 by_cases hlt : k < a.length
 ·obtain ⟨x, hx⟩ : ∃ x, a[k]? = some x := ⟨_, List.getElem?_eq_getElem hlt⟩
  obtain ⟨y, hy⟩ : ∃ y, b[k]? = some y := ⟨_, List.getElem?_eq_getElem (by omega)⟩
  have hxa := elt_at alh hi hx
  have hya := elt_at blh hi hy
  have hl := lz hx hy
  rw [hl] at k3
  by_cases h1 : x < y
  ·rw [if_pos h1] at k3
   conv => cbv
   repeat' first | (intro e he; cases Option.some.inj (he.symm.trans hxa); (conv => cbv)) | (intro e he; cases Option.some.inj (he.symm.trans hya); (conv => cbv)) | (intro (e : List D) he; cases Option.some.inj (he.symm.trans hxa); (conv => cbv)) | (intro (e : List D) he; cases Option.some.inj (he.symm.trans hya); (conv => cbv)) | exact gu | exact trivial | refine And.intro ?_ ?_ | (intro hc; exact absurd hc (by decide)) | (intro hc; exfalso; omega) | (intro hc; (first | rw [wrap_small (by omega) (by omega)] at hc | rw [nI_eq] at hc | skip); try (conv => cbv))
   refine rt _ _ ?_
   conv => cbv
   exact k3
  ·rw [if_neg h1] at k3 hl
   by_cases h2 : y < x
   ·rw [if_pos h2] at k3
    conv => cbv
    repeat' first | (intro e he; cases Option.some.inj (he.symm.trans hxa); (conv => cbv)) | (intro e he; cases Option.some.inj (he.symm.trans hya); (conv => cbv)) | (intro (e : List D) he; cases Option.some.inj (he.symm.trans hxa); (conv => cbv)) | (intro (e : List D) he; cases Option.some.inj (he.symm.trans hya); (conv => cbv)) | exact gu | exact trivial | refine And.intro ?_ ?_ | (intro hc; exact absurd hc (by decide)) | (intro hc; exfalso; omega) | (intro hc; (first | rw [wrap_small (by omega) (by omega)] at hc | rw [nI_eq] at hc | skip); try (conv => cbv))
    refine rt _ _ ?_
    conv => cbv
    exact k3
   ·rw [if_neg h2] at hl
    conv => cbv
    repeat' first | (intro e he; cases Option.some.inj (he.symm.trans hxa); (conv => cbv)) | (intro e he; cases Option.some.inj (he.symm.trans hya); (conv => cbv)) | (intro (e : List D) he; cases Option.some.inj (he.symm.trans hxa); (conv => cbv)) | (intro (e : List D) he; cases Option.some.inj (he.symm.trans hya); (conv => cbv)) | exact gu | exact trivial | refine And.intro ?_ ?_ | (intro hc; exact absurd hc (by decide)) | (intro hc; exfalso; omega) | (intro hc; (first | rw [wrap_small (by omega) (by omega)] at hc | rw [nI_eq] at hc | skip); try (conv => cbv))
    refine norm _ _ _ ?_ (Wk.cw)
    exact ⟨by omega, by omega, by rw [← hl, hno]⟩
 ·rw [List.drop_of_length_le (by omega), List.drop_of_length_le (by omega)] at k3
  conv => cbv
  repeat' first | exact gu | exact trivial | refine And.intro ?_ ?_ | (intro hc; exact absurd hc (by decide)) | (intro hc; exfalso; omega) | (intro hc; (first | rw [wrap_small (by omega) (by omega)] at hc | rw [nI_eq] at hc | skip); try (conv => cbv))
  refine ex _ _ _ ?_
  conv => cbv
  repeat' first | exact gu | exact trivial | refine And.intro ?_ ?_ | (intro hc; exact absurd hc (by decide)) | (intro hc; exfalso; omega) | (intro hc; (first | rw [wrap_small (by omega) (by omega)] at hc | rw [nI_eq] at hc | skip); try (conv => cbv))
  exact k3
theorem rdelay_ok (P : Program) (hP : P = Try.prog) (t : Top) (p : List Int) (hp : p.length ≤ 1000) : Ret P n_ref14_Delay [topA t, intsA p] (.tup [iA (delS t p).1, iA (delS t p).2]) := by
 have harc := arcs_ok P hP t
 have hv := valid_ok P hP t
 refine ret_start (hP ▸ mixed) (hP ▸ fn_ref14_Delay) (hP ▸ c_ref14_Delay) (Nat.le_of_ble_eq_true rfl) fun Λ Λo K hK => ?_
 clear hP
 have hdl : validT t = true → ∀ a : Int, 0 ≤ a → a < 2 * t.links.length → 1 ≤ (lkAt t a).dl ∧ (lkAt t a).dl ≤ 65536 := fun hv a h0 h1 => (okLk_spec.1 (lk_ok hv h0 h1)).2.2.2.2.2.2.1
 have hat : ∀ (a : Int) x, t.links[(a / 2).toNat]? = some x → lkAt t a = x := fun a x hx => by simp [lkAt, hx]
 have kv : validT t = true → (∀ a ∈ p, 0 ≤ a ∧ a < 2 * t.links.length) → K (.tup [iA ((p.map fun a => (lkAt t a).dl).sum), iA 0]) := fun h1 h2 => by rw [delS, if_pos h1, if_pos h2] at hK; exact hK
 have kr : validT t = true → ¬ (∀ a ∈ p, 0 ≤ a ∧ a < 2 * t.links.length) → K (.tup [iA 0, iA 2]) := fun h1 h2 => by rw [delS, if_pos h1, if_neg h2] at hK; exact hK
 have kn : validT t = false → K (.tup [iA 0, iA 1]) := fun h1 => by rw [delS, if_neg (by rw [h1]; decide)] at hK; exact hK
 clear hK
 generalize lkAt t = lk at *
 simp only [intsA, intsD] at *
 cases hvb : validT t
 ·rw [hvb] at hv
  have kn := kn hvb
  simp only [topA, boolsD, linksD] at *
  generalize t.ov.map encB = ovl at *
  generalize t.links.map encLk = lkl at *
  generalize p.map encI = pl at *
  conv => cbv
  repeat' first | (refine call_r hv rfl rfl ?_; conv => cbv) | exact gu | exact trivial | refine And.intro ?_ ?_ | (intro hc; exact absurd hc (by decide)) | (intro hc; exfalso; omega) | (intro hc; (first | rw [wrap_small (by omega) (by omega)] at hc | rw [nI_eq] at hc | skip); try (conv => cbv))
  exact kn
 ·rw [hvb] at hv
  rw [arcsT, if_pos hvb] at harc
  have kr := kr hvb
  have kv := kv hvb
  have hdl := hdl hvb
  have hL := (validT_spec.1 hvb).2.2.1
  clear kn hvb
  obtain ⟨nodes, ov, links⟩ := t
  simp only [topA, boolsD, linksD] at *
  generalize hol : ov.map encB = ol at *
  generalize hll : links.map encLk = ll at *
  have hlo : Λ ol = ov.length := by rw [Λo, ← hol]; simp
  have hls : Λ ll = links.length := by rw [Λo, ← hll]; simp
  generalize plh : List.map encI p = pl at *
  have pln : Λ pl = p.length := by rw [Λo, ← plh]; simp
  obtain ⟨M, hM⟩ : ∃ M : Int, M = 2 * links.length := ⟨_, rfl⟩
  rw [← hM] at harc
  conv => cbv
  repeat' first | (refine call_r hv rfl rfl ?_; conv => cbv) | exact gu | exact trivial | refine And.intro ?_ ?_ | (intro hc; exact absurd hc (by decide)) | (intro hc; exfalso; omega) | (intro hc; (first | rw [wrap_small (by omega) (by omega)] at hc | rw [nI_eq] at hc | skip); try (conv => cbv))
  refine loop_up p.length (fun (s : Int × Int) => [(1, .c (.d (.list false 1 pl))), (2, .c (.ptr 0 0 0 0)), (4, iA 0), (5, iA 0), (6, iA s.1), (7, iA s.2)])
   (fun _ => [.bx [.d (.int .i64 nodes), .d (.list false 1 ol), .d (.list false 7 ll)]])
   (fun k s => s.2 = k ∧ k ≤ p.length ∧ s.1 = ((p.take k).map fun a => (lk a).dl).sum ∧ 0 ≤ s.1 ∧ s.1 ≤ 65536 * k ∧ ∀ a ∈ p.take k, 0 ≤ a ∧ a < 2 * links.length) (0, 0) (Wk.cw) ⟨rfl, by omega, by simp, by simp, by simp, by simp⟩ (fun k s h => h.2.1) ?_
  rintro k ⟨sm, i⟩ Q' ⟨hi, hk, hsm, hs0, hs1, hal⟩ norm ex rt
  simp only at hi hsm hs0 hs1 hal
  by_cases hlt : k < p.length
  ·obtain ⟨x, hx⟩ : ∃ x, p[k]? = some x := ⟨_, List.getElem?_eq_getElem hlt⟩
   have hxa := elt_at plh hi hx
   have hdx := hdl x
   have hatx := hat x
   have htk : ((p.take (k + 1)).map fun a => (lk a).dl).sum = sm + (lk x).dl := by rw [take_succ_get hx]; simp [hsm]
   by_cases hr : 0 ≤ x ∧ x < 2 * links.length
   ·have hdx := hdx hr.1 hr.2
    conv => cbv
    repeat' first | (intro e he; cases Option.some.inj (he.symm.trans hxa); (conv => cbv)) | (refine call_r harc rfl rfl ?_; conv => cbv) | (intro hc; rw [tdiv2 (by omega) (by omega)] at hc; conv => cbv) | (intro (_ : Unit); decide) | (intro e he; obtain ⟨⟨xa, xb, xc, xd, xe, xf, xg⟩, hlx, rfl⟩ := map_get' hll he; have hlk := hatx _ (get_at hlx (by omega)); rw [hlk] at hdx htk; simp only at hdx htk; (conv => cbv)) | exact gu | exact trivial | refine And.intro ?_ ?_ | (intro hc; exact absurd hc (by decide)) | (intro hc; exfalso; omega) | (intro hc; (first | rw [wrap_small (by omega) (by omega)] at hc | rw [nI_eq] at hc | skip); try (conv => cbv))
    refine norm _ _ (_, _) ?_ (Wk.cw)
    refine ⟨by simp only; omega, by omega, by simp only; rw [htk]; omega, by simp only; omega, by simp only; omega, fun a ha => ?_⟩
    rw [take_succ_get hx] at ha
    rcases List.mem_append.1 ha with ha | ha
    ·exact hal a ha
    ·rw [List.mem_singleton.1 ha]; exact hr
   ·have kr := kr (fun h => hr (h x (List.mem_of_getElem? hx)))
    conv => cbv
    repeat' first | (intro e he; cases Option.some.inj (he.symm.trans hxa); (conv => cbv)) | (refine call_r harc rfl rfl ?_; conv => cbv) | exact gu | exact trivial | refine And.intro ?_ ?_ | (intro hc; exact absurd hc (by decide)) | (intro hc; exfalso; omega) | (intro hc; (first | rw [wrap_small (by omega) (by omega)] at hc | rw [nI_eq] at hc | skip); try (conv => cbv))
    all_goals
     refine rt _ _ ?_
     conv => cbv
     exact kr
  ·rw [List.take_of_length_le (by omega)] at hsm hal
   have kv := kv hal
   rw [← hsm] at kv
   conv => cbv
   repeat' first | exact gu | exact trivial | refine And.intro ?_ ?_ | (intro hc; exact absurd hc (by decide)) | (intro hc; exfalso; omega) | (intro hc; (first | rw [wrap_small (by omega) (by omega)] at hc | rw [nI_eq] at hc | skip); try (conv => cbv))
   refine ex _ _ _ ?_
   conv => cbv
   repeat' first | exact gu | exact trivial | refine And.intro ?_ ?_ | (intro hc; exact absurd hc (by decide)) | (intro hc; exfalso; omega) | (intro hc; (first | rw [wrap_small (by omega) (by omega)] at hc | rw [nI_eq] at hc | skip); try (conv => cbv))
   exact kv
end Go.Ab

/-
  Comparing the versions of blocks.
-/
namespace Go.Ab
open Go.Proofs
theorem bq_self (n : Nat) : Nat.beq n n = true := Nat.beq_refl n
theorem bq_old (n : Nat) : Nat.beq n n.succ = false := by
 rw [Bool.eq_false_iff]; intro h; have := Nat.eq_of_beq_eq_true h; omega
theorem bq_lit (a b : Nat) : Nat.beq a b = decide (a = b) := by
 by_cases h : a = b
 ·subst h; simp
 ·rw [decide_eq_false h, Bool.eq_false_iff]; exact fun h' => h (Nat.eq_of_beq_eq_true h')
end Go.Ab

/-
  The reference's enumeration of paths.
-/
namespace Go.Ab
open Go.Proofs
def extS (t : Top) (down : List Bool) (d : Int) : Nat → List Int → Int → List Bool → List (List Int)
 | 0, _, _, _ => []
 | m + 1, path, at', sn => if at' = d then [path] else if path ≠ [] ∧ ovT t at' = true then [] else
  (outT t at').flatMap fun a => if dnB down a = true ∨ sn.getD (headT t a).toNat false = true then [] else extS t down d m (path ++ [a]) (headT t a) (sn.set (headT t a).toNat true)
def freeB (sn : List Bool) : Nat := sn.countP (fun b => !b)
theorem freeB_set {sn : List Bool} {j : Nat} (h : sn[j]? = some false) : freeB (sn.set j true) + 1 = freeB sn := by
 induction sn generalizing j with
 | nil => simp at h
 | cons b r ih =>
  cases j with
  | zero =>
   simp only [List.getElem?_cons_zero, Option.some.injEq] at h
   subst h
   simp [freeB]
  | succ j =>
   have := ih (j := j) (by simpa using h)
   unfold freeB at this ⊢
   rw [List.set_cons_succ, List.countP_cons, List.countP_cons]
   omega
end Go.Ab

/-
  The reference's sorting of paths.
-/
namespace Go.Ab
open Go.Proofs
def insP (t : Top) (x : List Int) : List (List Int) → List (List Int)
 | [] => [x]
 | y :: r => if ordS (cst t y) (cst t x) y x < 0 then y :: insP t x r else x :: y :: r
def sortP (t : Top) (l : List (List Int)) : List (List Int) := l.foldl (fun E x => insP t x E) []
theorem insP_perm (t : Top) (x : List Int) : ∀ E, (insP t x E).Perm (x :: E)
 | [] => .refl _
 | y :: r => by
  rw [insP]
  split
  ·exact ((insP_perm t x r).cons y).trans (.swap _ _ _)
  ·exact .refl _
theorem foldP_perm (t : Top) : ∀ (l E : List (List Int)), (l.foldl (fun E x => insP t x E) E).Perm (l ++ E)
 | [], E => .refl _
 | x :: l, E => by
  rw [List.foldl_cons]
  refine (foldP_perm t l _).trans ?_
  have h1 : (l ++ insP t x E).Perm (l ++ x :: E) := (insP_perm t x E).append_left l
  exact h1.trans List.perm_middle
theorem sortP_perm (t : Top) (l : List (List Int)) : (sortP t l).Perm l := by
 have := foldP_perm t l []
 rwa [List.append_nil] at this
end Go.Ab

/-
  The reference's enumeration of all paths.
-/
namespace Go.Ab
open Go.Proofs
theorem outT_len {t : Top} (hL : t.links.length ≤ 11) (n : Int) : (outT t n).length ≤ 22 := by
 have h1 : (outT t n).length ≤ (arcsT t).toNat := by
  unfold outT
  refine Nat.le_trans (List.length_filter_le _ _) ?_
  simp [arcsTo]
 have := arcsT_le t
 omega
def seen0 (t : Top) (s : Int) : List Bool := (List.replicate t.nodes.toNat false).set s.toNat true
def simpS (t : Top) (down : List Bool) (s d : Int) : List (List Int) := extS t down d 8 [] s (seen0 t s)
end Go.Ab

/-
  The reference's paths are the good ones, each once.
-/
namespace Go.Ab
open Go.Proofs
def ExtP (t : Top) (down : List Bool) (d : Int) : Bool → Int → List Bool → List Int → Prop
 | _, v, _, [] => v = d
 | b, v, sn, a :: r => v ≠ d ∧ (b = true → ovT t v = false) ∧ ((0 ≤ a ∧ a < 2 * t.links.length) ∧ tailG t a = v) ∧ dnB down a = false ∧ sn.getD (headG t a).toNat false = false ∧ ExtP t down d true (headG t a) (sn.set (headG t a).toNat true) r
theorem outT_mem {t : Top} {a n : Int} (hv : validT t = true) : a ∈ outT t n ↔ (0 ≤ a ∧ a < 2 * t.links.length) ∧ tailG t a = n := by
 rw [outT, List.mem_filter, decide_eq_true_eq, arcsTo, List.mem_map]
 constructor
 ·rintro ⟨⟨j, hj, rfl⟩, h2⟩
  rw [List.mem_range, arcsT, if_pos hv] at hj
  have h0 : (0 : Int) ≤ (j : Int) := by omega
  have h1 : (j : Int) < 2 * t.links.length := by omega
  rw [tailT_valid hv h0 h1] at h2
  exact ⟨⟨h0, h1⟩, h2⟩
 ·rintro ⟨⟨h0, h1⟩, h2⟩
  refine ⟨⟨a.toNat, ?_, by omega⟩, by rw [tailT_valid hv h0 h1]; exact h2⟩
  rw [List.mem_range, arcsT, if_pos hv]; omega
theorem headT_valid' {t : Top} {a : Int} (hv : validT t = true) (h0 : 0 ≤ a) (h1 : a < 2 * t.links.length) : headT t a = headG t a := by
 rw [headT, headG, arcsT, if_pos hv, if_pos (show 0 ≤ a ∧ a < 2 * (t.links.length : Int) from ⟨h0, h1⟩)]
theorem head_rg {t : Top} {a : Int} (hv : validT t = true) (h0 : 0 ≤ a) (h1 : a < 2 * t.links.length) : 0 ≤ headG t a ∧ headG t a < t.nodes := by
 have := endG_range hv true h0 h1
 exact this
theorem outT_nodup (t : Top) (n : Int) : (outT t n).Nodup := by
 unfold outT
 refine List.Nodup.sublist List.filter_sublist ?_
 unfold arcsTo
 rw [List.nodup_iff_pairwise_ne, List.pairwise_map]
 refine List.Pairwise.imp ?_ (List.nodup_iff_pairwise_ne.1 List.nodup_range)
 intro a b h e
 exact h (by omega)
theorem extS_mem {t : Top} {down : List Bool} {d : Int} (hv : validT t = true) : ∀ (m : Nat) (path : List Int) (v : Int) (sn : List Bool), freeB sn < m → (sn.length : Int) = t.nodes → ∀ p, p ∈ extS t down d m path v sn ↔ ∃ q, p = path ++ q ∧ ExtP t down d (decide (path ≠ [])) v sn q
 | 0, _, _, _, h, _, _ => by omega
 | m + 1, path, v, sn, hf, hl, p => by
  rw [extS]
  by_cases hvd : v = d
  ·rw [if_pos hvd, List.mem_singleton]
   constructor
   ·intro h; exact ⟨[], by rw [h, List.append_nil], hvd⟩
   ·rintro ⟨q, h1, h2⟩
    cases q with
    | nil => rw [h1, List.append_nil]
    | cons a r => exact absurd hvd h2.1
  ·rw [if_neg hvd]
   by_cases hov : path ≠ [] ∧ ovT t v = true
   ·rw [if_pos hov]
    constructor
    ·intro h; cases h
    ·rintro ⟨q, h1, h2⟩
     cases q with
     | nil => exact absurd h2 hvd
     | cons a r =>
      have := h2.2.1 (decide_eq_true hov.1)
      rw [hov.2] at this; cases this
   ·rw [if_neg hov, List.mem_flatMap]
    have hov2 : decide (path ≠ []) = true → ovT t v = false := fun h => by
     cases hb : ovT t v with
     | false => rfl
     | true => exact absurd ⟨of_decide_eq_true h, hb⟩ hov
    constructor
    ·rintro ⟨a, ha, h⟩
     rw [outT_mem hv] at ha
     have hh := headT_valid' hv ha.1.1 ha.1.2
     have hr := head_rg hv ha.1.1 ha.1.2
     rw [hh] at h
     split at h
     ·cases h
     ·rename_i hn
      rw [not_or] at hn
      have hsn : sn[(headG t a).toNat]? = some false := by
       rw [List.getElem?_eq_getElem (by omega)]
       have := Bool.eq_false_iff.2 hn.2
       rw [List.getD_eq_getElem?_getD, List.getElem?_eq_getElem (by omega)] at this
       exact congrArg some this
      have h3 := freeB_set hsn
      rw [extS_mem hv m _ _ _ (by omega) (by rw [List.length_set]; exact hl)] at h
      obtain ⟨q, hq1, hq2⟩ := h
      refine ⟨a :: q, by rw [hq1]; simp, hvd, hov2, ha, Bool.eq_false_iff.2 hn.1, Bool.eq_false_iff.2 hn.2, ?_⟩
      rw [decide_eq_true (by simp)] at hq2
      exact hq2
    ·rintro ⟨q, h1, h2⟩
     cases q with
     | nil => exact absurd h2 hvd
     | cons a r =>
      obtain ⟨_, _, h3, h4, h5, h6⟩ := h2
      have hh := headT_valid' hv h3.1.1 h3.1.2
      have hr := head_rg hv h3.1.1 h3.1.2
      refine ⟨a, (outT_mem hv).2 h3, ?_⟩
      rw [hh, if_neg (by rw [h4, h5]; simp)]
      have hsn : sn[(headG t a).toNat]? = some false := by
       rw [List.getElem?_eq_getElem (by omega)]
       rw [List.getD_eq_getElem?_getD, List.getElem?_eq_getElem (by omega)] at h5
       exact congrArg some h5
      have h7 := freeB_set hsn
      rw [extS_mem hv m _ _ _ (by omega) (by rw [List.length_set]; exact hl)]
      exact ⟨r, by rw [h1]; simp, by rw [decide_eq_true (by simp)]; exact h6⟩
theorem extS_pre {t : Top} {down : List Bool} {d : Int} : ∀ (m : Nat) (path : List Int) (v : Int) (sn : List Bool) (p : List Int), p ∈ extS t down d m path v sn → ∃ q, p = path ++ q
 | 0, _, _, _, _, h => by cases h
 | m + 1, path, v, sn, p, h => by
  rw [extS] at h
  split at h
  ·rw [List.mem_singleton] at h; exact ⟨[], by rw [h, List.append_nil]⟩
  ·split at h
   ·cases h
   ·rw [List.mem_flatMap] at h
    obtain ⟨a, _, h⟩ := h
    split at h
    ·cases h
    ·obtain ⟨q, rfl⟩ := extS_pre m _ _ _ p h
     exact ⟨a :: q, by simp⟩
theorem extS_nodup {t : Top} {down : List Bool} {d : Int} : ∀ (m : Nat) (path : List Int) (v : Int) (sn : List Bool), (extS t down d m path v sn).Nodup
 | 0, _, _, _ => List.nodup_nil
 | m + 1, path, v, sn => by
  rw [extS]
  split
  ·simp
  ·split
   ·simp
   ·have key : ∀ l : List Int, l.Nodup → (l.flatMap fun a => if dnB down a = true ∨ sn.getD (headT t a).toNat false = true then [] else extS t down d m (path ++ [a]) (headT t a) (sn.set (headT t a).toNat true)).Nodup := by
     intro l
     induction l with
     | nil => intro _; simp
     | cons a r ih =>
      intro hn
      obtain ⟨h1, h2⟩ := List.nodup_cons.1 hn
      rw [List.flatMap_cons, List.nodup_append]
      refine ⟨?_, ih h2, fun x hx y hy e => ?_⟩
      ·split
       ·simp
       ·exact extS_nodup m _ _ _
      ·subst e
       rw [List.mem_flatMap] at hy
       obtain ⟨b, hb, hy⟩ := hy
       split at hx
       ·cases hx
       ·split at hy
        ·cases hy
        ·obtain ⟨q1, e1⟩ := extS_pre m _ _ _ x hx
         obtain ⟨q2, e2⟩ := extS_pre m _ _ _ x hy
         rw [e1, List.append_assoc, List.append_assoc] at e2
         have e3 := List.append_cancel_left e2
         have e4 : a = b := by simpa using (List.cons.inj e3).1
         exact h1 (e4 ▸ hb)
    exact key _ (outT_nodup t v)
theorem getD_set {sn : List Bool} {i j : Nat} (hj : j < sn.length) : (sn.set j true).getD i false = if i = j then true else sn.getD i false := by
 rw [List.getD_eq_getElem?_getD, List.getElem?_set]
 by_cases h : j = i
 ·rw [if_pos h, if_pos hj, if_pos h.symm]; rfl
 ·rw [if_neg h, if_neg (fun e => h e.symm), List.getD_eq_getElem?_getD]
theorem ExtP_flat {t : Top} {down : List Bool} {d : Int} (hv : validT t = true) : ∀ (q : List Int) (b : Bool) (v : Int) (sn : List Bool), (sn.length : Int) = t.nodes → (ExtP t down d b v sn q ↔
  (∀ (p1 : List Int) (a : Int) (p2 : List Int), q = p1 ++ a :: p2 → ((0 ≤ a ∧ a < 2 * t.links.length) ∧ tailG t a = endN (headG t) v p1) ∧ dnB down a = false ∧ ((b = true ∨ p1 ≠ []) → ovT t (endN (headG t) v p1) = false) ∧ endN (headG t) v p1 ≠ d) ∧
   endN (headG t) v q = d ∧ (q.map (headG t)).Nodup ∧ ∀ x ∈ q.map (headG t), sn.getD x.toNat false = false)
 | [], b, v, sn, _ => by
  simp only [ExtP, endN]
  refine ⟨fun h => ⟨fun p1 a p2 e => by simp at e, h, by simp, by simp⟩, fun h => h.2.1⟩
 | a :: r, b, v, sn, hl => by
  simp only [ExtP]
  constructor
  ·rintro ⟨h1, h2, h3, h4, h5, h6⟩
   have hr := head_rg hv h3.1.1 h3.1.2
   have hj : (headG t a).toNat < sn.length := by omega
   obtain ⟨g1, g2, g3, g4⟩ := (ExtP_flat hv r true (headG t a) _ (by rw [List.length_set]; exact hl)).1 h6
   have g5 : ∀ x ∈ r.map (headG t), x ≠ headG t a ∧ sn.getD x.toNat false = false := fun x hx => by
    have := g4 x hx
    rw [getD_set hj] at this
    split at this
    ·cases this
    ·rename_i hne
     exact ⟨fun e => hne (by rw [e]), this⟩
   refine ⟨fun p1 c p2 e => ?_, g2, ?_, fun x hx => ?_⟩
   ·cases p1 with
    | nil =>
     obtain ⟨rfl, rfl⟩ := List.cons.inj e
     exact ⟨h3, h4, fun h => h2 (h.resolve_right (by simp)), h1⟩
    | cons c2 p1 =>
     rw [List.cons_append] at e
     obtain ⟨e7, e8⟩ := List.cons.inj e
     subst e7
     obtain ⟨k1, k2, k3, k4⟩ := g1 p1 c p2 e8
     exact ⟨k1, k2, fun _ => k3 (.inl rfl), k4⟩
   ·rw [List.map_cons, List.nodup_cons]
    exact ⟨fun hm => (g5 _ hm).1 rfl, g3⟩
   ·rw [List.map_cons] at hx
    rcases List.mem_cons.1 hx with rfl | hx
    ·exact h5
    ·exact (g5 x hx).2
  ·rintro ⟨h1, h2, h3, h4⟩
   obtain ⟨k1, k2, k3, k4⟩ := h1 [] a r rfl
   have hr := head_rg hv k1.1.1 k1.1.2
   have hj : (headG t a).toNat < sn.length := by omega
   rw [List.map_cons, List.nodup_cons] at h3
   refine ⟨k4, fun h => k3 (.inl h), k1, k2, h4 _ (by simp), ?_⟩
   rw [ExtP_flat hv r true (headG t a) _ (by rw [List.length_set]; exact hl)]
   refine ⟨fun p1 c p2 e => ?_, h2, h3.2, fun x hx => ?_⟩
   ·obtain ⟨m1, m2, m3, m4⟩ := h1 (a :: p1) c p2 (by rw [e]; rfl)
    exact ⟨m1, m2, fun _ => m3 (.inr (by simp)), m4⟩
   ·have hxr : 0 ≤ x := by
     obtain ⟨c, hc, rfl⟩ := List.mem_map.1 hx
     obtain ⟨p1, p2, e⟩ := List.append_of_mem hc
     obtain ⟨m1, _⟩ := h1 (a :: p1) c p2 (by rw [e]; rfl)
     exact (head_rg hv m1.1.1 m1.1.2).1
    rw [getD_set hj, if_neg (fun e => h3.1 (by
     have : x = headG t a := by omega
     rw [← this]; exact hx))]
    exact h4 x (by simp only [List.map_cons, List.mem_cons]; exact .inr hx)
theorem simpS_mem {t : Top} {down : List Bool} {s d : Int} (hv : validT t = true) (hdn : down.length = 0 ∨ down.length = 2 * t.links.length) (hN8 : t.nodes ≤ 8) (hs : 0 ≤ s ∧ s < t.nodes) (p : List Int) : p ∈ simpS t down s d ↔ GoodP t down s d 0 p := by
 have hsl : ((seen0 t s).length : Int) = t.nodes := by simp [seen0]; omega
 have hfree : freeB (seen0 t s) < 8 := by
  have h1 := freeB_set (sn := List.replicate t.nodes.toNat false) (j := s.toNat) (by rw [List.getElem?_replicate, if_pos (by omega)])
  have h2 : freeB (List.replicate t.nodes.toNat false) ≤ (List.replicate t.nodes.toNat false).length := List.countP_le_length
  rw [List.length_replicate] at h2
  unfold seen0
  omega
 have hse : ∀ x : Int, 0 ≤ x → x < t.nodes → ((seen0 t s).getD x.toNat false = false ↔ x ≠ s) := fun x h0 h1 => by
  rw [seen0, getD_set (by simp; omega)]
  have e : (List.replicate t.nodes.toNat false).getD x.toNat false = false := by
   rw [List.getD_eq_getElem?_getD, List.getElem?_replicate]; split <;> rfl
  rw [e]
  by_cases h : x.toNat = s.toNat
  ·rw [if_pos h]
   have h3 : x = s := by omega
   simp [h3]
  ·rw [if_neg h]; exact ⟨fun _ e => h (by rw [e]), fun _ => rfl⟩
 rw [simpS, extS_mem hv 8 [] s _ hfree hsl]
 have e1 : (∃ q, p = [] ++ q ∧ ExtP t down d (decide (([] : List Int) ≠ [])) s (seen0 t s) q) ↔ ExtP t down d false s (seen0 t s) p := by
  constructor
  ·rintro ⟨q, h1, h2⟩
   rw [List.nil_append] at h1
   rw [h1]; simpa using h2
  ·intro h
   exact ⟨p, rfl, by simpa using h⟩
 rw [e1, ExtP_flat hv p false s _ hsl]
 constructor
 ·rintro ⟨h1, h2, h3, h4⟩
  refine ⟨fun p1 a p2 e => ?_, h2, ?_, fun h => by omega⟩
  ·obtain ⟨k1, k2, k3, _⟩ := h1 p1 a p2 e
   refine ⟨k1.1, k1.2, ?_, fun h => k3 (.inr h)⟩
   rw [dnB_up k1.1.1 (by omega)] at k2
   simpa using k2
  ·rw [List.nodup_cons]
   refine ⟨fun hm => ?_, h3⟩
   exact (hse s hs.1 hs.2).1 (h4 s hm) rfl
 ·intro h
  have hnd := List.nodup_cons.1 h.nd
  refine ⟨fun p1 a p2 e => ?_, h.en, hnd.2, fun x hx => ?_⟩
  ·obtain ⟨k1, k2, k3, k4⟩ := h.st p1 a p2 e
   refine ⟨⟨k1, k2⟩, by rw [dnB_up k1.1 (by omega), k3]; rfl, fun h2 => k4 (h2.resolve_left (by simp)), ?_⟩
   have hi : p1.length < p.length := by rw [e]; simp
   have := (h.root hi).2
   rw [e, List.take_left] at this
   exact this
  ·obtain ⟨a, ha, rfl⟩ := List.mem_map.1 hx
   obtain ⟨p1, p2, e⟩ := List.append_of_mem ha
   have k1 := (h.st p1 a p2 e).1
   have hr := head_rg hv k1.1 k1.2
   rw [hse _ hr.1 hr.2]
   exact fun e2 => hnd.1 (e2 ▸ hx)
theorem insP_srt {t : Top} {x : List Int} : ∀ {E : List (List Int)}, E.Pairwise (fun a b => ordS (cst t a) (cst t b) a b < 0) → x ∉ E → (insP t x E).Pairwise (fun a b => ordS (cst t a) (cst t b) a b < 0)
 | [], _, _ => List.pairwise_singleton _ _
 | y :: r, h, hn => by
  obtain ⟨h1, h2⟩ := List.pairwise_cons.1 h
  rw [insP]
  split
  ·rename_i hx
   refine List.pairwise_cons.2 ⟨fun z hz => ?_, insP_srt h2 fun hm => hn (List.mem_cons_of_mem _ hm)⟩
   rcases List.mem_cons.1 ((insP_perm t x r).mem_iff.1 hz) with rfl | hz
   ·exact hx
   ·exact h1 z hz
  ·rename_i hx
   have hxy : ordS (cst t x) (cst t y) x y < 0 := by
    rw [ordS_neg] at hx
    by_cases e : ordS (cst t x) (cst t y) x y = 0
    ·exact absurd (List.mem_cons_self) ((ordS_z e).2 ▸ hn)
    ·omega
   refine List.pairwise_cons.2 ⟨fun z hz => ?_, h⟩
   rcases List.mem_cons.1 hz with rfl | hz
   ·exact hxy
   ·have h3 := h1 z hz
    have h4 := ordS_trans (ca := cst t x) (cb := cst t y) (cc := cst t z) (a := x) (b := y) (c := z) (by omega) (by omega)
    by_cases e : ordS (cst t x) (cst t z) x z = 0
    ·obtain ⟨e1, rfl⟩ := ordS_z e
     rw [ordS_neg] at h3
     omega
    ·omega
theorem foldP_srt {t : Top} : ∀ (l E : List (List Int)), E.Pairwise (fun a b => ordS (cst t a) (cst t b) a b < 0) → (l ++ E).Nodup → (l.foldl (fun E x => insP t x E) E).Pairwise (fun a b => ordS (cst t a) (cst t b) a b < 0)
 | [], _, h, _ => h
 | x :: l, E, h, hn => by
  rw [List.cons_append, List.nodup_cons] at hn
  rw [List.foldl_cons]
  refine foldP_srt l _ (insP_srt h fun hm => hn.1 (List.mem_append_right _ hm)) ?_
  have h1 : (l ++ insP t x E).Perm (x :: (l ++ E)) := ((insP_perm t x E).append_left l).trans List.perm_middle
  rw [h1.nodup_iff, List.nodup_cons]
  exact hn
theorem cstP {t : Top} {down : List Bool} {s d most : Int} {p : List Int} (hv : validT t = true) (h : GoodP t down s d most p) : cst t p = costP t p := by
 unfold cst costP
 congr 1
 apply List.map_congr_left
 intro a ha
 obtain ⟨p1, p2, e⟩ := List.append_of_mem ha
 have := (h.st p1 a p2 e).1
 have := cost_rg hv this.1 this.2
 omega
def allS (t : Top) (down : List Bool) (s d : Int) : List (List Int) := sortP t (simpS t down s d)
theorem allS_srt {t : Top} {down : List Bool} {s d : Int} (hv : validT t = true) (hdn : down.length = 0 ∨ down.length = 2 * t.links.length) (hN8 : t.nodes ≤ 8) (hs : 0 ≤ s ∧ s < t.nodes) : IsSrt t (GoodP t down s d 0) (allS t down s d) := by
 have hm : ∀ p, p ∈ allS t down s d ↔ GoodP t down s d 0 p := fun p => by rw [allS, (sortP_perm t _).mem_iff, simpS_mem hv hdn hN8 hs]
 refine ⟨?_, hm⟩
 have h1 := foldP_srt (t := t) (simpS t down s d) [] List.Pairwise.nil (by rw [List.append_nil]; exact extS_nodup _ _ _ _)
 refine List.Pairwise.imp_of_mem ?_ h1
 intro a b ha hb h
 have ga := (hm a).1 ha
 have gb := (hm b).1 hb
 unfold ltP
 rw [← cstP hv ga, ← cstP hv gb]
 exact h
end Go.Ab

