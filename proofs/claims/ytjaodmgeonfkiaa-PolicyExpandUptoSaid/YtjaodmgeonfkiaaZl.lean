/-
  Merged texts, part l.
-/
import Derived.Test.YtjaodmgeonfkiaaZk
/-
  Chapter 21, part h: the specification of the expansion, and what is remembered of policies that were expanded.
-/
namespace Go.Ab
open Go.Proofs

abbrev Key := Int × Int
/-- policies that were expanded, the last one first -/
abbrev Dn := List (Key × (List Seg × Int))
def polOf (ps : List Pol) (k : Key) : Option (List Seg) := (ps.find? fun p => decide (keyP p = k)).map (·.list)

inductive Res where
  | ok (out : List Seg) (pos : Int)
  | err (e : Int)

def foldS (f : List Seg → Int → Seg → Res) : List Seg → Int → List Seg → Res
  | out, pos, [] => .ok out pos
  | out, pos, s :: r => match f out pos s with
    | .ok o p => foldS f o p r
    | .err e => .err e

def oneW (t : Top) (ps : List Pol) (rec : List Key → List Seg → Int → Seg → Res) (op : List Key) (out : List Seg) (pos : Int) (s : Seg) : Res :=
  if s.kind ≠ 4 then (if (posS t pos s).1 ≠ 0 then .err (posS t pos s).1 else if out.length + 1 ≤ 32 then .ok (out ++ [s]) (posS t pos s).2 else .err 6)
  else if pos = -1 then .err 7
  else match polOf ps (pos, s.num) with
    | none => .err 8
    | some l => if (pos, s.num) ∈ op then .err 16 else foldS (rec ((pos, s.num) :: op)) out pos l

def oneS (t : Top) (ps : List Pol) : Nat → List Key → List Seg → Int → Seg → Res
  | 0 => oneW t ps fun _ _ _ _ => .err 0
  | n + 1 => oneW t ps (oneS t ps n)

def lkD (k : Key) : Dn → Option (List Seg × Int)
  | [] => none
  | e :: d => if e.1 = k then some e.2 else lkD k d

def flat (t : Top) (d : Dn) : Int → List Seg → Option (List Seg × Int)
  | pos, [] => some ([], pos)
  | pos, s :: r => if s.kind ≠ 4 then (if (posS t pos s).1 ≠ 0 then none else (flat t d (posS t pos s).2 r).map fun x => (s :: x.1, x.2))
    else if pos = -1 then none
    else match lkD (pos, s.num) d with
      | none => none
      | some x => (flat t d x.2 r).map fun y => (x.1 ++ y.1, y.2)

def okD (t : Top) (ps : List Pol) : Dn → Prop
  | [] => True
  | e :: d => okD t ps d ∧ lkD e.1 d = none ∧ e.1.1 ≠ -1 ∧ ∃ pl, polOf ps e.1 = some pl ∧ flat t d e.1.1 pl = some e.2

/-- what a policy that is remembered gives -/
def EntryS (t : Top) (ps : List Pol) (d : Dn) : Prop := ∀ k x, lkD k d = some x → ∀ n op, (∀ k, k ∈ op → lkD k d = none) → d.length ≤ n → ∀ (out : List Seg) (s : Seg), out.length ≤ 32 → s.kind = 4 → s.num = k.2 →
  oneS t ps n op out k.1 s = if out.length + x.1.length ≤ 32 then .ok (out ++ x.1) x.2 else .err 6

theorem oneS_plain {t : Top} {ps : List Pol} {n : Nat} {op : List Key} {out : List Seg} {pos : Int} {s : Seg} (h : s.kind ≠ 4) :
    oneS t ps n op out pos s = if (posS t pos s).1 ≠ 0 then .err (posS t pos s).1 else if out.length + 1 ≤ 32 then .ok (out ++ [s]) (posS t pos s).2 else .err 6 := by
  cases n <;> simp only [oneS, oneW, if_pos h]

theorem flat_fold {t : Top} {ps : List Pol} {d : Dn} (he : EntryS t ps d) {n : Nat} {op : List Key} (hop : ∀ k, k ∈ op → lkD k d = none) (hn : d.length ≤ n) :
    ∀ (l : List Seg) (out : List Seg) (pos : Int) (x : List Seg × Int), out.length ≤ 32 → flat t d pos l = some x →
      foldS (oneS t ps n op) out pos l = if out.length + x.1.length ≤ 32 then .ok (out ++ x.1) x.2 else .err 6 := by
  intro l
  induction l with
  | nil =>
    intro out pos x ho h
    simp only [flat, Option.some.injEq] at h
    subst h
    simp only [foldS, List.length_nil, Nat.add_zero, if_pos ho, List.append_nil]
  | cons s r ih =>
    intro out pos x ho h
    simp only [flat] at h
    by_cases h4 : s.kind ≠ 4
    · rw [if_pos h4] at h
      by_cases hp : (posS t pos s).1 ≠ 0
      · rw [if_pos hp] at h; cases h
      · rw [if_neg hp] at h
        obtain ⟨y, hy, rfl⟩ := Option.map_eq_some_iff.1 h
        simp only [foldS, oneS_plain h4, if_neg hp]
        by_cases hl : out.length + 1 ≤ 32
        · simp only [if_pos hl]
          rw [ih _ _ y (by simp; omega) hy]
          simp only [List.length_append, List.length_cons, List.length_nil, List.append_assoc, List.singleton_append]
          by_cases hz : out.length + (y.1.length + 1) ≤ 32
          · rw [if_pos hz, if_pos (by omega)]
          · rw [if_neg hz, if_neg (by omega)]
        · simp only [if_neg hl, List.length_cons]
          rw [if_neg (by omega)]
    · rw [if_neg h4] at h
      by_cases hpos : pos = -1
      · rw [if_pos hpos] at h; cases h
      · rw [if_neg hpos] at h
        cases hk : lkD (pos, s.num) d with
        | none => rw [hk] at h; cases h
        | some x0 =>
          rw [hk] at h
          obtain ⟨y, hy, rfl⟩ := Option.map_eq_some_iff.1 h
          have e1 := he (pos, s.num) x0 hk n op hop hn out s ho (by omega) rfl
          simp only at e1
          simp only [foldS, e1]
          by_cases hl : out.length + x0.1.length ≤ 32
          · simp only [if_pos hl]
            rw [ih _ _ y (by simp; omega) hy]
            simp only [List.length_append, List.append_assoc]
            by_cases hz : out.length + (x0.1.length + y.1.length) ≤ 32
            · rw [if_pos hz, if_pos (by omega)]
            · rw [if_neg hz, if_neg (by omega)]
          · simp only [if_neg hl, List.length_append]
            rw [if_neg (by omega)]

theorem entry_ok {t : Top} {ps : List Pol} : ∀ {d : Dn}, okD t ps d → EntryS t ps d := by
  intro d
  induction d with
  | nil => intro _ k x h; cases h
  | cons e d ih =>
    rintro ⟨hd, hf, hm, pl, hpl, hfl⟩ k x h n op hop hn out s ho h4 hs
    have hih := ih hd
    have hopd : ∀ k, k ∈ op → lkD k d = none := fun k hk => by
      have := hop k hk
      simp only [lkD] at this
      split at this
      · cases this
      · exact this
    simp only [lkD] at h
    split at h
    · rename_i hek
      subst hek
      obtain rfl := Option.some.inj h
      cases n with
      | zero => simp at hn
      | succ n =>
        have hno : e.1 ∉ op := fun hc => by have := hop _ hc; simp [lkD] at this
        have e0 : (e.1.1, s.num) = e.1 := by rw [hs]
        simp only [oneS, oneW]
        rw [if_neg (by omega), if_neg hm, e0, hpl]
        simp only
        rw [if_neg hno]
        exact flat_fold hih (fun k hk => by
          rcases List.mem_cons.1 hk with rfl | hk
          · exact hf
          · exact hopd k hk) (by simp at hn; omega) pl out e.1.1 e.2 ho hfl
    · exact hih k x h n op hopd (by simp at hn; omega) out s ho h4 hs

end Go.Ab

/-
  Chapter 21, part i: the expander's stack of lists against the specification.
-/
namespace Go.Ab
open Go.Proofs

structure XFr where
  (list : List Seg) (key : Key) (beg : Nat)

/-- the policies that are being expanded; the outermost list is none -/
def opOf : List XFr → List Key
  | [] => []
  | [_] => []
  | f :: g :: r => f.key :: opOf (g :: r)

/-- what is still to come, the innermost list first -/
def contS (t : Top) (ps : List Pol) (N : Nat) : List XFr → List Seg → Int → Res
  | [], out, pos => .ok out pos
  | f :: r, out, pos => match foldS (oneS t ps (N - (opOf (f :: r)).length) (opOf (f :: r))) out pos f.list with
    | .ok o p => contS t ps N r o p
    | .err e => .err e

theorem opOf_list (f : XFr) (l : List Seg) (r : List XFr) : opOf (⟨l, f.key, f.beg⟩ :: r) = opOf (f :: r) := by
  cases r <;> rfl

theorem cont_pop {t : Top} {ps : List Pol} {N : Nat} {f : XFr} {r : List XFr} {out : List Seg} {pos : Int} (h : f.list = []) : contS t ps N (f :: r) out pos = contS t ps N r out pos := by
  simp only [contS, h, foldS]

theorem cont_seg {t : Top} {ps : List Pol} {N : Nat} {f : XFr} {r : List XFr} {out : List Seg} {pos : Int} {s : Seg} {l : List Seg} (h : f.list = s :: l) :
    contS t ps N (f :: r) out pos = match oneS t ps (N - (opOf (f :: r)).length) (opOf (f :: r)) out pos s with
      | .ok o p => contS t ps N (⟨l, f.key, f.beg⟩ :: r) o p
      | .err e => .err e := by
  simp only [contS, h, foldS, opOf_list]
  cases oneS t ps (N - (opOf (f :: r)).length) (opOf (f :: r)) out pos s <;> rfl

theorem cont_push {t : Top} {ps : List Pol} {N : Nat} {f : XFr} {r : List XFr} {out : List Seg} {pos : Int} {s : Seg} {l pl : List Seg} {b : Nat} (h : f.list = s :: l) (h4 : s.kind = 4) (hp : pos ≠ -1)
    (hpl : polOf ps (pos, s.num) = some pl) (hno : (pos, s.num) ∉ opOf (f :: r)) (hN : (opOf (f :: r)).length < N) :
    contS t ps N (f :: r) out pos = contS t ps N (⟨pl, (pos, s.num), b⟩ :: ⟨l, f.key, f.beg⟩ :: r) out pos := by
  rw [cont_seg h]
  obtain ⟨n, hn⟩ : ∃ n, N - (opOf (f :: r)).length = n + 1 := ⟨N - (opOf (f :: r)).length - 1, by omega⟩
  have e : contS t ps N (⟨pl, (pos, s.num), b⟩ :: ⟨l, f.key, f.beg⟩ :: r) out pos = match foldS (oneS t ps n ((pos, s.num) :: opOf (f :: r))) out pos pl with
      | .ok o p => contS t ps N (⟨l, f.key, f.beg⟩ :: r) o p
      | .err e => .err e := by
    have eo : opOf (⟨pl, (pos, s.num), b⟩ :: ⟨l, f.key, f.beg⟩ :: r) = (pos, s.num) :: opOf (f :: r) := by rw [← opOf_list f l r]; rfl
    rw [contS, eo]
    have : N - ((pos, s.num) :: opOf (f :: r)).length = n := by simp only [List.length_cons]; omega
    rw [this]
  rw [e, hn]
  simp only [oneS, oneW]
  rw [if_neg (by omega), if_neg hp, hpl]
  simp only
  rw [if_neg hno]

theorem flat_append {t : Top} {d : Dn} : ∀ (a b : List Seg) (pos : Int) (x : List Seg × Int), flat t d pos a = some x → flat t d pos (a ++ b) = (flat t d x.2 b).map fun y => (x.1 ++ y.1, y.2) := by
  intro a
  induction a with
  | nil =>
    intro b pos x h
    simp only [flat, Option.some.injEq] at h
    subst h
    simp
  | cons s r ih =>
    intro b pos x h
    simp only [flat, List.cons_append] at h ⊢
    by_cases h4 : s.kind ≠ 4
    · simp only [if_pos h4] at h ⊢
      by_cases hp : (posS t pos s).1 ≠ 0
      · rw [if_pos hp] at h; cases h
      · simp only [if_neg hp] at h ⊢
        obtain ⟨y, hy, rfl⟩ := Option.map_eq_some_iff.1 h
        rw [ih b _ y hy, Option.map_map]
        rfl
    · simp only [if_neg h4] at h ⊢
      by_cases hp : pos = -1
      · rw [if_pos hp] at h; cases h
      · simp only [if_neg hp] at h ⊢
        cases hk : lkD (pos, s.num) d with
        | none => rw [hk] at h; cases h
        | some x0 =>
          rw [hk] at h
          simp only at h ⊢
          obtain ⟨y, hy, rfl⟩ := Option.map_eq_some_iff.1 h
          rw [ih b _ y hy, Option.map_map]
          simp [Function.comp_def, List.append_assoc]

theorem flat_more {t : Top} {d : Dn} {e : Key × (List Seg × Int)} (hf : lkD e.1 d = none) : ∀ (l : List Seg) (pos : Int) (x : List Seg × Int), flat t d pos l = some x → flat t (e :: d) pos l = some x := by
  intro l
  induction l with
  | nil => intro pos x h; exact h
  | cons s r ih =>
    intro pos x h
    simp only [flat] at h ⊢
    by_cases h4 : s.kind ≠ 4
    · simp only [if_pos h4] at h ⊢
      by_cases hp : (posS t pos s).1 ≠ 0
      · rw [if_pos hp] at h; cases h
      · simp only [if_neg hp] at h ⊢
        obtain ⟨y, hy, rfl⟩ := Option.map_eq_some_iff.1 h
        rw [ih _ y hy]; rfl
    · simp only [if_neg h4] at h ⊢
      by_cases hp : pos = -1
      · rw [if_pos hp] at h; cases h
      · simp only [if_neg hp] at h ⊢
        cases hk : lkD (pos, s.num) d with
        | none => rw [hk] at h; cases h
        | some x0 =>
          have hne : e.1 ≠ (pos, s.num) := fun hc => by rw [hc, hk] at hf; cases hf
          rw [hk] at h
          simp only [lkD, if_neg hne, hk] at h ⊢
          obtain ⟨y, hy, rfl⟩ := Option.map_eq_some_iff.1 h
          rw [ih _ y hy]; rfl

end Go.Ab

/-
  Chapter 21, part j: the invariant of the expander.
-/
namespace Go.Ab
open Go.Proofs

/-- what each policy that is being expanded has given so far; `pend`: the binding segment that leads to the list inside it -/
def Hist (t : Top) (ps : List Pol) (d : Dn) : List XFr → List Seg → Int → List Seg → Prop
  | f :: g :: r, kept, pos, pend => f.beg ≤ kept.length ∧ lkD f.key d = none ∧ f.key.1 ≠ -1 ∧
      (∃ pl used, polOf ps f.key = some pl ∧ pl = used ++ (pend ++ f.list) ∧ flat t d f.key.1 used = some (kept.drop f.beg, pos)) ∧
      Hist t ps d (g :: r) (kept.take f.beg) f.key.1 [⟨4, f.key.2⟩]
  | _, _, _, _ => True

structure XInv (t : Top) (ps : List Pol) (d : Dn) (fs : List XFr) (kept : List Seg) (pos : Int) : Prop where
  dn : okD t ps d
  hist : Hist t ps d fs kept pos []
  nd : (opOf fs).Nodup
  lim : kept.length ≤ 32

theorem hist_op {t : Top} {ps : List Pol} {d : Dn} : ∀ {fs : List XFr} {kept : List Seg} {pos : Int} {pend : List Seg}, Hist t ps d fs kept pos pend → ∀ k, k ∈ opOf fs → lkD k d = none ∧ ∃ pl, polOf ps k = some pl
  | [], _, _, _, _, k, hk => by cases hk
  | [_], _, _, _, _, k, hk => by cases hk
  | f :: g :: r, _, _, _, h, k, hk => by
    obtain ⟨h1, h2, h3, ⟨pl, u, h4, _⟩, h5⟩ := h
    rcases List.mem_cons.1 hk with rfl | hk
    · exact ⟨h2, pl, h4⟩
    · exact hist_op h5 k hk

theorem dn_pol {t : Top} {ps : List Pol} : ∀ {d : Dn}, okD t ps d → (d.map (·.1)).Nodup ∧ (∀ k, k ∈ d.map (·.1) → ∃ pl, polOf ps k = some pl) ∧ (∀ k, k ∈ d.map (·.1) → lkD k d ≠ none)
  | [], _ => by simp
  | e :: d, ⟨hd, hf, _, pl, hpl, _⟩ => by
    obtain ⟨h1, h2, h3⟩ := dn_pol hd
    refine ⟨?_, ?_, ?_⟩
    · rw [List.map_cons, List.nodup_cons]
      exact ⟨fun hc => h3 _ hc hf, h1⟩
    · intro k hk
      rcases List.mem_cons.1 hk with rfl | hk
      · exact ⟨pl, hpl⟩
      · exact h2 k hk
    · intro k hk
      simp only [lkD]
      split
      · simp
      · rename_i hne
        rcases List.mem_cons.1 hk with rfl | hk
        · exact absurd rfl hne
        · exact h3 k hk

theorem polOf_mem {ps : List Pol} {k : Key} {pl : List Seg} (h : polOf ps k = some pl) : k ∈ ps.map keyP ∧ ∃ p ∈ ps, keyP p = k ∧ p.list = pl := by
  obtain ⟨p, hp, rfl⟩ := Option.map_eq_some_iff.1 h
  have h1 := List.mem_of_find?_eq_some hp
  have h2 := List.find?_some hp
  simp only [decide_eq_true_eq] at h2
  exact ⟨List.mem_map.2 ⟨p, h1, h2⟩, p, h1, h2, rfl⟩

theorem nodup_sub {α : Type} [DecidableEq α] : ∀ {l m : List α}, l.Nodup → (∀ x, x ∈ l → x ∈ m) → l.length ≤ m.length
  | [], _, _, _ => by simp
  | a :: l, m, h, hs => by
    rw [List.nodup_cons] at h
    have ha := hs a (by simp)
    have := nodup_sub (l := l) (m := m.erase a) h.2 fun x hx => (List.mem_erase_of_ne (fun (hc : x = a) => h.1 (hc ▸ hx))).2 (hs x (by simp [hx]))
    rw [List.length_erase_of_mem ha] at this
    have := List.length_pos_of_mem ha
    simp only [List.length_cons]
    omega

/-- no more policies than there are -/
theorem XInv.count {t : Top} {ps : List Pol} {d : Dn} {fs : List XFr} {kept : List Seg} {pos : Int} (h : XInv t ps d fs kept pos) : (opOf fs).length + d.length ≤ ps.length := by
  have h1 := hist_op h.hist
  obtain ⟨h2, h3, h4⟩ := dn_pol h.dn
  have := nodup_sub (l := opOf fs ++ d.map (·.1)) (m := ps.map keyP) (by
    rw [List.nodup_append]
    refine ⟨h.nd, h2, fun a ha b hb hab => ?_⟩
    subst hab
    exact h4 _ hb (h1 _ ha).1) fun x hx => by
      rcases List.mem_append.1 hx with hx | hx
      · obtain ⟨pl, hp⟩ := (h1 x hx).2; exact (polOf_mem hp).1
      · obtain ⟨pl, hp⟩ := h3 x hx; exact (polOf_mem hp).1
  simpa using this

theorem XInv.count' {t : Top} {ps : List Pol} {d : Dn} {fs : List XFr} {kept : List Seg} {pos : Int} {k : Key} {pl : List Seg} (h : XInv t ps d fs kept pos) (hk : polOf ps k = some pl) (h1 : k ∉ opOf fs) (h2 : lkD k d = none) : (opOf fs).length + d.length < ps.length := by
  have g1 := hist_op h.hist
  obtain ⟨g2, g3, g4⟩ := dn_pol h.dn
  have := nodup_sub (l := k :: (opOf fs ++ d.map (·.1))) (m := ps.map keyP) (by
    rw [List.nodup_cons, List.nodup_append]
    refine ⟨fun hc => ?_, h.nd, g2, fun a ha b hb hab => ?_⟩
    · rcases List.mem_append.1 hc with hc | hc
      · exact h1 hc
      · exact g4 _ hc h2
    · subst hab
      exact g4 _ hb (g1 _ ha).1) fun x hx => by
      rcases List.mem_cons.1 hx with rfl | hx
      · exact (polOf_mem hk).1
      rcases List.mem_append.1 hx with hx | hx
      · obtain ⟨pl, hp⟩ := (g1 x hx).2; exact (polOf_mem hp).1
      · obtain ⟨pl, hp⟩ := g3 x hx; exact (polOf_mem hp).1
  simp only [List.length_cons, List.length_append, List.length_map] at this
  omega

theorem hist_more {t : Top} {ps : List Pol} {d : Dn} {e : Key × (List Seg × Int)} (hf : lkD e.1 d = none) : ∀ {fs : List XFr} {kept : List Seg} {pos : Int} {pend : List Seg}, Hist t ps d fs kept pos pend → e.1 ∉ opOf fs → Hist t ps (e :: d) fs kept pos pend
  | [], _, _, _, _, _ => trivial
  | [_], _, _, _, _, _ => trivial
  | f :: g :: r, _, _, _, h, hn => by
    obtain ⟨h1, h2, h3, ⟨pl, u, h4, h6, h7⟩, h5⟩ := h
    have hne : e.1 ≠ f.key := fun hc => hn (by rw [hc]; exact List.mem_cons_self)
    refine ⟨h1, ?_, h3, ⟨pl, u, h4, h6, flat_more hf _ _ _ h7⟩, hist_more hf h5 fun hc => hn (List.mem_cons_of_mem _ hc)⟩
    simp only [lkD, if_neg hne, h2]

/-- a segment of the innermost list is done -/
theorem hist_seg {t : Top} {ps : List Pol} {d : Dn} {f : XFr} {r : List XFr} {kept add : List Seg} {pos p : Int} {s : Seg} {l : List Seg} (h : Hist t ps d (f :: r) kept pos []) (hl : f.list = s :: l) (hs : flat t d pos [s] = some (add, p)) :
    Hist t ps d (⟨l, f.key, f.beg⟩ :: r) (kept ++ add) p [] := by
  cases r with
  | nil => trivial
  | cons g r =>
    obtain ⟨h1, h2, h3, ⟨pl, u, h4, h6, h7⟩, h5⟩ := h
    refine ⟨by simp only [List.length_append]; omega, h2, h3, ⟨pl, u ++ [s], h4, by rw [h6, hl]; simp, ?_⟩, by simp only; rw [List.take_append_of_le_length h1]; exact h5⟩
    rw [flat_append _ _ _ _ h7, hs, List.drop_append_of_le_length h1]
    rfl

theorem hist_push {t : Top} {ps : List Pol} {d : Dn} {f : XFr} {r : List XFr} {kept : List Seg} {pos : Int} {n : Int} {l pl : List Seg} (h : Hist t ps d (f :: r) kept pos []) (hl : f.list = ⟨4, n⟩ :: l) (hk : lkD (pos, n) d = none) (hp : pos ≠ -1) (hpl : polOf ps (pos, n) = some pl) :
    Hist t ps d (⟨pl, (pos, n), kept.length⟩ :: ⟨l, f.key, f.beg⟩ :: r) kept pos [] := by
  refine ⟨Nat.le_refl _, hk, hp, ⟨pl, [], hpl, rfl, by simp [flat]⟩, ?_⟩
  simp only [List.take_length]
  cases r with
  | nil => trivial
  | cons g r =>
    obtain ⟨h1, h2, h3, ⟨pl', u, h4, h6, h7⟩, h5⟩ := h
    exact ⟨h1, h2, h3, ⟨pl', u, h4, by rw [h6, hl]; simp, h7⟩, h5⟩

theorem hist_pop {t : Top} {ps : List Pol} {d : Dn} {f g : XFr} {r : List XFr} {kept : List Seg} {pos : Int} (h : Hist t ps d (f :: g :: r) kept pos []) (hn : f.key ∉ opOf (g :: r)) :
    Hist t ps ((f.key, (kept.drop f.beg, pos)) :: d) (g :: r) kept pos [] := by
  obtain ⟨h1, h2, h3, _, h5⟩ := h
  cases r with
  | nil => trivial
  | cons g' r =>
    have hh := hist_more (e := (f.key, (kept.drop f.beg, pos))) h2 h5 hn
    obtain ⟨k1, k2, k3, ⟨pl, u, k4, k6, k7⟩, k5⟩ := hh
    have hb : g.beg ≤ f.beg := by simp only [List.length_take] at k1; omega
    refine ⟨by omega, k2, k3, ⟨pl, u ++ [⟨4, f.key.2⟩], k4, by rw [k6]; simp, ?_⟩, ?_⟩
    · rw [flat_append _ _ _ _ k7]
      have : flat t ((f.key, (kept.drop f.beg, pos)) :: d) f.key.1 [⟨4, f.key.2⟩] = some (kept.drop f.beg, pos) := by
        simp [flat, h3, lkD]
      simp only [this, Option.map_some]
      congr 2
      rw [← List.drop_append_of_le_length k1, List.take_append_drop]
    · rw [List.take_take, Nat.min_eq_left hb] at k5
      exact k5

theorem pop_entry {t : Top} {ps : List Pol} {d : Dn} {f g : XFr} {r : List XFr} {kept : List Seg} {pos : Int} (hd : okD t ps d) (h : Hist t ps d (f :: g :: r) kept pos []) (hl : f.list = []) : okD t ps ((f.key, (kept.drop f.beg, pos)) :: d) := by
  obtain ⟨h1, h2, h3, ⟨pl, u, h4, h6, h7⟩, h5⟩ := h
  refine ⟨hd, h2, h3, pl, h4, ?_⟩
  rw [h6, hl, List.append_nil, List.append_nil]
  exact h7

end Go.Ab

/-
  Chapter 21, part k: the steps of the expander in plain terms.
-/
namespace Go.Ab
open Go.Proofs

def sumF (fs : List XFr) : Nat := (fs.map fun f => f.list.length + 1).sum
def muX (ps : List Pol) (d : Dn) (fs : List XFr) : Nat := (ps.length - ((opOf fs).length + d.length)) * 40 + sumF fs

theorem sumF_cons (f : XFr) (fs : List XFr) : sumF (f :: fs) = f.list.length + 1 + sumF fs := by simp [sumF]

section
variable {t : Top} {ps : List Pol} {d : Dn} {f : XFr} {r : List XFr} {kept : List Seg} {pos : Int}

/-- the innermost list ends, and it is that of a policy -/
theorem x_pop {g : XFr} (h : XInv t ps d (f :: g :: r) kept pos) (hl : f.list = []) :
    XInv t ps ((f.key, (kept.drop f.beg, pos)) :: d) (g :: r) kept pos ∧ contS t ps ps.length (f :: g :: r) kept pos = contS t ps ps.length (g :: r) kept pos ∧
    muX ps ((f.key, (kept.drop f.beg, pos)) :: d) (g :: r) + 1 ≤ muX ps d (f :: g :: r) := by
  have hnd : (f.key :: opOf (g :: r)).Nodup := h.nd
  rw [List.nodup_cons] at hnd
  refine ⟨⟨pop_entry h.dn h.hist hl, hist_pop h.hist hnd.1, hnd.2, h.lim⟩, cont_pop hl, ?_⟩
  have e : (opOf (f :: g :: r)).length = (opOf (g :: r)).length + 1 := rfl
  simp only [muX, e, List.length_cons, sumF_cons f]
  have : (opOf (g :: r)).length + 1 + d.length = (opOf (g :: r)).length + (d.length + 1) := by omega
  rw [this]
  omega

theorem x_end (hl : f.list = []) : contS t ps ps.length [f] kept pos = .ok kept pos := cont_pop hl

theorem mu_seg {s : Seg} {l : List Seg} (hl : f.list = s :: l) : muX ps d (⟨l, f.key, f.beg⟩ :: r) + 1 ≤ muX ps d (f :: r) := by
  simp only [muX, opOf_list, sumF_cons, hl, List.length_cons]; omega

theorem x_plain {s : Seg} {l : List Seg} (h : XInv t ps d (f :: r) kept pos) (hl : f.list = s :: l) (h4 : s.kind ≠ 4) :
    ((posS t pos s).1 ≠ 0 → contS t ps ps.length (f :: r) kept pos = .err (posS t pos s).1) ∧
    ((posS t pos s).1 = 0 → ¬ kept.length + 1 ≤ 32 → contS t ps ps.length (f :: r) kept pos = .err 6) ∧
    ((posS t pos s).1 = 0 → kept.length + 1 ≤ 32 → contS t ps ps.length (f :: r) kept pos = contS t ps ps.length (⟨l, f.key, f.beg⟩ :: r) (kept ++ [s]) (posS t pos s).2 ∧
      XInv t ps d (⟨l, f.key, f.beg⟩ :: r) (kept ++ [s]) (posS t pos s).2) := by
  rw [cont_seg hl, oneS_plain h4]
  refine ⟨fun h1 => by rw [if_pos h1], fun h1 h2 => ?_, fun h1 h2 => ⟨?_, ?_⟩⟩
  · rw [if_neg (by omega), if_neg h2]
  · rw [if_neg (by omega), if_pos h2]
  · refine ⟨h.dn, hist_seg h.hist hl ?_, by rw [opOf_list]; exact h.nd, by simp; omega⟩
    simp only [flat, if_pos h4]
    rw [if_neg (by omega)]
    rfl

theorem x_bind {s : Seg} {l : List Seg} (h : XInv t ps d (f :: r) kept pos) (hl : f.list = s :: l) (h4 : s.kind = 4) :
    (pos = -1 → contS t ps ps.length (f :: r) kept pos = .err 7) ∧
    (pos ≠ -1 → polOf ps (pos, s.num) = none → contS t ps ps.length (f :: r) kept pos = .err 8) ∧
    (∀ pl, pos ≠ -1 → polOf ps (pos, s.num) = some pl → (pos, s.num) ∈ opOf (f :: r) → contS t ps ps.length (f :: r) kept pos = .err 16) ∧
    (∀ pl x, pos ≠ -1 → polOf ps (pos, s.num) = some pl → lkD (pos, s.num) d = some x → ¬ kept.length + x.1.length ≤ 32 → contS t ps ps.length (f :: r) kept pos = .err 6) ∧
    (∀ pl x, pos ≠ -1 → polOf ps (pos, s.num) = some pl → lkD (pos, s.num) d = some x → kept.length + x.1.length ≤ 32 →
      contS t ps ps.length (f :: r) kept pos = contS t ps ps.length (⟨l, f.key, f.beg⟩ :: r) (kept ++ x.1) x.2 ∧ XInv t ps d (⟨l, f.key, f.beg⟩ :: r) (kept ++ x.1) x.2) ∧
    (∀ pl, pos ≠ -1 → polOf ps (pos, s.num) = some pl → (pos, s.num) ∉ opOf (f :: r) → lkD (pos, s.num) d = none → pl.length ≤ 32 →
      contS t ps ps.length (f :: r) kept pos = contS t ps ps.length (⟨pl, (pos, s.num), kept.length⟩ :: ⟨l, f.key, f.beg⟩ :: r) kept pos ∧
      XInv t ps d (⟨pl, (pos, s.num), kept.length⟩ :: ⟨l, f.key, f.beg⟩ :: r) kept pos ∧
      muX ps d (⟨pl, (pos, s.num), kept.length⟩ :: ⟨l, f.key, f.beg⟩ :: r) + 1 ≤ muX ps d (f :: r)) := by
  have hc := h.count
  have hop := fun k hk => (hist_op h.hist k hk).1
  have hone : ∀ x, lkD (pos, s.num) d = some x → oneS t ps (ps.length - (opOf (f :: r)).length) (opOf (f :: r)) kept pos s = if kept.length + x.1.length ≤ 32 then .ok (kept ++ x.1) x.2 else .err 6 := fun x hx =>
    entry_ok h.dn (pos, s.num) x hx _ _ hop (by omega) kept s h.lim h4 rfl
  have h4' : ¬ s.kind ≠ 4 := by omega
  refine ⟨fun h1 => ?_, fun h1 h2 => ?_, fun pl h1 h2 h3 => ?_, fun pl x h1 h2 h3 h5 => ?_, fun pl x h1 h2 h3 h5 => ⟨?_, ?_⟩, fun pl h1 h2 h3 h5 h6 => ⟨?_, ?_, ?_⟩⟩
  · rw [cont_seg hl]
    cases ps.length - (opOf (f :: r)).length <;> simp only [oneS, oneW, if_neg h4', if_pos h1]
  · rw [cont_seg hl]
    cases ps.length - (opOf (f :: r)).length <;> simp only [oneS, oneW, if_neg h4', if_neg h1, h2]
  · rw [cont_seg hl]
    cases ps.length - (opOf (f :: r)).length <;> simp only [oneS, oneW, if_neg h4', if_neg h1, h2, if_pos h3]
  · rw [cont_seg hl, hone x h3, if_neg h5]
  · rw [cont_seg hl, hone x h3, if_pos h5]
  · refine ⟨h.dn, hist_seg h.hist hl ?_, by rw [opOf_list]; exact h.nd, by simp; omega⟩
    simp only [flat, if_neg h4', if_neg h1, h3, Option.map_some, List.append_nil]
  · have hlt := h.count' h2 h3 h5
    exact cont_push hl h4 h1 h2 h3 (by omega)
  · have hs : s = ⟨4, s.num⟩ := by cases s; simp only at h4; rw [h4]
    refine ⟨h.dn, hist_push h.hist (by rw [hl]; rw [← hs]) h5 h1 h2, ?_, h.lim⟩
    have : opOf (⟨pl, (pos, s.num), kept.length⟩ :: ⟨l, f.key, f.beg⟩ :: r) = (pos, s.num) :: opOf (f :: r) := by rw [← opOf_list f l r]; rfl
    rw [this, List.nodup_cons]
    exact ⟨h3, h.nd⟩
  · have hlt := h.count' h2 h3 h5
    have : opOf (⟨pl, (pos, s.num), kept.length⟩ :: ⟨l, f.key, f.beg⟩ :: r) = (pos, s.num) :: opOf (f :: r) := by rw [← opOf_list f l r]; rfl
    simp only [muX, this, sumF_cons, hl, List.length_cons]
    omega

end

end Go.Ab

/-
  Chapter 21, part l: the expansion of any list (the walk).
-/
namespace Go.Ab
open Go.Proofs

def resE : Res → List Seg × Int
  | .ok o _ => (o, 0)
  | .err e => ([], e)
def expandS (t : Top) (ps : List Pol) (node : Int) (list : List Seg) : List Seg × Int :=
  if polsB t ps = true ∧ list.all (segB t) = true then
    (if 0 ≤ node ∧ node < t.nodes then resE (foldS (oneS t ps ps.length []) [] node list) else ([], 2))
  else ([], 1)

def polE (p : Pol) : (Int × Int) × DV := (keyP p, .s (segsD p.list))
def encF (f : XFr) : List D := [segsD f.list, iD f.key.1, iD f.key.2, iD f.beg]

theorem pfind_pol (k : Key) : ∀ (ps : List Pol) (i : Nat), (pfind k (ps.map polE) i).map (·.2) = (polOf ps k).map fun l => .s (segsD l)
  | [], _ => rfl
  | p :: r, i => by
    simp only [List.map_cons, pfind, polE, polOf, List.find?_cons]
    by_cases h : k = keyP p
    · simp [h]
    · have h' : ¬ keyP p = k := fun hc => h hc.symm
      simp only [if_neg h, h', decide_false]
      exact pfind_pol k r (i + 1)

def doneE (e : Key × (List Seg × Int)) : (Int × Int) × DV := (e.1, .g [segsD e.2.1, iD e.2.2])

theorem pfind_shift (k : Key) : ∀ (m : Asc) (i j : Nat), (pfind k m i).map (·.2) = (pfind k m j).map (·.2)
  | [], _, _ => rfl
  | e :: r, i, j => by
    simp only [pfind]
    by_cases h : k = e.1
    · simp [h]
    · simp only [if_neg h]; exact pfind_shift k r (i + 1) (j + 1)

theorem pfind_app (k : Key) (e : (Int × Int) × DV) : ∀ (m : Asc) (i : Nat), (pfind k (m ++ [e]) i).map (·.2) = match (pfind k m i).map (·.2) with
    | some v => some v
    | none => if k = e.1 then some e.2 else none
  | [], i => by simp only [List.nil_append, pfind]; by_cases h : k = e.1 <;> simp [h]
  | a :: r, i => by
    simp only [List.cons_append, pfind]
    by_cases h : k = a.1
    · simp [h]
    · simp only [if_neg h]; exact pfind_app k e r (i + 1)

/-- the map of the policies that were expanded -/
def DoneM (da : Asc) (d : Dn) : Prop := ∀ k, (pfind k da 0).map (·.2) = (lkD k d).map fun x => .g [segsD x.1, iD x.2]
theorem DoneM.nil : DoneM [] [] := fun _ => rfl
theorem DoneM.more {da : Asc} {d : Dn} {e : Key × (List Seg × Int)} (h : DoneM da d) (hf : lkD e.1 d = none) : DoneM (da ++ [doneE e]) (e :: d) := by
  intro k
  rw [pfind_app, h k]
  simp only [lkD, doneE]
  by_cases hk : k = e.1
  · subst hk; simp [hf]
  · have hk' : ¬ e.1 = k := fun hc => hk hc.symm
    simp only [if_neg hk']
    cases lkD k d <;> simp [hk]

/-- the map of the policies that are being expanded -/
structure OpenM (oa : Asc) (op : List Key) : Prop where
  nd : (oa.map (·.1)).Nodup
  mem : ∀ k, k ∈ oa.map (·.1) ↔ k ∈ op
  tr : ∀ e ∈ oa, e.2 = .s (.bool true)
theorem OpenM.nil : OpenM [] [] := ⟨by simp, by simp, by simp⟩
theorem OpenM.more {oa : Asc} {op : List Key} {k : Key} (h : OpenM oa op) (hk : k ∉ op) : OpenM (oa ++ [(k, .s (.bool true))]) (k :: op) := by
  refine ⟨?_, fun x => ?_, fun e he => ?_⟩
  · rw [List.map_append, List.nodup_append]
    refine ⟨h.nd, by simp, fun a ha b hb hab => ?_⟩
    simp only [List.map_cons, List.map_nil, List.mem_singleton] at hb
    subst hab hb
    exact hk ((h.mem _).1 ha)
  · rw [List.map_append, List.mem_append, h.mem]
    simp only [List.map_cons, List.map_nil, List.mem_cons, List.not_mem_nil, or_false]
    exact ⟨fun h => h.symm, fun h => h.symm⟩
  · rcases List.mem_append.1 he with he | he
    · exact h.tr e he
    · rw [List.mem_singleton.1 he]
theorem map_erase {α β : Type} (f : α → β) : ∀ (l : List α) (i : Nat), (l.eraseIdx i).map f = (l.map f).eraseIdx i
  | [], _ => rfl
  | _ :: _, 0 => rfl
  | a :: l, i + 1 => by simp only [List.eraseIdx_cons_succ, List.map_cons, map_erase f l i]
theorem erase_at {α : Type} [BEq α] [LawfulBEq α] : ∀ {l : List α} {i : Nat} {k : α}, l.Nodup → l[i]? = some k → l.eraseIdx i = l.erase k
  | [], _, _, _, h => by simp at h
  | a :: l, 0, k, _, h => by simp at h; subst h; simp
  | a :: l, i + 1, k, hn, h => by
    rw [List.nodup_cons] at hn
    simp only [List.getElem?_cons_succ] at h
    have hne : a ≠ k := fun hc => hn.1 (hc ▸ List.mem_of_getElem? h)
    rw [List.eraseIdx_cons_succ, erase_at hn.2 h, List.erase_cons_tail (by simpa using hne)]
theorem OpenM.less {oa : Asc} {op : List Key} {k : Key} {i : Nat} {v : DV} (h : OpenM oa (k :: op)) (hn : k ∉ op) (hp : oa[i]? = some (k, v)) : OpenM (oa.eraseIdx i) op := by
  have he : (oa.eraseIdx i).map (·.1) = (oa.map (·.1)).erase k := by
    rw [map_erase]
    exact erase_at h.nd (by rw [List.getElem?_map, hp]; rfl)
  refine ⟨?_, fun x => ?_, fun e he => h.tr e (List.mem_of_mem_eraseIdx he)⟩
  · rw [he]; exact h.nd.erase k
  · rw [he, h.nd.mem_erase_iff, h.mem, List.mem_cons]
    constructor
    · rintro ⟨h1, h2 | h2⟩
      · exact absurd h2 h1
      · exact h2
    · intro hx
      exact ⟨fun hc => hn (hc ▸ hx), .inr hx⟩

end Go.Ab

/-
  Chapter 21: what follows of the expansion's specification (no program in sight).
-/
namespace Go.Ab
open Go.Proofs

/-- what has been added has no binding segments, and it expands to itself -/
def Good (t : Top) (out : List Seg) (pos : Int) (o : List Seg) (p : Int) : Prop :=
  ∃ add, o = out ++ add ∧ o.length ≤ 32 ∧ (∀ s ∈ add, s.kind ≠ 4 ∧ segB t s = true) ∧ ∀ ps n op, foldS (oneS t ps n op) out pos add = .ok o p

theorem foldS_append {f : List Seg → Int → Seg → Res} : ∀ (a b : List Seg) (out : List Seg) (pos : Int), foldS f out pos (a ++ b) = match foldS f out pos a with
    | .ok o p => foldS f o p b
    | .err e => .err e
  | [], b, out, pos => rfl
  | s :: a, b, out, pos => by
    simp only [List.cons_append, foldS]
    cases f out pos s with
    | ok o p => exact foldS_append a b o p
    | err e => rfl

theorem Good.trans {t : Top} {out o1 o2 : List Seg} {pos p1 p2 : Int} (h1 : Good t out pos o1 p1) (h2 : Good t o1 p1 o2 p2) : Good t out pos o2 p2 := by
  obtain ⟨a1, e1, l1, k1, f1⟩ := h1
  obtain ⟨a2, e2, l2, k2, f2⟩ := h2
  refine ⟨a1 ++ a2, by rw [e2, e1, List.append_assoc], l2, fun s hs => ?_, fun ps n op => ?_⟩
  · rcases List.mem_append.1 hs with h | h
    · exact k1 s h
    · exact k2 s h
  · rw [foldS_append, f1 ps n op]
    exact f2 ps n op

theorem fold_good {t : Top} {f : List Seg → Int → Seg → Res} (hf : ∀ out pos s o p, out.length ≤ 32 → segB t s = true → f out pos s = .ok o p → Good t out pos o p) :
    ∀ (l : List Seg) (out : List Seg) (pos : Int) (o : List Seg) (p : Int), out.length ≤ 32 → (∀ s ∈ l, segB t s = true) → foldS f out pos l = .ok o p → Good t out pos o p := by
  intro l
  induction l with
  | nil =>
    intro out pos o p hl _ h
    simp only [foldS, Res.ok.injEq] at h
    obtain ⟨rfl, rfl⟩ := h
    exact ⟨[], by simp, hl, by simp, fun _ _ _ => rfl⟩
  | cons s r ih =>
    intro out pos o p hl hs h
    simp only [foldS] at h
    cases hx : f out pos s with
    | ok o1 p1 =>
      rw [hx] at h
      have g1 := hf out pos s o1 p1 hl (hs s (by simp)) hx
      have hl1 : o1.length ≤ 32 := by obtain ⟨_, _, h, _⟩ := g1; exact h
      exact g1.trans (ih o1 p1 o p hl1 (fun s h => hs s (by simp [h])) h)
    | err e => rw [hx] at h; cases h

theorem good_plain {t : Top} {ps : List Pol} {n : Nat} {op : List Key} {out o : List Seg} {pos p : Int} {s : Seg} (hs : segB t s = true) (h4 : s.kind ≠ 4) (h : oneS t ps n op out pos s = .ok o p) : Good t out pos o p := by
  have hh := h
  rw [oneS_plain h4] at h
  by_cases h1 : (posS t pos s).1 ≠ 0
  · rw [if_pos h1] at h; cases h
  · rw [if_neg h1] at h
    by_cases h2 : out.length + 1 ≤ 32
    · rw [if_pos h2] at h
      injection h with e1 e2
      subst e1 e2
      refine ⟨[s], rfl, by simp; omega, by simp [h4, hs], fun ps' n' op' => ?_⟩
      simp only [foldS]
      rw [oneS_plain h4, if_neg h1, if_pos h2]
    · rw [if_neg h2] at h; cases h

theorem one_good {t : Top} {ps : List Pol} (hpv : ∀ k pl, polOf ps k = some pl → ∀ s ∈ pl, segB t s = true) : ∀ (n : Nat) (op : List Key) (out : List Seg) (pos : Int) (s : Seg) (o : List Seg) (p : Int), out.length ≤ 32 → segB t s = true → oneS t ps n op out pos s = .ok o p → Good t out pos o p := by
  intro n
  induction n with
  | zero =>
    intro op out pos s o p hl hs h
    by_cases h4 : s.kind ≠ 4
    · exact good_plain hs h4 h
    · simp only [oneS, oneW, if_neg h4] at h
      by_cases h1 : pos = -1
      · rw [if_pos h1] at h; cases h
      · rw [if_neg h1] at h
        cases hp : polOf ps (pos, s.num) with
        | none => rw [hp] at h; cases h
        | some l =>
          rw [hp] at h
          simp only at h
          by_cases h2 : (pos, s.num) ∈ op
          · rw [if_pos h2] at h; cases h
          · rw [if_neg h2] at h
            exact fold_good (fun _ _ _ _ _ _ _ hx => by cases hx) l out pos o p hl (hpv _ _ hp) h
  | succ n ih =>
    intro op out pos s o p hl hs h
    by_cases h4 : s.kind ≠ 4
    · exact good_plain hs h4 h
    · simp only [oneS, oneW, if_neg h4] at h
      by_cases h1 : pos = -1
      · rw [if_pos h1] at h; cases h
      · rw [if_neg h1] at h
        cases hp : polOf ps (pos, s.num) with
        | none => rw [hp] at h; cases h
        | some l =>
          rw [hp] at h
          simp only at h
          by_cases h2 : (pos, s.num) ∈ op
          · rw [if_pos h2] at h; cases h
          · rw [if_neg h2] at h
            exact fold_good (fun out pos s o p g1 g2 g3 => ih _ out pos s o p g1 g2 g3) l out pos o p hl (hpv _ _ hp) h

/-- the same, behind a longer list -/
def ShR (out base : List Seg) (r1 r2 : Res) : Prop :=
  match r1 with
  | .ok o p => ∃ c, o = base ++ c ∧ r2 = if out.length + base.length + c.length ≤ 32 then .ok (out ++ o) p else .err 6
  | .err e => r2 = .err e ∨ r2 = .err 6

theorem fold_sh {f : List Seg → Int → Seg → Res} (hf : ∀ out base pos s, out.length + base.length ≤ 32 → ShR out base (f base pos s) (f (out ++ base) pos s)) :
    ∀ (l : List Seg) (out base : List Seg) (pos : Int), out.length + base.length ≤ 32 → ShR out base (foldS f base pos l) (foldS f (out ++ base) pos l) := by
  intro l
  induction l with
  | nil =>
    intro out base pos hl
    simp only [foldS, ShR]
    exact ⟨[], by simp, by simp only [List.length_nil, Nat.add_zero]; rw [if_pos hl]⟩
  | cons s r ih =>
    intro out base pos hl
    simp only [foldS]
    have h1 := hf out base pos s hl
    cases hx : f base pos s with
    | err e =>
      rw [hx] at h1
      simp only [ShR] at h1 ⊢
      rcases h1 with h | h
      · rw [h]; exact .inl rfl
      · rw [h]; exact .inr rfl
    | ok o p =>
      rw [hx] at h1
      simp only [ShR] at h1
      obtain ⟨c, rfl, h2⟩ := h1
      simp only
      by_cases hc : out.length + base.length + c.length ≤ 32
      · rw [if_pos hc] at h2
        rw [h2]
        simp only
        have h3 := ih out (base ++ c) p (by simp only [List.length_append]; omega)
        cases hy : foldS f (base ++ c) p r with
        | err e =>
          rw [hy] at h3
          exact h3
        | ok o2 p2 =>
          rw [hy] at h3
          obtain ⟨c2, rfl, h4⟩ := h3
          refine ⟨c ++ c2, by simp, ?_⟩
          rw [h4]
          simp only [List.length_append, Nat.add_assoc]
      · rw [if_neg hc] at h2
        rw [h2]
        simp only
        cases hy : foldS f (base ++ c) p r with
        | err e => exact .inr rfl
        | ok o2 p2 =>
          have h5 := ih [] (base ++ c) p
          by_cases hb : (base ++ c).length ≤ 32
          · have h6 := h5 (by simpa using hb)
            rw [hy] at h6
            obtain ⟨c2, rfl, _⟩ := h6
            refine ⟨c ++ c2, by simp, ?_⟩
            rw [if_neg (by simp only [List.length_append]; omega)]
          · exfalso
            have h7 := hf [] base pos s (by simp; omega)
            simp only [List.nil_append, hx, ShR] at h7
            obtain ⟨c', e', h8⟩ := h7
            have : c' = c := (List.append_cancel_left e').symm
            subst this
            split at h8
            · rename_i h9
              simp only [List.length_append, List.length_nil] at h9 hb
              omega
            · cases h8

theorem one_sh {t : Top} {ps : List Pol} : ∀ (n : Nat) (op : List Key) (out base : List Seg) (pos : Int) (s : Seg), out.length + base.length ≤ 32 → ShR out base (oneS t ps n op base pos s) (oneS t ps n op (out ++ base) pos s) := by
  have plain : ∀ (n : Nat) (op : List Key) (out base : List Seg) (pos : Int) (s : Seg), out.length + base.length ≤ 32 → s.kind ≠ 4 → ShR out base (oneS t ps n op base pos s) (oneS t ps n op (out ++ base) pos s) := by
    intro n op out base pos s hl h4
    rw [oneS_plain h4, oneS_plain h4]
    by_cases h1 : (posS t pos s).1 ≠ 0
    · rw [if_pos h1, if_pos h1]; exact .inl rfl
    · rw [if_neg h1, if_neg h1]
      by_cases h2 : base.length + 1 ≤ 32
      · rw [if_pos h2]
        refine ⟨[s], rfl, ?_⟩
        simp only [List.length_append, List.length_cons, List.length_nil, List.append_assoc]
      · rw [if_neg h2]
        by_cases h3 : (out ++ base).length + 1 ≤ 32
        · simp only [List.length_append] at h3; omega
        · rw [if_neg h3]; exact .inl rfl
  intro n
  induction n with
  | zero =>
    intro op out base pos s hl
    by_cases h4 : s.kind ≠ 4
    · exact plain 0 op out base pos s hl h4
    · simp only [oneS, oneW, if_neg h4]
      by_cases h1 : pos = -1
      · rw [if_pos h1, if_pos h1]; exact .inl rfl
      · rw [if_neg h1, if_neg h1]
        cases hp : polOf ps (pos, s.num) with
        | none => exact .inl rfl
        | some l =>
          simp only
          by_cases h2 : (pos, s.num) ∈ op
          · rw [if_pos h2, if_pos h2]; exact .inl rfl
          · rw [if_neg h2, if_neg h2]
            exact fold_sh (f := fun _ _ _ => .err 0) (fun _ _ _ _ _ => Or.inl rfl) l out base pos hl
  | succ n ih =>
    intro op out base pos s hl
    by_cases h4 : s.kind ≠ 4
    · exact plain (n + 1) op out base pos s hl h4
    · simp only [oneS, oneW, if_neg h4]
      by_cases h1 : pos = -1
      · rw [if_pos h1, if_pos h1]; exact .inl rfl
      · rw [if_neg h1, if_neg h1]
        cases hp : polOf ps (pos, s.num) with
        | none => exact .inl rfl
        | some l =>
          simp only
          by_cases h2 : (pos, s.num) ∈ op
          · rw [if_pos h2, if_pos h2]; exact .inl rfl
          · rw [if_neg h2, if_neg h2]
            exact fold_sh (fun out base pos s h => ih _ out base pos s h) l out base pos hl

/-- the errors -/
def ErrX (e : Int) : Prop := e = 4 ∨ e = 6 ∨ e = 7 ∨ e = 8 ∨ e = 16

theorem fold_err {f : List Seg → Int → Seg → Res} (hf : ∀ out pos s e, f out pos s = .err e → ErrX e) : ∀ (l : List Seg) (out : List Seg) (pos : Int) (e : Int), foldS f out pos l = .err e → ErrX e := by
  intro l
  induction l with
  | nil => intro out pos e h; cases h
  | cons s r ih =>
    intro out pos e h
    simp only [foldS] at h
    cases hx : f out pos s with
    | ok o p => rw [hx] at h; exact ih o p e h
    | err e' => rw [hx] at h; cases h; exact hf _ _ _ _ hx

theorem err_plain {t : Top} {ps : List Pol} {n : Nat} {op : List Key} {out : List Seg} {pos e : Int} {s : Seg} (h4 : s.kind ≠ 4) (h : oneS t ps n op out pos s = .err e) : ErrX e := by
  rw [oneS_plain h4] at h
  by_cases h1 : (posS t pos s).1 ≠ 0
  · rw [if_pos h1] at h
    injection h with h
    subst h
    unfold posS at h1 ⊢
    split at h1
    · simp at h1
    · rename_i k1
      rw [if_neg k1]
      split at h1
      · rename_i k2
        rw [if_pos k2]
        split at h1
        · rename_i k3; rw [if_pos k3]; exact .inr (.inr (.inl rfl))
        · rename_i k3
          rw [if_neg k3]
          split at h1
          · simp at h1
          · rename_i k5; rw [if_neg k5]; exact .inl rfl
      · simp at h1
  · rw [if_neg h1] at h
    by_cases h2 : out.length + 1 ≤ 32
    · rw [if_pos h2] at h; cases h
    · rw [if_neg h2] at h; cases h; exact .inr (.inl rfl)

theorem one_err {t : Top} {ps : List Pol} : ∀ (n : Nat) (op : List Key), op.Nodup → (∀ k ∈ op, k ∈ ps.map keyP) → ps.length ≤ n + op.length → ∀ (out : List Seg) (pos : Int) (s : Seg) (e : Int), oneS t ps n op out pos s = .err e → ErrX e := by
  intro n
  induction n with
  | zero =>
    intro op hnd hin hle out pos s e h
    by_cases h4 : s.kind ≠ 4
    · exact err_plain h4 h
    · simp only [oneS, oneW, if_neg h4] at h
      by_cases h1 : pos = -1
      · rw [if_pos h1] at h; cases h; exact .inr (.inr (.inl rfl))
      · rw [if_neg h1] at h
        cases hp : polOf ps (pos, s.num) with
        | none => rw [hp] at h; cases h; exact .inr (.inr (.inr (.inl rfl)))
        | some l =>
          rw [hp] at h
          simp only at h
          by_cases h2 : (pos, s.num) ∈ op
          · rw [if_pos h2] at h; cases h; exact .inr (.inr (.inr (.inr rfl)))
          · exfalso
            have := nodup_sub (l := (pos, s.num) :: op) (m := ps.map keyP) (List.nodup_cons.2 ⟨h2, hnd⟩) fun x hx => by
              rcases List.mem_cons.1 hx with rfl | hx
              · exact (polOf_mem hp).1
              · exact hin x hx
            simp only [List.length_cons, List.length_map] at this
            omega
  | succ n ih =>
    intro op hnd hin hle out pos s e h
    by_cases h4 : s.kind ≠ 4
    · exact err_plain h4 h
    · simp only [oneS, oneW, if_neg h4] at h
      by_cases h1 : pos = -1
      · rw [if_pos h1] at h; cases h; exact .inr (.inr (.inl rfl))
      · rw [if_neg h1] at h
        cases hp : polOf ps (pos, s.num) with
        | none => rw [hp] at h; cases h; exact .inr (.inr (.inr (.inl rfl)))
        | some l =>
          rw [hp] at h
          simp only at h
          by_cases h2 : (pos, s.num) ∈ op
          · rw [if_pos h2] at h; cases h; exact .inr (.inr (.inr (.inr rfl)))
          · rw [if_neg h2] at h
            refine fold_err (fun out pos s e hx => ih _ (List.nodup_cons.2 ⟨h2, hnd⟩) (fun x hx => ?_) (by simp only [List.length_cons]; omega) out pos s e hx) l out pos e h
            rcases List.mem_cons.1 hx with rfl | hx
            · exact (polOf_mem hp).1
            · exact hin x hx

theorem expand_in {t : Top} {ps : List Pol} {node : Int} {list : List Seg} (h1 : polsB t ps = true) (h2 : list.all (segB t) = true) (h3 : 0 ≤ node ∧ node < t.nodes) : expandS t ps node list = resE (foldS (oneS t ps ps.length []) [] node list) := by
  unfold expandS; rw [if_pos ⟨h1, h2⟩, if_pos h3]

theorem pol_segs {t : Top} {ps : List Pol} (h : polsB t ps = true) : ∀ k pl, polOf ps k = some pl → ∀ s ∈ pl, segB t s = true := fun k pl hk => by
  obtain ⟨_, p, hp, _, rfl⟩ := polOf_mem hk
  exact List.all_eq_true.1 (polB_spec.1 ((polsB_spec.1 h).2.1 p hp)).2.2.2

theorem expand_again {t : Top} {ps : List Pol} {node : Int} {list : List Seg} :
    ((expandS t ps node list).2 ≠ 0 → (expandS t ps node list).1 = []) ∧
    ((expandS t ps node list).2 = 0 → (expandS t ps node list).1.length ≤ 32 ∧ (∀ s ∈ (expandS t ps node list).1, s.kind ≠ 4) ∧
      expandS t ps node (expandS t ps node list).1 = ((expandS t ps node list).1, 0) ∧ expandS t [] node (expandS t ps node list).1 = ((expandS t ps node list).1, 0)) := by
  by_cases h1 : polsB t ps = true ∧ list.all (segB t) = true
  · by_cases h3 : 0 ≤ node ∧ node < t.nodes
    · rw [expand_in h1.1 h1.2 h3]
      cases hx : foldS (oneS t ps ps.length []) [] node list with
      | err e =>
        have he := fold_err (one_err (t := t) (ps := ps) ps.length [] (by simp) (by simp) (by simp)) list [] node e hx
        refine ⟨fun _ => rfl, fun h => ?_⟩
        simp only [resE] at h
        unfold ErrX at he
        omega
      | ok o p =>
        refine ⟨fun h => absurd rfl h, fun _ => ?_⟩
        obtain ⟨add, e1, e2, e3, e4⟩ := fold_good (one_good (pol_segs h1.1) ps.length []) list [] node o p (by simp) (List.all_eq_true.1 h1.2) hx
        simp only [List.nil_append] at e1
        subst e1
        have hv : o.all (segB t) = true := List.all_eq_true.2 fun s hs => (e3 s hs).2
        have h0 : polsB t [] = true := polsB_spec.2 ⟨(polsB_spec.1 h1.1).1, by simp, by simp⟩
        simp only [resE]
        refine ⟨e2, fun s hs => (e3 s hs).1, ?_, ?_⟩
        · rw [expand_in h1.1 hv h3, e4 ps ps.length []]; rfl
        · rw [expand_in h0 hv h3, e4 [] ([] : List Pol).length []]; rfl
    · have : expandS t ps node list = ([], 2) := by unfold expandS; rw [if_pos h1, if_neg h3]
      rw [this]
      exact ⟨fun _ => rfl, fun h => absurd h (by decide)⟩
  · have : expandS t ps node list = ([], 1) := by unfold expandS; rw [if_neg h1]
    rw [this]
    exact ⟨fun _ => rfl, fun h => absurd h (by decide)⟩

theorem fold_last {t : Top} {ps : List Pol} {n : Nat} {op : List Key} {out o : List Seg} {pos p : Int} {l : List Seg} {s : Seg} (h1 : s.kind = 1) (h : foldS (oneS t ps n op) out pos (l ++ [s]) = .ok o p) : p = s.num := by
  rw [foldS_append] at h
  cases hx : foldS (oneS t ps n op) out pos l with
  | err e => rw [hx] at h; cases h
  | ok o1 p1 =>
    rw [hx] at h
    simp only [foldS] at h
    rw [oneS_plain (by omega)] at h
    have hp : posS t p1 s = (0, s.num) := by simp [posS, h1]
    rw [hp] at h
    simp only [ne_eq, not_true_eq_false, if_false] at h
    by_cases h2 : o1.length + 1 ≤ 32
    · rw [if_pos h2] at h
      injection h with _ h
      exact h.symm
    · rw [if_neg h2] at h; cases h

theorem expand_parts {t : Top} {ps : List Pol} {node : Int} {list : List Seg} {at' : Nat} {s : Seg} (hs : list[at']? = some s) (hk : s.kind = 1) :
    let x := expandS t ps node list
    let y := expandS t ps node (list.take (at' + 1))
    let z := expandS t ps s.num (list.drop (at' + 1))
    (x.2 = 1 ∨ x.2 = 2 ∨ y.2 ≠ 0 → x.2 = 1 ∨ x.2 = y.2) ∧ (¬ (x.2 = 1 ∨ x.2 = 2 ∨ y.2 ≠ 0) → y.1.length ≤ 32 ∧ z.1.length ≤ 32 ∧ (z.2 ≠ 0 ∨ y.1.length + z.1.length > 32 → x.2 = z.2 ∨ x.2 = 6) ∧
      (¬ (z.2 ≠ 0 ∨ y.1.length + z.1.length > 32) → x.2 = 0 ∧ x.1 = y.1 ++ z.1)) := by
  intro x y z
  by_cases h1 : polsB t ps = true ∧ list.all (segB t) = true
  · have hall := List.all_eq_true.1 h1.2
    have ht : (list.take (at' + 1)).all (segB t) = true := List.all_eq_true.2 fun s hs => hall s (List.mem_of_mem_take hs)
    have hd : (list.drop (at' + 1)).all (segB t) = true := List.all_eq_true.2 fun s hs => hall s (List.mem_of_mem_drop hs)
    by_cases h3 : 0 ≤ node ∧ node < t.nodes
    · have hsr : 0 ≤ s.num ∧ s.num < t.nodes := by
        have := segB_spec.1 (hall s (List.mem_of_getElem? hs))
        omega
      have hx : x = resE (foldS (oneS t ps ps.length []) [] node list) := expand_in h1.1 h1.2 h3
      have hy : y = resE (foldS (oneS t ps ps.length []) [] node (list.take (at' + 1))) := expand_in h1.1 ht h3
      have hz : z = resE (foldS (oneS t ps ps.length []) [] s.num (list.drop (at' + 1))) := expand_in h1.1 hd hsr
      have hl : list = list.take (at' + 1) ++ list.drop (at' + 1) := (List.take_append_drop _ _).symm
      have hx' : x = resE (foldS (oneS t ps ps.length []) [] node (list.take (at' + 1) ++ list.drop (at' + 1))) := by rw [← hl]; exact hx
      rw [foldS_append] at hx'
      cases he : foldS (oneS t ps ps.length []) [] node (list.take (at' + 1)) with
      | err e =>
        rw [he] at hx' hy
        have hex := fold_err (one_err (t := t) (ps := ps) ps.length [] (by simp) (by simp) (by simp)) _ [] node e he
        rw [hx', hy]
        refine ⟨fun _ => .inr rfl, fun h => absurd (.inr (.inr ?_)) h⟩
        unfold ErrX at hex
        show e ≠ 0
        omega
      | ok o p =>
        rw [he] at hx' hy
        have hp : p = s.num := by
          rw [take_succ_get hs] at he
          exact fold_last hk he
        subst hp
        obtain ⟨_, _, hol, _⟩ := fold_good (one_good (pol_segs h1.1) ps.length []) _ [] node o s.num (by simp) (List.all_eq_true.1 ht) he
        have hsh := fold_sh (one_sh (t := t) (ps := ps) ps.length []) (list.drop (at' + 1)) o [] s.num (by simpa using hol)
        rw [List.append_nil] at hsh
        simp only at hx'
        have hx2 : ¬ (x.2 = 1 ∨ x.2 = 2) := by
          rw [hx']
          cases hf : foldS (oneS t ps ps.length []) o s.num (list.drop (at' + 1)) with
          | ok o2 p2 => simp [resE]
          | err e =>
            have hex := fold_err (one_err (t := t) (ps := ps) ps.length [] (by simp) (by simp) (by simp)) _ o s.num e hf
            simp only [resE]
            unfold ErrX at hex
            omega
        have hy1 : y = (o, 0) := hy
        rw [hy1]
        refine ⟨fun h => absurd h (fun h' => by rcases h' with h' | h' | h'; exact hx2 (.inl h'); exact hx2 (.inr h'); exact h' rfl), fun _ => ⟨hol, ?_⟩⟩
        cases hg : foldS (oneS t ps ps.length []) [] s.num (list.drop (at' + 1)) with
        | err e =>
          rw [hg] at hsh hz
          have hex := fold_err (one_err (t := t) (ps := ps) ps.length [] (by simp) (by simp) (by simp)) _ [] s.num e hg
          have hz1 : z = ([], e) := hz
          rw [hz1]
          refine ⟨by simp, fun _ => ?_, fun h => absurd (.inl ?_) h⟩
          · simp only [ShR] at hsh
            rcases hsh with h | h
            · rw [hx', h]; exact .inl rfl
            · rw [hx', h]; exact .inr rfl
          · unfold ErrX at hex; simp only; omega
        | ok c p2 =>
          rw [hg] at hsh hz
          have hz1 : z = (c, 0) := hz
          obtain ⟨_, _, hcl, _⟩ := fold_good (one_good (pol_segs h1.1) ps.length []) _ [] s.num c p2 (by simp) (List.all_eq_true.1 hd) hg
          rw [hz1]
          simp only [ShR, List.nil_append, List.length_nil, Nat.add_zero] at hsh
          obtain ⟨c', rfl, hr⟩ := hsh
          refine ⟨hcl, fun h => ?_, fun h => ?_⟩
          · rw [if_neg (by simp only [ne_eq, not_true_eq_false, false_or] at h; omega)] at hr
            rw [hx', hr]; exact .inr rfl
          · rw [if_pos (by simp only [ne_eq, not_true_eq_false, false_or] at h; omega)] at hr
            rw [hx', hr]; exact ⟨rfl, rfl⟩
    · have hx : x = ([], 2) := by show expandS t ps node list = _; unfold expandS; rw [if_pos h1, if_neg h3]
      have hy : y = ([], 2) := by show expandS t ps node _ = _; unfold expandS; rw [if_pos ⟨h1.1, ht⟩, if_neg h3]
      rw [hx, hy]
      exact ⟨fun _ => .inr rfl, fun h => absurd (.inr (.inl rfl)) h⟩
  · have hx : x = ([], 1) := by show expandS t ps node list = _; unfold expandS; rw [if_neg h1]
    rw [hx]
    exact ⟨fun _ => .inl rfl, fun h => absurd (.inl rfl) h⟩

end Go.Ab

/-
  Chapter 21: the document's expansion (recursive).
-/
namespace Go.Ab
open Go.Proofs

abbrev stA (s : List Seg) (a : Int) : AV := .agg [.d (segsD s), .d (iD a)]

theorem keep_ok (P : Program) (hP : P = Try.prog) (s : List Seg) (a : Int) (x : Seg) (b : Int) : Ret P n_ref21_state_keep [stA s a, segA x, iA b] (if 32 ≤ s.length then .tup [stA s a, iA 6] else .tup [stA (s ++ [x]) b, iA 0]) := by
  refine ret_start (hP ▸ mixed) (hP ▸ fn_ref21_state_keep) (hP ▸ c_ref21_state_keep) (Nat.le_of_ble_eq_true rfl) fun Λ Λo K hK => ?_
  clear hP
  have k1 : 32 ≤ s.length → K (.tup [stA s a, iA 6]) := fun h => by rw [if_pos h] at hK; exact hK
  have k2 : ¬ 32 ≤ s.length → K (.tup [stA (s ++ [x]) b, iA 0]) := fun h => by rw [if_neg h] at hK; exact hK
  clear hK
  obtain ⟨xk, xn⟩ := x
  simp only [stA, segsD, segA, List.map_append, List.map_cons, List.map_nil, encSeg] at *
  generalize slh : List.map encSeg s = sl at *
  have sln : Λ sl = s.length := by rw [Λo, ← slh]; simp
  have sll : sl.length = s.length := by rw [← slh]; simp
  conv => cbv
  repeat' first | (intro (_ : Unit); first | omega | rfl | exact ⟨rfl, by omega⟩ | ((first | (rw [nI_eq]; (repeat rw [nI_eq])) | dsimp only); omega) | ((repeat' first | rfl | omega | refine And.intro ?_ ?_ | (simp only [nI_eq]; omega) | (simp only [List.length_cons, List.length_nil]; omega) | exact Nat.le_of_ble_eq_true rfl); done)) | exact trivial | refine And.intro ?_ ?_ | (intro hc; exact absurd hc (by decide)) | (intro hc; exfalso; omega) | (intro hc; (first | rw [wrap_small (by omega) (by omega)] at hc | rw [nI_eq] at hc | skip); try (conv => cbv))
  · exact k1 (by omega)
  · rename_i n1 r1 es1 hn1 hr1 hes1 n2 r2 es2 hn2 hr2 hes2 rs
    have e1 : es1 = sl := by rw [hes1]; simp
    simp only [List.length_cons, List.length_nil] at hn2
    have e2 : rs = sl ++ [[iD xk, iD xn]] := by
      rw [hc, hes2, e1, List.drop_zero, List.drop_zero, List.take_of_length_le (l := sl) (by omega), List.take_of_length_le]
      simp only [List.length_append, List.length_cons, List.length_nil]
      omega
    rw [e2]
    exact k2 (by omega)

def codeR : Res → Int
  | .ok _ _ => 0
  | .err e => e

structure OpenI (ps : List Pol) (op : List Key) (opn : List Int) : Prop where
  nd : op.Nodup
  sub : ∀ k ∈ op, k ∈ ps.map keyP
  mem : ∀ (i : Nat) (p : Pol), ps[i]? = some p → ((i : Int) ∈ opn ↔ keyP p ∈ op)
  len : opn.length ≤ op.length

/-- what the document's functions answer, in terms of the specification; the state behind an error is some state -/
def OneC (P : Program) (t : Top) (ps : List Pol) (n : Nat) (op : List Key) (opn : List Int) : Prop := ∀ (s : List Seg) (a : Int) (x : Seg), s.length ≤ 32 → segB t x = true → -1 ≤ a →
  ∃ st : List Seg × Int, Ret P n_ref21_one [topA t, polsA ps, stA s a, segA x, intsA opn] (.tup [stA st.1 st.2, iA (codeR (oneS t ps n op s a x))]) ∧
    (∀ o p, oneS t ps n op s a x = .ok o p → st = (o, p) ∧ o.length ≤ 32 ∧ -1 ≤ p) ∧ (∀ e, oneS t ps n op s a x = .err e → e ≠ 0)

def AllC (P : Program) (t : Top) (ps : List Pol) (n : Nat) (op : List Key) (opn : List Int) : Prop := ∀ (s : List Seg) (a : Int) (l : List Seg), s.length ≤ 32 → (∀ x ∈ l, segB t x = true) → -1 ≤ a →
  ∃ st : List Seg × Int, Ret P n_ref21_all [topA t, polsA ps, stA s a, segsA l, intsA opn] (.tup [stA st.1 st.2, iA (codeR (foldS (oneS t ps n op) s a l))]) ∧
    (∀ o p, foldS (oneS t ps n op) s a l = .ok o p → st = (o, p) ∧ o.length ≤ 32 ∧ -1 ≤ p) ∧ (∀ e, foldS (oneS t ps n op) s a l = .err e → e ≠ 0)

def foldG (f : List Seg → Int → Seg → Res) (g : List Seg → Int → Seg → List Seg × Int) : List Seg → Int → List Seg → List Seg × Int
  | s, a, [] => (s, a)
  | s, a, x :: r => match f s a x with
    | .ok o p => foldG f g o p r
    | .err _ => g s a x

theorem foldG_facts {f : List Seg → Int → Seg → Res} {g : List Seg → Int → Seg → List Seg × Int} {V : Seg → Prop} (hf : ∀ s a x, s.length ≤ 32 → V x → -1 ≤ a → (∀ o p, f s a x = .ok o p → g s a x = (o, p) ∧ o.length ≤ 32 ∧ -1 ≤ p) ∧ ∀ e, f s a x = .err e → e ≠ 0) :
    ∀ (l : List Seg) (s : List Seg) (a : Int), s.length ≤ 32 → (∀ x ∈ l, V x) → -1 ≤ a → (∀ o p, foldS f s a l = .ok o p → foldG f g s a l = (o, p) ∧ o.length ≤ 32 ∧ -1 ≤ p) ∧ ∀ e, foldS f s a l = .err e → e ≠ 0 := by
  intro l
  induction l with
  | nil =>
    intro s a hs _ ha
    refine ⟨fun o p h => ?_, fun e h => by cases h⟩
    simp only [foldS, Res.ok.injEq] at h
    obtain ⟨rfl, rfl⟩ := h
    exact ⟨rfl, hs, ha⟩
  | cons x r ih =>
    intro s a hs hl ha
    obtain ⟨h1, h2⟩ := hf s a x hs (hl x (by simp)) ha
    simp only [foldS, foldG]
    cases hx : f s a x with
    | ok o p =>
      obtain ⟨_, g2, g3⟩ := h1 o p hx
      exact ih o p g2 (fun y hy => hl y (by simp [hy])) g3
    | err e => exact ⟨(fun o p h => by cases h), fun e' h => by cases h; exact h2 e hx⟩

set_option maxHeartbeats 2000000 in
theorem all_ok (P : Program) (hP : P = Try.prog) (t : Top) (ps : List Pol) (n : Nat) (op : List Key) (opn : List Int) (hone : OneC P t ps n op opn) : AllC P t ps n op opn := by
  intro s a l hs hl ha
  have hg0 : ∀ (s : List Seg) (a : Int) (x : Seg), ∃ st : List Seg × Int, s.length ≤ 32 → segB t x = true → -1 ≤ a → Ret P n_ref21_one [topA t, polsA ps, stA s a, segA x, intsA opn] (.tup [stA st.1 st.2, iA (codeR (oneS t ps n op s a x))]) ∧
      (∀ o p, oneS t ps n op s a x = .ok o p → st = (o, p) ∧ o.length ≤ 32 ∧ -1 ≤ p) ∧ (∀ e, oneS t ps n op s a x = .err e → e ≠ 0) := fun s a x => by
    by_cases h : s.length ≤ 32 ∧ segB t x = true ∧ -1 ≤ a
    · obtain ⟨st, h1⟩ := hone s a x h.1 h.2.1 h.2.2; exact ⟨st, fun _ _ _ => h1⟩
    · exact ⟨([], 0), fun a b c => absurd ⟨a, b, c⟩ h⟩
  obtain ⟨g, hg⟩ : ∃ g : List Seg → Int → Seg → List Seg × Int, ∀ s a x, s.length ≤ 32 → segB t x = true → -1 ≤ a → Ret P n_ref21_one [topA t, polsA ps, stA s a, segA x, intsA opn] (.tup [stA (g s a x).1 (g s a x).2, iA (codeR (oneS t ps n op s a x))]) ∧
      (∀ o p, oneS t ps n op s a x = .ok o p → g s a x = (o, p) ∧ o.length ≤ 32 ∧ -1 ≤ p) ∧ (∀ e, oneS t ps n op s a x = .err e → e ≠ 0) :=
    ⟨fun s a x => Classical.choose (hg0 s a x), fun s a x => Classical.choose_spec (hg0 s a x)⟩
  clear hg0 hone
  generalize oneS t ps n op = f at *
  obtain ⟨ff1, ff2⟩ := foldG_facts (V := fun x => segB t x = true) (fun s a x h1 h2 h3 => (hg s a x h1 h2 h3).2) l s a hs hl ha
  refine ⟨foldG f g s a l, ?_, ff1, ff2⟩
  clear ff1 ff2
  refine ret_start (hP ▸ mixed) (hP ▸ fn_ref21_all) (hP ▸ c_ref21_all) (Nat.le_of_ble_eq_true rfl) fun Λ Λo K hK => ?_
  clear hP
  generalize hgr : foldG f g s a l = gr at *
  generalize hfr : foldS f s a l = fr at *
  simp only [polsA, polsD, stA, segsA, segsD, intsA, intsD] at *
  generalize List.map encPol ps = pl at *
  generalize ll2h : List.map encSeg l = ll2 at *
  have ll2n : Λ ll2 = l.length := by rw [Λo, ← ll2h]; simp
  generalize List.map encI opn = ol2 at *
  generalize hssl : List.map encSeg s = sl at *
  obtain ⟨nodes, ov, links⟩ := t
  simp only [topA, boolsD, linksD] at *
  generalize hol : ov.map encB = ol at *
  generalize hll : links.map encLk = ll at *
  have hlo : Λ ol = ov.length := by rw [Λo, ← hol]; simp
  have hls : Λ ll = links.length := by rw [Λo, ← hll]; simp
  conv => cbv
  refine loop_up l.length (fun (q : Int × List Seg × Int) => [(1, .c (.d (.list false 3 pl))), (3, .c (.d (.list false 2 ll2))), (4, .c (.d (.list false 1 ol2))), (5, .c (.ptr 0 0 0 0)), (7, .c (.ptr 1 0 0 0)), (10, .c (.ptr 2 0 0 0)), (12, iA q.1)])
    (fun q => [.bx [.d (iD nodes), .d (.list false 1 ol), .d (.list false 7 ll)], .bx [.d (.list false 2 (q.2.1.map encSeg)), .d (iD q.2.2)], .bx [.d (.list true 2 []), .d (iD 0)]])
    (fun k q => q.1 = k ∧ k ≤ l.length ∧ q.2.1.length ≤ 32 ∧ -1 ≤ q.2.2 ∧ foldG f g q.2.1 q.2.2 (l.drop k) = gr ∧ foldS f q.2.1 q.2.2 (l.drop k) = fr) (0, s, a) (by rw [hssl]; exact Wk.cut ⟨_, rfl⟩ (Nat.zero_le _) rfl (by repeat' first | exact trivial | refine And.intro ?_ ?_ | rfl)) ⟨rfl, by omega, hs, ha, hgr, hfr⟩ (fun k s h => h.2.1) ?_
  rintro k ⟨i, s1, a1⟩ Q' ⟨hi, hk, hs1, ha1, hgr1, hfr1⟩ norm ex rt
  simp only at hi hs1 ha1 hgr1 hfr1
  by_cases hlt : k < l.length
  · obtain ⟨x, hx⟩ : ∃ x, l[k]? = some x := ⟨_, List.getElem?_eq_getElem hlt⟩
    have hxa := elt_at ll2h hi hx
    have hxv := hl x (List.mem_of_getElem? hx)
    have hdr : l.drop k = x :: l.drop (k + 1) := by
      rw [List.drop_eq_getElem_cons hlt]
      congr 1
      rw [List.getElem?_eq_getElem hlt] at hx
      exact Option.some.inj hx
    rw [hdr] at hgr1 hfr1
    simp only [foldG, foldS] at hgr1 hfr1
    obtain ⟨c1, c2, c3⟩ := hg s1 a1 x hs1 hxv ha1
    clear hg
    cases hfx : f s1 a1 x with
    | ok o p =>
      obtain ⟨e1, e2, e3⟩ := c2 o p hfx
      rw [hfx] at c1 hgr1 hfr1
      rw [e1] at c1
      simp only at hgr1 hfr1
      have nx : ∀ L' h', Wk 0 L' h' _ _ → Q' .normal L' h' := fun L' h' hw => norm L' h' (i + 1, o, p) ⟨by simp only; omega, by omega, e2, e3, hgr1, hfr1⟩ hw
      obtain ⟨xk, xn⟩ := x
      simp only [encSeg] at hxa
      simp only [segA, codeR] at c1
      simp only at nx
      generalize List.map encSeg s1 = s1l at *
      generalize List.map encSeg o = ol3 at *
      conv => cbv
      repeat' first | (refine ex _ _ _ ?_; (conv => cbv)) | (refine rt _ _ ?_; (conv => cbv)) | (intro e he; cases Option.some.inj (he.symm.trans hxa); (conv => cbv)) | (refine call_r c1 rfl rfl ?_; conv => cbv) | (intro (_ : Unit); first | omega | rfl | exact ⟨rfl, by omega⟩ | ((first | (rw [nI_eq]; (repeat rw [nI_eq])) | dsimp only); omega) | ((repeat' first | rfl | omega | refine And.intro ?_ ?_ | (simp only [nI_eq]; omega) | (simp only [List.length_cons, List.length_nil]; omega) | exact Nat.le_of_ble_eq_true rfl); done)) | exact trivial | refine And.intro ?_ ?_ | (intro hc; exact absurd hc (by decide)) | (intro hc; exfalso; omega) | (intro hc; (first | rw [wrap_small (by omega) (by omega)] at hc | rw [nI_eq] at hc | skip); try (conv => cbv))
      rename_i ci
      obtain rfl : ci = i + 1 := hc
      exact nx _ _ (Wk.cut ⟨_, rfl⟩ (Nat.zero_le _) rfl (by repeat' first | exact trivial | refine And.intro ?_ ?_ | rfl))
    | err e =>
      have he := c3 e hfx
      rw [hfx] at c1 hgr1 hfr1
      simp only at hgr1 hfr1
      rw [hgr1] at c1
      subst hfr1
      obtain ⟨xk, xn⟩ := x
      simp only [encSeg] at hxa
      simp only [segA, codeR] at c1 hK
      generalize List.map encSeg s1 = s1l at *
      generalize List.map encSeg gr.1 = ol3 at *
      generalize gr.2 = gr2 at *
      conv => cbv
      repeat' first | (refine ex _ _ _ ?_; (conv => cbv)) | (refine rt _ _ ?_; (conv => cbv)) | (intro e he; cases Option.some.inj (he.symm.trans hxa); (conv => cbv)) | (refine call_r c1 rfl rfl ?_; conv => cbv) | (intro (_ : Unit); first | omega | rfl | exact ⟨rfl, by omega⟩ | ((first | (rw [nI_eq]; (repeat rw [nI_eq])) | dsimp only); omega) | ((repeat' first | rfl | omega | refine And.intro ?_ ?_ | (simp only [nI_eq]; omega) | (simp only [List.length_cons, List.length_nil]; omega) | exact Nat.le_of_ble_eq_true rfl); done)) | exact trivial | refine And.intro ?_ ?_ | (intro hc; exact absurd hc (by decide)) | (intro hc; exfalso; omega) | (intro hc; (first | rw [wrap_small (by omega) (by omega)] at hc | rw [nI_eq] at hc | skip); try (conv => cbv))
      exact hK
  · rw [List.drop_eq_nil_of_le (by omega)] at hgr1 hfr1
    simp only [foldG, foldS] at hgr1 hfr1
    subst hgr1 hfr1
    simp only [codeR] at hK
    generalize List.map encSeg s1 = s1l at *
    conv => cbv
    repeat' first | (refine ex _ _ _ ?_; (conv => cbv)) | (refine rt _ _ ?_; (conv => cbv)) | (intro (_ : Unit); first | omega | rfl | exact ⟨rfl, by omega⟩ | ((first | (rw [nI_eq]; (repeat rw [nI_eq])) | dsimp only); omega) | ((repeat' first | rfl | omega | refine And.intro ?_ ?_ | (simp only [nI_eq]; omega) | (simp only [List.length_cons, List.length_nil]; omega) | exact Nat.le_of_ble_eq_true rfl); done)) | exact trivial | refine And.intro ?_ ?_ | (intro hc; exact absurd hc (by decide)) | (intro hc; exfalso; omega) | (intro hc; (first | rw [wrap_small (by omega) (by omega)] at hc | rw [nI_eq] at hc | skip); try (conv => cbv))
    exact hK

end Go.Ab

/-
  Chapter 21: the document's expansion of one segment, and of a list.
-/
namespace Go.Ab
open Go.Proofs

theorem find_pol {ps : List Pol} {a b : Int} : (ps.findIdx? (isP a b) = none → polOf ps (a, b) = none) ∧ ∀ i, ps.findIdx? (isP a b) = some i → ∃ p, ps[i]? = some p ∧ keyP p = (a, b) ∧ polOf ps (a, b) = some p.list := by
  have hfun : (fun p => decide (keyP p = (a, b))) = isP a b := by
    funext p
    simp only [isP, keyP, Prod.mk.injEq]
  constructor
  · intro h
    unfold polOf
    rw [hfun, List.find?_eq_none.2 (by rw [List.findIdx?_eq_none_iff] at h; intro x hx; rw [h x hx]; decide)]
    rfl
  · intro i h
    rw [List.findIdx?_eq_some_iff_getElem] at h
    obtain ⟨hi, h1, h2⟩ := h
    have hk : keyP ps[i] = (a, b) := by
      simp only [isP, decide_eq_true_eq] at h1
      simp only [keyP, h1.1, h1.2]
    refine ⟨ps[i], List.getElem?_eq_getElem hi, hk, ?_⟩
    unfold polOf
    rw [hfun]
    have : ps.find? (isP a b) = some ps[i] := by
      rw [List.find?_eq_some_iff_getElem]
      exact ⟨h1, i, hi, rfl, fun j hj => by have := h2 j hj; simpa using this⟩
    rw [this]; rfl

theorem tailT_G {t : Top} (hv : validT t = true) {a : Int} (h0 : 0 ≤ a) (h1 : a < 2 * t.links.length) : tailT t a = tailG t a ∧ headT t a = headG t a := by
  have ha : arcsT t = 2 * t.links.length := by rw [arcsT, if_pos hv]
  have hin : 0 ≤ a ∧ a < arcsT t := by omega
  simp only [tailT, headT, tailG, headG, if_pos hin, and_self]

theorem headG_ge {t : Top} (hv : validT t = true) {a : Int} (h0 : 0 ≤ a) (h1 : a < 2 * t.links.length) : 0 ≤ headG t a := by
  have hx : t.links[(a / 2).toNat]? = some (t.links[(a / 2).toNat]'(by omega)) := List.getElem?_eq_getElem (by omega)
  have hk := okLk_spec.1 ((validT_spec.1 hv).2.2.2 _ (List.getElem_mem (l := t.links) (n := (a / 2).toNat) (by omega)))
  have hl : lkAt t a = t.links[(a / 2).toNat]'(by omega) := by rw [lkAt, hx]; rfl
  rw [← hl] at hk
  unfold headG
  split <;> omega

set_option maxHeartbeats 4000000 in
theorem one_plain_ok (P : Program) (hP : P = Try.prog) (t : Top) (ps : List Pol) (n : Nat) (op : List Key) (opn : List Int) (hv : validT t = true) (s : List Seg) (a : Int) (x : Seg) (hs : s.length ≤ 32) (hx : segB t x = true) (ha : -1 ≤ a) (h4 : x.kind ≠ 4) :
    ∃ st : List Seg × Int, Ret P n_ref21_one [topA t, polsA ps, stA s a, segA x, intsA opn] (.tup [stA st.1 st.2, iA (codeR (oneS t ps n op s a x))]) ∧
    (∀ o p, oneS t ps n op s a x = .ok o p → st = (o, p) ∧ o.length ≤ 32 ∧ -1 ≤ p) ∧ (∀ e, oneS t ps n op s a x = .err e → e ≠ 0) := by
  have hseg := segB_spec.1 hx
  have herr : ∀ e, oneS t ps n op s a x = .err e → e ≠ 0 := fun e h => by have := err_plain h4 h; unfold ErrX at this; omega
  have hk := fun b => keep_ok P hP s a x b
  have htl := tail_ok P hP t x.num
  have hhd := head_ok P hP t x.num
  have key : ∀ (c b : Int), posS t a x = (c, b) → -1 ≤ b →
      Ret P n_ref21_one [topA t, polsA ps, stA s a, segA x, intsA opn] (if c ≠ 0 then .tup [stA s a, iA c] else if 32 ≤ s.length then .tup [stA s a, iA 6] else .tup [stA (s ++ [x]) b, iA 0]) →
      ∃ st : List Seg × Int, Ret P n_ref21_one [topA t, polsA ps, stA s a, segA x, intsA opn] (.tup [stA st.1 st.2, iA (codeR (oneS t ps n op s a x))]) ∧
        (∀ o p, oneS t ps n op s a x = .ok o p → st = (o, p) ∧ o.length ≤ 32 ∧ -1 ≤ p) ∧ (∀ e, oneS t ps n op s a x = .err e → e ≠ 0) := by
    intro c b hp hb hr
    have ho := oneS_plain (t := t) (ps := ps) (n := n) (op := op) (out := s) (pos := a) h4
    rw [hp] at ho
    simp only at ho
    by_cases hc : c ≠ 0
    · rw [if_pos hc] at hr ho
      refine ⟨(s, a), by rw [ho]; exact hr, fun o p h => by (rw [ho] at h; cases h), herr⟩
    · rw [if_neg hc] at hr ho
      by_cases hl : 32 ≤ s.length
      · rw [if_pos hl] at hr
        rw [if_neg (by omega)] at ho
        refine ⟨(s, a), by rw [ho]; exact hr, fun o p h => by (rw [ho] at h; cases h), herr⟩
      · rw [if_neg hl] at hr
        rw [if_pos (by omega)] at ho
        refine ⟨(s ++ [x], b), by rw [ho]; exact hr, fun o p h => ?_, herr⟩
        rw [ho] at h
        cases h
        exact ⟨rfl, by simp; omega, hb⟩
  have hk0 : ∀ b, (if 32 ≤ s.length then AV.tup [stA s a, iA 6] else .tup [stA (s ++ [x]) b, iA 0]) = if (0 : Int) ≠ 0 then AV.tup [stA s a, iA 0] else if 32 ≤ s.length then .tup [stA s a, iA 6] else .tup [stA (s ++ [x]) b, iA 0] := fun b => by rw [if_neg (show ¬ ((0 : Int) ≠ 0) from fun h => h rfl)]
  by_cases hk1 : x.kind = 1
  · have hp : posS t a x = (0, x.num) := by simp [posS, hk1]
    refine key 0 x.num hp (by omega) ?_
    rw [← hk0]
    have hk := hk x.num
    clear key herr htl hhd hk0 hp
    generalize hr : (if 32 ≤ s.length then AV.tup [stA s a, iA 6] else .tup [stA (s ++ [x]) x.num, iA 0]) = r at *
    have hr2 : ∃ s2 a2 c, r = .tup [stA s2 a2, iA c] := by
      by_cases hl : 32 ≤ s.length
      · exact ⟨s, a, 6, by rw [← hr, if_pos hl]⟩
      · exact ⟨_, _, 0, by rw [← hr, if_neg hl]⟩
    obtain ⟨s2, a2, c2, rfl⟩ := hr2
    clear hr
    refine ret_start (hP ▸ mixed) (hP ▸ fn_ref21_one) (hP ▸ c_ref21_one) (Nat.le_of_ble_eq_true rfl) fun Λ Λo K hK => ?_
    clear hP
    obtain ⟨xk, xn⟩ := x
    simp only at hk1
    subst hk1
    simp only [polsA, polsD, stA, segsD, segA, intsA, intsD] at *
    generalize List.map encPol ps = pl at *
    generalize List.map encI opn = ol2 at *
    generalize List.map encSeg s = sl at *
    generalize List.map encSeg s2 = sl2 at *
    obtain ⟨nodes, ov, links⟩ := t
    simp only [topA, boolsD, linksD] at *
    generalize hol : ov.map encB = ol at *
    generalize hll : links.map encLk = ll at *
    have hlo : Λ ol = ov.length := by rw [Λo, ← hol]; simp
    have hls : Λ ll = links.length := by rw [Λo, ← hll]; simp
    conv => cbv
    repeat' first | (refine call_r hk rfl rfl ?_; conv => cbv) | (intro (_ : Unit); first | omega | rfl | exact ⟨rfl, by omega⟩ | (simp only [nI_eq]; omega) | ((repeat' first | rfl | omega | refine And.intro ?_ ?_ | (simp only [nI_eq]; omega) | (simp only [List.length_cons, List.length_nil]; omega) | exact Nat.le_of_ble_eq_true rfl); done)) | exact trivial | refine And.intro ?_ ?_ | (intro hc; exact absurd hc (by decide)) | (intro hc; exfalso; omega) | (intro hc; (first | rw [wrap_small (by omega) (by omega)] at hc | rw [nI_eq] at hc | skip); try (conv => cbv))
    exact hK
  by_cases hk3 : x.kind = 3
  · have hp : posS t a x = (0, -1) := by simp [posS, hk3]
    refine key 0 (-1) hp (by omega) ?_
    rw [← hk0]
    have hk := hk (-1)
    clear key herr htl hhd hk0 hp
    generalize hr : (if 32 ≤ s.length then AV.tup [stA s a, iA 6] else .tup [stA (s ++ [x]) (-1), iA 0]) = r at *
    have hr2 : ∃ s2 a2 c, r = .tup [stA s2 a2, iA c] := by
      by_cases hl : 32 ≤ s.length
      · exact ⟨s, a, 6, by rw [← hr, if_pos hl]⟩
      · exact ⟨_, _, 0, by rw [← hr, if_neg hl]⟩
    obtain ⟨s2, a2, c2, rfl⟩ := hr2
    clear hr
    refine ret_start (hP ▸ mixed) (hP ▸ fn_ref21_one) (hP ▸ c_ref21_one) (Nat.le_of_ble_eq_true rfl) fun Λ Λo K hK => ?_
    clear hP
    obtain ⟨xk, xn⟩ := x
    simp only at hk3
    subst hk3
    simp only [polsA, polsD, stA, segsD, segA, intsA, intsD] at *
    generalize List.map encPol ps = pl at *
    generalize List.map encI opn = ol2 at *
    generalize List.map encSeg s = sl at *
    generalize List.map encSeg s2 = sl2 at *
    obtain ⟨nodes, ov, links⟩ := t
    simp only [topA, boolsD, linksD] at *
    generalize hol : ov.map encB = ol at *
    generalize hll : links.map encLk = ll at *
    have hlo : Λ ol = ov.length := by rw [Λo, ← hol]; simp
    have hls : Λ ll = links.length := by rw [Λo, ← hll]; simp
    conv => cbv
    repeat' first | (refine call_r hk rfl rfl ?_; conv => cbv) | (intro (_ : Unit); first | omega | rfl | exact ⟨rfl, by omega⟩ | (simp only [nI_eq]; omega) | ((repeat' first | rfl | omega | refine And.intro ?_ ?_ | (simp only [nI_eq]; omega) | (simp only [List.length_cons, List.length_nil]; omega) | exact Nat.le_of_ble_eq_true rfl); done)) | exact trivial | refine And.intro ?_ ?_ | (intro hc; exact absurd hc (by decide)) | (intro hc; exfalso; omega) | (intro hc; (first | rw [wrap_small (by omega) (by omega)] at hc | rw [nI_eq] at hc | skip); try (conv => cbv))
    exact hK
  have hk2 : x.kind = 2 := by omega
  have hr0 : 0 ≤ x.num ∧ x.num < 2 * t.links.length := by omega
  obtain ⟨e1, e2⟩ := tailT_G hv hr0.1 hr0.2
  have hfa := headG_ge hv hr0.1 hr0.2
  rw [e1] at htl
  rw [e2] at hhd
  generalize hgt : tailG t x.num = tg at *
  generalize hgh : headG t x.num = hg at *
  by_cases hm : a = -1
  · have hp : posS t a x = (7, a) := by simp [posS, hk2, hm]
    refine key 7 a hp (by omega) ?_
    rw [if_pos (by decide)]
    clear key herr htl hhd hk0 hp hk
    refine ret_start (hP ▸ mixed) (hP ▸ fn_ref21_one) (hP ▸ c_ref21_one) (Nat.le_of_ble_eq_true rfl) fun Λ Λo K hK => ?_
    clear hP
    obtain ⟨xk, xn⟩ := x
    simp only at hk2
    subst hk2
    simp only [polsA, polsD, stA, segsD, segA, intsA, intsD] at *
    generalize List.map encPol ps = pl at *
    generalize List.map encI opn = ol2 at *
    generalize List.map encSeg s = sl at *
    obtain ⟨nodes, ov, links⟩ := t
    simp only [topA, boolsD, linksD] at *
    generalize hol : ov.map encB = ol at *
    generalize hll : links.map encLk = ll at *
    have hlo : Λ ol = ov.length := by rw [Λo, ← hol]; simp
    have hls : Λ ll = links.length := by rw [Λo, ← hll]; simp
    conv => cbv
    repeat' first | (intro (_ : Unit); first | omega | rfl | exact ⟨rfl, by omega⟩ | (simp only [nI_eq]; omega) | ((repeat' first | rfl | omega | refine And.intro ?_ ?_ | (simp only [nI_eq]; omega) | (simp only [List.length_cons, List.length_nil]; omega) | exact Nat.le_of_ble_eq_true rfl); done)) | exact trivial | refine And.intro ?_ ?_ | (intro hc; exact absurd hc (by decide)) | (intro hc; exfalso; omega) | (intro hc; (first | rw [wrap_small (by omega) (by omega)] at hc | rw [nI_eq] at hc | skip); try (conv => cbv))
    exact hK
  by_cases ht : tg = a
  · have hp : posS t a x = (0, hg) := by
      simp only [posS, hgt, hgh]
      rw [if_neg hk1, if_pos hk2, if_neg hm, if_pos ht]
    refine key 0 hg hp (by omega) ?_
    rw [← hk0]
    have hk := hk hg
    clear key herr hk0 hp
    generalize hr : (if 32 ≤ s.length then AV.tup [stA s a, iA 6] else .tup [stA (s ++ [x]) hg, iA 0]) = r at *
    have hr2 : ∃ s2 a2 c, r = .tup [stA s2 a2, iA c] := by
      by_cases hl : 32 ≤ s.length
      · exact ⟨s, a, 6, by rw [← hr, if_pos hl]⟩
      · exact ⟨_, _, 0, by rw [← hr, if_neg hl]⟩
    obtain ⟨s2, a2, c2, rfl⟩ := hr2
    clear hr
    refine ret_start (hP ▸ mixed) (hP ▸ fn_ref21_one) (hP ▸ c_ref21_one) (Nat.le_of_ble_eq_true rfl) fun Λ Λo K hK => ?_
    clear hP
    obtain ⟨xk, xn⟩ := x
    simp only at hk2
    subst hk2
    simp only [polsA, polsD, stA, segsD, segA, intsA, intsD] at *
    generalize List.map encPol ps = pl at *
    generalize List.map encI opn = ol2 at *
    generalize List.map encSeg s = sl at *
    generalize List.map encSeg s2 = sl2 at *
    obtain ⟨nodes, ov, links⟩ := t
    simp only [topA, boolsD, linksD] at *
    generalize hol : ov.map encB = ol at *
    generalize hll : links.map encLk = ll at *
    have hlo : Λ ol = ov.length := by rw [Λo, ← hol]; simp
    have hls : Λ ll = links.length := by rw [Λo, ← hll]; simp
    conv => cbv
    repeat' first | refine call_i htl rfl rfl ?_ | refine call_i hhd rfl rfl ?_ | (subst hc; refine call_r hk rfl rfl ?_; conv => cbv) | (intro (_ : Unit); first | omega | rfl | exact ⟨rfl, by omega⟩ | (simp only [nI_eq]; omega) | ((repeat' first | rfl | omega | refine And.intro ?_ ?_ | (simp only [nI_eq]; omega) | (simp only [List.length_cons, List.length_nil]; omega) | exact Nat.le_of_ble_eq_true rfl); done)) | exact trivial | refine And.intro ?_ ?_ | (intro hc; exact absurd hc (by decide)) | (intro hc; exfalso; omega) | (intro hc; (first | rw [wrap_small (by omega) (by omega)] at hc | rw [nI_eq] at hc | skip); try (conv => cbv))
    exact hK
  · have hp : posS t a x = (4, a) := by
      simp only [posS, hgt]
      rw [if_neg hk1, if_pos hk2, if_neg hm, if_neg ht]
    refine key 4 a hp (by omega) ?_
    rw [if_pos (by decide)]
    clear key herr hk0 hp hk
    refine ret_start (hP ▸ mixed) (hP ▸ fn_ref21_one) (hP ▸ c_ref21_one) (Nat.le_of_ble_eq_true rfl) fun Λ Λo K hK => ?_
    clear hP
    obtain ⟨xk, xn⟩ := x
    simp only at hk2
    subst hk2
    simp only [polsA, polsD, stA, segsD, segA, intsA, intsD] at *
    generalize List.map encPol ps = pl at *
    generalize List.map encI opn = ol2 at *
    generalize List.map encSeg s = sl at *
    obtain ⟨nodes, ov, links⟩ := t
    simp only [topA, boolsD, linksD] at *
    generalize hol : ov.map encB = ol at *
    generalize hll : links.map encLk = ll at *
    have hlo : Λ ol = ov.length := by rw [Λo, ← hol]; simp
    have hls : Λ ll = links.length := by rw [Λo, ← hll]; simp
    conv => cbv
    repeat' first | refine call_i htl rfl rfl ?_ | (intro (_ : Unit); first | omega | rfl | exact ⟨rfl, by omega⟩ | (simp only [nI_eq]; omega) | ((repeat' first | rfl | omega | refine And.intro ?_ ?_ | (simp only [nI_eq]; omega) | (simp only [List.length_cons, List.length_nil]; omega) | exact Nat.le_of_ble_eq_true rfl); done)) | exact trivial | refine And.intro ?_ ?_ | (intro hc; exact absurd hc (by decide)) | (intro hc; exfalso; omega) | (intro hc; (first | rw [wrap_small (by omega) (by omega)] at hc | rw [nI_eq] at hc | skip); try (conv => cbv))
    exact hK

end Go.Ab

/-
  Chapter 21: the document's expansion; the law.
-/
namespace Go.Ab
open Go.Proofs

theorem OpenI.more {ps : List Pol} {op : List Key} {opn : List Int} {i : Nat} {p : Pol} (h : OpenI ps op opn) (hn : (ps.map keyP).Nodup) (hp : ps[i]? = some p) (hk : keyP p ∉ op) : OpenI ps (keyP p :: op) (opn ++ [(i : Int)]) where
  nd := List.nodup_cons.2 ⟨hk, h.nd⟩
  sub k hk' := by
    rcases List.mem_cons.1 hk' with rfl | hk'
    · exact List.mem_map.2 ⟨p, List.mem_of_getElem? hp, rfl⟩
    · exact h.sub k hk'
  mem j q hq := by
    rw [List.mem_append, h.mem j q hq, List.mem_singleton, List.mem_cons]
    constructor
    · rintro (h1 | h1)
      · exact .inr h1
      · have : j = i := by omega
        subst this
        rw [hp] at hq
        cases hq
        exact .inl rfl
    · rintro (h1 | h1)
      · right
        have e1 : (ps.map keyP)[j]? = some (keyP q) := by rw [List.getElem?_map, hq]; rfl
        have e2 : (ps.map keyP)[i]? = some (keyP q) := by rw [List.getElem?_map, hp, h1]; rfl
        have hjl := get_lt e1
        have hil := get_lt e2
        have := (List.getElem_inj (i := j) (j := i) (h₀ := hjl) (h₁ := hil) hn).1 (by
          rw [List.getElem?_eq_getElem hjl] at e1
          rw [List.getElem?_eq_getElem hil] at e2
          exact (Option.some.inj e1).trans (Option.some.inj e2).symm)
        omega
      · exact .inl h1
  len := by simp only [List.length_append, List.length_cons, List.length_nil]; have := h.len; omega

set_option maxHeartbeats 4000000 in
theorem one_ok (P : Program) (hP : P = Try.prog) (t : Top) (ps : List Pol) (hv : polsB t ps = true) (hps : ps.length ≤ 1000) : ∀ (n : Nat) (op : List Key) (opn : List Int), OpenI ps op opn → ps.length ≤ n + op.length → OneC P t ps n op opn := by
  have hval := (polsB_spec.1 hv).1
  have hnd := (polsB_spec.1 hv).2.2
  have hpv := pol_segs hv
  intro n
  induction n using Nat.strongRecOn with
  | _ n ih =>
  intro op opn hop hle s a x hs hx ha
  by_cases h4 : x.kind ≠ 4
  · exact one_plain_ok P hP t ps n op opn hval s a x hs hx ha h4
  have h4 : x.kind = 4 := by omega
  have hol : op.length ≤ ps.length := by
    have := nodup_sub (l := op) (m := ps.map keyP) hop.nd hop.sub
    simpa using this
  have hopl := hop.len
  obtain ⟨q1, q2⟩ := @find_pol ps a x.num
  have hidx := rindex_ok P hP ps a x.num
  have hhas := fun i => has_ok P hP opn i
  have hsh : oneS t ps n op s a x = if a = -1 then .err 7 else match polOf ps (a, x.num) with
      | none => .err 8
      | some l => if (a, x.num) ∈ op then .err 16 else match n with
        | 0 => foldS (fun _ _ _ => .err 0) s a l
        | n + 1 => foldS (oneS t ps n ((a, x.num) :: op)) s a l := by
    cases n with
    | zero => simp only [oneS, oneW]; rw [if_neg (by omega)]; first | done | rfl
    | succ n => simp only [oneS, oneW]; rw [if_neg (by omega)]; first | done | rfl
  -- an answer without a state of its own
  have err : ∀ e : Int, oneS t ps n op s a x = .err e → e ≠ 0 → Ret P n_ref21_one [topA t, polsA ps, stA s a, segA x, intsA opn] (.tup [stA s a, iA e]) →
      ∃ st : List Seg × Int, Ret P n_ref21_one [topA t, polsA ps, stA s a, segA x, intsA opn] (.tup [stA st.1 st.2, iA (codeR (oneS t ps n op s a x))]) ∧
        (∀ o p, oneS t ps n op s a x = .ok o p → st = (o, p) ∧ o.length ≤ 32 ∧ -1 ≤ p) ∧ (∀ e, oneS t ps n op s a x = .err e → e ≠ 0) := by
    intro e he h0 hr
    refine ⟨(s, a), by rw [he]; exact hr, fun o p h => by (rw [he] at h; cases h), fun e' h => ?_⟩
    rw [he] at h; cases h; exact h0
  by_cases hm : a = -1
  · rw [if_pos hm] at hsh
    refine err 7 hsh (by decide) ?_
    clear err hsh ih hidx hhas q1 q2
    refine ret_start (hP ▸ mixed) (hP ▸ fn_ref21_one) (hP ▸ c_ref21_one) (Nat.le_of_ble_eq_true rfl) fun Λ Λo K hK => ?_
    clear hP
    obtain ⟨xk, xn⟩ := x
    simp only at h4
    subst h4
    simp only [polsA, polsD, stA, segsD, segA, intsA, intsD] at *
    generalize List.map encPol ps = pl at *
    generalize List.map encI opn = ol2 at *
    generalize List.map encSeg s = sl at *
    obtain ⟨nodes, ov, links⟩ := t
    simp only [topA, boolsD, linksD] at *
    generalize hol : ov.map encB = ol at *
    generalize hll : links.map encLk = ll at *
    have hlo : Λ ol = ov.length := by rw [Λo, ← hol]; simp
    have hls : Λ ll = links.length := by rw [Λo, ← hll]; simp
    conv => cbv
    repeat' first | (intro (_ : Unit); first | omega | rfl | exact ⟨rfl, by omega⟩ | ((first | (rw [nI_eq]; (repeat rw [nI_eq])) | dsimp only); omega) | ((repeat' first | rfl | omega | refine And.intro ?_ ?_ | (simp only [nI_eq]; omega) | (simp only [List.length_cons, List.length_nil]; omega) | exact Nat.le_of_ble_eq_true rfl); done)) | exact trivial | refine And.intro ?_ ?_ | (intro hc; exact absurd hc (by decide)) | (intro hc; exfalso; omega) | (intro hc; (first | rw [wrap_small (by omega) (by omega)] at hc | rw [nI_eq] at hc | skip); try (conv => cbv))
    exact hK
  rw [if_neg hm] at hsh
  cases hfi : ps.findIdx? (isP a x.num) with
  | none =>
    rw [q1 hfi] at hsh
    refine err 8 hsh (by decide) ?_
    rw [hfi] at hidx
    clear err hsh ih hhas q1 q2 hfi
    refine ret_start (hP ▸ mixed) (hP ▸ fn_ref21_one) (hP ▸ c_ref21_one) (Nat.le_of_ble_eq_true rfl) fun Λ Λo K hK => ?_
    clear hP
    obtain ⟨xk, xn⟩ := x
    simp only at h4 hidx
    subst h4
    simp only [polsA, polsD, stA, segsD, segA, intsA, intsD] at *
    generalize List.map encPol ps = pl at *
    generalize List.map encI opn = ol2 at *
    generalize List.map encSeg s = sl at *
    obtain ⟨nodes, ov, links⟩ := t
    simp only [topA, boolsD, linksD] at *
    generalize hol : ov.map encB = ol at *
    generalize hll : links.map encLk = ll at *
    have hlo : Λ ol = ov.length := by rw [Λo, ← hol]; simp
    have hls : Λ ll = links.length := by rw [Λo, ← hll]; simp
    conv => cbv
    repeat' first | refine call_i hidx rfl rfl ?_ | (intro (_ : Unit); first | omega | rfl | exact ⟨rfl, by omega⟩ | ((first | (rw [nI_eq]; (repeat rw [nI_eq])) | dsimp only); omega) | ((repeat' first | rfl | omega | refine And.intro ?_ ?_ | (simp only [nI_eq]; omega) | (simp only [List.length_cons, List.length_nil]; omega) | exact Nat.le_of_ble_eq_true rfl); done)) | exact trivial | refine And.intro ?_ ?_ | (intro hc; exact absurd hc (by decide)) | (intro hc; exfalso; omega) | (intro hc; (first | rw [wrap_small (by omega) (by omega)] at hc | rw [nI_eq] at hc | skip); try (conv => cbv))
    exact hK
  | some i =>
    obtain ⟨p, hp1, hp2, hp3⟩ := q2 i hfi
    rw [hfi] at hidx
    rw [hp3] at hsh
    simp only at hsh hidx
    have hhas := hhas i
    have hmm := hop.mem i p hp1
    rw [hp2] at hmm
    by_cases hin : (a, x.num) ∈ op
    · rw [if_pos hin] at hsh
      refine err 16 hsh (by decide) ?_
      rw [decide_eq_true (hmm.2 hin)] at hhas
      clear err hsh ih q1 q2 hfi hmm
      refine ret_start (hP ▸ mixed) (hP ▸ fn_ref21_one) (hP ▸ c_ref21_one) (Nat.le_of_ble_eq_true rfl) fun Λ Λo K hK => ?_
      clear hP
      obtain ⟨xk, xn⟩ := x
      simp only at h4 hidx
      subst h4
      simp only [polsA, polsD, stA, segsD, segA, intsA, intsD] at *
      generalize List.map encPol ps = pl at *
      generalize List.map encI opn = ol2 at *
      generalize List.map encSeg s = sl at *
      generalize hii : (i : Int) = ii at *
      obtain ⟨nodes, ov, links⟩ := t
      simp only [topA, boolsD, linksD] at *
      generalize hol : ov.map encB = ol at *
      generalize hll : links.map encLk = ll at *
      have hlo : Λ ol = ov.length := by rw [Λo, ← hol]; simp
      have hls : Λ ll = links.length := by rw [Λo, ← hll]; simp
      conv => cbv
      repeat' first | (refine call_r hidx rfl rfl ?_; conv => cbv) | refine call_b hhas rfl rfl ?_ ?_ | (intro hc; cases hc; done) | (intro (_ : Unit); first | omega | rfl | exact ⟨rfl, by omega⟩ | ((first | (rw [nI_eq]; (repeat rw [nI_eq])) | dsimp only); omega) | ((repeat' first | rfl | omega | refine And.intro ?_ ?_ | (simp only [nI_eq]; omega) | (simp only [List.length_cons, List.length_nil]; omega) | exact Nat.le_of_ble_eq_true rfl); done)) | exact trivial | refine And.intro ?_ ?_ | (intro hc; exact absurd hc (by decide)) | (intro hc; exfalso; omega) | (intro hc; (first | rw [wrap_small (by omega) (by omega)] at hc | rw [nI_eq] at hc | skip); try (conv => cbv))
      all_goals exact hK
    · rw [if_neg hin] at hsh
      rw [decide_eq_false (fun h => hin (hmm.1 h))] at hhas
      cases n with
      | zero =>
        exfalso
        have := nodup_sub (l := (a, x.num) :: op) (m := ps.map keyP) (List.nodup_cons.2 ⟨hin, hop.nd⟩) fun k hk => by
          rcases List.mem_cons.1 hk with rfl | hk
          · exact (polOf_mem hp3).1
          · exact hop.sub k hk
        simp only [List.length_cons, List.length_map] at this
        omega
      | succ n =>
        simp only at hsh
        have hop2 := hop.more hnd hp1 (by rw [hp2]; exact hin)
        rw [hp2] at hop2
        obtain ⟨st, c1, c2, c3⟩ := all_ok P hP t ps n ((a, x.num) :: op) (opn ++ [(i : Int)]) (ih n (by omega) _ _ hop2 (by simp only [List.length_cons]; omega)) s a p.list hs (hpv _ _ hp3) ha
        refine ⟨st, ?_, by rw [hsh]; exact c2, by rw [hsh]; exact c3⟩
        rw [hsh]
        clear err hsh ih q1 q2 hfi hmm c2 c3
        generalize codeR (foldS (oneS t ps n ((a, x.num) :: op)) s a p.list) = cd at *
        refine ret_start (hP ▸ mixed) (hP ▸ fn_ref21_one) (hP ▸ c_ref21_one) (Nat.le_of_ble_eq_true rfl) fun Λ Λo K hK => ?_
        clear hP
        have hil := get_lt hp1
        obtain ⟨xk, xn⟩ := x
        obtain ⟨pn, pb, pls⟩ := p
        simp only at h4 hidx c1
        subst h4
        simp only [polsA, polsD, stA, segsD, segsA, segA, intsA, intsD, List.map_append, List.map_cons, List.map_nil] at *
        have hpa : (List.map encPol ps)[((i : Int)).toNat]? = some (encPol ⟨pn, pb, pls⟩) := by simp [hp1]
        simp only [encPol, segsD] at hpa
        generalize plh : List.map encPol ps = pl at *
        have pln : Λ pl = ps.length := by rw [Λo, ← plh]; simp
        generalize olh : List.map encI opn = ol2 at *
        have oll : ol2.length = opn.length := by rw [← olh]; simp
        generalize List.map encSeg s = sl at *
        generalize List.map encSeg pls = pll at *
        generalize List.map encSeg st.1 = stl at *
        generalize st.2 = st2 at *
        generalize hii : (i : Int) = ii at *
        simp only [encI] at c1
        obtain ⟨nodes, ov, links⟩ := t
        simp only [topA, boolsD, linksD] at *
        generalize hol : ov.map encB = ol at *
        generalize hll : links.map encLk = ll at *
        have hlo : Λ ol = ov.length := by rw [Λo, ← hol]; simp
        have hls : Λ ll = links.length := by rw [Λo, ← hll]; simp
        conv => cbv
        repeat' first | (refine call_r hidx rfl rfl ?_; conv => cbv) | refine call_b hhas rfl rfl ?_ ?_ | (intro hc; cases hc; done) | (intro e he; cases Option.some.inj (he.symm.trans hpa); (conv => cbv)) | (intro (_ : Unit); first | omega | rfl | exact ⟨rfl, by omega⟩ | ((first | (rw [nI_eq]; (repeat rw [nI_eq])) | dsimp only); omega) | ((repeat' first | rfl | omega | refine And.intro ?_ ?_ | (simp only [nI_eq]; omega) | (simp only [List.length_cons, List.length_nil]; omega) | exact Nat.le_of_ble_eq_true rfl); done)) | exact trivial | refine And.intro ?_ ?_ | (intro hc; exact absurd hc (by decide)) | (intro hc; exfalso; omega) | (intro hc; (first | rw [wrap_small (by omega) (by omega)] at hc | rw [nI_eq] at hc | skip); try (conv => cbv))
        rename_i n1 r1 es1 hn1 hr1 hes1 n2 r2 es2 hn2 hr2
        have e1 : es1 = ol2 := by rw [hes1]; simp
        simp only [List.length_cons, List.length_nil] at hn2
        have e2 : es2 = ol2 ++ [[iD ii]] := by rw [hc, e1, List.drop_zero, List.take_of_length_le (by omega)]
        subst e2
        refine call_z 4 2 1 n2 rfl (by simp; omega) (by repeat' first | exact trivial | refine And.intro ?_ ?_ | rfl) (by repeat' first | exact trivial | refine And.intro ?_ ?_ | rfl) ?_
        generalize hol3 : ol2 ++ [[iD ii]] = ol3 at *
        conv => cbv
        repeat' first | (refine call_r c1 rfl rfl ?_; conv => cbv) | (intro (_ : Unit); first | omega | rfl | exact ⟨rfl, by omega⟩ | ((first | (rw [nI_eq]; (repeat rw [nI_eq])) | dsimp only); omega) | ((repeat' first | rfl | omega | refine And.intro ?_ ?_ | (simp only [nI_eq]; omega) | (simp only [List.length_cons, List.length_nil]; omega) | exact Nat.le_of_ble_eq_true rfl); done)) | exact trivial | refine And.intro ?_ ?_ | (intro hc; exact absurd hc (by decide)) | (intro hc; exfalso; omega) | (intro hc; (first | rw [wrap_small (by omega) (by omega)] at hc | rw [nI_eq] at hc | skip); try (conv => cbv))
        exact hK

/-- the document's expansion is the specification's -/
theorem rexpand_ok (P : Program) (hP : P = Try.prog) (t : Top) (ps : List Pol) (node : Int) (list : List Seg) (hps : ps.length ≤ 1000) : Ret P n_ref21_Expand [topA t, polsA ps, iA node, segsA list] (expA (expandS t ps node list)) := by
  have hv := rpvalid_ok P hP t ps
  have hpr := fun h => rproper_ok P hP t list h
  have hall := fun h1 h2 => all_ok P hP t ps ps.length [] [] (one_ok P hP t ps h1 hps ps.length [] [] ⟨by simp, by simp, by simp, by simp⟩ (by simp)) [] node list (by simp) h2
  have hvt : polsB t ps = true → validT t = true := fun h => (polsB_spec.1 h).1
  refine ret_start (hP ▸ mixed) (hP ▸ fn_ref21_Expand) (hP ▸ c_ref21_Expand) (Nat.le_of_ble_eq_true rfl) fun Λ Λo K hK => ?_
  clear hP
  have k1 : ¬ (polsB t ps = true ∧ list.all (segB t) = true) → K (expA ([], 1)) := fun h => by unfold expandS at hK; rw [if_neg h] at hK; exact hK
  have k2 : polsB t ps = true → list.all (segB t) = true → ¬ (0 ≤ node ∧ node < t.nodes) → K (expA ([], 2)) := fun h1 h2 h => by unfold expandS at hK; rw [if_pos ⟨h1, h2⟩, if_neg h] at hK; exact hK
  have k3 : polsB t ps = true → list.all (segB t) = true → (0 ≤ node ∧ node < t.nodes) → K (expA (resE (foldS (oneS t ps ps.length []) [] node list))) := fun h1 h2 h => by unfold expandS at hK; rw [if_pos ⟨h1, h2⟩, if_pos h] at hK; exact hK
  clear hK
  have hsb : list.all (segB t) = true → ∀ s ∈ list, segB t s = true := fun h => List.all_eq_true.1 h
  generalize polsB t ps = pb at *
  generalize list.all (segB t) = la at *
  generalize foldS (oneS t ps ps.length []) [] node list = fr at *
  cases pb with
  | false =>
    simp only [expA, polsA, polsD, segsA, segsD, List.map_nil] at *
    generalize List.map encPol ps = pl at *
    generalize List.map encSeg list = sl at *
    obtain ⟨nodes, ov, links⟩ := t
    simp only [topA, boolsD, linksD] at *
    generalize hol : ov.map encB = ol at *
    generalize hll : links.map encLk = ll at *
    have hlo : Λ ol = ov.length := by rw [Λo, ← hol]; simp
    have hls : Λ ll = links.length := by rw [Λo, ← hll]; simp
    conv => cbv
    repeat' first | refine call_b hv rfl rfl ?_ ?_ | (intro hc; cases hc; done) | (intro (_ : Unit); first | omega | rfl | exact ⟨rfl, by omega⟩ | ((first | (rw [nI_eq]; (repeat rw [nI_eq])) | dsimp only); omega) | ((repeat' first | rfl | omega | refine And.intro ?_ ?_ | (simp only [nI_eq]; omega) | (simp only [List.length_cons, List.length_nil]; omega) | exact Nat.le_of_ble_eq_true rfl); done)) | exact trivial | refine And.intro ?_ ?_ | (intro hc; exact absurd hc (by decide)) | (intro hc; exfalso; omega) | (intro hc; (first | rw [wrap_small (by omega) (by omega)] at hc | rw [nI_eq] at hc | skip); try (conv => cbv))
    exact k1 (by simp)
  | true =>
  have hpr := hpr (hvt rfl)
  cases la with
  | false =>
    simp only [expA, polsA, polsD, segsA, segsD, List.map_nil] at *
    generalize List.map encPol ps = pl at *
    generalize List.map encSeg list = sl at *
    obtain ⟨nodes, ov, links⟩ := t
    simp only [topA, boolsD, linksD] at *
    generalize hol : ov.map encB = ol at *
    generalize hll : links.map encLk = ll at *
    have hlo : Λ ol = ov.length := by rw [Λo, ← hol]; simp
    have hls : Λ ll = links.length := by rw [Λo, ← hll]; simp
    conv => cbv
    repeat' first | refine call_b hv rfl rfl ?_ ?_ | refine call_b hpr rfl rfl ?_ ?_ | (intro hc; cases hc; done) | (intro (_ : Unit); first | omega | rfl | exact ⟨rfl, by omega⟩ | ((first | (rw [nI_eq]; (repeat rw [nI_eq])) | dsimp only); omega) | ((repeat' first | rfl | omega | refine And.intro ?_ ?_ | (simp only [nI_eq]; omega) | (simp only [List.length_cons, List.length_nil]; omega) | exact Nat.le_of_ble_eq_true rfl); done)) | exact trivial | refine And.intro ?_ ?_ | (intro hc; exact absurd hc (by decide)) | (intro hc; exfalso; omega) | (intro hc; (first | rw [wrap_small (by omega) (by omega)] at hc | rw [nI_eq] at hc | skip); try (conv => cbv))
    exact k1 (by simp)
  | true =>
  by_cases hin : 0 ≤ node ∧ node < t.nodes
  · obtain ⟨st, c1, c2, c3⟩ := hall rfl (hsb rfl) (by omega)
    have k3x := k3 rfl rfl hin
    clear k1 k2 k3 hall hsb hvt
    cases fr with
    | ok o p =>
      obtain ⟨rfl, _, _⟩ := c2 o p rfl
      simp only [expA, polsA, polsD, segsA, segsD, stA, intsA, intsD, List.map_nil, resE, codeR] at *
      generalize List.map encPol ps = pl at *
      generalize List.map encSeg list = sl at *
      generalize List.map encSeg o = ol2 at *
      obtain ⟨nodes, ov, links⟩ := t
      simp only [topA, boolsD, linksD] at *
      generalize hol : ov.map encB = ol at *
      generalize hll : links.map encLk = ll at *
      have hlo : Λ ol = ov.length := by rw [Λo, ← hol]; simp
      have hls : Λ ll = links.length := by rw [Λo, ← hll]; simp
      conv => cbv
      repeat' first | refine call_b hv rfl rfl ?_ ?_ | refine call_b hpr rfl rfl ?_ ?_ | (intro hc; cases hc; done) | (refine call_r c1 rfl rfl ?_; conv => cbv) | (intro (_ : Unit); first | omega | rfl | exact ⟨rfl, by omega⟩ | ((first | (rw [nI_eq]; (repeat rw [nI_eq])) | dsimp only); omega) | ((repeat' first | rfl | omega | refine And.intro ?_ ?_ | (simp only [nI_eq]; omega) | (simp only [List.length_cons, List.length_nil]; omega) | exact Nat.le_of_ble_eq_true rfl); done)) | exact trivial | refine And.intro ?_ ?_ | (intro hc; exact absurd hc (by decide)) | (intro hc; exfalso; omega) | (intro hc; (first | rw [wrap_small (by omega) (by omega)] at hc | rw [nI_eq] at hc | skip); try (conv => cbv))
      exact k3x
    | err e =>
      have he := c3 e rfl
      simp only [expA, polsA, polsD, segsA, segsD, stA, intsA, intsD, List.map_nil, resE, codeR] at *
      generalize List.map encPol ps = pl at *
      generalize List.map encSeg list = sl at *
      generalize List.map encSeg st.1 = ol2 at *
      generalize st.2 = st2 at *
      obtain ⟨nodes, ov, links⟩ := t
      simp only [topA, boolsD, linksD] at *
      generalize hol : ov.map encB = ol at *
      generalize hll : links.map encLk = ll at *
      have hlo : Λ ol = ov.length := by rw [Λo, ← hol]; simp
      have hls : Λ ll = links.length := by rw [Λo, ← hll]; simp
      conv => cbv
      repeat' first | refine call_b hv rfl rfl ?_ ?_ | refine call_b hpr rfl rfl ?_ ?_ | (intro hc; cases hc; done) | (refine call_r c1 rfl rfl ?_; conv => cbv) | (intro (_ : Unit); first | omega | rfl | exact ⟨rfl, by omega⟩ | ((first | (rw [nI_eq]; (repeat rw [nI_eq])) | dsimp only); omega) | ((repeat' first | rfl | omega | refine And.intro ?_ ?_ | (simp only [nI_eq]; omega) | (simp only [List.length_cons, List.length_nil]; omega) | exact Nat.le_of_ble_eq_true rfl); done)) | exact trivial | refine And.intro ?_ ?_ | (intro hc; exact absurd hc (by decide)) | (intro hc; exfalso; omega) | (intro hc; (first | rw [wrap_small (by omega) (by omega)] at hc | rw [nI_eq] at hc | skip); try (conv => cbv))
      exact k3x
  · have k2x := k2 rfl rfl hin
    clear k1 k2 k3 hall hsb hvt
    simp only [expA, polsA, polsD, segsA, segsD, List.map_nil] at *
    generalize List.map encPol ps = pl at *
    generalize List.map encSeg list = sl at *
    obtain ⟨nodes, ov, links⟩ := t
    simp only [topA, boolsD, linksD] at *
    generalize hol : ov.map encB = ol at *
    generalize hll : links.map encLk = ll at *
    have hlo : Λ ol = ov.length := by rw [Λo, ← hol]; simp
    have hls : Λ ll = links.length := by rw [Λo, ← hll]; simp
    conv => cbv
    repeat' first | refine call_b hv rfl rfl ?_ ?_ | refine call_b hpr rfl rfl ?_ ?_ | (intro hc; cases hc; done) | (intro (_ : Unit); first | omega | rfl | exact ⟨rfl, by omega⟩ | ((first | (rw [nI_eq]; (repeat rw [nI_eq])) | dsimp only); omega) | ((repeat' first | rfl | omega | refine And.intro ?_ ?_ | (simp only [nI_eq]; omega) | (simp only [List.length_cons, List.length_nil]; omega) | exact Nat.le_of_ble_eq_true rfl); done)) | exact trivial | refine And.intro ?_ ?_ | (intro hc; exact absurd hc (by decide)) | (intro hc; exfalso; omega) | (intro hc; (first | rw [wrap_small (by omega) (by omega)] at hc | rw [nI_eq] at hc | skip); try (conv => cbv))
    all_goals exact k2x

end Go.Ab

/-
  Chapter 21, part m: the expansion of any list (the walk).
-/
namespace Go.Ab
open Go.Proofs

/-- the expander's state: lists innermost first, then what the machine holds -/
structure XS where
  (fs : List XFr) (d : Dn) (pos : Int) (kept : List Seg) (kr : Bool) (kv km : Nat) (kes : List (List D)) (fr : Bool) (fv fl : Nat) (fes : List (List D)) (ov : Nat) (oml : List (DV × DV)) (dv : Nat) (dml : List (DV × DV))

theorem vdel_at {a b : Int} {m : Asc} {ml : List (DV × DV)} {i : Nat} {v : DV} {K0 : Prop} {K : List (DV × DV) → Prop} (mlh : m.map encE = ml) (hp : pfind (a, b) m 0 = some (i, v)) (h1 : ∀ es', (m.eraseIdx i).map encE = es' → K es') :
    ∀ r, mfind false 2 [(0, 0), (1, 0)] (.g [.int .i64 a, .int .i64 b]) ml 0 = r → vDel ml K0 K r :=
  vdel_pairs mlh (fun h => by rw [hp] at h; cases h) fun i' v' h => by rw [hp] at h; cases h; exact h1

theorem vlk_pol {ps : List Pol} {a b : Int} {ml : List (DV × DV)} {ok : Bool} {z : AV} {K : AV → Prop} (mlh : (ps.map polE).map encE = ml) (h0 : polOf ps (a, b) = none → K (lkR ok z false)) (h1 : ∀ pl, polOf ps (a, b) = some pl → K (lkR ok (.c (.d (.list false 2 (pl.map encSeg)))) true)) :
    ∀ r, mfind false 2 [(0, 0), (1, 0)] (.g [.int .i64 a, .int .i64 b]) ml 0 = r → vLk ok z K r := by
  have hp := pfind_pol (a, b) ps 0
  refine vlk_pairs mlh (fun h => h0 ?_) fun i v h => ?_
  · rw [h] at hp; exact Option.map_eq_none_iff.1 hp.symm
  · rw [h] at hp
    obtain ⟨pl, h2, h3⟩ := Option.map_eq_some_iff.1 hp.symm
    simp only at h3
    subst h3
    exact h1 pl h2

theorem vlk_done {da : Asc} {d : Dn} {a b : Int} {ml : List (DV × DV)} {ok : Bool} {z : AV} {K : AV → Prop} (mlh : da.map encE = ml) (hd : DoneM da d) (h0 : lkD (a, b) d = none → K (lkR ok z false)) (h1 : ∀ x, lkD (a, b) d = some x → K (lkR ok (.agg [.d (.list false 2 (x.1.map encSeg)), .d (iD x.2)]) true)) :
    ∀ r, mfind false 2 [(0, 0), (1, 0)] (.g [.int .i64 a, .int .i64 b]) ml 0 = r → vLk ok z K r := by
  have hp := hd (a, b)
  refine vlk_pairs mlh (fun h => h0 ?_) fun i v h => ?_
  · rw [h] at hp; exact Option.map_eq_none_iff.1 hp.symm
  · rw [h] at hp
    obtain ⟨x, h2, h3⟩ := Option.map_eq_some_iff.1 hp.symm
    simp only at h3
    subst h3
    exact h1 x h2

set_option maxRecDepth 20000 in
set_option maxHeartbeats 4000000 in
theorem expand_ok (P : Program) (hP : P = Try.prog) (t : Top) (ps : List Pol) (node : Int) (list : List Seg) (hps : ps.length ≤ 1000) (hl : list.length ≤ 1000) : Ret P n_policy_Expand [topA t, polsA ps, iA node, segsA list] (expA (expandS t ps node list)) := by
  have hv := pvalid_ok P hP t ps
  have hsg := fun h => segments_ok P hP t list h
  have hnode := gnode_ok P hP t node
  have htail := fun a h0 h1 h2 => gtail_ok P hP t a h0 h1 h2
  have hhead := fun a h0 h1 h2 => ghead_ok P hP t a h0 h1 h2
  have hcf := fun ll h1 h2 => cloneSegs_fr P hP ll h1 h2
  refine ret_start (hP ▸ mixed) (hP ▸ fn_policy_Expand) (hP ▸ c_policy_Expand) (Nat.le_of_ble_eq_true rfl) fun Λ Λo K hK => ?_
  have gm : P.follows .mixedOrders = true := hP ▸ mixed
  have gf := hP ▸ fn_policy_expander_step
  have bf := hP ▸ fn_policy_expander_binding
  have bc := hP ▸ c_policy_expander_binding
  have gc := hP ▸ c_policy_expander_step
  have kf := hP ▸ fn_policy_expander_keep
  have kc := hP ▸ c_policy_expander_keep
  clear hP
  have k1 : ¬ (polsB t ps = true ∧ list.all (segB t) = true) → K (expA ([], 1)) := fun h => by unfold expandS at hK; rw [if_neg h] at hK; exact hK
  have k2 : polsB t ps = true → list.all (segB t) = true → ¬ (0 ≤ node ∧ node < t.nodes) → K (expA ([], 2)) := fun h1 h2 h => by unfold expandS at hK; rw [if_pos ⟨h1, h2⟩, if_neg h] at hK; exact hK
  obtain ⟨R, hR⟩ : ∃ R, contS t ps ps.length [⟨list, (0, 0), 0⟩] [] node = R := ⟨_, rfl⟩
  have k3 : polsB t ps = true → list.all (segB t) = true → (0 ≤ node ∧ node < t.nodes) → K (expA (resE R)) := fun h1 h2 h => by
    unfold expandS at hK; rw [if_pos ⟨h1, h2⟩, if_pos h] at hK
    have : resE R = resE (foldS (oneS t ps ps.length []) [] node list) := by
      rw [← hR]
      simp only [contS, opOf, List.length_nil, Nat.sub_zero]
      cases foldS (oneS t ps ps.length []) [] node list <;> rfl
    rw [this]; exact hK
  clear hK
  have hv1 : polsB t ps = true → (t.links.length : Int) ≤ 256 := fun h => (validT_spec.1 (polsB_spec.1 h).1).2.2.1
  have hnd : polsB t ps = true → (ps.map keyP).Nodup := fun h => (polsB_spec.1 h).2.2
  have hsb : list.all (segB t) = true → ∀ s ∈ list, segB t s = true := fun h => List.all_eq_true.1 h
  have hpv : polsB t ps = true → ∀ k pl, polOf ps k = some pl → pl.length ≤ 32 ∧ ∀ s ∈ pl, segB t s = true := fun h k pl hk => by
    obtain ⟨_, p, hp, _, rfl⟩ := polOf_mem hk
    have := polB_spec.1 ((polsB_spec.1 h).2.1 p hp)
    exact ⟨this.2.2.1, List.all_eq_true.1 this.2.2.2⟩
  generalize polsB t ps = pb at *
  generalize list.all (segB t) = la at *
  generalize hdn : decide (0 ≤ node ∧ node < t.nodes) = dn at *
  have hdn' : dn = true ↔ 0 ≤ node ∧ node < t.nodes := by rw [← hdn]; simp
  have hseg := fun s => @segB_spec t s
  simp only [expA, polsA, polsD, segsA, segsD, List.map_nil] at *
  generalize plh : List.map encPol ps = pl at *
  have pln : Λ pl = ps.length := by rw [Λo, ← plh]; simp
  generalize slh : List.map encSeg list = sl at *
  cases pb with
  | false =>
    obtain ⟨nodes, ov, links⟩ := t
    simp only [topA, boolsD, linksD] at *
    generalize hol : ov.map encB = ol at *
    generalize hll : links.map encLk = ll at *
    have hlo : Λ ol = ov.length := by rw [Λo, ← hol]; simp
    have hls : Λ ll = links.length := by rw [Λo, ← hll]; simp
    conv => cbv
    repeat' first | refine call_b hv rfl rfl ?_ ?_ | (intro hc; cases hc; done) | (intro (_ : Unit); first | omega | rfl | exact ⟨rfl, by omega⟩ | (simp only [nI_eq]; omega) | ((repeat' first | rfl | omega | refine And.intro ?_ ?_ | (simp only [nI_eq]; omega) | exact Nat.le_of_ble_eq_true rfl); done)) | exact trivial | refine And.intro ?_ ?_ | (intro hc; exact absurd hc (by decide)) | (intro hc; exfalso; omega) | (intro hc; (first | rw [wrap_small (by omega) (by omega)] at hc | rw [nI_eq] at hc | skip); try (conv => cbv))
    exact k1 (by simp)
  | true =>
  have hv1 := hv1 rfl
  have hsg := hsg hv1
  cases la with
  | false =>
    obtain ⟨nodes, ov, links⟩ := t
    simp only [topA, boolsD, linksD] at *
    generalize hol : ov.map encB = ol at *
    generalize hll : links.map encLk = ll at *
    have hlo : Λ ol = ov.length := by rw [Λo, ← hol]; simp
    have hls : Λ ll = links.length := by rw [Λo, ← hll]; simp
    conv => cbv
    repeat' first | refine call_b hv rfl rfl ?_ ?_ | refine call_b hsg rfl rfl ?_ ?_ | (intro hc; cases hc; done) | (intro (_ : Unit); first | omega | rfl | exact ⟨rfl, by omega⟩ | (simp only [nI_eq]; omega) | ((repeat' first | rfl | omega | refine And.intro ?_ ?_ | (simp only [nI_eq]; omega) | exact Nat.le_of_ble_eq_true rfl); done)) | exact trivial | refine And.intro ?_ ?_ | (intro hc; exact absurd hc (by decide)) | (intro hc; exfalso; omega) | (intro hc; (first | rw [wrap_small (by omega) (by omega)] at hc | rw [nI_eq] at hc | skip); try (conv => cbv))
    exact k1 (by simp)
  | true =>
  cases dn with
  | false =>
    have k2x := k2 rfl rfl (fun h => by have := hdn'.2 h; cases this)
    obtain ⟨nodes, ov, links⟩ := t
    simp only [topA, boolsD, linksD] at *
    generalize hol : ov.map encB = ol at *
    generalize hll : links.map encLk = ll at *
    have hlo : Λ ol = ov.length := by rw [Λo, ← hol]; simp
    have hls : Λ ll = links.length := by rw [Λo, ← hll]; simp
    conv => cbv
    repeat' first | refine call_b hv rfl rfl ?_ ?_ | refine call_b hsg rfl rfl ?_ ?_ | refine call_b hnode rfl rfl ?_ ?_ | (intro hc; cases hc; done) | (intro (_ : Unit); first | omega | rfl | exact ⟨rfl, by omega⟩ | (simp only [nI_eq]; omega) | ((repeat' first | rfl | omega | refine And.intro ?_ ?_ | (simp only [nI_eq]; omega) | exact Nat.le_of_ble_eq_true rfl); done)) | exact trivial | refine And.intro ?_ ?_ | (intro hc; exact absurd hc (by decide)) | (intro hc; exfalso; omega) | (intro hc; (first | rw [wrap_small (by omega) (by omega)] at hc | rw [nI_eq] at hc | skip); try (conv => cbv))
    exact k2x
  | true =>
  have hin := hdn'.1 rfl
  have k3x := k3 rfl rfl hin
  have hsbx := hsb rfl
  have hpvx : Hid _ := hpv rfl
  clear k1 k2 k3 hsb hdn hdn' hpv
  have htailx := fun a h0 h1 => htail a h0 h1 hv1
  have hheadx := fun a h0 h1 => hhead a h0 h1 hv1
  clear htail hhead
  obtain ⟨nodes, ov, links⟩ := t
  simp only [topA, boolsD, linksD] at *
  generalize hol : ov.map encB = ol at *
  generalize hll : links.map encLk = ll at *
  have hlo : Λ ol = ov.length := by rw [Λo, ← hol]; simp
  have hls : Λ ll = links.length := by rw [Λo, ← hll]; simp
  conv => cbv
  repeat' first | refine call_b hv rfl rfl ?_ ?_ | refine call_b hsg rfl rfl ?_ ?_ | refine call_b hnode rfl rfl ?_ ?_ | (intro hc; cases hc; done) | (intro (_ : Unit); first | omega | rfl | exact ⟨rfl, by omega⟩ | (simp only [nI_eq]; omega) | ((repeat' first | rfl | omega | refine And.intro ?_ ?_ | (simp only [nI_eq]; omega) | exact Nat.le_of_ble_eq_true rfl); done)) | exact trivial | refine And.intro ?_ ?_ | (intro hc; exact absurd hc (by decide)) | (intro hc; exfalso; omega) | (intro hc; (first | rw [wrap_small (by omega) (by omega)] at hc | rw [nI_eq] at hc | skip); try (conv => cbv))
  refine loop_upx ps.length (fun (s : Int × Nat × List (DV × DV)) => [(3, .c (.d (.list false 2 sl))), (10, .c (.ptr 4 0 0 0)), (35, .c (.d (.list false 3 pl))), (36, iA (Λ pl)), (37, iA s.1)])
    (fun s => [.bx [.d (iD nodes), .d (.list false 1 ol), .d (.list false 7 ll)], .mp s.2.1 s.2.2, .mp 0 [], .mp 0 [], .bx [.d (iD nodes), .d (.list false 1 ol), .d (.list false 7 ll), .mp 1, .mp 2, .mp 3, .d (.list true 4 []), .d (.list true 2 []), .d (iD node)]])
    (fun k s => s.1 = k ∧ k ≤ ps.length ∧ ((ps.take k).map polE).map encE = s.2.2) (0, 0, [])
    0 (fun (s : Nat × List (DV × DV)) => [(3, .c (.d (.list false 2 sl))), (10, .c (.ptr 4 0 0 0))])
    (fun s => [.bx [.d (iD nodes), .d (.list false 1 ol), .d (.list false 7 ll)], .mp s.1 s.2, .mp 0 [], .mp 0 [], .bx [.d (iD nodes), .d (.list false 1 ol), .d (.list false 7 ll), .mp 1, .mp 2, .mp 3, .d (.list true 4 []), .d (.list true 2 []), .d (iD node)]]) (fun s => (ps.map polE).map encE = s.2)
    (Wk.cut ⟨_, rfl⟩ (Nat.zero_le _) rfl (by repeat' first | exact trivial | refine And.intro ?_ ?_ | rfl)) ⟨rfl, by omega, rfl⟩ (fun k s h => h.2.1) ?_ ?_
  · rintro k ⟨i, ve, ml⟩ Q' ⟨hi, hk, mlh⟩ norm jn ex rt
    simp only at hi mlh
    by_cases hlt : k < ps.length
    · obtain ⟨x, hx⟩ : ∃ x, ps[k]? = some x := ⟨_, List.getElem?_eq_getElem hlt⟩
      have hxa := elt_at plh hi hx
      have hnx := (nodup_take_succ hx).1 (List.Nodup.sublist (List.Sublist.map _ (List.take_sublist _ _)) (hnd trivial))
      have hnew : pfind (keyP x) ((ps.take k).map polE) 0 = none := pfind_none.2 (by rw [List.map_map]; exact hnx.2)
      have htk := take_succ_get hx
      obtain ⟨xn, xb, xl⟩ := x
      simp only [keyP] at hnew
      simp only [encPol, segsD] at hxa
      generalize hxsl : List.map encSeg xl = xsl at *
      conv => cbv
      repeat' first | (refine ex _ _ _ ?_; (conv => cbv)) | (intro e he; cases Option.some.inj (he.symm.trans hxa); (conv => cbv)) | refine vup_set mlh (pfind_none.1 hnew) ?_ | (intro (_ : Unit); first | omega | rfl | exact ⟨rfl, by omega⟩ | (simp only [nI_eq]; omega) | ((repeat' first | rfl | omega | refine And.intro ?_ ?_ | (simp only [nI_eq]; omega) | exact Nat.le_of_ble_eq_true rfl); done)) | exact trivial | refine And.intro ?_ ?_ | (intro hc; exact absurd hc (by decide)) | (intro hc; exfalso; omega) | (intro hc; (first | rw [wrap_small (by omega) (by omega)] at hc | rw [nI_eq] at hc | skip); try (conv => cbv))
      all_goals
        rename_i es' hes i'
        refine norm _ _ (_, _, es') ?_ (Wk.cut ⟨_, rfl⟩ (Nat.zero_le _) rfl (by repeat' first | exact trivial | refine And.intro ?_ ?_ | rfl))
        refine ⟨by simp only; omega, by omega, ?_⟩
        simp only
        rw [htk, List.map_append, ← hes, ← hxsl]
        rfl
    · conv => cbv
      repeat' first | (intro (_ : Unit); first | omega | rfl | exact ⟨rfl, by omega⟩ | (simp only [nI_eq]; omega) | ((repeat' first | rfl | omega | refine And.intro ?_ ?_ | (simp only [nI_eq]; omega) | exact Nat.le_of_ble_eq_true rfl); done)) | exact trivial | refine And.intro ?_ ?_ | (intro hc; exact absurd hc (by decide)) | (intro hc; exfalso; omega) | (intro hc; (first | rw [wrap_small (by omega) (by omega)] at hc | rw [nI_eq] at hc | skip); try (conv => cbv))
      exact jn _ _ (_, _) (by simp only; rw [← mlh, List.take_of_length_le (by omega)]) (Wk.cut ⟨_, rfl⟩ (Nat.zero_le _) rfl (by repeat' first | exact trivial | refine And.intro ?_ ?_ | rfl))
  rintro ⟨ve, ml⟩ hml
  simp only at hml
  conv => cbv
  repeat' first | (intro (_ : Unit); first | omega | rfl | exact ⟨rfl, by omega⟩ | (simp only [nI_eq]; omega) | ((repeat' first | rfl | omega | refine And.intro ?_ ?_ | (simp only [nI_eq]; omega) | exact Nat.le_of_ble_eq_true rfl); done)) | exact trivial | refine And.intro ?_ ?_ | (intro hc; exact absurd hc (by decide)) | (intro hc; exfalso; omega) | (intro hc; (first | rw [wrap_small (by omega) (by omega)] at hc | rw [nI_eq] at hc | skip); try (conv => cbv))
  refine loop_up (ps.length * 40 + list.length + 2) (fun (s : XS) => [(10, .c (.ptr 4 0 0 0))])
    (fun s => [.bx [.d (iD nodes), .d (.list false 1 ol), .d (.list false 7 ll)], .mp ve ml, .mp s.ov s.oml, .mp s.dv s.dml, .bx [.d (iD nodes), .d (.list false 1 ol), .d (.list false 7 ll), .mp 1, .mp 2, .mp 3, .arr 5 s.fv 0 s.fl, .arr 6 s.kv 0 s.km, .d (iD s.pos)],
      .da s.fr s.fv 4 s.fes, .da s.kr s.kv 2 s.kes])
    (fun k s => s.km = s.kes.length ∧ s.kes = s.kept.map encSeg ∧ ((s.fl = s.fs.length ∧ s.fl ≠ 0 ∧ s.fes.take s.fl = s.fs.reverse.map encF ∧ XInv ⟨nodes, ov, links⟩ ps s.d s.fs s.kept s.pos ∧ contS ⟨nodes, ov, links⟩ ps ps.length s.fs s.kept s.pos = R ∧
        k + muX ps s.d s.fs ≤ ps.length * 40 + list.length + 1 ∧ (∀ f ∈ s.fs, (∀ x ∈ f.list, segB ⟨nodes, ov, links⟩ x = true) ∧ f.beg ≤ s.kept.length) ∧ (∃ oa : Asc, oa.map encE = s.oml ∧ OpenM oa (opOf s.fs)) ∧ (∃ da : Asc, da.map encE = s.dml ∧ DoneM da s.d ∧ ∀ k x, lkD k s.d = some x → x.1.length ≤ 32)) ∨
      (s.fl = 0 ∧ k ≤ ps.length * 40 + list.length + 2 ∧ ∃ p, R = .ok s.kept p)))
    ⟨[⟨list, (0, 0), 0⟩], [], node, [], false, 0, 0, [], true, 0, 1, [encF ⟨list, (0, 0), 0⟩], 0, [], 0, []⟩ (by simp only [encF, segsD]; rw [slh]; exact .trans (.nilB 4 7 2 _ rfl rfl) (Wk.cut ⟨_, rfl⟩ (Nat.zero_le _) rfl (by repeat' first | exact trivial | refine And.intro ?_ ?_ | rfl)))
    ⟨rfl, rfl, .inl ⟨rfl, Nat.one_ne_zero, rfl, ⟨trivial, trivial, by simp [opOf], by simp⟩, hR, by simp [muX, sumF, opOf]; omega, fun f hf => by obtain rfl := List.mem_singleton.1 hf; exact ⟨hsbx, Nat.le_refl 0⟩, ⟨[], rfl, OpenM.nil⟩, ⟨[], rfl, DoneM.nil, fun k x h => by cases h⟩⟩⟩ (fun k s h => by rcases h.2.2 with h | h <;> omega) ?_
  rintro k ⟨fs, d, pos, kept, kr, kv, km, kes, fr, fv, fl, fes, ov', oml, dv, dml⟩ Q' ⟨hkm, hkes, hph⟩ norm ex rt
  simp only at hkm hkes hph
  rcases hph with ⟨hfl, hfl0, hfes, hinv, hcont, hmu, hsegs, ⟨oa, hoa, hopen⟩, ⟨da, hda, hdone, hdl⟩⟩ | ⟨hfl, hkl, p, hRp⟩
  · have hcap : fs.length ≤ 100000 := by
      have : fs.length ≤ sumF fs := by
        clear hfes hinv hcont hmu hsegs hopen hfl hfl0
        induction fs with
        | nil => simp
        | cons f r ih => rw [sumF_cons, List.length_cons]; omega
      simp only [muX] at hmu
      omega
    cases fs with
    | nil => exact absurd hfl hfl0
    | cons f r =>
    have hfn : fl = r.length + 1 := by rw [hfl]; rfl
    have hlast : fes[r.length]? = some (encF f) := by
      have : (fes.take fl)[r.length]? = some (encF f) := by rw [hfes, List.reverse_cons, List.map_append, List.getElem?_append_right (by simp)]; simp
      rw [List.getElem?_take] at this
      rw [if_pos (by omega)] at this
      exact this
    obtain ⟨flist, ⟨fk1, fk2⟩, fb⟩ := f
    simp only [encF, segsD] at hlast
    clear hfl hfl0
    subst hfn
    generalize hrn : r.length = rn at *
    have hfel := get_lt hlast
    have hfbk : fb ≤ km := by rw [hkm, hkes, List.length_map]; exact (hsegs _ List.mem_cons_self).2
    generalize hfbi : (fb : Int) = fbi at hlast
    have hkl32 := hinv.lim
    have hkesl : kes.length ≤ 32 := by rw [hkes, List.length_map]; exact hkl32
    have hscal : ∀ e ∈ kes, ∀ d ∈ e, scalD d = true := by
      intro e he d hd
      rw [hkes] at he
      obtain ⟨s, _, rfl⟩ := List.mem_map.1 he
      simp only [encSeg, List.mem_cons, List.not_mem_nil, or_false] at hd
      rcases hd with rfl | rfl <;> rfl
    cases flist with
    | nil =>
      simp only [List.map_nil] at hlast
      cases r with
      | nil =>
        conv => cbv
        repeat' first | (refine call_in gm gf gc (Nat.le_of_ble_eq_true rfl) fun Λ1 Λ1o => ?_; have r1 := Λ1o []; simp only [List.length_nil] at r1; conv => cbv) | (intro (j : Nat) hj; refine (fun (hz : rn = j) => ?_) ?_; rotate_left; omega; subst hz; (conv => cbv)) | (intro (e : List D) he; cases Option.some.inj (he.symm.trans hlast); (conv => cbv)) | (intro (_ : Unit); exact hfel) | (intro (_ : Unit); exact ⟨rfl, hfel⟩) | (refine call_fra rfl rfl (hcf _ ?_ ?_) ?_; rotate_left; rotate_left; (conv => cbv)) | (refine vup_pairs hda ?_ ?_) | (refine vdel_pairs hoa ?_ ?_) | (refine ex _ _ _ ?_; (conv => cbv)) | (intro (_ : Unit); first | omega | rfl | exact ⟨rfl, by omega⟩ | (simp only [nI_eq]; omega) | ((repeat' first | rfl | omega | refine And.intro ?_ ?_ | (simp only [nI_eq]; omega) | exact Nat.le_of_ble_eq_true rfl); done)) | exact trivial | refine And.intro ?_ ?_ | (intro hc; exact absurd hc (by decide)) | (intro hc; exfalso; omega) | (intro hc; (first | rw [wrap_small (by omega) (by omega)] at hc | rw [nI_eq] at hc | skip); try (conv => cbv))
        all_goals try (first
          | (simp only [List.length_take, List.length_drop]; omega)
          | exact hscal _ (List.mem_of_mem_drop (List.mem_of_mem_take (by assumption))) _ (by assumption))
        all_goals
          simp only [List.length_nil] at hrn
          refine norm _ _ ⟨[], [], pos, kept, kr, kv, km, kes, fr, fv, _, fes, _, _, _, _⟩ ⟨hkm, hkes, .inr ⟨?_, ?_, pos, ?_⟩⟩ (Wk.cut ⟨_, rfl⟩ (Nat.zero_le _) rfl (by repeat' first | exact trivial | refine And.intro ?_ ?_ | rfl))
          · simp only; omega
          · omega
          · rw [← hcont]; exact x_end rfl
      | cons g r =>
        obtain ⟨hx1, hx2, hx3⟩ := x_pop hinv rfl
        have hndk : ((fk1, fk2) :: opOf (g :: r)).Nodup := hinv.nd
        have hfk := (hist_op hinv.hist (fk1, fk2) List.mem_cons_self).1
        have hpn : (fk1, fk2) ∉ da.map (·.1) := by have := hdone (fk1, fk2); rw [hfk] at this; exact pfind_none.1 (Option.map_eq_none_iff.1 this)
        obtain ⟨oi, ov, hpo⟩ : ∃ i v, pfind (fk1, fk2) oa 0 = some (i, v) := by
          cases hp : pfind (fk1, fk2) oa 0 with
          | none => exact absurd ((hopen.mem _).2 List.mem_cons_self) (pfind_none.1 hp)
          | some x => exact ⟨x.1, x.2, rfl⟩
        have hless := hopen.less (List.nodup_cons.1 hndk).1 (pfind_some hpo).2
        have hmore := hdone.more (e := ((fk1, fk2), (kept.drop fb, pos))) hfk
        conv => cbv
        repeat' first | (refine call_in gm gf gc (Nat.le_of_ble_eq_true rfl) fun Λ1 Λ1o => ?_; have r1 := Λ1o []; simp only [List.length_nil] at r1; conv => cbv) | (intro (j : Nat) hj; refine (fun (hz : rn = j) => ?_) ?_; rotate_left; omega; subst hz; (conv => cbv)) | (intro (e : List D) he; cases Option.some.inj (he.symm.trans hlast); (conv => cbv)) | (intro (_ : Unit); exact hfel) | (intro (_ : Unit); exact ⟨rfl, hfel⟩) | (refine call_fra rfl rfl (hcf _ ?_ ?_) ?_; rotate_left; rotate_left; generalize hcl : List.take _ (List.drop _ _) = cl; (conv => cbv)) | (refine vup_set hda hpn ?_) | (refine vdel_at hoa hpo ?_) | (refine ex _ _ _ ?_; (conv => cbv)) | (intro (_ : Unit); first | omega | rfl | exact ⟨rfl, by omega⟩ | (simp only [nI_eq]; omega) | ((repeat' first | rfl | omega | refine And.intro ?_ ?_ | (simp only [nI_eq]; omega) | exact Nat.le_of_ble_eq_true rfl); done)) | exact trivial | refine And.intro ?_ ?_ | (intro hc; exact absurd hc (by decide)) | (intro hc; exfalso; omega) | (intro hc; (first | rw [wrap_small (by omega) (by omega)] at hc | rw [nI_eq] at hc | skip); try (conv => cbv))
        all_goals try (first
          | (simp only [List.length_take, List.length_drop]; omega)
          | exact hscal _ (List.mem_of_mem_drop (List.mem_of_mem_take (by assumption))) _ (by assumption))
        rename_i i' n' hi' hn' de hde oe hoe
        have hkmk : km = kept.length := by rw [hkm, hkes, List.length_map]
        have hkd : cl = (kept.drop fb).map encSeg := by
          rw [← hcl, hkes, ← List.map_drop]
          refine (List.take_of_length_le (by simp; omega)).trans ?_
          congr 2
          omega
        rw [hkd] at hde
        have hnr : rn = (g :: r).length := by omega
        have hx3' : muX ps (((fk1, fk2), (kept.drop fb, pos)) :: d) (g :: r) + 1 ≤ muX ps d (⟨[], (fk1, fk2), fb⟩ :: g :: r) := hx3
        refine norm _ _ ⟨g :: r, ((fk1, fk2), (kept.drop fb, pos)) :: d, pos, kept, kr, kv, km, kes, fr, fv, rn, fes, _, oe, _, de⟩ ?_ (Wk.cut ⟨_, rfl⟩ (Nat.zero_le _) rfl (by repeat' first | exact trivial | refine And.intro ?_ ?_ | rfl))
        refine ⟨hkm, hkes, .inl ⟨hnr, by simp [hnr], ?_, hx1, hx2.symm.trans hcont, ?_, fun f hf => hsegs f (List.mem_cons_of_mem _ hf), ⟨_, hoe, hless⟩, ⟨_, hde, hmore, fun k x h => ?_⟩⟩⟩
        · have h1 : List.take rn (List.take (rn + 1) fes) = List.take rn fes := by rw [List.take_take, Nat.min_eq_left (by omega)]
          simp only
          rw [← h1, hfes, List.reverse_cons, List.map_append, List.take_append_of_le_length (by simp [hnr]), List.take_of_length_le (by simp [hnr])]
        · simp only
          omega
        · simp only [lkD] at h
          split at h
          · cases h; simp; omega
          · exact hdl k x h
    | cons s0 l0 =>
      have hsb0 : segB ⟨nodes, ov, links⟩ s0 = true := (hsegs _ List.mem_cons_self).1 s0 List.mem_cons_self
      have hsv := (hseg s0).1 hsb0
      have kerr : ∀ e : Int, contS ⟨nodes, ov, links⟩ ps ps.length (⟨s0 :: l0, (fk1, fk2), fb⟩ :: r) kept pos = .err e → K (.tup [.c (.d (.list false 2 [])), iA e]) := fun e h => by
        rw [hcont] at h; rw [h] at k3x; exact k3x
      have hfe2 : (fes.set rn (encF ⟨l0, (fk1, fk2), fb⟩)).take (rn + 1) = List.map encF (⟨l0, (fk1, fk2), fb⟩ :: r).reverse := by
        rw [List.take_set, hfes, List.reverse_cons, List.reverse_cons, List.map_append, List.map_append, List.set_append_right _ _ (by simp [hrn])]
        simp [hrn]
      have hkmk : km = kept.length := by rw [hkm, hkes, List.length_map]
      have hsegs2 : ∀ m : Nat, kept.length ≤ m → ∀ f ∈ (⟨l0, (fk1, fk2), fb⟩ :: r : List XFr), (∀ x ∈ f.list, segB ⟨nodes, ov, links⟩ x = true) ∧ f.beg ≤ m := fun m hm f hf => by
        rcases List.mem_cons.1 hf with rfl | hf
        · exact ⟨fun x hx => (hsegs _ List.mem_cons_self).1 x (List.mem_cons_of_mem _ hx), Nat.le_trans (hsegs _ List.mem_cons_self).2 hm⟩
        · exact ⟨(hsegs f (List.mem_cons_of_mem _ hf)).1, Nat.le_trans (hsegs f (List.mem_cons_of_mem _ hf)).2 hm⟩
      have nxa : ∀ (L' : Lv) (h' : Hp) (add : List Seg) (p2 : Int) (kr2 : Bool) (kv2 km2 : Nat) (ke2 fe2 : List (List D)),
          contS ⟨nodes, ov, links⟩ ps ps.length (⟨s0 :: l0, (fk1, fk2), fb⟩ :: r) kept pos = contS ⟨nodes, ov, links⟩ ps ps.length (⟨l0, (fk1, fk2), fb⟩ :: r) (kept ++ add) p2 →
          XInv ⟨nodes, ov, links⟩ ps d (⟨l0, (fk1, fk2), fb⟩ :: r) (kept ++ add) p2 → ke2 = kes ++ add.map encSeg → km2 = km + add.length → fe2 = fes.set rn (encF ⟨l0, (fk1, fk2), fb⟩) →
          Wk 0 L' h' [(10, .c (.ptr 4 0 0 0))] [.bx [.d (iD nodes), .d (.list false 1 ol), .d (.list false 7 ll)], .mp ve ml, .mp ov' oml, .mp dv dml, .bx [.d (iD nodes), .d (.list false 1 ol), .d (.list false 7 ll), .mp 1, .mp 2, .mp 3, .arr 5 fv 0 (rn + 1), .arr 6 kv2 0 km2, .d (iD p2)],
            .da fr fv 4 fe2, .da kr2 kv2 2 ke2] → Q' .normal L' h' := fun L' h' add p2 kr2 kv2 km2 ke2 fe2 h1 h2 h3 h4 h5 hw =>
        norm L' h' ⟨⟨l0, (fk1, fk2), fb⟩ :: r, d, p2, kept ++ add, kr2, kv2, km2, ke2, fr, fv, rn + 1, fe2, ov', oml, dv, dml⟩
          ⟨by simp only; rw [h3, h4, hkm]; simp, by simp only; rw [h3, hkes]; simp, .inl ⟨by simp [hrn], by simp, by simp only; rw [h5]; exact hfe2, h2, h1.symm.trans hcont,
            by have := mu_seg (ps := ps) (d := d) (r := r) (f := ⟨s0 :: l0, (fk1, fk2), fb⟩) rfl; simp only at this ⊢; omega,
            hsegs2 _ (by simp), ⟨oa, hoa, by rw [opOf_list ⟨s0 :: l0, (fk1, fk2), fb⟩]; exact hopen⟩, ⟨da, hda, hdone, hdl⟩⟩⟩ hw
      have htk : List.take km (List.drop 0 kes) = kes := by rw [List.drop_zero]; exact List.take_of_length_le (by omega)
      obtain ⟨sk, sn⟩ := s0
      by_cases h4 : sk = 4
      · subst h4
        obtain ⟨c1, c2, c3, c4, c5, c6⟩ := x_bind hinv rfl rfl
        have e7 : pos = -1 → K (.tup [.c (.d (.list false 2 [])), iA 7]) := fun h => kerr 7 (c1 h)
        have e8 : pos ≠ -1 → polOf ps (pos, sn) = none → K (.tup [.c (.d (.list false 2 [])), iA 8]) := fun h h' => kerr 8 (c2 h h')
        have e16 : ∀ pl, pos ≠ -1 → polOf ps (pos, sn) = some pl → (pos, sn) ∈ oa.map (·.1) → K (.tup [.c (.d (.list false 2 [])), iA 16]) := fun pl h h' h'' => kerr 16 (c3 pl h h' ((hopen.mem _).1 h''))
        have e6 : ∀ pl x, pos ≠ -1 → polOf ps (pos, sn) = some pl → lkD (pos, sn) d = some x → ¬ km + x.1.length ≤ 32 → K (.tup [.c (.d (.list false 2 [])), iA 6]) := fun pl x h h' h'' h3 => kerr 6 (c4 pl x h h' h'' (by rw [← hkmk]; exact h3))
        have na : ∀ pl x, pos ≠ -1 → polOf ps (pos, sn) = some pl → lkD (pos, sn) d = some x → km + x.1.length ≤ 32 → _ := fun pl x h h' h'' h3 => c5 pl x h h' h'' (by rw [← hkmk]; exact h3)
        have nxp : ∀ (L' : Lv) (h' : Hp) (pl : List Seg) (fr2 : Bool) (oe : List (DV × DV)) (fe3 : List (List D)) (c : Int), pos ≠ -1 → polOf ps (pos, sn) = some pl → (pos, sn) ∉ oa.map (·.1) → lkD (pos, sn) d = none → c = km →
            (oa ++ [((pos, sn), DV.s (.bool true))]).map encE = oe → fe3 = (fes.set rn (encF ⟨l0, (fk1, fk2), fb⟩)).take (rn + 1) ++ [[segsD pl, iD pos, iD sn, iD c]] →
            Wk 0 L' h' [(10, .c (.ptr 4 0 0 0))] [.bx [.d (iD nodes), .d (.list false 1 ol), .d (.list false 7 ll)], .mp ve ml, .mp (ov' + 1) oe, .mp dv dml, .bx [.d (iD nodes), .d (.list false 1 ol), .d (.list false 7 ll), .mp 1, .mp 2, .mp 3, .arr 5 (fv + 1) 0 (rn + 2), .arr 6 kv 0 km, .d (iD pos)],
              .da fr2 (fv + 1) 4 fe3, .da kr kv 2 kes] → Q' .normal L' h' := fun L' h' pl fr2 oe fe3 c h1 h2 h3 h4 h5 h6 h7 hw => by
          have h3' : (pos, sn) ∉ opOf (⟨⟨4, sn⟩ :: l0, (fk1, fk2), fb⟩ :: r) := fun h => h3 ((hopen.mem _).2 h)
          obtain ⟨g1, g2, g3⟩ := c6 pl h1 h2 h3' h4 (hpvx.out _ _ h2).1
          refine norm L' h' ⟨⟨pl, (pos, sn), kept.length⟩ :: ⟨l0, (fk1, fk2), fb⟩ :: r, d, pos, kept, kr, kv, km, kes, fr2, fv + 1, rn + 2, fe3, ov' + 1, oe, dv, dml⟩ ⟨hkm, hkes, .inl ⟨by simp [hrn], by simp, ?_, g2, g1.symm.trans hcont, ?_, ?_, ⟨_, h6, ?_⟩, ⟨da, hda, hdone, hdl⟩⟩⟩ hw
          · simp only
            rw [h7, hfe2, List.take_of_length_le (by simp [hrn])]
            simp [encF, h5, hkmk]
          · simp only at g3 ⊢
            omega
          · intro f hf
            rcases List.mem_cons.1 hf with rfl | hf
            · exact ⟨(hpvx.out _ _ h2).2, Nat.le_refl _⟩
            · exact hsegs2 _ (Nat.le_refl _) f hf
          · have : opOf (⟨pl, (pos, sn), kept.length⟩ :: ⟨l0, (fk1, fk2), fb⟩ :: r) = (pos, sn) :: opOf (⟨⟨4, sn⟩ :: l0, (fk1, fk2), fb⟩ :: r) := by rw [← opOf_list ⟨⟨4, sn⟩ :: l0, (fk1, fk2), fb⟩ l0 r]; rfl
            simp only
            rw [this]
            exact hopen.more h3'
        have hotr := hopen.tr
        have htk2 : ∀ l : List (List D), List.take (rn + 1) (List.drop 0 l) = List.take (rn + 1) l := fun l => by rw [List.drop_zero]
        have hrb : rn ≤ 100000 := by simp only [List.length_cons] at hcap; omega
        have hcx : ∀ n : Nat, n ≤ 64 → (km + n) * 16 ≤ 140737488355328 := fun n h => by omega
        have hcy : ∀ n : Nat, n = 1 → (rn + 1 + n) * 48 ≤ 140737488355328 := fun n h => by subst h; omega
        clear norm k3x hcont hmu hsegs hsegs2 hopen kerr c1 c2 c3 c4 c5 c6 hcap
        replace e7 : Hid _ := e7
        replace e8 : Hid _ := e8
        replace e16 : Hid _ := e16
        replace e6 : Hid _ := e6
        replace na : Hid _ := na
        replace nxp : Hid _ := nxp
        replace nxa : Hid _ := nxa
        clear htailx hheadx
        generalize hrlh : List.map encSeg (⟨4, sn⟩ :: l0) = rl at *
        have rl0 : rl[(0 : Int).toNat]? = some [iD 4, iD sn] := by rw [← hrlh]; rfl
        have rl1 : List.drop 1 rl = l0.map encSeg := by rw [← hrlh]; rfl
        have rlL : rl.length = l0.length + 1 := by rw [← hrlh]; simp
        simp only [encF, segsD] at nxa nxp
        rw [hfbi] at nxa nxp
        generalize List.map encSeg l0 = rsl at *
        conv => cbv
        repeat' first | (refine call_in gm gf gc (Nat.le_of_ble_eq_true rfl) fun Λ1 Λ1o => ?_; have r1 := Λ1o rl; rw [rlL] at r1; (conv => cbv)) | (refine call_in gm bf bc (Nat.le_of_ble_eq_true rfl) fun Λ3 Λ3o => ?_; conv => cbv) | (refine call_in gm kf kc (Nat.le_of_ble_eq_true rfl) fun Λ2 Λ2o => ?_; have r2 := Λ2o xe; rw [xeL] at r2; (conv => cbv)) | (intro (j : Nat) hj; refine (fun (hz : rn = j) => ?_) ?_; rotate_left; omega; subst hz; (conv => cbv)) | (intro (_ : Unit); exact hfel) | (intro (_ : Unit); exact ⟨rfl, hfel⟩) | (intro (_ : Unit); exact ⟨rfl, hfel, Nat.le_of_ble_eq_true rfl⟩) | (intro (_ : Unit); exact ⟨rfl, hcx xe.length (by omega)⟩) | (intro (_ : Unit); exact hcx xe.length (by omega)) | (intro (_ : Unit); exact ⟨rfl, hcy _ rfl⟩) | (intro (_ : Unit); exact hcy _ rfl) | (intro (e : List D) he; cases Option.some.inj (he.symm.trans hlast); (conv => cbv)) | (intro (e : List D) he; cases Option.some.inj (he.symm.trans rl0); (conv => cbv)) | (intro (x : List (List D)) hx; have e := hx.trans rl1; subst e; (conv => cbv)) | (intro (fe2 : List (List D)) (hfx : fe2 = fes.set rn [D.list false 2 _, iD fk1, iD fk2, iD fbi]); (conv => cbv)) | (refine vlk_pol hml ?_ ?_; rotate_left; intro pl hpl; generalize hple : List.map encSeg pl = ple; (conv => cbv)) | (refine vlk_done hda hdone ?_ ?_; rotate_left; intro x hx; obtain ⟨xl, xp⟩ := x; simp only; generalize hxe : List.map encSeg xl = xe; have xeL : xe.length = xl.length := (by rw [← hxe]; simp); have xlb : xl.length ≤ 32 := hdl _ _ hx; (conv => cbv)) | (refine vlk_set hoa hotr ?_ ?_) | (refine vup_set hoa (by assumption) ?_) | (intro (km2 : Nat) (kr2 : Bool) (ke2 : List (List D)) (hm2 : km2 = km + xe.length) hr2 (hke : ke2 = List.take km (List.drop 0 kes) ++ xe); rw [htk] at hke; (conv => cbv)) | (refine rt _ _ ?_; (conv => cbv)) | (intro (_ : Unit); first | omega | rfl | exact ⟨rfl, by omega⟩ | (simp only [nI_eq]; omega) | ((repeat' first | rfl | omega | refine And.intro ?_ ?_ | (simp only [nI_eq]; omega) | exact Nat.le_of_ble_eq_true rfl); done)) | exact trivial | refine And.intro ?_ ?_ | (intro hc; exact absurd hc (by decide)) | (intro hc; exfalso; omega) | (intro hc; (first | rw [wrap_small (by omega) (by omega)] at hc | rw [nI_eq] at hc | skip); try (conv => cbv))
        all_goals first
          | (refine e7.out ?_; omega)
          | (refine e8.out ?_ ?_; omega; assumption)
          | (refine e16.out pl ?_ hpl ?_; omega; assumption)
          | (refine e6.out pl _ ?_ hpl hx ?_; omega; simp only; omega)
          | (obtain ⟨hq1, hq2⟩ := na.out pl _ (by omega) hpl hx (by simp only; omega); exact nxa.out _ _ xl _ _ _ _ _ _ hq1 hq2 (by rw [hxe]; exact hke) (by rw [← xeL]; exact hm2) hfx (Wk.cut ⟨_, rfl⟩ (Nat.zero_le _) rfl (by repeat' first | exact trivial | refine And.intro ?_ ?_ | rfl)))
          | skip
        rename_i oe hoe fl3 fr3 fe3 hfl3 hfr3 hfe3
        obtain ⟨c, hc1, hc2⟩ : ∃ c : Int, c = km ∧ fe3 = List.take (rn + 1) fe2 ++ [[D.list false 2 ple, iD pos, iD sn, iD c]] := by
          refine ⟨_, ?_, hfe3⟩
          rw [Λ3o]
          clear hfe3 hfr3 hfl3
          split
          · rfl
          · simp at hkm
          · simp only [List.length_cons, List.length_take] at hkm ⊢
            omega
        rw [hfx] at hc2
        refine nxp.out _ _ pl fr3 oe fe3 c (by assumption) hpl (by assumption) (by assumption) hc1 hoe (by rw [hple]; exact hc2) ?_
        obtain rfl : fl3 = rn + 2 := hfl3
        exact Wk.cut ⟨_, rfl⟩ (Nat.zero_le _) rfl (by repeat' first | exact trivial | refine And.intro ?_ ?_ | rfl)
      · have cc := x_plain hinv rfl h4
        have hp : Hid ((sk = 1 → posS ⟨nodes, ov, links⟩ pos ⟨sk, sn⟩ = (0, sn)) ∧ (sk = 2 → pos = -1 → posS ⟨nodes, ov, links⟩ pos ⟨sk, sn⟩ = (7, pos)) ∧ (sk = 2 → pos ≠ -1 → tailG ⟨nodes, ov, links⟩ sn ≠ pos → posS ⟨nodes, ov, links⟩ pos ⟨sk, sn⟩ = (4, pos)) ∧
            (sk = 2 → pos ≠ -1 → tailG ⟨nodes, ov, links⟩ sn = pos → posS ⟨nodes, ov, links⟩ pos ⟨sk, sn⟩ = (0, headG ⟨nodes, ov, links⟩ sn)) ∧ (sk ≠ 1 → sk ≠ 2 → posS ⟨nodes, ov, links⟩ pos ⟨sk, sn⟩ = (0, -1))) := by
          refine ⟨fun h => ?_, fun h h' => ?_, fun h h' h'' => ?_, fun h h' h'' => ?_, fun h h' => ?_⟩
          · simp [posS, h]
          · simp [posS, h, h']
          · simp [posS, h, h', h'']
          · subst h; simp only [posS]; rw [if_neg (by decide), if_pos trivial, if_neg h', if_pos h'']
          · simp [posS, h, h']
        have pe : ∀ e p, posS ⟨nodes, ov, links⟩ pos ⟨sk, sn⟩ = (e, p) → e ≠ 0 → K (.tup [.c (.d (.list false 2 [])), iA e]) := fun e p h h' => kerr e (by have := cc.1; rw [h] at this; exact this h')
        have p6 : ∀ p, posS ⟨nodes, ov, links⟩ pos ⟨sk, sn⟩ = (0, p) → ¬ km + 1 ≤ 32 → K (.tup [.c (.d (.list false 2 [])), iA 6]) := fun p h h' => kerr 6 (by have := cc.2.1; rw [h, ← hkmk] at this; exact this rfl h')
        have pn : ∀ p2, posS ⟨nodes, ov, links⟩ pos ⟨sk, sn⟩ = (0, p2) → km + 1 ≤ 32 → contS ⟨nodes, ov, links⟩ ps ps.length (⟨⟨sk, sn⟩ :: l0, (fk1, fk2), fb⟩ :: r) kept pos = contS ⟨nodes, ov, links⟩ ps ps.length (⟨l0, (fk1, fk2), fb⟩ :: r) (kept ++ [⟨sk, sn⟩]) p2 ∧
            XInv ⟨nodes, ov, links⟩ ps d (⟨l0, (fk1, fk2), fb⟩ :: r) (kept ++ [⟨sk, sn⟩]) p2 := fun p2 h h' => by have := cc.2.2; rw [h, ← hkmk] at this; exact this rfl h'
        clear norm k3x hcont hmu hsegs hsegs2 hopen hdone cc kerr
        simp only at hsv
        have htx := htailx sn
        have hhx := hheadx sn
        generalize hrlh : List.map encSeg (⟨sk, sn⟩ :: l0) = rl at *
        have rl0 : rl[(0 : Int).toNat]? = some [iD sk, iD sn] := by rw [← hrlh]; rfl
        have rl1 : List.drop 1 rl = l0.map encSeg := by rw [← hrlh]; rfl
        have rlL : rl.length = l0.length + 1 := by rw [← hrlh]; simp
        simp only [encF, segsD] at nxa
        rw [hfbi] at nxa
        generalize List.map encSeg l0 = rsl at *
        have hcap : ∀ n : Nat, n = 1 → (km + n) * 16 ≤ 140737488355328 := fun n h => by subst h; omega
        conv => cbv
        repeat' first | (refine call_in gm gf gc (Nat.le_of_ble_eq_true rfl) fun Λ1 Λ1o => ?_; have r1 := Λ1o rl; rw [rlL] at r1; (conv => cbv)) | (refine call_in gm kf kc (Nat.le_of_ble_eq_true rfl) fun Λ2 Λ2o => ?_; conv => cbv) | (intro (j : Nat) hj; refine (fun (hz : rn = j) => ?_) ?_; rotate_left; omega; subst hz; (conv => cbv)) | (intro (_ : Unit); exact hfel) | (intro (_ : Unit); exact ⟨rfl, hfel⟩) | (intro (_ : Unit); exact ⟨rfl, hfel, Nat.le_of_ble_eq_true rfl⟩) | (intro (_ : Unit); exact hcap _ rfl) | (intro (_ : Unit); exact ⟨rfl, hcap _ rfl⟩) | (intro (_ : Unit); exact ⟨rfl, rfl, hcap _ rfl⟩) | (intro (e : List D) he; cases Option.some.inj (he.symm.trans hlast); (conv => cbv)) | (intro (e : List D) he; cases Option.some.inj (he.symm.trans rl0); (conv => cbv)) | (intro (x : List (List D)) hx; have e := hx.trans rl1; subst e; (conv => cbv)) | (intro (fe2 : List (List D)) (hfx : fe2 = fes.set rn [D.list false 2 _, iD fk1, iD fk2, iD fbi]); (conv => cbv)) | (intro (km2 : Nat) (kr2 : Bool) (ke2 : List (List D)) (hm2 : km2 = km + 1) hr2 (hke : ke2 = List.take km (List.drop 0 kes) ++ [[iD sk, iD sn]]); rw [htk] at hke; (conv => cbv)) | refine call_i (htx (by omega) (by omega)) rfl rfl ?_ | refine call_i (hhx (by omega) (by omega)) rfl rfl ?_ | (refine rt _ _ ?_; (conv => cbv)) | (intro (_ : Unit); first | omega | rfl | exact ⟨rfl, by omega⟩ | (simp only [nI_eq]; omega) | ((repeat' first | rfl | omega | refine And.intro ?_ ?_ | (simp only [nI_eq]; omega) | exact Nat.le_of_ble_eq_true rfl); done)) | exact trivial | refine And.intro ?_ ?_ | (intro hc; exact absurd hc (by decide)) | (intro hc; exfalso; omega) | (intro hc; (first | rw [wrap_small (by omega) (by omega)] at hc | rw [nI_eq] at hc | skip); try (conv => cbv))
        all_goals first
          | (refine pe 7 _ (hp.out.2.1 ?_ ?_) (by decide) <;> omega)
          | (refine pe 4 _ (hp.out.2.2.1 ?_ ?_ ?_) (by decide) <;> omega)
          | (refine p6 _ (hp.out.1 ?_) ?_ <;> omega)
          | (refine p6 _ (hp.out.2.2.2.1 ?_ ?_ ?_) ?_ <;> omega)
          | (refine p6 _ (hp.out.2.2.2.2 ?_ ?_) ?_ <;> omega)
          | (obtain ⟨hq1, hq2⟩ := pn _ (hp.out.1 (by omega)) (by omega); exact nxa _ _ [⟨sk, sn⟩] _ _ _ _ _ _ hq1 hq2 hke hm2 hfx (Wk.cut ⟨_, rfl⟩ (Nat.zero_le _) rfl (by repeat' first | exact trivial | refine And.intro ?_ ?_ | rfl)))
          | (obtain ⟨hq1, hq2⟩ := pn _ (hp.out.2.2.2.2 (by omega) (by omega)) (by omega); exact nxa _ _ [⟨sk, sn⟩] _ _ _ _ _ _ hq1 hq2 hke hm2 hfx (Wk.cut ⟨_, rfl⟩ (Nat.zero_le _) rfl (by repeat' first | exact trivial | refine And.intro ?_ ?_ | rfl)))
          | (have hhd : headG ⟨nodes, ov, links⟩ sn = _ := Eq.symm (by assumption); obtain ⟨hq1, hq2⟩ := pn _ ((hp.out.2.2.2.1 (by omega) (by omega) (by omega)).trans (congrArg (fun p => ((0 : Int), p)) hhd)) (by omega); exact nxa _ _ [⟨sk, sn⟩] _ _ _ _ _ _ hq1 hq2 hke hm2 hfx (Wk.cut ⟨_, rfl⟩ (Nat.zero_le _) rfl (by repeat' first | exact trivial | refine And.intro ?_ ?_ | rfl)))
  · subst hfl
    conv => cbv
    repeat' first | (refine ex _ _ _ ?_; (conv => cbv)) | (intro (_ : Unit); first | omega | rfl | exact ⟨rfl, by omega⟩ | (simp only [nI_eq]; omega) | ((repeat' first | rfl | omega | refine And.intro ?_ ?_ | (simp only [nI_eq]; omega) | exact Nat.le_of_ble_eq_true rfl); done)) | exact trivial | refine And.intro ?_ ?_ | (intro hc; exact absurd hc (by decide)) | (intro hc; exfalso; omega) | (intro hc; (first | rw [wrap_small (by omega) (by omega)] at hc | rw [nI_eq] at hc | skip); try (conv => cbv))
    all_goals try (exfalso; omega)
    rename_i hx
    have e : _ = kes := hc.trans (by rw [List.drop_zero, hkm, List.take_length])
    rw [e, hkes]
    rw [hRp] at k3x
    exact k3x

end Go.Ab

/-
  Runs of closed calls (printed by mktab.py).
-/
namespace Go.Ab
open Go.Proofs

inductive TabsOk (P : Program) : List (Nat × Ent) → Prop
  | nil : TabsOk P []
  | txt {f : Nat} {sc fz : Bool} {af : AF} {fn : Func} {r : List (Nat × Ent)} (h1 : P.funcs[f]? = some fn) (h2 : compF P fn = some af) (h3 : fn.name ≠ "runtime.NumGoroutine") (h4 : TabsOk P r) : TabsOk P ((f, .txt sc fz af) :: r)
  | nat {f : Nat} {g : List AV → Option AV} {r : List (Nat × Ent)} (h1 : FnOk P f) (h2 : ∀ args r, g args = some r → FnS P f args [] fun r' _ => r' = r) (h4 : TabsOk P r) : TabsOk P ((f, .nat g) :: r)
  | nlk {f : Nat} {g : List AV → Option AV} {r : List (Nat × Ent)} (h1 : FnOk P f) (h2 : ∀ args r, g args = some r → FrS P f args r) (h4 : TabsOk P r) : TabsOk P ((f, .nlk g) :: r)

def lkT : List (Nat × Ent) → Tb
  | [], _ => none
  | (i, e) :: r, f => match Nat.beq i f with
    | true => some e
    | false => lkT r f

theorem TabsOk.tab {P : Program} {l : List (Nat × Ent)} (h : TabsOk P l) : TabOk P (lkT l) := by
  induction h with
  | nil => exact ⟨fun f sc fz af h => (by cases h), fun f g h => (by cases h), fun f g h => (by cases h)⟩
  | txt h1 h2 h3 _ ih =>
    refine ⟨fun f sc fz af h => ?_, fun f g h => ?_, fun f g h => ?_⟩
    · simp only [lkT] at h
      split at h
      · rename_i hb
        cases h
        have := Nat.eq_of_beq_eq_true hb
        subst this
        exact ⟨_, h1, h3, h2⟩
      · exact ih.ok f sc fz af h
    · simp only [lkT] at h
      split at h
      · cases h
      · exact ih.nat f g h
    · simp only [lkT] at h
      split at h
      · cases h
      · exact ih.nlk f g h
  | nat h1 h2 _ ih =>
    refine ⟨fun f sc fz af h => ?_, fun f g h => ?_, fun f g h => ?_⟩
    · simp only [lkT] at h
      split at h
      · cases h
      · exact ih.ok f sc fz af h
    · simp only [lkT] at h
      split at h
      · rename_i hb
        cases h
        have := Nat.eq_of_beq_eq_true hb
        subst this
        exact ⟨h1, h2⟩
      · exact ih.nat f g h
    · simp only [lkT] at h
      split at h
      · cases h
      · exact ih.nlk f g h
  | nlk h1 h2 _ ih =>
    refine ⟨fun f sc fz af h => ?_, fun f g h => ?_, fun f g h => ?_⟩
    · simp only [lkT] at h
      split at h
      · cases h
      · exact ih.ok f sc fz af h
    · simp only [lkT] at h
      split at h
      · cases h
      · exact ih.nat f g h
    · simp only [lkT] at h
      split at h
      · rename_i hb
        cases h
        have := Nat.eq_of_beq_eq_true hb
        subst this
        exact ⟨h1, h2⟩
      · exact ih.nlk f g h

def tabL : List (Nat × Ent) := [
  (n_law21_PolicyExpand, .txt false false af_law21_PolicyExpand),
  (n_law21_PolicyAgain, .txt false false af_law21_PolicyAgain),
  (n_law21_PolicyParts, .txt false false af_law21_PolicyParts),
  (n_law21_PolicyPlain, .txt false false af_law21_PolicyPlain),
  (n_law21_PolicyValid, .txt false false af_law21_PolicyValid),
  (n_law21_awake, .txt true false af_law21_awake),
  (n_law21_large, .txt true false af_law21_large),
  (n_law21_heavy, .txt true false af_law21_heavy),
  (n_policy_Expand, .txt false false af_policy_Expand),
  (n_ref21_Expand, .txt false false af_ref21_Expand),
  (n_ref18_Same, .txt true false af_ref18_Same),
  (n_ref21_Valid, .txt true false af_ref21_Valid),
  (n_policy_Find, .txt false false af_policy_Find),
  (n_ref21_Find, .txt false false af_ref21_Find),
  (n_policy_Valid, .txt true false af_policy_Valid),
  (n_ref21_SamePolicy, .txt true false af_ref21_SamePolicy),
  (n_law21_list, .txt false false af_law21_list),
  (n_law21_line, .txt false false af_law21_line),
  (n_ref18_TextList, .txt true false af_ref18_TextList),
  (n_policy_segments, .txt true false af_policy_segments),
  (n_graph_Node, .txt true false af_graph_Node),
  (n_policy_expander_step, .txt false false af_policy_expander_step),
  (n_ref21_proper, .txt true false af_ref21_proper),
  (n_ref21_all, .txt false false af_ref21_all),
  (n_ref09_Valid, .txt true false af_ref09_Valid),
  (n_slices_Clone_api_Segment_api_Segment, .nlk natCloneL),
  (n_ref21_index, .txt true false af_ref21_index),
  (n_topology_Valid, .txt true false af_topology_Valid),
  (n_ref18_ParseList, .txt false false af_ref18_ParseList),
  (n_ref18_Text, .txt true false af_ref18_Text),
  (n_graph_Segment, .txt true false af_graph_Segment),
  (n_policy_expander_binding, .txt false false af_policy_expander_binding),
  (n_graph_Tail, .txt true false af_graph_Tail),
  (n_graph_Head, .txt true false af_graph_Head),
  (n_policy_expander_keep, .txt false false af_policy_expander_keep),
  (n_ref18_Valid, .txt true false af_ref18_Valid),
  (n_ref09_within, .txt true false af_ref09_within),
  (n_topology_within, .txt true false af_topology_within),
  (n_ref09_Split, .txt false false af_ref09_Split),
  (n_ref18_Parse, .txt false false af_ref18_Parse),
  (n_ref09_Number, .txt false false af_ref09_Number),
  (n_graph_Arc, .txt true false af_graph_Arc),
  (n_ref09_Arcs, .txt true false af_ref09_Arcs),
  (n_ref09_Tail, .txt true false af_ref09_Tail),
  (n_ref09_Head, .txt true false af_ref09_Head),
  (n_ref09_Has, .txt true false af_ref09_Has),
  (n_ref09_Value, .txt true false af_ref09_Value),
  (n_ref09_digits, .txt false false af_ref09_digits),
  (n_graph_Arcs, .txt true false af_graph_Arcs)]

theorem tabL_ok : TabsOk Try.prog tabL :=
  .txt fn_law21_PolicyExpand c_law21_PolicyExpand (by decide) <|
  .txt fn_law21_PolicyAgain c_law21_PolicyAgain (by decide) <|
  .txt fn_law21_PolicyParts c_law21_PolicyParts (by decide) <|
  .txt fn_law21_PolicyPlain c_law21_PolicyPlain (by decide) <|
  .txt fn_law21_PolicyValid c_law21_PolicyValid (by decide) <|
  .txt fn_law21_awake c_law21_awake (by decide) <|
  .txt fn_law21_large c_law21_large (by decide) <|
  .txt fn_law21_heavy c_law21_heavy (by decide) <|
  .txt fn_policy_Expand c_policy_Expand (by decide) <|
  .txt fn_ref21_Expand c_ref21_Expand (by decide) <|
  .txt fn_ref18_Same c_ref18_Same (by decide) <|
  .txt fn_ref21_Valid c_ref21_Valid (by decide) <|
  .txt fn_policy_Find c_policy_Find (by decide) <|
  .txt fn_ref21_Find c_ref21_Find (by decide) <|
  .txt fn_policy_Valid c_policy_Valid (by decide) <|
  .txt fn_ref21_SamePolicy c_ref21_SamePolicy (by decide) <|
  .txt fn_law21_list c_law21_list (by decide) <|
  .txt fn_law21_line c_law21_line (by decide) <|
  .txt fn_ref18_TextList c_ref18_TextList (by decide) <|
  .txt fn_policy_segments c_policy_segments (by decide) <|
  .txt fn_graph_Node c_graph_Node (by decide) <|
  .txt fn_policy_expander_step c_policy_expander_step (by decide) <|
  .txt fn_ref21_proper c_ref21_proper (by decide) <|
  .txt fn_ref21_all c_ref21_all (by decide) <|
  .txt fn_ref09_Valid c_ref09_Valid (by decide) <|
  .nlk ⟨_, fn_slices_Clone_api_Segment_api_Segment, by decide, by decide⟩ natCloneL_ok <|
  .txt fn_ref21_index c_ref21_index (by decide) <|
  .txt fn_topology_Valid c_topology_Valid (by decide) <|
  .txt fn_ref18_ParseList c_ref18_ParseList (by decide) <|
  .txt fn_ref18_Text c_ref18_Text (by decide) <|
  .txt fn_graph_Segment c_graph_Segment (by decide) <|
  .txt fn_policy_expander_binding c_policy_expander_binding (by decide) <|
  .txt fn_graph_Tail c_graph_Tail (by decide) <|
  .txt fn_graph_Head c_graph_Head (by decide) <|
  .txt fn_policy_expander_keep c_policy_expander_keep (by decide) <|
  .txt fn_ref18_Valid c_ref18_Valid (by decide) <|
  .txt fn_ref09_within c_ref09_within (by decide) <|
  .txt fn_topology_within c_topology_within (by decide) <|
  .txt fn_ref09_Split c_ref09_Split (by decide) <|
  .txt fn_ref18_Parse c_ref18_Parse (by decide) <|
  .txt fn_ref09_Number c_ref09_Number (by decide) <|
  .txt fn_graph_Arc c_graph_Arc (by decide) <|
  .txt fn_ref09_Arcs c_ref09_Arcs (by decide) <|
  .txt fn_ref09_Tail c_ref09_Tail (by decide) <|
  .txt fn_ref09_Head c_ref09_Head (by decide) <|
  .txt fn_ref09_Has c_ref09_Has (by decide) <|
  .txt fn_ref09_Value c_ref09_Value (by decide) <|
  .txt fn_ref09_digits c_ref09_digits (by decide) <|
  .txt fn_graph_Arcs c_graph_Arcs (by decide) <|
  .nil

theorem run_ok {f : Nat} {fn : Func} {af : AF} {args : List AV} {r : AV} (n : Nat) (hf : Try.prog.funcs[f]? = some fn) (hc : compF Try.prog fn = some af) (hl : args.length ≤ af.nt) (hx : runP (xC (lkT tabL) n) af args = some r) : Ret Try.prog f args r :=
  (runP_sound (xC_sound mixed tabL_ok.tab n) hf hc hl hx).mono fun _ _ h => h

theorem awake_ok : Ret Try.prog n_law21_awake [] (bA true) := run_ok 400 fn_law21_awake c_law21_awake (Nat.le_of_ble_eq_true rfl) (by kernel_rfl)
end Go.Ab

