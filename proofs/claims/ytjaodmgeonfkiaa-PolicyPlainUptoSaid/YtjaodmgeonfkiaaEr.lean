/-
  The engine, part r: operations that may change places.
-/
import Derived.Test.YtjaodmgeonfkiaaEq
namespace Go.Ab

def slotX : X → List Nat
  | .t n => [n]
  | .k _ => []

def slotO : Option X → List Nat
  | some x => slotX x
  | none => []

/-- the operands of an operation -/
def xsOf : AOp → List X
  | .mv x => [x]
  | .pick c a b => [c, a, b]
  | .box x => [x]
  | .build _ ps => ps.map (·.2.2)
  | .bsl _ _ _ ps => ps.map (·.2)
  | .ld x _ => [x]
  | .st x v _ => [x, v]
  | .nilc x => [x]
  | .bin _ a b => [a, b]
  | .beq _ a b => [a, b]
  | .eqa _ _ _ a b => [a, b]
  | .isnil _ _ x => [x]
  | .un _ x => [x]
  | .cvi _ x => [x]
  | .bts x => [x]
  | .sl _ x lo hi mx => x :: (lo.toList ++ hi.toList ++ mx.toList)
  | .sls x lo hi => x :: (lo.toList ++ hi.toList)
  | .fa x _ => [x]
  | .fld x _ _ => [x]
  | .ias _ x i => [x, i]
  | .iaa _ _ x i => [x, i]
  | .ixs x i => [x, i]
  | .ixa _ _ _ x i => [x, i]
  | .ext x _ => [x]
  | .len x => [x]
  | .lens x => [x]
  | .cap x => [x]
  | .app _ _ _ x y => [x, y]
  | .mo _ xs => xs
  | .mks _ _ _ l c => [l, c]
  | .mkf _ xs => xs
  | .call _ xs => xs
  | .callv x xs => x :: xs
  | .bad => []

/-- 0: looks at the heap at most; 1: makes a block; 2: changes blocks -/
def cls : AOp → Nat
  | .box _ => 1
  | .bsl _ _ _ _ => 1
  | .mks _ _ _ _ _ => 1
  | .st _ _ _ => 2
  | .app _ _ _ _ _ => 2
  | .mo (.lk _ _ _ _ _) _ => 0
  | .mo .lnm _ => 0
  | .mo _ _ => 2
  | .callv _ _ => 2
  | _ => 0

theorem evs_congr {e e' : Env} {xs : List X} (h : ∀ x ∈ xs, ev e x = ev e' x) : evs e xs = evs e' xs := by
  induction xs with
  | nil => rfl
  | cons x r ih => simp only [evs, h x (by simp), ih fun y hy => h y (by simp [hy])]

theorem oint_congr {e e' : Env} {x : Option X} (h : ∀ y ∈ x.toList, ev e y = ev e' y) : oint e x = oint e' x := by
  cases x with
  | none => rfl
  | some y => simp only [oint, h y (by simp)]

theorem partsOf_congr {e e' : Env} {ps : List (Nat × Nat × X)} (h : ∀ x ∈ ps.map (·.2.2), ev e x = ev e' x) : partsOf e ps = partsOf e' ps := by
  induction ps with
  | nil => rfl
  | cons p r ih =>
    obtain ⟨o, s, x⟩ := p
    simp only [partsOf, h x (by simp), ih fun y hy => h y (by simp only [List.map_cons, List.mem_cons]; exact .inr hy)]

theorem elemsOf_congr {e e' : Env} {ps : List (Nat × X)} (h : ∀ x ∈ ps.map (·.2), ev e x = ev e' x) : ∀ hp, elemsOf hp e ps = elemsOf hp e' ps := by
  induction ps with
  | nil => intro hp; rfl
  | cons p r ih =>
    intro hp
    obtain ⟨o, x⟩ := p
    have ih := ih fun y hy => h y (by simp only [List.map_cons, List.mem_cons]; exact .inr hy)
    simp only [elemsOf, h x (by simp), ih]

theorem astep_congr {e e' : Env} {h : Hp} {op : AOp} (hx : ∀ x ∈ xsOf op, ev e x = ev e' x) : astep e h op = astep e' h op := by
  cases op
  case build z ps => simp only [astep, partsOf_congr hx]
  case bsl sz z n ps => simp only [astep, elemsOf_congr hx]
  case ld x n => cases n <;> simp only [astep, hx x (by simp [xsOf])]
  case fld x n k => cases k <;> simp only [astep, hx x (by simp [xsOf])]
  case sl sz x lo hi mx =>
    simp only [astep, hx x (by simp [xsOf]), oint_congr (x := lo) fun y hy => hx y (by simp only [xsOf, List.mem_cons, List.mem_append]; exact .inr (.inl (.inl hy))),
      oint_congr (x := hi) fun y hy => hx y (by simp only [xsOf, List.mem_cons, List.mem_append]; exact .inr (.inl (.inr hy))),
      oint_congr (x := mx) fun y hy => hx y (by simp only [xsOf, List.mem_cons, List.mem_append]; exact .inr (.inr hy))]
  case sls x lo hi =>
    simp only [astep, hx x (by simp [xsOf]), oint_congr (x := lo) fun y hy => hx y (by simp only [xsOf, List.mem_cons, List.mem_append]; exact .inr (.inl hy)),
      oint_congr (x := hi) fun y hy => hx y (by simp only [xsOf, List.mem_cons, List.mem_append]; exact .inr (.inr hy))]
  case mkf f xs => simp only [astep, evs_congr (xs := xs) hx]
  case call => rfl
  case callv => rfl
  case bad => rfl
  case mv x => simp only [astep, hx x (by simp [xsOf])]
  case box x => simp only [astep, hx x (by simp [xsOf])]
  case nilc x => simp only [astep, hx x (by simp [xsOf])]
  case isnil k n x => simp only [astep, hx x (by simp [xsOf])]
  case un o x => simp only [astep, hx x (by simp [xsOf])]
  case cvi k x => simp only [astep, hx x (by simp [xsOf])]
  case bts x => simp only [astep, hx x (by simp [xsOf])]
  case fa x o => simp only [astep, hx x (by simp [xsOf])]
  case ext x i => simp only [astep, hx x (by simp [xsOf])]
  case len x => simp only [astep, hx x (by simp [xsOf])]
  case lens x => simp only [astep, hx x (by simp [xsOf])]
  case cap x => simp only [astep, hx x (by simp [xsOf])]
  case pick c a b => simp only [astep, hx c (by simp [xsOf]), hx a (by simp [xsOf]), hx b (by simp [xsOf])]
  case st a b n => simp only [astep, hx a (by simp [xsOf]), hx b (by simp [xsOf])]
  case bin o a b => simp only [astep, hx a (by simp [xsOf]), hx b (by simp [xsOf])]
  case beq o a b => simp only [astep, hx a (by simp [xsOf]), hx b (by simp [xsOf])]
  case eqa o n l a b => simp only [astep, hx a (by simp [xsOf]), hx b (by simp [xsOf])]
  case ias s a b => simp only [astep, hx a (by simp [xsOf]), hx b (by simp [xsOf])]
  case iaa n s a b => simp only [astep, hx a (by simp [xsOf]), hx b (by simp [xsOf])]
  case ixs a b => simp only [astep, hx a (by simp [xsOf]), hx b (by simp [xsOf])]
  case ixa n s g a b => simp only [astep, hx a (by simp [xsOf]), hx b (by simp [xsOf])]
  case app s y z a b => simp only [astep, hx a (by simp [xsOf]), hx b (by simp [xsOf])]
  case mo o xs => simp only [astep, evs_congr (xs := xs) fun x hx' => hx x (by simpa [xsOf] using hx')]
  case mks s y z a b => simp only [astep, hx a (by simp [xsOf]), hx b (by simp [xsOf])]

/-- two heaps that say the same of what a value leads to -/
def agreeC (h h' : Hp) : CV → Prop
  | .ptr l _ _ _ => h'[l]? = h[l]?
  | .arr l _ _ _ => h'[l]? = h[l]?
  | .mp l => h'[l]? = h[l]?
  | .it l => h'[l]? = h[l]?
  | _ => True

def agreeA (h h' : Hp) : AV → Prop
  | .c x => agreeC h h' x
  | .agg l => ∀ x ∈ l, agreeC h h' x
  | .tup _ => True

theorem solid_agree {h h' : Hp} {x : CV} (ha : agreeC h h' x) : solid h' x = solid h x := by
  cases x <;> simp_all [solid, agreeC]

theorem cellsOk_agree {h h' : Hp} {l : List CV} (ha : ∀ x ∈ l, agreeC h h' x) : cellsOk h' l = cellsOk h l := by
  unfold cellsOk
  induction l with
  | nil => rfl
  | cons x r ih => simp only [List.all_cons, solid_agree (ha x (by simp)), ih fun y hy => ha y (by simp [hy])]

theorem rd_agree {h h' : Hp} {x : AV} (ha : agreeA h h' x) : rd h' x = rd h x := by
  cases x with
  | c x => cases x <;> simp_all [rd, agreeA, agreeC]
  | agg => rfl
  | tup => rfl

theorem view_agree {h h' : Hp} {x : AV} (ha : agreeA h h' x) : view h' x = view h x := by
  cases x with
  | c x =>
    cases x with
    | d x => cases x <;> rfl
    | _ => simp_all [view, agreeA, agreeC]
  | agg => rfl
  | tup => rfl

theorem isNil_agree {h h' : Hp} {k : Nat} {x : AV} (ha : agreeA h h' x) : isNil h' k x = isNil h k x := by
  cases x with
  | c x =>
    cases x with
    | ptr l v i j =>
      have := solid_agree (h := h) (h' := h') (x := .ptr l v i j) ha
      rcases k with _ | _ | k
      · rfl
      · simp only [isNil, this]
      · rfl
    | arr l v i j =>
      have ha : h'[l]? = h[l]? := ha
      rcases k with _ | _ | k
      · simp only [isNil, ha]
      · rfl
      · rfl
    | d x =>
      rcases k with _ | _ | k
      · cases x with
        | list nl sz l => cases nl <;> cases l <;> rfl
        | _ => rfl
      · cases x <;> rfl
      · rfl
    | cl nl sz l =>
      rcases k with _ | _ | k
      · cases nl <;> cases l <;> rfl
      · rfl
      · rfl
    | _ => rcases k with _ | _ | k <;> rfl
  | agg => rcases k with _ | _ | k <;> rfl
  | tup => rcases k with _ | _ | k <;> rfl

theorem ixv_agree {h h' : Hp} {sz : Nat} {x : AV} {i : Int} (ha : agreeA h h' x) : ixv h' sz x i = ixv h sz x i := by
  cases x with
  | c x =>
    cases x with
    | d x => cases x <;> rfl
    | _ => simp_all [ixv, agreeA, agreeC]
  | agg => rfl
  | tup => rfl

theorem cells_agree {h h' : Hp} {x : AV} {cs : List CV} (ha : agreeA h h' x) (hc : cells x = some cs) : ∀ y ∈ cs, agreeC h h' y := by
  cases x with
  | c x =>
    intro y hy
    have hcs : cs = [x] := by cases x <;> simp_all [cells]
    subst hcs
    simp at hy; subst hy; exact ha
  | agg l => simp only [cells, Option.some.injEq] at hc; subst hc; exact ha
  | tup => simp [cells] at hc

theorem parts_agree {h h' : Hp} {e : Env} : ∀ {ps : List (Nat × Nat × X)} {as : List (Nat × Nat × List CV)}, (∀ x ∈ ps.map (·.2.2), agreeA h h' (ev e x)) → partsOf e ps = some as →
    as.all (fun a => cellsOk h' a.2.2) = as.all (fun a => cellsOk h a.2.2) := by
  intro ps
  induction ps with
  | nil => intro as _ hp; simp only [partsOf, Option.some.injEq] at hp; subst hp; rfl
  | cons p r ih =>
    intro as ha hp
    obtain ⟨o, s, x⟩ := p
    simp only [partsOf] at hp
    split at hp
    · rename_i cs l hcs hl
      cases hp
      simp only [List.all_cons, cellsOk_agree (cells_agree (ha x (by simp)) hcs), ih (fun y hy => ha y (by simp only [List.map_cons, List.mem_cons]; exact .inr hy)) hl]
    · cases hp

theorem mp {α : Type} {f : α → AV} {o : Option α} {h h' h1 : Hp} {v : AV} (hs : (o.map fun a => (f a, h)) = some (v, h1)) : h1 = h ∧ (o.map fun a => (f a, h')) = some (v, h') := by
  simp only [Option.map_eq_some_iff, Prod.mk.injEq] at hs ⊢
  obtain ⟨a, h0, h2, h3⟩ := hs
  exact ⟨h3.symm, a, h0, h2, trivial⟩
theorem sp {a v : AV} {h h' h1 : Hp} (hs : some (a, h) = some (v, h1)) : h1 = h ∧ some (a, h') = some (v, h') := by
  simp only [Option.some.injEq, Prod.mk.injEq] at hs ⊢
  exact ⟨hs.2.symm, hs.1, trivial⟩

/-- an operation that only looks sees the same in two heaps that agree on its operands -/
theorem astep_agree {e : Env} {h h' h1 : Hp} {op : AOp} {v : AV} (hc : cls op = 0) (hx : ∀ x ∈ xsOf op, agreeA h h' (ev e x)) (hs : astep e h op = some (v, h1)) : h1 = h ∧ astep e h' op = some (v, h') := by
  cases op
  case box => simp [cls] at hc
  case bsl => simp [cls] at hc
  case mks => simp [cls] at hc
  case st => simp [cls] at hc
  case app => simp [cls] at hc
  case mo o xs =>
    cases o
    case apz => simp [cls] at hc
    case mkm => simp [cls] at hc
    case up => simp [cls] at hc
    case del => simp [cls] at hc
    case lk sc n ls ok z =>
      simp only [astep] at hs ⊢
      obtain ⟨x, y, rfl⟩ : ∃ x y, xs = [x, y] := by
        match xs with
        | [x, y] => exact ⟨x, y, rfl⟩
        | [] => simp [evs, mstep] at hs
        | [x] => simp [evs, mstep] at hs
        | _ :: _ :: _ :: _ => simp [evs, mstep] at hs
      simp only [evs] at hs ⊢
      obtain ⟨l, ver, es, kd, r0, g1, g2, g3, g4, rfl, rfl⟩ := mstep_lk hs
      have hag := hx x (by simp [xsOf])
      rw [g1] at hag
      have g2' : h'[l]? = some (.mp ver es) := by rw [← g2]; exact hag
      refine ⟨rfl, ?_⟩
      simp only [g1, mstep, g2', g3, g4]
      cases r0 with
      | none => rfl
      | some p => rfl
    case lnm =>
      simp only [astep] at hs ⊢
      obtain ⟨x, rfl⟩ : ∃ x, xs = [x] := by
        match xs with
        | [x] => exact ⟨x, rfl⟩
        | [] => simp [evs, mstep] at hs
        | _ :: _ :: _ => simp [evs, mstep] at hs
      simp only [evs] at hs ⊢
      obtain ⟨l, ver, es, g1, g2, rfl, rfl⟩ := mstep_lnm hs
      have hag := hx x (by simp [xsOf])
      rw [g1] at hag
      have g2' : h'[l]? = some (.mp ver es) := by rw [← g2]; exact hag
      refine ⟨rfl, ?_⟩
      simp only [g1, mstep, g2']
  case callv => simp [cls] at hc
  case call => simp [astep] at hs
  case bad => simp [astep] at hs
  case ld x n =>
    have hrd := rd_agree (hx x (by simp [xsOf]))
    cases n with
    | none =>
      simp only [astep, hrd] at hs ⊢
      split at hs
      · exact sp hs
      · cases hs
    | some n =>
      simp only [astep, hrd] at hs ⊢
      split at hs
      · split at hs
        · rename_i hn; simp only [hn, if_true]; exact sp hs
        · cases hs
      · cases hs
  case build z ps =>
    simp only [astep] at hs ⊢
    split at hs
    · rename_i as has
      simp only [parts_agree hx has]
      split at hs
      · rename_i hn; simp only [hn, if_true]; exact mp hs
      · cases hs
    · cases hs
  case nilc x =>
    have hxx := hx x (by simp [xsOf])
    simp only [astep] at hs ⊢
    revert hxx hs
    generalize ev e x = xv
    intro hs hxx
    split at hs
    · exact sp hs
    · rename_i l v i j
      simp only [solid_agree (h := h) (h' := h') (x := .ptr l v i j) hxx]
      split at hs
      · rename_i hn; simp only [hn, if_true]; exact sp hs
      · cases hs
    · cases hs
  case isnil k n x => simp only [astep, isNil_agree (hx x (by simp [xsOf]))] at hs ⊢; exact mp hs
  case bts x =>
    simp only [astep, view_agree (hx x (by simp [xsOf]))] at hs ⊢
    split at hs
    · exact mp hs
    · cases hs
  case len x =>
    simp only [astep, view_agree (hx x (by simp [xsOf]))] at hs ⊢
    split at hs
    · exact sp hs
    · cases hs
  case ias sz x i =>
    simp only [astep, ixv_agree (hx x (by simp [xsOf]))] at hs ⊢
    split at hs
    · exact mp hs
    · cases hs
  case fa x o =>
    have hxx := hx x (by simp [xsOf])
    simp only [astep] at hs ⊢
    revert hxx hs
    generalize ev e x = xv
    intro hs hxx
    split at hs
    · exact sp hs
    · rename_i l v i j
      simp only [solid_agree (h := h) (h' := h') (x := .ptr l v i j) hxx]
      split at hs
      · rename_i hn; simp only [hn, if_true]; exact sp hs
      · cases hs
    · cases hs
  case iaa n sz x i =>
    have hxx := hx x (by simp [xsOf])
    simp only [astep] at hs ⊢
    revert hxx hs
    generalize ev e x = xv
    generalize ev e i = iv
    intro hs hxx
    split at hs
    · split at hs
      · rename_i hm
        simp only [hm, and_self, if_true]
        split at hs
        · exact sp hs
        · rename_i l v p j
          simp only [solid_agree (h := h) (h' := h') (x := .ptr l v p j) hxx]
          split at hs
          · rename_i hn; simp only [hn, if_true]; exact sp hs
          · cases hs
        · cases hs
      · cases hs
    · cases hs
  case sl sz x lo hi mx =>
    have hxx := hx x (by simp [xsOf])
    simp only [astep] at hs ⊢
    revert hxx hs
    generalize ev e x = xv
    intro hs hxx
    split at hs
    · split at hs
      · rename_i l v i n
        simp only [agreeA, agreeC] at hxx
        simp only [hxx]
        split at hs
        · split at hs
          · rename_i hn; simp only [hn, and_self, if_true]; exact mp hs
          · cases hs
        · cases hs
      · exact mp hs
    · cases hs
  case fld x o n =>
    cases n with
    | none =>
      simp only [astep] at hs ⊢
      split at hs
      · exact mp hs
      · cases hs
    | some n =>
      simp only [astep] at hs ⊢
      split at hs
      · split at hs
        · rename_i hn; simp only [hn, if_true]; exact sp hs
        · cases hs
      · cases hs
  case mv x => exact sp hs
  case pick c a b =>
    simp only [astep] at hs ⊢
    split at hs
    · exact sp hs
    · cases hs
  case bin o a b =>
    simp only [astep] at hs ⊢
    split at hs
    · exact mp hs
    · cases hs
  case beq o a b =>
    simp only [astep] at hs ⊢
    split at hs
    · exact sp hs
    · cases hs
  case eqa o n l a b =>
    simp only [astep] at hs ⊢
    split at hs
    · split at hs
      · rename_i hn; simp only [hn, and_self, if_true]; exact mp hs
      · cases hs
    · cases hs
  case un o x =>
    simp only [astep] at hs ⊢
    split at hs
    · exact mp hs
    · cases hs
  case cvi k x =>
    simp only [astep] at hs ⊢
    split at hs
    · exact sp hs
    · cases hs
  case sls x lo hi =>
    simp only [astep] at hs ⊢
    split at hs
    · exact mp hs
    · cases hs
  case ixs a b =>
    simp only [astep] at hs ⊢
    split at hs
    · split at hs
      · rename_i hn; simp only [hn, if_true]; exact mp hs
      · cases hs
    · cases hs
  case ixa n s g a b =>
    simp only [astep] at hs ⊢
    split at hs
    · split at hs
      · rename_i hn
        simp only [hn, and_self, if_true]
        cases g with
        | false => simp only [Bool.false_eq_true, if_false] at hs ⊢; exact mp hs
        | true =>
          simp only [if_true] at hs ⊢
          split at hs
          · rename_i hm; simp only [hm, if_true]; exact sp hs
          · cases hs
      · cases hs
    · cases hs
  case ext x i =>
    simp only [astep] at hs ⊢
    split at hs
    · exact mp hs
    · cases hs
  case lens x =>
    simp only [astep] at hs ⊢
    split at hs
    · exact sp hs
    · cases hs
  case cap x =>
    simp only [astep] at hs ⊢
    split at hs
    · exact sp hs
    · exact sp hs
    · cases hs
  case mkf f xs => exact mp hs

/-- operations that have nothing to do with the heap -/
def hfree : AOp → Bool
  | .mv _ => true
  | .pick _ _ _ => true
  | .bin _ _ _ => true
  | .beq _ _ _ => true
  | .eqa _ _ _ _ _ => true
  | .un _ _ => true
  | .cvi _ _ => true
  | .sls _ _ _ => true
  | .fld _ _ _ => true
  | .ixs _ _ => true
  | .ixa _ _ _ _ _ => true
  | .ext _ _ => true
  | .lens _ => true
  | .cap _ => true
  | .mkf _ _ => true
  | _ => false

theorem hfree_cls {op : AOp} (h : hfree op = true) : cls op = 0 := by
  cases op <;> simp_all [hfree, cls]

theorem astep_hfree {e : Env} {h h' h1 : Hp} {op : AOp} {v : AV} (hc : hfree op = true) (hs : astep e h op = some (v, h1)) : h1 = h ∧ astep e h' op = some (v, h') := by
  cases op
  case box => simp [hfree] at hc
  case bsl => simp [hfree] at hc
  case mks => simp [hfree] at hc
  case st => simp [hfree] at hc
  case app => simp [hfree] at hc
  case mo => simp [hfree] at hc
  case callv => simp [hfree] at hc
  case call => simp [hfree] at hc
  case bad => simp [hfree] at hc
  case ld => simp [hfree] at hc
  case build => simp [hfree] at hc
  case nilc => simp [hfree] at hc
  case isnil => simp [hfree] at hc
  case bts => simp [hfree] at hc
  case len => simp [hfree] at hc
  case ias => simp [hfree] at hc
  case fa => simp [hfree] at hc
  case iaa => simp [hfree] at hc
  case sl => simp [hfree] at hc
  case fld x o n =>
    cases n with
    | none =>
      simp only [astep] at hs ⊢
      split at hs
      · exact mp hs
      · cases hs
    | some n =>
      simp only [astep] at hs ⊢
      split at hs
      · split at hs
        · rename_i hn; simp only [hn, if_true]; exact sp hs
        · cases hs
      · cases hs
  case mv x => exact sp hs
  case pick c a b =>
    simp only [astep] at hs ⊢
    split at hs
    · exact sp hs
    · cases hs
  case bin o a b =>
    simp only [astep] at hs ⊢
    split at hs
    · exact mp hs
    · cases hs
  case beq o a b =>
    simp only [astep] at hs ⊢
    split at hs
    · exact sp hs
    · cases hs
  case eqa o n l a b =>
    simp only [astep] at hs ⊢
    split at hs
    · split at hs
      · rename_i hn; simp only [hn, and_self, if_true]; exact mp hs
      · cases hs
    · cases hs
  case un o x =>
    simp only [astep] at hs ⊢
    split at hs
    · exact mp hs
    · cases hs
  case cvi k x =>
    simp only [astep] at hs ⊢
    split at hs
    · exact sp hs
    · cases hs
  case sls x lo hi =>
    simp only [astep] at hs ⊢
    split at hs
    · exact mp hs
    · cases hs
  case ixs a b =>
    simp only [astep] at hs ⊢
    split at hs
    · split at hs
      · rename_i hn; simp only [hn, if_true]; exact mp hs
      · cases hs
    · cases hs
  case ixa n s g a b =>
    simp only [astep] at hs ⊢
    split at hs
    · split at hs
      · rename_i hn
        simp only [hn, and_self, if_true]
        cases g with
        | false => simp only [Bool.false_eq_true, if_false] at hs ⊢; exact mp hs
        | true =>
          simp only [if_true] at hs ⊢
          split at hs
          · rename_i hm; simp only [hm, if_true]; exact sp hs
          · cases hs
      · cases hs
    · cases hs
  case ext x i =>
    simp only [astep] at hs ⊢
    split at hs
    · exact mp hs
    · cases hs
  case lens x =>
    simp only [astep] at hs ⊢
    split at hs
    · exact sp hs
    · cases hs
  case cap x =>
    simp only [astep] at hs ⊢
    split at hs
    · exact sp hs
    · exact sp hs
    · cases hs
  case mkf f xs => exact mp hs

end Go.Ab
