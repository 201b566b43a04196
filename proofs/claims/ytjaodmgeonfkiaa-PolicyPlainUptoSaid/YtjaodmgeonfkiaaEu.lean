/-
  The engine, part u: conditions. What has to be shown of a text, as a proposition that is computed step by step: every number that is computed gets a name and an equation, every test parts the way.
-/
import Derived.Test.YtjaodmgeonfkiaaEt
namespace Go.Ab

/-- a count, as a number -/
@[irreducible] def nI (n : Nat) : Int := n
/-- how many elements a list has, as a number; it stands for itself while conditions are computed -/
abbrev Len := List (List D) → Int

theorem nI_eq (n : Nat) : nI n = (n : Int) := by unfold nI; rfl

abbrev Lv := List (Nat × AV)

def lkL : Lv → Env
  | [] => fun _ => .c .u
  | (i, v) :: r => upd (lkL r) i v

/-- the same, for computing -/
def lkN : Lv → Nat → AV
  | [], _ => .c .u
  | (i, v) :: r, n => match Nat.beq i n with
    | true => v
    | false => lkN r n

theorem lkN_eq : ∀ (L : Lv) (n : Nat), lkN L n = lkL L n := by
  intro L
  induction L with
  | nil => intro n; rfl
  | cons p r ih =>
    intro n
    obtain ⟨i, v⟩ := p
    simp only [lkN, lkL, upd]
    by_cases h : i = n
    · subst h; simp
    · have : Nat.beq i n = false := by
        cases hb : Nat.beq i n with
        | false => rfl
        | true => exact absurd (Nat.eq_of_beq_eq_true hb) h
      simp [this, h, ih]

def evN (L : Lv) : X → AV
  | .t n => lkN L n
  | .k v => v

theorem evN_eq (L : Lv) (x : X) : evN L x = ev (lkL L) x := by
  cases x with
  | t n => exact lkN_eq L n
  | k v => rfl

def evsN (L : Lv) : List X → List AV
  | [] => []
  | x :: r => evN L x :: evsN L r

theorem evsN_eq (L : Lv) (xs : List X) : evsN L xs = evs (lkL L) xs := by
  induction xs with
  | nil => rfl
  | cons x r ih => simp only [evsN, evs, evN_eq, ih]

def putL (L : Lv) : Option Nat → AV → Lv
  | some d, v => (d, v) :: L
  | none, _ => L

theorem putL_eq (L : Lv) (d : Option Nat) (v : AV) : lkL (putL L d v) = putE (lkL L) d v := by
  cases d <;> rfl

/-- values that lead into the first n blocks alone -/
def refsC (n : Nat) : CV → Bool
  | .ptr l _ _ _ => Nat.ble (l + 1) n
  | .arr l _ _ _ => Nat.ble (l + 1) n
  | .mp l => Nat.ble (l + 1) n
  | .it l => Nat.ble (l + 1) n
  | .fn _ caps => refsCs n caps
  | _ => true
where
  refsCs (n : Nat) : List CV → Bool
  | [] => true
  | x :: r => match refsC n x with
    | true => refsCs n r
    | false => false

abbrev refsCs (n : Nat) : List CV → Bool := refsC.refsCs n

def refsA (n : Nat) : AV → Bool
  | .c x => refsC n x
  | .agg l => refsCs n l
  | .tup [] => true
  | .tup _ => false

def refsB (n : Nat) : Blk → Bool
  | .bx cs => refsCs n cs
  | .mi m _ _ => Nat.ble (m + 1) n
  | _ => true

def refsH (n : Nat) : Hp → Bool
  | [] => true
  | b :: r => match refsB n b with
    | true => refsH n r
    | false => false

/-- slots whose values are known, and lead into the first n blocks alone -/
def KeepL (n : Nat) (L : Lv) : Lv → Prop
  | [] => True
  | (i, v) :: r => (lkN L i = v ∧ refsA n v = true) ∧ KeepL n L r

/-- an array of the call's own is given up: what becomes of a value -/
inductive FzC (l v sz : Nat) (es : List (List D)) : CV → CV → Prop
  | keep (x : CV) : FzC l v sz es x x
  | arr (n : Nat) (hn : n = es.length) : FzC l v sz es (.arr l v 0 n) (.d (.list false sz es))
  | drop (x : CV) : FzC l v sz es x .u

def FzCs (l v sz : Nat) (es : List (List D)) : List CV → List CV → Prop
  | [], [] => True
  | x :: xs, y :: ys => FzC l v sz es x y ∧ FzCs l v sz es xs ys
  | _, _ => False

inductive FzA (l v sz : Nat) (es : List (List D)) : AV → AV → Prop
  | same (x : AV) : FzA l v sz es x x
  | c (x y : CV) (h : FzC l v sz es x y) : FzA l v sz es (.c x) (.c y)
  | agg (xs ys : List CV) (h : FzCs l v sz es xs ys) : FzA l v sz es (.agg xs) (.agg ys)

inductive FzB (l v sz : Nat) (es : List (List D)) : Blk → Blk → Prop
  | same (b : Blk) : FzB l v sz es b b
  | bx (xs ys : List CV) (h : FzCs l v sz es xs ys) : FzB l v sz es (.bx xs) (.bx ys)

def FzH (l v sz : Nat) (es : List (List D)) : Nat → Hp → Hp → Prop
  | _, [], [] => True
  | n, b :: h, b' :: h' => ((n = l ∧ b' = .dead) ∨ (n ≠ l ∧ FzB l v sz es b b')) ∧ FzH l v sz es (n + 1) h h'
  | _, _, _ => False

/-- less is said of a state: slots are forgotten, blocks are given up -/
inductive Wk (m : Nat) : Lv → Hp → Lv → Hp → Prop
  | cut {L : Lv} {h : Hp} {L' : Lv} {h' : Hp} (heap : ∃ t, h = h' ++ t) (least : m ≤ h'.length) (refs : refsH h'.length h' = true) (env : KeepL h'.length L L') : Wk m L h L' h'
  | same {L : Lv} {h : Hp} {L' : Lv} {h' : Hp} (hh : h' = h) (env : ∀ i, lkL L' i = .c .u ∨ lkL L' i = lkL L i) : Wk m L h L' h'
  | nilS {L : Lv} {h : Hp} (i sz : Nat) (hi : lkN L i = .c (.d (.list true sz []))) : Wk m L h ((i, .c (.arr h.length 0 0 0)) :: L) (h ++ [.da false 0 sz []])
  | nilB {L : Lv} {h : Hp} (l j sz : Nat) (cs : List CV) (hl : h[l]? = some (.bx cs)) (hj : cs[j]? = some (.d (.list true sz []))) :
      Wk m L h L (List.set (h ++ [Blk.da false 0 sz []]) l (Blk.bx (cs.set j (.arr h.length 0 0 0))))
  | fz {L : Lv} {h : Hp} {L' : Lv} {h' : Hp} (l v sz : Nat) (r : Bool) (es : List (List D)) (hl : h[l]? = some (.da r v sz es)) (env : ∀ i, lkL L' i = .c .u ∨ FzA l v sz es (lkL L i) (lkL L' i)) (heap : FzH l v sz es 0 h h') : Wk m L h L' h'
  | fg {L : Lv} {h : Hp} (i : Nat) : Wk m L h ((i, fgA (lkN L i)) :: L) h
  | trans {L : Lv} {h : Hp} {L1 : Lv} {h1 : Hp} {L2 : Lv} {h2 : Hp} (a : Wk m L h L1 h1) (b : Wk m L1 h1 L2 h2) : Wk m L h L2 h2

/-- a call: by a contract whose result is given, or by one over the whole heap; less may be said of the state ahead of it -/
inductive CallS (P : Program) (m : Nat) : Bool → Lv → Hp → Nat → List X → (Lv → AV → Hp → Prop) → Prop
  | pure {d : Bool} {L : Lv} {h : Hp} {f : Nat} {xs : List X} {K : Lv → AV → Hp → Prop} {r : AV} (hp : PureR P h f (evsN L xs) r) (k : K L r h) : CallS P m d L h f xs K
  | fn {L : Lv} {h : Hp} {f : Nat} {xs : List X} {K : Lv → AV → Hp → Prop} (hf : FnS P f (evsN L xs) h (K L)) : CallS P m false L h f xs K
  | wk {L : Lv} {h : Hp} {L1 : Lv} {h1 : Hp} {f : Nat} {xs : List X} {K : Lv → AV → Hp → Prop} (hw : Wk m L h L1 h1) (k : CallS P m false L1 h1 f xs K) : CallS P m false L h f xs K

/-- a call of a function value -/
inductive CallV (P : Program) (h : Hp) (f : Nat) (args : List AV) (K : AV → Hp → Prop) : Prop
  | pure {r : AV} (hp : PureR P h f args r) (k : K r h)
  | fn (hf : FnS P f args h K)

def vInt (op : BinOp) (k : IntKind) (a b : Int) (K : AV → Prop) : Prop :=
  match op with
  | .add => ∀ c, c = k.wrap (a + b) → K (.c (.d (.int k c)))
  | .sub => ∀ c, c = k.wrap (a - b) → K (.c (.d (.int k c)))
  | .mul => ∀ c, c = k.wrap (a * b) → K (.c (.d (.int k c)))
  | .quo => (Unit → b ≠ 0) ∧ ∀ c, c = k.wrap (a.tdiv b) → K (.c (.d (.int k c)))
  | .rem => (Unit → b ≠ 0) ∧ ∀ c, c = a.tmod b → K (.c (.d (.int k c)))
  | .eql => (a = b → K (.c (.d (.bool true)))) ∧ (¬ a = b → K (.c (.d (.bool false))))
  | .neq => (¬ a = b → K (.c (.d (.bool true)))) ∧ (a = b → K (.c (.d (.bool false))))
  | .lss => (a < b → K (.c (.d (.bool true)))) ∧ (¬ a < b → K (.c (.d (.bool false))))
  | .leq => (a ≤ b → K (.c (.d (.bool true)))) ∧ (¬ a ≤ b → K (.c (.d (.bool false))))
  | .gtr => (b < a → K (.c (.d (.bool true)))) ∧ (¬ b < a → K (.c (.d (.bool false))))
  | .geq => (b ≤ a → K (.c (.d (.bool true)))) ∧ (¬ b ≤ a → K (.c (.d (.bool false))))
  | op => ∃ d, binD op (.int k a) (.int k b) = some d ∧ ∀ d', d' = d → K (.c (.d d'))

def vBin (op : BinOp) : AV → AV → (AV → Prop) → Prop
  | .c (.d (.int k a)), .c (.d (.int k' b)), K => match op with
    | .shl => (Unit → 0 ≤ b) ∧ ∀ c, c = k.wrap (a * 2 ^ (min b.toNat k.bits)) → K (.c (.d (.int k c)))
    | .shr => (Unit → 0 ≤ b) ∧ ∀ c, c = a.fdiv (2 ^ (min b.toNat k.bits)) → K (.c (.d (.int k c)))
    | op => if k = k' then vInt op k a b K else False
  | .c (.d (.str a)), .c (.d (.str b)), K => match op with
    | .add => (Unit → a.length + b.length < 9223372036854775808) ∧ ∀ c, c = a ++ b → K (.c (.d (.str c)))
    | .eql => (a = b → K (.c (.d (.bool true)))) ∧ (¬ a = b → K (.c (.d (.bool false))))
    | .neq => (¬ a = b → K (.c (.d (.bool true)))) ∧ (a = b → K (.c (.d (.bool false))))
    | _ => False
  | _, _, _ => False

theorem vInt_sound {op : BinOp} {k : IntKind} {a b : Int} {K : AV → Prop} (h1 : op ≠ .shl) (h2 : op ≠ .shr) (hv : vInt op k a b K) : ∃ d, binD op (.int k a) (.int k b) = some d ∧ K (.c (.d d)) := by
  cases op
  case shl => exact absurd rfl h1
  case shr => exact absurd rfl h2
  case add => exact ⟨_, by simp [binD], hv _ rfl⟩
  case sub => exact ⟨_, by simp [binD], hv _ rfl⟩
  case mul => exact ⟨_, by simp [binD], hv _ rfl⟩
  case quo => exact ⟨_, by simp only [binD, if_true, hv.1 (), if_false], hv.2 _ rfl⟩
  case rem => exact ⟨_, by simp only [binD, if_true, hv.1 (), if_false], hv.2 _ rfl⟩
  case eql =>
    by_cases h : a = b
    · exact ⟨.bool true, by simp [binD, h], hv.1 h⟩
    · exact ⟨.bool false, by simp [binD, h], hv.2 h⟩
  case neq =>
    by_cases h : a = b
    · exact ⟨.bool false, by simp [binD, h], hv.2 h⟩
    · exact ⟨.bool true, by simp [binD, h], hv.1 h⟩
  case lss =>
    by_cases h : a < b
    · exact ⟨.bool true, by simp [binD, h], hv.1 h⟩
    · exact ⟨.bool false, by simp only [binD, if_true, h, decide_false], hv.2 h⟩
  case leq =>
    by_cases h : a ≤ b
    · exact ⟨.bool true, by simp [binD, h], hv.1 h⟩
    · exact ⟨.bool false, by simp only [binD, if_true, h, decide_false], hv.2 h⟩
  case gtr =>
    by_cases h : b < a
    · exact ⟨.bool true, by simp [binD, h], hv.1 h⟩
    · exact ⟨.bool false, by simp only [binD, if_true, gt_iff_lt, h, decide_false], hv.2 h⟩
  case geq =>
    by_cases h : b ≤ a
    · exact ⟨.bool true, by simp [binD, h], hv.1 h⟩
    · exact ⟨.bool false, by simp only [binD, if_true, ge_iff_le, h, decide_false], hv.2 h⟩
  all_goals
    obtain ⟨d, hd, hk⟩ := hv
    exact ⟨d, hd, hk d rfl⟩

theorem vBin_sound {op : BinOp} {x y : AV} {K : AV → Prop} (hv : vBin op x y K) : ∃ a b d, x = .c (.d a) ∧ y = .c (.d b) ∧ binD op a b = some d ∧ K (.c (.d d)) := by
  unfold vBin at hv
  split at hv
  · rename_i k a k' b
    split at hv
    · exact ⟨_, _, _, rfl, rfl, by simp only [binD]; rw [if_neg (by have := hv.1 (); omega)], hv.2 _ rfl⟩
    · exact ⟨_, _, _, rfl, rfl, by simp only [binD]; rw [if_neg (by have := hv.1 (); omega)], hv.2 _ rfl⟩
    · rename_i h1 h2
      split at hv
      · rename_i hk
        subst hk
        obtain ⟨d, hd, hk⟩ := vInt_sound h1 h2 hv
        exact ⟨_, _, d, rfl, rfl, hd, hk⟩
      · exact hv.elim
  · rename_i a b
    split at hv
    · exact ⟨_, _, _, rfl, rfl, by simp only [binD]; rw [if_pos (hv.1 ())], hv.2 _ rfl⟩
    · by_cases h : a = b
      · exact ⟨_, _, .bool true, rfl, rfl, by simp [binD, h], hv.1 h⟩
      · exact ⟨_, _, .bool false, rfl, rfl, by simp [binD, h], hv.2 h⟩
    · by_cases h : a = b
      · exact ⟨_, _, .bool false, rfl, rfl, by simp [binD, h], hv.2 h⟩
      · exact ⟨_, _, .bool true, rfl, rfl, by simp [binD, h], hv.1 h⟩
    · exact hv.elim
  · exact hv.elim

/-- the leaves of two aggregates are the same -/
def eqP (xs ys : List CV) : List (Nat × Nat) → Option Prop
  | [] => some True
  | (o, k) :: r => match xs[o]?, ys[o]? with
    | some (.d (.int k1 a)), some (.d (.int k2 b)) => match k with
      | 0 => if k1 = k2 then
          (match eqP xs ys r with
          | some p => some (a = b ∧ p)
          | none => none) else none
      | _ => none
    | some (.d (.bool a)), some (.d (.bool b)) => match k with
      | 1 => (match eqP xs ys r with
          | some p => some (a = b ∧ p)
          | none => none)
      | _ => none
    | some (.d (.str a)), some (.d (.str b)) => match k with
      | 2 => (match eqP xs ys r with
          | some p => some (a = b ∧ p)
          | none => none)
      | _ => none
    | _, _ => none

theorem eqP_sound {xs ys : List CV} : ∀ {ls : List (Nat × Nat)} {p : Prop}, eqP xs ys ls = some p → ∃ b, eqc xs ys ls = some b ∧ (b = true ↔ p) := by
  intro ls
  induction ls with
  | nil => intro p h; simp only [eqP, Option.some.injEq] at h; subst h; exact ⟨true, rfl, by simp⟩
  | cons q r ih =>
    intro p h
    obtain ⟨o, k⟩ := q
    simp only [eqP] at h
    split at h
    · rename_i k1 a k2 b h1 h2
      split at h
      · split at h
        · rename_i hk
          subst hk
          split at h
          · rename_i p' hp'
            cases h
            obtain ⟨c, hc, hi⟩ := ih hp'
            exact ⟨(a == b) && c, by simp [eqc, h1, h2, deq, hc], by simp [hi]⟩
          · cases h
        · cases h
      · cases h
    · rename_i a b h1 h2
      split at h
      · split at h
        · rename_i p' hp'
          cases h
          obtain ⟨c, hc, hi⟩ := ih hp'
          exact ⟨(a == b) && c, by simp [eqc, h1, h2, deq, hc], by simp [hi]⟩
        · cases h
      · cases h
    · rename_i a b h1 h2
      split at h
      · split at h
        · rename_i p' hp'
          cases h
          obtain ⟨c, hc, hi⟩ := ih hp'
          exact ⟨(a == b) && c, by simp [eqc, h1, h2, deq, hc], by simp [hi]⟩
        · cases h
      · cases h
    · cases h

/-- slicing a list -/
def vSl (Λ : Len) (sz : Nat) (x : AV) (lo hi mx : Option Int) (K : AV → Prop) : Prop :=
  match x with
  | .c (.d (.list nl sz' l)) => match Nat.beq sz' sz with
    | true => (match lo, hi, mx with
      | some a, none, none => (Unit → 0 ≤ a ∧ a ≤ Λ l) ∧ ∀ l', l' = l.drop a.toNat → K (.c (.d (.list nl sz l')))
      | none, some b, none => (Unit → 0 ≤ b ∧ b ≤ Λ l) ∧ ∀ l', l' = l.take b.toNat → K (.c (.d (.list nl sz l')))
      | some a, some b, none => (Unit → 0 ≤ a ∧ a ≤ b ∧ b ≤ Λ l) ∧ ∀ l', l' = (l.take b.toNat).drop a.toNat → K (.c (.d (.list nl sz l')))
      | none, none, none => K (.c (.d (.list nl sz l)))
      | none, some b, some m => (Unit → 0 ≤ b ∧ b = m ∧ m ≤ Λ l) ∧ ∀ l', l' = l.take b.toNat → K (.c (.cl nl sz l'))
      | _, _, _ => False)
    | false => False
  | .c (.arr l v i n) => (match lo, hi, mx with
    | some a, none, none => (Unit → 0 ≤ a ∧ a ≤ nI n) ∧ ∀ i' n', i' = i + a.toNat → n' = n - a.toNat → K (.c (.arr l v i' n'))
    | none, some b, none => (Unit → 0 ≤ b ∧ b ≤ nI n) ∧ ∀ n', n' = b.toNat → K (.c (.arr l v i n'))
    | some a, some b, none => (Unit → 0 ≤ a ∧ a ≤ b ∧ b ≤ nI n) ∧ ∀ i' n', i' = i + a.toNat → n' = b.toNat - a.toNat → K (.c (.arr l v i' n'))
    | none, none, none => K (.c (.arr l v i n))
    | _, _, _ => False)
  | x => match slv sz x lo hi mx with
    | some r => K r
    | none => False

theorem slb_lo {n : Nat} {a : Int} (h : 0 ≤ a ∧ a ≤ n) : slb n (some a) none none = some (a.toNat, n, none) := by
  unfold slb; simp [h]
theorem slb_hi {n : Nat} {b : Int} (h : 0 ≤ b ∧ b ≤ n) : slb n none (some b) none = some (0, b.toNat, none) := by
  unfold slb; simp [h]
theorem slb_no {n : Nat} : slb n none none none = some (0, n, none) := by
  unfold slb; simp
theorem slb_both {n : Nat} {a b : Int} (h : 0 ≤ a ∧ a ≤ b ∧ b ≤ n) : slb n (some a) (some b) none = some (a.toNat, b.toNat, none) := by
  have h1 : 0 ≤ b ∧ b ≤ (n : Int) := ⟨by omega, h.2.2⟩
  have h2 : 0 ≤ a ∧ a ≤ ((b.toNat : Nat) : Int) := ⟨h.1, by omega⟩
  unfold slb; simp only [Option.getD_none, h1, and_self, if_true, h2]
theorem slb_clip {n : Nat} {b : Int} (h : 0 ≤ b ∧ b ≤ n) : slb n none (some b) (some b) = some (0, b.toNat, some b.toNat) := by
  have h2 : 0 ≤ b ∧ b ≤ ((b.toNat : Nat) : Int) := ⟨h.1, by omega⟩
  unfold slb; simp only [h, and_self, if_true, Option.getD_some, h2]

theorem vSl_sound {Λ : Len} (hΛ : ∀ l, Λ l = (l.length : Int)) {sz : Nat} {x : AV} {lo hi mx : Option Int} {K : AV → Prop} (hv : vSl Λ sz x lo hi mx K) : ∃ r, slv sz x lo hi mx = some r ∧ K r := by
  unfold vSl at hv
  simp only [nI_eq, hΛ] at hv
  split at hv
  · rename_i nl sz' l
    split at hv
    · rename_i hsz
      have hsz : sz' = sz := by simpa [Nat.beq_eq] using hsz
      subst hsz
      split at hv
      · exact ⟨_, by simp [slv, slb_lo (hv.1 ())], hv.2 _ rfl⟩
      · exact ⟨_, by simp [slv, slb_hi (hv.1 ())], hv.2 _ rfl⟩
      · exact ⟨_, by simp [slv, slb_both (hv.1 ())], hv.2 _ rfl⟩
      · exact ⟨_, by simp [slv, slb_no], hv⟩
      · obtain ⟨h0, h4⟩ := hv
        obtain ⟨h1, rfl, h3⟩ := h0 ()
        exact ⟨_, by simp [slv, slb_clip ⟨h1, h3⟩], h4 _ rfl⟩
      · exact hv.elim
    · exact hv.elim
  · split at hv
    · exact ⟨_, by simp [slv, slb_lo (hv.1 ())], hv.2 _ _ rfl rfl⟩
    · exact ⟨_, by simp [slv, slb_hi (hv.1 ())], hv.2 _ rfl⟩
    · exact ⟨_, by simp [slv, slb_both (hv.1 ())], hv.2 _ _ rfl rfl⟩
    · exact ⟨_, by simp [slv, slb_no], hv⟩
    · exact hv.elim
  · split at hv
    · rename_i r hr; exact ⟨r, hr, hv⟩
    · exact hv.elim

/-- the address of an element -/
def vIx (Λ : Len) (h : Hp) (sz : Nat) (x : AV) (i : Int) (K : AV → Prop) : Prop :=
  match x with
  | .c (.d (.list _ sz' l)) => match Nat.beq sz' sz with
    | true => (Unit → 0 ≤ i ∧ i < Λ l) ∧ ∀ e, l[i.toNat]? = some e → K (.c (.rp e))
    | false => False
  | .c (.cl _ sz' l) => match Nat.beq sz' sz with
    | true => (Unit → 0 ≤ i ∧ i < Λ l) ∧ ∀ e, l[i.toNat]? = some e → K (.c (.rp e))
    | false => False
  | .c (.arr l v k n) => match h[l]? with
    | some (.da _ v' sz' _) => match Nat.beq sz' sz with
      | true => (Unit → v' = v ∧ 0 ≤ i ∧ i < nI n) ∧ ∀ p, p = k + i.toNat → K (.c (.ptr l v p 0))
      | false => False
    | _ => False
  | _ => False

theorem vIx_sound {Λ : Len} (hΛ : ∀ l, Λ l = (l.length : Int)) {h : Hp} {sz : Nat} {x : AV} {i : Int} {K : AV → Prop} (hv : vIx Λ h sz x i K) : ∃ r, ixv h sz x i = some r ∧ K r := by
  unfold vIx at hv
  simp only [nI_eq, hΛ] at hv
  split at hv
  · rename_i nl sz' l
    split at hv
    · rename_i hsz
      have hsz : sz' = sz := by simpa [Nat.beq_eq] using hsz
      subst hsz
      have h01 := hv.1 ()
      have hlt : i.toNat < l.length := by omega
      exact ⟨_, by simp [ixv, h01.1, List.getElem?_eq_getElem hlt], hv.2 _ (List.getElem?_eq_getElem hlt)⟩
    · exact hv.elim
  · rename_i nl sz' l
    split at hv
    · rename_i hsz
      have hsz : sz' = sz := by simpa [Nat.beq_eq] using hsz
      subst hsz
      have h01 := hv.1 ()
      have hlt : i.toNat < l.length := by omega
      exact ⟨_, by simp [ixv, h01.1, List.getElem?_eq_getElem hlt], hv.2 _ (List.getElem?_eq_getElem hlt)⟩
    · exact hv.elim
  · rename_i l v k n
    split at hv
    · rename_i v' sz' es hes
      split at hv
      · rename_i h2
        have h2 : sz' = sz := by simpa [Nat.beq_eq] using h2
        obtain ⟨h1, h3⟩ := hv.1 ()
        subst h1 h2
        exact ⟨_, by simp [ixv, hes, h3], hv.2 _ rfl⟩
      · exact hv.elim
    · exact hv.elim
  · exact hv.elim

/-- every index of an array, one by one -/
def vAll (k : Int) (f : Nat → Prop) : Nat → Prop
  | 0 => True
  | n + 1 => vAll k f n ∧ (k = nI n → f n)

theorem vAll_sound {k : Int} {f : Nat → Prop} : ∀ {n : Nat}, vAll k f n → 0 ≤ k → k < n → f k.toNat := by
  intro n
  induction n with
  | zero => intro _ h1 h2; omega
  | succ n ih =>
    intro hv h1 h2
    by_cases h : k = n
    · have := hv.2 (by rw [nI_eq]; exact h)
      rw [h]; exact this
    · exact ih hv.1 h1 (by omega)

/-- what a pointer leads to -/
def vRd (h : Hp) (x : AV) (K : List CV → Prop) : Prop :=
  match x with
  | .c (.ptr l v i j) => match h[l]? with
    | some (.bx cs) => (match i with
      | 0 => K (cs.drop j)
      | _ + 1 => False)
    | some (.da _ v' _ es) => (Unit → v' = v ∧ i < es.length) ∧ ∀ e, es[i]? = some e → K ((e.drop j).map .d)
    | _ => False
  | .c (.rp cs) => K (cs.map .d)
  | _ => False

theorem vRd_sound {h : Hp} {x : AV} {K : List CV → Prop} (hv : vRd h x K) : ∃ cs, rd h x = some cs ∧ K cs := by
  unfold vRd at hv
  split at hv
  · rename_i l v i j
    split at hv
    · rename_i cs hcs
      split at hv
      · exact ⟨_, by simp [rd, hcs], hv⟩
      · exact hv.elim
    · rename_i v' sz es hes
      obtain ⟨hlt0, hk⟩ := hv
      obtain ⟨h1, hlt⟩ := hlt0 ()
      clear hlt0
      subst h1
      have he : es[i]? = some (es[i]'hlt) := List.getElem?_eq_getElem hlt
      exact ⟨_, by simp only [rd, hes, he, if_true], hk _ he⟩
    · exact hv.elim
  · exact ⟨_, rfl, hv⟩
  · exact hv.elim

/-- a store -/
def vSt (h : Hp) (p : AV) (cs : List CV) (K : Hp → Prop) : Prop :=
  match p with
  | .c (.ptr l v i j) => match h[l]? with
    | some (.bx _) => (match wr h p cs with
      | some h' => K h'
      | none => False)
    | some (.da r v' sz es) => (match toDs cs with
      | some ds => (Unit → v' = v ∧ i < es.length ∧ j + ds.length ≤ sz) ∧ ∀ e, es[i]? = some e → ∀ es', es' = es.set i (e.take j ++ (ds ++ e.drop (j + ds.length))) → K (h.set l (.da r v' sz es'))
      | none => False)
    | _ => False
  | _ => False

theorem vSt_sound {h : Hp} {p : AV} {cs : List CV} {K : Hp → Prop} (hv : vSt h p cs K) : ∃ h', (wr h p cs = some h' ∨ (wr h p cs = none ∧ wrd h p cs = some h')) ∧ K h' := by
  unfold vSt at hv
  split at hv
  · rename_i l v i j
    split at hv
    · split at hv
      · rename_i h' hw; exact ⟨h', .inl hw, hv⟩
      · exact hv.elim
    · rename_i v' sz es hes
      split at hv
      · rename_i ds hds
        obtain ⟨hlt0, hk⟩ := hv
        obtain ⟨h1, hlt, hj⟩ := hlt0 ()
        clear hlt0
        subst h1
        have he : es[i]? = some es[i] := List.getElem?_eq_getElem hlt
        exact ⟨_, .inr ⟨by simp [wr, hes], by simp only [wrd, hes, he, hds, hj, if_true]⟩, hk _ he _ rfl⟩
      · exact hv.elim
    · exact hv.elim
  · exact hv.elim

/-- append -/
def vApp (h : Hp) (sz bytes : Nat) (x : AV) (ys : List (List D)) (K : AV → Hp → Prop) : Prop :=
  match x with
  | .c (.d (.list true sz' _)) => (match Nat.beq sz' sz with
    | true => (Unit → ys.length * bytes ≤ 140737488355328) ∧ ∀ n r es, n = ys.length → r = nz ys → es = ys → K (.c (.arr h.length 0 0 n)) (h ++ [.da r 0 sz es])
    | false => False)
  | .c (.cl nl sz' l) => (match Nat.beq sz' sz with
    | true => (Unit → (l.length + ys.length) * bytes ≤ 140737488355328) ∧ (ys = [] → K (.c (.cl nl sz' l)) h) ∧
        (ys ≠ [] → ∀ n es, n = l.length + ys.length → es = l ++ ys → K (.c (.arr h.length 0 0 n)) (h ++ [.da true 0 sz es]))
    | false => False)
  | .c (.arr l v i n) => match h[l]? with
    | some (.da r v' sz' es) => (match Nat.beq sz' sz with
      | true => (Unit → v' = v ∧ (n + ys.length) * bytes ≤ 140737488355328) ∧ ∀ m r' es', m = n + ys.length → r' = (r || nz ys) → es' = (es.drop i).take n ++ ys → K (.c (.arr l (v + 1) 0 m)) (h.set l (.da r' (v + 1) sz es'))
      | false => False)
    | _ => False
  | _ => False

theorem vApp_sound {h : Hp} {sz bytes : Nat} {x : AV} {ys : List (List D)} {K : AV → Hp → Prop} (hv : vApp h sz bytes x ys K) : ∃ r h', appv h sz bytes x ys = some (r, h') ∧ K r h' := by
  unfold vApp at hv
  split at hv
  · rename_i sz' l
    split at hv
    · rename_i h1
      have h1 : sz' = sz := by simpa [Nat.beq_eq] using h1
      subst h1
      obtain ⟨hb, hv⟩ := hv
      have hb := hb ()
      exact ⟨_, _, by simp only [appv, true_and]; rw [if_pos hb], hv _ _ _ rfl rfl rfl⟩
    · exact hv.elim
  · rename_i nl sz' l
    split at hv
    · rename_i h1
      have h1 : sz' = sz := by simpa [Nat.beq_eq] using h1
      subst h1
      obtain ⟨hb, hv1, hv2⟩ := hv
      have hb := hb ()
      cases ys with
      | nil => exact ⟨_, _, by simp only [appv, true_and]; rw [if_pos hb], hv1 rfl⟩
      | cons y r => exact ⟨_, _, by simp only [appv, true_and]; rw [if_pos hb]; rfl, hv2 (by simp) _ _ rfl rfl⟩
    · exact hv.elim
  · rename_i l v i n
    split at hv
    · rename_i rl v' sz' es hes
      split at hv
      · rename_i h2
        have h2 : sz' = sz := by simpa [Nat.beq_eq] using h2
        obtain ⟨h1, hb⟩ := hv.1 ()
        subst h1 h2
        exact ⟨_, _, by simp only [appv, hes, true_and]; rw [if_pos hb], hv.2 _ _ _ rfl rfl rfl⟩
      · exact hv.elim
    · exact hv.elim
  · exact hv.elim

end Go.Ab
