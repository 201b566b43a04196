/-
  Merged texts, part h.
-/
import Derived.Test.YtjaodmgeonfkiaaZg
import Derived.Scope
/-
  The engine, part v: the conditions of an operation, of a region, of a text, of a function; that they suffice.
-/
namespace Go.Ab

def ointN (L : Lv) : Option X → Option (Option Int)
  | none => some none
  | some x => match evN L x with
    | .c (.d (.int _ n)) => some (some n)
    | _ => none

theorem ointN_eq (L : Lv) (x : Option X) : ointN L x = oint (lkL L) x := by
  cases x with
  | none => rfl
  | some y => simp only [ointN, oint, evN_eq]; rfl

/-- a function of the program's own, with a text -/
structure FnOk (P : Program) (f : Nat) : Prop where
  ok : ∃ fn, P.funcs[f]? = some fn ∧ fn.body.isSome = true ∧ fn.name ≠ "runtime.NumGoroutine"

def vLk (ok : Bool) (z : AV) (K : AV → Prop) : Option (Option (Nat × DV)) → Prop
  | none => False
  | some none => K (lkR ok z false)
  | some (some (_, v)) => K (lkR ok (avDV v) true)
def vUp (es : List (DV × DV)) (kd vd : DV) (K : List (DV × DV) → Prop) : Option (Option (Nat × DV)) → Prop
  | none => False
  | some none => ∀ es', es' = es ++ [(kd, vd)] → K es'
  | some (some (i, _)) => ∀ es', es' = es.set i (kd, vd) → K es'
def vDel (es : List (DV × DV)) (K0 : Prop) (K : List (DV × DV) → Prop) : Option (Option (Nat × DV)) → Prop
  | none => False
  | some none => K0
  | some (some (i, _)) => ∀ es', es' = es.eraseIdx i → K es'

/-- further operations -/
def vMo (o : MOp) (avs : List AV) (h : Hp) (K : AV → Hp → Prop) : Prop :=
  match o, avs with
  | .apz sz bytes z, [.c (.d (.list true sz' _)), .c (.d (.int .i64 n))] => (match Nat.beq sz' sz with
      | true => (Unit → 0 < n ∧ n.toNat * bytes ≤ 140737488355328) ∧ ∀ k es, k = n.toNat → es = List.replicate n.toNat z → K (.c (.arr h.length 0 0 k)) (h ++ [.da true 0 sz es])
      | false => False)
  | .mkm, [] => K (.c (.mp h.length)) (h ++ [.mp 0 []])
  | .lk sc n ls ok z, [.c (.mp l), k] => (match h[l]?, keyDV ls sc n k with
    | some (.mp _ es), some kd => ∀ r, mfind sc n ls kd es 0 = r → vLk ok z (fun v => K v h) r
    | _, _ => False)
  | .up sc n ls, [.c (.mp l), k, x] => (match keyDV ls sc n k, valDV h x with
    | some kd, some (vd, h1) => (match h1[l]? with
      | some (.mp v es) => ∀ r, mfind sc n ls kd es 0 = r → vUp es kd vd (fun es' => K (.c .u) (h1.set l (.mp (v + 1) es'))) r
      | _ => False)
    | _, _ => False)
  | .del sc n ls, [.c (.mp l), k] => (match h[l]?, keyDV ls sc n k with
    | some (.mp v es), some kd => ∀ r, mfind sc n ls kd es 0 = r → vDel es (K (.tup []) h) (fun es' => K (.tup []) (h.set l (.mp (v + 1) es'))) r
    | _, _ => False)
  | .lnm, [.c (.mp l)] => (match h[l]? with
    | some (.mp _ es) => ∀ c : Int, c = es.length → K (.c (.d (.int .i64 c))) h
    | _ => False)
  | .mm true, [.c (.d (.int .i64 a)), .c (.d (.int .i64 b))] => ∀ c : Int, (a ≤ c ∧ b ≤ c ∧ (c = a ∨ c = b)) → K (.c (.d (.int .i64 c))) h
  | .mm false, [.c (.d (.int .i64 a)), .c (.d (.int .i64 b))] => ∀ c : Int, (c ≤ a ∧ c ≤ b ∧ (c = a ∨ c = b)) → K (.c (.d (.int .i64 c))) h
  | .clr sz z, [.c (.arr l v i n)] => (match h[l]? with
    | some (.da r v' sz' es) => (match Nat.beq sz' sz with
      | true => (Unit → v' = v) ∧ ∀ es', es' = es.take i ++ (List.replicate n z ++ es.drop (i + n)) → K (.tup []) (h.set l (.da r v' sz es'))
      | false => False)
    | _ => False)
  | _, _ => False

theorem vMo_sound {o : MOp} {avs : List AV} {h : Hp} {K : AV → Hp → Prop} (hv : vMo o avs h K) : ∃ v h', mstep h o avs = some (v, h') ∧ K v h' := by
  unfold vMo at hv
  split at hv
  · rename_i sz bytes z sz' l n
    split at hv
    · rename_i q
      have q : sz' = sz := by simpa [Nat.beq_eq] using q
      subst q
      obtain ⟨c1, c2⟩ := hv.1 ()
      exact ⟨_, _, by simp only [mstep]; rw [if_pos ⟨trivial, c1, c2⟩], hv.2 _ _ rfl rfl⟩
    · exact hv.elim
  · exact ⟨_, _, by simp only [mstep], hv⟩
  · rename_i sc n ls ok z l k
    split at hv
    · rename_i ver es kd h1 h2
      have hv := hv _ rfl
      cases hm : mfind sc n ls kd es 0 with
      | none => rw [hm] at hv; exact hv.elim
      | some r =>
        rw [hm] at hv
        cases r with
        | none => exact ⟨_, _, by simp only [mstep, h1, h2, hm], hv⟩
        | some p => obtain ⟨j, v⟩ := p; exact ⟨_, _, by simp only [mstep, h1, h2, hm], hv⟩
    · exact hv.elim
  · rename_i sc n ls l k x
    split at hv
    · rename_i kd vd h1 hk hx
      split at hv
      · rename_i ver es hl
        have hv := hv _ rfl
        cases hm : mfind sc n ls kd es 0 with
        | none => rw [hm] at hv; exact hv.elim
        | some r =>
          rw [hm] at hv
          cases r with
          | none => exact ⟨_, _, by simp only [mstep, hk, hx, hl, hm], hv _ rfl⟩
          | some p => obtain ⟨j, v⟩ := p; exact ⟨_, _, by simp only [mstep, hk, hx, hl, hm], hv _ rfl⟩
      · exact hv.elim
    · exact hv.elim
  · rename_i sc n ls l k
    split at hv
    · rename_i ver es kd h1 h2
      have hv := hv _ rfl
      cases hm : mfind sc n ls kd es 0 with
      | none => rw [hm] at hv; exact hv.elim
      | some r =>
        rw [hm] at hv
        cases r with
        | none => exact ⟨_, _, by simp only [mstep, h1, h2, hm], hv⟩
        | some p => obtain ⟨j, v⟩ := p; exact ⟨_, _, by simp only [mstep, h1, h2, hm], hv _ rfl⟩
    · exact hv.elim
  · rename_i l
    split at hv
    · rename_i ver es h1
      exact ⟨_, _, by simp only [mstep, h1], hv _ rfl⟩
    · exact hv.elim
  · rename_i a b
    refine ⟨_, _, by simp only [mstep, if_true]; rfl, hv _ ?_⟩
    split <;> omega
  · rename_i a b
    refine ⟨_, _, by simp only [mstep, if_true, Bool.false_eq_true, if_false]; rfl, hv _ ?_⟩
    split <;> omega
  · rename_i sz z l v i n
    split at hv
    · rename_i r v' sz' es hl
      split at hv
      · rename_i q
        have q : sz' = sz := by simpa [Nat.beq_eq] using q
        subst q
        have hvv := hv.1 ()
        subst hvv
        exact ⟨_, _, by simp only [mstep, hl, and_self, if_true], hv.2 _ rfl⟩
      · exact hv.elim
    · exact hv.elim
  · exact hv.elim

def vcOp (P : Program) (Λ : Len) (m : Nat) (d : Bool) (op : AOp) (L : Lv) (h : Hp) (K : Lv → AV → Hp → Prop) : Prop :=
  match op with
  | .mv x => K L (evN L x) h
  | .pick c a b => match evN L c with
    | .c (.d (.bool t)) => (match t with
      | true => K L (evN L a) h
      | false => K L (evN L b) h)
    | _ => False
  | .ld x none => vRd h (evN L x) fun cs => match cs with
    | c :: _ => K L (.c c) h
    | [] => False
  | .ld x (some n) => vRd h (evN L x) fun cs => n ≤ cs.length ∧ K L (.agg (cs.take n)) h
  | .st x v n => match cells (evN L v) with
    | some cs => cs.length = n ∧ (Unit → cellsOk h cs = true) ∧ vSt h (evN L x) cs fun h' => K L (.c .u) h'
    | none => False
  | .bin bo a b => vBin bo (evN L a) (evN L b) fun v => K L v h
  | .beq ne a b => match evN L a, evN L b with
    | .c (.d (.bool x)), .c (.d (.bool y)) => (match x, y with
      | true, true => K L (.c (.d (.bool (!ne)))) h
      | false, false => K L (.c (.d (.bool (!ne)))) h
      | true, false => K L (.c (.d (.bool ne))) h
      | false, true => K L (.c (.d (.bool ne))) h)
    | _, _ => False
  | .eqa ne n ls a b => match evN L a, evN L b with
    | .agg xs, .agg ys => xs.length = n ∧ ys.length = n ∧ (match eqP xs ys ls with
      | some p => (p → K L (.c (.d (.bool (!ne)))) h) ∧ (¬ p → K L (.c (.d (.bool ne))) h)
      | none => False)
    | _, _ => False
  | .un .not x => match evN L x with
    | .c (.d (.bool b)) => (match b with
      | true => K L (.c (.d (.bool false))) h
      | false => K L (.c (.d (.bool true))) h)
    | _ => False
  | .isnil kd ne x => (match kd, d, evN L x with
    | 0, false, .c (.d (.list false _ l)) => K L (.c (.d (.bool ne))) h ∧ (l = [] → K L (.c (.d (.bool (!ne)))) h)
    | kd, _, v => match isNil h kd v with
      | some b => (match b with
        | true => K L (.c (.d (.bool (!ne)))) h
        | false => K L (.c (.d (.bool ne))) h)
      | none => False)
  | .cvi k x => match evN L x with
    | .c (.d (.int _ n)) => ∀ c, c = k.wrap n → K L (.c (.d (.int k c))) h
    | _ => False
  | .sl sz x lo hi mx => match ointN L lo, ointN L hi, ointN L mx with
    | some lo, some hi, some mx => (match evN L x with
      | .c (.arr l v i n) => (match h[l]? with
        | some (.da _ v' sz' _) => (match Nat.beq sz' sz with
          | true => (Unit → v' = v) ∧ vSl Λ sz (.c (.arr l v i n)) lo hi mx fun r => K L r h
          | false => False)
        | _ => False)
      | xv => vSl Λ sz xv lo hi mx fun r => K L r h)
    | _, _, _ => False
  | .ias sz x i => match evN L i with
    | .c (.d (.int _ n)) => vIx Λ h sz (evN L x) n fun r => K L r h
    | _ => False
  | .iaa n sz x (.t i) => match lkN L i with
    | .c (.d (.int _ k)) => (Unit → 0 ≤ k ∧ k < nI n) ∧ vAll k (fun j => match evN L x with
      | .c (.rp cs) => K L (.c (.rp (cs.drop (j * sz)))) h
      | .c (.ptr l v p q) => (match solid h (.ptr l v p q) with
        | true => K L (.c (.ptr l v p (q + j * sz))) h
        | false => False)
      | _ => False) n
    | _ => False
  | .ixa n sz ag x (.t i) => match lkN L i with
    | .c (.d (.int _ k)) => (Unit → 0 ≤ k ∧ k < nI n) ∧ vAll k (fun j => match evN L x with
      | .agg l => (match ag with
        | true => (match Nat.ble (j * sz + sz) l.length with
          | true => K L (.agg ((l.drop (j * sz)).take sz)) h
          | false => False)
        | false => (match l[j * sz]? with
          | some c => K L (.c c) h
          | none => False))
      | _ => False) n
    | _ => False
  | .len x => match d, evN L x with
    | false, .c (.arr l v _ n) => (match h[l]? with
      | some (.da _ v' _ _) => (Unit → v' = v) ∧ ∀ c : Int, c = nI n → c ≤ 9223372036854775807 → K L (.c (.d (.int .i64 c))) h
      | _ => False)
    | d, xv => match view h xv with
    | some (_, l) => (match d with
      | true => K L (.c (.d (.int .i64 (Λ l)))) h
      | false => Λ l ≤ 9223372036854775807 → K L (.c (.d (.int .i64 (Λ l)))) h)
    | none => False
  | .app sz bytes _ x y => match view h (evN L y) with
    | some (sz', ys) => (match Nat.beq sz' sz with
      | true => vApp h sz bytes (evN L x) ys (K L)
      | false => False)
    | none => False
  | .mks sz bytes z l c => match evN L l, evN L c with
    | .c (.d (.int _ n)), .c (.d (.int _ m)) => (Unit → 0 ≤ n ∧ n ≤ m ∧ m ≤ 9223372036854775807 ∧ m.toNat * bytes ≤ 140737488355328) ∧
        ∀ k es, k = n.toNat → es = List.replicate n.toNat z → K L (.c (.arr h.length 0 0 k)) (h ++ [.da true 0 sz es])
    | _, _ => False
  | .bsl sz z n ps => match elemsOf h (lkN L) ps with
    | some (as, h1) => (match fillE sz (List.replicate n z) as with
      | some es => (d = true → h1 = h) ∧ (n * sz ≤ 16777216 ∧ n ≤ 16777216) ∧ K L (.c (.arr h1.length 0 0 n)) (h1 ++ [.da true 0 sz es])
      | none => False)
    | none => False
  | .mo o xs => vMo o (evsN L xs) h (K L)
  | .call f xs => CallS P m d L h f xs K
  | .callv x xs => match d, evN L x with
    | false, .c (.fn f caps) => FnOk P f ∧ CallV P h f (evsN L xs ++ caps.map .c) (K L)
    | _, _ => False
  | op => match astep (lkN L) h op with
    | some (v, h') => K L v h'
    | none => False

/-- what an operation comes to, by its condition -/
inductive Did (P : Program) (m : Nat) (d : Bool) (op : AOp) : Lv → Hp → (Lv → AV → Hp → Prop) → Prop
  | wk {L : Lv} {h : Hp} {L1 : Lv} {h1 : Hp} {K : Lv → AV → Hp → Prop} (hd : d = false) (hw : Wk m L h L1 h1) (k : Did P m d op L1 h1 K) : Did P m d op L h K
  | step {L : Lv} {h : Hp} {K : Lv → AV → Hp → Prop} (v : AV) (h' : Hp) (hs : astep (lkL L) h op = some (v, h')) (hd : d = true → cls op = 1 → ∃ k, h' = h ++ [k]) (k : K L v h') : Did P m d op L h K
  | call {L : Lv} {h : Hp} {K : Lv → AV → Hp → Prop} (f : Nat) (xs : List X) (ho : op = .call f xs) (hc : CallS P m d L h f xs K) : Did P m d op L h K
  | len {L : Lv} {h : Hp} {K : Lv → AV → Hp → Prop} (x : X) (sz : Nat) (l : List (List D)) (ho : op = .len x) (hd : d = false) (hx : view h (ev (lkL L) x) = some (sz, l)) (k : l.length ≤ 9223372036854775807 → K L (.c (.d (.int .i64 l.length))) h) : Did P m d op L h K
  | lenA {L : Lv} {h : Hp} {K : Lv → AV → Hp → Prop} (x : X) (l v i n : Nat) (ho : op = .len x) (hd : d = false) (hx : ev (lkL L) x = .c (.arr l v i n)) (hs : solid h (.arr l v i n) = true) (k : n ≤ 9223372036854775807 → K L (.c (.d (.int .i64 n))) h) : Did P m d op L h K
  | nil {L : Lv} {h : Hp} {K : Lv → AV → Hp → Prop} (ne : Bool) (x : X) (nl : Bool) (sz : Nat) (l : List (List D)) (ho : op = .isnil 0 ne x) (hd : d = false) (hx : ev (lkL L) x = .c (.d (.list nl sz l))) (k : ∀ b : Bool, (b = true → l = []) → K L (.c (.d (.bool (if ne then !b else b)))) h) : Did P m d op L h K
  | callv {L : Lv} {h : Hp} {K : Lv → AV → Hp → Prop} (x : X) (xs : List X) (f : Nat) (caps : List CV) (ho : op = .callv x xs) (hd : d = false) (hx : ev (lkL L) x = .c (.fn f caps)) (hf : FnOk P f) (hc : CallV P h f (evsN L xs ++ caps.map .c) (K L)) : Did P m d op L h K

theorem lkN_fun (L : Lv) : lkN L = lkL L := funext (lkN_eq L)

theorem bool_ne (ne x : Bool) : (if ne = true then !(x == x) else x == x) = !ne := by cases ne <;> cases x <;> rfl

theorem vcOp_sound {P : Program} {Λ : Len} (hΛ : ∀ l, Λ l = (l.length : Int)) {m : Nat} {d : Bool} {op : AOp} {L : Lv} {h : Hp} {K : Lv → AV → Hp → Prop} (hv : vcOp P Λ m d op L h K) : Did P m d op L h K := by
  cases op
  case mv x => rw [vcOp, evN_eq] at hv; exact .step _ _ rfl (by simp [cls]) hv
  case pick c a b =>
    simp only [vcOp, evN_eq] at hv
    split at hv
    · rename_i t ht
      cases t
      · exact .step _ _ (by simp [astep, ht]) (by simp [cls]) hv
      · exact .step _ _ (by simp [astep, ht]) (by simp [cls]) hv
    · exact hv.elim
  case ld x n =>
    cases n with
    | none =>
      simp only [vcOp, evN_eq] at hv
      obtain ⟨cs, hrd, hk⟩ := vRd_sound hv
      split at hk
      · exact .step _ _ (by simp only [astep, hrd]) (by simp [cls]) hk
      · exact hk.elim
    | some n =>
      simp only [vcOp, evN_eq] at hv
      obtain ⟨cs, hrd, hk⟩ := vRd_sound hv
      exact .step _ _ (by simp only [astep, hrd, hk.1, if_true]) (by simp [cls]) hk.2
  case st x v n =>
    simp only [vcOp, evN_eq] at hv
    split at hv
    · rename_i cs hcs
      obtain ⟨h1, h2, h3⟩ := hv
      have h2 := h2 ()
      obtain ⟨h', hw, hk⟩ := vSt_sound h3
      refine .step _ h' ?_ (by simp [cls]) hk
      rcases hw with hw | ⟨hw1, hw2⟩
      · simp [astep, hcs, h1, h2, hw]
      · simp [astep, hcs, h1, h2, hw1, hw2]
    · exact hv.elim
  case bin bo a b =>
    simp only [vcOp, evN_eq] at hv
    obtain ⟨x, y, r, h1, h2, h3, h4⟩ := vBin_sound hv
    exact .step _ _ (by simp only [astep, h1, h2, h3, Option.map_some]) (by simp [cls]) h4
  case beq ne a b =>
    simp only [vcOp, evN_eq] at hv
    split at hv
    · rename_i x y h1 h2
      split at hv
      · exact .step _ _ (by simp only [astep, h1, h2, bool_ne]) (by simp [cls]) hv
      · exact .step _ _ (by simp only [astep, h1, h2, bool_ne]) (by simp [cls]) hv
      · exact .step _ _ (by simp only [astep, h1, h2]; cases ne <;> rfl) (by simp [cls]) hv
      · exact .step _ _ (by simp only [astep, h1, h2]; cases ne <;> rfl) (by simp [cls]) hv
    · exact hv.elim
  case eqa ne n ls a b =>
    simp only [vcOp, evN_eq] at hv
    split at hv
    · rename_i xs ys h1 h2
      obtain ⟨h3, h4, hv⟩ := hv
      split at hv
      · rename_i p hp
        obtain ⟨r, hr, hi⟩ := eqP_sound hp
        by_cases hpp : p
        · have : r = true := hi.2 hpp
          subst this
          exact .step _ _ (by simp only [astep, h1, h2, h3, h4, and_self, if_true, hr, Option.map_some]; cases ne <;> rfl) (by simp [cls]) (hv.1 hpp)
        · have : r = false := by cases r; rfl; exact absurd (hi.1 rfl) hpp
          subst this
          exact .step _ _ (by simp only [astep, h1, h2, h3, h4, and_self, if_true, hr, Option.map_some]; cases ne <;> rfl) (by simp [cls]) (hv.2 hpp)
      · exact hv.elim
    · exact hv.elim
  case un o x =>
    cases o
    case not =>
      simp only [vcOp, evN_eq] at hv
      split at hv
      · rename_i b hb
        cases b
        · exact .step _ _ (by simp [astep, hb, unD]) (by simp [cls]) hv
        · exact .step _ _ (by simp [astep, hb, unD]) (by simp [cls]) hv
      · exact hv.elim
    all_goals
      simp only [vcOp, lkN_fun] at hv
      split at hv
      · rename_i v h' hs; exact .step v h' hs (by simp [cls]) hv
      · exact hv.elim
  case isnil kd ne x =>
    simp only [vcOp, evN_eq] at hv
    split at hv
    · rename_i sz l hx
      refine .nil ne x false sz l rfl rfl hx fun b hb => ?_
      cases b with
      | false => cases ne <;> exact hv.1
      | true => cases ne <;> exact hv.2 (hb rfl)
    · split at hv
      · rename_i b hb
        cases b with
        | true => exact .step _ _ (by simp only [astep, hb, Option.map_some]; rfl) (by simp [cls]) (by cases ne <;> exact hv)
        | false => exact .step _ _ (by simp only [astep, hb, Option.map_some]; rfl) (by simp [cls]) (by cases ne <;> exact hv)
      · exact hv.elim
  case cvi k x =>
    simp only [vcOp, evN_eq] at hv
    split at hv
    · rename_i k0 n hn
      exact .step _ _ (by simp only [astep, hn]) (by simp [cls]) (hv _ rfl)
    · exact hv.elim
  case sl sz x lo hi mx =>
    simp only [vcOp, evN_eq, ointN_eq] at hv
    split at hv
    · rename_i lo' hi' mx' h1 h2 h3
      split at hv
      · rename_i l v i n hx
        split at hv
        · rename_i rl v' sz' es hes
          split at hv
          · rename_i q2
            have q1 : v' = v := hv.1 ()
            have q2 : sz' = sz := by simpa [Nat.beq_eq] using q2
            subst q1 q2
            obtain ⟨r, hr, hk⟩ := vSl_sound hΛ hv.2
            exact .step _ _ (by simp only [astep, h1, h2, h3, hx, hes, and_self, if_true, hr, Option.map_some]) (by simp [cls]) hk
          · exact hv.elim
        · exact hv.elim
      · rename_i hne
        obtain ⟨r, hr, hk⟩ := vSl_sound hΛ hv
        refine .step _ _ ?_ (by simp [cls]) hk
        simp only [astep, h1, h2, h3]
        rw [hr]; rfl
    · exact hv.elim
  case ias sz x i =>
    simp only [vcOp, evN_eq] at hv
    split at hv
    · rename_i k n hn
      obtain ⟨r, hr, hk⟩ := vIx_sound hΛ hv
      exact .step _ _ (by simp only [astep, hn, hr, Option.map_some]) (by simp [cls]) hk
    · exact hv.elim
  case iaa n sz x i =>
    cases i with
    | t i =>
      simp only [vcOp, evN_eq, lkN_eq] at hv
      split at hv
      · rename_i kk k hk
        have h01 := hv.1 ()
        rw [nI_eq] at h01
        have hv := vAll_sound hv.2 h01.1 h01.2
        have hk' : ev (lkL L) (.t i) = .c (.d (.int kk k)) := hk
        split at hv
        · rename_i cs hx
          exact .step _ _ (by simp only [astep, hk', h01, and_self, if_true, hx]) (by simp [cls]) hv
        · rename_i l v p q hx
          split at hv
          · rename_i hs
            exact .step _ _ (by simp only [astep, hk', h01, and_self, if_true, hx, hs]) (by simp [cls]) hv
          · exact hv.elim
        · exact hv.elim
      · exact hv.elim
    | k v =>
      simp only [vcOp, lkN_fun] at hv
      split at hv
      · rename_i v h' hs; exact .step v h' hs (by simp [cls]) hv
      · exact hv.elim
  case ixa n sz ag x i =>
    cases i with
    | t i =>
      simp only [vcOp, evN_eq, lkN_eq] at hv
      split at hv
      · rename_i kk k hk
        have h01 := hv.1 ()
        rw [nI_eq] at h01
        have hv := vAll_sound hv.2 h01.1 h01.2
        have hk' : ev (lkL L) (.t i) = .c (.d (.int kk k)) := hk
        split at hv
        · rename_i l hx
          split at hv
          · split at hv
            · rename_i hle
              have hle := Nat.le_of_ble_eq_true hle
              exact .step _ _ (by simp only [astep, hk', h01, and_self, if_true, hx, hle]) (by simp [cls]) hv
            · exact hv.elim
          · split at hv
            · rename_i c hcc
              exact .step _ _ (by simp only [astep, hk', h01, and_self, if_true, hx, hcc, Bool.false_eq_true, if_false, Option.map_some]) (by simp [cls]) hv
            · exact hv.elim
        · exact hv.elim
      · exact hv.elim
    | k v =>
      simp only [vcOp, lkN_fun] at hv
      split at hv
      · rename_i v h' hs; exact .step v h' hs (by simp [cls]) hv
      · exact hv.elim
  case len x =>
    simp only [vcOp, evN_eq] at hv
    split at hv
    · rename_i l v i n hx
      split at hv
      · rename_i r v' sz es hes
        have q : v' = v := hv.1 ()
        subst q
        exact .lenA x l v' i n rfl rfl hx (by simp [solid, hes]) fun hm => hv.2 _ (nI_eq _).symm (by omega)
      · exact hv.elim
    · split at hv
      rotate_left
      · exact hv.elim
      rename_i sz l hl
      split at hv
      · rw [hΛ] at hv; exact .step _ _ (by simp only [astep, hl]) (by simp [cls]) hv
      · rw [hΛ] at hv; exact .len x sz l rfl rfl hl fun hm => hv (by omega)
  case app sz bytes z x y =>
    simp only [vcOp, evN_eq] at hv
    split at hv
    · rename_i sz' ys hys
      split at hv
      · rename_i q1
        have q1 : sz' = sz := by simpa [Nat.beq_eq] using q1
        subst q1
        obtain ⟨r, h', hr, hk⟩ := vApp_sound hv
        exact .step _ _ (by simp only [astep, hys, if_true]; exact hr) (by simp [cls]) hk
      · exact hv.elim
    · exact hv.elim
  case mks sz bytes z l c =>
    simp only [vcOp, evN_eq] at hv
    split at hv
    · rename_i k n k' m h1 h2
      exact .step _ _ (by simp only [astep, h1, h2]; rw [if_pos (hv.1 ())]) (fun _ _ => ⟨_, rfl⟩) (hv.2 _ _ rfl rfl)
    · exact hv.elim
  case bsl sz z n ps =>
    simp only [vcOp, lkN_fun] at hv
    split at hv
    · rename_i as h1 has
      split at hv
      · rename_i es hes
        exact .step _ _ (by simp only [astep, has, hes]; rw [if_pos hv.2.1]) (fun hd _ => ⟨_, by rw [hv.1 hd]⟩) hv.2.2
      · exact hv.elim
    · exact hv.elim
  case mo o xs =>
    simp only [vcOp, evsN_eq] at hv
    obtain ⟨v, h', hs, hk⟩ := vMo_sound hv
    exact .step v h' hs (by cases o <;> simp [cls]) hk
  case call f xs => exact .call f xs rfl hv
  case callv x xs =>
    simp only [vcOp, evN_eq] at hv
    split at hv
    · rename_i f caps hx
      exact .callv x xs f caps rfl rfl hx hv.1 hv.2
    · exact hv.elim
  case box x =>
    simp only [vcOp, lkN_fun] at hv
    split at hv
    · rename_i v h' hs
      refine .step v h' hs (fun _ _ => ?_) hv
      simp only [astep] at hs
      split at hs
      · split at hs
        · cases hs; exact ⟨_, rfl⟩
        · cases hs
      · cases hs
    · exact hv.elim
  all_goals
    simp only [vcOp, lkN_fun] at hv
    split at hv
    · rename_i v h' hs; exact .step v h' hs (by simp [cls]) hv
    · exact hv.elim

/-- the operations of a region, in the text's order -/
def vcOps (P : Program) (Λ : Len) (m : Nat) (d : Bool) : List AO → Lv → Hp → (Lv → Hp → Prop) → Prop
  | [], L, h, K => K L h
  | o :: r, L, h, K => match o.g with
    | none => vcOp P Λ m d o.op L h fun L' v h' => vcOps P Λ m d r (putL L' o.dst v) h' K
    | some (s, want) => match lkN L s with
      | .c (.d (.bool b)) => (match b, want with
        | true, true => vcOp P Λ m d o.op L h fun L' v h' => vcOps P Λ m d r (putL L' o.dst v) h' K
        | false, false => vcOp P Λ m d o.op L h fun L' v h' => vcOps P Λ m d r (putL L' o.dst v) h' K
        | true, false => vcOps P Λ m d r (putL L o.dst (.tup [])) h K
        | false, true => vcOps P Λ m d r (putL L o.dst (.tup [])) h K)
      | .tup [] => vcOps P Λ m d r (putL L o.dst (.tup [])) h K
      | _ => False

theorem vcOps_cons {P : Program} {Λ : Len} {m : Nat} {d : Bool} {o : AO} {r : List AO} {L : Lv} {h : Hp} {K : Lv → Hp → Prop} (hv : vcOps P Λ m d (o :: r) L h K) :
    (gv (lkL L) o.g = some true ∧ vcOp P Λ m d o.op L h fun L' v h' => vcOps P Λ m d r (putL L' o.dst v) h' K) ∨ (gv (lkL L) o.g = some false ∧ vcOps P Λ m d r (putL L o.dst (.tup [])) h K) := by
  simp only [vcOps] at hv
  split at hv
  · rename_i hg; exact .inl ⟨by simp [hg, gv], hv⟩
  · rename_i s want hg
    split at hv
    · rename_i b hb
      rw [lkN_eq] at hb
      have hgv : gv (lkL L) o.g = some (b == want) := by simp [hg, gv, lk, hb]
      split at hv
      · exact .inl ⟨hgv, hv⟩
      · exact .inl ⟨hgv, hv⟩
      · exact .inr ⟨hgv, hv⟩
      · exact .inr ⟨hgv, hv⟩
    · rename_i hb
      rw [lkN_eq] at hb
      exact .inr ⟨by simp [hg, gv, lk, hb], hv⟩
    · exact hv.elim

theorem CallS.mono {P : Program} {m : Nat} {d : Bool} {L : Lv} {h : Hp} {f : Nat} {xs : List X} {K K' : Lv → AV → Hp → Prop} (hc : CallS P m d L h f xs K) (hk : ∀ L v h', K L v h' → K' L v h') : CallS P m d L h f xs K' := by
  induction hc with
  | pure hp k => exact .pure hp (hk _ _ _ k)
  | fn hf => exact .fn (hf.mono (hk _))
  | wk hw _ ih => exact .wk hw (ih hk)

theorem CallV.mono {P : Program} {h : Hp} {f : Nat} {args : List AV} {K K' : AV → Hp → Prop} (hc : CallV P h f args K) (hk : ∀ v h', K v h' → K' v h') : CallV P h f args K' := by
  cases hc with
  | pure hp k => exact .pure hp (hk _ _ k)
  | fn hf => exact .fn (hf.mono hk)

theorem Did.mono {P : Program} {m : Nat} {d : Bool} {op : AOp} {L : Lv} {h : Hp} {K K' : Lv → AV → Hp → Prop} (hd : Did P m d op L h K) (hk : ∀ L v h', K L v h' → K' L v h') : Did P m d op L h K' := by
  induction hd with
  | wk hd hw k ih => exact .wk hd hw (ih hk)
  | step v h' hs hd k => exact .step v h' hs hd (hk _ _ _ k)
  | call f xs ho hc => exact .call f xs ho (hc.mono hk)
  | len x sz l ho hd hx k => exact .len x sz l ho hd hx fun hm => hk _ _ _ (k hm)
  | lenA x l v i n ho hd hx hs k => exact .lenA x l v i n ho hd hx hs fun hm => hk _ _ _ (k hm)
  | nil ne x nl sz l ho hd hx k => exact .nil ne x nl sz l ho hd hx fun b hb => hk _ _ _ (k b hb)
  | callv x xs f caps ho hd hx hf hc => exact .callv x xs f caps ho hd hx hf (hc.mono (hk _))

/-- the operations of a region, as they come to be done -/
def runO (P : Program) (m : Nat) (d : Bool) : List AO → Lv → Hp → (Lv → Hp → Prop) → Prop
  | [], L, h, K => K L h
  | o :: r, L, h, K => (gv (lkL L) o.g = some true ∧ Did P m d o.op L h fun L' v h' => runO P m d r (putL L' o.dst v) h' K) ∨ (gv (lkL L) o.g = some false ∧ runO P m d r (putL L o.dst (.tup [])) h K)

theorem vcOps_runO {P : Program} {Λ : Len} (hΛ : ∀ l, Λ l = (l.length : Int)) {m : Nat} {d : Bool} {K : Lv → Hp → Prop} : ∀ {ops : List AO} {L : Lv} {h : Hp}, vcOps P Λ m d ops L h K → runO P m d ops L h K := by
  intro ops
  induction ops with
  | nil => intro L h hv; exact hv
  | cons o r ih =>
    intro L h hv
    rcases vcOps_cons hv with ⟨h1, h2⟩ | ⟨h1, h2⟩
    · exact .inl ⟨h1, (vcOp_sound hΛ h2).mono fun L' v h' hk => ih hk⟩
    · exact .inr ⟨h1, ih h2⟩

end Go.Ab

/-
  The engine, part w: texts and functions.
-/
namespace Go.Ab

section
variable {P : Program} {N : Nat} {G0 : Nat → Prop} {ι0 : Io} {h0 : Hp} {w0 : World}

theorem take_get {α : Type} {l t : List α} {i : Nat} (hi : i < l.length) : (l ++ t)[i]? = l[i]? := List.getElem?_append_left hi

theorem refsCs_get {n : Nat} {l : List CV} (h : refsCs n l = true) : ∀ (i : Nat) (x : CV), l[i]? = some x → refsC n x = true := by
  induction l with
  | nil => intro i x hx; simp at hx
  | cons y r ih =>
    intro i x hx
    simp only [refsCs, refsC.refsCs] at h
    split at h
    · rename_i hy
      cases i with
      | zero => simp at hx; subst hx; exact hy
      | succ i => simp at hx; exact ih h i x hx
    · cases h

theorem refsC_move {G : Nat → Prop} {w : World} {ι : Io} {h' t : Hp} {v : Value} {x : CV} (hx : CR G w ι (h' ++ t) v x) (hr : refsC h'.length x = true) : CR G w (ι.take h'.length) h' v x := by
  induction hx with
  | u => exact .u _
  | d _ _ hd => exact .d _ _ hd
  | cl _ _ _ _ hd hc => exact .cl _ _ _ _ hd hc
  | rp b o cs hG hc => exact .rp b o cs hG hc
  | mp _ l blk hb hk =>
    have hl : l < h'.length := Nat.le_of_ble_eq_true hr
    rw [take_get hl] at hb
    refine .mp _ _ blk hb fun ver es he => ?_
    obtain ⟨b, o, h1, h2⟩ := hk ver es he
    exact ⟨b, o, by rw [List.getElem?_take, if_pos hl]; exact h1, h2⟩
  | it _ l blk hb hk =>
    have hl : l < h'.length := Nat.le_of_ble_eq_true hr
    rw [take_get hl] at hb
    refine .it _ _ blk hb fun m ver es he => ?_
    obtain ⟨b, o, h1, h2⟩ := hk m ver es he
    exact ⟨b, o, by rw [List.getElem?_take, if_pos hl]; exact h1, h2⟩
  | ptr _ l ver i j blk hb ha hk =>
    have hl : l < h'.length := Nat.le_of_ble_eq_true hr
    rw [take_get hl] at hb
    refine .ptr _ _ _ _ _ blk hb ha fun k hk' => ?_
    obtain ⟨b, o, h1, h2⟩ := hk k hk'
    exact ⟨b, o, by rw [List.getElem?_take, if_pos hl]; exact h1, h2⟩
  | arr _ l ver i j blk hb ha hk hk0 =>
    have hl : l < h'.length := Nat.le_of_ble_eq_true hr
    rw [take_get hl] at hb
    refine .arr _ _ _ _ _ blk hb ha (fun sz es he => ?_) hk0
    obtain ⟨b, o, cap, h1, h2⟩ := hk sz es he
    exact ⟨b, o, cap, by rw [List.getElem?_take, if_pos hl]; exact h1, h2⟩
  | fn f vs caps hn hc ih =>
    simp only [refsC] at hr
    exact .fn f vs caps hn fun i v c hv hx => ih i v c hv hx (refsCs_get hr i c hx)

theorem refsA_move {G : Nat → Prop} {w : World} {ι : Io} {h' t : Hp} {v : Value} {x : AV} (hx : VR G w ι (h' ++ t) v x) (hr : refsA h'.length x = true) : VR G w (ι.take h'.length) h' v x := by
  cases hx with
  | c _ _ hc => exact .c _ _ (refsC_move hc hr)
  | agg cs l hn hc => exact .agg _ _ hn fun i v x hv hx => refsC_move (hc i v x hv hx) (refsCs_get hr i x hx)
  | tup cs l hn hc =>
    cases l with
    | nil => exact .tup _ _ hn (by simp)
    | cons => simp [refsA] at hr

theorem refsH_get {n : Nat} {h : Hp} (hr : refsH n h = true) : ∀ (i : Nat) (b : Blk), h[i]? = some b → refsB n b = true := by
  induction h with
  | nil => intro i x hx; simp at hx
  | cons y r ih =>
    intro i x hx
    simp only [refsH] at hr
    split at hr
    · rename_i hy
      cases i with
      | zero => simp at hx; subst hx; exact hy
      | succ i => simp at hx; exact ih hr i x hx
    · cases hr

theorem KeepL_get {n : Nat} {L : Lv} : ∀ {L' : Lv}, KeepL n L L' → ∀ i, lkL L' i = .c .u ∨ (lkL L' i = lkL L i ∧ refsA n (lkL L i) = true) := by
  intro L'
  induction L' with
  | nil => intro _ i; exact .inl rfl
  | cons p r ih =>
    intro hk i
    obtain ⟨j, v⟩ := p
    obtain ⟨⟨h1, h2⟩, h3⟩ := hk
    simp only [lkL, upd]
    by_cases hj : j = i
    · subst hj
      rw [if_pos rfl]
      rw [lkN_eq] at h1
      right; exact ⟨h1.symm, by rw [h1]; exact h2⟩
    · rw [if_neg hj]; exact ih h3 i

theorem Wk.cut_fits {m : Nat} {L L' : Lv} {h h' : Hp} {a : Act} {w : World} (heap : ∃ t, h = h' ++ t) (least : m ≤ h'.length) (refs : refsH h'.length h' = true) (env : KeepL h'.length L L') (hm : h0.length ≤ m)
    (hf : Fits N G0 ι0 h0 w0 (lkL L) h a w) : Fits N G0 ι0 h0 w0 (lkL L') h' a w := by
  obtain ⟨t, rfl⟩ := heap
  obtain ⟨G, ι, st⟩ := hf
  have hlen := st.rel.hr.len
  simp only [List.length_append] at hlen
  have hle := least
  have hι : ∀ l, l < h'.length → (ι.take h'.length)[l]? = ι[l]? := fun l hl => by rw [List.getElem?_take, if_pos hl]
  have hown : ∀ b, owned (ι.take h'.length) h' b → owned ι (h' ++ t) b := fun b ⟨l, o, k, h1, h2, h3⟩ =>
    ⟨l, o, k, by rw [← hι l (get_lt h2)]; exact h1, by rw [take_get (get_lt h2)]; exact h2, h3⟩
  have hr : HR G (ι.take h'.length) h' w :=
    { len := by simp; omega
      inj := fun l l' b o o' k k' a1 a2 b1 b2 c1 c2 => st.rel.hr.inj l l' b o o' k k' (by rw [← hι l (get_lt b1)]; exact a1) (by rw [← hι l' (get_lt b2)]; exact a2)
        (by rw [take_get (get_lt b1)]; exact b1) (by rw [take_get (get_lt b2)]; exact b2) c1 c2
      g := fun b hb => ⟨(st.rel.hr.g b hb).1, fun ho => (st.rel.hr.g b hb).2 (hown b ho)⟩
      blk := fun l k hk => by
        have hl := get_lt hk
        have hb := st.rel.hr.blk l k (by rw [take_get hl]; exact hk)
        have hrb := refsH_get refs l k hk
        cases k with
        | dead => trivial
        | bx cs =>
          obtain ⟨b, o, c, ty, fr, h1, h2, h3, h4, h5⟩ := hb
          refine ⟨b, o, c, ty, fr, by rw [hι l hl]; exact h1, h2, h3, h4, fun i x hx => ?_⟩
          obtain ⟨v, hv, hc⟩ := h5 i x hx
          exact ⟨v, hv, refsC_move hc (refsCs_get hrb i x hx)⟩
        | mp ver es =>
          obtain ⟨b, o, ces, clock, h1, h2⟩ := hb
          exact ⟨b, o, ces, clock, by rw [hι l hl]; exact h1, h2⟩
        | mi m' ver es =>
          have hm' : m' < h'.length := Nat.le_of_ble_eq_true hrb
          obtain ⟨b, o, mb, seen, clock, blk, h1, h2, h3, h4, h5⟩ := hb
          rw [take_get hm'] at h3
          refine ⟨b, o, mb, seen, clock, blk, by rw [hι l hl]; exact h1, h2, h3, h4, fun all ha => ?_⟩
          obtain ⟨o', ces, g1, g2⟩ := h5 all ha
          exact ⟨o', ces, by rw [hι m' hm']; exact g1, g2⟩
        | da rl v sz es =>
          cases rl with
          | false => exact hb
          | true =>
            obtain ⟨b, o, c, ty, fr, hmx, h1, h2, h3⟩ := hb
            exact ⟨b, o, c, ty, fr, hmx, by rw [hι l hl]; exact h1, h2, h3⟩ }
  refine ⟨G, ι.take h'.length, ⟨hr, st.rel.dfr, st.rel.size, fun i => ?_⟩, ?_⟩
  · rcases KeepL_get env i with h1 | ⟨h1, h2⟩
    · simp only [lk, h1]; exact .c _ _ (.u _)
    · simp only [lk, h1]; exact refsA_move (st.rel.env i) h2
  · exact
      { size := st.ext.size
        quiet := st.ext.quiet
        frame := st.ext.frame
        gmono := st.ext.gmono
        gnew := st.ext.gnew
        onew := fun b ho => st.ext.onew b (hown b ho)
        keep := fun l k hk => by
          obtain ⟨k', h1, h2⟩ := st.ext.keep l k hk
          have hl : l < h'.length := by have := get_lt hk; omega
          rw [take_get hl] at h1
          refine ⟨k', h1, ?_⟩
          cases k with
          | dead => cases k' <;> first | trivial | (simp [Kept] at h2)
          | bx cs =>
            cases k' with
            | dead => trivial
            | bx cs' => exact ⟨h2.1, by rw [hι l hl]; exact h2.2⟩
            | _ => simp [Kept] at h2
          | mp v es =>
            cases k' with
            | dead => trivial
            | mp v' es' => exact ⟨by rw [hι l hl]; exact h2.1, h2.2⟩
            | _ => simp [Kept] at h2
          | mi m' v es =>
            cases k' with
            | dead => trivial
            | mi m2 v' es' => exact ⟨h2.1, h2.2.1, by rw [hι l hl]; exact h2.2.2⟩
            | _ => simp [Kept] at h2
          | da rl v sz es =>
            cases k' with
            | dead => trivial
            | da rl' v' sz' es' =>
              rcases h2 with h2 | ⟨q1, q0, q2, q3, q4, q5⟩
              · exact .inl h2
              · exact .inr ⟨q1, q0, q2, q3, by rw [hι l hl]; exact q4, q5⟩
            | _ => simp [Kept] at h2 }

theorem nil_value {G : Nat → Prop} {w : World} {v : Value} {sz : Nat} (hd : DR G w v (.list true sz [])) : v = .slice none 0 0 := by
  cases hd; rfl

theorem FzH_get {l v sz : Nat} {es : List (List D)} : ∀ {h h' : Hp} {n : Nat}, FzH l v sz es n h h' → h.length = h'.length ∧
    ∀ (i : Nat) (b b' : Blk), h[i]? = some b → h'[i]? = some b' → (n + i = l ∧ b' = .dead) ∨ (n + i ≠ l ∧ FzB l v sz es b b') := by
  intro h
  induction h with
  | nil =>
    intro h' n hf
    cases h' with
    | nil => exact ⟨rfl, by simp⟩
    | cons => simp [FzH] at hf
  | cons b h ih =>
    intro h' n hf
    cases h' with
    | nil => simp [FzH] at hf
    | cons b' h' =>
      obtain ⟨h1, h2⟩ := hf
      obtain ⟨i1, i2⟩ := ih h2
      refine ⟨by simp [i1], fun i x y hx hy => ?_⟩
      cases i with
      | zero => simp at hx hy; subst hx hy; exact h1
      | succ i =>
        simp at hx hy
        rcases i2 i x y hx hy with ⟨q1, q2⟩ | ⟨q1, q2⟩
        · exact .inl ⟨by omega, q2⟩
        · exact .inr ⟨by omega, q2⟩

theorem FzCs_get {l v sz : Nat} {es : List (List D)} : ∀ {xs ys : List CV}, FzCs l v sz es xs ys → xs.length = ys.length ∧ ∀ (i : Nat) (x y : CV), xs[i]? = some x → ys[i]? = some y → FzC l v sz es x y := by
  intro xs
  induction xs with
  | nil =>
    intro ys hf
    cases ys with
    | nil => exact ⟨rfl, by simp⟩
    | cons => simp [FzCs] at hf
  | cons x xs ih =>
    intro ys hf
    cases ys with
    | nil => simp [FzCs] at hf
    | cons y ys =>
      obtain ⟨h1, h2⟩ := hf
      obtain ⟨i1, i2⟩ := ih h2
      refine ⟨by simp [i1], fun i a b ha hb => ?_⟩
      cases i with
      | zero => simp at ha hb; subst ha hb; exact h1
      | succ i => simp at ha hb; exact i2 i a b ha hb

theorem Wk.fz_fits {L L' : Lv} {h h' : Hp} {a : Act} {w : World} (l v sz : Nat) (rl : Bool) (es : List (List D)) (hl : h[l]? = some (.da rl v sz es)) (env : ∀ i, lkL L' i = .c .u ∨ FzA l v sz es (lkL L i) (lkL L' i)) (heap : FzH l v sz es 0 h h')
    (hf : Fits N G0 ι0 h0 w0 (lkL L) h a w) : Fits N G0 ι0 h0 w0 (lkL L') h' a w := by
  obtain ⟨G, ι, st⟩ := hf
  have hr := st.rel.hr
  obtain ⟨G1, q1, q2, qd⟩ : ∃ G1, HR G1 ι (h.set l .dead) w ∧ Ext G ι h w G1 ι (h.set l .dead) w ∧ ∀ (u : Value) (n : Nat), n = es.length → CR G w ι h u (.arr l v 0 n) → DR G1 w u (.list false sz es) := by
    cases rl with
    | false =>
      have hes : es = [] := hr.blk l _ hl
      subst hes
      refine ⟨G, HR.kill hr hl, Ext.kill hl, fun u n hn hc => ?_⟩
      cases hc with
      | arr _ _ _ _ _ blk hb _ _ hk0 => rw [hl] at hb; cases hb; obtain ⟨_, _, rfl⟩ := hk0 sz [] rfl; exact .nils false sz
    | true =>
      obtain ⟨b, o, c, ty, fr, hmx, g1, g2, g3⟩ := hr.blk l _ hl
      refine ⟨_, HR.freeze hr hl g1 rfl, Ext.freeze hl g1 rfl, fun u n hn hc => ?_⟩
      subst hn
      have hfz : frz h (.arr l v 0 es.length) = some (.list false sz es, h.set l .dead) := by simp [frz, hl]
      obtain ⟨G', k1, k2, k3⟩ := frz_sound hr hc hfz
      -- the frozen set of 'frz_sound' is the same one
      cases hc with
      | arr _ _ _ _ _ blk hb ha hk hk0 =>
        rw [hl] at hb; cases hb
        obtain ⟨b', o', cap, f1, f2, f3, f4, f5⟩ := hk sz es rfl
        rw [g1] at f1; cases f1
        obtain ⟨b2, o2, c2, t2, fr2, hmx2, p1, p2, p3, p4, p5, p6⟩ := hr.blk l _ hl
        rw [g1] at p1; cases p1
        have hext := Ext.freeze (G := G) (w := w) hl g1 rfl
        rcases f5 with rfl | ⟨hn0, hc0, o', rfl⟩
        · have := DR.sl (G := fun x => G x ∨ x = b) (w := w) b (o + 0 * sz) cap sz es (fun p q => (c2[o + p * sz + q]?).getD undef) (fun _ => .inr rfl) (by omega) hmx p5 ?_ ?_
          · exact this
          · intro p e q x he hq
            obtain ⟨y, hy, _⟩ := p6 _ e q x he hq
            rw [cell_of p2]
            have : o + 0 * sz + p * sz + q = o + p * sz + q := by omega
            rw [this, hy]; rfl
          · intro p e q x he hq
            obtain ⟨y, hy, hd⟩ := p6 _ e q x he hq
            simp only [hy, Option.getD_some]
            exact hd.ext hext hr
        · have : es = [] := List.eq_nil_of_length_eq_zero hn0
          subst this
          exact .emp _ _
  obtain ⟨hlen, hget⟩ := FzH_get heap
  have hk : ∀ k b, (h.set l .dead)[k]? = some b → ∃ b', h'[k]? = some b' ∧ Kept ι ι w w k b b' ∧ (b'.live = b.live) ∧ ((b = .dead ∧ b' = .dead) ∨ ∃ b0, h[k]? = some b0 ∧ b = b0 ∧ k ≠ l ∧ FzB l v sz es b0 b') := by
    intro k b hb
    have hkl : k < h'.length := by have := get_lt hb; simp at this; omega
    have hb' : h'[k]? = some h'[k] := List.getElem?_eq_getElem hkl
    refine ⟨h'[k], hb', ?_⟩
    rcases get_set hb with ⟨e1, e2, _⟩ | ⟨e1, e2⟩
    · subst e1 e2
      rcases hget k _ _ hl hb' with ⟨_, q⟩ | ⟨q, _⟩
      · rw [q]; exact ⟨trivial, rfl, .inl ⟨rfl, rfl⟩⟩
      · omega
    · rcases hget k _ _ e2 hb' with ⟨q, _⟩ | ⟨q, q3⟩
      · omega
      · refine ⟨?_, ?_, .inr ⟨b, e2, rfl, e1, q3⟩⟩
        · generalize h'[k] = x at q3
          cases q3 with
          | same => exact Kept.refl ι w k b
          | bx xs ys hc => exact ⟨(FzCs_get hc).1.symm, rfl⟩
        · generalize h'[k] = x at q3
          cases q3 <;> rfl
  have hk1 : ∀ k b, (h.set l .dead)[k]? = some b → ∃ b', h'[k]? = some b' ∧ Kept ι ι w w k b b' := fun k b hb => let ⟨b', x1, x2, _⟩ := hk k b hb; ⟨b', x1, x2⟩
  have hg1 : ∀ b, G1 b → G1 b ∧ w.heap[b]? = w.heap[b]? := fun b hb => ⟨hb, rfl⟩
  have hcv : ∀ (u : Value) (x y : CV), CR G w ι h u x → FzC l v sz es x y → CR G1 w ι h' u y := by
    intro u x y hc hz
    cases hz with
    | keep => exact (hc.ext q2 hr).mono hg1 hk1
    | arr n hn => exact .d _ _ (qd u n hn hc)
    | drop => exact .u _
  have hback : ∀ (k : Nat) (b' : Blk), h'[k]? = some b' → ∃ b : Blk, (List.set h l Blk.dead)[k]? = some b ∧ b'.live = b.live := by
    intro k b' hb'
    have hkl : k < (List.set h l Blk.dead).length := by have := get_lt hb'; simp; omega
    have hb := List.getElem?_eq_getElem hkl
    obtain ⟨b2, x1, _, x3, _⟩ := hk k _ hb
    rw [hb'] at x1; cases x1
    exact ⟨_, hb, x3⟩
  have hown : ∀ b, owned ι h' b ↔ owned ι (h.set l .dead) b := by
    intro b
    constructor
    · rintro ⟨k, o, blk, x1, x2, x3⟩
      obtain ⟨b1, y1, y2⟩ := hback k blk x2
      exact ⟨k, o, b1, x1, y1, by rw [← y2]; exact x3⟩
    · rintro ⟨k, o, blk, x1, x2, x3⟩
      obtain ⟨b1, y1, _, y2, _⟩ := hk k blk x2
      exact ⟨k, o, b1, x1, y1, by rw [y2]; exact x3⟩
  have hr' : HR G1 ι h' w :=
    { len := by rw [← hlen]; exact hr.len
      inj := fun l1 l2 b o1 o2 k1 k2 a1 a2 c1 c2 d1 d2 => by
        obtain ⟨b1, x1, x2⟩ := hback l1 k1 c1
        obtain ⟨b2, y1, y2⟩ := hback l2 k2 c2
        exact q1.inj l1 l2 b o1 o2 b1 b2 a1 a2 x1 y1 (by rw [← x2]; exact d1) (by rw [← y2]; exact d2)
      g := fun b hb => ⟨(q1.g b hb).1, fun ho => (q1.g b hb).2 ((hown b).1 ho)⟩
      blk := fun k b' hb' => by
        have hkl : k < (List.set h l Blk.dead).length := by have := get_lt hb'; simp; omega
        have hb := List.getElem?_eq_getElem hkl
        obtain ⟨b2, x1, _, _, x4⟩ := hk k _ hb
        rw [hb'] at x1; cases x1
        have hbr := q1.blk k _ hb
        rcases x4 with ⟨_, e2⟩ | ⟨b0, e1, e2, e3, e4⟩
        · subst e2; trivial
        · rw [e2] at hbr hb
          cases e4 with
          | bx xs ys hc =>
            obtain ⟨b, o, c, t, fr, h1, h2, h3, h4, h5⟩ := hr.blk k _ e1
            obtain ⟨z1, z2⟩ := FzCs_get hc
            refine ⟨b, o, c, t, fr, h1, h2, by omega, h4, fun i y hy => ?_⟩
            have hi := get_lt hy
            have hx : xs[i]? = some (xs[i]'(by omega)) := List.getElem?_eq_getElem (by omega)
            obtain ⟨u, hu, hcr⟩ := h5 i _ hx
            exact ⟨u, hu, hcv u _ y hcr (z2 i _ y hx hy)⟩
          | same =>
            cases b' with
            | dead => trivial
            | bx cs =>
              obtain ⟨b, o, c, t, fr, h1, h2, h3, h4, h5⟩ := hbr
              refine ⟨b, o, c, t, fr, h1, h2, h3, h4, fun i x hx => ?_⟩
              obtain ⟨u, hu, hcr⟩ := h5 i x hx
              exact ⟨u, hu, hcr.mono hg1 hk1⟩
            | mp ver es => exact hbr
            | mi m' ver es' =>
              obtain ⟨b, o, mb, seen, clock, blk, h1, h2, h3, h4, h5⟩ := hbr
              obtain ⟨b3, y1, y2, _, y4⟩ := hk m' blk h3
              refine ⟨b, o, mb, seen, clock, b3, h1, h2, y1, y2.allows h4, fun all ha => ?_⟩
              obtain ⟨v0, es0, z1, z2, z3⟩ := y2.mp ha
              subst z1
              rcases z3 with z3 | ⟨z3, z4, _⟩
              · simp only [Blk.allows, decide_eq_true_eq] at h4; omega
              · subst z3 z4; exact h5 _ rfl
            | da rl v2 sz2 es2 =>
              cases rl with
              | false => exact hbr
              | true => exact hbr }
  have hext : Ext G1 ι (h.set l .dead) w G1 ι h' w :=
    { size := Nat.le_refl _
      quiet := ⟨rfl, rfl⟩
      frame := fun _ _ _ => rfl
      gmono := fun _ h => h
      gnew := fun _ h => .inl h
      onew := fun b ho => .inl ((hown b).1 ho)
      keep := hk1 }
  refine ⟨G1, ι, ⟨hr', st.rel.dfr, st.rel.size, fun i => ?_⟩, (st.ext.trans q2).trans hext⟩
  rcases env i with h1 | h1
  · simp only [lk, h1]; exact .c _ _ (.u _)
  · have hvr := st.rel.env i
    simp only [lk] at hvr ⊢
    revert h1
    generalize lkL L' i = y
    intro h1
    generalize lkL L i = x at hvr h1
    generalize a.tmps.getD i undef = u at hvr ⊢
    cases h1 with
    | same => exact (hvr.ext q2 hr).mono hg1 hk1
    | c x y hz =>
      cases hvr with
      | c _ _ hc => exact .c _ _ (hcv _ _ _ hc hz)
    | agg xs ys hz =>
      obtain ⟨z1, z2⟩ := FzCs_get hz
      cases hvr with
      | agg cs _ hn hc =>
        refine .agg _ _ (by omega) fun j u y hu hy => ?_
        have hj := get_lt hy
        have hx : xs[j]? = some (xs[j]'(by omega)) := List.getElem?_eq_getElem (by omega)
        exact hcv u _ y (hc j u _ hu hx) (z2 j _ y hx hy)

theorem Wk.fits {m : Nat} {L L' : Lv} {h h' : Hp} {a : Act} {w : World} (hw : Wk m L h L' h') (hm : h0.length ≤ m) : Fits N G0 ι0 h0 w0 (lkL L) h a w → Fits N G0 ι0 h0 w0 (lkL L') h' a w := by
  induction hw with
  | trans _ _ ih1 ih2 => exact fun hf => ih2 (ih1 hf)
  | fz l v sz r es hl env heap => exact Wk.fz_fits l v sz r es hl env heap
  | cut heap least refs env => exact Wk.cut_fits heap least refs env hm
  | same hh env =>
    intro hf
    subst hh
    obtain ⟨G, ι, st⟩ := hf
    refine ⟨G, ι, ⟨st.rel.hr, st.rel.dfr, st.rel.size, fun i => ?_⟩, st.ext⟩
    rcases env i with h1 | h1
    · simp only [lk, h1]; exact .c _ _ (.u _)
    · simp only [lk, h1]; exact st.rel.env i
  | fg i =>
    intro ⟨G, ι, st⟩
    refine ⟨G, ι, ⟨st.rel.hr, st.rel.dfr, st.rel.size, fun k => ?_⟩, st.ext⟩
    simp only [lkL, lk, upd]
    split
    · rename_i e
      subst e
      have := st.rel.env i
      rw [lk, ← lkN_eq] at this
      exact this.fg
    · exact st.rel.env k
  | nilS i sz hi =>
    intro ⟨G, ι, st⟩
    obtain ⟨q1, q2, q3⟩ := new_nil (sz := sz) st.rel.hr
    refine ⟨G, _, ⟨q1, st.rel.dfr, st.rel.size, fun k => ?_⟩, st.ext.trans q3⟩
    simp only [lkL, lk, upd]
    split
    · rename_i e
      subst e
      have := st.rel.env i
      rw [lk, ← lkN_eq, hi] at this
      rw [nil_value (inv_d this)]
      exact q2
    · exact (st.rel.env k).ext q3 st.rel.hr
  | nilB l j sz cs hl hj =>
    rename_i L h
    intro ⟨G, ι, st⟩
    obtain ⟨q1, q2, q3⟩ := new_nil (sz := sz) st.rel.hr
    have hl' := get_snoc_old (a := Blk.da false 0 sz []) hl
    obtain ⟨b, o, c, ty, fr, h1, h2, h3, h4, h5⟩ := q1.blk l _ hl'
    have hkept : Kept (ι ++ [(0, 0)]) (ι ++ [(0, 0)]) w w l (.bx cs) (.bx (cs.set j (.arr h.length 0 0 0))) := ⟨by simp, rfl⟩
    have hext := Ext.set_own (G := G) q1 hl' h1 rfl hkept rfl (fun _ _ => rfl)
    have hr := HR.set_own (G := G) q1 hl' h1 rfl hkept rfl (fun _ _ => rfl) ⟨b, o, c, ty, fr, h1, h2, by simpa using h3, h4, fun i x hx => by
      rcases get_set hx with ⟨e1, e2, _⟩ | ⟨_, e1⟩
      · subst e1 e2
        obtain ⟨v, hv, hc⟩ := h5 i _ hj
        refine ⟨v, hv, ?_⟩
        have hd : DR G w v (.list true sz []) := by cases hc; assumption
        rw [nil_value hd]
        exact (inv_c q2).ext hext q1
      · obtain ⟨v, hv, hc⟩ := h5 i x e1
        exact ⟨v, hv, hc.ext hext q1⟩⟩
    exact ⟨G, _, ⟨hr, st.rel.dfr, st.rel.size, fun k => ((st.rel.env k).ext q3 st.rel.hr).ext hext q1⟩, (st.ext.trans q3).trans hext⟩

theorem callv_exec {o : Oper} {x : X} {xs : List X} {a : Act} {w : World} {f : Nat} {vs : Array Value} (hc : compOp P o = .callv x xs) (hx : ∀ op, cx P 0 op = some x → a.eval op = .func (.func f) #[] vs) (hf : FnOk P f) :
    ∃ c : Call, (execOp a.eval o).run P w = .ok (.enter f (c.args.map a.eval ++ vs)) w ∧ cxs P c.argTypes.toList c.args.toList = some xs := by
  cases hoo : o.op
  case call c =>
    simp only [compOp, hoo] at hc
    split at hc
    · exact absurd hc compB_callv
    · split at hc
      · split at hc <;> cases hc
      · cases hc
    · rename_i t hcal
      split at hc
      · rename_i l hl
        cases hc
        have hev := hx (.tmp t) rfl
        obtain ⟨fn, h1, h2, h3⟩ := hf.ok
        refine ⟨c, ?_, hl⟩
        simp only [execOp, hoo, resolve, hcal, hev, Deferred.ofValue, Sem.run_bind, Sem.run_pure, Result.andThen_ok, invoke, Array.empty_append]
        exact callFunc_run h1 h2 h3
      · cases hc
    · cases hc
  case makeMap t rs => exfalso; cases rs <;> (simp only [compOp, hoo] at hc; cases hc)
  case makeFunc fn first caps =>
    exfalso
    cases fn
    case func g =>
      simp only [compOp, hoo] at hc
      revert hc
      (repeat' split) <;> intro hc <;> cases hc
    all_goals (simp only [compOp, hoo] at hc; cases hc)
  all_goals
    exfalso
    simp only [compOp, hoo] at hc
    revert hc
    (repeat' split) <;> intro hc <;> cases hc

theorem callv_slot {o : Oper} {x : X} {xs : List X} (hc : compOp P o = .callv x xs) : ∃ t, x = .t t := by
  cases hoo : o.op
  case call c =>
    simp only [compOp, hoo] at hc
    split at hc
    · exact absurd hc compB_callv
    · split at hc
      · split at hc <;> cases hc
      · cases hc
    · split at hc
      · cases hc; exact ⟨_, rfl⟩
      · cases hc
    · cases hc
  case makeMap t rs => exfalso; cases rs <;> (simp only [compOp, hoo] at hc; cases hc)
  case makeFunc fn first caps =>
    exfalso
    cases fn
    case func g =>
      simp only [compOp, hoo] at hc
      revert hc
      (repeat' split) <;> intro hc <;> cases hc
    all_goals (simp only [compOp, hoo] at hc; cases hc)
  all_goals
    exfalso
    simp only [compOp, hoo] at hc
    revert hc
    (repeat' split) <;> intro hc <;> cases hc

theorem isnil_exec {o : Oper} {ne : Bool} {x : X} {G : Nat → Prop} {ι : Io} {e : Env} {h : Hp} {a : Act} {w : World} {nl : Bool} {sz : Nat} {l : List (List D)} (hc : compOp P o = .isnil 0 ne x) (r : Rel N G ι e h a w)
    (hx : ev e x = .c (.d (.list nl sz l))) : ∃ b : Bool, (b = true → l = []) ∧ OpRes G ι h w (.c (.d (.bool (if ne then !b else b)))) h ((execOp a.eval o).run P w) := by
  have key : ∀ op xt (x0 y0 : Operand) yt x', o.op = .binOp op xt x0 y0 yt → cx P xt x0 = some x' → (op = .eql ∨ op = .neq) → lnil y0 = true → (∃ el, P.underlying xt = some (.slice el)) → x' = x → (op == .neq) = ne →
      ∃ b : Bool, (b = true → l = []) ∧ OpRes G ι h w (.c (.d (.bool (if ne then !b else b)))) h ((execOp a.eval o).run P w) := by
    intro op xt x0 y0 yt x' hop hcx hopk hl hu he hne
    subst he hne
    have r1 := cx_sound hcx r
    rw [hx] at r1
    obtain ⟨ad, n, c, e1, e2⟩ := nil_either r1
    exact ⟨ad.isNone, e2, b_nil_at r hop x' 0 ad.isNone hcx hopk (.inl ⟨rfl, hl, hu⟩) (fun _ => ⟨ad, n, c, e1, rfl⟩) (fun h => by cases h)⟩
  cases hoo : o.op
  case binOp op xt x0 y0 yt =>
    simp only [compOp, hoo] at hc
    split at hc
    · rename_i x' y' hx' hy'
      split at hc
      all_goals
        (repeat' split at hc) <;> first | (cases hc; done) | skip
        all_goals
          simp only [AOp.isnil.injEq] at hc
          obtain ⟨hk, hne, hxx⟩ := hc
          first | (cases hk; done) | skip
          rename_i hu hl
          exact key _ _ _ _ _ _ hoo hx' (by simp) hl ⟨_, hu⟩ hxx hne
    · cases hc
  case call c =>
    exfalso
    simp only [compOp, hoo] at hc
    split at hc
    · exact absurd hc compB_isnil
    · split at hc
      · split at hc <;> cases hc
      · cases hc
    · split at hc <;> cases hc
    · cases hc
  case makeMap t rs => exfalso; cases rs <;> (simp only [compOp, hoo] at hc; cases hc)
  case makeFunc fn first caps =>
    exfalso
    cases fn
    case func g =>
      simp only [compOp, hoo] at hc
      revert hc
      (repeat' split) <;> intro hc <;> cases hc
    all_goals (simp only [compOp, hoo] at hc; cases hc)
  all_goals
    exfalso
    simp only [compOp, hoo] at hc
    revert hc
    (repeat' split) <;> intro hc <;> cases hc

theorem len_slot {o : Oper} {x : X} {G : Nat → Prop} {ι : Io} {e : Env} {h : Hp} {a : Act} {w : World} (hc : compOp P o = .len x) (r : Rel N G ι e h a w) : ∃ v, VR G w ι h v (ev e x) := by
  have key : ∀ t y, cx P t y = some x → ∃ v, VR G w ι h v (ev e x) := fun t y hy => ⟨_, cx_sound hy r⟩
  cases hoo : o.op
  case call c =>
    simp only [compOp, hoo] at hc
    split at hc
    · unfold compB at hc
      (repeat' split at hc) <;> first | (cases hc; done) | skip
      cases hc
      exact key _ _ (by assumption)
    · split at hc
      · split at hc <;> cases hc
      · cases hc
    · split at hc <;> cases hc
    · cases hc
  case makeMap t rs => exfalso; cases rs <;> (simp only [compOp, hoo] at hc; cases hc)
  case makeFunc fn first caps =>
    exfalso
    cases fn
    case func g =>
      simp only [compOp, hoo] at hc
      revert hc
      (repeat' split) <;> intro hc <;> cases hc
    all_goals (simp only [compOp, hoo] at hc; cases hc)
  all_goals
    exfalso
    simp only [compOp, hoo] at hc
    revert hc
    (repeat' split) <;> intro hc <;> cases hc

theorem len_bound {o : Oper} {x : X} {G : Nat → Prop} {ι : Io} {e : Env} {h : Hp} {a : Act} {w : World} {sz : Nat} {l : List (List D)} (hc : compOp P o = .len x) (r : Rel N G ι e h a w)
    (hx : view h (ev e x) = some (sz, l)) : l.length ≤ 9223372036854775807 := by
  have key : ∀ t y, cx P t y = some x → l.length ≤ 9223372036854775807 := fun t y hy => by
    obtain ⟨_, _, _, _, hm⟩ := view_len r.hr (cx_sound hy r) hx
    exact hm
  cases hoo : o.op
  case call c =>
    simp only [compOp, hoo] at hc
    split at hc
    · unfold compB at hc
      (repeat' split at hc) <;> first | (cases hc; done) | skip
      cases hc
      exact key _ _ (by assumption)
    · split at hc
      · split at hc <;> cases hc
      · cases hc
    · split at hc <;> cases hc
    · cases hc
  case makeMap t rs => exfalso; cases rs <;> (simp only [compOp, hoo] at hc; cases hc)
  case makeFunc fn first caps =>
    exfalso
    cases fn
    case func g =>
      simp only [compOp, hoo] at hc
      revert hc
      (repeat' split) <;> intro hc <;> cases hc
    all_goals (simp only [compOp, hoo] at hc; cases hc)
  all_goals
    exfalso
    simp only [compOp, hoo] at hc
    revert hc
    (repeat' split) <;> intro hc <;> cases hc

theorem fn_enter {o : Oper} {f : Nat} {vs : List Value} {args : List AV} {h : Hp} {K : AV → Hp → Prop} {G : Nat → Prop} {ι : Io} {e : Env} {a : Act} {w : World} {K' : Act → World → Prop} {Q : Exit → Act → World → Prop}
    (st : St N G0 ι0 h0 w0 G ι e h a w) (hd : ∀ d, o.dst = some d → d < N) (hf : FnS P f args h K) (hv : VRs G w ι h vs args) (hrun : (execOp a.eval o).run P w = .ok (.enter f vs.toArray) w)
    (hK : ∀ v h' a' w', K v h' → Fits N G0 ι0 h0 w0 (putE e o.dst v) h' a' w' → K' a' w') : o.wp P a w K' Q := by
  unfold Oper.wp
  rw [hrun, Oper.upon_enter]
  refine (hf.out G ι w vs st.rel.hr hv).mono fun en w' ⟨v, r, G', ι', h', k0, k1, k2, k3, k4⟩ => ?_
  subst k0
  exact hK r h' _ _ k1 ⟨G', ι', st.step hd k2 k3 k4⟩

/-- a call by its name -/
theorem callS_sound {o : Oper} {c : Call} {f : Nat} {xs : List X} {m : Nat} (hm : h0.length ≤ m) (hoo : o.op = .call c) (ho : compOp P o = .call f xs) (hdN : ∀ d, o.dst = some d → d < N) {d : Bool} {L : Lv} {h : Hp} {K : Lv → AV → Hp → Prop}
    (hc : CallS P m d L h f xs K) : ∀ {a : Act} {w : World} {K' : Act → World → Prop} {Q : Exit → Act → World → Prop}, Fits N G0 ι0 h0 w0 (lkL L) h a w →
    (∀ L v h' a' w', K L v h' → Fits N G0 ι0 h0 w0 (putE (lkL L) o.dst v) h' a' w' → K' a' w') → o.wp P a w K' Q := by
  induction hc with
  | pure hp k =>
    intro a w K' Q hf hK
    obtain ⟨G, ι, st⟩ := hf
    obtain ⟨q1, q2⟩ := call_exec (a := a) (w := w) hoo ho
    have hargs : c.args.map a.eval = (c.args.toList.map a.eval).toArray := by apply Array.ext'; simp
    rw [hargs] at q1
    rw [evsN_eq] at hp
    exact fn_enter st hdN hp.fn (args_sound st.rel q2) q1 (fun v h' a' w' hk hf => by obtain ⟨rfl, rfl⟩ := hk; exact hK _ _ _ _ _ k hf)
  | fn hfn =>
    intro a w K' Q hf hK
    obtain ⟨G, ι, st⟩ := hf
    obtain ⟨q1, q2⟩ := call_exec (a := a) (w := w) hoo ho
    have hargs : c.args.map a.eval = (c.args.toList.map a.eval).toArray := by apply Array.ext'; simp
    rw [hargs] at q1
    rw [evsN_eq] at hfn
    exact fn_enter st hdN hfn (args_sound st.rel q2) q1 fun v h' a' w' hk hf => hK _ _ _ _ _ hk hf
  | wk hw _ ih =>
    intro a w K' Q hf hK
    exact ih ho (hw.fits hm hf) hK

theorem did_sound {ops : Array Oper} {o : Oper} {ao : AO} {m : Nat} (hm : h0.length ≤ m) {L : Lv} {h : Hp} {a : Act} {w : World} {K : Lv → AV → Hp → Prop} {K' : Act → World → Prop} {Q : Exit → Act → World → Prop}
    (hc : compO P ops N o = some ao) (hs : Did P m false ao.op L h K) (hf : Fits N G0 ι0 h0 w0 (lkL L) h a w)
    (hK : ∀ L v h' a' w', K L v h' → Fits N G0 ι0 h0 w0 (putE (lkL L) ao.dst v) h' a' w' → K' a' w') : o.wp P a w K' Q := by
  obtain ⟨hd, hdN, hop, hg⟩ := compO_dst hc
  rw [hd] at hK
  induction hs with
  | wk _ hw _ ih => exact ih (hw.fits hm hf) hK
  | @step L h K v h' hs _ hk =>
    have hf0 := hf
    obtain ⟨G, ι, st⟩ := hf
    rw [hop] at hs
    obtain ⟨v', w', G', ι', hrun, k1, k2, k3⟩ := op_sound st.rel hs
    unfold Oper.wp
    rcases hrun with hrun | ⟨hrun, rfl⟩
    · rw [hrun]; exact hK _ _ _ _ _ hk ⟨G', ι', st.step hdN k1 k2 k3⟩
    · rw [hrun]; exact hK _ _ _ _ _ hk ⟨G', ι', st.step hdN k1 k2 k3⟩
  | @call L h K f xs ho hc' =>
    have hf0 := hf
    obtain ⟨G, ι, st⟩ := hf
    rw [hop] at ho
    obtain ⟨c, hoo⟩ := compOp_call ho
    exact callS_sound hm hoo ho hdN hc' hf0 hK
  | @len L h K x sz l ho _ hx hk =>
    have hf0 := hf
    obtain ⟨G, ι, st⟩ := hf
    have hb := len_bound (by rw [← hop]; exact ho) st.rel hx
    have hs : astep (lkL L) h ao.op = some (.c (.d (.int .i64 l.length)), h) := by rw [ho]; simp only [astep, hx]
    rw [hop] at hs
    obtain ⟨v', w', G', ι', hrun, k1, k2, k3⟩ := op_sound st.rel hs
    unfold Oper.wp
    rcases hrun with hrun | ⟨hrun, rfl⟩
    · rw [hrun]; exact hK _ _ _ _ _ (hk hb) ⟨G', ι', st.step hdN k1 k2 k3⟩
    · rw [hrun]; exact hK _ _ _ _ _ (hk hb) ⟨G', ι', st.step hdN k1 k2 k3⟩
  | @lenA L h K x l v i n ho _ hx hsol hk =>
    have hf0 := hf
    obtain ⟨G, ι, st⟩ := hf
    obtain ⟨vv, hvv⟩ := len_slot (by rw [← hop]; exact ho) st.rel
    obtain ⟨sz, ls, hview, hlen⟩ : ∃ sz ls, view h (ev (lkL L) x) = some (sz, ls) ∧ ls.length = n := by
      rw [hx] at hvv ⊢
      cases inv_c hvv with
      | arr _ _ _ _ _ blk hb ha hk1 hk0 =>
        simp only [solid, hb] at hsol
        cases blk <;> simp at hsol
        rename_i rl v' sz es
        subst hsol
        refine ⟨sz, (es.drop i).take n, by simp [view, hb], ?_⟩
        cases rl with
        | false => obtain ⟨_, hn, _⟩ := hk0 sz es rfl; subst hn; simp
        | true => obtain ⟨b, o', cap, h1, h2, _⟩ := hk1 sz es rfl; simp; omega
    have hb := len_bound (by rw [← hop]; exact ho) st.rel hview
    have hs : astep (lkL L) h ao.op = some (.c (.d (.int .i64 n)), h) := by rw [ho]; simp only [astep, hview, hlen]
    rw [hop] at hs
    obtain ⟨v', w', G', ι', hrun, k1, k2, k3⟩ := op_sound st.rel hs
    unfold Oper.wp
    rcases hrun with hrun | ⟨hrun, rfl⟩
    · rw [hrun]; exact hK _ _ _ _ _ (hk (by omega)) ⟨G', ι', st.step hdN k1 k2 k3⟩
    · rw [hrun]; exact hK _ _ _ _ _ (hk (by omega)) ⟨G', ι', st.step hdN k1 k2 k3⟩
  | @nil L h K ne x nl sz l ho _ hx hk =>
    have hf0 := hf
    obtain ⟨G, ι, st⟩ := hf
    rw [hop] at ho
    obtain ⟨b, hb, v', w', G', ι', hrun, k1, k2, k3⟩ := isnil_exec ho st.rel hx
    unfold Oper.wp
    rcases hrun with hrun | ⟨hrun, rfl⟩
    · rw [hrun]; exact hK _ _ _ _ _ (hk b hb) ⟨G', ι', st.step hdN k1 k2 k3⟩
    · rw [hrun]; exact hK _ _ _ _ _ (hk b hb) ⟨G', ι', st.step hdN k1 k2 k3⟩
  | @callv L h K x xs f caps ho _ hx hfn hc' =>
    have hf0 := hf
    obtain ⟨G, ι, st⟩ := hf
    rw [hop] at ho
    obtain ⟨t, rfl⟩ := callv_slot ho
    have hvx := st.rel.env t
    have hx' : lk (lkL L) t = .c (.fn f caps) := hx
    rw [hx'] at hvx
    obtain ⟨vs, hvs, hn, hcr⟩ : ∃ vs : Array Value, a.tmps.getD t undef = .func (.func f) #[] vs ∧ vs.size = caps.length ∧ ∀ (i : Nat) (v : Value) (c : CV), vs[i]? = some v → caps[i]? = some c → CR G w ι h v c := by
      revert hvx
      generalize a.tmps.getD t undef = v
      intro hvx
      cases inv_c hvx with
      | fn _ vs _ hn hc => exact ⟨vs, rfl, hn, hc⟩
    obtain ⟨c, q1, q2⟩ := callv_exec (a := a) (w := w) (vs := vs) ho (fun op hop' => by
      cases op with
      | tmp t' => simp only [cx, Option.some.injEq, X.t.injEq] at hop'; subst hop'; exact hvs
      | const v => simp [cx] at hop'
      | global g => simp [cx] at hop'
      | func g => simp [cx] at hop') hfn
    obtain ⟨t1, t2⟩ := args_sound st.rel q2
    have hargs : c.args.map a.eval ++ vs = (c.args.toList.map a.eval ++ vs.toList).toArray := by apply Array.ext'; simp
    rw [hargs] at q1
    have hv : VRs G w ι h (c.args.toList.map a.eval ++ vs.toList) (evsN L xs ++ caps.map .c) := by
      rw [evsN_eq]
      refine ⟨by simp only [List.length_append, t1, Array.length_toList, hn, List.length_map], fun i v x hv hx => ?_⟩
      rcases Nat.lt_or_ge i (c.args.toList.map a.eval).length with hi | hi
      · rw [List.getElem?_append_left hi] at hv
        rw [List.getElem?_append_left (by omega)] at hx
        exact t2 i v x hv hx
      · rw [List.getElem?_append_right hi] at hv
        rw [List.getElem?_append_right (by omega)] at hx
        simp only [List.getElem?_map, Option.map_eq_some_iff] at hx
        obtain ⟨y, hy, rfl⟩ := hx
        rw [← t1] at hy
        exact .c _ _ (hcr _ v y (by simpa using hv) hy)
    cases hc' with
    | pure hp k => exact fn_enter st hdN hp.fn hv q1 (fun v h' a' w' hk hf => by obtain ⟨rfl, rfl⟩ := hk; exact hK _ _ _ _ _ k hf)
    | fn hf => exact fn_enter st hdN hf hv q1 fun v h' a' w' hk hf => hK _ _ _ _ _ hk hf

/-- a region in the text's order -/
theorem region_seq {ops : Array Oper} {m : Nat} (hm : h0.length ≤ m) {Q : Exit → Act → World → Prop} : ∀ (os : List Oper) (aos : List AO) (k : Nat) (L : Lv) (h : Hp) (K : Lv → Hp → Prop) (a : Act) (w : World),
    (∀ i, os[i]? = ops[k + i]?) → compOs P ops N os = some aos → aos.all (gOk N) = true → runO P m false aos L h K → Fits N G0 ι0 h0 w0 (lkL L) h a w →
    (∀ L' h' a' w', K L' h' → Fits N G0 ι0 h0 w0 (lkL L') h' a' w' → Q .normal a' w') → wpOps P ops Q (List.range' k os.length) a w := by
  intro os
  induction os with
  | nil =>
    intro aos k L h K a w _ hc _ hv hf hQ
    simp only [compOs, Option.some.injEq] at hc
    subst hc
    exact hQ L h a w hv hf
  | cons o os ih =>
    intro aos k L h K a w hk hc hg hv hf hQ
    simp only [compOs] at hc
    split at hc
    · rename_i ao l hao hl
      cases hc
      simp only [List.all_cons, Bool.and_eq_true] at hg
      have hok : ops[k]? = some o := by have := hk 0; simpa using this.symm
      have hrest : ∀ L' h' a' w', runO P m false l L' h' K → Fits N G0 ι0 h0 w0 (lkL L') h' a' w' → wpOps P ops Q (List.range' (k + 1) os.length) a' w' := fun L' h' a' w' hv' hf' =>
        ih l (k + 1) L' h' K a' w' (fun i => by have := hk (i + 1); simp only [List.getElem?_cons_succ] at this; rw [this]; congr 1; omega) hl hg.2 hv' hf' hQ
      simp only [List.length_cons, List.range'_succ]
      rw [wpOps_cons]
      unfold wpOp
      simp only [hok]
      obtain ⟨G, ι, st⟩ := hf
      obtain ⟨hd, hdN, hop, hgs⟩ := compO_dst hao
      have hgN := gOk_spec hg.1
      rcases hv with ⟨hgv, hv⟩ | ⟨hgv, hv⟩
      · rw [gv_wanted st.rel hgs hgv hgN]
        simp only [if_true]
        left
        refine did_sound hm hao hv ⟨G, ι, st⟩ fun L' v h' a' w' hk' hf' => ?_
        exact hrest _ _ _ _ hk' (by rw [putL_eq]; exact hf')
      · rw [gv_wanted st.rel hgs hgv hgN]
        simp only [Bool.false_eq_true, if_false]
        refine hrest _ _ _ _ hv ⟨G, ι, ?_⟩
        rw [putL_eq, hd]
        exact st.step hdN st.rel.hr (.tup #[] [] rfl (by simp)) (Ext.refl _ _ _ _)
    · cases hc

/-- the same operations as steps -/
theorem runO_run {aops : List AO} {m : Nat} : ∀ (aos : List AO) (k : Nat) (L : Lv) (h : Hp) (K : Lv → Hp → Prop), (∀ i, aos[i]? = aops[k + i]?) → runO P m true aos L h K →
    ∃ L' h', RunI P aops (List.range' k aos.length) (lkL L) h (lkL L') h' ∧ K L' h' := by
  intro aos
  induction aos with
  | nil => intro k L h K _ hv; exact ⟨L, h, ⟨rfl, rfl⟩, hv⟩
  | cons o aos ih =>
    intro k L h K hk hv
    have hok : aops[k]? = some o := by have := hk 0; simpa using this.symm
    have next : ∀ L' h', StepD P o (lkL L) h (lkL L') h' → runO P m true aos L' h' K → ∃ L' h', RunI P aops (List.range' k (o :: aos).length) (lkL L) h (lkL L') h' ∧ K L' h' := by
      intro L' h' hs hv'
      obtain ⟨L2, h2, hr, hk2⟩ := ih (k + 1) L' h' K (fun i => by have := hk (i + 1); simp only [List.getElem?_cons_succ] at this; rw [this]; congr 1; omega) hv'
      exact ⟨L2, h2, ⟨o, _, _, hok, hs, hr⟩, hk2⟩
    rcases hv with ⟨hgv, hv⟩ | ⟨hgv, hv⟩
    · cases hv with
      | wk hd => cases hd
      | step v h' hs hcl hk' =>
        refine next (putL L o.dst v) h' ⟨?_, fun hc => .inr (hcl rfl hc)⟩ hk'
        rw [putL_eq]; unfold StepR; rw [hgv]; exact .inl ⟨v, hs, rfl⟩
      | call f xs ho hc =>
        cases hc with
        | pure hp hk' =>
          rename_i r
          rw [evsN_eq] at hp
          refine next (putL L o.dst r) h ⟨?_, fun hc => .inl rfl⟩ hk'
          rw [putL_eq]; unfold StepR; rw [hgv]; exact .inr ⟨f, xs, r, ho, hp, rfl, rfl⟩
      | callv x xs f caps ho hd => cases hd
      | nil ne x nl sz l ho hd => cases hd
      | len x sz l ho hd => cases hd
      | lenA x l v i n ho hd => cases hd
    · refine next (putL L o.dst (.tup [])) h ⟨?_, fun _ => .inl rfl⟩ hv
      rw [putL_eq]; unfold StepR; rw [hgv]; exact ⟨rfl, rfl⟩

end
end Go.Ab

/-
  The engine: other numbers for the blocks.
-/
namespace Go.Ab

/-- other numbers for the blocks -/
def rnC (ρ : Nat → Nat) : CV → CV
  | .ptr l v i j => .ptr (ρ l) v i j
  | .arr l v i n => .arr (ρ l) v i n
  | .mp l => .mp (ρ l)
  | .it l => .it (ρ l)
  | .fn f caps => .fn f (rnCs ρ caps)
  | x => x
where
  rnCs (ρ : Nat → Nat) : List CV → List CV
  | [] => []
  | x :: r => rnC ρ x :: rnCs ρ r
abbrev rnCs (ρ : Nat → Nat) : List CV → List CV := rnC.rnCs ρ

theorem rnCs_get (ρ : Nat → Nat) (l : List CV) (i : Nat) : (rnCs ρ l)[i]? = (l[i]?).map (rnC ρ) := by
  induction l generalizing i with
  | nil => simp [rnCs, rnC.rnCs]
  | cons x r ih =>
    cases i with
    | zero => simp [rnCs, rnC.rnCs]
    | succ i => simpa [rnCs, rnC.rnCs] using ih i
theorem rnCs_len (ρ : Nat → Nat) (l : List CV) : (rnCs ρ l).length = l.length := by
  induction l with
  | nil => rfl
  | cons x r ih => simpa [rnCs, rnC.rnCs] using ih

def rnA (ρ : Nat → Nat) : AV → AV
  | .c x => .c (rnC ρ x)
  | .agg l => .agg (rnCs ρ l)
  | .tup l => .tup (rnAs ρ l)
where
  rnAs (ρ : Nat → Nat) : List AV → List AV
  | [] => []
  | x :: r => rnA ρ x :: rnAs ρ r
abbrev rnAs (ρ : Nat → Nat) : List AV → List AV := rnA.rnAs ρ
theorem rnAs_get (ρ : Nat → Nat) (l : List AV) (i : Nat) : (rnAs ρ l)[i]? = (l[i]?).map (rnA ρ) := by
  induction l generalizing i with
  | nil => simp [rnAs, rnA.rnAs]
  | cons x r ih =>
    cases i with
    | zero => simp [rnAs, rnA.rnAs]
    | succ i => simpa [rnAs, rnA.rnAs] using ih i
theorem rnAs_len (ρ : Nat → Nat) (l : List AV) : (rnAs ρ l).length = l.length := by
  induction l with
  | nil => rfl
  | cons x r ih => simpa [rnAs, rnA.rnAs] using ih

def rnB (ρ : Nat → Nat) : Blk → Blk
  | .bx cs => .bx (rnCs ρ cs)
  | .mi m v es => .mi (ρ m) v es
  | b => b
def rnH (ρ : Nat → Nat) : Hp → Hp
  | [] => []
  | b :: r => rnB ρ b :: rnH ρ r
theorem rnH_get (ρ : Nat → Nat) (h : Hp) (i : Nat) : (rnH ρ h)[i]? = (h[i]?).map (rnB ρ) := by
  induction h generalizing i with
  | nil => simp [rnH]
  | cons x r ih =>
    cases i with
    | zero => simp [rnH]
    | succ i => simpa [rnH] using ih i
theorem rnH_len (ρ : Nat → Nat) (h : Hp) : (rnH ρ h).length = h.length := by
  induction h with
  | nil => rfl
  | cons x r ih => simpa [rnH] using ih

theorem rnB_live (ρ : Nat → Nat) (b : Blk) : (rnB ρ b).live = b.live := by cases b <;> rfl
theorem rnB_off (ρ : Nat → Nat) (b : Blk) (v i j : Nat) : (rnB ρ b).off v i j = b.off v i j := by cases b <;> rfl
theorem rnB_allows (ρ : Nat → Nat) (b : Blk) (v : Nat) : (rnB ρ b).allows v = b.allows v := by cases b <;> rfl
theorem rnB_da {ρ : Nat → Nat} {b : Blk} {r : Bool} {v sz : Nat} {es : List (List D)} : rnB ρ b = .da r v sz es ↔ b = .da r v sz es := by cases b <;> simp [rnB]
theorem rnB_mp {ρ : Nat → Nat} {b : Blk} {v : Nat} {es : List (DV × DV)} : rnB ρ b = .mp v es ↔ b = .mp v es := by cases b <;> simp [rnB]

/-- the blocks of 'hc' lie among those of 'h' -/
structure Among (ρ : Nat → Nat) (ιc : Io) (hc : Hp) (ι : Io) (h : Hp) : Prop where
  blk : ∀ i k, hc[i]? = some k → h[ρ i]? = some (rnB ρ k)
  at' : ∀ i k, hc[i]? = some k → ι[ρ i]? = ιc[i]?

section
variable {G : Nat → Prop} {w : World} {ιc ι : Io} {hc h : Hp} {ρ : Nat → Nat}

theorem CR.rn (am : Among ρ ιc hc ι h) {v : Value} {c : CV} (hx : CR G w ιc hc v c) : CR G w ι h v (rnC ρ c) := by
  induction hx with
  | u => exact .u _
  | d _ _ hd => exact .d _ _ hd
  | cl _ _ _ _ hd hc => exact .cl _ _ _ _ hd hc
  | rp b o cs hG hc => exact .rp b o cs hG hc
  | mp _ l blk hb hk =>
    refine .mp _ _ _ (am.blk l blk hb) fun ver es he => ?_
    obtain ⟨b, o, h1, h2⟩ := hk ver es (rnB_mp.1 he)
    exact ⟨b, o, by rw [am.at' l blk hb]; exact h1, h2⟩
  | it _ l blk hb hk =>
    refine .it _ _ _ (am.blk l blk hb) fun m ver es he => ?_
    cases blk with
    | mi m0 v0 es0 =>
      simp only [rnB, Blk.mi.injEq] at he
      obtain ⟨b, o, h1, h2⟩ := hk m0 v0 es0 rfl
      exact ⟨b, o, by rw [am.at' l _ hb]; exact h1, h2⟩
    | _ => simp [rnB] at he
  | ptr _ l ver i j blk hb ha hk =>
    refine .ptr _ _ _ _ _ _ (am.blk l blk hb) (by rw [rnB_allows]; exact ha) fun k hk' => ?_
    rw [rnB_off] at hk'
    obtain ⟨b, o, h1, h2⟩ := hk k hk'
    exact ⟨b, o, by rw [am.at' l blk hb]; exact h1, h2⟩
  | arr _ l ver i j blk hb ha hk hk0 =>
    refine .arr _ _ _ _ _ _ (am.blk l blk hb) (by rw [rnB_allows]; exact ha) (fun sz es he => ?_) fun sz es he => hk0 sz es (rnB_da.1 he)
    obtain ⟨b, o, cap, h1, h2⟩ := hk sz es (rnB_da.1 he)
    exact ⟨b, o, cap, by rw [am.at' l blk hb]; exact h1, h2⟩
  | fn f vs caps hn hc ih =>
    refine .fn f vs _ (by rw [hn]; exact (rnCs_len ρ caps).symm) fun i v c hv hx => ?_
    rw [show rnC.rnCs ρ caps = rnCs ρ caps from rfl, rnCs_get, Option.map_eq_some_iff] at hx
    obtain ⟨c0, h1, rfl⟩ := hx
    exact ih i v c0 hv h1

theorem CR.unrn (am : Among ρ ιc hc ι h) {v : Value} {x : CV} (hx : CR G w ι h v x) : ∀ c, x = rnC ρ c → refsC hc.length c = true → CR G w ιc hc v c := by
  have at1 : ∀ l, l < hc.length → ∃ k, hc[l]? = some k := fun l hl => ⟨_, List.getElem?_eq_getElem hl⟩
  induction hx with
  | u v => intro c e hr; cases c <;> first | exact .u _ | (simp [rnC] at e)
  | d _ _ hd => intro c e hr; cases c <;> simp [rnC] at e; subst e; exact .d _ _ hd
  | cl _ _ _ _ hd hc => intro c e hr; cases c <;> simp [rnC] at e; obtain ⟨rfl, rfl, rfl⟩ := e; exact .cl _ _ _ _ hd hc
  | rp b o cs hG hc => intro c e hr; cases c <;> simp [rnC] at e; subst e; exact .rp b o _ hG hc
  | mp _ l blk hb hk =>
    intro c e hr
    cases c <;> simp [rnC] at e
    rename_i l0
    obtain ⟨k, hk0⟩ := at1 l0 (Nat.le_of_ble_eq_true hr)
    rw [e, am.blk l0 k hk0] at hb
    cases hb
    refine .mp _ _ k hk0 fun ver es he => ?_
    obtain ⟨b, o, h1, h2⟩ := hk ver es (rnB_mp.2 he)
    exact ⟨b, o, by rw [← am.at' l0 k hk0, ← e]; exact h1, h2⟩
  | it _ l blk hb hk =>
    intro c e hr
    cases c <;> simp [rnC] at e
    rename_i l0
    obtain ⟨k, hk0⟩ := at1 l0 (Nat.le_of_ble_eq_true hr)
    rw [e, am.blk l0 k hk0] at hb
    cases hb
    refine .it _ _ k hk0 fun m ver es he => ?_
    subst he
    obtain ⟨b, o, h1, h2⟩ := hk (ρ m) ver es rfl
    exact ⟨b, o, by rw [← am.at' l0 _ hk0, ← e]; exact h1, h2⟩
  | ptr _ l ver i j blk hb ha hk =>
    intro c e hr
    cases c <;> simp [rnC] at e
    rename_i l0 v0 i0 j0
    obtain ⟨e, rfl, rfl, rfl⟩ := e
    obtain ⟨k, hk0⟩ := at1 l0 (Nat.le_of_ble_eq_true hr)
    rw [e, am.blk l0 k hk0] at hb
    cases hb
    rw [rnB_allows] at ha
    refine .ptr _ _ _ _ _ k hk0 ha fun n hn => ?_
    obtain ⟨b, o, h1, h2⟩ := hk n (by rw [rnB_off]; exact hn)
    exact ⟨b, o, by rw [← am.at' l0 k hk0, ← e]; exact h1, h2⟩
  | arr _ l ver i j blk hb ha hk hk0 =>
    intro c e hr
    cases c <;> simp [rnC] at e
    rename_i l0 v0 i0 j0
    obtain ⟨e, rfl, rfl, rfl⟩ := e
    obtain ⟨k, hk1⟩ := at1 l0 (Nat.le_of_ble_eq_true hr)
    rw [e, am.blk l0 k hk1] at hb
    cases hb
    rw [rnB_allows] at ha
    refine .arr _ _ _ _ _ k hk1 ha (fun sz es he => ?_) fun sz es he => hk0 sz es (rnB_da.2 he)
    obtain ⟨b, o, cap, h1, h2⟩ := hk sz es (rnB_da.2 he)
    exact ⟨b, o, cap, by rw [← am.at' l0 k hk1, ← e]; exact h1, h2⟩
  | fn f vs caps hn hc ih =>
    intro c e hr
    cases c <;> simp [rnC] at e
    rename_i f0 caps0
    obtain ⟨rfl, e⟩ := e
    have e' : caps = rnCs ρ caps0 := e
    refine .fn _ vs caps0 (by rw [hn, e', rnCs_len]) fun i v c hv hx => ?_
    have hx' : caps[i]? = some (rnC ρ c) := by rw [e', rnCs_get, hx]; rfl
    exact ih i v _ hv hx' c rfl (refsCs_get hr i c hx)

theorem VR.rn (am : Among ρ ιc hc ι h) {v : Value} {x : AV} (hx : VR G w ιc hc v x) : VR G w ι h v (rnA ρ x) := by
  induction hx with
  | c _ _ h1 => exact .c _ _ (h1.rn am)
  | agg cs l hn h1 =>
    refine .agg cs _ (by rw [hn]; exact (rnCs_len ρ l).symm) fun i v x hv hx => ?_
    rw [rnCs_get, Option.map_eq_some_iff] at hx
    obtain ⟨c0, h2, rfl⟩ := hx
    exact (h1 i v c0 hv h2).rn am
  | tup cs l hn h1 ih =>
    refine .tup cs _ (by rw [hn]; exact (rnAs_len ρ l).symm) fun i v x hv hx => ?_
    rw [show rnA.rnAs ρ l = rnAs ρ l from rfl, rnAs_get, Option.map_eq_some_iff] at hx
    obtain ⟨c0, h2, rfl⟩ := hx
    exact ih i v c0 hv h2

theorem VR.unrn (am : Among ρ ιc hc ι h) {v : Value} {x : AV} (hx : VR G w ι h v (rnA ρ x)) (hr : refsA hc.length x = true) : VR G w ιc hc v x := by
  cases x with
  | c x =>
    cases hx with
    | c _ _ h1 => exact .c _ _ (h1.unrn am x rfl hr)
  | agg l =>
    cases hx with
    | agg cs _ hn h1 =>
      refine .agg cs l (by rw [hn, rnCs_len]) fun i v x hv hx => ?_
      exact (h1 i v (rnC ρ x) hv (by rw [rnCs_get, hx]; rfl)).unrn am x rfl (refsCs_get hr i x hx)
  | tup l =>
    cases l with
    | nil => cases hx with | tup cs _ hn h1 => exact .tup cs [] hn (by simp)
    | cons a r => simp [refsA] at hr

theorem BR.rn (am : Among ρ ιc hc ι h) {i : Nat} {k : Blk} (hk : hc[i]? = some k) (hx : BR G w ιc hc i k) : BR G w ι h (ρ i) (rnB ρ k) := by
  have ha := am.at' i k hk
  cases k with
  | dead => trivial
  | bx cs =>
    obtain ⟨b, o, c, t, fr, h1, h2, h3, h4, h5⟩ := hx
    refine ⟨b, o, c, t, fr, by rw [ha]; exact h1, h2, by rw [rnCs_len]; exact h3, h4, fun j x hx => ?_⟩
    rw [rnCs_get, Option.map_eq_some_iff] at hx
    obtain ⟨c0, g1, rfl⟩ := hx
    obtain ⟨v, g2, g3⟩ := h5 j c0 g1
    exact ⟨v, g2, g3.rn am⟩
  | da r v sz es =>
    cases r with
    | false => exact hx
    | true =>
      obtain ⟨b, o, c, t, fr, h0, h1, h2⟩ := hx
      exact ⟨b, o, c, t, fr, h0, by rw [ha]; exact h1, h2⟩
  | mp v es =>
    obtain ⟨b, o, ces, clock, h1, h2⟩ := hx
    exact ⟨b, o, ces, clock, by rw [ha]; exact h1, h2⟩
  | mi m v es =>
    obtain ⟨b, o, mb, seen, clock, blk, h1, h2, h3, h4, h5⟩ := hx
    refine ⟨b, o, mb, seen, clock, _, by rw [ha]; exact h1, h2, am.blk m blk h3, by rw [rnB_allows]; exact h4, fun all he => ?_⟩
    obtain ⟨o', ces, g1, g2⟩ := h5 all (rnB_mp.1 he)
    exact ⟨o', ces, by rw [am.at' m blk h3]; exact g1, g2⟩

theorem BR.unrn (am : Among ρ ιc hc ι h) {i : Nat} {k : Blk} (hk : hc[i]? = some k) (hr : refsB hc.length k = true) (hx : BR G w ι h (ρ i) (rnB ρ k)) : BR G w ιc hc i k := by
  have ha := am.at' i k hk
  cases k with
  | dead => trivial
  | bx cs =>
    obtain ⟨b, o, c, t, fr, h1, h2, h3, h4, h5⟩ := hx
    refine ⟨b, o, c, t, fr, by rw [← ha]; exact h1, h2, by rw [rnCs_len] at h3; exact h3, h4, fun j x hx => ?_⟩
    obtain ⟨v, g2, g3⟩ := h5 j (rnC ρ x) (by rw [rnCs_get, hx]; rfl)
    exact ⟨v, g2, g3.unrn am x rfl (refsCs_get hr j x hx)⟩
  | da r v sz es =>
    cases r with
    | false => exact hx
    | true =>
      obtain ⟨b, o, c, t, fr, h0, h1, h2⟩ := hx
      exact ⟨b, o, c, t, fr, h0, by rw [← ha]; exact h1, h2⟩
  | mp v es =>
    obtain ⟨b, o, ces, clock, h1, h2⟩ := hx
    exact ⟨b, o, ces, clock, by rw [← ha]; exact h1, h2⟩
  | mi m v es =>
    obtain ⟨b, o, mb, seen, clock, blk, h1, h2, h3, h4, h5⟩ := hx
    have hm : m < hc.length := Nat.le_of_ble_eq_true hr
    have hkm : hc[m]? = some (hc[m]'hm) := List.getElem?_eq_getElem hm
    rw [am.blk m _ hkm] at h3
    cases h3
    rw [rnB_allows] at h4
    refine ⟨b, o, mb, seen, clock, _, by rw [← ha]; exact h1, h2, hkm, h4, fun all he => ?_⟩
    obtain ⟨o', ces, g1, g2⟩ := h5 all (rnB_mp.2 he)
    exact ⟨o', ces, by rw [← am.at' m _ hkm]; exact g1, g2⟩

theorem owned_rn (am : Among ρ ιc hc ι h) {b : Nat} (ho : owned ιc hc b) : ∃ i o k, hc[i]? = some k ∧ k.live = true ∧ ιc[i]? = some (b, o) ∧ ι[ρ i]? = some (b, o) ∧ h[ρ i]? = some (rnB ρ k) := by
  obtain ⟨i, o, k, h1, h2, h3⟩ := ho
  exact ⟨i, o, k, h2, h3, h1, by rw [am.at' i k h2]; exact h1, am.blk i k h2⟩

theorem owned_up (am : Among ρ ιc hc ι h) {b : Nat} (ho : owned ιc hc b) : owned ι h b := by
  obtain ⟨i, o, k, h1, h2, h3, h4, h5⟩ := owned_rn am ho
  exact ⟨ρ i, o, _, h4, h5, by rw [rnB_live]; exact h2⟩

theorem HR.down (am : Among ρ ιc hc ι h) (hr : HR G ι h w) (hl : ιc.length = hc.length) (hinj : ∀ i j, i < hc.length → j < hc.length → ρ i = ρ j → i = j) (hcl : refsH hc.length hc = true) : HR G ιc hc w where
  len := hl
  inj l l' b o o' k k' h1 h2 h3 h4 h5 h6 := by
    refine hinj l l' (get_lt h3) (get_lt h4) ?_
    exact hr.inj (ρ l) (ρ l') b o o' _ _ (by rw [am.at' l k h3]; exact h1) (by rw [am.at' l' k' h4]; exact h2) (am.blk l k h3) (am.blk l' k' h4) (by rw [rnB_live]; exact h5) (by rw [rnB_live]; exact h6)
  g b hb := ⟨(hr.g b hb).1, fun ho => (hr.g b hb).2 (owned_up am ho)⟩
  blk l k hk := BR.unrn am hk (refsH_get hcl l k hk) (hr.blk _ _ (am.blk l k hk))

end

end Go.Ab

/-
  The engine: regions whose order is drawn and which make memory of their own. Each new block has a place kept for it, so that the order in which the blocks are made does not matter.
-/
namespace Go.Ab

/-- the blocks that a value leads to -/
def rfC : CV → List Nat
  | .ptr l _ _ _ => [l]
  | .arr l _ _ _ => [l]
  | .mp l => [l]
  | .it l => [l]
  | .fn _ caps => rfCs caps
  | _ => []
where
  rfCs : List CV → List Nat
  | [] => []
  | x :: r => rfC x ++ rfCs r
abbrev rfCs : List CV → List Nat := rfC.rfCs

def rfA : AV → List Nat
  | .c x => rfC x
  | .agg l => rfCs l
  | .tup l => rfAs l
where
  rfAs : List AV → List Nat
  | [] => []
  | x :: r => rfA x ++ rfAs r
abbrev rfAs : List AV → List Nat := rfA.rfAs

def rfB : Blk → List Nat
  | .bx cs => rfCs cs
  | .mi m _ _ => [m]
  | _ => []

theorem rfCs_mem {l : List CV} {n : Nat} : n ∈ rfCs l ↔ ∃ x ∈ l, n ∈ rfC x := by
  induction l with
  | nil => simp [rfCs, rfC.rfCs]
  | cons x r ih =>
    rw [show rfCs (x :: r) = rfC x ++ rfCs r from rfl, List.mem_append, ih]
    simp

theorem rfAs_mem {l : List AV} {n : Nat} : n ∈ rfAs l ↔ ∃ x ∈ l, n ∈ rfA x := by
  induction l with
  | nil => simp [rfAs, rfA.rfAs]
  | cons x r ih =>
    rw [show rfAs (x :: r) = rfA x ++ rfAs r from rfl, List.mem_append, ih]
    simp

theorem rf_agreeC {h h' : Hp} {x : CV} (hx : ∀ l ∈ rfC x, h'[l]? = h[l]?) : agreeC h h' x := by
  cases x <;> first | trivial | exact hx _ (by simp [rfC])

theorem rf_agree {h h' : Hp} {x : AV} (hx : ∀ l ∈ rfA x, h'[l]? = h[l]?) : agreeA h h' x := by
  cases x with
  | c x => exact rf_agreeC hx
  | agg l => exact fun y hy => rf_agreeC fun n hn => hx n (rfCs_mem.2 ⟨y, hy, hn⟩)
  | tup l => trivial

theorem CR.lt {G : Nat → Prop} {w : World} {ι : Io} {h : Hp} {v : Value} {x : CV} (hx : CR G w ι h v x) : ∀ l ∈ rfC x, l < h.length := by
  induction hx with
  | ptr _ l ver i j blk hb => intro n hn; simp only [rfC, List.mem_singleton] at hn; subst hn; exact get_lt hb
  | arr _ l ver i j blk hb => intro n hn; simp only [rfC, List.mem_singleton] at hn; subst hn; exact get_lt hb
  | mp _ l blk hb => intro n hn; simp only [rfC, List.mem_singleton] at hn; subst hn; exact get_lt hb
  | it _ l blk hb => intro n hn; simp only [rfC, List.mem_singleton] at hn; subst hn; exact get_lt hb
  | fn f vs caps hn hc ih =>
    intro n hm
    obtain ⟨x, hx, hxn⟩ := rfCs_mem.1 hm
    obtain ⟨i, hi⟩ := List.mem_iff_getElem?.1 hx
    have hl := get_lt hi
    exact ih i _ x (Array.getElem?_eq_getElem (by omega)) hi n hxn
  | _ => intro n hn; simp [rfC] at hn

theorem VR.lt {G : Nat → Prop} {w : World} {ι : Io} {h : Hp} {v : Value} {x : AV} (hx : VR G w ι h v x) : ∀ l ∈ rfA x, l < h.length := by
  induction hx with
  | c _ x hc => exact hc.lt
  | agg cs l hn hc =>
    intro n hm
    obtain ⟨x, hx, hxn⟩ := rfCs_mem.1 hm
    obtain ⟨i, hi⟩ := List.mem_iff_getElem?.1 hx
    have hl := get_lt hi
    exact (hc i _ x (Array.getElem?_eq_getElem (by omega)) hi).lt n hxn
  | tup cs l hn hc ih =>
    intro n hm
    obtain ⟨x, hx, hxn⟩ := rfAs_mem.1 hm
    obtain ⟨i, hi⟩ := List.mem_iff_getElem?.1 hx
    have hl := get_lt hi
    exact ih i _ x (Array.getElem?_eq_getElem (by omega)) hi n hxn

theorem BR.lt {G : Nat → Prop} {w : World} {ι : Io} {h : Hp} {i : Nat} {k : Blk} (hx : BR G w ι h i k) : ∀ l ∈ rfB k, l < h.length := by
  cases k with
  | bx cs =>
    obtain ⟨b, o, c, t, fr, h1, h2, h3, h4, h5⟩ := hx
    intro n hm
    obtain ⟨x, hx, hxn⟩ := rfCs_mem.1 hm
    obtain ⟨i, hi⟩ := List.mem_iff_getElem?.1 hx
    obtain ⟨v, _, g2⟩ := h5 i x hi
    exact g2.lt n hxn
  | mi m ver es =>
    obtain ⟨b, o, mb, seen, clock, blk, _, _, h3, _⟩ := hx
    intro n hn
    simp only [rfB, List.mem_singleton] at hn
    subst hn
    exact get_lt h3
  | _ => intro n hn; simp [rfB] at hn

/-! Renaming one block. -/
section
variable {r m : Nat}

def mvN (r m : Nat) : Nat → Nat := fun i => if i = r then m else i

theorem rnC_fix {x : CV} (hx : r ∉ rfC x) : rnC (mvN r m) x = x := by
  have aux : ∀ x : CV, r ∉ rfC x → rnC (mvN r m) x = x := by
    intro x
    refine CV.rec (motive_1 := fun x => r ∉ rfC x → rnC (mvN r m) x = x) (motive_2 := fun l => r ∉ rfCs l → rnCs (mvN r m) l = l) ?_ ?_ ?_ ?_ ?_ ?_ ?_ ?_ ?_ ?_ ?_ x
    · intro _; rfl
    · intro _ _; rfl
    · intro _ _ _ _; rfl
    · intro _ _; rfl
    · intro l v i j h; simp only [rfC, List.mem_singleton] at h; simp only [rnC, mvN]; rw [if_neg (fun e => h e.symm)]
    · intro l v i j h; simp only [rfC, List.mem_singleton] at h; simp only [rnC, mvN]; rw [if_neg (fun e => h e.symm)]
    · intro l h; simp only [rfC, List.mem_singleton] at h; simp only [rnC, mvN]; rw [if_neg (fun e => h e.symm)]
    · intro l h; simp only [rfC, List.mem_singleton] at h; simp only [rnC, mvN]; rw [if_neg (fun e => h e.symm)]
    · intro f caps ih h
      show CV.fn f (rnCs (mvN r m) caps) = _
      rw [ih h]
    · intro _; rfl
    · intro x l ih1 ih2 h
      rw [show rfCs (x :: l) = rfC x ++ rfCs l from rfl, List.mem_append, not_or] at h
      show rnC (mvN r m) x :: rnCs (mvN r m) l = _
      rw [ih1 h.1, ih2 h.2]
  exact aux x hx

theorem rnCs_fix {l : List CV} (hx : r ∉ rfCs l) : rnCs (mvN r m) l = l := by
  induction l with
  | nil => rfl
  | cons x l ih =>
    rw [show rfCs (x :: l) = rfC x ++ rfCs l from rfl, List.mem_append, not_or] at hx
    show rnC (mvN r m) x :: rnCs (mvN r m) l = _
    rw [rnC_fix hx.1, ih hx.2]

theorem rnB_fix {k : Blk} (hx : r ∉ rfB k) : rnB (mvN r m) k = k := by
  cases k with
  | bx cs => show Blk.bx (rnCs (mvN r m) cs) = _; rw [rnCs_fix hx]
  | mi n v es => simp only [rfB, List.mem_singleton] at hx; simp only [rnB, mvN]; rw [if_neg (fun e => hx e.symm)]
  | _ => rfl

end

theorem refsC_of {n : Nat} : ∀ {x : CV}, (∀ l ∈ rfC x, l < n) → refsC n x = true := by
  intro x
  refine CV.rec (motive_1 := fun x => (∀ l ∈ rfC x, l < n) → refsC n x = true) (motive_2 := fun cs => (∀ l ∈ rfCs cs, l < n) → refsCs n cs = true) ?_ ?_ ?_ ?_ ?_ ?_ ?_ ?_ ?_ ?_ ?_ x
  · intro _; rfl
  · intro _ _; rfl
  · intro _ _ _ _; rfl
  · intro _ _; rfl
  · intro l v i j h; exact Nat.ble_eq_true_of_le (h l (by simp [rfC]))
  · intro l v i j h; exact Nat.ble_eq_true_of_le (h l (by simp [rfC]))
  · intro l h; exact Nat.ble_eq_true_of_le (h l (by simp [rfC]))
  · intro l h; exact Nat.ble_eq_true_of_le (h l (by simp [rfC]))
  · intro f caps ih h; exact ih h
  · intro _; rfl
  · intro x l ih1 ih2 h
    show (match refsC n x with | true => refsCs n l | false => false) = true
    rw [ih1 fun y hy => h y (List.mem_append_left _ hy)]
    exact ih2 fun y hy => h y (List.mem_append_right _ hy)

theorem refsCs_of {n : Nat} : ∀ {l : List CV}, (∀ x ∈ rfCs l, x < n) → refsCs n l = true := by
  intro l
  induction l with
  | nil => intro _; rfl
  | cons x l ih =>
    intro h
    show (match refsC n x with | true => refsCs n l | false => false) = true
    rw [refsC_of fun y hy => h y (List.mem_append_left _ hy)]
    exact ih fun y hy => h y (List.mem_append_right _ hy)

theorem refsH_of {n : Nat} : ∀ {h : Hp}, (∀ k ∈ h, ∀ x ∈ rfB k, x < n) → refsH n h = true := by
  intro h
  induction h with
  | nil => intro _; rfl
  | cons k h ih =>
    intro hx
    show (match refsB n k with | true => refsH n h | false => false) = true
    have hk : refsB n k = true := by
      have hk := hx k (by simp)
      cases k with
      | bx cs => exact refsCs_of hk
      | mi m v es => exact Nat.ble_eq_true_of_le (hk m (by simp [rfB]))
      | _ => rfl
    rw [hk]
    exact ih fun k hk => hx k (by simp [hk])

/-- a value without the new block reads alike where the block has another number -/
theorem VR.mv {G : Nat → Prop} {w : World} {ιc ι : Io} {hc h : Hp} {r m : Nat} (am : Among (mvN r m) ιc hc ι h) {v : Value} {x : AV} (hx : VR G w ι h v x) : r ∉ rfA x → (∀ l ∈ rfA x, l < hc.length) → VR G w ιc hc v x := by
  induction hx with
  | c v x h1 => intro hr hl; exact .c _ _ (h1.unrn am x (rnC_fix hr).symm (refsC_of hl))
  | agg cs l hn h1 =>
    intro hr hl
    refine .agg cs l hn fun i v x hv hx => ?_
    have hm := List.mem_of_getElem? hx
    exact (h1 i v x hv hx).unrn am x (rnC_fix fun h => hr (rfCs_mem.2 ⟨x, hm, h⟩)).symm (refsC_of fun y hy => hl y (rfCs_mem.2 ⟨x, hm, hy⟩))
  | tup cs l hn h1 ih =>
    intro hr hl
    refine .tup cs l hn fun i v x hv hx => ?_
    have hm := List.mem_of_getElem? hx
    exact ih i v x hv hx (fun h => hr (rfAs_mem.2 ⟨x, hm, h⟩)) fun y hy => hl y (rfAs_mem.2 ⟨x, hm, hy⟩)

end Go.Ab

/-
  The engine: regions that make memory, part b: a new block is put at the place that is kept for it.
-/
namespace Go.Ab

section
variable {P : Program} {N : Nat} {G0 : Nat → Prop} {ι0 : Io} {h0 : Hp} {w0 : World}

/-- nothing leads to a block -/
def Free (l : Nat) (e : Env) (h : Hp) : Prop := (∀ n, l ∉ rfA (e n)) ∧ ∀ (i : Nat) (k : Blk), h[i]? = some k → l ∉ rfB k

/-- the values of a new block -/
def AlF (f : Nat → AV) : Prop := (∃ m, f = fun n => .c (.arr n 0 0 m)) ∨ f = (fun n => .c (.ptr n 0 0 0)) ∨ f = fun n => .c (.mp n)

theorem AlF.rf {f : Nat → AV} (h : AlF f) (n : Nat) : rfA (f n) = [n] := by
  rcases h with ⟨m, rfl⟩ | rfl | rfl <;> rfl

theorem AlF.rn {f : Nat → AV} (h : AlF f) (r m : Nat) : rnA (mvN r m) (f r) = f m := by
  rcases h with ⟨k, rfl⟩ | rfl | rfl <;> simp [rnA, rnC, mvN]

theorem get_set_at {α : Type} {l : List α} {i : Nat} {a : α} (h : i < l.length) : (l.set i a)[i]? = some a := by simp [h]
theorem get_set_ne {α : Type} {l : List α} {i j : Nat} {a : α} (h : i ≠ j) : (l.set i a)[j]? = l[j]? := List.getElem?_set_ne h

theorem Kept.rnI {ι ι' ι2 : Io} {w w' : World} {l : Nat} {k k' : Blk} (hk : Kept ι ι' w w' l k k') (h : ι2[l]? = ι'[l]?) : Kept ι ι2 w w' l k k' := by
  cases k' <;> cases k <;> simp only [Kept, h] at hk ⊢ <;> exact hk

theorem Fits.move {e : Env} {h : Hp} {k : Blk} {a : Act} {w : World} {r : Nat} {dst : Option Nat} {f : Nat → AV} (hf : Fits N G0 ι0 h0 w0 (putE e dst (f h.length)) (h ++ [k]) a w) (hfree : Free r e h) (hlt : ∀ n, ∀ l ∈ rfA (e n), l < h.length) (hr0 : h0.length ≤ r) (hrl : r < h.length)
    (hk : r ∉ rfB k ∧ ∀ l ∈ rfB k, l < h.length) (hfo : AlF f) (hbl : ∀ (i : Nat) (k : Blk), h[i]? = some k → ∀ l ∈ rfB k, l < h.length) : Fits N G0 ι0 h0 w0 (putE e dst (f r)) (h.set r k) a w := by
  obtain ⟨G, ι, st⟩ := hf
  have hlen := st.rel.hr.len
  simp only [List.length_append, List.length_singleton] at hlen
  have hι : ∃ p, ι[h.length]? = some p := ⟨_, List.getElem?_eq_getElem (by omega)⟩
  obtain ⟨p, hp⟩ := hι
  let ιc := (ι.take h.length).set r p
  have hιl : ιc.length = h.length := by simp only [ιc, List.length_set, List.length_take]; omega
  have hιr : ιc[r]? = some p := by simp only [ιc]; exact get_set_at (by simp only [List.length_take]; omega)
  have hιo : ∀ i, i ≠ r → i < h.length → ιc[i]? = ι[i]? := fun i hi hl => by
    simp only [ιc]; rw [get_set_ne (fun e => hi e.symm), List.getElem?_take_of_lt hl]
  have am : Among (mvN r h.length) ιc (h.set r k) ι (h ++ [k]) := by
    refine ⟨fun i b hb => ?_, fun i b hb => ?_⟩
    · rcases get_set hb with ⟨rfl, rfl, _⟩ | ⟨hne, hb⟩
      · rw [rnB_fix hk.1]; simp [mvN]
      · rw [rnB_fix (hfree.2 i b hb)]
        simp only [mvN, if_neg hne]
        exact get_snoc_old hb
    · rcases get_set hb with ⟨rfl, rfl, _⟩ | ⟨hne, hb⟩
      · simp only [mvN, if_true]; rw [hp, hιr]
      · simp only [mvN, if_neg hne]; rw [hιo i hne (get_lt hb)]
  have hcl : refsH (h.set r k).length (h.set r k) = true := refsH_of fun b hb l hl => by
    rw [List.length_set]
    obtain ⟨i, hi⟩ := List.mem_iff_getElem?.1 hb
    rcases get_set hi with ⟨rfl, rfl, _⟩ | ⟨hne, hb⟩
    · exact hk.2 l hl
    · exact hbl i b hb l hl
  have hinj : ∀ i j, i < (h.set r k).length → j < (h.set r k).length → mvN r h.length i = mvN r h.length j → i = j := by
    intro i j hi hj hij
    rw [List.length_set] at hi hj
    simp only [mvN] at hij
    split at hij <;> split at hij <;> omega
  have hr := HR.down am st.rel.hr (by rw [hιl, List.length_set]) hinj hcl
  refine ⟨G, ιc, ⟨{ hr := hr, dfr := st.rel.dfr, size := st.rel.size, env := fun n => ?_ }, ?_⟩⟩
  · have hv : VR G w ι (h ++ [k]) (a.tmps.getD n undef) (putE e dst (f h.length) n) := st.rel.env n
    show VR G w ιc (h.set r k) (a.tmps.getD n undef) (putE e dst (f r) n)
    have other : (∀ d, dst = some d → d ≠ n) → VR G w ιc (h.set r k) (a.tmps.getD n undef) (putE e dst (f r) n) := fun hn => by
      have e1 : ∀ v, putE e dst v n = e n := fun v => putE_other fun hd => hn n hd rfl
      rw [e1] at hv ⊢
      exact hv.mv am (hfree.1 n) (by rw [List.length_set]; exact hlt n)
    cases hd : dst with
    | none => rw [← hd]; exact other (by rw [hd]; simp)
    | some d =>
      by_cases hdn : d = n
      · subst hdn
        rw [hd] at hv
        simp only [putE, upd, if_true] at hv ⊢
        rw [← hfo.rn r h.length] at hv
        refine hv.unrn am ?_
        rw [List.length_set]
        rcases hfo with ⟨q, rfl⟩ | rfl | rfl <;> exact Nat.ble_eq_true_of_le hrl
      · rw [← hd]; exact other fun d' hd' => by rw [hd] at hd'; cases hd'; exact hdn
  · have ex := st.ext
    exact { size := ex.size, quiet := ex.quiet, frame := ex.frame, gmono := ex.gmono, gnew := ex.gnew,
            onew := fun b hb => ex.onew b (owned_up am hb),
            keep := fun l k0 hk0 => by
              obtain ⟨k', h1, h2⟩ := ex.keep l k0 hk0
              have hl0 := get_lt hk0
              have hlr : l ≠ r := by omega
              have hlh : l < h.length := by omega
              rw [List.getElem?_append_left hlh] at h1
              refine ⟨k', by rw [get_set_ne (fun e => hlr e.symm)]; exact h1, ?_⟩
              exact h2.rnI (hιo l hlr hlh) }

end
end Go.Ab

/-
  The engine: regions that make memory, part c: what each operation does is fixed ahead; operations that do not touch the same blocks change places.
-/
namespace Go.Ab

/-- what an operation does to the heap: nothing, a block gets other contents, a new block at its place -/
inductive Wt where
  | no
  | up (l : Nat) (k : Blk)
  | al (l : Nat) (k : Blk)

def Wt.tgt : Wt → Option Nat
  | .no => none
  | .up l _ => some l
  | .al l _ => some l
def Wt.rf : Wt → List Nat
  | .no => []
  | .up _ k => rfB k
  | .al _ k => rfB k
def Wt.ap (h : Hp) : Wt → Hp
  | .no => h
  | .up l k => h.set l k
  | .al l k => h.set l k

theorem ap_len {h : Hp} {t : Wt} : (t.ap h).length = h.length := by cases t <;> simp [Wt.ap]
theorem ap_get {h : Hp} {t : Wt} {l : Nat} (hl : t.tgt ≠ some l) : (t.ap h)[l]? = h[l]? := by
  cases t with
  | no => rfl
  | up n k => exact get_set_ne fun e => hl (by rw [e]; rfl)
  | al n k => exact get_set_ne fun e => hl (by rw [e]; rfl)
theorem ap_some {h : Hp} {t : Wt} {i : Nat} {k : Blk} (hk : (t.ap h)[i]? = some k) : h[i]? = some k ∨ rfB k = t.rf := by
  cases t with
  | no => exact .inl hk
  | up n b => rcases get_set hk with ⟨rfl, rfl, _⟩ | ⟨_, hk⟩; exact .inr rfl; exact .inl hk
  | al n b => rcases get_set hk with ⟨rfl, rfl, _⟩ | ⟨_, hk⟩; exact .inr rfl; exact .inl hk
theorem ap_comm {h : Hp} {s t : Wt} (hst : ∀ l, s.tgt = some l → t.tgt ≠ some l) : t.ap (s.ap h) = s.ap (t.ap h) := by
  have key : ∀ (l n : Nat) (k b : Blk), l ≠ n → (h.set l k).set n b = (h.set n b).set l k := fun l n k b hne => List.set_comm _ _ hne
  cases s with
  | no => rfl
  | up l k =>
    cases t with
    | no => rfl
    | up n b => exact key l n k b fun e => hst l rfl (by rw [e]; rfl)
    | al n b => exact key l n k b fun e => hst l rfl (by rw [e]; rfl)
  | al l k =>
    cases t with
    | no => rfl
    | up n b => exact key l n k b fun e => hst l rfl (by rw [e]; rfl)
    | al n b => exact key l n k b fun e => hst l rfl (by rw [e]; rfl)

def Yld (P : Program) (o : AO) (e : Env) (h : Hp) (v : AV) (t : Wt) : Prop :=
  (gv e o.g = some false ∧ v = .tup [] ∧ t = .no) ∨ (gv e o.g = some true ∧ match t with
    | .no => astep e h o.op = some (v, h) ∨ ∃ f xs, o.op = .call f xs ∧ PureR P h f (evs e xs) v
    | .up l k => astep e h o.op = some (v, h.set l k)
    | .al l k => ∃ f, AlF f ∧ v = f l ∧ astep e h o.op = some (f h.length, h ++ [k]))

/-- the same wherever the slots that it looks at and the blocks T are the same -/
def Ef (P : Program) (o : AO) (e : Env) (h : Hp) (v : AV) (t : Wt) (T : List Nat) : Prop :=
  ∀ (e' : Env) (h' : Hp), (∀ n ∈ slotsOf o, e' n = e n) → (∀ l ∈ T, h'[l]? = h[l]?) → Yld P o e' h' v t

structure Tr where
  (v : AV) (t : Wt) (T : List Nat)

def Disj (a b : Tr) : Prop := (∀ l, a.t.tgt = some l → l ∉ b.T ∧ b.t.tgt ≠ some l) ∧ ∀ l, b.t.tgt = some l → l ∉ a.T

def S3 (P : Program) (o : AO) (q : Tr) (e : Env) (h : Hp) (e' : Env) (h' : Hp) : Prop :=
  Ef P o e h q.v q.t q.T ∧ e' = putE e o.dst q.v ∧ h' = q.t.ap h ∧ ∀ l k, q.t = .al l k → h[l]? = some .dead

def slotOk (a b : AO) : Bool :=
  (match a.dst with
  | some d => !(slotsOf b).contains d && b.dst != some d
  | none => true) &&
  (match b.dst with
  | some d => !(slotsOf a).contains d
  | none => true)

theorem slotOk_spec {a b : AO} (h : slotOk a b = true) : (∀ d, a.dst = some d → d ∉ slotsOf b ∧ b.dst ≠ some d) ∧ (∀ d, b.dst = some d → d ∉ slotsOf a) := by
  simp only [slotOk, Bool.and_eq_true] at h
  obtain ⟨h1, h2⟩ := h
  refine ⟨fun d hd => ?_, fun d hd => ?_⟩
  · rw [hd] at h1
    simp only [Bool.and_eq_true, Bool.not_eq_true', bne_iff_ne] at h1
    exact ⟨by simpa using h1.1, h1.2⟩
  · rw [hd] at h2
    simpa using h2

theorem commute3 {P : Program} {a b : AO} {qa qb : Tr} {e e1 e2 : Env} {h h1 h2 : Hp} (ha : S3 P a qa e h e1 h1) (hb : S3 P b qb e1 h1 e2 h2) (hc : slotOk a b = true) (hd : Disj qa qb) :
    ∃ e1' h1', S3 P b qb e h e1' h1' ∧ S3 P a qa e1' h1' e2 h2 := by
  obtain ⟨c1, c2⟩ := slotOk_spec hc
  obtain ⟨ea, rfl, rfl, da⟩ := ha
  obtain ⟨eb, rfl, rfl, db⟩ := hb
  obtain ⟨d1, d2⟩ := hd
  have hab : ∀ l, qb.t.tgt = some l → qa.t.tgt ≠ some l := fun l hl h => (d1 l h).2 hl
  refine ⟨_, _, ⟨fun e' h' hs hh => ?_, rfl, rfl, fun l k hq => ?_⟩, ⟨fun e' h' hs hh => ?_, ?_, ?_, fun l k hq => ?_⟩⟩
  · refine eb e' h' (fun n hn => ?_) fun l hl => ?_
    · rw [hs n hn, putE_other fun hd => (c1 n hd).1 hn]
    · rw [hh l hl, ap_get fun ht => (d1 l ht).1 hl]
  · rw [← ap_get (t := qa.t) (hab l (by rw [hq]; rfl))]; exact db l k hq
  · refine ea e' h' (fun n hn => ?_) fun l hl => ?_
    · rw [hs n hn, putE_other fun hd => c2 n hd hn]
    · rw [hh l hl, ap_get fun ht => d2 l ht hl]
  · exact putE_comm fun d hd => (c1 d hd).2
  · exact ap_comm fun l hl => (d1 l hl).2
  · rw [ap_get (t := qb.t) fun ht => hab l ht (by rw [hq]; rfl)]; exact da l k hq

def RunT (P : Program) (aops : List AO) (tr : Nat → Tr) : List Nat → Env → Hp → Env → Hp → Prop
  | [], e, h, e', h' => e' = e ∧ h' = h
  | i :: r, e, h, e', h' => ∃ o e1 h1, aops[i]? = some o ∧ S3 P o (tr i) e h e1 h1 ∧ RunT P aops tr r e1 h1 e' h'

theorem front3 {P : Program} {aops : List AO} {tr : Nat → Tr} : ∀ (l1 : List Nat) (i : Nat) (l2 : List Nat) (e : Env) (h : Hp) (e' : Env) (h' : Hp),
    (∀ j ∈ l1, (∀ x y, aops[j]? = some x → aops[i]? = some y → slotOk x y = true) ∧ Disj (tr j) (tr i)) → RunT P aops tr (l1 ++ i :: l2) e h e' h' →
    ∃ o e1 h1, aops[i]? = some o ∧ S3 P o (tr i) e h e1 h1 ∧ RunT P aops tr (l1 ++ l2) e1 h1 e' h' := by
  intro l1
  induction l1 with
  | nil => intro i l2 e h e' h' _ hr; exact hr
  | cons j l1 ih =>
    intro i l2 e h e' h' hc hr
    obtain ⟨x, e1, h1, hx, hstep, hrest⟩ := hr
    obtain ⟨o, e2, h2, ho, hs2, hr2⟩ := ih i l2 e1 h1 e' h' (fun k hk => hc k (by simp [hk])) hrest
    obtain ⟨g1, g2⟩ := hc j (by simp)
    obtain ⟨e1', h1', k1, k2⟩ := commute3 hstep hs2 (g1 x o hx ho) g2
    exact ⟨o, e1', h1', ho, k1, x, e2, h2, hx, k2, hr2⟩

section
variable {P : Program} {N : Nat} {G0 : Nat → Prop} {ι0 : Io} {h0 : Hp} {w0 : World}

/-- a place is kept -/
theorem Fits.dead {e : Env} {h : Hp} {a : Act} {w : World} (hf : Fits N G0 ι0 h0 w0 e h a w) : Fits N G0 ι0 h0 w0 e (h ++ [.dead]) a w := by
  obtain ⟨G, ι, st⟩ := hf
  have hr := st.rel.hr
  have hown : ∀ b, owned (ι ++ [(0, 0)]) (h ++ [Blk.dead]) b → owned ι h b := by
    rintro b ⟨l, o, blk, h1, h2, h3⟩
    rcases get_snoc h2 with g2 | ⟨_, g2⟩
    · rcases get_snoc h1 with g1 | ⟨g1, _⟩
      · exact ⟨l, o, blk, g1, g2, h3⟩
      · have := get_lt g2; rw [hr.len] at g1; omega
    · subst g2; cases h3
  have hι : ∀ l, l < h.length → (ι ++ [(0, 0)])[l]? = ι[l]? := fun l hl => List.getElem?_append_left (by rw [hr.len]; exact hl)
  have ex : Ext G ι h w G (ι ++ [(0, 0)]) (h ++ [.dead]) w :=
    { size := Nat.le_refl _, quiet := ⟨rfl, rfl⟩, frame := fun _ _ _ => rfl, gmono := fun _ h => h, gnew := fun _ h => .inl h, onew := fun b hb => .inl (hown b hb),
      keep := fun l k hk => ⟨k, get_snoc_old hk, (Kept.refl ι w l k).rnI (hι l (get_lt hk))⟩ }
  refine ⟨G, ι ++ [(0, 0)], ⟨{ hr := ?_, dfr := st.rel.dfr, size := st.rel.size, env := fun i => (st.rel.env i).ext ex hr }, st.ext.trans ex⟩⟩
  refine { len := by simp [hr.len], inj := ?_, g := fun b hb => ⟨(hr.g b hb).1, fun ho => (hr.g b hb).2 (hown b ho)⟩, blk := ?_ }
  · intro l l' b o o' k k' h1 h2 h3 h4 h5 h6
    rcases get_snoc h3 with g3 | ⟨_, rfl⟩
    · rcases get_snoc h4 with g4 | ⟨_, rfl⟩
      · rw [hι l (get_lt g3)] at h1
        rw [hι l' (get_lt g4)] at h2
        exact hr.inj l l' b o o' k k' h1 h2 g3 g4 h5 h6
      · cases h6
    · cases h5
  · intro l k hk
    rcases get_snoc hk with g | ⟨_, rfl⟩
    · exact BR.ext ex hr g (hι l (get_lt g)) fun _ _ _ => rfl
    · trivial

theorem Fits.deads {e : Env} {h : Hp} {a : Act} {w : World} (hf : Fits N G0 ι0 h0 w0 e h a w) : ∀ m, Fits N G0 ι0 h0 w0 e (h ++ List.replicate m .dead) a w := by
  intro m
  induction m with
  | zero => simpa using hf
  | succ m ih =>
    have := ih.dead
    rw [List.append_assoc, ← List.replicate_succ'] at this
    exact this

/-- what is asked of a new block's place -/
def Kept3 (l : Nat) (k : Blk) (e : Env) (h : Hp) (n0 : Nat) : Prop := Free l e h ∧ n0 ≤ l ∧ l ∉ rfB k ∧ ∀ x ∈ rfB k, x < h.length

theorem s3_sound {ops : Array Oper} {o : Oper} {ao : AO} {q : Tr} {e e' : Env} {h h' : Hp} {a : Act} {w : World} {K : Act → World → Prop} {Q : Exit → Act → World → Prop} (hc : compO P ops N o = some ao)
    (hgN : ∀ s q, ao.g = some (s, q) → s < N) (hs : S3 P ao q e h e' h') (hal : ∀ l k, q.t = .al l k → Kept3 l k e h h0.length) (hf : Fits N G0 ι0 h0 w0 e h a w) (hK : ∀ a' w', Fits N G0 ι0 h0 w0 e' h' a' w' → K a' w') :
    if Region.wanted o (yielded ops a.tmps) then o.wp P a w K Q ∨ (o.asks P a w ∧ LetsOut Q) else K (a.put o.dst undef) w := by
  obtain ⟨v, t, T⟩ := q
  obtain ⟨hef, rfl, rfl, hdead⟩ := hs
  have hy := hef e h (fun _ _ => rfl) fun _ _ => rfl
  simp only at hy hal hdead hK
  have nat : ∀ e1 h1, StepR P ao e h e1 h1 → (∀ a' w', Fits N G0 ι0 h0 w0 e1 h1 a' w' → K a' w') → if Region.wanted o (yielded ops a.tmps) then o.wp P a w K Q ∨ (o.asks P a w ∧ LetsOut Q) else K (a.put o.dst undef) w :=
    fun e1 h1 h2 h3 => step_sound hc hgN h2 hf h3
  rcases hy with ⟨hg, rfl, rfl⟩ | ⟨hg, hy⟩
  · exact nat _ _ (by unfold StepR; rw [hg]; exact ⟨rfl, rfl⟩) hK
  · cases t with
    | no =>
      refine nat _ _ ?_ hK
      unfold StepR; rw [hg]
      rcases hy with hy | ⟨f, xs, h1, h2⟩
      · exact .inl ⟨v, hy, rfl⟩
      · exact .inr ⟨f, xs, v, h1, h2, rfl, rfl⟩
    | up l k =>
      refine nat _ _ ?_ hK
      unfold StepR; rw [hg]
      exact .inl ⟨v, hy, rfl⟩
    | al l k =>
      obtain ⟨f, hfo, rfl, hy⟩ := hy
      obtain ⟨k1, k2, k3, k4⟩ := hal l k rfl
      have hd := hdead l k rfl
      have hff := hf
      obtain ⟨G, ι, st⟩ := hff
      refine nat (putE e ao.dst (f h.length)) (h ++ [k]) (by unfold StepR; rw [hg]; exact .inl ⟨_, hy, rfl⟩) fun a' w' hf' => hK a' w' ?_
      exact hf'.move k1 (fun n => (st.rel.env n).lt) k2 (get_lt hd) ⟨k3, k4⟩ hfo fun i b hb => (st.rel.hr.blk i b hb).lt

end
end Go.Ab

/-
  The engine: regions that make memory, part d: every order comes to the same.
-/
namespace Go.Ab

section
variable {P : Program} {N : Nat} {G0 : Nat → Prop} {ι0 : Io} {h0 : Hp} {w0 : World}

def bitM (ops : Array Oper) (i j : Nat) : Bool := ((masks ops.toList []).getD i 0).testBit j

/-- what the operations of a part touch fits together -/
structure TC (ops : Array Oper) (tr : Nat → Tr) (cur : List Nat) : Prop where
  dis : ∀ i ∈ cur, ∀ j ∈ cur, j < i → bitM ops i j = false → Disj (tr j) (tr i)
  new : ∀ i ∈ cur, ∀ j ∈ cur, j ≠ i → bitM ops i j = false → ∀ l k, (tr j).t = .al l k → l ∉ rfA (tr i).v ∧ l ∉ (tr i).t.rf

def Inv3 (n0 : Nat) (tr : Nat → Tr) (cur : List Nat) (e : Env) (h : Hp) : Prop := ∀ i ∈ cur, ∀ l k, (tr i).t = .al l k → Kept3 l k e h n0

def drawOk2 (os : List Oper) (aos : List AO) : Bool :=
  let ms := masks os []
  (List.range os.length).all fun i =>
    (match os[i]? with
    | some o => (direct o).all fun j => decide (j < i)
    | none => true) &&
    (List.range i).all fun j => (ms.getD i 0).testBit j || (match aos[j]?, aos[i]? with
      | some x, some y => slotOk x y
      | _, _ => false)

/-- a part of a region is run -/
def Seg3 (P : Program) (n0 : Nat) (ops : Array Oper) (aops : List AO) (cur : List Nat) (e : Env) (h : Hp) (C : Env → Hp → Prop) : Prop :=
  ∃ m tr e' h', RunT P aops tr cur e (h ++ List.replicate m .dead) e' h' ∧ TC ops tr cur ∧ Inv3 n0 tr cur e (h ++ List.replicate m .dead) ∧ C e' h'

def PlanK3 (P : Program) (N : Nat) (G0 : Nat → Prop) (ι0 : Io) (h0 : Hp) (w0 : World) (ops : Array Oper) (aops : List AO) (Q : Exit → Act → World → Prop) : List (Nat × List Nat) → Env → Hp → Prop
  | [], e, h => ∀ a w, Fits N G0 ι0 h0 w0 e h a w → Q .normal a w
  | (b, is) :: r, e, h => Bar ops b ∧ ∀ (a : Act) (w : World) (K : Act → World → Prop), Fits N G0 ι0 h0 w0 e h a w →
      (∀ e2 h2 a' w', Fits N G0 ι0 h0 w0 e2 h2 a' w' → Seg3 P h0.length ops aops is e2 h2 (PlanK3 P N G0 ι0 h0 w0 ops aops Q r) → K a' w') → wpOp P ops Q b K a w

theorem any3 {ops : Array Oper} {aops : List AO} {Q : Exit → Act → World → Prop} (hcomp : compOs P ops N ops.toList = some aops) (hg : aops.all (gOk N) = true)
    (hd : drawOk2 ops.toList aops = true) : ∀ (fuel : Nat) (listed : Array Bool) (cur : List Nat) (bs : List (Nat × List Nat)) (tr : Nat → Tr) (e : Env) (h : Hp) (e1 : Env) (h1 : Hp) (a : Act) (w : World),
    Rem ops listed (cur ++ flatP bs) → (cur ++ flatP bs).length ≤ fuel → Closed ops listed → Fits N G0 ι0 h0 w0 e h a w → RunT P aops tr cur e h e1 h1 → TC ops tr cur → Inv3 h0.length tr cur e h → PlanK3 P N G0 ι0 h0 w0 ops aops Q bs e1 h1 → wpAny P .any ops Q fuel listed a w := by
  have hd' : ∀ i o, ops.toList[i]? = some o → (∀ j ∈ direct o, j < i) ∧ ∀ j, j < i → bitM ops i j = true ∨ ∃ x y, aops[j]? = some x ∧ aops[i]? = some y ∧ slotOk x y = true := by
    intro i o ho
    simp only [drawOk2, List.all_eq_true, List.mem_range, Bool.and_eq_true, Bool.or_eq_true] at hd
    obtain ⟨h1, h2⟩ := hd i (get_lt ho)
    rw [ho] at h1
    simp only [List.all_eq_true, decide_eq_true_eq] at h1
    refine ⟨h1, fun j hj => ?_⟩
    rcases h2 j hj with h3 | h3
    · exact .inl h3
    · right
      split at h3
      · rename_i x y hx hy; exact ⟨x, y, hx, hy, h3⟩
      · cases h3
  have hd1 : ∀ i o, ops.toList[i]? = some o → ∀ j ∈ direct o, j < i := fun i o ho => (hd' i o ho).1
  have hempty : ∀ listed rem, Rem ops listed rem → Closed ops listed → Region.ready .any ops listed = [] → rem = [] := by
    intro listed rem hr _ hready
    cases rem with
    | nil => rfl
    | cons i rem =>
      exfalso
      have hi := (hr.mem i).1 (by simp)
      have ho : ops.toList[i]? = some (ops.toList[i]'(by simpa using hi.1)) := List.getElem?_eq_getElem _
      have : i ∈ Region.ready .any ops listed := by
        rw [ready_mem]
        refine ⟨hi.1, hi.2, _, ho, fun m hm => ?_⟩
        have hmi := (hd' i _ ho).1 m hm
        have hnot : m ∉ i :: rem := by
          intro hmem
          simp only [List.mem_cons] at hmem
          rcases hmem with h | h
          · omega
          · have := (List.pairwise_cons.1 hr.sorted).1 m h; omega
        have hms : m < ops.size := by omega
        have : ¬ (listed.getD m true = false) := fun hf => hnot ((hr.mem m).2 ⟨hms, hf⟩)
        simp only [Array.getD_eq_getD_getElem?, Array.getElem?_eq_getElem (show m < listed.size by rw [hr.size]; exact hms), Option.getD_some] at this ⊢
        simpa using this
      rw [hready] at this
      cases this
  have hnil : ∀ cur (bs : List (Nat × List Nat)), cur ++ flatP bs = [] → cur = [] ∧ bs = [] := by
    intro cur bs h
    obtain ⟨h1, h2⟩ := List.append_eq_nil_iff.1 h
    refine ⟨h1, ?_⟩
    cases bs with
    | nil => rfl
    | cons x r => simp [flatP] at h2
  have hdone : ∀ listed rem i o j, Rem ops listed rem → Closed ops listed → ops.toList[i]? = some o → (∀ m ∈ direct o, listed.getD m false = true) → ((masks ops.toList []).getD i 0).testBit j = true → j ∈ rem → False := by
    intro listed rem i o j hr hc ho hdir hb hj
    have := before_listed hr.size hc i o j ho hdir hb
    have hj' := (hr.mem j).1 hj
    simp only [Array.getD_eq_getD_getElem?, Array.getElem?_eq_getElem (show j < listed.size by rw [hr.size]; exact hj'.1), Option.getD_some] at this hj'
    rw [this] at hj'; simp at hj'
  intro fuel
  induction fuel with
  | zero =>
    intro listed cur bs tr e h e1 h1 a w hr hl hc hf hrun htc hinv hpl
    obtain ⟨rfl, rfl⟩ := hnil cur bs (List.eq_nil_of_length_eq_zero (by omega))
    obtain ⟨rfl, rfl⟩ := hrun
    refine ⟨?_, hpl a w hf⟩
    apply List.eq_nil_iff_forall_not_mem.2
    intro i hi
    rw [ready_mem] at hi
    have := (hr.mem i).2 ⟨hi.1, hi.2.1⟩
    cases this
  | succ fuel ih =>
    intro listed cur bs tr e h e' h' a w hr hl hc hf hrun htc hinv hpl
    refine ⟨fun hready => ?_, fun i hi => ?_⟩
    · obtain ⟨rfl, rfl⟩ := hnil _ _ (hempty listed _ hr hc hready)
      obtain ⟨rfl, rfl⟩ := hrun
      exact hpl a w hf
    · rw [ready_mem] at hi
      obtain ⟨hin, hil, o, ho, hdir⟩ := hi
      have himem := (hr.mem i).2 ⟨hin, hil⟩
      rcases List.mem_append.1 himem with hicur | hibs
      · obtain ⟨l1, l2, hrem⟩ := List.append_of_mem hicur
        subst hrem
        have hpair := hr.sorted
        rw [List.append_assoc, List.cons_append] at hr hpair
        rw [List.pairwise_append] at hpair
        have hl1 : ∀ j ∈ l1, j < i := fun j hj => hpair.2.2 j hj i (by simp)
        have hl2 : ∀ j ∈ l2, i < j := fun j hj => (List.pairwise_cons.1 hpair.2.1).1 j (by simp [hj])
        have hnb : ∀ j ∈ l1 ++ l2, bitM ops i j = false := fun j hj => by
          cases hb : bitM ops i j with
          | false => rfl
          | true => exact (hdone listed _ i o j hr hc ho hdir hb (by rcases List.mem_append.1 hj with h | h <;> simp [h])).elim
        have hcompat : ∀ j ∈ l1, (∀ x y, aops[j]? = some x → aops[i]? = some y → slotOk x y = true) ∧ Disj (tr j) (tr i) := by
          intro j hj
          refine ⟨fun x y hx hy => ?_, htc.dis i (by simp) j (by simp [hj]) (hl1 j hj) (hnb j (by simp [hj]))⟩
          rcases (hd' i o ho).2 j (hl1 j hj) with hb | ⟨x', y', hx', hy', hcc⟩
          · rw [hnb j (by simp [hj])] at hb; cases hb
          · rw [hx] at hx'; rw [hy] at hy'; cases hx'; cases hy'; exact hcc
        obtain ⟨ao, e1, h1, hao, hstep, hrest⟩ := front3 l1 i l2 e h e' h' hcompat hrun
        have hco := (compOs_get hcomp).2 i o ao ho hao
        have hgo := gOk_spec (N := N) (by rw [List.all_eq_true] at hg; exact hg ao (List.mem_of_getElem? hao))
        have hoi : ops[i]? = some o := by simpa using ho
        obtain ⟨hr2, hc2⟩ := rem_step hr hc hin ho hdir hd1
        have hsub : ∀ j ∈ l1 ++ l2, j ∈ l1 ++ i :: l2 := fun j hj => by
          rcases List.mem_append.1 hj with h | h <;> simp [h]
        have hne : ∀ j ∈ l1 ++ l2, j ≠ i := fun j hj e => by
          rcases List.mem_append.1 hj with h | h
          · have := hl1 j h; omega
          · have := hl2 j h; omega
        have htc2 : TC ops tr (l1 ++ l2) := ⟨fun x hx y hy => htc.dis x (hsub x hx) y (hsub y hy), fun x hx y hy => htc.new x (hsub x hx) y (hsub y hy)⟩
        have hinv2 : Inv3 h0.length tr (l1 ++ l2) e1 h1 := by
          intro j hj l k hq
          obtain ⟨⟨f1, f2⟩, k2, k3, k4⟩ := hinv j (hsub j hj) l k hq
          obtain ⟨n1, n2⟩ := htc.new i (by simp) j (hsub j hj) (hne j hj) (hnb j hj) l k hq
          obtain ⟨_, rfl, rfl, _⟩ := hstep
          refine ⟨⟨fun n => ?_, fun x kb hx => ?_⟩, k2, k3, by rw [ap_len]; exact k4⟩
          · cases hdst : ao.dst with
            | none => exact f1 n
            | some d =>
              simp only [putE, upd]
              split
              · exact n1
              · exact f1 n
          · rcases ap_some hx with hx | hx
            · exact f2 x kb hx
            · rw [hx]; exact n2
        unfold wpOp
        simp only [hoi]
        exact s3_sound hco hgo hstep (fun l k hq => hinv i (by simp) l k hq) hf fun a' w' hf' => ih (listed.setIfInBounds i true) (l1 ++ l2) bs tr e1 h1 e' h' a' w' (by rw [List.append_assoc]; exact hr2) (by simp at hl ⊢; omega) hc2 hf' hrest htc2 hinv2 hpl
      · cases bs with
        | nil => cases hibs
        | cons q r =>
          obtain ⟨b, is⟩ := q
          simp only [flatP, List.mem_cons] at hibs
          obtain ⟨hbar, hpl⟩ := hpl
          have hpair := hr.sorted
          rw [List.pairwise_append] at hpair
          have hib : i = b := by
            rcases hibs with h | h
            · exact h
            · exfalso
              have hbi : b < i := (List.pairwise_cons.1 hpair.2.1).1 i (by simpa using h)
              exact hdone listed _ i o b hr hc ho hdir (hbar.2 i hbi hin) (by simp [flatP])
          subst hib
          have hcur : cur = [] := by
            cases cur with
            | nil => rfl
            | cons j cur =>
              exfalso
              have hji : j < i := hpair.2.2 j (by simp) i (by simp [flatP])
              exact hdone listed _ i o j hr hc ho hdir (hbar.1 j hji) (by simp)
          subst hcur
          obtain ⟨rfl, rfl⟩ := hrun
          obtain ⟨hr2, hc2⟩ := rem_step (l1 := []) (by simpa [flatP] using hr) hc hin ho hdir hd1
          refine hpl a w _ hf fun e2 h2 a' w' hf2 hseg => ?_
          obtain ⟨m, tr2, e3, h3, q1, q2, q3, q4⟩ := hseg
          exact ih (listed.setIfInBounds i true) is r tr2 e2 _ e3 h3 a' w' hr2 (by simp [flatP] at hl ⊢; omega) hc2 (hf2.deads m) q1 q2 q3 q4

/-- A REGION WHOSE ORDER IS DRAWN, and which makes memory. -/
theorem region3 {id : Nat} {ops : Array Oper} {aops : List AO} {Q : Exit → Act → World → Prop} {e : Env} {h : Hp} {a : Act} {w : World} {cur : List Nat} {bs : List (Nat × List Nat)} (hm : P.follows .mixedOrders = true)
    (hcomp : compOs P ops N ops.toList = some aops) (hg : aops.all (gOk N) = true) (hd : drawOk2 ops.toList aops = true) (hf : Fits N G0 ι0 h0 w0 e h a w)
    (hall : cur ++ flatP bs = List.range ops.size) (hseg : Seg3 P h0.length ops aops cur e h (PlanK3 P N G0 ι0 h0 w0 ops aops Q bs)) : (Code.region id ops true).wp P Q a w := by
  obtain ⟨m, tr, e', h', q1, q2, q3, q4⟩ := hseg
  refine wp_region_any hm (any3 hcomp hg hd ops.size (Array.replicate ops.size false) cur bs tr e _ e' h' a _ ?_ (by simp [hall]) ?_ ((hf.deads m).same_heap rfl) q1 q2 q3 q4)
  · rw [hall]
    refine ⟨by simp, fun i => ?_, List.pairwise_lt_range⟩
    simp only [List.mem_range, Array.getD_eq_getD_getElem?, Array.getElem?_replicate]
    constructor
    · intro hi; exact ⟨hi, by simp [hi]⟩
    · exact fun hi => hi.1
  · intro i o ho hl
    have hi : i < ops.size := by simpa using get_lt ho
    simp [Array.getD_eq_getD_getElem?, hi] at hl

end
end Go.Ab

/-
  The engine: regions that make memory, part e: what makes a new block does so alike in every heap that agrees on what it looks at.
-/
namespace Go.Ab

def deadN : Hp → Nat
  | [] => 0
  | .dead :: r => deadN r + 1
  | _ :: r => deadN r

theorem deadN_set : ∀ {h : Hp} {l : Nat} {r : Bool} {v sz : Nat} {es : List (List D)}, h[l]? = some (.da r v sz es) → deadN h < deadN (h.set l .dead)
  | [], _, _, _, _, _, hl => by simp at hl
  | k :: h, 0, r, v, sz, es, hl => by
    simp only [List.getElem?_cons_zero, Option.some.injEq] at hl
    subst hl
    simp [deadN]
  | k :: h, l + 1, r, v, sz, es, hl => by
    simp only [List.getElem?_cons_succ] at hl
    have := deadN_set hl
    cases k <;> simp only [List.set_cons_succ, deadN] <;> omega

theorem frz_alike {h h1 : Hp} {x : CV} {d : D} (hx : frz h x = some (d, h1)) : (h1 = h ∧ ∀ h2, frz h2 x = some (d, h2)) ∨ deadN h < deadN h1 := by
  cases x with
  | d y => simp only [frz, Option.some.injEq, Prod.mk.injEq] at hx; obtain ⟨rfl, rfl⟩ := hx; exact .inl ⟨rfl, fun _ => rfl⟩
  | cl nl sz l => simp only [frz, Option.some.injEq, Prod.mk.injEq] at hx; obtain ⟨rfl, rfl⟩ := hx; exact .inl ⟨rfl, fun _ => rfl⟩
  | arr l v i n =>
    simp only [frz] at hx
    split at hx
    · rename_i hl
      split at hx
      · cases hx; exact .inr (deadN_set hl)
      · cases hx
    · cases hx
  | _ => simp [frz] at hx

theorem frzs_alike : ∀ {cs : List CV} {h h1 : Hp} {ds : List D}, frzs h cs = some (ds, h1) → (h1 = h ∧ ∀ h2, frzs h2 cs = some (ds, h2)) ∨ deadN h < deadN h1
  | [], h, h1, ds, hx => by simp only [frzs, Option.some.injEq, Prod.mk.injEq] at hx; obtain ⟨rfl, rfl⟩ := hx; exact .inl ⟨rfl, fun _ => rfl⟩
  | x :: r, h, h1, ds, hx => by
    simp only [frzs] at hx
    split at hx
    · rename_i d ha h1' 
      split at hx
      · rename_i ds2 hb h2'
        cases hx
        rcases frz_alike h1' with ⟨rfl, g1⟩ | g1
        · rcases frzs_alike h2' with ⟨rfl, g2⟩ | g2
          · exact .inl ⟨rfl, fun h2 => by simp only [frzs, g1 h2, g2 h2]⟩
          · exact .inr g2
        · rcases frzs_alike h2' with ⟨rfl, g2⟩ | g2
          · exact .inr g1
          · exact .inr (Nat.lt_trans g1 g2)
      · cases hx
    · cases hx

theorem elemsOf_alike {e : Env} : ∀ {ps : List (Nat × X)} {h h1 : Hp} {as : List (Nat × List D)}, elemsOf h e ps = some (as, h1) → (h1 = h ∧ ∀ h2, elemsOf h2 e ps = some (as, h2)) ∨ deadN h < deadN h1
  | [], h, h1, as, hx => by simp only [elemsOf, Option.some.injEq, Prod.mk.injEq] at hx; obtain ⟨rfl, rfl⟩ := hx; exact .inl ⟨rfl, fun _ => rfl⟩
  | (i, x) :: r, h, h1, as, hx => by
    simp only [elemsOf] at hx
    split at hx
    · rename_i cs hcs
      split at hx
      · rename_i ds ha g1'
        split at hx
        · rename_i as2 hb g2'
          cases hx
          rcases frzs_alike g1' with ⟨rfl, g1⟩ | g1
          · rcases elemsOf_alike g2' with ⟨rfl, g2⟩ | g2
            · exact .inl ⟨rfl, fun h2 => by simp only [elemsOf, hcs, g1 h2, g2 h2]⟩
            · exact .inr g2
          · rcases elemsOf_alike g2' with ⟨rfl, g2⟩ | g2
            · exact .inr g1
            · exact .inr (Nat.lt_trans g1 g2)
        · cases hx
      · cases hx
    · cases hx

/-- the blocks that an operation's operands lead to -/
def opRf (e : Env) (op : AOp) : List Nat := (xsOf op).flatMap fun x => rfA (ev e x)

theorem opRf_agree {e : Env} {op : AOp} {h h' : Hp} (hh : ∀ l ∈ opRf e op, h'[l]? = h[l]?) : ∀ x ∈ xsOf op, agreeA h h' (ev e x) :=
  fun x hx => rf_agree fun l hl => hh l (List.mem_flatMap.2 ⟨x, hx, hl⟩)

/-- and, where it writes a part of a block, what the rest of that block leads to -/
def tOf (e : Env) (h : Hp) (op : AOp) : List Nat := opRf e op ++ (match op with
  | .st x _ _ => match ev e x with
    | .c (.ptr l _ _ _) => match h[l]? with
      | some k => rfB k
      | none => []
    | _ => []
  | _ => [])

theorem tOf_agree {e : Env} {h0 h h' : Hp} {op : AOp} (hh : ∀ l ∈ tOf e h0 op, h'[l]? = h[l]?) : ∀ x ∈ xsOf op, agreeA h h' (ev e x) :=
  opRf_agree fun l hl => hh l (List.mem_append_left _ hl)

/-- what an operation writes: nothing, a block, a new block -/
def wtOf (e : Env) (n : Nat) : AOp → Option (Option Nat × Bool)
  | .box _ => some (some n, true)
  | .bsl _ _ _ _ => some (some n, true)
  | .mks _ _ _ _ _ => some (some n, true)
  | .mo .mkm _ => some (some n, true)
  | .app _ _ _ x _ => match ev e x with
    | .c (.arr l _ _ _) => some (some l, false)
    | .c (.d (.list true _ _)) => some (some n, true)
    | _ => none
  | .st x _ _ => match ev e x with
    | .c (.ptr l _ _ _) => some (some l, false)
    | _ => none
  | op => match cls op with
    | 0 => some (none, false)
    | _ => none

theorem rfCs_ofD (l : List D) : rfCs (l.map CV.d) = [] := by
  induction l with
  | nil => rfl
  | cons x r ih => show rfC (.d x) ++ rfCs (r.map CV.d) = []; rw [ih]; rfl

theorem cells_rf {x : AV} {cs : List CV} (h : cells x = some cs) : rfCs cs = rfA x := by
  cases x with
  | c x =>
    have : cs = [x] := by cases x <;> simp_all [cells]
    subst this
    show rfC x ++ [] = _
    simp [rfA]
  | agg l => simp only [cells, Option.some.injEq] at h; subst h; rfl
  | tup l => simp [cells] at h

theorem al_alike {e : Env} {h h' : Hp} {op : AOp} {v : AV} {w : Nat} (hw : wtOf e h.length op = some (some w, true)) (hs : astep e h op = some (v, h')) (h1 : cls op = 1 → ∃ k, h' = h ++ [k]) :
    w = h.length ∧ ∃ f k, AlF f ∧ v = f h.length ∧ h' = h ++ [k] ∧ (∀ l ∈ rfB k, l ∈ tOf e h op) ∧ ∀ h2, (∀ l ∈ tOf e h op, h2[l]? = h[l]?) → astep e h2 op = some (f h2.length, h2 ++ [k]) := by
  cases op
  case box x =>
    simp only [wtOf, Option.some.injEq, Prod.mk.injEq, and_true] at hw
    simp only [astep] at hs
    split at hs
    · rename_i cs hcs
      split at hs
      · rename_i hok
        cases hs
        refine ⟨hw.symm, _, _, .inr (.inl rfl), rfl, rfl, fun l hl => ?_, fun h2 hag => ?_⟩
        · have : l ∈ rfA (ev e x) := by rw [← cells_rf hcs]; exact hl
          exact List.mem_append_left _ (List.mem_flatMap.2 ⟨x, by simp [xsOf], this⟩)
        · have hag' := tOf_agree hag x (by simp [xsOf])
          simp only [astep, hcs]
          rw [cellsOk_agree (cells_agree hag' hcs), if_pos hok]
      · cases hs
    · cases hs
  case bsl sz z n ps =>
    simp only [wtOf, Option.some.injEq, Prod.mk.injEq, and_true] at hw
    obtain ⟨k, hk⟩ := h1 rfl
    simp only [astep] at hs
    split at hs
    · rename_i as ha hel
      split at hs
      · rename_i es hes
        split at hs
        · rename_i hlim
          simp only [Option.some.injEq, Prod.mk.injEq] at hs
          obtain ⟨rfl, rfl⟩ := hs
          obtain ⟨hh1, hh2⟩ := List.append_inj' hk (by simp)
          subst hh1
          simp only [List.cons.injEq, and_true] at hh2
          subst hh2
          have hall : ∀ h2, elemsOf h2 e ps = some (as, h2) := by
            rcases elemsOf_alike hel with ⟨_, g⟩ | g
            · exact g
            · omega
          refine ⟨hw.symm, fun m => .c (.arr m 0 0 n), _, .inl ⟨n, rfl⟩, rfl, rfl, fun l hl => by simp [rfB] at hl, fun h2 _ => ?_⟩
          simp only [astep, hall h2, hes, if_pos hlim]
        · cases hs
      · cases hs
    · cases hs
  case mks sz bytes z l c =>
    simp only [wtOf, Option.some.injEq, Prod.mk.injEq, and_true] at hw
    simp only [astep] at hs
    split at hs
    · rename_i k1 n k2 m hl hc
      split at hs
      · rename_i hlim
        cases hs
        refine ⟨hw.symm, fun q => .c (.arr q 0 0 n.toNat), _, .inl ⟨_, rfl⟩, rfl, rfl, fun l hl => by simp [rfB] at hl, fun h2 _ => ?_⟩
        simp only [astep, hl, hc, if_pos hlim]
      · cases hs
    · cases hs
  case mo o xs =>
    cases o
    case mkm =>
      simp only [wtOf, Option.some.injEq, Prod.mk.injEq, and_true] at hw
      simp only [astep] at hs
      cases hxs : evs e xs with
      | nil =>
        rw [hxs] at hs
        simp only [mstep, Option.some.injEq, Prod.mk.injEq] at hs
        obtain ⟨rfl, rfl⟩ := hs
        refine ⟨hw.symm, fun q => .c (.mp q), _, .inr (.inr rfl), rfl, rfl, fun l hl => by simp [rfB] at hl, fun h2 _ => ?_⟩
        simp only [astep, hxs, mstep]
      | cons a r => rw [hxs] at hs; simp [mstep] at hs
    all_goals (simp [wtOf, cls] at hw)
  case app sz bytes z x y =>
    simp only [wtOf] at hw
    simp only [astep] at hs
    split at hs
    · rename_i sz' ys hy
      split at hs
      · rename_i hsz
        have hvy : ∀ h2, (∀ l ∈ tOf e h (.app sz bytes z x y), h2[l]? = h[l]?) → view h2 (ev e y) = view h (ev e y) := fun h2 hag => view_agree (tOf_agree hag y (by simp [xsOf]))
        split at hw
        · simp at hw
        · rename_i s2 l2 hx
          simp only [Option.some.injEq, Prod.mk.injEq, and_true] at hw
          simp only [hx, appv] at hs
          split at hs
          · rename_i hlim
            cases hs
            refine ⟨hw.symm, fun q => .c (.arr q 0 0 ys.length), _, .inl ⟨_, rfl⟩, rfl, rfl, fun l hl => by simp [rfB] at hl, fun h2 hag => ?_⟩
            simp only [astep, hvy h2 hag, hy, if_pos hsz, hx, appv, if_pos hlim]
          · cases hs
        · cases hw
      · cases hs
    · cases hs
  case st x y n =>
    simp only [wtOf] at hw
    split at hw <;> simp at hw
  all_goals (simp [wtOf, cls] at hw)

theorem up_alike {e : Env} {h h' : Hp} {op : AOp} {v : AV} {w : Nat} (hw : wtOf e h.length op = some (some w, false)) (hs : astep e h op = some (v, h')) :
    ∃ k, h' = h.set w k ∧ (∀ l ∈ rfB k, l ∈ tOf e h op) ∧ ∀ h2, (∀ l ∈ tOf e h op, h2[l]? = h[l]?) → astep e h2 op = some (v, h2.set w k) := by
  cases op
  case app sz bytes z x y =>
    simp only [wtOf] at hw
    simp only [astep] at hs
    split at hs
    · rename_i sz' ys hy
      split at hs
      · rename_i hsz
        have hvy : ∀ h2, (∀ l ∈ tOf e h (.app sz bytes z x y), h2[l]? = h[l]?) → view h2 (ev e y) = view h (ev e y) := fun h2 hag => view_agree (tOf_agree hag y (by simp [xsOf]))
        split at hw
        · rename_i l v0 i n hx
          simp only [Option.some.injEq, Prod.mk.injEq, and_true] at hw
          subst hw
          have hmem : l ∈ tOf e h (.app sz bytes z x y) := List.mem_append_left _ (List.mem_flatMap.2 ⟨x, by simp [xsOf], by rw [hx]; simp [rfA, rfC]⟩)
          simp only [hx, appv] at hs
          split at hs
          · rename_i r v' s3 es hl
            split at hs
            · rename_i hlim
              cases hs
              refine ⟨_, rfl, fun l hl => by simp [rfB] at hl, fun h2 hag => ?_⟩
              simp only [astep, hvy h2 hag, hy, if_pos hsz, hx, appv, hag l hmem, hl, if_pos hlim]
            · cases hs
          · cases hs
        · simp at hw
        · cases hw
      · cases hs
    · cases hs
  case mo o xs => cases o <;> simp [wtOf, cls] at hw
  case st x y n =>
    simp only [wtOf] at hw
    split at hw
    · rename_i l ver i j hx
      simp only [Option.some.injEq, Prod.mk.injEq, and_true] at hw
      subst hw
      have hmem : l ∈ tOf e h (.st x y n) := List.mem_append_left _ (List.mem_flatMap.2 ⟨x, by simp [xsOf], by rw [hx]; simp [rfA, rfC]⟩)
      simp only [astep] at hs
      split at hs
      · rename_i cs hcs
        split at hs
        · rename_i hok
          have hcy : ∀ h2, (∀ l ∈ tOf e h (.st x y n), h2[l]? = h[l]?) → cellsOk h2 cs = cellsOk h cs := fun h2 hag => cellsOk_agree (cells_agree (tOf_agree hag y (by simp [xsOf])) hcs)
          have hold : ∀ k, h[l]? = some k → ∀ q ∈ rfB k, q ∈ tOf e h (.st x y n) := fun k hk q hq => by
            refine List.mem_append_right _ ?_
            simp only [hx, hk]
            exact hq
          have hnew : ∀ q ∈ rfCs cs, q ∈ tOf e h (.st x y n) := fun q hq => by
            rw [cells_rf hcs] at hq
            exact List.mem_append_left _ (List.mem_flatMap.2 ⟨y, by simp [xsOf], hq⟩)
          rw [hx] at hs
          cases hl : h[l]? with
          | none => simp only [wr, wrd, hl] at hs; simp at hs
          | some k =>
            cases k with
            | bx bs =>
              by_cases hc : i = 0 ∧ j + cs.length ≤ bs.length
              · have hw1 : wr h (.c (.ptr l ver i j)) cs = some (h.set l (.bx (bs.take j ++ (cs ++ bs.drop (j + cs.length))))) := by simp only [wr, hl, if_pos hc]
                rw [hw1] at hs
                simp only [Option.some.injEq, Prod.mk.injEq] at hs
                obtain ⟨rfl, rfl⟩ := hs
                refine ⟨_, rfl, fun q hq => ?_, fun h2 hag => ?_⟩
                · obtain ⟨c, hc1, hc2⟩ := rfCs_mem.1 hq
                  have hb : ∀ c ∈ bs, q ∈ rfC c → q ∈ tOf e h (.st x y n) := fun c h1 h2 => hold _ hl q (rfCs_mem.2 ⟨c, h1, h2⟩)
                  rcases List.mem_append.1 hc1 with h1 | h1
                  · exact hb c (List.mem_of_mem_take h1) hc2
                  · rcases List.mem_append.1 h1 with h1 | h1
                    · exact hnew q (rfCs_mem.2 ⟨c, h1, hc2⟩)
                    · exact hb c (List.mem_of_mem_drop h1) hc2
                · have hw2 : wr h2 (.c (.ptr l ver i j)) cs = some (h2.set l (.bx (bs.take j ++ (cs ++ bs.drop (j + cs.length))))) := by simp only [wr, hag l hmem, hl, if_pos hc]
                  simp only [astep, hcs, hcy h2 hag, if_pos hok, hx, hw2]
              · simp only [wr, wrd, hl, if_neg hc] at hs; simp at hs
            | da r v' sz es =>
              have hw1 : wr h (.c (.ptr l ver i j)) cs = none := by simp only [wr, hl]
              rw [hw1] at hs
              simp only [Option.map_eq_some_iff, Prod.mk.injEq] at hs
              obtain ⟨h1, hs1, rfl, rfl⟩ := hs
              simp only [wrd, hl] at hs1
              split at hs1
              · rename_i hv
                split at hs1
                · rename_i el ds he hds
                  split at hs1
                  · rename_i hj
                    cases hs1
                    refine ⟨_, rfl, fun q hq => by simp [rfB] at hq, fun h2 hag => ?_⟩
                    have hw2 : wr h2 (.c (.ptr l ver i j)) cs = none := by simp only [wr, hag l hmem, hl]
                    simp only [astep, hcs, hcy h2 hag, if_pos hok, hx, hw2, wrd, hag l hmem, hl, if_pos hv, he, hds, if_pos hj, Option.map_some]
                  · cases hs1
                · cases hs1
              · cases hs1
            | mp v es => simp only [wr, wrd, hl] at hs; simp at hs
            | mi a b c => simp only [wr, wrd, hl] at hs; simp at hs
            | dead => simp only [wr, wrd, hl] at hs; simp at hs
        · cases hs
      · cases hs
    · cases hw
  all_goals (simp [wtOf, cls] at hw)

theorem no_alike {e : Env} {h h' : Hp} {op : AOp} {v : AV} {b : Bool} (hw : wtOf e h.length op = some (none, b)) (hs : astep e h op = some (v, h')) :
    h' = h ∧ ∀ h2, (∀ l ∈ tOf e h op, h2[l]? = h[l]?) → astep e h2 op = some (v, h2) := by
  have hc : cls op = 0 := by
    cases op
    case app sz bytes z x y =>
      simp only [wtOf] at hw
      split at hw <;> simp at hw
    case st x y n =>
      simp only [wtOf] at hw
      split at hw <;> simp at hw
    case mo o xs => cases o <;> first | rfl | simp [wtOf, cls] at hw
    all_goals first | rfl | simp [wtOf, cls] at hw
  have key : ∀ h2, (∀ l ∈ tOf e h op, h2[l]? = h[l]?) → h' = h ∧ astep e h2 op = some (v, h2) := fun h2 hag => astep_agree hc (tOf_agree hag) hs
  exact ⟨(key h fun _ _ => rfl).1, fun h2 hag => (key h2 hag).2⟩

end Go.Ab

