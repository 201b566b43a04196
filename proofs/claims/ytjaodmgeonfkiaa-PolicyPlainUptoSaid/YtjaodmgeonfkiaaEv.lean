/-
  The engine, part v: the conditions of an operation, of a region, of a text, of a function; that they suffice.
-/
import Derived.Test.YtjaodmgeonfkiaaEu
import Derived.Scope
namespace Go.Ab

def ointN (L : Lv) : Option X → Option (Option Int)
  | none => some none
  | some x => match evN L x with
    | .c (.d (.int _ n)) => some (some n)
    | _ => none

theorem ointN_eq (L : Lv) (x : Option X) : ointN L x = oint (lkL L) x := by
  cases x with
  | none => rfl
  | some y => simp only [ointN, oint, evN_eq]; rfl

/-- a function of the program's own, with a text -/
structure FnOk (P : Program) (f : Nat) : Prop where
  ok : ∃ fn, P.funcs[f]? = some fn ∧ fn.body.isSome = true ∧ fn.name ≠ "runtime.NumGoroutine"

def vLk (ok : Bool) (z : AV) (K : AV → Prop) : Option (Option (Nat × DV)) → Prop
  | none => False
  | some none => K (lkR ok z false)
  | some (some (_, v)) => K (lkR ok (avDV v) true)
def vUp (es : List (DV × DV)) (kd vd : DV) (K : List (DV × DV) → Prop) : Option (Option (Nat × DV)) → Prop
  | none => False
  | some none => ∀ es', es' = es ++ [(kd, vd)] → K es'
  | some (some (i, _)) => ∀ es', es' = es.set i (kd, vd) → K es'
def vDel (es : List (DV × DV)) (K0 : Prop) (K : List (DV × DV) → Prop) : Option (Option (Nat × DV)) → Prop
  | none => False
  | some none => K0
  | some (some (i, _)) => ∀ es', es' = es.eraseIdx i → K es'

/-- further operations -/
def vMo (o : MOp) (avs : List AV) (h : Hp) (K : AV → Hp → Prop) : Prop :=
  match o, avs with
  | .apz sz bytes z, [.c (.d (.list true sz' _)), .c (.d (.int .i64 n))] => (match Nat.beq sz' sz with
      | true => (Unit → 0 < n ∧ n.toNat * bytes ≤ 140737488355328) ∧ ∀ k es, k = n.toNat → es = List.replicate n.toNat z → K (.c (.arr h.length 0 0 k)) (h ++ [.da true 0 sz es])
      | false => False)
  | .mkm, [] => K (.c (.mp h.length)) (h ++ [.mp 0 []])
  | .lk sc n ls ok z, [.c (.mp l), k] => (match h[l]?, keyDV ls sc n k with
    | some (.mp _ es), some kd => ∀ r, mfind sc n ls kd es 0 = r → vLk ok z (fun v => K v h) r
    | _, _ => False)
  | .up sc n ls, [.c (.mp l), k, x] => (match keyDV ls sc n k, valDV h x with
    | some kd, some (vd, h1) => (match h1[l]? with
      | some (.mp v es) => ∀ r, mfind sc n ls kd es 0 = r → vUp es kd vd (fun es' => K (.c .u) (h1.set l (.mp (v + 1) es'))) r
      | _ => False)
    | _, _ => False)
  | .del sc n ls, [.c (.mp l), k] => (match h[l]?, keyDV ls sc n k with
    | some (.mp v es), some kd => ∀ r, mfind sc n ls kd es 0 = r → vDel es (K (.tup []) h) (fun es' => K (.tup []) (h.set l (.mp (v + 1) es'))) r
    | _, _ => False)
  | .lnm, [.c (.mp l)] => (match h[l]? with
    | some (.mp _ es) => ∀ c : Int, c = es.length → K (.c (.d (.int .i64 c))) h
    | _ => False)
  | _, _ => False

theorem vMo_sound {o : MOp} {avs : List AV} {h : Hp} {K : AV → Hp → Prop} (hv : vMo o avs h K) : ∃ v h', mstep h o avs = some (v, h') ∧ K v h' := by
  unfold vMo at hv
  split at hv
  · rename_i sz bytes z sz' l n
    split at hv
    · rename_i q
      have q : sz' = sz := by simpa [Nat.beq_eq] using q
      subst q
      obtain ⟨c1, c2⟩ := hv.1 ()
      exact ⟨_, _, by simp only [mstep]; rw [if_pos ⟨trivial, c1, c2⟩], hv.2 _ _ rfl rfl⟩
    · exact hv.elim
  · exact ⟨_, _, by simp only [mstep], hv⟩
  · rename_i sc n ls ok z l k
    split at hv
    · rename_i ver es kd h1 h2
      have hv := hv _ rfl
      cases hm : mfind sc n ls kd es 0 with
      | none => rw [hm] at hv; exact hv.elim
      | some r =>
        rw [hm] at hv
        cases r with
        | none => exact ⟨_, _, by simp only [mstep, h1, h2, hm], hv⟩
        | some p => obtain ⟨j, v⟩ := p; exact ⟨_, _, by simp only [mstep, h1, h2, hm], hv⟩
    · exact hv.elim
  · rename_i sc n ls l k x
    split at hv
    · rename_i kd vd h1 hk hx
      split at hv
      · rename_i ver es hl
        have hv := hv _ rfl
        cases hm : mfind sc n ls kd es 0 with
        | none => rw [hm] at hv; exact hv.elim
        | some r =>
          rw [hm] at hv
          cases r with
          | none => exact ⟨_, _, by simp only [mstep, hk, hx, hl, hm], hv _ rfl⟩
          | some p => obtain ⟨j, v⟩ := p; exact ⟨_, _, by simp only [mstep, hk, hx, hl, hm], hv _ rfl⟩
      · exact hv.elim
    · exact hv.elim
  · rename_i sc n ls l k
    split at hv
    · rename_i ver es kd h1 h2
      have hv := hv _ rfl
      cases hm : mfind sc n ls kd es 0 with
      | none => rw [hm] at hv; exact hv.elim
      | some r =>
        rw [hm] at hv
        cases r with
        | none => exact ⟨_, _, by simp only [mstep, h1, h2, hm], hv⟩
        | some p => obtain ⟨j, v⟩ := p; exact ⟨_, _, by simp only [mstep, h1, h2, hm], hv _ rfl⟩
    · exact hv.elim
  · rename_i l
    split at hv
    · rename_i ver es h1
      exact ⟨_, _, by simp only [mstep, h1], hv _ rfl⟩
    · exact hv.elim
  · exact hv.elim

def vcOp (P : Program) (Λ : Len) (m : Nat) (d : Bool) (op : AOp) (L : Lv) (h : Hp) (K : Lv → AV → Hp → Prop) : Prop :=
  match op with
  | .mv x => K L (evN L x) h
  | .pick c a b => match evN L c with
    | .c (.d (.bool t)) => (match t with
      | true => K L (evN L a) h
      | false => K L (evN L b) h)
    | _ => False
  | .ld x none => vRd h (evN L x) fun cs => match cs with
    | c :: _ => K L (.c c) h
    | [] => False
  | .ld x (some n) => vRd h (evN L x) fun cs => n ≤ cs.length ∧ K L (.agg (cs.take n)) h
  | .st x v n => match cells (evN L v) with
    | some cs => cs.length = n ∧ (Unit → cellsOk h cs = true) ∧ vSt h (evN L x) cs fun h' => K L (.c .u) h'
    | none => False
  | .bin bo a b => vBin bo (evN L a) (evN L b) fun v => K L v h
  | .beq ne a b => match evN L a, evN L b with
    | .c (.d (.bool x)), .c (.d (.bool y)) => (match x, y with
      | true, true => K L (.c (.d (.bool (!ne)))) h
      | false, false => K L (.c (.d (.bool (!ne)))) h
      | true, false => K L (.c (.d (.bool ne))) h
      | false, true => K L (.c (.d (.bool ne))) h)
    | _, _ => False
  | .eqa ne n ls a b => match evN L a, evN L b with
    | .agg xs, .agg ys => xs.length = n ∧ ys.length = n ∧ (match eqP xs ys ls with
      | some p => (p → K L (.c (.d (.bool (!ne)))) h) ∧ (¬ p → K L (.c (.d (.bool ne))) h)
      | none => False)
    | _, _ => False
  | .un .not x => match evN L x with
    | .c (.d (.bool b)) => (match b with
      | true => K L (.c (.d (.bool false))) h
      | false => K L (.c (.d (.bool true))) h)
    | _ => False
  | .isnil kd ne x => (match kd, d, evN L x with
    | 0, false, .c (.d (.list false _ l)) => K L (.c (.d (.bool ne))) h ∧ (l = [] → K L (.c (.d (.bool (!ne)))) h)
    | kd, _, v => match isNil h kd v with
      | some b => (match b with
        | true => K L (.c (.d (.bool (!ne)))) h
        | false => K L (.c (.d (.bool ne))) h)
      | none => False)
  | .cvi k x => match evN L x with
    | .c (.d (.int _ n)) => ∀ c, c = k.wrap n → K L (.c (.d (.int k c))) h
    | _ => False
  | .sl sz x lo hi mx => match ointN L lo, ointN L hi, ointN L mx with
    | some lo, some hi, some mx => (match evN L x with
      | .c (.arr l v i n) => (match h[l]? with
        | some (.da _ v' sz' _) => (match Nat.beq sz' sz with
          | true => (Unit → v' = v) ∧ vSl Λ sz (.c (.arr l v i n)) lo hi mx fun r => K L r h
          | false => False)
        | _ => False)
      | xv => vSl Λ sz xv lo hi mx fun r => K L r h)
    | _, _, _ => False
  | .ias sz x i => match evN L i with
    | .c (.d (.int _ n)) => vIx Λ h sz (evN L x) n fun r => K L r h
    | _ => False
  | .iaa n sz x (.t i) => match lkN L i with
    | .c (.d (.int _ k)) => (Unit → 0 ≤ k ∧ k < nI n) ∧ vAll k (fun j => match evN L x with
      | .c (.rp cs) => K L (.c (.rp (cs.drop (j * sz)))) h
      | .c (.ptr l v p q) => (match solid h (.ptr l v p q) with
        | true => K L (.c (.ptr l v p (q + j * sz))) h
        | false => False)
      | _ => False) n
    | _ => False
  | .ixa n sz ag x (.t i) => match lkN L i with
    | .c (.d (.int _ k)) => (Unit → 0 ≤ k ∧ k < nI n) ∧ vAll k (fun j => match evN L x with
      | .agg l => (match ag with
        | true => (match Nat.ble (j * sz + sz) l.length with
          | true => K L (.agg ((l.drop (j * sz)).take sz)) h
          | false => False)
        | false => (match l[j * sz]? with
          | some c => K L (.c c) h
          | none => False))
      | _ => False) n
    | _ => False
  | .len x => match d, evN L x with
    | false, .c (.arr l v _ n) => (match h[l]? with
      | some (.da _ v' _ _) => (Unit → v' = v) ∧ ∀ c : Int, c = nI n → c ≤ 9223372036854775807 → K L (.c (.d (.int .i64 c))) h
      | _ => False)
    | d, xv => match view h xv with
    | some (_, l) => (match d with
      | true => K L (.c (.d (.int .i64 (Λ l)))) h
      | false => Λ l ≤ 9223372036854775807 → K L (.c (.d (.int .i64 (Λ l)))) h)
    | none => False
  | .app sz bytes _ x y => match view h (evN L y) with
    | some (sz', ys) => (match Nat.beq sz' sz with
      | true => vApp h sz bytes (evN L x) ys (K L)
      | false => False)
    | none => False
  | .mks sz bytes z l c => match evN L l, evN L c with
    | .c (.d (.int _ n)), .c (.d (.int _ m)) => (Unit → 0 ≤ n ∧ n ≤ m ∧ m ≤ 9223372036854775807 ∧ m.toNat * bytes ≤ 140737488355328) ∧
        ∀ k es, k = n.toNat → es = List.replicate n.toNat z → K L (.c (.arr h.length 0 0 k)) (h ++ [.da true 0 sz es])
    | _, _ => False
  | .bsl sz z n ps => match elemsOf h (lkN L) ps with
    | some (as, h1) => (match fillE sz (List.replicate n z) as with
      | some es => (d = true → h1 = h) ∧ (n * sz ≤ 16777216 ∧ n ≤ 16777216) ∧ K L (.c (.arr h1.length 0 0 n)) (h1 ++ [.da true 0 sz es])
      | none => False)
    | none => False
  | .mo o xs => vMo o (evsN L xs) h (K L)
  | .call f xs => CallS P m d L h f xs K
  | .callv x xs => match d, evN L x with
    | false, .c (.fn f caps) => FnOk P f ∧ CallV P h f (evsN L xs ++ caps.map .c) (K L)
    | _, _ => False
  | op => match astep (lkN L) h op with
    | some (v, h') => K L v h'
    | none => False

/-- what an operation comes to, by its condition -/
inductive Did (P : Program) (m : Nat) (d : Bool) (op : AOp) : Lv → Hp → (Lv → AV → Hp → Prop) → Prop
  | wk {L : Lv} {h : Hp} {L1 : Lv} {h1 : Hp} {K : Lv → AV → Hp → Prop} (hd : d = false) (hw : Wk m L h L1 h1) (k : Did P m d op L1 h1 K) : Did P m d op L h K
  | step {L : Lv} {h : Hp} {K : Lv → AV → Hp → Prop} (v : AV) (h' : Hp) (hs : astep (lkL L) h op = some (v, h')) (hd : d = true → cls op = 1 → ∃ k, h' = h ++ [k]) (k : K L v h') : Did P m d op L h K
  | call {L : Lv} {h : Hp} {K : Lv → AV → Hp → Prop} (f : Nat) (xs : List X) (ho : op = .call f xs) (hc : CallS P m d L h f xs K) : Did P m d op L h K
  | len {L : Lv} {h : Hp} {K : Lv → AV → Hp → Prop} (x : X) (sz : Nat) (l : List (List D)) (ho : op = .len x) (hd : d = false) (hx : view h (ev (lkL L) x) = some (sz, l)) (k : l.length ≤ 9223372036854775807 → K L (.c (.d (.int .i64 l.length))) h) : Did P m d op L h K
  | lenA {L : Lv} {h : Hp} {K : Lv → AV → Hp → Prop} (x : X) (l v i n : Nat) (ho : op = .len x) (hd : d = false) (hx : ev (lkL L) x = .c (.arr l v i n)) (hs : solid h (.arr l v i n) = true) (k : n ≤ 9223372036854775807 → K L (.c (.d (.int .i64 n))) h) : Did P m d op L h K
  | nil {L : Lv} {h : Hp} {K : Lv → AV → Hp → Prop} (ne : Bool) (x : X) (nl : Bool) (sz : Nat) (l : List (List D)) (ho : op = .isnil 0 ne x) (hd : d = false) (hx : ev (lkL L) x = .c (.d (.list nl sz l))) (k : ∀ b : Bool, (b = true → l = []) → K L (.c (.d (.bool (if ne then !b else b)))) h) : Did P m d op L h K
  | callv {L : Lv} {h : Hp} {K : Lv → AV → Hp → Prop} (x : X) (xs : List X) (f : Nat) (caps : List CV) (ho : op = .callv x xs) (hd : d = false) (hx : ev (lkL L) x = .c (.fn f caps)) (hf : FnOk P f) (hc : CallV P h f (evsN L xs ++ caps.map .c) (K L)) : Did P m d op L h K

theorem lkN_fun (L : Lv) : lkN L = lkL L := funext (lkN_eq L)

theorem bool_ne (ne x : Bool) : (if ne = true then !(x == x) else x == x) = !ne := by cases ne <;> cases x <;> rfl

theorem vcOp_sound {P : Program} {Λ : Len} (hΛ : ∀ l, Λ l = (l.length : Int)) {m : Nat} {d : Bool} {op : AOp} {L : Lv} {h : Hp} {K : Lv → AV → Hp → Prop} (hv : vcOp P Λ m d op L h K) : Did P m d op L h K := by
  cases op
  case mv x => rw [vcOp, evN_eq] at hv; exact .step _ _ rfl (by simp [cls]) hv
  case pick c a b =>
    simp only [vcOp, evN_eq] at hv
    split at hv
    · rename_i t ht
      cases t
      · exact .step _ _ (by simp [astep, ht]) (by simp [cls]) hv
      · exact .step _ _ (by simp [astep, ht]) (by simp [cls]) hv
    · exact hv.elim
  case ld x n =>
    cases n with
    | none =>
      simp only [vcOp, evN_eq] at hv
      obtain ⟨cs, hrd, hk⟩ := vRd_sound hv
      split at hk
      · exact .step _ _ (by simp only [astep, hrd]) (by simp [cls]) hk
      · exact hk.elim
    | some n =>
      simp only [vcOp, evN_eq] at hv
      obtain ⟨cs, hrd, hk⟩ := vRd_sound hv
      exact .step _ _ (by simp only [astep, hrd, hk.1, if_true]) (by simp [cls]) hk.2
  case st x v n =>
    simp only [vcOp, evN_eq] at hv
    split at hv
    · rename_i cs hcs
      obtain ⟨h1, h2, h3⟩ := hv
      have h2 := h2 ()
      obtain ⟨h', hw, hk⟩ := vSt_sound h3
      refine .step _ h' ?_ (by simp [cls]) hk
      rcases hw with hw | ⟨hw1, hw2⟩
      · simp [astep, hcs, h1, h2, hw]
      · simp [astep, hcs, h1, h2, hw1, hw2]
    · exact hv.elim
  case bin bo a b =>
    simp only [vcOp, evN_eq] at hv
    obtain ⟨x, y, r, h1, h2, h3, h4⟩ := vBin_sound hv
    exact .step _ _ (by simp only [astep, h1, h2, h3, Option.map_some]) (by simp [cls]) h4
  case beq ne a b =>
    simp only [vcOp, evN_eq] at hv
    split at hv
    · rename_i x y h1 h2
      split at hv
      · exact .step _ _ (by simp only [astep, h1, h2, bool_ne]) (by simp [cls]) hv
      · exact .step _ _ (by simp only [astep, h1, h2, bool_ne]) (by simp [cls]) hv
      · exact .step _ _ (by simp only [astep, h1, h2]; cases ne <;> rfl) (by simp [cls]) hv
      · exact .step _ _ (by simp only [astep, h1, h2]; cases ne <;> rfl) (by simp [cls]) hv
    · exact hv.elim
  case eqa ne n ls a b =>
    simp only [vcOp, evN_eq] at hv
    split at hv
    · rename_i xs ys h1 h2
      obtain ⟨h3, h4, hv⟩ := hv
      split at hv
      · rename_i p hp
        obtain ⟨r, hr, hi⟩ := eqP_sound hp
        by_cases hpp : p
        · have : r = true := hi.2 hpp
          subst this
          exact .step _ _ (by simp only [astep, h1, h2, h3, h4, and_self, if_true, hr, Option.map_some]; cases ne <;> rfl) (by simp [cls]) (hv.1 hpp)
        · have : r = false := by cases r; rfl; exact absurd (hi.1 rfl) hpp
          subst this
          exact .step _ _ (by simp only [astep, h1, h2, h3, h4, and_self, if_true, hr, Option.map_some]; cases ne <;> rfl) (by simp [cls]) (hv.2 hpp)
      · exact hv.elim
    · exact hv.elim
  case un o x =>
    cases o
    case not =>
      simp only [vcOp, evN_eq] at hv
      split at hv
      · rename_i b hb
        cases b
        · exact .step _ _ (by simp [astep, hb, unD]) (by simp [cls]) hv
        · exact .step _ _ (by simp [astep, hb, unD]) (by simp [cls]) hv
      · exact hv.elim
    all_goals
      simp only [vcOp, lkN_fun] at hv
      split at hv
      · rename_i v h' hs; exact .step v h' hs (by simp [cls]) hv
      · exact hv.elim
  case isnil kd ne x =>
    simp only [vcOp, evN_eq] at hv
    split at hv
    · rename_i sz l hx
      refine .nil ne x false sz l rfl rfl hx fun b hb => ?_
      cases b with
      | false => cases ne <;> exact hv.1
      | true => cases ne <;> exact hv.2 (hb rfl)
    · split at hv
      · rename_i b hb
        cases b with
        | true => exact .step _ _ (by simp only [astep, hb, Option.map_some]; rfl) (by simp [cls]) (by cases ne <;> exact hv)
        | false => exact .step _ _ (by simp only [astep, hb, Option.map_some]; rfl) (by simp [cls]) (by cases ne <;> exact hv)
      · exact hv.elim
  case cvi k x =>
    simp only [vcOp, evN_eq] at hv
    split at hv
    · rename_i k0 n hn
      exact .step _ _ (by simp only [astep, hn]) (by simp [cls]) (hv _ rfl)
    · exact hv.elim
  case sl sz x lo hi mx =>
    simp only [vcOp, evN_eq, ointN_eq] at hv
    split at hv
    · rename_i lo' hi' mx' h1 h2 h3
      split at hv
      · rename_i l v i n hx
        split at hv
        · rename_i rl v' sz' es hes
          split at hv
          · rename_i q2
            have q1 : v' = v := hv.1 ()
            have q2 : sz' = sz := by simpa [Nat.beq_eq] using q2
            subst q1 q2
            obtain ⟨r, hr, hk⟩ := vSl_sound hΛ hv.2
            exact .step _ _ (by simp only [astep, h1, h2, h3, hx, hes, and_self, if_true, hr, Option.map_some]) (by simp [cls]) hk
          · exact hv.elim
        · exact hv.elim
      · rename_i hne
        obtain ⟨r, hr, hk⟩ := vSl_sound hΛ hv
        refine .step _ _ ?_ (by simp [cls]) hk
        simp only [astep, h1, h2, h3]
        rw [hr]; rfl
    · exact hv.elim
  case ias sz x i =>
    simp only [vcOp, evN_eq] at hv
    split at hv
    · rename_i k n hn
      obtain ⟨r, hr, hk⟩ := vIx_sound hΛ hv
      exact .step _ _ (by simp only [astep, hn, hr, Option.map_some]) (by simp [cls]) hk
    · exact hv.elim
  case iaa n sz x i =>
    cases i with
    | t i =>
      simp only [vcOp, evN_eq, lkN_eq] at hv
      split at hv
      · rename_i kk k hk
        have h01 := hv.1 ()
        rw [nI_eq] at h01
        have hv := vAll_sound hv.2 h01.1 h01.2
        have hk' : ev (lkL L) (.t i) = .c (.d (.int kk k)) := hk
        split at hv
        · rename_i cs hx
          exact .step _ _ (by simp only [astep, hk', h01, and_self, if_true, hx]) (by simp [cls]) hv
        · rename_i l v p q hx
          split at hv
          · rename_i hs
            exact .step _ _ (by simp only [astep, hk', h01, and_self, if_true, hx, hs]) (by simp [cls]) hv
          · exact hv.elim
        · exact hv.elim
      · exact hv.elim
    | k v =>
      simp only [vcOp, lkN_fun] at hv
      split at hv
      · rename_i v h' hs; exact .step v h' hs (by simp [cls]) hv
      · exact hv.elim
  case ixa n sz ag x i =>
    cases i with
    | t i =>
      simp only [vcOp, evN_eq, lkN_eq] at hv
      split at hv
      · rename_i kk k hk
        have h01 := hv.1 ()
        rw [nI_eq] at h01
        have hv := vAll_sound hv.2 h01.1 h01.2
        have hk' : ev (lkL L) (.t i) = .c (.d (.int kk k)) := hk
        split at hv
        · rename_i l hx
          split at hv
          · split at hv
            · rename_i hle
              have hle := Nat.le_of_ble_eq_true hle
              exact .step _ _ (by simp only [astep, hk', h01, and_self, if_true, hx, hle]) (by simp [cls]) hv
            · exact hv.elim
          · split at hv
            · rename_i c hcc
              exact .step _ _ (by simp only [astep, hk', h01, and_self, if_true, hx, hcc, Bool.false_eq_true, if_false, Option.map_some]) (by simp [cls]) hv
            · exact hv.elim
        · exact hv.elim
      · exact hv.elim
    | k v =>
      simp only [vcOp, lkN_fun] at hv
      split at hv
      · rename_i v h' hs; exact .step v h' hs (by simp [cls]) hv
      · exact hv.elim
  case len x =>
    simp only [vcOp, evN_eq] at hv
    split at hv
    · rename_i l v i n hx
      split at hv
      · rename_i r v' sz es hes
        have q : v' = v := hv.1 ()
        subst q
        exact .lenA x l v' i n rfl rfl hx (by simp [solid, hes]) fun hm => hv.2 _ (nI_eq _).symm (by omega)
      · exact hv.elim
    · split at hv
      rotate_left
      · exact hv.elim
      rename_i sz l hl
      split at hv
      · rw [hΛ] at hv; exact .step _ _ (by simp only [astep, hl]) (by simp [cls]) hv
      · rw [hΛ] at hv; exact .len x sz l rfl rfl hl fun hm => hv (by omega)
  case app sz bytes z x y =>
    simp only [vcOp, evN_eq] at hv
    split at hv
    · rename_i sz' ys hys
      split at hv
      · rename_i q1
        have q1 : sz' = sz := by simpa [Nat.beq_eq] using q1
        subst q1
        obtain ⟨r, h', hr, hk⟩ := vApp_sound hv
        exact .step _ _ (by simp only [astep, hys, if_true]; exact hr) (by simp [cls]) hk
      · exact hv.elim
    · exact hv.elim
  case mks sz bytes z l c =>
    simp only [vcOp, evN_eq] at hv
    split at hv
    · rename_i k n k' m h1 h2
      exact .step _ _ (by simp only [astep, h1, h2]; rw [if_pos (hv.1 ())]) (fun _ _ => ⟨_, rfl⟩) (hv.2 _ _ rfl rfl)
    · exact hv.elim
  case bsl sz z n ps =>
    simp only [vcOp, lkN_fun] at hv
    split at hv
    · rename_i as h1 has
      split at hv
      · rename_i es hes
        exact .step _ _ (by simp only [astep, has, hes]; rw [if_pos hv.2.1]) (fun hd _ => ⟨_, by rw [hv.1 hd]⟩) hv.2.2
      · exact hv.elim
    · exact hv.elim
  case mo o xs =>
    simp only [vcOp, evsN_eq] at hv
    obtain ⟨v, h', hs, hk⟩ := vMo_sound hv
    exact .step v h' hs (by cases o <;> simp [cls]) hk
  case call f xs => exact .call f xs rfl hv
  case callv x xs =>
    simp only [vcOp, evN_eq] at hv
    split at hv
    · rename_i f caps hx
      exact .callv x xs f caps rfl rfl hx hv.1 hv.2
    · exact hv.elim
  case box x =>
    simp only [vcOp, lkN_fun] at hv
    split at hv
    · rename_i v h' hs
      refine .step v h' hs (fun _ _ => ?_) hv
      simp only [astep] at hs
      split at hs
      · split at hs
        · cases hs; exact ⟨_, rfl⟩
        · cases hs
      · cases hs
    · exact hv.elim
  all_goals
    simp only [vcOp, lkN_fun] at hv
    split at hv
    · rename_i v h' hs; exact .step v h' hs (by simp [cls]) hv
    · exact hv.elim

/-- the operations of a region, in the text's order -/
def vcOps (P : Program) (Λ : Len) (m : Nat) (d : Bool) : List AO → Lv → Hp → (Lv → Hp → Prop) → Prop
  | [], L, h, K => K L h
  | o :: r, L, h, K => match o.g with
    | none => vcOp P Λ m d o.op L h fun L' v h' => vcOps P Λ m d r (putL L' o.dst v) h' K
    | some (s, want) => match lkN L s with
      | .c (.d (.bool b)) => (match b, want with
        | true, true => vcOp P Λ m d o.op L h fun L' v h' => vcOps P Λ m d r (putL L' o.dst v) h' K
        | false, false => vcOp P Λ m d o.op L h fun L' v h' => vcOps P Λ m d r (putL L' o.dst v) h' K
        | true, false => vcOps P Λ m d r (putL L o.dst (.tup [])) h K
        | false, true => vcOps P Λ m d r (putL L o.dst (.tup [])) h K)
      | .tup [] => vcOps P Λ m d r (putL L o.dst (.tup [])) h K
      | _ => False

theorem vcOps_cons {P : Program} {Λ : Len} {m : Nat} {d : Bool} {o : AO} {r : List AO} {L : Lv} {h : Hp} {K : Lv → Hp → Prop} (hv : vcOps P Λ m d (o :: r) L h K) :
    (gv (lkL L) o.g = some true ∧ vcOp P Λ m d o.op L h fun L' v h' => vcOps P Λ m d r (putL L' o.dst v) h' K) ∨ (gv (lkL L) o.g = some false ∧ vcOps P Λ m d r (putL L o.dst (.tup [])) h K) := by
  simp only [vcOps] at hv
  split at hv
  · rename_i hg; exact .inl ⟨by simp [hg, gv], hv⟩
  · rename_i s want hg
    split at hv
    · rename_i b hb
      rw [lkN_eq] at hb
      have hgv : gv (lkL L) o.g = some (b == want) := by simp [hg, gv, lk, hb]
      split at hv
      · exact .inl ⟨hgv, hv⟩
      · exact .inl ⟨hgv, hv⟩
      · exact .inr ⟨hgv, hv⟩
      · exact .inr ⟨hgv, hv⟩
    · rename_i hb
      rw [lkN_eq] at hb
      exact .inr ⟨by simp [hg, gv, lk, hb], hv⟩
    · exact hv.elim

theorem CallS.mono {P : Program} {m : Nat} {d : Bool} {L : Lv} {h : Hp} {f : Nat} {xs : List X} {K K' : Lv → AV → Hp → Prop} (hc : CallS P m d L h f xs K) (hk : ∀ L v h', K L v h' → K' L v h') : CallS P m d L h f xs K' := by
  induction hc with
  | pure hp k => exact .pure hp (hk _ _ _ k)
  | fn hf => exact .fn (hf.mono (hk _))
  | wk hw _ ih => exact .wk hw (ih hk)

theorem CallV.mono {P : Program} {h : Hp} {f : Nat} {args : List AV} {K K' : AV → Hp → Prop} (hc : CallV P h f args K) (hk : ∀ v h', K v h' → K' v h') : CallV P h f args K' := by
  cases hc with
  | pure hp k => exact .pure hp (hk _ _ k)
  | fn hf => exact .fn (hf.mono hk)

theorem Did.mono {P : Program} {m : Nat} {d : Bool} {op : AOp} {L : Lv} {h : Hp} {K K' : Lv → AV → Hp → Prop} (hd : Did P m d op L h K) (hk : ∀ L v h', K L v h' → K' L v h') : Did P m d op L h K' := by
  induction hd with
  | wk hd hw k ih => exact .wk hd hw (ih hk)
  | step v h' hs hd k => exact .step v h' hs hd (hk _ _ _ k)
  | call f xs ho hc => exact .call f xs ho (hc.mono hk)
  | len x sz l ho hd hx k => exact .len x sz l ho hd hx fun hm => hk _ _ _ (k hm)
  | lenA x l v i n ho hd hx hs k => exact .lenA x l v i n ho hd hx hs fun hm => hk _ _ _ (k hm)
  | nil ne x nl sz l ho hd hx k => exact .nil ne x nl sz l ho hd hx fun b hb => hk _ _ _ (k b hb)
  | callv x xs f caps ho hd hx hf hc => exact .callv x xs f caps ho hd hx hf (hc.mono (hk _))

/-- the operations of a region, as they come to be done -/
def runO (P : Program) (m : Nat) (d : Bool) : List AO → Lv → Hp → (Lv → Hp → Prop) → Prop
  | [], L, h, K => K L h
  | o :: r, L, h, K => (gv (lkL L) o.g = some true ∧ Did P m d o.op L h fun L' v h' => runO P m d r (putL L' o.dst v) h' K) ∨ (gv (lkL L) o.g = some false ∧ runO P m d r (putL L o.dst (.tup [])) h K)

theorem vcOps_runO {P : Program} {Λ : Len} (hΛ : ∀ l, Λ l = (l.length : Int)) {m : Nat} {d : Bool} {K : Lv → Hp → Prop} : ∀ {ops : List AO} {L : Lv} {h : Hp}, vcOps P Λ m d ops L h K → runO P m d ops L h K := by
  intro ops
  induction ops with
  | nil => intro L h hv; exact hv
  | cons o r ih =>
    intro L h hv
    rcases vcOps_cons hv with ⟨h1, h2⟩ | ⟨h1, h2⟩
    · exact .inl ⟨h1, (vcOp_sound hΛ h2).mono fun L' v h' hk => ih hk⟩
    · exact .inr ⟨h1, ih h2⟩

end Go.Ab
