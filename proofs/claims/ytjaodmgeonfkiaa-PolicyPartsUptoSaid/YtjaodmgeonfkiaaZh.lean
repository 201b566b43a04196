/-
  Merged texts, part h.
-/
import Derived.Test.YtjaodmgeonfkiaaZg
import Derived.Scope
/-
  The engine, part v: the conditions of an operation, of a region, of a text, of a function; that they suffice.
-/
namespace Go.Ab

def ointN (L : Lv) : Option X → Option (Option Int)
  | none => some none
  | some x => match evN L x with
    | .c (.d (.int _ n)) => some (some n)
    | _ => none

theorem ointN_eq (L : Lv) (x : Option X) : ointN L x = oint (lkL L) x := by
  cases x with
  | none => rfl
  | some y => simp only [ointN, oint, evN_eq]; rfl

/-- a function of the program's own, with a text -/
structure FnOk (P : Program) (f : Nat) : Prop where
  ok : ∃ fn, P.funcs[f]? = some fn ∧ fn.body.isSome = true ∧ fn.name ≠ "runtime.NumGoroutine"

def vLk (ok : Bool) (z : AV) (K : AV → Prop) : Option (Option (Nat × DV)) → Prop
  | none => False
  | some none => K (lkR ok z false)
  | some (some (_, v)) => K (lkR ok (avDV v) true)
def vUp (es : List (DV × DV)) (kd vd : DV) (K : List (DV × DV) → Prop) : Option (Option (Nat × DV)) → Prop
  | none => False
  | some none => ∀ es', es' = es ++ [(kd, vd)] → K es'
  | some (some (i, _)) => ∀ es', es' = es.set i (kd, vd) → K es'
def vDel (es : List (DV × DV)) (K0 : Prop) (K : List (DV × DV) → Prop) : Option (Option (Nat × DV)) → Prop
  | none => False
  | some none => K0
  | some (some (i, _)) => ∀ es', es' = es.eraseIdx i → K es'

/-- further operations -/
def vMo (o : MOp) (avs : List AV) (h : Hp) (K : AV → Hp → Prop) : Prop :=
  match o, avs with
  | .apz sz bytes z, [.c (.d (.list true sz' _)), .c (.d (.int .i64 n))] => (match Nat.beq sz' sz with
      | true => (Unit → 0 < n ∧ n.toNat * bytes ≤ 140737488355328) ∧ ∀ k es, k = n.toNat → es = List.replicate n.toNat z → K (.c (.arr h.length 0 0 k)) (h ++ [.da true 0 sz es])
      | false => False)
  | .mkm, [] => K (.c (.mp h.length)) (h ++ [.mp 0 []])
  | .lk sc n ls ok z, [.c (.mp l), k] => (match h[l]?, keyDV ls sc n k with
    | some (.mp _ es), some kd => ∀ r, mfind sc n ls kd es 0 = r → vLk ok z (fun v => K v h) r
    | _, _ => False)
  | .up sc n ls, [.c (.mp l), k, x] => (match keyDV ls sc n k, valDV h x with
    | some kd, some (vd, h1) => (match h1[l]? with
      | some (.mp v es) => ∀ r, mfind sc n ls kd es 0 = r → vUp es kd vd (fun es' => K (.c .u) (h1.set l (.mp (v + 1) es'))) r
      | _ => False)
    | _, _ => False)
  | .del sc n ls, [.c (.mp l), k] => (match h[l]?, keyDV ls sc n k with
    | some (.mp v es), some kd => ∀ r, mfind sc n ls kd es 0 = r → vDel es (K (.tup []) h) (fun es' => K (.tup []) (h.set l (.mp (v + 1) es'))) r
    | _, _ => False)
  | .lnm, [.c (.mp l)] => (match h[l]? with
    | some (.mp _ es) => ∀ c : Int, c = es.length → K (.c (.d (.int .i64 c))) h
    | _ => False)
  | _, _ => False

theorem vMo_sound {o : MOp} {avs : List AV} {h : Hp} {K : AV → Hp → Prop} (hv : vMo o avs h K) : ∃ v h', mstep h o avs = some (v, h') ∧ K v h' := by
  unfold vMo at hv
  split at hv
  · rename_i sz bytes z sz' l n
    split at hv
    · rename_i q
      have q : sz' = sz := by simpa [Nat.beq_eq] using q
      subst q
      obtain ⟨c1, c2⟩ := hv.1 ()
      exact ⟨_, _, by simp only [mstep]; rw [if_pos ⟨trivial, c1, c2⟩], hv.2 _ _ rfl rfl⟩
    · exact hv.elim
  · exact ⟨_, _, by simp only [mstep], hv⟩
  · rename_i sc n ls ok z l k
    split at hv
    · rename_i ver es kd h1 h2
      have hv := hv _ rfl
      cases hm : mfind sc n ls kd es 0 with
      | none => rw [hm] at hv; exact hv.elim
      | some r =>
        rw [hm] at hv
        cases r with
        | none => exact ⟨_, _, by simp only [mstep, h1, h2, hm], hv⟩
        | some p => obtain ⟨j, v⟩ := p; exact ⟨_, _, by simp only [mstep, h1, h2, hm], hv⟩
    · exact hv.elim
  · rename_i sc n ls l k x
    split at hv
    · rename_i kd vd h1 hk hx
      split at hv
      · rename_i ver es hl
        have hv := hv _ rfl
        cases hm : mfind sc n ls kd es 0 with
        | none => rw [hm] at hv; exact hv.elim
        | some r =>
          rw [hm] at hv
          cases r with
          | none => exact ⟨_, _, by simp only [mstep, hk, hx, hl, hm], hv _ rfl⟩
          | some p => obtain ⟨j, v⟩ := p; exact ⟨_, _, by simp only [mstep, hk, hx, hl, hm], hv _ rfl⟩
      · exact hv.elim
    · exact hv.elim
  · rename_i sc n ls l k
    split at hv
    · rename_i ver es kd h1 h2
      have hv := hv _ rfl
      cases hm : mfind sc n ls kd es 0 with
      | none => rw [hm] at hv; exact hv.elim
      | some r =>
        rw [hm] at hv
        cases r with
        | none => exact ⟨_, _, by simp only [mstep, h1, h2, hm], hv⟩
        | some p => obtain ⟨j, v⟩ := p; exact ⟨_, _, by simp only [mstep, h1, h2, hm], hv _ rfl⟩
    · exact hv.elim
  · rename_i l
    split at hv
    · rename_i ver es h1
      exact ⟨_, _, by simp only [mstep, h1], hv _ rfl⟩
    · exact hv.elim
  · exact hv.elim

def vcOp (P : Program) (Λ : Len) (m : Nat) (d : Bool) (op : AOp) (L : Lv) (h : Hp) (K : Lv → AV → Hp → Prop) : Prop :=
  match op with
  | .mv x => K L (evN L x) h
  | .pick c a b => match evN L c with
    | .c (.d (.bool t)) => (match t with
      | true => K L (evN L a) h
      | false => K L (evN L b) h)
    | _ => False
  | .ld x none => vRd h (evN L x) fun cs => match cs with
    | c :: _ => K L (.c c) h
    | [] => False
  | .ld x (some n) => vRd h (evN L x) fun cs => n ≤ cs.length ∧ K L (.agg (cs.take n)) h
  | .st x v n => match cells (evN L v) with
    | some cs => cs.length = n ∧ (Unit → cellsOk h cs = true) ∧ vSt h (evN L x) cs fun h' => K L (.c .u) h'
    | none => False
  | .bin bo a b => vBin bo (evN L a) (evN L b) fun v => K L v h
  | .beq ne a b => match evN L a, evN L b with
    | .c (.d (.bool x)), .c (.d (.bool y)) => (match x, y with
      | true, true => K L (.c (.d (.bool (!ne)))) h
      | false, false => K L (.c (.d (.bool (!ne)))) h
      | true, false => K L (.c (.d (.bool ne))) h
      | false, true => K L (.c (.d (.bool ne))) h)
    | _, _ => False
  | .eqa ne n ls a b => match evN L a, evN L b with
    | .agg xs, .agg ys => xs.length = n ∧ ys.length = n ∧ (match eqP xs ys ls with
      | some p => (p → K L (.c (.d (.bool (!ne)))) h) ∧ (¬ p → K L (.c (.d (.bool ne))) h)
      | none => False)
    | _, _ => False
  | .un .not x => match evN L x with
    | .c (.d (.bool b)) => (match b with
      | true => K L (.c (.d (.bool false))) h
      | false => K L (.c (.d (.bool true))) h)
    | _ => False
  | .isnil kd ne x => (match kd, d, evN L x with
    | 0, false, .c (.d (.list false _ l)) => K L (.c (.d (.bool ne))) h ∧ (l = [] → K L (.c (.d (.bool (!ne)))) h)
    | kd, _, v => match isNil h kd v with
      | some b => (match b with
        | true => K L (.c (.d (.bool (!ne)))) h
        | false => K L (.c (.d (.bool ne))) h)
      | none => False)
  | .cvi k x => match evN L x with
    | .c (.d (.int _ n)) => ∀ c, c = k.wrap n → K L (.c (.d (.int k c))) h
    | _ => False
  | .sl sz x lo hi mx => match ointN L lo, ointN L hi, ointN L mx with
    | some lo, some hi, some mx => (match evN L x with
      | .c (.arr l v i n) => (match h[l]? with
        | some (.da _ v' sz' _) => (match Nat.beq sz' sz with
          | true => (Unit → v' = v) ∧ vSl Λ sz (.c (.arr l v i n)) lo hi mx fun r => K L r h
          | false => False)
        | _ => False)
      | xv => vSl Λ sz xv lo hi mx fun r => K L r h)
    | _, _, _ => False
  | .ias sz x i => match evN L i with
    | .c (.d (.int _ n)) => vIx Λ h sz (evN L x) n fun r => K L r h
    | _ => False
  | .iaa n sz x (.t i) => match lkN L i with
    | .c (.d (.int _ k)) => (Unit → 0 ≤ k ∧ k < nI n) ∧ vAll k (fun j => match evN L x with
      | .c (.rp cs) => K L (.c (.rp (cs.drop (j * sz)))) h
      | .c (.ptr l v p q) => (match solid h (.ptr l v p q) with
        | true => K L (.c (.ptr l v p (q + j * sz))) h
        | false => False)
      | _ => False) n
    | _ => False
  | .ixa n sz ag x (.t i) => match lkN L i with
    | .c (.d (.int _ k)) => (Unit → 0 ≤ k ∧ k < nI n) ∧ vAll k (fun j => match evN L x with
      | .agg l => (match ag with
        | true => (match Nat.ble (j * sz + sz) l.length with
          | true => K L (.agg ((l.drop (j * sz)).take sz)) h
          | false => False)
        | false => (match l[j * sz]? with
          | some c => K L (.c c) h
          | none => False))
      | _ => False) n
    | _ => False
  | .len x => match d, evN L x with
    | false, .c (.arr l v _ n) => (match h[l]? with
      | some (.da _ v' _ _) => (Unit → v' = v) ∧ ∀ c : Int, c = nI n → c ≤ 9223372036854775807 → K L (.c (.d (.int .i64 c))) h
      | _ => False)
    | d, xv => match view h xv with
    | some (_, l) => (match d with
      | true => K L (.c (.d (.int .i64 (Λ l)))) h
      | false => Λ l ≤ 9223372036854775807 → K L (.c (.d (.int .i64 (Λ l)))) h)
    | none => False
  | .app sz bytes _ x y => match view h (evN L y) with
    | some (sz', ys) => (match Nat.beq sz' sz with
      | true => vApp h sz bytes (evN L x) ys (K L)
      | false => False)
    | none => False
  | .mks sz bytes z l c => match evN L l, evN L c with
    | .c (.d (.int _ n)), .c (.d (.int _ m)) => (Unit → 0 ≤ n ∧ n ≤ m ∧ m ≤ 9223372036854775807 ∧ m.toNat * bytes ≤ 140737488355328) ∧
        ∀ k es, k = n.toNat → es = List.replicate n.toNat z → K L (.c (.arr h.length 0 0 k)) (h ++ [.da true 0 sz es])
    | _, _ => False
  | .bsl sz z n ps => match elemsOf h (lkN L) ps with
    | some (as, h1) => (match fillE sz (List.replicate n z) as with
      | some es => (d = true → h1 = h) ∧ (n * sz ≤ 16777216 ∧ n ≤ 16777216) ∧ K L (.c (.arr h1.length 0 0 n)) (h1 ++ [.da true 0 sz es])
      | none => False)
    | none => False
  | .mo o xs => vMo o (evsN L xs) h (K L)
  | .call f xs => CallS P m d L h f xs K
  | .callv x xs => match d, evN L x with
    | false, .c (.fn f caps) => FnOk P f ∧ CallV P h f (evsN L xs ++ caps.map .c) (K L)
    | _, _ => False
  | op => match astep (lkN L) h op with
    | some (v, h') => K L v h'
    | none => False

/-- what an operation comes to, by its condition -/
inductive Did (P : Program) (m : Nat) (d : Bool) (op : AOp) : Lv → Hp → (Lv → AV → Hp → Prop) → Prop
  | wk {L : Lv} {h : Hp} {L1 : Lv} {h1 : Hp} {K : Lv → AV → Hp → Prop} (hd : d = false) (hw : Wk m L h L1 h1) (k : Did P m d op L1 h1 K) : Did P m d op L h K
  | step {L : Lv} {h : Hp} {K : Lv → AV → Hp → Prop} (v : AV) (h' : Hp) (hs : astep (lkL L) h op = some (v, h')) (hd : d = true → cls op = 1 → ∃ k, h' = h ++ [k]) (k : K L v h') : Did P m d op L h K
  | call {L : Lv} {h : Hp} {K : Lv → AV → Hp → Prop} (f : Nat) (xs : List X) (ho : op = .call f xs) (hc : CallS P m d L h f xs K) : Did P m d op L h K
  | len {L : Lv} {h : Hp} {K : Lv → AV → Hp → Prop} (x : X) (sz : Nat) (l : List (List D)) (ho : op = .len x) (hd : d = false) (hx : view h (ev (lkL L) x) = some (sz, l)) (k : l.length ≤ 9223372036854775807 → K L (.c (.d (.int .i64 l.length))) h) : Did P m d op L h K
  | lenA {L : Lv} {h : Hp} {K : Lv → AV → Hp → Prop} (x : X) (l v i n : Nat) (ho : op = .len x) (hd : d = false) (hx : ev (lkL L) x = .c (.arr l v i n)) (hs : solid h (.arr l v i n) = true) (k : n ≤ 9223372036854775807 → K L (.c (.d (.int .i64 n))) h) : Did P m d op L h K
  | nil {L : Lv} {h : Hp} {K : Lv → AV → Hp → Prop} (ne : Bool) (x : X) (nl : Bool) (sz : Nat) (l : List (List D)) (ho : op = .isnil 0 ne x) (hd : d = false) (hx : ev (lkL L) x = .c (.d (.list nl sz l))) (k : ∀ b : Bool, (b = true → l = []) → K L (.c (.d (.bool (if ne then !b else b)))) h) : Did P m d op L h K
  | callv {L : Lv} {h : Hp} {K : Lv → AV → Hp → Prop} (x : X) (xs : List X) (f : Nat) (caps : List CV) (ho : op = .callv x xs) (hd : d = false) (hx : ev (lkL L) x = .c (.fn f caps)) (hf : FnOk P f) (hc : CallV P h f (evsN L xs ++ caps.map .c) (K L)) : Did P m d op L h K

theorem lkN_fun (L : Lv) : lkN L = lkL L := funext (lkN_eq L)

theorem bool_ne (ne x : Bool) : (if ne = true then !(x == x) else x == x) = !ne := by cases ne <;> cases x <;> rfl

theorem vcOp_sound {P : Program} {Λ : Len} (hΛ : ∀ l, Λ l = (l.length : Int)) {m : Nat} {d : Bool} {op : AOp} {L : Lv} {h : Hp} {K : Lv → AV → Hp → Prop} (hv : vcOp P Λ m d op L h K) : Did P m d op L h K := by
  cases op
  case mv x => rw [vcOp, evN_eq] at hv; exact .step _ _ rfl (by simp [cls]) hv
  case pick c a b =>
    simp only [vcOp, evN_eq] at hv
    split at hv
    · rename_i t ht
      cases t
      · exact .step _ _ (by simp [astep, ht]) (by simp [cls]) hv
      · exact .step _ _ (by simp [astep, ht]) (by simp [cls]) hv
    · exact hv.elim
  case ld x n =>
    cases n with
    | none =>
      simp only [vcOp, evN_eq] at hv
      obtain ⟨cs, hrd, hk⟩ := vRd_sound hv
      split at hk
      · exact .step _ _ (by simp only [astep, hrd]) (by simp [cls]) hk
      · exact hk.elim
    | some n =>
      simp only [vcOp, evN_eq] at hv
      obtain ⟨cs, hrd, hk⟩ := vRd_sound hv
      exact .step _ _ (by simp only [astep, hrd, hk.1, if_true]) (by simp [cls]) hk.2
  case st x v n =>
    simp only [vcOp, evN_eq] at hv
    split at hv
    · rename_i cs hcs
      obtain ⟨h1, h2, h3⟩ := hv
      have h2 := h2 ()
      obtain ⟨h', hw, hk⟩ := vSt_sound h3
      refine .step _ h' ?_ (by simp [cls]) hk
      rcases hw with hw | ⟨hw1, hw2⟩
      · simp [astep, hcs, h1, h2, hw]
      · simp [astep, hcs, h1, h2, hw1, hw2]
    · exact hv.elim
  case bin bo a b =>
    simp only [vcOp, evN_eq] at hv
    obtain ⟨x, y, r, h1, h2, h3, h4⟩ := vBin_sound hv
    exact .step _ _ (by simp only [astep, h1, h2, h3, Option.map_some]) (by simp [cls]) h4
  case beq ne a b =>
    simp only [vcOp, evN_eq] at hv
    split at hv
    · rename_i x y h1 h2
      split at hv
      · exact .step _ _ (by simp only [astep, h1, h2, bool_ne]) (by simp [cls]) hv
      · exact .step _ _ (by simp only [astep, h1, h2, bool_ne]) (by simp [cls]) hv
      · exact .step _ _ (by simp only [astep, h1, h2]; cases ne <;> rfl) (by simp [cls]) hv
      · exact .step _ _ (by simp only [astep, h1, h2]; cases ne <;> rfl) (by simp [cls]) hv
    · exact hv.elim
  case eqa ne n ls a b =>
    simp only [vcOp, evN_eq] at hv
    split at hv
    · rename_i xs ys h1 h2
      obtain ⟨h3, h4, hv⟩ := hv
      split at hv
      · rename_i p hp
        obtain ⟨r, hr, hi⟩ := eqP_sound hp
        by_cases hpp : p
        · have : r = true := hi.2 hpp
          subst this
          exact .step _ _ (by simp only [astep, h1, h2, h3, h4, and_self, if_true, hr, Option.map_some]; cases ne <;> rfl) (by simp [cls]) (hv.1 hpp)
        · have : r = false := by cases r; rfl; exact absurd (hi.1 rfl) hpp
          subst this
          exact .step _ _ (by simp only [astep, h1, h2, h3, h4, and_self, if_true, hr, Option.map_some]; cases ne <;> rfl) (by simp [cls]) (hv.2 hpp)
      · exact hv.elim
    · exact hv.elim
  case un o x =>
    cases o
    case not =>
      simp only [vcOp, evN_eq] at hv
      split at hv
      · rename_i b hb
        cases b
        · exact .step _ _ (by simp [astep, hb, unD]) (by simp [cls]) hv
        · exact .step _ _ (by simp [astep, hb, unD]) (by simp [cls]) hv
      · exact hv.elim
    all_goals
      simp only [vcOp, lkN_fun] at hv
      split at hv
      · rename_i v h' hs; exact .step v h' hs (by simp [cls]) hv
      · exact hv.elim
  case isnil kd ne x =>
    simp only [vcOp, evN_eq] at hv
    split at hv
    · rename_i sz l hx
      refine .nil ne x false sz l rfl rfl hx fun b hb => ?_
      cases b with
      | false => cases ne <;> exact hv.1
      | true => cases ne <;> exact hv.2 (hb rfl)
    · split at hv
      · rename_i b hb
        cases b with
        | true => exact .step _ _ (by simp only [astep, hb, Option.map_some]; rfl) (by simp [cls]) (by cases ne <;> exact hv)
        | false => exact .step _ _ (by simp only [astep, hb, Option.map_some]; rfl) (by simp [cls]) (by cases ne <;> exact hv)
      · exact hv.elim
  case cvi k x =>
    simp only [vcOp, evN_eq] at hv
    split at hv
    · rename_i k0 n hn
      exact .step _ _ (by simp only [astep, hn]) (by simp [cls]) (hv _ rfl)
    · exact hv.elim
  case sl sz x lo hi mx =>
    simp only [vcOp, evN_eq, ointN_eq] at hv
    split at hv
    · rename_i lo' hi' mx' h1 h2 h3
      split at hv
      · rename_i l v i n hx
        split at hv
        · rename_i rl v' sz' es hes
          split at hv
          · rename_i q2
            have q1 : v' = v := hv.1 ()
            have q2 : sz' = sz := by simpa [Nat.beq_eq] using q2
            subst q1 q2
            obtain ⟨r, hr, hk⟩ := vSl_sound hΛ hv.2
            exact .step _ _ (by simp only [astep, h1, h2, h3, hx, hes, and_self, if_true, hr, Option.map_some]) (by simp [cls]) hk
          · exact hv.elim
        · exact hv.elim
      · rename_i hne
        obtain ⟨r, hr, hk⟩ := vSl_sound hΛ hv
        refine .step _ _ ?_ (by simp [cls]) hk
        simp only [astep, h1, h2, h3]
        rw [hr]; rfl
    · exact hv.elim
  case ias sz x i =>
    simp only [vcOp, evN_eq] at hv
    split at hv
    · rename_i k n hn
      obtain ⟨r, hr, hk⟩ := vIx_sound hΛ hv
      exact .step _ _ (by simp only [astep, hn, hr, Option.map_some]) (by simp [cls]) hk
    · exact hv.elim
  case iaa n sz x i =>
    cases i with
    | t i =>
      simp only [vcOp, evN_eq, lkN_eq] at hv
      split at hv
      · rename_i kk k hk
        have h01 := hv.1 ()
        rw [nI_eq] at h01
        have hv := vAll_sound hv.2 h01.1 h01.2
        have hk' : ev (lkL L) (.t i) = .c (.d (.int kk k)) := hk
        split at hv
        · rename_i cs hx
          exact .step _ _ (by simp only [astep, hk', h01, and_self, if_true, hx]) (by simp [cls]) hv
        · rename_i l v p q hx
          split at hv
          · rename_i hs
            exact .step _ _ (by simp only [astep, hk', h01, and_self, if_true, hx, hs]) (by simp [cls]) hv
          · exact hv.elim
        · exact hv.elim
      · exact hv.elim
    | k v =>
      simp only [vcOp, lkN_fun] at hv
      split at hv
      · rename_i v h' hs; exact .step v h' hs (by simp [cls]) hv
      · exact hv.elim
  case ixa n sz ag x i =>
    cases i with
    | t i =>
      simp only [vcOp, evN_eq, lkN_eq] at hv
      split at hv
      · rename_i kk k hk
        have h01 := hv.1 ()
        rw [nI_eq] at h01
        have hv := vAll_sound hv.2 h01.1 h01.2
        have hk' : ev (lkL L) (.t i) = .c (.d (.int kk k)) := hk
        split at hv
        · rename_i l hx
          split at hv
          · split at hv
            · rename_i hle
              have hle := Nat.le_of_ble_eq_true hle
              exact .step _ _ (by simp only [astep, hk', h01, and_self, if_true, hx, hle]) (by simp [cls]) hv
            · exact hv.elim
          · split at hv
            · rename_i c hcc
              exact .step _ _ (by simp only [astep, hk', h01, and_self, if_true, hx, hcc, Bool.false_eq_true, if_false, Option.map_some]) (by simp [cls]) hv
            · exact hv.elim
        · exact hv.elim
      · exact hv.elim
    | k v =>
      simp only [vcOp, lkN_fun] at hv
      split at hv
      · rename_i v h' hs; exact .step v h' hs (by simp [cls]) hv
      · exact hv.elim
  case len x =>
    simp only [vcOp, evN_eq] at hv
    split at hv
    · rename_i l v i n hx
      split at hv
      · rename_i r v' sz es hes
        have q : v' = v := hv.1 ()
        subst q
        exact .lenA x l v' i n rfl rfl hx (by simp [solid, hes]) fun hm => hv.2 _ (nI_eq _).symm (by omega)
      · exact hv.elim
    · split at hv
      rotate_left
      · exact hv.elim
      rename_i sz l hl
      split at hv
      · rw [hΛ] at hv; exact .step _ _ (by simp only [astep, hl]) (by simp [cls]) hv
      · rw [hΛ] at hv; exact .len x sz l rfl rfl hl fun hm => hv (by omega)
  case app sz bytes z x y =>
    simp only [vcOp, evN_eq] at hv
    split at hv
    · rename_i sz' ys hys
      split at hv
      · rename_i q1
        have q1 : sz' = sz := by simpa [Nat.beq_eq] using q1
        subst q1
        obtain ⟨r, h', hr, hk⟩ := vApp_sound hv
        exact .step _ _ (by simp only [astep, hys, if_true]; exact hr) (by simp [cls]) hk
      · exact hv.elim
    · exact hv.elim
  case mks sz bytes z l c =>
    simp only [vcOp, evN_eq] at hv
    split at hv
    · rename_i k n k' m h1 h2
      exact .step _ _ (by simp only [astep, h1, h2]; rw [if_pos (hv.1 ())]) (fun _ _ => ⟨_, rfl⟩) (hv.2 _ _ rfl rfl)
    · exact hv.elim
  case bsl sz z n ps =>
    simp only [vcOp, lkN_fun] at hv
    split at hv
    · rename_i as h1 has
      split at hv
      · rename_i es hes
        exact .step _ _ (by simp only [astep, has, hes]; rw [if_pos hv.2.1]) (fun hd _ => ⟨_, by rw [hv.1 hd]⟩) hv.2.2
      · exact hv.elim
    · exact hv.elim
  case mo o xs =>
    simp only [vcOp, evsN_eq] at hv
    obtain ⟨v, h', hs, hk⟩ := vMo_sound hv
    exact .step v h' hs (by cases o <;> simp [cls]) hk
  case call f xs => exact .call f xs rfl hv
  case callv x xs =>
    simp only [vcOp, evN_eq] at hv
    split at hv
    · rename_i f caps hx
      exact .callv x xs f caps rfl rfl hx hv.1 hv.2
    · exact hv.elim
  case box x =>
    simp only [vcOp, lkN_fun] at hv
    split at hv
    · rename_i v h' hs
      refine .step v h' hs (fun _ _ => ?_) hv
      simp only [astep] at hs
      split at hs
      · split at hs
        · cases hs; exact ⟨_, rfl⟩
        · cases hs
      · cases hs
    · exact hv.elim
  all_goals
    simp only [vcOp, lkN_fun] at hv
    split at hv
    · rename_i v h' hs; exact .step v h' hs (by simp [cls]) hv
    · exact hv.elim

/-- the operations of a region, in the text's order -/
def vcOps (P : Program) (Λ : Len) (m : Nat) (d : Bool) : List AO → Lv → Hp → (Lv → Hp → Prop) → Prop
  | [], L, h, K => K L h
  | o :: r, L, h, K => match o.g with
    | none => vcOp P Λ m d o.op L h fun L' v h' => vcOps P Λ m d r (putL L' o.dst v) h' K
    | some (s, want) => match lkN L s with
      | .c (.d (.bool b)) => (match b, want with
        | true, true => vcOp P Λ m d o.op L h fun L' v h' => vcOps P Λ m d r (putL L' o.dst v) h' K
        | false, false => vcOp P Λ m d o.op L h fun L' v h' => vcOps P Λ m d r (putL L' o.dst v) h' K
        | true, false => vcOps P Λ m d r (putL L o.dst (.tup [])) h K
        | false, true => vcOps P Λ m d r (putL L o.dst (.tup [])) h K)
      | .tup [] => vcOps P Λ m d r (putL L o.dst (.tup [])) h K
      | _ => False

theorem vcOps_cons {P : Program} {Λ : Len} {m : Nat} {d : Bool} {o : AO} {r : List AO} {L : Lv} {h : Hp} {K : Lv → Hp → Prop} (hv : vcOps P Λ m d (o :: r) L h K) :
    (gv (lkL L) o.g = some true ∧ vcOp P Λ m d o.op L h fun L' v h' => vcOps P Λ m d r (putL L' o.dst v) h' K) ∨ (gv (lkL L) o.g = some false ∧ vcOps P Λ m d r (putL L o.dst (.tup [])) h K) := by
  simp only [vcOps] at hv
  split at hv
  · rename_i hg; exact .inl ⟨by simp [hg, gv], hv⟩
  · rename_i s want hg
    split at hv
    · rename_i b hb
      rw [lkN_eq] at hb
      have hgv : gv (lkL L) o.g = some (b == want) := by simp [hg, gv, lk, hb]
      split at hv
      · exact .inl ⟨hgv, hv⟩
      · exact .inl ⟨hgv, hv⟩
      · exact .inr ⟨hgv, hv⟩
      · exact .inr ⟨hgv, hv⟩
    · rename_i hb
      rw [lkN_eq] at hb
      exact .inr ⟨by simp [hg, gv, lk, hb], hv⟩
    · exact hv.elim

theorem CallS.mono {P : Program} {m : Nat} {d : Bool} {L : Lv} {h : Hp} {f : Nat} {xs : List X} {K K' : Lv → AV → Hp → Prop} (hc : CallS P m d L h f xs K) (hk : ∀ L v h', K L v h' → K' L v h') : CallS P m d L h f xs K' := by
  induction hc with
  | pure hp k => exact .pure hp (hk _ _ _ k)
  | fn hf => exact .fn (hf.mono (hk _))
  | wk hw _ ih => exact .wk hw (ih hk)

theorem CallV.mono {P : Program} {h : Hp} {f : Nat} {args : List AV} {K K' : AV → Hp → Prop} (hc : CallV P h f args K) (hk : ∀ v h', K v h' → K' v h') : CallV P h f args K' := by
  cases hc with
  | pure hp k => exact .pure hp (hk _ _ k)
  | fn hf => exact .fn (hf.mono hk)

theorem Did.mono {P : Program} {m : Nat} {d : Bool} {op : AOp} {L : Lv} {h : Hp} {K K' : Lv → AV → Hp → Prop} (hd : Did P m d op L h K) (hk : ∀ L v h', K L v h' → K' L v h') : Did P m d op L h K' := by
  induction hd with
  | wk hd hw k ih => exact .wk hd hw (ih hk)
  | step v h' hs hd k => exact .step v h' hs hd (hk _ _ _ k)
  | call f xs ho hc => exact .call f xs ho (hc.mono hk)
  | len x sz l ho hd hx k => exact .len x sz l ho hd hx fun hm => hk _ _ _ (k hm)
  | lenA x l v i n ho hd hx hs k => exact .lenA x l v i n ho hd hx hs fun hm => hk _ _ _ (k hm)
  | nil ne x nl sz l ho hd hx k => exact .nil ne x nl sz l ho hd hx fun b hb => hk _ _ _ (k b hb)
  | callv x xs f caps ho hd hx hf hc => exact .callv x xs f caps ho hd hx hf (hc.mono (hk _))

/-- the operations of a region, as they come to be done -/
def runO (P : Program) (m : Nat) (d : Bool) : List AO → Lv → Hp → (Lv → Hp → Prop) → Prop
  | [], L, h, K => K L h
  | o :: r, L, h, K => (gv (lkL L) o.g = some true ∧ Did P m d o.op L h fun L' v h' => runO P m d r (putL L' o.dst v) h' K) ∨ (gv (lkL L) o.g = some false ∧ runO P m d r (putL L o.dst (.tup [])) h K)

theorem vcOps_runO {P : Program} {Λ : Len} (hΛ : ∀ l, Λ l = (l.length : Int)) {m : Nat} {d : Bool} {K : Lv → Hp → Prop} : ∀ {ops : List AO} {L : Lv} {h : Hp}, vcOps P Λ m d ops L h K → runO P m d ops L h K := by
  intro ops
  induction ops with
  | nil => intro L h hv; exact hv
  | cons o r ih =>
    intro L h hv
    rcases vcOps_cons hv with ⟨h1, h2⟩ | ⟨h1, h2⟩
    · exact .inl ⟨h1, (vcOp_sound hΛ h2).mono fun L' v h' hk => ih hk⟩
    · exact .inr ⟨h1, ih h2⟩

end Go.Ab

/-
  The engine, part w: texts and functions.
-/
namespace Go.Ab

section
variable {P : Program} {N : Nat} {G0 : Nat → Prop} {ι0 : Io} {h0 : Hp} {w0 : World}

theorem take_get {α : Type} {l t : List α} {i : Nat} (hi : i < l.length) : (l ++ t)[i]? = l[i]? := List.getElem?_append_left hi

theorem refsCs_get {n : Nat} {l : List CV} (h : refsCs n l = true) : ∀ (i : Nat) (x : CV), l[i]? = some x → refsC n x = true := by
  induction l with
  | nil => intro i x hx; simp at hx
  | cons y r ih =>
    intro i x hx
    simp only [refsCs, refsC.refsCs] at h
    split at h
    · rename_i hy
      cases i with
      | zero => simp at hx; subst hx; exact hy
      | succ i => simp at hx; exact ih h i x hx
    · cases h

theorem refsC_move {G : Nat → Prop} {w : World} {ι : Io} {h' t : Hp} {v : Value} {x : CV} (hx : CR G w ι (h' ++ t) v x) (hr : refsC h'.length x = true) : CR G w (ι.take h'.length) h' v x := by
  induction hx with
  | u => exact .u _
  | d _ _ hd => exact .d _ _ hd
  | cl _ _ _ _ hd hc => exact .cl _ _ _ _ hd hc
  | rp b o cs hG hc => exact .rp b o cs hG hc
  | mp _ l blk hb hk =>
    have hl : l < h'.length := Nat.le_of_ble_eq_true hr
    rw [take_get hl] at hb
    refine .mp _ _ blk hb fun ver es he => ?_
    obtain ⟨b, o, h1, h2⟩ := hk ver es he
    exact ⟨b, o, by rw [List.getElem?_take, if_pos hl]; exact h1, h2⟩
  | it _ l blk hb hk =>
    have hl : l < h'.length := Nat.le_of_ble_eq_true hr
    rw [take_get hl] at hb
    refine .it _ _ blk hb fun m ver es he => ?_
    obtain ⟨b, o, h1, h2⟩ := hk m ver es he
    exact ⟨b, o, by rw [List.getElem?_take, if_pos hl]; exact h1, h2⟩
  | ptr _ l ver i j blk hb ha hk =>
    have hl : l < h'.length := Nat.le_of_ble_eq_true hr
    rw [take_get hl] at hb
    refine .ptr _ _ _ _ _ blk hb ha fun k hk' => ?_
    obtain ⟨b, o, h1, h2⟩ := hk k hk'
    exact ⟨b, o, by rw [List.getElem?_take, if_pos hl]; exact h1, h2⟩
  | arr _ l ver i j blk hb ha hk hk0 =>
    have hl : l < h'.length := Nat.le_of_ble_eq_true hr
    rw [take_get hl] at hb
    refine .arr _ _ _ _ _ blk hb ha (fun sz es he => ?_) hk0
    obtain ⟨b, o, cap, h1, h2⟩ := hk sz es he
    exact ⟨b, o, cap, by rw [List.getElem?_take, if_pos hl]; exact h1, h2⟩
  | fn f vs caps hn hc ih =>
    simp only [refsC] at hr
    exact .fn f vs caps hn fun i v c hv hx => ih i v c hv hx (refsCs_get hr i c hx)

theorem refsA_move {G : Nat → Prop} {w : World} {ι : Io} {h' t : Hp} {v : Value} {x : AV} (hx : VR G w ι (h' ++ t) v x) (hr : refsA h'.length x = true) : VR G w (ι.take h'.length) h' v x := by
  cases hx with
  | c _ _ hc => exact .c _ _ (refsC_move hc hr)
  | agg cs l hn hc => exact .agg _ _ hn fun i v x hv hx => refsC_move (hc i v x hv hx) (refsCs_get hr i x hx)
  | tup cs l hn hc =>
    cases l with
    | nil => exact .tup _ _ hn (by simp)
    | cons => simp [refsA] at hr

theorem refsH_get {n : Nat} {h : Hp} (hr : refsH n h = true) : ∀ (i : Nat) (b : Blk), h[i]? = some b → refsB n b = true := by
  induction h with
  | nil => intro i x hx; simp at hx
  | cons y r ih =>
    intro i x hx
    simp only [refsH] at hr
    split at hr
    · rename_i hy
      cases i with
      | zero => simp at hx; subst hx; exact hy
      | succ i => simp at hx; exact ih hr i x hx
    · cases hr

theorem KeepL_get {n : Nat} {L : Lv} : ∀ {L' : Lv}, KeepL n L L' → ∀ i, lkL L' i = .c .u ∨ (lkL L' i = lkL L i ∧ refsA n (lkL L i) = true) := by
  intro L'
  induction L' with
  | nil => intro _ i; exact .inl rfl
  | cons p r ih =>
    intro hk i
    obtain ⟨j, v⟩ := p
    obtain ⟨⟨h1, h2⟩, h3⟩ := hk
    simp only [lkL, upd]
    by_cases hj : j = i
    · subst hj
      rw [if_pos rfl]
      rw [lkN_eq] at h1
      right; exact ⟨h1.symm, by rw [h1]; exact h2⟩
    · rw [if_neg hj]; exact ih h3 i

theorem Wk.cut_fits {m : Nat} {L L' : Lv} {h h' : Hp} {a : Act} {w : World} (heap : ∃ t, h = h' ++ t) (least : m ≤ h'.length) (refs : refsH h'.length h' = true) (env : KeepL h'.length L L') (hm : h0.length ≤ m)
    (hf : Fits N G0 ι0 h0 w0 (lkL L) h a w) : Fits N G0 ι0 h0 w0 (lkL L') h' a w := by
  obtain ⟨t, rfl⟩ := heap
  obtain ⟨G, ι, st⟩ := hf
  have hlen := st.rel.hr.len
  simp only [List.length_append] at hlen
  have hle := least
  have hι : ∀ l, l < h'.length → (ι.take h'.length)[l]? = ι[l]? := fun l hl => by rw [List.getElem?_take, if_pos hl]
  have hown : ∀ b, owned (ι.take h'.length) h' b → owned ι (h' ++ t) b := fun b ⟨l, o, k, h1, h2, h3⟩ =>
    ⟨l, o, k, by rw [← hι l (get_lt h2)]; exact h1, by rw [take_get (get_lt h2)]; exact h2, h3⟩
  have hr : HR G (ι.take h'.length) h' w :=
    { len := by simp; omega
      inj := fun l l' b o o' k k' a1 a2 b1 b2 c1 c2 => st.rel.hr.inj l l' b o o' k k' (by rw [← hι l (get_lt b1)]; exact a1) (by rw [← hι l' (get_lt b2)]; exact a2)
        (by rw [take_get (get_lt b1)]; exact b1) (by rw [take_get (get_lt b2)]; exact b2) c1 c2
      g := fun b hb => ⟨(st.rel.hr.g b hb).1, fun ho => (st.rel.hr.g b hb).2 (hown b ho)⟩
      blk := fun l k hk => by
        have hl := get_lt hk
        have hb := st.rel.hr.blk l k (by rw [take_get hl]; exact hk)
        have hrb := refsH_get refs l k hk
        cases k with
        | dead => trivial
        | bx cs =>
          obtain ⟨b, o, c, ty, fr, h1, h2, h3, h4, h5⟩ := hb
          refine ⟨b, o, c, ty, fr, by rw [hι l hl]; exact h1, h2, h3, h4, fun i x hx => ?_⟩
          obtain ⟨v, hv, hc⟩ := h5 i x hx
          exact ⟨v, hv, refsC_move hc (refsCs_get hrb i x hx)⟩
        | mp ver es =>
          obtain ⟨b, o, ces, clock, h1, h2⟩ := hb
          exact ⟨b, o, ces, clock, by rw [hι l hl]; exact h1, h2⟩
        | mi m' ver es =>
          have hm' : m' < h'.length := Nat.le_of_ble_eq_true hrb
          obtain ⟨b, o, mb, seen, clock, blk, h1, h2, h3, h4, h5⟩ := hb
          rw [take_get hm'] at h3
          refine ⟨b, o, mb, seen, clock, blk, by rw [hι l hl]; exact h1, h2, h3, h4, fun all ha => ?_⟩
          obtain ⟨o', ces, g1, g2⟩ := h5 all ha
          exact ⟨o', ces, by rw [hι m' hm']; exact g1, g2⟩
        | da rl v sz es =>
          cases rl with
          | false => exact hb
          | true =>
            obtain ⟨b, o, c, ty, fr, hmx, h1, h2, h3⟩ := hb
            exact ⟨b, o, c, ty, fr, hmx, by rw [hι l hl]; exact h1, h2, h3⟩ }
  refine ⟨G, ι.take h'.length, ⟨hr, st.rel.dfr, st.rel.size, fun i => ?_⟩, ?_⟩
  · rcases KeepL_get env i with h1 | ⟨h1, h2⟩
    · simp only [lk, h1]; exact .c _ _ (.u _)
    · simp only [lk, h1]; exact refsA_move (st.rel.env i) h2
  · exact
      { size := st.ext.size
        quiet := st.ext.quiet
        frame := st.ext.frame
        gmono := st.ext.gmono
        gnew := st.ext.gnew
        onew := fun b ho => st.ext.onew b (hown b ho)
        keep := fun l k hk => by
          obtain ⟨k', h1, h2⟩ := st.ext.keep l k hk
          have hl : l < h'.length := by have := get_lt hk; omega
          rw [take_get hl] at h1
          refine ⟨k', h1, ?_⟩
          cases k with
          | dead => cases k' <;> first | trivial | (simp [Kept] at h2)
          | bx cs =>
            cases k' with
            | dead => trivial
            | bx cs' => exact ⟨h2.1, by rw [hι l hl]; exact h2.2⟩
            | _ => simp [Kept] at h2
          | mp v es =>
            cases k' with
            | dead => trivial
            | mp v' es' => exact ⟨by rw [hι l hl]; exact h2.1, h2.2⟩
            | _ => simp [Kept] at h2
          | mi m' v es =>
            cases k' with
            | dead => trivial
            | mi m2 v' es' => exact ⟨h2.1, h2.2.1, by rw [hι l hl]; exact h2.2.2⟩
            | _ => simp [Kept] at h2
          | da rl v sz es =>
            cases k' with
            | dead => trivial
            | da rl' v' sz' es' =>
              rcases h2 with h2 | ⟨q1, q0, q2, q3, q4, q5⟩
              · exact .inl h2
              · exact .inr ⟨q1, q0, q2, q3, by rw [hι l hl]; exact q4, q5⟩
            | _ => simp [Kept] at h2 }

theorem nil_value {G : Nat → Prop} {w : World} {v : Value} {sz : Nat} (hd : DR G w v (.list true sz [])) : v = .slice none 0 0 := by
  cases hd; rfl

theorem FzH_get {l v sz : Nat} {es : List (List D)} : ∀ {h h' : Hp} {n : Nat}, FzH l v sz es n h h' → h.length = h'.length ∧
    ∀ (i : Nat) (b b' : Blk), h[i]? = some b → h'[i]? = some b' → (n + i = l ∧ b' = .dead) ∨ (n + i ≠ l ∧ FzB l v sz es b b') := by
  intro h
  induction h with
  | nil =>
    intro h' n hf
    cases h' with
    | nil => exact ⟨rfl, by simp⟩
    | cons => simp [FzH] at hf
  | cons b h ih =>
    intro h' n hf
    cases h' with
    | nil => simp [FzH] at hf
    | cons b' h' =>
      obtain ⟨h1, h2⟩ := hf
      obtain ⟨i1, i2⟩ := ih h2
      refine ⟨by simp [i1], fun i x y hx hy => ?_⟩
      cases i with
      | zero => simp at hx hy; subst hx hy; exact h1
      | succ i =>
        simp at hx hy
        rcases i2 i x y hx hy with ⟨q1, q2⟩ | ⟨q1, q2⟩
        · exact .inl ⟨by omega, q2⟩
        · exact .inr ⟨by omega, q2⟩

theorem FzCs_get {l v sz : Nat} {es : List (List D)} : ∀ {xs ys : List CV}, FzCs l v sz es xs ys → xs.length = ys.length ∧ ∀ (i : Nat) (x y : CV), xs[i]? = some x → ys[i]? = some y → FzC l v sz es x y := by
  intro xs
  induction xs with
  | nil =>
    intro ys hf
    cases ys with
    | nil => exact ⟨rfl, by simp⟩
    | cons => simp [FzCs] at hf
  | cons x xs ih =>
    intro ys hf
    cases ys with
    | nil => simp [FzCs] at hf
    | cons y ys =>
      obtain ⟨h1, h2⟩ := hf
      obtain ⟨i1, i2⟩ := ih h2
      refine ⟨by simp [i1], fun i a b ha hb => ?_⟩
      cases i with
      | zero => simp at ha hb; subst ha hb; exact h1
      | succ i => simp at ha hb; exact i2 i a b ha hb

theorem Wk.fz_fits {L L' : Lv} {h h' : Hp} {a : Act} {w : World} (l v sz : Nat) (rl : Bool) (es : List (List D)) (hl : h[l]? = some (.da rl v sz es)) (env : ∀ i, lkL L' i = .c .u ∨ FzA l v sz es (lkL L i) (lkL L' i)) (heap : FzH l v sz es 0 h h')
    (hf : Fits N G0 ι0 h0 w0 (lkL L) h a w) : Fits N G0 ι0 h0 w0 (lkL L') h' a w := by
  obtain ⟨G, ι, st⟩ := hf
  have hr := st.rel.hr
  obtain ⟨G1, q1, q2, qd⟩ : ∃ G1, HR G1 ι (h.set l .dead) w ∧ Ext G ι h w G1 ι (h.set l .dead) w ∧ ∀ (u : Value) (n : Nat), n = es.length → CR G w ι h u (.arr l v 0 n) → DR G1 w u (.list false sz es) := by
    cases rl with
    | false =>
      have hes : es = [] := hr.blk l _ hl
      subst hes
      refine ⟨G, HR.kill hr hl, Ext.kill hl, fun u n hn hc => ?_⟩
      cases hc with
      | arr _ _ _ _ _ blk hb _ _ hk0 => rw [hl] at hb; cases hb; obtain ⟨_, _, rfl⟩ := hk0 sz [] rfl; exact .nils false sz
    | true =>
      obtain ⟨b, o, c, ty, fr, hmx, g1, g2, g3⟩ := hr.blk l _ hl
      refine ⟨_, HR.freeze hr hl g1 rfl, Ext.freeze hl g1 rfl, fun u n hn hc => ?_⟩
      subst hn
      have hfz : frz h (.arr l v 0 es.length) = some (.list false sz es, h.set l .dead) := by simp [frz, hl]
      obtain ⟨G', k1, k2, k3⟩ := frz_sound hr hc hfz
      -- the frozen set of 'frz_sound' is the same one
      cases hc with
      | arr _ _ _ _ _ blk hb ha hk hk0 =>
        rw [hl] at hb; cases hb
        obtain ⟨b', o', cap, f1, f2, f3, f4, f5⟩ := hk sz es rfl
        rw [g1] at f1; cases f1
        obtain ⟨b2, o2, c2, t2, fr2, hmx2, p1, p2, p3, p4, p5, p6⟩ := hr.blk l _ hl
        rw [g1] at p1; cases p1
        have hext := Ext.freeze (G := G) (w := w) hl g1 rfl
        rcases f5 with rfl | ⟨hn0, hc0, o', rfl⟩
        · have := DR.sl (G := fun x => G x ∨ x = b) (w := w) b (o + 0 * sz) cap sz es (fun p q => (c2[o + p * sz + q]?).getD undef) (fun _ => .inr rfl) (by omega) hmx p5 ?_ ?_
          · exact this
          · intro p e q x he hq
            obtain ⟨y, hy, _⟩ := p6 _ e q x he hq
            rw [cell_of p2]
            have : o + 0 * sz + p * sz + q = o + p * sz + q := by omega
            rw [this, hy]; rfl
          · intro p e q x he hq
            obtain ⟨y, hy, hd⟩ := p6 _ e q x he hq
            simp only [hy, Option.getD_some]
            exact hd.ext hext hr
        · have : es = [] := List.eq_nil_of_length_eq_zero hn0
          subst this
          exact .emp _ _
  obtain ⟨hlen, hget⟩ := FzH_get heap
  have hk : ∀ k b, (h.set l .dead)[k]? = some b → ∃ b', h'[k]? = some b' ∧ Kept ι ι w w k b b' ∧ (b'.live = b.live) ∧ ((b = .dead ∧ b' = .dead) ∨ ∃ b0, h[k]? = some b0 ∧ b = b0 ∧ k ≠ l ∧ FzB l v sz es b0 b') := by
    intro k b hb
    have hkl : k < h'.length := by have := get_lt hb; simp at this; omega
    have hb' : h'[k]? = some h'[k] := List.getElem?_eq_getElem hkl
    refine ⟨h'[k], hb', ?_⟩
    rcases get_set hb with ⟨e1, e2, _⟩ | ⟨e1, e2⟩
    · subst e1 e2
      rcases hget k _ _ hl hb' with ⟨_, q⟩ | ⟨q, _⟩
      · rw [q]; exact ⟨trivial, rfl, .inl ⟨rfl, rfl⟩⟩
      · omega
    · rcases hget k _ _ e2 hb' with ⟨q, _⟩ | ⟨q, q3⟩
      · omega
      · refine ⟨?_, ?_, .inr ⟨b, e2, rfl, e1, q3⟩⟩
        · generalize h'[k] = x at q3
          cases q3 with
          | same => exact Kept.refl ι w k b
          | bx xs ys hc => exact ⟨(FzCs_get hc).1.symm, rfl⟩
        · generalize h'[k] = x at q3
          cases q3 <;> rfl
  have hk1 : ∀ k b, (h.set l .dead)[k]? = some b → ∃ b', h'[k]? = some b' ∧ Kept ι ι w w k b b' := fun k b hb => let ⟨b', x1, x2, _⟩ := hk k b hb; ⟨b', x1, x2⟩
  have hg1 : ∀ b, G1 b → G1 b ∧ w.heap[b]? = w.heap[b]? := fun b hb => ⟨hb, rfl⟩
  have hcv : ∀ (u : Value) (x y : CV), CR G w ι h u x → FzC l v sz es x y → CR G1 w ι h' u y := by
    intro u x y hc hz
    cases hz with
    | keep => exact (hc.ext q2 hr).mono hg1 hk1
    | arr n hn => exact .d _ _ (qd u n hn hc)
    | drop => exact .u _
  have hback : ∀ (k : Nat) (b' : Blk), h'[k]? = some b' → ∃ b : Blk, (List.set h l Blk.dead)[k]? = some b ∧ b'.live = b.live := by
    intro k b' hb'
    have hkl : k < (List.set h l Blk.dead).length := by have := get_lt hb'; simp; omega
    have hb := List.getElem?_eq_getElem hkl
    obtain ⟨b2, x1, _, x3, _⟩ := hk k _ hb
    rw [hb'] at x1; cases x1
    exact ⟨_, hb, x3⟩
  have hown : ∀ b, owned ι h' b ↔ owned ι (h.set l .dead) b := by
    intro b
    constructor
    · rintro ⟨k, o, blk, x1, x2, x3⟩
      obtain ⟨b1, y1, y2⟩ := hback k blk x2
      exact ⟨k, o, b1, x1, y1, by rw [← y2]; exact x3⟩
    · rintro ⟨k, o, blk, x1, x2, x3⟩
      obtain ⟨b1, y1, _, y2, _⟩ := hk k blk x2
      exact ⟨k, o, b1, x1, y1, by rw [y2]; exact x3⟩
  have hr' : HR G1 ι h' w :=
    { len := by rw [← hlen]; exact hr.len
      inj := fun l1 l2 b o1 o2 k1 k2 a1 a2 c1 c2 d1 d2 => by
        obtain ⟨b1, x1, x2⟩ := hback l1 k1 c1
        obtain ⟨b2, y1, y2⟩ := hback l2 k2 c2
        exact q1.inj l1 l2 b o1 o2 b1 b2 a1 a2 x1 y1 (by rw [← x2]; exact d1) (by rw [← y2]; exact d2)
      g := fun b hb => ⟨(q1.g b hb).1, fun ho => (q1.g b hb).2 ((hown b).1 ho)⟩
      blk := fun k b' hb' => by
        have hkl : k < (List.set h l Blk.dead).length := by have := get_lt hb'; simp; omega
        have hb := List.getElem?_eq_getElem hkl
        obtain ⟨b2, x1, _, _, x4⟩ := hk k _ hb
        rw [hb'] at x1; cases x1
        have hbr := q1.blk k _ hb
        rcases x4 with ⟨_, e2⟩ | ⟨b0, e1, e2, e3, e4⟩
        · subst e2; trivial
        · rw [e2] at hbr hb
          cases e4 with
          | bx xs ys hc =>
            obtain ⟨b, o, c, t, fr, h1, h2, h3, h4, h5⟩ := hr.blk k _ e1
            obtain ⟨z1, z2⟩ := FzCs_get hc
            refine ⟨b, o, c, t, fr, h1, h2, by omega, h4, fun i y hy => ?_⟩
            have hi := get_lt hy
            have hx : xs[i]? = some (xs[i]'(by omega)) := List.getElem?_eq_getElem (by omega)
            obtain ⟨u, hu, hcr⟩ := h5 i _ hx
            exact ⟨u, hu, hcv u _ y hcr (z2 i _ y hx hy)⟩
          | same =>
            cases b' with
            | dead => trivial
            | bx cs =>
              obtain ⟨b, o, c, t, fr, h1, h2, h3, h4, h5⟩ := hbr
              refine ⟨b, o, c, t, fr, h1, h2, h3, h4, fun i x hx => ?_⟩
              obtain ⟨u, hu, hcr⟩ := h5 i x hx
              exact ⟨u, hu, hcr.mono hg1 hk1⟩
            | mp ver es => exact hbr
            | mi m' ver es' =>
              obtain ⟨b, o, mb, seen, clock, blk, h1, h2, h3, h4, h5⟩ := hbr
              obtain ⟨b3, y1, y2, _, y4⟩ := hk m' blk h3
              refine ⟨b, o, mb, seen, clock, b3, h1, h2, y1, y2.allows h4, fun all ha => ?_⟩
              obtain ⟨v0, es0, z1, z2, z3⟩ := y2.mp ha
              subst z1
              rcases z3 with z3 | ⟨z3, z4, _⟩
              · simp only [Blk.allows, decide_eq_true_eq] at h4; omega
              · subst z3 z4; exact h5 _ rfl
            | da rl v2 sz2 es2 =>
              cases rl with
              | false => exact hbr
              | true => exact hbr }
  have hext : Ext G1 ι (h.set l .dead) w G1 ι h' w :=
    { size := Nat.le_refl _
      quiet := ⟨rfl, rfl⟩
      frame := fun _ _ _ => rfl
      gmono := fun _ h => h
      gnew := fun _ h => .inl h
      onew := fun b ho => .inl ((hown b).1 ho)
      keep := hk1 }
  refine ⟨G1, ι, ⟨hr', st.rel.dfr, st.rel.size, fun i => ?_⟩, (st.ext.trans q2).trans hext⟩
  rcases env i with h1 | h1
  · simp only [lk, h1]; exact .c _ _ (.u _)
  · have hvr := st.rel.env i
    simp only [lk] at hvr ⊢
    revert h1
    generalize lkL L' i = y
    intro h1
    generalize lkL L i = x at hvr h1
    generalize a.tmps.getD i undef = u at hvr ⊢
    cases h1 with
    | same => exact (hvr.ext q2 hr).mono hg1 hk1
    | c x y hz =>
      cases hvr with
      | c _ _ hc => exact .c _ _ (hcv _ _ _ hc hz)
    | agg xs ys hz =>
      obtain ⟨z1, z2⟩ := FzCs_get hz
      cases hvr with
      | agg cs _ hn hc =>
        refine .agg _ _ (by omega) fun j u y hu hy => ?_
        have hj := get_lt hy
        have hx : xs[j]? = some (xs[j]'(by omega)) := List.getElem?_eq_getElem (by omega)
        exact hcv u _ y (hc j u _ hu hx) (z2 j _ y hx hy)

theorem Wk.fits {m : Nat} {L L' : Lv} {h h' : Hp} {a : Act} {w : World} (hw : Wk m L h L' h') (hm : h0.length ≤ m) : Fits N G0 ι0 h0 w0 (lkL L) h a w → Fits N G0 ι0 h0 w0 (lkL L') h' a w := by
  induction hw with
  | trans _ _ ih1 ih2 => exact fun hf => ih2 (ih1 hf)
  | fz l v sz r es hl env heap => exact Wk.fz_fits l v sz r es hl env heap
  | cut heap least refs env => exact Wk.cut_fits heap least refs env hm
  | same hh env =>
    intro hf
    subst hh
    obtain ⟨G, ι, st⟩ := hf
    refine ⟨G, ι, ⟨st.rel.hr, st.rel.dfr, st.rel.size, fun i => ?_⟩, st.ext⟩
    rcases env i with h1 | h1
    · simp only [lk, h1]; exact .c _ _ (.u _)
    · simp only [lk, h1]; exact st.rel.env i
  | fg i =>
    intro ⟨G, ι, st⟩
    refine ⟨G, ι, ⟨st.rel.hr, st.rel.dfr, st.rel.size, fun k => ?_⟩, st.ext⟩
    simp only [lkL, lk, upd]
    split
    · rename_i e
      subst e
      have := st.rel.env i
      rw [lk, ← lkN_eq] at this
      exact this.fg
    · exact st.rel.env k
  | nilS i sz hi =>
    intro ⟨G, ι, st⟩
    obtain ⟨q1, q2, q3⟩ := new_nil (sz := sz) st.rel.hr
    refine ⟨G, _, ⟨q1, st.rel.dfr, st.rel.size, fun k => ?_⟩, st.ext.trans q3⟩
    simp only [lkL, lk, upd]
    split
    · rename_i e
      subst e
      have := st.rel.env i
      rw [lk, ← lkN_eq, hi] at this
      rw [nil_value (inv_d this)]
      exact q2
    · exact (st.rel.env k).ext q3 st.rel.hr
  | nilB l j sz cs hl hj =>
    rename_i L h
    intro ⟨G, ι, st⟩
    obtain ⟨q1, q2, q3⟩ := new_nil (sz := sz) st.rel.hr
    have hl' := get_snoc_old (a := Blk.da false 0 sz []) hl
    obtain ⟨b, o, c, ty, fr, h1, h2, h3, h4, h5⟩ := q1.blk l _ hl'
    have hkept : Kept (ι ++ [(0, 0)]) (ι ++ [(0, 0)]) w w l (.bx cs) (.bx (cs.set j (.arr h.length 0 0 0))) := ⟨by simp, rfl⟩
    have hext := Ext.set_own (G := G) q1 hl' h1 rfl hkept rfl (fun _ _ => rfl)
    have hr := HR.set_own (G := G) q1 hl' h1 rfl hkept rfl (fun _ _ => rfl) ⟨b, o, c, ty, fr, h1, h2, by simpa using h3, h4, fun i x hx => by
      rcases get_set hx with ⟨e1, e2, _⟩ | ⟨_, e1⟩
      · subst e1 e2
        obtain ⟨v, hv, hc⟩ := h5 i _ hj
        refine ⟨v, hv, ?_⟩
        have hd : DR G w v (.list true sz []) := by cases hc; assumption
        rw [nil_value hd]
        exact (inv_c q2).ext hext q1
      · obtain ⟨v, hv, hc⟩ := h5 i x e1
        exact ⟨v, hv, hc.ext hext q1⟩⟩
    exact ⟨G, _, ⟨hr, st.rel.dfr, st.rel.size, fun k => ((st.rel.env k).ext q3 st.rel.hr).ext hext q1⟩, (st.ext.trans q3).trans hext⟩

theorem callv_exec {o : Oper} {x : X} {xs : List X} {a : Act} {w : World} {f : Nat} {vs : Array Value} (hc : compOp P o = .callv x xs) (hx : ∀ op, cx P 0 op = some x → a.eval op = .func (.func f) #[] vs) (hf : FnOk P f) :
    ∃ c : Call, (execOp a.eval o).run P w = .ok (.enter f (c.args.map a.eval ++ vs)) w ∧ cxs P c.argTypes.toList c.args.toList = some xs := by
  cases hoo : o.op
  case call c =>
    simp only [compOp, hoo] at hc
    split at hc
    · exact absurd hc compB_callv
    · split at hc
      · split at hc <;> cases hc
      · cases hc
    · rename_i t hcal
      split at hc
      · rename_i l hl
        cases hc
        have hev := hx (.tmp t) rfl
        obtain ⟨fn, h1, h2, h3⟩ := hf.ok
        refine ⟨c, ?_, hl⟩
        simp only [execOp, hoo, resolve, hcal, hev, Deferred.ofValue, Sem.run_bind, Sem.run_pure, Result.andThen_ok, invoke, Array.empty_append]
        exact callFunc_run h1 h2 h3
      · cases hc
    · cases hc
  case makeMap t rs => exfalso; cases rs <;> (simp only [compOp, hoo] at hc; cases hc)
  case makeFunc fn first caps =>
    exfalso
    cases fn
    case func g =>
      simp only [compOp, hoo] at hc
      revert hc
      (repeat' split) <;> intro hc <;> cases hc
    all_goals (simp only [compOp, hoo] at hc; cases hc)
  all_goals
    exfalso
    simp only [compOp, hoo] at hc
    revert hc
    (repeat' split) <;> intro hc <;> cases hc

theorem callv_slot {o : Oper} {x : X} {xs : List X} (hc : compOp P o = .callv x xs) : ∃ t, x = .t t := by
  cases hoo : o.op
  case call c =>
    simp only [compOp, hoo] at hc
    split at hc
    · exact absurd hc compB_callv
    · split at hc
      · split at hc <;> cases hc
      · cases hc
    · split at hc
      · cases hc; exact ⟨_, rfl⟩
      · cases hc
    · cases hc
  case makeMap t rs => exfalso; cases rs <;> (simp only [compOp, hoo] at hc; cases hc)
  case makeFunc fn first caps =>
    exfalso
    cases fn
    case func g =>
      simp only [compOp, hoo] at hc
      revert hc
      (repeat' split) <;> intro hc <;> cases hc
    all_goals (simp only [compOp, hoo] at hc; cases hc)
  all_goals
    exfalso
    simp only [compOp, hoo] at hc
    revert hc
    (repeat' split) <;> intro hc <;> cases hc

theorem isnil_exec {o : Oper} {ne : Bool} {x : X} {G : Nat → Prop} {ι : Io} {e : Env} {h : Hp} {a : Act} {w : World} {nl : Bool} {sz : Nat} {l : List (List D)} (hc : compOp P o = .isnil 0 ne x) (r : Rel N G ι e h a w)
    (hx : ev e x = .c (.d (.list nl sz l))) : ∃ b : Bool, (b = true → l = []) ∧ OpRes G ι h w (.c (.d (.bool (if ne then !b else b)))) h ((execOp a.eval o).run P w) := by
  have key : ∀ op xt (x0 y0 : Operand) yt x', o.op = .binOp op xt x0 y0 yt → cx P xt x0 = some x' → (op = .eql ∨ op = .neq) → lnil y0 = true → (∃ el, P.underlying xt = some (.slice el)) → x' = x → (op == .neq) = ne →
      ∃ b : Bool, (b = true → l = []) ∧ OpRes G ι h w (.c (.d (.bool (if ne then !b else b)))) h ((execOp a.eval o).run P w) := by
    intro op xt x0 y0 yt x' hop hcx hopk hl hu he hne
    subst he hne
    have r1 := cx_sound hcx r
    rw [hx] at r1
    obtain ⟨ad, n, c, e1, e2⟩ := nil_either r1
    exact ⟨ad.isNone, e2, b_nil_at r hop x' 0 ad.isNone hcx hopk (.inl ⟨rfl, hl, hu⟩) (fun _ => ⟨ad, n, c, e1, rfl⟩) (fun h => by cases h)⟩
  cases hoo : o.op
  case binOp op xt x0 y0 yt =>
    simp only [compOp, hoo] at hc
    split at hc
    · rename_i x' y' hx' hy'
      split at hc
      all_goals
        (repeat' split at hc) <;> first | (cases hc; done) | skip
        all_goals
          simp only [AOp.isnil.injEq] at hc
          obtain ⟨hk, hne, hxx⟩ := hc
          first | (cases hk; done) | skip
          rename_i hu hl
          exact key _ _ _ _ _ _ hoo hx' (by simp) hl ⟨_, hu⟩ hxx hne
    · cases hc
  case call c =>
    exfalso
    simp only [compOp, hoo] at hc
    split at hc
    · exact absurd hc compB_isnil
    · split at hc
      · split at hc <;> cases hc
      · cases hc
    · split at hc <;> cases hc
    · cases hc
  case makeMap t rs => exfalso; cases rs <;> (simp only [compOp, hoo] at hc; cases hc)
  case makeFunc fn first caps =>
    exfalso
    cases fn
    case func g =>
      simp only [compOp, hoo] at hc
      revert hc
      (repeat' split) <;> intro hc <;> cases hc
    all_goals (simp only [compOp, hoo] at hc; cases hc)
  all_goals
    exfalso
    simp only [compOp, hoo] at hc
    revert hc
    (repeat' split) <;> intro hc <;> cases hc

theorem len_slot {o : Oper} {x : X} {G : Nat → Prop} {ι : Io} {e : Env} {h : Hp} {a : Act} {w : World} (hc : compOp P o = .len x) (r : Rel N G ι e h a w) : ∃ v, VR G w ι h v (ev e x) := by
  have key : ∀ t y, cx P t y = some x → ∃ v, VR G w ι h v (ev e x) := fun t y hy => ⟨_, cx_sound hy r⟩
  cases hoo : o.op
  case call c =>
    simp only [compOp, hoo] at hc
    split at hc
    · unfold compB at hc
      (repeat' split at hc) <;> first | (cases hc; done) | skip
      cases hc
      exact key _ _ (by assumption)
    · split at hc
      · split at hc <;> cases hc
      · cases hc
    · split at hc <;> cases hc
    · cases hc
  case makeMap t rs => exfalso; cases rs <;> (simp only [compOp, hoo] at hc; cases hc)
  case makeFunc fn first caps =>
    exfalso
    cases fn
    case func g =>
      simp only [compOp, hoo] at hc
      revert hc
      (repeat' split) <;> intro hc <;> cases hc
    all_goals (simp only [compOp, hoo] at hc; cases hc)
  all_goals
    exfalso
    simp only [compOp, hoo] at hc
    revert hc
    (repeat' split) <;> intro hc <;> cases hc

theorem len_bound {o : Oper} {x : X} {G : Nat → Prop} {ι : Io} {e : Env} {h : Hp} {a : Act} {w : World} {sz : Nat} {l : List (List D)} (hc : compOp P o = .len x) (r : Rel N G ι e h a w)
    (hx : view h (ev e x) = some (sz, l)) : l.length ≤ 9223372036854775807 := by
  have key : ∀ t y, cx P t y = some x → l.length ≤ 9223372036854775807 := fun t y hy => by
    obtain ⟨_, _, _, _, hm⟩ := view_len r.hr (cx_sound hy r) hx
    exact hm
  cases hoo : o.op
  case call c =>
    simp only [compOp, hoo] at hc
    split at hc
    · unfold compB at hc
      (repeat' split at hc) <;> first | (cases hc; done) | skip
      cases hc
      exact key _ _ (by assumption)
    · split at hc
      · split at hc <;> cases hc
      · cases hc
    · split at hc <;> cases hc
    · cases hc
  case makeMap t rs => exfalso; cases rs <;> (simp only [compOp, hoo] at hc; cases hc)
  case makeFunc fn first caps =>
    exfalso
    cases fn
    case func g =>
      simp only [compOp, hoo] at hc
      revert hc
      (repeat' split) <;> intro hc <;> cases hc
    all_goals (simp only [compOp, hoo] at hc; cases hc)
  all_goals
    exfalso
    simp only [compOp, hoo] at hc
    revert hc
    (repeat' split) <;> intro hc <;> cases hc

theorem fn_enter {o : Oper} {f : Nat} {vs : List Value} {args : List AV} {h : Hp} {K : AV → Hp → Prop} {G : Nat → Prop} {ι : Io} {e : Env} {a : Act} {w : World} {K' : Act → World → Prop} {Q : Exit → Act → World → Prop}
    (st : St N G0 ι0 h0 w0 G ι e h a w) (hd : ∀ d, o.dst = some d → d < N) (hf : FnS P f args h K) (hv : VRs G w ι h vs args) (hrun : (execOp a.eval o).run P w = .ok (.enter f vs.toArray) w)
    (hK : ∀ v h' a' w', K v h' → Fits N G0 ι0 h0 w0 (putE e o.dst v) h' a' w' → K' a' w') : o.wp P a w K' Q := by
  unfold Oper.wp
  rw [hrun, Oper.upon_enter]
  refine (hf.out G ι w vs st.rel.hr hv).mono fun en w' ⟨v, r, G', ι', h', k0, k1, k2, k3, k4⟩ => ?_
  subst k0
  exact hK r h' _ _ k1 ⟨G', ι', st.step hd k2 k3 k4⟩

/-- a call by its name -/
theorem callS_sound {o : Oper} {c : Call} {f : Nat} {xs : List X} {m : Nat} (hm : h0.length ≤ m) (hoo : o.op = .call c) (ho : compOp P o = .call f xs) (hdN : ∀ d, o.dst = some d → d < N) {d : Bool} {L : Lv} {h : Hp} {K : Lv → AV → Hp → Prop}
    (hc : CallS P m d L h f xs K) : ∀ {a : Act} {w : World} {K' : Act → World → Prop} {Q : Exit → Act → World → Prop}, Fits N G0 ι0 h0 w0 (lkL L) h a w →
    (∀ L v h' a' w', K L v h' → Fits N G0 ι0 h0 w0 (putE (lkL L) o.dst v) h' a' w' → K' a' w') → o.wp P a w K' Q := by
  induction hc with
  | pure hp k =>
    intro a w K' Q hf hK
    obtain ⟨G, ι, st⟩ := hf
    obtain ⟨q1, q2⟩ := call_exec (a := a) (w := w) hoo ho
    have hargs : c.args.map a.eval = (c.args.toList.map a.eval).toArray := by apply Array.ext'; simp
    rw [hargs] at q1
    rw [evsN_eq] at hp
    exact fn_enter st hdN hp.fn (args_sound st.rel q2) q1 (fun v h' a' w' hk hf => by obtain ⟨rfl, rfl⟩ := hk; exact hK _ _ _ _ _ k hf)
  | fn hfn =>
    intro a w K' Q hf hK
    obtain ⟨G, ι, st⟩ := hf
    obtain ⟨q1, q2⟩ := call_exec (a := a) (w := w) hoo ho
    have hargs : c.args.map a.eval = (c.args.toList.map a.eval).toArray := by apply Array.ext'; simp
    rw [hargs] at q1
    rw [evsN_eq] at hfn
    exact fn_enter st hdN hfn (args_sound st.rel q2) q1 fun v h' a' w' hk hf => hK _ _ _ _ _ hk hf
  | wk hw _ ih =>
    intro a w K' Q hf hK
    exact ih ho (hw.fits hm hf) hK

theorem did_sound {ops : Array Oper} {o : Oper} {ao : AO} {m : Nat} (hm : h0.length ≤ m) {L : Lv} {h : Hp} {a : Act} {w : World} {K : Lv → AV → Hp → Prop} {K' : Act → World → Prop} {Q : Exit → Act → World → Prop}
    (hc : compO P ops N o = some ao) (hs : Did P m false ao.op L h K) (hf : Fits N G0 ι0 h0 w0 (lkL L) h a w)
    (hK : ∀ L v h' a' w', K L v h' → Fits N G0 ι0 h0 w0 (putE (lkL L) ao.dst v) h' a' w' → K' a' w') : o.wp P a w K' Q := by
  obtain ⟨hd, hdN, hop, hg⟩ := compO_dst hc
  rw [hd] at hK
  induction hs with
  | wk _ hw _ ih => exact ih (hw.fits hm hf) hK
  | @step L h K v h' hs _ hk =>
    have hf0 := hf
    obtain ⟨G, ι, st⟩ := hf
    rw [hop] at hs
    obtain ⟨v', w', G', ι', hrun, k1, k2, k3⟩ := op_sound st.rel hs
    unfold Oper.wp
    rcases hrun with hrun | ⟨hrun, rfl⟩
    · rw [hrun]; exact hK _ _ _ _ _ hk ⟨G', ι', st.step hdN k1 k2 k3⟩
    · rw [hrun]; exact hK _ _ _ _ _ hk ⟨G', ι', st.step hdN k1 k2 k3⟩
  | @call L h K f xs ho hc' =>
    have hf0 := hf
    obtain ⟨G, ι, st⟩ := hf
    rw [hop] at ho
    obtain ⟨c, hoo⟩ := compOp_call ho
    exact callS_sound hm hoo ho hdN hc' hf0 hK
  | @len L h K x sz l ho _ hx hk =>
    have hf0 := hf
    obtain ⟨G, ι, st⟩ := hf
    have hb := len_bound (by rw [← hop]; exact ho) st.rel hx
    have hs : astep (lkL L) h ao.op = some (.c (.d (.int .i64 l.length)), h) := by rw [ho]; simp only [astep, hx]
    rw [hop] at hs
    obtain ⟨v', w', G', ι', hrun, k1, k2, k3⟩ := op_sound st.rel hs
    unfold Oper.wp
    rcases hrun with hrun | ⟨hrun, rfl⟩
    · rw [hrun]; exact hK _ _ _ _ _ (hk hb) ⟨G', ι', st.step hdN k1 k2 k3⟩
    · rw [hrun]; exact hK _ _ _ _ _ (hk hb) ⟨G', ι', st.step hdN k1 k2 k3⟩
  | @lenA L h K x l v i n ho _ hx hsol hk =>
    have hf0 := hf
    obtain ⟨G, ι, st⟩ := hf
    obtain ⟨vv, hvv⟩ := len_slot (by rw [← hop]; exact ho) st.rel
    obtain ⟨sz, ls, hview, hlen⟩ : ∃ sz ls, view h (ev (lkL L) x) = some (sz, ls) ∧ ls.length = n := by
      rw [hx] at hvv ⊢
      cases inv_c hvv with
      | arr _ _ _ _ _ blk hb ha hk1 hk0 =>
        simp only [solid, hb] at hsol
        cases blk <;> simp at hsol
        rename_i rl v' sz es
        subst hsol
        refine ⟨sz, (es.drop i).take n, by simp [view, hb], ?_⟩
        cases rl with
        | false => obtain ⟨_, hn, _⟩ := hk0 sz es rfl; subst hn; simp
        | true => obtain ⟨b, o', cap, h1, h2, _⟩ := hk1 sz es rfl; simp; omega
    have hb := len_bound (by rw [← hop]; exact ho) st.rel hview
    have hs : astep (lkL L) h ao.op = some (.c (.d (.int .i64 n)), h) := by rw [ho]; simp only [astep, hview, hlen]
    rw [hop] at hs
    obtain ⟨v', w', G', ι', hrun, k1, k2, k3⟩ := op_sound st.rel hs
    unfold Oper.wp
    rcases hrun with hrun | ⟨hrun, rfl⟩
    · rw [hrun]; exact hK _ _ _ _ _ (hk (by omega)) ⟨G', ι', st.step hdN k1 k2 k3⟩
    · rw [hrun]; exact hK _ _ _ _ _ (hk (by omega)) ⟨G', ι', st.step hdN k1 k2 k3⟩
  | @nil L h K ne x nl sz l ho _ hx hk =>
    have hf0 := hf
    obtain ⟨G, ι, st⟩ := hf
    rw [hop] at ho
    obtain ⟨b, hb, v', w', G', ι', hrun, k1, k2, k3⟩ := isnil_exec ho st.rel hx
    unfold Oper.wp
    rcases hrun with hrun | ⟨hrun, rfl⟩
    · rw [hrun]; exact hK _ _ _ _ _ (hk b hb) ⟨G', ι', st.step hdN k1 k2 k3⟩
    · rw [hrun]; exact hK _ _ _ _ _ (hk b hb) ⟨G', ι', st.step hdN k1 k2 k3⟩
  | @callv L h K x xs f caps ho _ hx hfn hc' =>
    have hf0 := hf
    obtain ⟨G, ι, st⟩ := hf
    rw [hop] at ho
    obtain ⟨t, rfl⟩ := callv_slot ho
    have hvx := st.rel.env t
    have hx' : lk (lkL L) t = .c (.fn f caps) := hx
    rw [hx'] at hvx
    obtain ⟨vs, hvs, hn, hcr⟩ : ∃ vs : Array Value, a.tmps.getD t undef = .func (.func f) #[] vs ∧ vs.size = caps.length ∧ ∀ (i : Nat) (v : Value) (c : CV), vs[i]? = some v → caps[i]? = some c → CR G w ι h v c := by
      revert hvx
      generalize a.tmps.getD t undef = v
      intro hvx
      cases inv_c hvx with
      | fn _ vs _ hn hc => exact ⟨vs, rfl, hn, hc⟩
    obtain ⟨c, q1, q2⟩ := callv_exec (a := a) (w := w) (vs := vs) ho (fun op hop' => by
      cases op with
      | tmp t' => simp only [cx, Option.some.injEq, X.t.injEq] at hop'; subst hop'; exact hvs
      | const v => simp [cx] at hop'
      | global g => simp [cx] at hop'
      | func g => simp [cx] at hop') hfn
    obtain ⟨t1, t2⟩ := args_sound st.rel q2
    have hargs : c.args.map a.eval ++ vs = (c.args.toList.map a.eval ++ vs.toList).toArray := by apply Array.ext'; simp
    rw [hargs] at q1
    have hv : VRs G w ι h (c.args.toList.map a.eval ++ vs.toList) (evsN L xs ++ caps.map .c) := by
      rw [evsN_eq]
      refine ⟨by simp only [List.length_append, t1, Array.length_toList, hn, List.length_map], fun i v x hv hx => ?_⟩
      rcases Nat.lt_or_ge i (c.args.toList.map a.eval).length with hi | hi
      · rw [List.getElem?_append_left hi] at hv
        rw [List.getElem?_append_left (by omega)] at hx
        exact t2 i v x hv hx
      · rw [List.getElem?_append_right hi] at hv
        rw [List.getElem?_append_right (by omega)] at hx
        simp only [List.getElem?_map, Option.map_eq_some_iff] at hx
        obtain ⟨y, hy, rfl⟩ := hx
        rw [← t1] at hy
        exact .c _ _ (hcr _ v y (by simpa using hv) hy)
    cases hc' with
    | pure hp k => exact fn_enter st hdN hp.fn hv q1 (fun v h' a' w' hk hf => by obtain ⟨rfl, rfl⟩ := hk; exact hK _ _ _ _ _ k hf)
    | fn hf => exact fn_enter st hdN hf hv q1 fun v h' a' w' hk hf => hK _ _ _ _ _ hk hf

/-- a region in the text's order -/
theorem region_seq {ops : Array Oper} {m : Nat} (hm : h0.length ≤ m) {Q : Exit → Act → World → Prop} : ∀ (os : List Oper) (aos : List AO) (k : Nat) (L : Lv) (h : Hp) (K : Lv → Hp → Prop) (a : Act) (w : World),
    (∀ i, os[i]? = ops[k + i]?) → compOs P ops N os = some aos → aos.all (gOk N) = true → runO P m false aos L h K → Fits N G0 ι0 h0 w0 (lkL L) h a w →
    (∀ L' h' a' w', K L' h' → Fits N G0 ι0 h0 w0 (lkL L') h' a' w' → Q .normal a' w') → wpOps P ops Q (List.range' k os.length) a w := by
  intro os
  induction os with
  | nil =>
    intro aos k L h K a w _ hc _ hv hf hQ
    simp only [compOs, Option.some.injEq] at hc
    subst hc
    exact hQ L h a w hv hf
  | cons o os ih =>
    intro aos k L h K a w hk hc hg hv hf hQ
    simp only [compOs] at hc
    split at hc
    · rename_i ao l hao hl
      cases hc
      simp only [List.all_cons, Bool.and_eq_true] at hg
      have hok : ops[k]? = some o := by have := hk 0; simpa using this.symm
      have hrest : ∀ L' h' a' w', runO P m false l L' h' K → Fits N G0 ι0 h0 w0 (lkL L') h' a' w' → wpOps P ops Q (List.range' (k + 1) os.length) a' w' := fun L' h' a' w' hv' hf' =>
        ih l (k + 1) L' h' K a' w' (fun i => by have := hk (i + 1); simp only [List.getElem?_cons_succ] at this; rw [this]; congr 1; omega) hl hg.2 hv' hf' hQ
      simp only [List.length_cons, List.range'_succ]
      rw [wpOps_cons]
      unfold wpOp
      simp only [hok]
      obtain ⟨G, ι, st⟩ := hf
      obtain ⟨hd, hdN, hop, hgs⟩ := compO_dst hao
      have hgN := gOk_spec hg.1
      rcases hv with ⟨hgv, hv⟩ | ⟨hgv, hv⟩
      · rw [gv_wanted st.rel hgs hgv hgN]
        simp only [if_true]
        left
        refine did_sound hm hao hv ⟨G, ι, st⟩ fun L' v h' a' w' hk' hf' => ?_
        exact hrest _ _ _ _ hk' (by rw [putL_eq]; exact hf')
      · rw [gv_wanted st.rel hgs hgv hgN]
        simp only [Bool.false_eq_true, if_false]
        refine hrest _ _ _ _ hv ⟨G, ι, ?_⟩
        rw [putL_eq, hd]
        exact st.step hdN st.rel.hr (.tup #[] [] rfl (by simp)) (Ext.refl _ _ _ _)
    · cases hc

/-- the same operations as steps -/
theorem runO_run {aops : List AO} {m : Nat} : ∀ (aos : List AO) (k : Nat) (L : Lv) (h : Hp) (K : Lv → Hp → Prop), (∀ i, aos[i]? = aops[k + i]?) → runO P m true aos L h K →
    ∃ L' h', RunI P aops (List.range' k aos.length) (lkL L) h (lkL L') h' ∧ K L' h' := by
  intro aos
  induction aos with
  | nil => intro k L h K _ hv; exact ⟨L, h, ⟨rfl, rfl⟩, hv⟩
  | cons o aos ih =>
    intro k L h K hk hv
    have hok : aops[k]? = some o := by have := hk 0; simpa using this.symm
    have next : ∀ L' h', StepD P o (lkL L) h (lkL L') h' → runO P m true aos L' h' K → ∃ L' h', RunI P aops (List.range' k (o :: aos).length) (lkL L) h (lkL L') h' ∧ K L' h' := by
      intro L' h' hs hv'
      obtain ⟨L2, h2, hr, hk2⟩ := ih (k + 1) L' h' K (fun i => by have := hk (i + 1); simp only [List.getElem?_cons_succ] at this; rw [this]; congr 1; omega) hv'
      exact ⟨L2, h2, ⟨o, _, _, hok, hs, hr⟩, hk2⟩
    rcases hv with ⟨hgv, hv⟩ | ⟨hgv, hv⟩
    · cases hv with
      | wk hd => cases hd
      | step v h' hs hcl hk' =>
        refine next (putL L o.dst v) h' ⟨?_, fun hc => .inr (hcl rfl hc)⟩ hk'
        rw [putL_eq]; unfold StepR; rw [hgv]; exact .inl ⟨v, hs, rfl⟩
      | call f xs ho hc =>
        cases hc with
        | pure hp hk' =>
          rename_i r
          rw [evsN_eq] at hp
          refine next (putL L o.dst r) h ⟨?_, fun hc => .inl rfl⟩ hk'
          rw [putL_eq]; unfold StepR; rw [hgv]; exact .inr ⟨f, xs, r, ho, hp, rfl, rfl⟩
      | callv x xs f caps ho hd => cases hd
      | nil ne x nl sz l ho hd => cases hd
      | len x sz l ho hd => cases hd
      | lenA x l v i n ho hd => cases hd
    · refine next (putL L o.dst (.tup [])) h ⟨?_, fun _ => .inl rfl⟩ hv
      rw [putL_eq]; unfold StepR; rw [hgv]; exact ⟨rfl, rfl⟩

end
end Go.Ab

/-
  The engine, part x: the condition of a text, and that it suffices; functions.
-/
namespace Go.Ab

inductive Ex where
  | normal
  | exit (id : Nat)
  | ret
  deriving DecidableEq

abbrev Post := Ex → Lv → Hp → Prop

/-- a loop: what holds at the head of every round, and a number that every round lowers -/
inductive LoopI (m : Nat) (body : Lv → Hp → Post → Prop) (L : Lv) (h : Hp) (Q : Post) : Prop
  | mk (I : Nat → Lv → Hp → Prop) (n : Nat) (L1 : Lv) (h1 : Hp) (wk : Wk m L h L1 h1) (start : I n L1 h1)
      (round : ∀ n L h, I n L h → body L h fun x L' h' => match x with
        | .normal => ∃ n' L1 h1, n' < n ∧ Wk m L' h' L1 h1 ∧ I n' L1 h1
        | .exit i => ∃ L1 h1, Wk m L' h' L1 h1 ∧ Q (.exit i) L1 h1
        | .ret => Q .ret L' h')

def vcC (P : Program) (Λ : Len) (m : Nat) : AC → Lv → Hp → Post → Prop
  | .skip, L, h, Q => Q .normal L h
  | .reg d ops, L, h, Q => vcOps P Λ m d ops L h fun L h => Q .normal L h
  | .seq a b, L, h, Q => vcC P Λ m a L h fun x L h => match x with
    | .normal => vcC P Λ m b L h Q
    | x => Q x L h
  | .cond c a b, L, h, Q => match evN L c with
    | .c (.d (.bool t)) => (match t with
      | true => vcC P Λ m a L h Q
      | false => vcC P Λ m b L h Q)
    | _ => False
  | .block id c, L, h, Q => vcC P Λ m c L h fun x L h => match x with
    | .exit i => (match Nat.beq i id with
      | true => Q .normal L h
      | false => Q (.exit i) L h)
    | x => Q x L h
  | .loop c, L, h, Q => LoopI m (vcC P Λ m c) L h Q
  | .exit id, L, h, Q => Q (.exit id) L h
  | .ret, L, h, Q => Q .ret L h

/-- does an operation come behind all earlier ones and ahead of all later ones, whatever is drawn? -/
def barB (ms : List Nat) (n b : Nat) : Bool := ((List.range b).all fun j => (ms.getD b 0).testBit j) && (List.range n).all fun i => decide (i ≤ b) || (ms.getD i 0).testBit b

def isCall : AOp → Bool
  | .call .. => true
  | .callv .. => true
  | _ => false

/-- a region whose order is drawn, parted at such calls -/
def splitD (ms : List Nat) (n : Nat) : Nat → List AO → List AO × List (AO × List AO)
  | _, [] => ([], [])
  | k, o :: r => match splitD ms n (k + 1) r with
    | (c, bs) => match isCall o.op && barB ms n k with
      | true => ([], (o, c) :: bs)
      | false => (o :: c, bs)

def acSegs : List AO → List (AO × List AO) → AC
  | c, [] => .reg true c
  | c, (o, c') :: r => .seq (.reg true c) (.seq (.reg false [o]) (acSegs c' r))

def acDraw (ops : Array Oper) (aos : List AO) : AC := match splitD (masks ops.toList []) ops.size 0 aos with
  | (c, bs) => acSegs c bs

def compC (P : Program) (N : Nat) : Code → Option AC
  | .skip => some .skip
  | .label _ => some .skip
  | .region _ ops draw => match compOs P ops N ops.toList with
    | some aos => if aos.all (gOk N) = true ∧ (draw = true → aos.all constOk = true ∧ drawOk ops.toList aos = true) then some (match draw with | true => acDraw ops aos | false => .reg false aos) else none
    | none => none
  | .seq a b => match compC P N a, compC P N b with
    | some x, some y => some (.seq x y)
    | _, _ => none
  | .cond c a b => match cx P 0 c, compC P N a, compC P N b with
    | some c, some x, some y => some (.cond c x y)
    | _, _, _ => none
  | .block id c => match compC P N c with
    | some x => some (.block id x)
    | none => none
  | .loop c => match compC P N c with
    | some x => some (.loop x)
    | none => none
  | .scope c => compC P N c
  | .exit id => some (.exit id)
  | .ret => some .ret
  | _ => none

section
variable {P : Program} {N : Nat} {G0 : Nat → Prop} {ι0 : Io} {h0 : Hp} {w0 : World}

/-- the model's ways out, as the conditions have them -/
def exq (Q : Post) : Exit → Lv → Hp → Prop
  | .normal => Q .normal
  | .exit i => Q (.exit i)
  | .ret => Q .ret
  | _ => fun _ _ => False

/-- what is said of the model's state at a way out -/
def out (N : Nat) (G0 : Nat → Prop) (ι0 : Io) (h0 : Hp) (w0 : World) (Q : Post) : Exit → Act → World → Prop :=
  fun x a w => ∃ L h, exq Q x L h ∧ Fits N G0 ι0 h0 w0 (lkL L) h a w

theorem least {p : Nat → Prop} : ∀ n, p n → ∃ m, p m ∧ ∀ k, p k → m ≤ k := by
  intro n
  induction n using Nat.strongRecOn with
  | _ n ih =>
    intro hn
    by_cases h : ∃ k, k < n ∧ p k
    · obtain ⟨k, hk, hpk⟩ := h; exact ih k hk hpk
    · exact ⟨n, hn, fun k hk => by
        rcases Nat.lt_or_ge k n with h' | h'
        · exact absurd ⟨k, h', hk⟩ h
        · exact h'⟩

theorem wp_loop_ghost {c : Code} {Q : Exit → Act → World → Prop} (I : Nat → Act → World → Prop)
    (round : ∀ n a w, I n a w → c.wp P (Exit.then (fun a' w' => ∃ n', n' < n ∧ I n' a' w') Q) a w) : ∀ n a w, I n a w → (Code.loop c).wp P Q a w := by
  intro n a w h
  classical
  have hex : ∀ a w, (∃ n, I n a w) → ∃ m, I m a w ∧ ∀ k, I k a w → m ≤ k := fun a w ⟨n, hn⟩ => least n hn
  let μ : Act → World → Nat := fun a w => if h : ∃ n, I n a w then Classical.choose (hex a w h) else 0
  have hμ : ∀ a w, (∃ n, I n a w) → I (μ a w) a w := fun a w h => by simp only [μ, dif_pos h]; exact (Classical.choose_spec (hex a w h)).1
  have hμ' : ∀ a w n, I n a w → μ a w ≤ n := fun a w n h => by
    have h0 : ∃ n, I n a w := ⟨n, h⟩
    simp only [μ, dif_pos h0]; exact (Classical.choose_spec (hex a w h0)).2 n h
  refine wp_loop (fun a w => ∃ n, I n a w) μ ⟨n, h⟩ fun a w hI => ?_
  refine wp_mono (round _ a w (hμ a w hI)) fun x a' w' hx => ?_
  cases x with
  | normal => obtain ⟨n', h1, h2⟩ := hx; exact ⟨⟨n', h2⟩, Nat.lt_of_le_of_lt (hμ' a' w' n' h2) h1⟩
  | _ => exact hx

def BarsOk (ms : List Nat) (n : Nat) : Nat → List (AO × List AO) → Prop
  | _, [] => True
  | k, (_, c) :: r => barB ms n k = true ∧ BarsOk ms n (k + 1 + c.length) r

def flatB : List (AO × List AO) → List AO
  | [] => []
  | (o, c) :: r => o :: (c ++ flatB r)

def idxP : Nat → List (AO × List AO) → List (Nat × List Nat)
  | _, [] => []
  | k, (_, c) :: r => (k, List.range' (k + 1) c.length) :: idxP (k + 1 + c.length) r

theorem splitD_spec {ms : List Nat} {n : Nat} : ∀ (aos : List AO) (k : Nat) (c : List AO) (bs : List (AO × List AO)), splitD ms n k aos = (c, bs) → aos = c ++ flatB bs ∧ BarsOk ms n (k + c.length) bs := by
  intro aos
  induction aos with
  | nil => intro k c bs h; cases h; exact ⟨rfl, trivial⟩
  | cons o r ih =>
    intro k c bs h
    simp only [splitD] at h
    generalize hs : splitD ms n (k + 1) r = p at h
    obtain ⟨c', bs'⟩ := p
    obtain ⟨h1, h2⟩ := ih (k + 1) c' bs' hs
    simp only at h
    split at h
    · rename_i hb
      simp only [Bool.and_eq_true] at hb
      cases h
      exact ⟨by simp [flatB, h1], hb.2, h2⟩
    · cases h
      refine ⟨by simp [h1], ?_⟩
      simp only [List.length_cons]
      rw [show k + (c'.length + 1) = k + 1 + c'.length by omega]; exact h2

theorem flat_idx : ∀ (bs : List (AO × List AO)) (k : Nat), flatP (idxP k bs) = List.range' k (flatB bs).length := by
  intro bs
  induction bs with
  | nil => intro k; rfl
  | cons q r ih =>
    intro k
    obtain ⟨o, c⟩ := q
    simp only [idxP, flatP, flatB, List.length_cons, List.length_append, List.range'_succ, ih]
    congr 1
    rw [List.range'_append_1]

/-- one operation outside any drawn order -/
theorem op_wp {ops : Array Oper} {m b : Nat} (hm : h0.length ≤ m) {Q : Exit → Act → World → Prop} {o : Oper} {ao : AO} {L : Lv} {h : Hp} {K : Lv → Hp → Prop} {K' : Act → World → Prop} {a : Act} {w : World} (hok : ops[b]? = some o) (hao : compO P ops N o = some ao) (hg : gOk N ao = true)
    (hv : runO P m false [ao] L h K) (hf : Fits N G0 ι0 h0 w0 (lkL L) h a w) (hK : ∀ L' h' a' w', K L' h' → Fits N G0 ι0 h0 w0 (lkL L') h' a' w' → K' a' w') : wpOp P ops Q b K' a w := by
  unfold wpOp
  simp only [hok]
  obtain ⟨G, ι, st⟩ := hf
  obtain ⟨hd, hdN, hop, hgs⟩ := compO_dst hao
  have hgN := gOk_spec hg
  rcases hv with ⟨hgv, hv⟩ | ⟨hgv, hv⟩
  · rw [gv_wanted st.rel hgs hgv hgN]
    simp only [if_true]
    left
    refine did_sound hm hao hv ⟨G, ι, st⟩ fun L' v h' a' w' hk' hf' => ?_
    exact hK _ _ _ _ hk' (by rw [putL_eq]; exact hf')
  · rw [gv_wanted st.rel hgs hgv hgN]
    simp only [Bool.false_eq_true, if_false]
    refine hK _ _ _ _ hv ⟨G, ι, ?_⟩
    rw [putL_eq, hd]
    exact st.step hdN st.rel.hr (.tup #[] [] rfl (by simp)) (Ext.refl _ _ _ _)

theorem RunI.of_take {aops : List AO} {n : Nat} : ∀ {l : List Nat} {e : Env} {h : Hp} {e' : Env} {h' : Hp}, RunI P (aops.take n) l e h e' h' → RunI P aops l e h e' h' := by
  intro l
  induction l with
  | nil => intro e h e' h' hr; exact hr
  | cons i r ih =>
    intro e h e' h' ⟨o, e1, h1, ho, hs, hr⟩
    refine ⟨o, e1, h1, ?_, hs, ih hr⟩
    rw [List.getElem?_take] at ho
    split at ho
    · exact ho
    · cases ho

theorem segs_plan {S : AC → Lv → Hp → Post → Prop} {m : Nat} {ops : Array Oper} {aops : List AO} {Q : Post} (hm : h0.length ≤ m)
    (hseq : ∀ a b L h Q, S (.seq a b) L h Q → S a L h fun x L h => match x with | .normal => S b L h Q | x => Q x L h) (hreg : ∀ d ops L h Q, S (.reg d ops) L h Q → runO P m d ops L h fun L h => Q .normal L h)
    (hcomp : compOs P ops N ops.toList = some aops) (hg : aops.all (gOk N) = true) : ∀ (bs : List (AO × List AO)) (c : List AO) (k : Nat) (L : Lv) (h : Hp), (∀ i, (c ++ flatB bs)[i]? = aops[k + i]?) → BarsOk (masks ops.toList []) ops.size (k + c.length) bs → S (acSegs c bs) L h Q →
    ∃ e' h', RunI P aops (List.range' k c.length) (lkL L) h e' h' ∧ PlanK P N G0 ι0 h0 w0 ops aops (out N G0 ι0 h0 w0 Q) (idxP (k + c.length) bs) e' h' := by
  intro bs
  induction bs with
  | nil =>
    intro c k L h hi _ hs
    obtain ⟨L', h', h1, h2⟩ := runO_run (aops := aops) c k L h _ (by simpa [flatB] using hi) (hreg _ _ _ _ _ hs)
    exact ⟨_, _, h1, fun a w hf => ⟨L', h', h2, hf⟩⟩
  | cons q r ih =>
    intro c k L h hi hb hs
    obtain ⟨o, c'⟩ := q
    obtain ⟨hb1, hb2⟩ := hb
    have hci : ∀ i, c[i]? = aops[k + i]? ∨ c.length ≤ i := fun i => by
      rcases Nat.lt_or_ge i c.length with hlt | hge
      · left; rw [← hi i, List.getElem?_append_left hlt]
      · exact .inr hge
    have hrun : runO P m true c L h fun L h => S (.seq (.reg false [o]) (acSegs c' r)) L h Q := hreg _ _ _ _ _ (hseq _ _ _ _ _ hs)
    obtain ⟨L1, h1, q1, q2⟩ : ∃ L' h', RunI P aops (List.range' k c.length) (lkL L) h (lkL L') h' ∧ S (.seq (.reg false [o]) (acSegs c' r)) L' h' Q := by
      have hc2 : ∀ i, c[i]? = ((aops.take (k + c.length)))[k + i]? := fun i => by
        rcases hci i with h | h
        · rcases Nat.lt_or_ge i c.length with hlt | hge
          · rw [List.getElem?_take_of_lt (by omega), h]
          · rw [List.getElem?_eq_none hge, List.getElem?_eq_none (by simp; omega)]
        · rw [List.getElem?_eq_none h, List.getElem?_eq_none (by simp; omega)]
      obtain ⟨L', h', q1, q2⟩ := runO_run (aops := aops.take (k + c.length)) c k L h _ hc2 hrun
      exact ⟨L', h', RunI.of_take q1, q2⟩
    refine ⟨_, _, q1, ?_⟩
    have hob : aops[k + c.length]? = some o := by rw [← hi c.length]; simp [flatB]
    have hlen := (compOs_get hcomp).1
    obtain ⟨oo, hoo⟩ : ∃ oo, ops.toList[k + c.length]? = some oo := ⟨_, List.getElem?_eq_getElem (by have := get_lt hob; omega)⟩
    have hao := (compOs_get hcomp).2 _ oo o hoo hob
    have hgo : gOk N o = true := by rw [List.all_eq_true] at hg; exact hg o (List.mem_of_getElem? hob)
    have hone : runO P m false [o] L1 h1 fun L h => S (acSegs c' r) L h Q := hreg _ _ _ _ _ (hseq _ _ _ _ _ q2)
    refine ⟨?_, fun a w K hf hK => ?_⟩
    · simp only [barB, Bool.and_eq_true, List.all_eq_true, List.mem_range, Bool.or_eq_true, decide_eq_true_eq] at hb1
      exact ⟨hb1.1, fun i h1 h2 => (hb1.2 i h2).resolve_left (by omega)⟩
    · refine op_wp hm (by simpa using hoo) hao hgo hone hf fun L' h' a' w' hk hf' => ?_
      obtain ⟨e3, h3, p1, p2⟩ := ih c' (k + c.length + 1) L' h' (fun i => by
        have := hi (c.length + 1 + i)
        rw [List.getElem?_append_right (by omega)] at this
        rw [show c.length + 1 + i - c.length = i + 1 by omega] at this
        simp only [flatB, List.getElem?_cons_succ] at this
        rw [this]; congr 1; omega) hb2 hk
      exact hK _ _ _ _ _ _ hf' p1 p2

theorem region_segs {S : AC → Lv → Hp → Post → Prop} {m id : Nat} {ops : Array Oper} {aops : List AO} {Q : Post} {L : Lv} {h : Hp} {a : Act} {w : World} (hmo : P.follows .mixedOrders = true) (hm : h0.length ≤ m)
    (hseq : ∀ a b L h Q, S (.seq a b) L h Q → S a L h fun x L h => match x with | .normal => S b L h Q | x => Q x L h) (hreg : ∀ d ops L h Q, S (.reg d ops) L h Q → runO P m d ops L h fun L h => Q .normal L h)
    (hcomp : compOs P ops N ops.toList = some aops) (hg : aops.all (gOk N) = true) (hk : aops.all constOk = true) (hd : drawOk ops.toList aops = true) (hf : Fits N G0 ι0 h0 w0 (lkL L) h a w) (hs : S (acDraw ops aops) L h Q) : (Code.region id ops true).wp P (out N G0 ι0 h0 w0 Q) a w := by
  unfold acDraw at hs
  generalize hsp : splitD (masks ops.toList []) ops.size 0 aops = p at hs
  obtain ⟨c, bs⟩ := p
  obtain ⟨h1, h2⟩ := splitD_spec aops 0 c bs hsp
  obtain ⟨e', h', q1, q2⟩ := segs_plan hm hseq hreg hcomp hg bs c 0 L h (fun i => by rw [← h1]; simp) h2 hs
  refine region_draw hmo hcomp hg hk hd hf ?_ q1 q2
  rw [flat_idx, Nat.zero_add]
  have hlen := (compOs_get hcomp).1
  have : ops.size = c.length + (flatB bs).length := by
    rw [← List.length_append, ← h1, ← hlen]; simp
  rw [this, List.range_eq_range']
  have := List.range'_append_1 (s := 0) (m := c.length) (n := (flatB bs).length)
  simpa using this

theorem vcC_sound {Λ : Len} (hΛ : ∀ l, Λ l = (l.length : Int)) {m : Nat} (hm : P.follows .mixedOrders = true) (hm0 : h0.length ≤ m) : ∀ (c : Code) (ac : AC) (L : Lv) (h : Hp) (Q : Post) (a : Act) (w : World), compC P N c = some ac → vcC P Λ m ac L h Q →
    Fits N G0 ι0 h0 w0 (lkL L) h a w → c.wp P (out N G0 ι0 h0 w0 Q) a w := by
  intro c
  induction c with
  | skip =>
    intro ac L h Q a w hc hv hf
    simp only [compC, Option.some.injEq] at hc; subst hc
    exact wp_skip ⟨L, h, hv, hf⟩
  | label l =>
    intro ac L h Q a w hc hv hf
    simp only [compC, Option.some.injEq] at hc; subst hc
    exact wp_label ⟨L, h, hv, hf⟩
  | region id ops draw =>
    intro ac L h Q a w hc hv hf
    simp only [compC] at hc
    split at hc
    · rename_i aos haos
      split at hc
      · rename_i hcond
        cases hc
        cases draw with
        | false =>
          refine wp_region ?_
          rw [List.range_eq_range']
          have := region_seq (ops := ops) (Q := out N G0 ι0 h0 w0 Q) hm0 ops.toList aos 0 L h _ a w (by simp) haos hcond.1 (vcOps_runO hΛ hv) hf (fun L' h' a' w' hk hf' => ⟨L', h', hk, hf'⟩)
          simpa using this
        | true =>
          exact region_segs (S := fun ac L h Q => vcC P Λ m ac L h Q) hm hm0 (fun _ _ _ _ _ h => h) (fun _ _ _ _ _ h => vcOps_runO hΛ h) haos hcond.1 (hcond.2 rfl).1 (hcond.2 rfl).2 hf hv
      · cases hc
    · cases hc
  | seq x y ihx ihy =>
    intro ac L h Q a w hc hv hf
    simp only [compC] at hc
    split at hc
    · rename_i cx' cy' hx hy
      cases hc
      refine wp_seq (wp_mono (ihx cx' L h _ a w hx hv hf) fun e a' w' ⟨L', h', hq, hf'⟩ => ?_)
      cases e with
      | normal => exact ihy cy' L' h' Q a' w' hy hq hf'
      | exit i => exact ⟨L', h', hq, hf'⟩
      | ret => exact ⟨L', h', hq, hf'⟩
      | goto => exact hq.elim
      | panic => exact hq.elim
      | outgrown => exact hq.elim
    · cases hc
  | cond c x y ihx ihy =>
    intro ac L h Q a w hc hv hf
    simp only [compC] at hc
    split at hc
    · rename_i c' cx' cy' hcc hx hy
      cases hc
      simp only [vcC] at hv
      split at hv
      · rename_i t ht
        obtain ⟨G, ι, st⟩ := hf
        have hr := cx_sound hcc st.rel
        rw [evN_eq] at ht
        rw [ht] at hr
        have he := inv_bool hr
        cases t with
        | true => exact wp_cond_true he (ihx cx' L h Q a w hx hv ⟨G, ι, st⟩)
        | false => exact wp_cond_false he (ihy cy' L h Q a w hy hv ⟨G, ι, st⟩)
      · exact hv.elim
    · cases hc
  | block id c ih =>
    intro ac L h Q a w hc hv hf
    simp only [compC] at hc
    split at hc
    · rename_i c' hcc
      cases hc
      refine wp_block (wp_mono (ih c' L h _ a w hcc hv hf) fun e a' w' ⟨L', h', hq, hf'⟩ => ?_)
      cases e with
      | normal => exact ⟨L', h', hq, hf'⟩
      | ret => exact ⟨L', h', hq, hf'⟩
      | exit i =>
        simp only [exq] at hq
        simp only [Exit.inBlock]
        split at hq
        · rename_i hb
          have : i = id := Nat.eq_of_beq_eq_true hb
          rw [if_pos this]; exact ⟨L', h', hq, hf'⟩
        · rename_i hb
          have : ¬ i = id := fun e => by subst e; simp at hb
          rw [if_neg this]; exact ⟨L', h', hq, hf'⟩
      | goto => exact hq.elim
      | panic => exact hq.elim
      | outgrown => exact hq.elim
    · cases hc
  | loop c ih =>
    intro ac L h Q a w hc hv hf
    simp only [compC] at hc
    split at hc
    · rename_i c' hcc
      cases hc
      simp only [vcC] at hv
      obtain ⟨I, n, L1, h1, hwk, hstart, hround⟩ := hv
      refine wp_loop_ghost (fun n a w => ∃ L h, I n L h ∧ Fits N G0 ι0 h0 w0 (lkL L) h a w) ?_ n a w ⟨L1, h1, hstart, hwk.fits hm0 hf⟩
      intro n a w ⟨L2, h2, hI, hf2⟩
      refine wp_mono (ih c' L2 h2 _ a w hcc (hround n L2 h2 hI) hf2) fun e a' w' ⟨L', h', hq, hf'⟩ => ?_
      cases e with
      | normal =>
        obtain ⟨n', L3, h3, h4, h5, h6⟩ := hq
        exact ⟨n', h4, L3, h3, h6, h5.fits hm0 hf'⟩
      | exit i =>
        obtain ⟨L3, h3, h4, h5⟩ := hq
        exact ⟨L3, h3, h5, h4.fits hm0 hf'⟩
      | ret => exact ⟨L', h', hq, hf'⟩
      | goto => exact hq.elim
      | panic => exact hq.elim
      | outgrown => exact hq.elim
    · cases hc
  | scope c ih =>
    intro ac L h Q a w hc hv hf
    simp only [compC] at hc
    refine wp_scope_straight (wp_mono (ih ac L h Q a w hc hv hf) fun e a' w' hq => ?_)
    obtain ⟨L', h', hq, hf'⟩ := hq
    cases e with
    | normal => exact ⟨L', h', hq, hf'⟩
    | exit i => exact ⟨L', h', hq, hf'⟩
    | ret => exact ⟨L', h', hq, hf'⟩
    | goto => exact hq.elim
    | panic => exact hq.elim
    | outgrown => exact hq.elim
  | exit id =>
    intro ac L h Q a w hc hv hf
    simp only [compC, Option.some.injEq] at hc; subst hc
    exact wp_exit ⟨L, h, hv, hf⟩
  | ret =>
    intro ac L h Q a w hc hv hf
    simp only [compC, Option.some.injEq] at hc; subst hc
    exact wp_ret ⟨L, h, hv, hf⟩
  | goto l => intro ac L h Q a w hc; simp [compC] at hc
  | rangeFunc => intro ac L h Q a w hc; simp [compC] at hc
  | refuse => intro ac L h Q a w hc; simp [compC] at hc

end
end Go.Ab

/-
  The engine, part y: a function's contract out of its text's condition.
-/
namespace Go.Ab

/-- a function's text: how many slots, where the results lie, the body -/
structure AF where
  nt : Nat
  res : List (Nat × Option (Option Nat))
  body : AC

def resC (P : Program) : List ResultVar → Option (List (Nat × Option (Option Nat)))
  | [] => some []
  | .tmp t :: r => match resC P r with
    | some l => some ((t, none) :: l)
    | none => none
  | .cell t ty :: r => match ldk P ty, resC P r with
    | some k, some l => some ((t, some k) :: l)
    | _, _ => none

def compF (P : Program) (fn : Func) : Option AF :=
  match fn.body with
  | some c => match compC P fn.ntmps c, resC P fn.results.toList with
    | some ac, some r => some ⟨fn.ntmps, r, ac⟩
    | _, _ => none
  | none => none

def resA (e : Env) (h : Hp) : List (Nat × Option (Option Nat)) → Option (List AV)
  | [] => some []
  | (s, k) :: r => match resA e h r with
    | some l => (match k with
      | none => some (e s :: l)
      | some none => match rd h (e s) with
        | some (c :: _) => some (.c c :: l)
        | _ => none
      | some (some n) => match rd h (e s) with
        | some cs => if n ≤ cs.length then some (.agg (cs.take n) :: l) else none
        | none => none)
    | none => none

def pack : List AV → AV
  | [x] => x
  | l => .tup l

/-- a result that leads into no block of the heap any more -/
def frzC (h : Hp) : CV → Option (CV × Hp)
  | .d x => some (.d (fgD x), h)
  | .cl _ sz l => some (.d (.list false sz l), h)
  | .arr l v i n => match h[l]? with
    | some (.da _ v' sz es) => (match Nat.beq v' v with
      | true => some (.d (.list false sz ((es.drop i).take n)), h.set l .dead)
      | false => none)
    | _ => none
  | .u => some (.u, h)
  | .rp cs => some (.rp cs, h)
  | .fn f [] => some (.fn f [], h)
  | _ => none

def frzCs (h : Hp) : List CV → Option (List CV × Hp)
  | [] => some ([], h)
  | x :: r => match frzC h x with
    | some (y, h1) => (match frzCs h1 r with
      | some (l, h2) => some (y :: l, h2)
      | none => none)
    | none => none

def frzA1 (h : Hp) : AV → Option (AV × Hp)
  | .c x => match frzC h x with
    | some (y, h1) => some (.c y, h1)
    | none => none
  | .agg l => match frzCs h l with
    | some (y, h1) => some (.agg y, h1)
    | none => none
  | .tup _ => none

def frzAs (h : Hp) : List AV → Option (List AV × Hp)
  | [] => some ([], h)
  | x :: r => match frzA1 h x with
    | some (y, h1) => (match frzAs h1 r with
      | some (l, h2) => some (y :: l, h2)
      | none => none)
    | none => none

/-- the same, while conditions are computed: what is given up gets a name -/
def vFrzC (h : Hp) (x : CV) (K : CV → Hp → Prop) : Prop :=
  match x with
  | .d x => K (.d (fgD x)) h
  | .arr l v i n => match h[l]? with
    | some (.da _ v' sz es) => (Unit → v' = v) ∧ ∀ ls, ls = (es.drop i).take n → K (.d (.list false sz ls)) (h.set l .dead)
    | _ => False
  | x => match frzC h x with
    | some (y, h1) => K y h1
    | none => False

def vFrzCs (h : Hp) : List CV → (List CV → Hp → Prop) → Prop
  | [], K => K [] h
  | x :: r, K => vFrzC h x fun y h1 => vFrzCs h1 r fun l h2 => K (y :: l) h2

def vFrzA1 (h : Hp) (x : AV) (K : AV → Hp → Prop) : Prop :=
  match x with
  | .c x => vFrzC h x fun y h1 => K (.c y) h1
  | .agg l => vFrzCs h l fun y h1 => K (.agg y) h1
  | .tup _ => False

def vFrzAs (h : Hp) : List AV → (List AV → Hp → Prop) → Prop
  | [], K => K [] h
  | x :: r, K => vFrzA1 h x fun y h1 => vFrzAs h1 r fun l h2 => K (y :: l) h2

theorem vFrzC_sound {h : Hp} {x : CV} {K : CV → Hp → Prop} (hv : vFrzC h x K) : ∃ y h1, frzC h x = some (y, h1) ∧ K y h1 := by
  unfold vFrzC at hv
  split at hv
  · exact ⟨_, _, rfl, hv⟩
  · split at hv
    · rename_i hes
      have hb := hv.1 ()
      subst hb
      exact ⟨_, _, by simp only [frzC, hes, Nat.beq_refl], hv.2 _ rfl⟩
    · exact hv.elim
  · split at hv
    · rename_i y h1 hy; exact ⟨y, h1, hy, hv⟩
    · exact hv.elim

theorem vFrzCs_sound : ∀ {l : List CV} {h : Hp} {K : List CV → Hp → Prop}, vFrzCs h l K → ∃ y h1, frzCs h l = some (y, h1) ∧ K y h1 := by
  intro l
  induction l with
  | nil => intro h K hv; exact ⟨_, _, rfl, hv⟩
  | cons x r ih =>
    intro h K hv
    obtain ⟨y, h1, e1, hv⟩ := vFrzC_sound hv
    obtain ⟨z, h2, e2, hv⟩ := ih hv
    exact ⟨_, _, by simp only [frzCs, e1, e2], hv⟩

theorem vFrzA1_sound {h : Hp} {x : AV} {K : AV → Hp → Prop} (hv : vFrzA1 h x K) : ∃ y h1, frzA1 h x = some (y, h1) ∧ K y h1 := by
  unfold vFrzA1 at hv
  split at hv
  · obtain ⟨y, h1, e1, hv⟩ := vFrzC_sound hv
    exact ⟨_, _, by simp only [frzA1, e1], hv⟩
  · obtain ⟨y, h1, e1, hv⟩ := vFrzCs_sound hv
    exact ⟨_, _, by simp only [frzA1, e1], hv⟩
  · exact hv.elim

theorem vFrzAs_sound : ∀ {l : List AV} {h : Hp} {K : List AV → Hp → Prop}, vFrzAs h l K → ∃ y h1, frzAs h l = some (y, h1) ∧ K y h1 := by
  intro l
  induction l with
  | nil => intro h K hv; exact ⟨_, _, rfl, hv⟩
  | cons x r ih =>
    intro h K hv
    obtain ⟨y, h1, e1, hv⟩ := vFrzA1_sound hv
    obtain ⟨z, h2, e2, hv⟩ := ih hv
    exact ⟨_, _, by simp only [frzAs, e1, e2], hv⟩

def RetP (res : List (Nat × Option (Option Nat))) (L : Lv) (h : Hp) (K : AV → Prop) : Prop :=
  match resA (lkN L) h res with
  | some vs => (match frzAs h vs with
    | some (rs, _) => K (pack rs)
    | none => False)
  | none => False

/-- the same, while conditions are computed -/
def RetQ (res : List (Nat × Option (Option Nat))) (L : Lv) (h : Hp) (K : AV → Prop) : Prop :=
  match resA (lkN L) h res with
  | some vs => vFrzAs h vs fun rs _ => K (pack rs)
  | none => False

theorem RetQ.ret {res : List (Nat × Option (Option Nat))} {L : Lv} {h : Hp} {K : AV → Prop} (hq : RetQ res L h K) : RetP res L h K := by
  unfold RetQ at hq
  unfold RetP
  split at hq
  · rename_i vs hvs
    obtain ⟨y, h1, e1, hk⟩ := vFrzAs_sound hq
    simp only [e1]; exact hk
  · exact hq.elim

def RetH (res : List (Nat × Option (Option Nat))) (L : Lv) (h : Hp) (K : AV → Hp → Prop) : Prop :=
  match resA (lkN L) h res with
  | some vs => K (pack vs) h
  | none => False

def argL : Nat → List AV → Lv
  | _, [] => []
  | n, v :: r => (n, v) :: argL (n + 1) r

/-- the condition of a function that owns nothing at its beginning -/
def vcFE (res : List (Nat × Option (Option Nat))) (K : AV → Prop) : Post := fun x L h => match x with
  | .exit _ => False
  | _ => RetQ res L h K
def vcF (P : Program) (Λ : Len) (af : AF) (args : List AV) (K : AV → Prop) : Prop :=
  match af with
  | ⟨_, res, body⟩ => vcC P Λ 0 body (argL 0 args) [] (vcFE res K)

/-- the condition of a function that works on its caller's blocks -/
def vcH (P : Program) (Λ : Len) (af : AF) (args : List AV) (h : Hp) (K : AV → Hp → Prop) : Prop :=
  match af with
  | ⟨_, res, body⟩ => vcC P Λ h.length body (argL 0 args) h fun x L h => match x with
    | .exit _ => False
    | _ => RetH res L h K

section
variable {P : Program} {G : Nat → Prop} {ι : Io} {h : Hp} {w : World}

theorem argL_get : ∀ (args : List AV) (n i : Nat), lkL (argL n args) i = if n ≤ i then (args[i - n]?).getD (.c .u) else .c .u := by
  intro args
  induction args with
  | nil => intro n i; simp [argL, lkL]
  | cons v r ih =>
    intro n i
    simp only [argL, lkL, upd]
    by_cases h1 : n = i
    · subst h1; simp
    · rw [if_neg h1, ih]
      by_cases h2 : n ≤ i
      · rw [if_pos (by omega), if_pos h2, show i - n = (i - (n + 1)) + 1 by omega]; simp
      · rw [if_neg (by omega), if_neg h2]

theorem frzC_sound {v : Value} {x y : CV} {h' : Hp} (hr : HR G ι h w) (hx : CR G w ι h v x) (hf : frzC h x = some (y, h')) :
    ∃ G', HR G' ι h' w ∧ CR G' w ι h' v y ∧ Ext G ι h w G' ι h' w ∧ pureC y = true := by
  unfold frzC at hf
  split at hf
  · cases hf; exact ⟨G, hr, hx.fg, Ext.refl _ _ _ _, rfl⟩
  · cases hf; exact ⟨G, hr, hx.fg, Ext.refl _ _ _ _, rfl⟩
  · rename_i l ver i n
    split at hf
    · rename_i v' sz es hes
      split at hf
      · rename_i hv
        have hv : v' = ver := Nat.eq_of_beq_eq_true hv
        subst hv
        cases hf
        obtain ⟨G', k1, k2, k3⟩ := frz_sound (h' := h.set l .dead) (d := .list false sz ((es.drop i).take n)) hr hx (by simp [frz, hes])
        exact ⟨G', k1, .d _ _ k2, k3, rfl⟩
      · cases hf
    · cases hf
  · cases hf; exact ⟨G, hr, hx, Ext.refl _ _ _ _, rfl⟩
  · cases hf; exact ⟨G, hr, hx, Ext.refl _ _ _ _, rfl⟩
  · cases hf; exact ⟨G, hr, hx, Ext.refl _ _ _ _, rfl⟩
  · cases hf

theorem frzCs_sound : ∀ {xs ys : List CV} {vs : List Value} {G : Nat → Prop} {h h' : Hp}, HR G ι h w → vs.length = xs.length →
    (∀ (i : Nat) (v : Value) (x : CV), vs[i]? = some v → xs[i]? = some x → CR G w ι h v x) → frzCs h xs = some (ys, h') →
    ∃ G', HR G' ι h' w ∧ Ext G ι h w G' ι h' w ∧ vs.length = ys.length ∧ ys.all pureC = true ∧ ∀ (i : Nat) (v : Value) (y : CV), vs[i]? = some v → ys[i]? = some y → CR G' w ι h' v y := by
  intro xs
  induction xs with
  | nil =>
    intro ys vs G h h' hr hl _ hf
    simp only [frzCs, Option.some.injEq, Prod.mk.injEq] at hf
    obtain ⟨rfl, rfl⟩ := hf
    exact ⟨G, hr, Ext.refl _ _ _ _, hl, rfl, by simp⟩
  | cons x xs ih =>
    intro ys vs G h h' hr hl hc hf
    cases vs with
    | nil => simp at hl
    | cons v vs =>
      simp only [frzCs] at hf
      split at hf
      · rename_i y h1 hy
        split at hf
        · rename_i l h2 hl2
          cases hf
          obtain ⟨G1, k1, k2, k3, k4⟩ := frzC_sound hr (hc 0 v x rfl rfl) hy
          obtain ⟨G2, q1, q2, q3, q4, q5⟩ := ih k1 (by simpa using hl) (fun i v x hv hx => (hc (i + 1) v x (by simpa using hv) (by simpa using hx)).ext k3 hr) hl2
          refine ⟨G2, q1, k3.trans q2, by simp [q3], by simp [k4, q4], fun i v' y' hv hy' => ?_⟩
          cases i with
          | zero => simp at hv hy'; subst hv hy'; exact k2.ext q2 k1
          | succ i => simp at hv hy'; exact q5 i v' y' hv hy'
        · cases hf
      · cases hf

theorem frzA1_sound {v : Value} {x y : AV} {h' : Hp} (hr : HR G ι h w) (hx : VR G w ι h v x) (hf : frzA1 h x = some (y, h')) :
    ∃ G', HR G' ι h' w ∧ VR G' w ι h' v y ∧ Ext G ι h w G' ι h' w ∧ pureA y = true := by
  cases hx with
  | c _ x hc =>
    simp only [frzA1] at hf
    split at hf
    · rename_i z h1 hz
      cases hf
      obtain ⟨G', k1, k2, k3, k4⟩ := frzC_sound hr hc hz
      exact ⟨G', k1, .c _ _ k2, k3, k4⟩
    · cases hf
  | agg cs l hn hc =>
    simp only [frzA1] at hf
    split at hf
    · rename_i z h1 hz
      cases hf
      obtain ⟨G', k1, k2, k3, k4, k5⟩ := frzCs_sound hr (vs := cs.toList) (by simpa using hn) (fun i v x hv hx => hc i v x (by simpa using hv) hx) hz
      exact ⟨G', k1, .agg _ _ (by simpa using k3) (fun i v x hv hx => k5 i v x (by simpa using hv) hx), k2, k4⟩
    · cases hf
  | tup => simp [frzA1] at hf

theorem frzAs_sound : ∀ {xs ys : List AV} {vs : List Value} {G : Nat → Prop} {h h' : Hp}, HR G ι h w → VRs G w ι h vs xs → frzAs h xs = some (ys, h') →
    ∃ G', HR G' ι h' w ∧ Ext G ι h w G' ι h' w ∧ VRs G' w ι h' vs ys ∧ pureA.pureAs ys = true := by
  intro xs
  induction xs with
  | nil =>
    intro ys vs G h h' hr hv hf
    simp only [frzAs, Option.some.injEq, Prod.mk.injEq] at hf
    obtain ⟨rfl, rfl⟩ := hf
    exact ⟨G, hr, Ext.refl _ _ _ _, hv, rfl⟩
  | cons x xs ih =>
    intro ys vs G h h' hr hv hf
    obtain ⟨hl, hc⟩ := hv
    cases vs with
    | nil => simp at hl
    | cons v vs =>
      simp only [frzAs] at hf
      split at hf
      · rename_i y h1 hy
        split at hf
        · rename_i l h2 hl2
          cases hf
          obtain ⟨G1, k1, k2, k3, k4⟩ := frzA1_sound hr (hc 0 v x rfl rfl) hy
          obtain ⟨G2, q1, q2, q3, q4⟩ := ih k1 ⟨by simpa using hl, fun i v x hv hx => (hc (i + 1) v x (by simpa using hv) (by simpa using hx)).ext k3 hr⟩ hl2
          refine ⟨G2, q1, k3.trans q2, ⟨by simp [q3.1], fun i v' y' hv hy' => ?_⟩, by simp [pureA.pureAs, k4, q4]⟩
          cases i with
          | zero => simp at hv hy'; subst hv hy'; exact k2.ext q2 k1
          | succ i => simp at hv hy'; exact q3.2 i v' y' hv hy'
        · cases hf
      · cases hf

theorem asAddr_some {b o : Nat} : (asAddr (.pointer (some ⟨b, o, none⟩))).run P w = .ok ⟨b, o, none⟩ w := rfl

theorem results_run {tmps : Array Value} {e : Env} (hr : HR G ι h w) (he : ∀ i, VR G w ι h (tmps.getD i undef) (e i)) : ∀ (rs : List ResultVar) (res : List (Nat × Option (Option Nat))) (vs : List AV), resC P rs = some res → resA e h res = some vs →
    ∃ us : List Value, (rs.mapM fun (r : ResultVar) => (match r with | .tmp t => (pure (tmps.getD t undef) : Sem Value) | .cell a t => do loadVar t (← asAddr (tmps.getD a undef)))).run P w = .ok us w ∧ VRs G w ι h us vs := by
  intro rs
  induction rs with
  | nil =>
    intro res vs h1 h2
    simp only [resC, Option.some.injEq] at h1; subst h1
    simp only [resA, Option.some.injEq] at h2; subst h2
    exact ⟨[], by simp, rfl, by simp⟩
  | cons r rs ih =>
    intro res vs h1 h2
    have fin : ∀ (l : List (Nat × Option (Option Nat))) (l2 : List AV) (u : Value) (x : AV), resC P rs = some l → resA e h l = some l2 → vs = x :: l2 → VR G w ι h u x →
        ((match r with | .tmp t => (pure (tmps.getD t undef) : Sem Value) | .cell a t => do loadVar t (← asAddr (tmps.getD a undef)))).run P w = .ok u w →
        ∃ us : List Value, ((r :: rs).mapM fun (r : ResultVar) => (match r with | .tmp t => (pure (tmps.getD t undef) : Sem Value) | .cell a t => do loadVar t (← asAddr (tmps.getD a undef)))).run P w = .ok us w ∧ VRs G w ι h us vs := by
      intro l l2 u x a1 a2 a3 a4 a5
      obtain ⟨us, q1, q2, q3⟩ := ih l l2 a1 a2
      subst a3
      refine ⟨u :: us, ?_, by simp [q2], fun i v y hv hy => ?_⟩
      · simp only [List.mapM_cons, Sem.run_bind, a5, Result.andThen_ok, q1, Sem.run_pure]
      · cases i with
        | zero => simp at hv hy; subst hv hy; exact a4
        | succ i => simp at hv hy; exact q3 i v y hv hy
    cases r with
    | tmp t =>
      simp only [resC] at h1
      split at h1
      · rename_i l hl
        cases h1
        simp only [resA] at h2
        split at h2
        · rename_i l2 hl2
          cases h2
          exact fin l l2 _ _ hl hl2 rfl (he t) rfl
        · cases h2
      · cases h1
    | cell t ty =>
      simp only [resC] at h1
      split at h1
      · rename_i k l hk hl
        cases h1
        simp only [resA] at h2
        split at h2
        · rename_i l2 hl2
          cases k with
          | none =>
            simp only at h2
            split at h2
            · rename_i c cs hrd
              cases h2
              obtain ⟨b, o, hv, hc⟩ := rd_sound hr (he t) hrd
              obtain ⟨v, k1, k2⟩ := s_ld1 (P := P) hr (he t) hk hrd
              rw [hv] at k1
              refine fin l l2 v _ hl hl2 rfl k2 ?_
              simp only [hv, Sem.run_bind, asAddr_some, Result.andThen_ok]
              simpa [Instr.loadAt, Instr.sureAddr] using k1
            · cases h2
          | some n =>
            simp only at h2
            split at h2
            · rename_i cs hrd
              split at h2
              · rename_i hn
                cases h2
                obtain ⟨b, o, hv, hc⟩ := rd_sound hr (he t) hrd
                obtain ⟨v, k1, k2⟩ := s_ldn (P := P) hr (he t) hk hrd hn
                rw [hv] at k1
                refine fin l l2 v _ hl hl2 rfl k2 ?_
                simp only [hv, Sem.run_bind, asAddr_some, Result.andThen_ok]
                simpa [Instr.loadAt, Instr.sureAddr] using k1
              · cases h2
            · cases h2
        · cases h2
      · cases h1

/-- several results are one tuple -/
theorem pack_sound {us : List Value} {vs : List AV} (hv : VRs G w ι h us vs) : VR G w ι h (if hs : us.toArray.size = 1 then us.toArray[0] else .tuple us.toArray) (pack vs) := by
  obtain ⟨h1, h2⟩ := hv
  cases us with
  | nil =>
    cases vs with
    | nil => exact .tup _ _ rfl (by simp)
    | cons => simp at h1
  | cons u us =>
    cases vs with
    | nil => simp at h1
    | cons v vs =>
      cases us with
      | nil =>
        cases vs with
        | nil => exact h2 0 u v rfl rfl
        | cons => simp at h1
      | cons u2 us =>
        cases vs with
        | nil => simp at h1
        | cons v2 vs =>
          refine .tup _ _ (by simpa using h1) fun i x y hx hy => h2 i x y (by simpa using hx) hy

theorem results_all {fn : Func} {af : AF} {tmps : Array Value} {e : Env} {vs : List AV} (hc : resC P fn.results.toList = some af.res) (hr : HR G ι h w) (he : ∀ i, VR G w ι h (tmps.getD i undef) (e i)) (hv : resA e h af.res = some vs) :
    ∃ us : List Value, (results fn tmps).run P w = .ok (if hs : us.toArray.size = 1 then us.toArray[0] else .tuple us.toArray) w ∧ VRs G w ι h us vs := by
  obtain ⟨us, q1, q2⟩ := results_run (P := P) hr he fn.results.toList af.res vs hc hv
  refine ⟨us, ?_, q2⟩
  simp only [results, Sem.run_bind]
  rw [Array.mapM_eq_mapM_toList, Sem.run_map]
  erw [q1]
  simp only [Result.andThen_ok, Sem.run_pure]

theorem enter_fits {fn : Func} {af : AF} {args : List AV} {vs : List Value} (_hn : af.nt = fn.ntmps) (hl : args.length ≤ fn.ntmps) (hr : HR G ι h w) (hv : VRs G w ι h vs args) :
    Fits fn.ntmps G ι h w (lkL (argL 0 args)) h { tmps := vs.toArray ++ Array.replicate (fn.ntmps - vs.toArray.size) undef, defers := [] } w := by
  refine ⟨G, ι, ⟨hr, rfl, ?_, fun i => ?_⟩, Ext.refl _ _ _ _⟩
  · have := hv.1; simp; omega
  · simp only [lk]
    rw [argL_get]
    simp only [Nat.zero_le, if_true, Nat.sub_zero]
    cases hi : args[i]? with
    | none => exact .c _ _ (.u _)
    | some x =>
      have hil := get_lt hi
      have hlt : i < vs.length := by rw [hv.1]; exact hil
      have hvi : vs[i]? = some vs[i] := List.getElem?_eq_getElem hlt
      have : (vs.toArray ++ Array.replicate (fn.ntmps - vs.toArray.size) undef).getD i undef = vs[i] := by
        rw [Array.getD_eq_getD_getElem?, Array.getElem?_append_left (by simpa using hlt)]
        simp [hlt]
      rw [this]
      exact hv.2 i _ x hvi hi

/-- the ways out of a function's text -/
def postP (res : List (Nat × Option (Option Nat))) (K : AV → Prop) : Post := fun x L h => match x with
  | .exit _ => False
  | _ => RetP res L h K
def postH (res : List (Nat × Option (Option Nat))) (K : AV → Hp → Prop) : Post := fun x L h => match x with
  | .exit _ => False
  | _ => RetH res L h K

theorem fn_pure_wp {f : Nat} {fn : Func} {c : Code} {res : List (Nat × Option (Option Nat))} {args : List AV} {K : AV → Prop} (hf : P.funcs[f]? = some fn) (hb : fn.body = some c) (hres : resC P fn.results.toList = some res) (hl : args.length ≤ fn.ntmps)
    (hwp : ∀ (G : Nat → Prop) (ι : Io) (w : World) (a : Act), Fits fn.ntmps G ι [] w (lkL (argL 0 args)) [] a w → c.wp P (out fn.ntmps G ι [] w (postP res K)) a w) :
    FnS P f args [] fun r _ => pureA r = true ∧ K r := by
  refine ⟨fun G ι w vs hr hvs => ?_⟩
  refine calls_of_wp hf hb (wp_mono (hwp G ι w _ (enter_fits (af := ⟨fn.ntmps, res, .skip⟩) rfl hl hr hvs)) fun x a w' ⟨L, h', hq, hfit⟩ => ?_)
  have fin : RetP res L h' K → a.defers = [] ∧ ∃ v, (results fn a.tmps).run P w' = .ok v w' ∧ ∃ v' r G' ι' h'', Ending.returned v = .returned v' ∧ (pureA r = true ∧ K r) ∧ HR G' ι' h'' w' ∧ VR G' w' ι' h'' v' r ∧ Ext G ι [] w G' ι' h'' w' := by
    intro hret
    obtain ⟨G1, ι1, st⟩ := hfit
    refine ⟨st.rel.dfr, ?_⟩
    unfold RetP at hret
    split at hret
    · rename_i vs' hvs'
      split at hret
      · rename_i rs h2 hrs
        rw [lkN_fun] at hvs'
        obtain ⟨us, q1, q2⟩ := results_all (P := P) (fn := fn) (af := ⟨fn.ntmps, res, .skip⟩) hres st.rel.hr st.rel.env hvs'
        obtain ⟨G2, k1, k2, k3, k4⟩ := frzAs_sound st.rel.hr q2 hrs
        refine ⟨_, q1, _, pack rs, G2, ι1, h2, rfl, ⟨?_, hret⟩, k1, pack_sound k3, st.ext.trans k2⟩
        cases rs with
        | nil => rfl
        | cons x rs =>
          cases rs with
          | nil => simp only [pureA.pureAs, Bool.and_true] at k4; exact k4
          | cons y rs => exact k4
      · exact hret.elim
    · exact hret.elim
  cases x with
  | normal => exact fin hq
  | ret => exact fin hq
  | exit i => exact hq.elim
  | goto => exact hq.elim
  | panic => exact hq.elim
  | outgrown => exact hq.elim

theorem fn_heap_wp {f : Nat} {fn : Func} {c : Code} {res : List (Nat × Option (Option Nat))} {args : List AV} {h : Hp} {K : AV → Hp → Prop} (hf : P.funcs[f]? = some fn) (hb : fn.body = some c) (hres : resC P fn.results.toList = some res) (hl : args.length ≤ fn.ntmps)
    (hwp : ∀ (G : Nat → Prop) (ι : Io) (w : World) (a : Act), Fits fn.ntmps G ι h w (lkL (argL 0 args)) h a w → c.wp P (out fn.ntmps G ι h w (postH res K)) a w) :
    FnS P f args h K := by
  refine ⟨fun G ι w vs hr hvs => ?_⟩
  refine calls_of_wp hf hb (wp_mono (hwp G ι w _ (enter_fits (af := ⟨fn.ntmps, res, .skip⟩) rfl hl hr hvs)) fun x a w' ⟨L, h', hq, hfit⟩ => ?_)
  have fin : RetH res L h' K → a.defers = [] ∧ ∃ v, (results fn a.tmps).run P w' = .ok v w' ∧ ∃ v' r G' ι' h'', Ending.returned v = .returned v' ∧ K r h'' ∧ HR G' ι' h'' w' ∧ VR G' w' ι' h'' v' r ∧ Ext G ι h w G' ι' h'' w' := by
    intro hret
    obtain ⟨G1, ι1, st⟩ := hfit
    refine ⟨st.rel.dfr, ?_⟩
    unfold RetH at hret
    split at hret
    · rename_i vs' hvs'
      rw [lkN_fun] at hvs'
      obtain ⟨us, q1, q2⟩ := results_all (P := P) (fn := fn) (af := ⟨fn.ntmps, res, .skip⟩) hres st.rel.hr st.rel.env hvs'
      exact ⟨_, q1, _, pack vs', G1, ι1, h', rfl, hret, st.rel.hr, pack_sound q2, st.ext⟩
    · exact hret.elim
  cases x with
  | normal => exact fin hq
  | ret => exact fin hq
  | exit i => exact hq.elim
  | goto => exact hq.elim
  | panic => exact hq.elim
  | outgrown => exact hq.elim

theorem compF_spec {fn : Func} {af : AF} (hc : compF P fn = some af) : ∃ c, fn.body = some c ∧ compC P fn.ntmps c = some af.body ∧ resC P fn.results.toList = some af.res ∧ af.nt = fn.ntmps := by
  unfold compF at hc
  split at hc
  · rename_i c hb
    split at hc
    · rename_i ac res hac hres
      cases hc
      exact ⟨c, hb, hac, hres, rfl⟩
    · cases hc
  · cases hc

/-- A FUNCTION THAT OWNS NOTHING AT ITS BEGINNING. -/
theorem fn_pure {f : Nat} {fn : Func} {af : AF} {args : List AV} {K : AV → Prop} (hm : P.follows .mixedOrders = true) (hf : P.funcs[f]? = some fn) (hc : compF P fn = some af) (hl : args.length ≤ af.nt) (hv : ∀ Λ : Len, (∀ l, Λ l = (l.length : Int)) → vcF P Λ af args K) :
    FnS P f args [] fun r _ => pureA r = true ∧ K r := by
  obtain ⟨c, hb, hac, hres, hn⟩ := compF_spec hc
  refine fn_pure_wp hf hb hres (by omega) fun G ι w a hfit => ?_
  refine wp_mono (vcC_sound (Λ := fun l => l.length) (fun _ => rfl) (m := 0) hm (by simp) c af.body _ _ _ _ _ hac (hv (fun l => l.length) fun _ => rfl) hfit) fun x a' w' ⟨L', h', hq, hf'⟩ => ⟨L', h', ?_, hf'⟩
  cases x <;> first | exact hq.elim | exact RetQ.ret hq

/-- A FUNCTION THAT WORKS ON ITS CALLER'S BLOCKS. -/
theorem fn_heap {f : Nat} {fn : Func} {af : AF} {args : List AV} {h : Hp} {K : AV → Hp → Prop} (hm : P.follows .mixedOrders = true) (hf : P.funcs[f]? = some fn) (hc : compF P fn = some af) (hl : args.length ≤ af.nt) (hv : ∀ Λ : Len, (∀ l, Λ l = (l.length : Int)) → vcH P Λ af args h K) :
    FnS P f args h K := by
  obtain ⟨c, hb, hac, hres, hn⟩ := compF_spec hc
  exact fn_heap_wp hf hb hres (by omega) fun G ι w a hfit => vcC_sound (Λ := fun l => l.length) (fun _ => rfl) (m := h.length) hm (Nat.le_refl _) c af.body _ _ _ _ _ hac (hv (fun l => l.length) fun _ => rfl) hfit

end
end Go.Ab

/-
  The engine, part z: running a closed call.
-/
namespace Go.Ab

/-- an array of the caller's own is given up ahead of a call: it is a list from now on -/
def zC (l v sz : Nat) (es : List (List D)) : CV → CV
  | .arr l' v' i n => match Nat.beq l' l, Nat.beq v' v with
    | true, true => .d (.list false sz es)
    | _, _ => .arr l' v' i n
  | x => x
def zCs (l v sz : Nat) (es : List (List D)) : List CV → List CV
  | [] => []
  | x :: r => zC l v sz es x :: zCs l v sz es r
def zA (l v sz : Nat) (es : List (List D)) : AV → AV
  | .c x => .c (zC l v sz es x)
  | .agg xs => .agg (zCs l v sz es xs)
  | x => x
def zB (l v sz : Nat) (es : List (List D)) : Blk → Blk
  | .bx cs => .bx (zCs l v sz es cs)
  | b => b
def zH (l v sz : Nat) (es : List (List D)) : Nat → Hp → Hp
  | _, [] => []
  | n, b :: r => (match Nat.beq n l with
    | true => .dead
    | false => zB l v sz es b) :: zH l v sz es (n + 1) r
def zL (l v sz : Nat) (es : List (List D)) : Lv → Lv
  | [] => []
  | (i, x) :: r => (i, zA l v sz es x) :: zL l v sz es r
def okC (l v k : Nat) : CV → Prop
  | .arr l' v' i n => match Nat.beq l' l, Nat.beq v' v with
    | true, true => i = 0 ∧ n = k
    | _, _ => True
  | _ => True
def okCs (l v k : Nat) : List CV → Prop
  | [] => True
  | x :: r => okC l v k x ∧ okCs l v k r
def okA (l v k : Nat) : AV → Prop
  | .c x => okC l v k x
  | .agg xs => okCs l v k xs
  | _ => True
def okB (l v k : Nat) : Blk → Prop
  | .bx cs => okCs l v k cs
  | _ => True
def okH (l v k : Nat) : Hp → Prop
  | [] => True
  | b :: r => okB l v k b ∧ okH l v k r
def okL (l v k : Nat) : Lv → Prop
  | [] => True
  | (_, x) :: r => okA l v k x ∧ okL l v k r

theorem zC_ok {l v sz k : Nat} {es : List (List D)} (hk : k = es.length) {x : CV} (h : okC l v k x) : FzC l v sz es x (zC l v sz es x) := by
  cases x with
  | arr l' v' i n =>
    simp only [okC] at h
    simp only [zC]
    split at h
    · rename_i hl hv
      obtain ⟨rfl, rfl⟩ := h
      have hl : l' = l := Nat.eq_of_beq_eq_true hl
      have hv : v' = v := Nat.eq_of_beq_eq_true hv
      subst hl hv
      exact .arr _ hk
    · exact .keep _
  | _ => exact .keep _

theorem zCs_ok {l v sz k : Nat} {es : List (List D)} (hk : k = es.length) : ∀ {xs : List CV}, okCs l v k xs → FzCs l v sz es xs (zCs l v sz es xs) := by
  intro xs
  induction xs with
  | nil => intro _; trivial
  | cons x r ih => intro h; exact ⟨zC_ok hk h.1, ih h.2⟩

theorem zA_ok {l v sz k : Nat} {es : List (List D)} (hk : k = es.length) {x : AV} (h : okA l v k x) : FzA l v sz es x (zA l v sz es x) := by
  cases x with
  | c x => exact .c _ _ (zC_ok hk h)
  | agg xs => exact .agg _ _ (zCs_ok hk h)
  | tup => exact .same _

theorem lkN_z {l v sz : Nat} {es : List (List D)} : ∀ (L : Lv) (i : Nat), lkN (zL l v sz es L) i = zA l v sz es (lkN L i) := by
  intro L
  induction L with
  | nil => intro i; rfl
  | cons p r ih =>
    intro i
    obtain ⟨j, x⟩ := p
    simp only [zL, lkN]
    split <;> simp_all

theorem okL_get {l v k : Nat} : ∀ {L : Lv}, okL l v k L → ∀ i, okA l v k (lkN L i) := by
  intro L
  induction L with
  | nil => intro _ i; trivial
  | cons p r ih =>
    intro h i
    obtain ⟨j, x⟩ := p
    simp only [lkN]
    split
    · exact h.1
    · exact ih h.2 i

theorem zH_ok {l v sz k : Nat} {es : List (List D)} (hk : k = es.length) : ∀ {h : Hp} {n : Nat}, okH l v k h → FzH l v sz es n h (zH l v sz es n h) := by
  intro h
  induction h with
  | nil => intro n _; trivial
  | cons b r ih =>
    intro n ho
    refine ⟨?_, ih ho.2⟩
    cases hb : Nat.beq n l with
    | true => exact .inl ⟨Nat.eq_of_beq_eq_true hb, rfl⟩
    | false =>
      refine .inr ⟨(fun e => by subst e; rw [Nat.beq_refl] at hb; cases hb), ?_⟩
      cases b with
      | bx cs => exact .bx _ _ (zCs_ok hk ho.1)
      | _ => exact .same _

/-- an array that may be given up: every reference leads to all of it -/
def okCb (l v k : Nat) : CV → Bool
  | .arr l' v' i n => match Nat.beq l' l, Nat.beq v' v with
    | true, true => Nat.beq i 0 && Nat.beq n k
    | _, _ => true
  | _ => true
def okCsb (l v k : Nat) : List CV → Bool
  | [] => true
  | x :: r => okCb l v k x && okCsb l v k r
def okAb (l v k : Nat) : AV → Bool
  | .c x => okCb l v k x
  | .agg xs => okCsb l v k xs
  | _ => true
def okHb (l v k : Nat) : Hp → Bool
  | [] => true
  | .bx cs :: r => okCsb l v k cs && okHb l v k r
  | _ :: r => okHb l v k r
def okLb (l v k : Nat) : Lv → Bool
  | [] => true
  | (_, x) :: r => okAb l v k x && okLb l v k r

theorem okCb_ok {l v k : Nat} {x : CV} (h : okCb l v k x = true) : okC l v k x := by
  cases x <;> simp only [okC]
  simp only [okCb] at h
  split at h
  · simp only [Bool.and_eq_true] at h
    exact ⟨Nat.eq_of_beq_eq_true h.1, Nat.eq_of_beq_eq_true h.2⟩
  · trivial

theorem okCsb_ok {l v k : Nat} : ∀ {xs : List CV}, okCsb l v k xs = true → okCs l v k xs := by
  intro xs
  induction xs with
  | nil => intro _; trivial
  | cons x r ih => intro h; simp only [okCsb, Bool.and_eq_true] at h; exact ⟨okCb_ok h.1, ih h.2⟩

theorem okAb_ok {l v k : Nat} {x : AV} (h : okAb l v k x = true) : okA l v k x := by
  cases x with
  | c x => exact okCb_ok h
  | agg xs => exact okCsb_ok h
  | tup => trivial

theorem okHb_ok {l v k : Nat} : ∀ {h : Hp}, okHb l v k h = true → okH l v k h := by
  intro h
  induction h with
  | nil => intro _; trivial
  | cons b r ih =>
    intro ho
    cases b with
    | bx cs => simp only [okHb, Bool.and_eq_true] at ho; exact ⟨okCsb_ok ho.1, ih ho.2⟩
    | _ => simp only [okHb] at ho; exact ⟨trivial, ih ho⟩

theorem okLb_ok {l v k : Nat} : ∀ {L : Lv}, okLb l v k L = true → okL l v k L := by
  intro L
  induction L with
  | nil => intro _; trivial
  | cons p r ih =>
    obtain ⟨i, x⟩ := p
    intro ho
    simp only [okLb, Bool.and_eq_true] at ho
    exact ⟨okAb_ok ho.1, ih ho.2⟩

/-- every array that may be given up is -/
def fzAll : Nat → Lv → Hp → Lv × Hp
  | 0, L, h => (L, h)
  | l + 1, L, h => match h[l]? with
    | some (.da _ v sz es) => (match okLb l v es.length L && okHb l v es.length h with
      | true => fzAll l (zL l v sz es L) (zH l v sz es 0 h)
      | false => fzAll l L h)
    | _ => fzAll l L h

theorem fzAll_wk {m : Nat} : ∀ (n : Nat) (L : Lv) (h : Hp), Wk m L h (fzAll n L h).1 (fzAll n L h).2 := by
  intro n
  induction n with
  | zero => intro L h; exact .same rfl fun _ => .inr rfl
  | succ l ih =>
    intro L h
    simp only [fzAll]
    split
    · rename_i r v sz es hl
      split
      · rename_i hok
        simp only [Bool.and_eq_true] at hok
        refine .trans (.fz l v sz r es hl (fun i => .inr ?_) (zH_ok rfl (okHb_ok hok.2))) (ih _ _)
        rw [← lkN_eq, ← lkN_eq, lkN_z]; exact zA_ok rfl (okL_get (okLb_ok hok.1) i)
      · exact ih L h
    · exact ih L h

def xFz (fq : Nat → Bool) (d : Bool) (op : AOp) (L : Lv) (h : Hp) : Lv × Hp :=
  match d with
  | true => (L, h)
  | false => match (match op with
      | .call f _ => fq f
      | .callv x _ => (match evN L x with
        | .c (.fn f _) => fq f
        | _ => false)
      | _ => false) with
    | true => fzAll h.length L h
    | false => (L, h)

theorem xFz_wk {fq : Nat → Bool} {d : Bool} {op : AOp} {L : Lv} {h : Hp} {m : Nat} : (d = true ∧ xFz fq d op L h = (L, h)) ∨ (d = false ∧ Wk m L h (xFz fq d op L h).1 (xFz fq d op L h).2) := by
  cases d with
  | true => exact .inl ⟨rfl, rfl⟩
  | false =>
    refine .inr ⟨rfl, ?_⟩
    unfold xFz
    simp only
    generalize (match op with
      | .call f _ => fq f
      | .callv x _ => (match evN L x with
        | .c (.fn f _) => fq f
        | _ => false)
      | _ => false) = b
    cases b with
    | true => exact fzAll_wk _ _ _
    | false => exact .same rfl fun _ => .inr rfl

def isD : CV → Bool
  | .d _ => true
  | _ => false

def plainEl (L : Lv) : List (Nat × X) → Bool
  | [] => true
  | (_, x) :: r => match cells (evN L x) with
    | some cs => match cs.all isD with
      | true => plainEl L r
      | false => false
    | none => false

/-- how a call is run: in a drawn region or not, which function, on what, over which heap -/
abbrev CF := Bool → Nat → List AV → Hp → Option (AV × Hp)

def xOp (cf : CF) (d : Bool) (op : AOp) (L : Lv) (h : Hp) : Option (AV × Hp) :=
  match op with
  | .call f xs => cf d f (evsN L xs) h
  | .callv x xs => match d, evN L x with
    | false, .c (.fn f caps) => cf false f (evsN L xs ++ caps.map .c) h
    | _, _ => none
  | .bsl sz z n ps => match d with
    | true => match plainEl L ps with
      | true => astep (lkN L) h (.bsl sz z n ps)
      | false => none
    | false => astep (lkN L) h (.bsl sz z n ps)
  | op => astep (lkN L) h op

def xOps (cf : CF) (fq : Nat → Bool) (d : Bool) : List AO → Lv → Hp → Option (Lv × Hp)
  | [], L, h => some (L, h)
  | o :: r, L, h => match o.g with
    | none => (match xFz fq d o.op L h with
      | (L1, h1) => match xOp cf d o.op L1 h1 with
        | some (v, h') => xOps cf fq d r (putL L1 o.dst v) h'
        | none => none)
    | some (s, want) => match lkN L s with
      | .c (.d (.bool b)) => (match b, want with
        | true, true => (match xFz fq d o.op L h with
          | (L1, h1) => match xOp cf d o.op L1 h1 with
            | some (v, h') => xOps cf fq d r (putL L1 o.dst v) h'
            | none => none)
        | false, false => (match xFz fq d o.op L h with
          | (L1, h1) => match xOp cf d o.op L1 h1 with
            | some (v, h') => xOps cf fq d r (putL L1 o.dst v) h'
            | none => none)
        | true, false => xOps cf fq d r (putL L o.dst (.tup [])) h
        | false, true => xOps cf fq d r (putL L o.dst (.tup [])) h)
      | .tup [] => xOps cf fq d r (putL L o.dst (.tup [])) h
      | _ => none

def dropL (n : Nat) : Lv → Lv
  | [] => []
  | (i, v) :: r => match Nat.beq i n with
    | true => dropL n r
    | false => (i, v) :: dropL n r

def normL : Lv → Lv
  | [] => []
  | (i, v) :: r => (i, v) :: dropL i (normL r)

abbrev RF := AC → Lv → Hp → Option (Ex × Lv × Hp)

def runP (run : RF) (af : AF) (args : List AV) : Option AV :=
  match run af.body (argL 0 args) [] with
  | some (.exit _, _, _) => none
  | some (_, L, h') => (match resA (lkN L) h' af.res with
    | some vs => (match frzAs h' vs with
      | some (rs, _) => some (pack rs)
      | none => none)
    | none => none)
  | none => none

def runH (run : RF) (af : AF) (args : List AV) (h : Hp) : Option (AV × Hp) :=
  match run af.body (argL 0 args) h with
  | some (.exit _, _, _) => none
  | some (_, L, h') => (match resA (lkN L) h' af.res with
    | some vs => some (pack vs, h')
    | none => none)
  | none => none

/-- a function that is run: by its text (with it, whether its result is plain), or by a plain function that is known to answer as it does -/
inductive Ent where
  | txt (sc fz : Bool) (af : AF)
  | nat (g : List AV → Option AV)
  | nlk (g : List AV → Option AV)
abbrev Tb := Nat → Option Ent
def fqT (T : Tb) (f : Nat) : Bool := match T f with
  | some (.txt _ fz _) => fz
  | some (.nat _) => true
  | some (.nlk _) => false
  | none => false
def xNat (g : List AV → Option AV) (args : List AV) (h : Hp) : Option AV :=
  match (args.map fgA).all pureA with
  | true => match g (args.map fgA) with
    | some r => (match pureA r with
      | true => some r
      | false => none)
    | none => none
  | false => match viewAs h args with
    | some vargs => (match g vargs with
      | some r => (match scalA r with
        | true => some r
        | false => none)
      | none => none)
    | none => none

def xCall (T : Tb) (run : RF) : CF := fun d f args h =>
  match T f with
  | none => none
  | some (.nat g) => match xNat g args h with
    | some r => some (r, h)
    | none => none
  | some (.nlk g) => match viewAs h args with
    | some vargs => (match g vargs with
      | some r => some (r, h)
      | none => none)
    | none => none
  | some (.txt sc _ af) => match Nat.ble args.length af.nt with
    | false => none
    | true => match args.all pureA with
      | true => (match runP run af args with
        | some r => some (r, h)
        | none => (match d with
          | true => none
          | false => runH run af args h))
      | false => match sc with
        | true => (match viewAs h args with
          | some vargs => (match runP run af vargs with
            | some r => (match scalA r with
              | true => some (r, h)
              | false => none)
            | none => none)
          | none => (match d with
            | true => none
            | false => runH run af args h))
        | false => (match d with
          | true => none
          | false => runH run af args h)

def xC (T : Tb) : Nat → AC → Lv → Hp → Option (Ex × Lv × Hp)
  | 0, _, _, _ => none
  | n + 1, c, L, h => match c with
    | .skip => some (.normal, L, h)
    | .reg d ops => (match xOps (xCall T (xC T n)) (fqT T) d ops L h with
      | some (L', h') => some (.normal, L', h')
      | none => none)
    | .seq a b => (match xC T n a L h with
      | some (.normal, L', h') => xC T n b L' h'
      | r => r)
    | .cond c a b => (match evN L c with
      | .c (.d (.bool t)) => (match t with
        | true => xC T n a L h
        | false => xC T n b L h)
      | _ => none)
    | .block id c => (match xC T n c L h with
      | some (.exit i, L', h') => (match Nat.beq i id with
        | true => some (.normal, L', h')
        | false => some (.exit i, L', h'))
      | r => r)
    | .loop c => (match xC T n c L h with
      | some (.normal, L', h') => xC T n (.loop c) (normL L') h'
      | r => r)
    | .exit id => some (.exit id, L, h)
    | .ret => some (.ret, L, h)

theorem dropL_get (n : Nat) : ∀ (L : Lv) (i : Nat), i ≠ n → lkL (dropL n L) i = lkL L i := by
  intro L
  induction L with
  | nil => intro i _; rfl
  | cons p r ih =>
    intro i hi
    obtain ⟨j, v⟩ := p
    simp only [dropL]
    split
    · rename_i hj
      have hj : j = n := Nat.eq_of_beq_eq_true hj
      subst hj
      simp only [lkL, upd, Ne.symm hi, if_false]
      exact ih i hi
    · simp only [lkL, upd]
      by_cases h : j = i
      · simp [h]
      · simp only [h, if_false]; exact ih i hi

theorem normL_get : ∀ (L : Lv) (i : Nat), lkL (normL L) i = lkL L i := by
  intro L
  induction L with
  | nil => intro i; rfl
  | cons p r ih =>
    intro i
    obtain ⟨j, v⟩ := p
    simp only [normL, lkL, upd]
    by_cases h : j = i
    · simp [h]
    · simp only [h, if_false]; rw [dropL_get j _ i (Ne.symm h), ih]

theorem frzs_plain {h h' : Hp} : ∀ {cs : List CV} {ds : List D}, cs.all isD = true → frzs h cs = some (ds, h') → h' = h := by
  intro cs
  induction cs generalizing h h' with
  | nil => intro ds _ hf; simp only [frzs, Option.some.injEq, Prod.mk.injEq] at hf; exact hf.2.symm
  | cons c cs ih =>
    intro ds ha hf
    simp only [List.all_cons, Bool.and_eq_true] at ha
    cases c with
    | d x =>
      simp only [frzs] at hf
      revert hf
      simp only [frz]
      split
      · rename_i l h2 hl
        intro hf
        cases hf
        exact ih ha.2 hl
      · intro hf; cases hf
    | _ => simp [isD] at ha

theorem elemsOf_plain {h : Hp} {L : Lv} : ∀ {ps : List (Nat × X)} {as : List (Nat × List D)} {h' : Hp}, plainEl L ps = true → elemsOf h (lkN L) ps = some (as, h') → h' = h := by
  intro ps
  induction ps with
  | nil => intro as h' _ hf; simp only [elemsOf, Option.some.injEq, Prod.mk.injEq] at hf; exact hf.2.symm
  | cons p ps ih =>
    intro as h' ha hf
    obtain ⟨i, x⟩ := p
    simp only [plainEl] at ha
    simp only [elemsOf] at hf
    rw [evN_eq, ← lkN_fun] at ha
    split at ha
    · rename_i cs hcs
      rw [hcs] at hf
      simp only at hf
      split at ha
      · rename_i hall
        split at hf
        · rename_i ds h1 hds
          have := frzs_plain hall hds
          subst this
          split at hf
          · rename_i l h2 hl
            cases hf
            exact ih ha hl
          · cases hf
        · cases hf
      · cases ha
    · cases ha

inductive CallR (P : Program) : Bool → Hp → Nat → List AV → (AV → Hp → Prop) → Prop
  | pure {d : Bool} {h : Hp} {f : Nat} {args : List AV} {K : AV → Hp → Prop} {r : AV} (hp : PureR P h f args r) (k : K r h) : CallR P d h f args K
  | fn {h : Hp} {f : Nat} {args : List AV} {K : AV → Hp → Prop} (hf : FnS P f args h K) : CallR P false h f args K

/-- what has to be known of the way that calls are run -/
def CfOk (P : Program) (cf : CF) : Prop := ∀ d f args h r h', cf d f args h = some (r, h') → FnOk P f ∧ CallR P d h f args fun v h1 => v = r ∧ h1 = h'

theorem xOp_sound {P : Program} {cf : CF} {d : Bool} {op : AOp} {L : Lv} {h h' : Hp} {v : AV} (hcf : CfOk P cf) {m : Nat} (hx : xOp cf d op L h = some (v, h')) : Did P m d op L h fun L1 v1 h1 => L1 = L ∧ v1 = v ∧ h1 = h' := by
  cases op
  case call f xs =>
    simp only [xOp] at hx
    refine .call f xs rfl ?_
    cases (hcf _ _ _ _ _ _ hx).2 with
    | pure hp k => exact .pure hp ⟨rfl, k⟩
    | fn hf => exact .fn (hf.mono fun _ _ k => ⟨rfl, k⟩)
  case callv x xs =>
    simp only [xOp] at hx
    split at hx
    · rename_i f caps hf
      obtain ⟨h1, h2⟩ := hcf _ _ _ _ _ _ hx
      refine .callv x xs f caps rfl rfl (by rw [← evN_eq]; exact hf) h1 ?_
      cases h2 with
      | pure hp k => exact .pure hp ⟨rfl, k⟩
      | fn hf => exact .fn (hf.mono fun _ _ k => ⟨rfl, k⟩)
    · cases hx
  case bsl sz z n ps =>
    cases d with
    | false =>
      simp only [xOp, lkN_fun] at hx
      exact .step v h' hx (by simp) ⟨rfl, rfl, rfl⟩
    | true =>
      simp only [xOp] at hx
      split at hx
      · rename_i hp
        have hx0 := hx
        rw [lkN_fun] at hx0
        refine .step v h' hx0 (fun _ _ => ?_) ⟨rfl, rfl, rfl⟩
        simp only [astep] at hx
        split at hx
        · rename_i as h1 has
          have := elemsOf_plain hp has
          subst this
          split at hx
          · split at hx
            · cases hx; exact ⟨_, rfl⟩
            · cases hx
          · cases hx
        · cases hx
      · cases hx
  case box x =>
    simp only [xOp, lkN_fun] at hx
    refine .step v h' hx (fun _ _ => ?_) ⟨rfl, rfl, rfl⟩
    simp only [astep] at hx
    split at hx
    · split at hx
      · cases hx; exact ⟨_, rfl⟩
      · cases hx
    · cases hx
  case mks sz bytes z l c =>
    simp only [xOp, lkN_fun] at hx
    refine .step v h' hx (fun _ _ => ?_) ⟨rfl, rfl, rfl⟩
    simp only [astep] at hx
    split at hx
    · split at hx
      · cases hx; exact ⟨_, rfl⟩
      · cases hx
    · cases hx
  all_goals
    simp only [xOp, lkN_fun] at hx
    exact .step v h' hx (by first | (simp [cls]; done) | (rename_i o _; cases o <;> simp [cls])) ⟨rfl, rfl, rfl⟩

theorem xOps_sound {P : Program} {cf : CF} {fq : Nat → Bool} {m : Nat} {d : Bool} (hcf : CfOk P cf) : ∀ {ops : List AO} {L L' : Lv} {h h' : Hp}, xOps cf fq d ops L h = some (L', h') → runO P m d ops L h fun L1 h1 => L1 = L' ∧ h1 = h' := by
  intro ops
  induction ops with
  | nil =>
    intro L L' h h' hx
    simp only [xOps, Option.some.injEq, Prod.mk.injEq] at hx
    exact ⟨hx.1, hx.2⟩
  | cons o r ih =>
    intro L L' h h' hx
    have go : (match xFz fq d o.op L h with
        | (L1, h1) => match xOp cf d o.op L1 h1 with
          | some (v, h') => xOps cf fq d r (putL L1 o.dst v) h'
          | none => none) = some (L', h') → Did P m d o.op L h fun L2 v h1 => runO P m d r (putL L2 o.dst v) h1 fun L1 h1 => L1 = L' ∧ h1 = h' := by
      intro hx
      generalize hq : xFz fq d o.op L h = q at hx
      obtain ⟨L1, h1⟩ := q
      simp only at hx
      split at hx
      · rename_i v h2 hv
        have hd : Did P m d o.op L1 h1 fun L2 v h1 => runO P m d r (putL L2 o.dst v) h1 fun L1 h1 => L1 = L' ∧ h1 = h' :=
          (xOp_sound hcf hv).mono fun L2 v2 h2 ⟨e1, e2, e3⟩ => by subst e1 e2 e3; exact ih hx
        rcases xFz_wk (fq := fq) (d := d) (op := o.op) (L := L) (h := h) (m := m) with ⟨_, e⟩ | ⟨e1, e2⟩
        · rw [hq] at e; cases e; exact hd
        · rw [hq] at e2; exact .wk e1 e2 hd
      · cases hx
    simp only [runO]
    simp only [xOps] at hx
    split at hx
    · rename_i hg; exact .inl ⟨by simp [hg, gv], go hx⟩
    · rename_i s want hg
      split at hx
      · rename_i b hb
        rw [lkN_eq] at hb
        have hgv : gv (lkL L) o.g = some (b == want) := by simp [hg, gv, lk, hb]
        split at hx
        · left; exact ⟨hgv, go hx⟩
        · left; exact ⟨hgv, go hx⟩
        · right; exact ⟨hgv, ih hx⟩
        · right; exact ⟨hgv, ih hx⟩
      · rename_i hb
        rw [lkN_eq] at hb
        right; exact ⟨by simp [hg, gv, lk, hb], ih hx⟩
      · cases hx

theorem runO.mono {P : Program} {m : Nat} {d : Bool} {K K' : Lv → Hp → Prop} (hK : ∀ L h, K L h → K' L h) : ∀ {ops : List AO} {L : Lv} {h : Hp}, runO P m d ops L h K → runO P m d ops L h K' := by
  intro ops
  induction ops with
  | nil => intro L h hr; exact hK _ _ hr
  | cons o r ih =>
    intro L h hr
    rcases hr with ⟨h1, h2⟩ | ⟨h1, h2⟩
    · exact .inl ⟨h1, h2.mono fun L' v h' hr => ih hr⟩
    · exact .inr ⟨h1, ih h2⟩

structure TabOk (P : Program) (T : Tb) : Prop where
  ok : ∀ f sc fz af, T f = some (.txt sc fz af) → ∃ fn, P.funcs[f]? = some fn ∧ fn.name ≠ "runtime.NumGoroutine" ∧ compF P fn = some af
  nat : ∀ f g, T f = some (.nat g) → FnOk P f ∧ ∀ args r, g args = some r → FnS P f args [] fun r' _ => r' = r
  nlk : ∀ f g, T f = some (.nlk g) → FnOk P f ∧ ∀ args r, g args = some r → FrS P f args r

/-- a run of a text is one of the model's -/
def RunOk (P : Program) (run : RF) : Prop := ∀ (N : Nat) (G0 : Nat → Prop) (ι0 : Io) (h0 : Hp) (w0 : World) (c : Code) (ac : AC) (L L' : Lv) (h h' : Hp) (x : Ex) (Q : Post) (a : Act) (w : World),
  compC P N c = some ac → run ac L h = some (x, L', h') → Q x L' h' → Fits N G0 ι0 h0 w0 (lkL L) h a w → c.wp P (out N G0 ι0 h0 w0 Q) a w

theorem runP_sound {P : Program} {run : RF} {f : Nat} {fn : Func} {af : AF} {args : List AV} {r : AV} (hr : RunOk P run) (hf : P.funcs[f]? = some fn) (hc : compF P fn = some af) (hl : args.length ≤ af.nt) (hx : runP run af args = some r) :
    FnS P f args [] fun r' _ => pureA r' = true ∧ r' = r := by
  obtain ⟨c, hb, hac, hres, hn⟩ := compF_spec hc
  refine fn_pure_wp (K := fun r' => r' = r) hf hb hres (by omega) fun G ι w a hfit => ?_
  unfold runP at hx
  split at hx
  · cases hx
  · rename_i x L h' hne hrun
    split at hx
    · rename_i vs hvs
      split at hx
      · rename_i rs h2 hrs
        cases hx
        refine hr _ _ _ _ _ _ _ _ _ _ _ _ _ _ _ hac hrun ?_ hfit
        cases x with
        | exit i => exact absurd rfl (hne i)
        | normal => simp only [postP, RetP, hvs, hrs]
        | ret => simp only [postP, RetP, hvs, hrs]
      · cases hx
    · cases hx
  · cases hx

theorem runH_sound {P : Program} {run : RF} {f : Nat} {fn : Func} {af : AF} {args : List AV} {h h' : Hp} {r : AV} (hr : RunOk P run) (hf : P.funcs[f]? = some fn) (hc : compF P fn = some af) (hl : args.length ≤ af.nt) (hx : runH run af args h = some (r, h')) :
    FnS P f args h fun r1 h1 => r1 = r ∧ h1 = h' := by
  obtain ⟨c, hb, hac, hres, hn⟩ := compF_spec hc
  refine fn_heap_wp (K := fun r1 h1 => r1 = r ∧ h1 = h') hf hb hres (by omega) fun G ι w a hfit => ?_
  unfold runH at hx
  split at hx
  · cases hx
  · rename_i x L h2 hne hrun
    split at hx
    · rename_i vs hvs
      cases hx
      refine hr _ _ _ _ _ _ _ _ _ _ _ _ _ _ _ hac hrun ?_ hfit
      cases x with
      | exit i => exact absurd rfl (hne i)
      | normal => simp only [postH, RetH, hvs, and_self]
      | ret => simp only [postH, RetH, hvs, and_self]
    · cases hx
  · cases hx

theorem xCall_sound {P : Program} {T : Tb} {run : RF} (hT : TabOk P T) (hr : RunOk P run) : CfOk P (xCall T run) := by
  intro d f args h r h' hx
  unfold xCall at hx
  split at hx
  · cases hx
  · rename_i g hTg
    obtain ⟨hfok, hg⟩ := hT.nat f g hTg
    refine ⟨hfok, ?_⟩
    split at hx
    · rename_i r' hr'
      cases hx
      refine .pure ?_ ⟨rfl, rfl⟩
      unfold xNat at hr'
      split at hr'
      · rename_i hp
        split at hr'
        · rename_i r0 hr0
          split at hr'
          · rename_i hpr
            cases hr'
            exact .inl ⟨_, .inl rfl, hp, (hg _ _ hr0).mono fun q _ e => ⟨by rw [e]; exact hpr, e⟩⟩
          · cases hr'
        · cases hr'
      · split at hr'
        · rename_i vargs hv
          split at hr'
          · rename_i r0 hr0
            split at hr'
            · rename_i hs
              cases hr'
              exact .inr ⟨vargs, hv, .inl ((hg _ _ hr0).mono fun q _ e => ⟨by rw [e]; exact hs, e⟩)⟩
            · cases hr'
          · cases hr'
        · cases hr'
    · cases hx
  · rename_i g hTg
    obtain ⟨hfok, hg⟩ := hT.nlk f g hTg
    refine ⟨hfok, ?_⟩
    split at hx
    · rename_i vargs hv
      split at hx
      · rename_i r0 hr0
        cases hx
        exact .pure (.inr ⟨vargs, hv, .inr (hg _ _ hr0)⟩) ⟨rfl, rfl⟩
      · cases hx
    · cases hx
  · rename_i sc fz af hTf
    obtain ⟨fn, hf, hnm, hc⟩ := hT.ok f sc fz af hTf
    have hfok : FnOk P f := ⟨fn, hf, by obtain ⟨c, hb, _⟩ := compF_spec hc; simp [hb], hnm⟩
    refine ⟨hfok, ?_⟩
    split at hx
    · cases hx
    · rename_i hle
      have hle : args.length ≤ af.nt := Nat.le_of_ble_eq_true hle
      have hh : ∀ d : Bool, (match d with | true => none | false => runH run af args h) = some (r, h') → CallR P d h f args fun v h1 => v = r ∧ h1 = h' := by
        intro d hd
        cases d with
        | true => cases hd
        | false => exact .fn (runH_sound hr hf hc hle hd)
      split at hx
      · rename_i hp
        split at hx
        · rename_i r' hr'
          cases hx
          exact .pure (.inl ⟨_, .inr rfl, hp, runP_sound hr hf hc hle hr'⟩) ⟨rfl, rfl⟩
        · exact hh d hx
      · split at hx
        · split at hx
          · rename_i vargs hv
            split at hx
            · rename_i r' hr'
              split at hx
              · rename_i hs
                cases hx
                refine .pure (.inr ⟨vargs, hv, ?_⟩) ⟨rfl, rfl⟩
                have hlen := (viewAs_get hv).1
                exact .inl ((runP_sound hr hf hc (by omega) hr').mono fun q _ ⟨_, e⟩ => ⟨by rw [e]; exact hs, e⟩)
              · cases hx
            · cases hx
          · exact hh d hx
        · exact hh d hx

theorem xC_sound {P : Program} {T : Tb} (hm : P.follows .mixedOrders = true) (hT : TabOk P T) : ∀ n, RunOk P (xC T n) := by
  intro n
  induction n using Nat.strongRecOn with
  | _ n ihs =>
  cases n with
  | zero => intro N G0 ι0 h0 w0 c ac L L' h h' x Q a w _ hx; simp [xC] at hx
  | succ n =>
    have ih := ihs n (Nat.lt_succ_self n)
    intro N G0 ι0 h0 w0 c
    induction c with
    | skip =>
      intro ac L L' h h' x Q a w hc hx hq hf
      simp only [compC, Option.some.injEq] at hc; subst hc
      simp only [xC, Option.some.injEq, Prod.mk.injEq] at hx
      obtain ⟨rfl, rfl, rfl⟩ := hx
      exact wp_skip ⟨L, h, hq, hf⟩
    | label l =>
      intro ac L L' h h' x Q a w hc hx hq hf
      simp only [compC, Option.some.injEq] at hc; subst hc
      simp only [xC, Option.some.injEq, Prod.mk.injEq] at hx
      obtain ⟨rfl, rfl, rfl⟩ := hx
      exact wp_label ⟨L, h, hq, hf⟩
    | region id ops draw =>
      intro ac L L' h h' x Q a w hc hx hq hf
      simp only [compC] at hc
      split at hc
      · rename_i aos haos
        split at hc
        · rename_i hcond
          cases hc
          cases draw with
          | false =>
            simp only [xC] at hx
            split at hx
            · rename_i L1 h1 hops
              cases hx
              have hrun := xOps_sound (m := h0.length) (xCall_sound hT ih) hops
              refine wp_region ?_
              rw [List.range_eq_range']
              have := region_seq (ops := ops) (Q := out N G0 ι0 h0 w0 Q) (Nat.le_refl _) ops.toList aos 0 L h _ a w (by simp) haos hcond.1 hrun hf (fun L2 h2 a' w' hk hf' => by obtain ⟨rfl, rfl⟩ := hk; exact ⟨_, _, hq, hf'⟩)
              simpa using this
            · cases hx
          | true =>
            refine region_segs (S := fun ac L h Q => ∃ k x L' h', k ≤ n + 1 ∧ xC T k ac L h = some (x, L', h') ∧ Q x L' h') hm (Nat.le_refl _) ?_ ?_ haos hcond.1 (hcond.2 rfl).1 (hcond.2 rfl).2 hf ⟨n + 1, x, L', h', Nat.le_refl _, hx, hq⟩
            · rintro a b L h Q ⟨k, x, L', h', hk, hx, hq⟩
              cases k with
              | zero => simp [xC] at hx
              | succ k =>
                simp only [xC] at hx
                split at hx
                · rename_i L1 h1 hr1
                  exact ⟨k, .normal, L1, h1, by omega, hr1, k, x, L', h', by omega, hx, hq⟩
                · rename_i hne
                  refine ⟨k, x, L', h', by omega, hx, ?_⟩
                  cases x with
                  | normal => exact absurd hx (hne _ _)
                  | exit i => exact hq
                  | ret => exact hq
            · rintro d os L h Q ⟨k, x, L', h', hk, hx, hq⟩
              cases k with
              | zero => simp [xC] at hx
              | succ k =>
                simp only [xC] at hx
                split at hx
                · rename_i L1 h1 hops
                  cases hx
                  exact runO.mono (fun L2 h2 ⟨e1, e2⟩ => by subst e1 e2; exact hq) (xOps_sound (m := h0.length) (xCall_sound hT (ihs k (by omega))) hops)
                · cases hx
        · cases hc
      · cases hc
    | seq p q _ _ =>
      intro ac L L' h h' x Q a w hc hx hq hf
      simp only [compC] at hc
      split at hc
      · rename_i cp cq hp hcq
        cases hc
        simp only [xC] at hx
        split at hx
        · rename_i L1 h1 hrun
          refine wp_seq (wp_mono (ih N G0 ι0 h0 w0 p cp L L1 h h1 .normal (fun x L h => x = .normal ∧ L = L1 ∧ h = h1) a w hp hrun ⟨rfl, rfl, rfl⟩ hf) fun e a' w' ⟨L2, h2, hq2, hf2⟩ => ?_)
          cases e with
          | normal => obtain ⟨_, rfl, rfl⟩ := hq2; exact ih N G0 ι0 h0 w0 q cq _ L' _ h' x Q a' w' hcq hx hq hf2
          | exit i => cases hq2.1
          | ret => cases hq2.1
          | goto => exact hq2.elim
          | panic => exact hq2.elim
          | outgrown => exact hq2.elim
        · rename_i hne
          refine wp_seq (wp_mono (ih N G0 ι0 h0 w0 p cp L L' h h' x (fun x1 L1 h1 => x1 = x ∧ L1 = L' ∧ h1 = h') a w hp hx ⟨rfl, rfl, rfl⟩ hf) fun e a' w' ⟨L2, h2, hq2, hf2⟩ => ?_)
          cases e with
          | normal => obtain ⟨rfl, rfl, rfl⟩ := hq2; exact absurd hx (hne _ _)
          | exit i => obtain ⟨rfl, rfl, rfl⟩ := hq2; exact ⟨_, _, hq, hf2⟩
          | ret => obtain ⟨rfl, rfl, rfl⟩ := hq2; exact ⟨_, _, hq, hf2⟩
          | goto => exact hq2.elim
          | panic => exact hq2.elim
          | outgrown => exact hq2.elim
      · cases hc
    | cond b p q _ _ =>
      intro ac L L' h h' x Q a w hc hx hq hf
      simp only [compC] at hc
      split at hc
      · rename_i c' cp cq hcc hp hcq
        cases hc
        simp only [xC] at hx
        split at hx
        · rename_i t ht
          obtain ⟨G, ι, st⟩ := hf
          have hr := cx_sound hcc st.rel
          rw [evN_eq] at ht
          rw [ht] at hr
          have he := inv_bool hr
          cases t with
          | true => exact wp_cond_true he (ih _ _ _ _ _ p cp L L' h h' x Q a w hp hx hq ⟨G, ι, st⟩)
          | false => exact wp_cond_false he (ih _ _ _ _ _ q cq L L' h h' x Q a w hcq hx hq ⟨G, ι, st⟩)
        · cases hx
      · cases hc
    | block id c _ =>
      intro ac L L' h h' x Q a w hc hx hq hf
      simp only [compC] at hc
      split at hc
      · rename_i c' hcc
        cases hc
        simp only [xC] at hx
        refine wp_block ?_
        split at hx
        · rename_i i L1 h1 hrun
          refine wp_mono (ih N G0 ι0 h0 w0 c c' L L1 h h1 (.exit i) (fun x L h => x = .exit i ∧ L = L1 ∧ h = h1) a w hcc hrun ⟨rfl, rfl, rfl⟩ hf) fun e a' w' ⟨L2, h2, hq2, hf2⟩ => ?_
          cases e with
          | normal => cases hq2.1
          | ret => cases hq2.1
          | exit k =>
            obtain ⟨e1, rfl, rfl⟩ := hq2
            cases e1
            simp only [Exit.inBlock]
            split at hx
            · rename_i hb
              cases hx
              have : i = id := Nat.eq_of_beq_eq_true hb
              rw [if_pos this]; exact ⟨_, _, hq, hf2⟩
            · rename_i hb
              cases hx
              have : ¬ i = id := fun e => by subst e; simp at hb
              rw [if_neg this]; exact ⟨_, _, hq, hf2⟩
          | goto => exact hq2.elim
          | panic => exact hq2.elim
          | outgrown => exact hq2.elim
        · rename_i hne
          refine wp_mono (ih N G0 ι0 h0 w0 c c' L L' h h' x (fun x1 L1 h1 => x1 = x ∧ L1 = L' ∧ h1 = h') a w hcc hx ⟨rfl, rfl, rfl⟩ hf) fun e a' w' ⟨L2, h2, hq2, hf2⟩ => ?_
          cases e with
          | normal => obtain ⟨rfl, rfl, rfl⟩ := hq2; exact ⟨_, _, hq, hf2⟩
          | ret => obtain ⟨rfl, rfl, rfl⟩ := hq2; exact ⟨_, _, hq, hf2⟩
          | exit k => obtain ⟨rfl, rfl, rfl⟩ := hq2; exact absurd hx (hne _ _ _)
          | goto => exact hq2.elim
          | panic => exact hq2.elim
          | outgrown => exact hq2.elim
      · cases hc
    | loop c _ =>
      intro ac L L' h h' x Q a w hc hx hq hf
      simp only [compC] at hc
      split at hc
      · rename_i c' hcc
        cases hc
        refine wp_loop_ghost (fun k a w => ∃ j L h, k = j ∧ j ≤ n + 1 ∧ xC T j (.loop c') L h = some (x, L', h') ∧ Fits N G0 ι0 h0 w0 (lkL L) h a w) ?_ (n + 1) a w ⟨n + 1, L, h, rfl, Nat.le_refl _, hx, hf⟩
        intro k a w ⟨j, L, h, hk, hj, hx, hf⟩
        subst hk
        cases k with
        | zero => simp [xC] at hx
        | succ j =>
          have ihj := ihs j (by omega)
          simp only [xC] at hx
          split at hx
          · rename_i L1 h1 hrun
            refine wp_mono (ihj N G0 ι0 h0 w0 c c' L L1 h h1 .normal (fun x L h => x = .normal ∧ L = L1 ∧ h = h1) a w hcc hrun ⟨rfl, rfl, rfl⟩ hf) fun e a' w' ⟨L2, h2, hq2, hf2⟩ => ?_
            cases e with
            | normal =>
              obtain ⟨_, rfl, rfl⟩ := hq2
              exact ⟨j, Nat.lt_succ_self j, j, _, _, rfl, by omega, hx, by rw [show lkL (normL L2) = lkL L2 from funext (normL_get L2)]; exact hf2⟩
            | ret => cases hq2.1
            | exit k => cases hq2.1
            | goto => exact hq2.elim
            | panic => exact hq2.elim
            | outgrown => exact hq2.elim
          · rename_i hne
            refine wp_mono (ihj N G0 ι0 h0 w0 c c' L L' h h' x (fun x1 L1 h1 => x1 = x ∧ L1 = L' ∧ h1 = h') a w hcc hx ⟨rfl, rfl, rfl⟩ hf) fun e a' w' ⟨L2, h2, hq2, hf2⟩ => ?_
            cases e with
            | normal => obtain ⟨rfl, rfl, rfl⟩ := hq2; exact absurd hx (hne _ _)
            | ret => obtain ⟨rfl, rfl, rfl⟩ := hq2; exact ⟨_, _, hq, hf2⟩
            | exit k => obtain ⟨rfl, rfl, rfl⟩ := hq2; exact ⟨_, _, hq, hf2⟩
            | goto => exact hq2.elim
            | panic => exact hq2.elim
            | outgrown => exact hq2.elim
      · cases hc
    | scope c ihs =>
      intro ac L L' h h' x Q a w hc hx hq hf
      simp only [compC] at hc
      refine wp_scope_straight (wp_mono (ihs ac L L' h h' x Q a w hc hx hq hf) fun e a' w' hq => ?_)
      obtain ⟨L', h', hq, hf'⟩ := hq
      cases e with
      | normal => exact ⟨L', h', hq, hf'⟩
      | exit i => exact ⟨L', h', hq, hf'⟩
      | ret => exact ⟨L', h', hq, hf'⟩
      | goto => exact hq.elim
      | panic => exact hq.elim
      | outgrown => exact hq.elim
    | exit id =>
      intro ac L L' h h' x Q a w hc hx hq hf
      simp only [compC, Option.some.injEq] at hc; subst hc
      simp only [xC, Option.some.injEq, Prod.mk.injEq] at hx
      obtain ⟨rfl, rfl, rfl⟩ := hx
      exact wp_exit ⟨L, h, hq, hf⟩
    | ret =>
      intro ac L L' h h' x Q a w hc hx hq hf
      simp only [compC, Option.some.injEq] at hc; subst hc
      simp only [xC, Option.some.injEq, Prod.mk.injEq] at hx
      obtain ⟨rfl, rfl, rfl⟩ := hx
      exact wp_ret ⟨L, h, hq, hf⟩
    | goto l => intro ac L L' h h' x Q a w hc; simp [compC] at hc
    | rangeFunc => intro ac L L' h h' x Q a w hc; simp [compC] at hc
    | refuse => intro ac L L' h h' x Q a w hc; simp [compC] at hc

end Go.Ab

