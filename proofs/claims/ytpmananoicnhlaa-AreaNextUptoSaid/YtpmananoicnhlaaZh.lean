/-
  Merged texts, part h.
-/
import Derived.Test.YtpmananoicnhlaaZg
import Derived.Scope
/-
  The engine, part v: the conditions of an operation, of a region, of a text, of a function; that they suffice.
-/
namespace Go.Ab
def ointN (L : Lv) : Option X → Option (Option Int)
 | none => some none
 | some x => match evN L x with
  | .c (.d (.int _ n)) => some (some n)
  | _ => none
theorem ointN_eq (L : Lv) (x : Option X) : ointN L x = oint (lkL L) x := by
 cases x with
 | none => rfl
 | some y => simp only [ointN, oint, evN_eq]; rfl
structure FnOk (P : Program) (f : Nat) : Prop where
 ok : ∃ fn, P.funcs[f]? = some fn ∧ fn.body.isSome = true ∧ fn.name ≠ "runtime.NumGoroutine"
def vLk (ok : Bool) (z : AV) (K : AV → Prop) : Option (Option (Nat × DV)) → Prop
 | none => False
 | some none => K (lkR ok z false)
 | some (some (_, v)) => K (lkR ok (avDV v) true)
def vUp (es : List (DV × DV)) (kd vd : DV) (K : List (DV × DV) → Prop) : Option (Option (Nat × DV)) → Prop
 | none => False
 | some none => ∀ es', es' = es ++ [(kd, vd)] → K es'
 | some (some (i, _)) => ∀ es', es' = es.set i (kd, vd) → K es'
def vDel (es : List (DV × DV)) (K0 : Prop) (K : List (DV × DV) → Prop) : Option (Option (Nat × DV)) → Prop
 | none => False
 | some none => K0
 | some (some (i, _)) => ∀ es', es' = es.eraseIdx i → K es'
def vMo (o : MOp) (avs : List AV) (h : Hp) (K : AV → Hp → Prop) : Prop :=
 match o, avs with
 | .apz sz bytes z, [.c (.d (.list true sz' _)), .c (.d (.int .i64 n))] => (match Nat.beq sz' sz with
   | true => (Unit → 0 < n ∧ n.toNat * bytes ≤ 140737488355328) ∧ ∀ k es, k = n.toNat → es = List.replicate n.toNat z → K (.c (.arr h.length 0 0 k)) (h ++ [.da true 0 sz es])
   | false => False)
 | .mkm, [] => K (.c (.mp h.length)) (h ++ [.mp 0 []])
 | .lk sc n ls ok z, [.c (.mp l), k] => (match h[l]?, keyDV ls sc n k with
  | some (.mp _ es), some kd => ∀ r, mfind sc n ls kd es 0 = r → vLk ok z (fun v => K v h) r
  | _, _ => False)
 | .up sc n ls, [.c (.mp l), k, x] => (match keyDV ls sc n k, valDV h x with
  | some kd, some (vd, h1) => (match h1[l]? with
   | some (.mp v es) => ∀ r, mfind sc n ls kd es 0 = r → vUp es kd vd (fun es' => K (.c .u) (h1.set l (.mp (v + 1) es'))) r
   | _ => False)
  | _, _ => False)
 | .del sc n ls, [.c (.mp l), k] => (match h[l]?, keyDV ls sc n k with
  | some (.mp v es), some kd => ∀ r, mfind sc n ls kd es 0 = r → vDel es (K (.tup []) h) (fun es' => K (.tup []) (h.set l (.mp (v + 1) es'))) r
  | _, _ => False)
 | .lnm, [.c (.mp l)] => (match h[l]? with
  | some (.mp _ es) => ∀ c : Int, c = es.length → K (.c (.d (.int .i64 c))) h
  | _ => False)
 | .mm true, [.c (.d (.int .i64 a)), .c (.d (.int .i64 b))] => ∀ c : Int, (a ≤ c ∧ b ≤ c ∧ (c = a ∨ c = b)) → K (.c (.d (.int .i64 c))) h
 | .mm false, [.c (.d (.int .i64 a)), .c (.d (.int .i64 b))] => ∀ c : Int, (c ≤ a ∧ c ≤ b ∧ (c = a ∨ c = b)) → K (.c (.d (.int .i64 c))) h
 | .clr sz z, [.c (.arr l v i n)] => (match h[l]? with
  | some (.da r v' sz' es) => (match Nat.beq sz' sz with
   | true => (Unit → v' = v) ∧ ∀ es', es' = es.take i ++ (List.replicate n z ++ es.drop (i + n)) → K (.tup []) (h.set l (.da r v' sz es'))
   | false => False)
  | _ => False)
 | _, _ => False
theorem vMo_sound {o : MOp} {avs : List AV} {h : Hp} {K : AV → Hp → Prop} (hv : vMo o avs h K) : ∃ v h', mstep h o avs = some (v, h') ∧ K v h' := by
 unfold vMo at hv
 split at hv
 ·rename_i sz bytes z sz' l n
  split at hv
  ·rename_i q
   have q : sz' = sz := by simpa [Nat.beq_eq] using q
   subst q
   obtain ⟨c1, c2⟩ := hv.1 ()
   exact ⟨_, _, by simp only [mstep]; rw [if_pos ⟨trivial, c1, c2⟩], hv.2 _ _ rfl rfl⟩
  ·exact hv.elim
 ·exact ⟨_, _, by simp only [mstep], hv⟩
 ·rename_i sc n ls ok z l k
  split at hv
  ·rename_i ver es kd h1 h2
   have hv := hv _ rfl
   cases hm : mfind sc n ls kd es 0 with
   | none => rw [hm] at hv; exact hv.elim
   | some r =>
    rw [hm] at hv
    cases r with
    | none => exact ⟨_, _, by simp only [mstep, h1, h2, hm], hv⟩
    | some p => obtain ⟨j, v⟩ := p; exact ⟨_, _, by simp only [mstep, h1, h2, hm], hv⟩
  ·exact hv.elim
 ·rename_i sc n ls l k x
  split at hv
  ·rename_i kd vd h1 hk hx
   split at hv
   ·rename_i ver es hl
    have hv := hv _ rfl
    cases hm : mfind sc n ls kd es 0 with
    | none => rw [hm] at hv; exact hv.elim
    | some r =>
     rw [hm] at hv
     cases r with
     | none => exact ⟨_, _, by simp only [mstep, hk, hx, hl, hm], hv _ rfl⟩
     | some p => obtain ⟨j, v⟩ := p; exact ⟨_, _, by simp only [mstep, hk, hx, hl, hm], hv _ rfl⟩
   ·exact hv.elim
  ·exact hv.elim
 ·rename_i sc n ls l k
  split at hv
  ·rename_i ver es kd h1 h2
   have hv := hv _ rfl
   cases hm : mfind sc n ls kd es 0 with
   | none => rw [hm] at hv; exact hv.elim
   | some r =>
    rw [hm] at hv
    cases r with
    | none => exact ⟨_, _, by simp only [mstep, h1, h2, hm], hv⟩
    | some p => obtain ⟨j, v⟩ := p; exact ⟨_, _, by simp only [mstep, h1, h2, hm], hv _ rfl⟩
  ·exact hv.elim
 ·rename_i l
  split at hv
  ·rename_i ver es h1
   exact ⟨_, _, by simp only [mstep, h1], hv _ rfl⟩
  ·exact hv.elim
 ·rename_i a b
  refine ⟨_, _, by simp only [mstep, if_true]; rfl, hv _ ?_⟩
  split <;> omega
 ·rename_i a b
  refine ⟨_, _, by simp only [mstep, if_true, Bool.false_eq_true, if_false]; rfl, hv _ ?_⟩
  split <;> omega
 ·rename_i sz z l v i n
  split at hv
  ·rename_i r v' sz' es hl
   split at hv
   ·rename_i q
    have q : sz' = sz := by simpa [Nat.beq_eq] using q
    subst q
    have hvv := hv.1 ()
    subst hvv
    exact ⟨_, _, by simp only [mstep, hl, and_self, if_true], hv.2 _ rfl⟩
   ·exact hv.elim
  ·exact hv.elim
 ·exact hv.elim
def vcOp0 (P : Program) (Λ : Len) (m : Nat) (d : Bool) (op : AOp) (L : Lv) (h : Hp) (K : Lv → AV → Hp → Prop) : Prop :=
 match op with
 | .mv x => K L (evN L x) h
 | .pick c a b => match evN L c with
  | .c (.d (.bool t)) => (match t with
   | true => K L (evN L a) h
   | false => K L (evN L b) h)
  | _ => False
 | .ld x none => vRd h (evN L x) fun cs => match cs with
  | c :: _ => K L (.c c) h
  | [] => False
 | .ld x (some n) => vRd h (evN L x) fun cs => n ≤ cs.length ∧ K L (.agg (cs.take n)) h
 | .st x v n => match cells (evN L v) with
  | some cs => cs.length = n ∧ (Unit → cellsOk h cs = true) ∧ vSt h (evN L x) cs fun h' => K L (.c .u) h'
  | none => False
 | .bin bo a b => vBin bo (evN L a) (evN L b) fun v => K L v h
 | .beq ne a b => match evN L a, evN L b with
  | .c (.d (.bool x)), .c (.d (.bool y)) => (match x, y with
   | true, true => K L (.c (.d (.bool (!ne)))) h
   | false, false => K L (.c (.d (.bool (!ne)))) h
   | true, false => K L (.c (.d (.bool ne))) h
   | false, true => K L (.c (.d (.bool ne))) h)
  | _, _ => False
 | .eqa ne n ls a b => match evN L a, evN L b with
  | .agg xs, .agg ys => xs.length = n ∧ ys.length = n ∧ (match eqP xs ys ls with
   | some p => (p → K L (.c (.d (.bool (!ne)))) h) ∧ (¬ p → K L (.c (.d (.bool ne))) h)
   | none => False)
  | _, _ => False
 | .un .not x => match evN L x with
  | .c (.d (.bool b)) => (match b with
   | true => K L (.c (.d (.bool false))) h
   | false => K L (.c (.d (.bool true))) h)
  | _ => False
 | .isnil kd ne x => (match kd, d, evN L x with
  | 0, false, .c (.d (.list false _ l)) => K L (.c (.d (.bool ne))) h ∧ (l = [] → K L (.c (.d (.bool (!ne)))) h)
  | kd, _, v => match isNil h kd v with
   | some b => (match b with
    | true => K L (.c (.d (.bool (!ne)))) h
    | false => K L (.c (.d (.bool ne))) h)
   | none => False)
 | .cvi k x => match evN L x with
  | .c (.d (.int _ n)) => ∀ c, c = k.wrap n → K L (.c (.d (.int k c))) h
  | _ => False
 | .sl sz x lo hi mx => match ointN L lo, ointN L hi, ointN L mx with
  | some lo, some hi, some mx => (match evN L x with
   | .c (.arr l v i n) => (match h[l]? with
    | some (.da _ v' sz' _) => (match Nat.beq sz' sz with
     | true => (Unit → v' = v) ∧ vSl Λ sz (.c (.arr l v i n)) lo hi mx fun r => K L r h
     | false => False)
    | _ => False)
   | xv => vSl Λ sz xv lo hi mx fun r => K L r h)
  | _, _, _ => False
 | .ias sz x i => match evN L i with
  | .c (.d (.int _ n)) => vIx Λ h sz (evN L x) n fun r => K L r h
  | _ => False
 | .iaa n sz x (.t i) => match lkN L i with
  | .c (.d (.int _ k)) => (Unit → 0 ≤ k ∧ k < nI n) ∧ vAll k (fun j => match evN L x with
   | .c (.rp cs) => K L (.c (.rp (cs.drop (j * sz)))) h
   | .c (.ptr l v p q) => (match solid h (.ptr l v p q) with
    | true => K L (.c (.ptr l v p (q + j * sz))) h
    | false => False)
   | _ => False) n
  | _ => False
 | .ixa n sz ag x (.t i) => match lkN L i with
  | .c (.d (.int _ k)) => (Unit → 0 ≤ k ∧ k < nI n) ∧ vAll k (fun j => match evN L x with
   | .agg l => (match ag with
    | true => (match Nat.ble (j * sz + sz) l.length with
     | true => K L (.agg ((l.drop (j * sz)).take sz)) h
     | false => False)
    | false => (match l[j * sz]? with
     | some c => K L (.c c) h
     | none => False))
   | _ => False) n
  | _ => False
 | .len x => match d, evN L x with
  | false, .c (.arr l v _ n) => (match h[l]? with
   | some (.da _ v' _ _) => (Unit → v' = v) ∧ ∀ c : Int, c = nI n → c ≤ 9223372036854775807 → K L (.c (.d (.int .i64 c))) h
   | _ => False)
  | d, xv => match view h xv with
  | some (_, l) => (match d with
   | true => K L (.c (.d (.int .i64 (Λ l)))) h
   | false => Λ l ≤ 9223372036854775807 → K L (.c (.d (.int .i64 (Λ l)))) h)
  | none => False
 | .app sz bytes _ x y => match view h (evN L y) with
  | some (sz', ys) => (match Nat.beq sz' sz with
   | true => vApp h sz bytes (evN L x) ys (K L)
   | false => False)
  | none => False
 | .mks sz bytes z l c => match evN L l, evN L c with
  | .c (.d (.int _ n)), .c (.d (.int _ m)) => (Unit → 0 ≤ n ∧ n ≤ m ∧ m ≤ 9223372036854775807 ∧ m.toNat * bytes ≤ 140737488355328) ∧
    ∀ k es, k = n.toNat → es = List.replicate n.toNat z → K L (.c (.arr h.length 0 0 k)) (h ++ [.da true 0 sz es])
  | _, _ => False
 | .bsl sz z n ps => match elemsOf h (lkN L) ps with
  | some (as, h1) => (match fillE sz (List.replicate n z) as with
   | some es => (d = true → h1 = h) ∧ (n * sz ≤ 16777216 ∧ n ≤ 16777216) ∧ K L (.c (.arr h1.length 0 0 n)) (h1 ++ [.da true 0 sz es])
   | none => False)
  | none => False
 | .mo o xs => vMo o (evsN L xs) h (K L)
 | .call f xs => CallS P m d L h f xs K
 | .callv x xs => match d, evN L x with
  | false, .c (.fn b f caps) => FnOk P f ∧ CallV P h f (bArgs b (evsN L xs) (caps.map .c)) (K L)
  | _, _ => False
 | op => match astep (lkN L) h op with
  | some (v, h') => K L v h'
  | none => False
def vcOp (P : Program) (Λ : Len) (m : Nat) (d : Bool) (op : AOp) (L : Lv) (h : Hp) (K : Lv → AV → Hp → Prop) : Prop :=
 match d with
 | true => vcOp0 P Λ m true op L h K
 | false => match arOp L h op with
  | .no => vcOp0 P Λ m false op L h K
  | .yes => vAr op L h (K L)
  | .both => (Unit → vcOp0 P Λ m false op L h K) ∨ (Unit → vAr op L h (K L))
inductive Did (P : Program) (m : Nat) (d : Bool) (op : AOp) : Lv → Hp → (Lv → AV → Hp → Prop) → Prop
 | wk {L : Lv} {h : Hp} {L1 : Lv} {h1 : Hp} {K : Lv → AV → Hp → Prop} (hd : d = false) (hw : Wk m L h L1 h1) (k : Did P m d op L1 h1 K) : Did P m d op L h K
 | step {L : Lv} {h : Hp} {K : Lv → AV → Hp → Prop} (v : AV) (h' : Hp) (hs : astep (lkL L) h op = some (v, h')) (hd : d = true → cls op = 1 → ∃ k, h' = h ++ [k]) (k : K L v h') : Did P m d op L h K
 | call {L : Lv} {h : Hp} {K : Lv → AV → Hp → Prop} (f : Nat) (xs : List X) (ho : op = .call f xs) (hc : CallS P m d L h f xs K) : Did P m d op L h K
 | len {L : Lv} {h : Hp} {K : Lv → AV → Hp → Prop} (x : X) (sz : Nat) (l : List (List D)) (ho : op = .len x) (hd : d = false) (hx : view h (ev (lkL L) x) = some (sz, l)) (k : l.length ≤ 9223372036854775807 → K L (.c (.d (.int .i64 l.length))) h) : Did P m d op L h K
 | lenA {L : Lv} {h : Hp} {K : Lv → AV → Hp → Prop} (x : X) (l v i n : Nat) (ho : op = .len x) (hd : d = false) (hx : ev (lkL L) x = .c (.arr l v i n)) (hs : solid h (.arr l v i n) = true) (k : n ≤ 9223372036854775807 → K L (.c (.d (.int .i64 n))) h) : Did P m d op L h K
 | nil {L : Lv} {h : Hp} {K : Lv → AV → Hp → Prop} (ne : Bool) (x : X) (nl : Bool) (sz : Nat) (l : List (List D)) (ho : op = .isnil 0 ne x) (hd : d = false) (hx : ev (lkL L) x = .c (.d (.list nl sz l))) (k : ∀ b : Bool, (b = true → l = []) → K L (.c (.d (.bool (if ne then !b else b)))) h) : Did P m d op L h K
 | callv {L : Lv} {h : Hp} {K : Lv → AV → Hp → Prop} (x : X) (xs : List X) (b : Bool) (f : Nat) (caps : List CV) (ho : op = .callv x xs) (hd : d = false) (hx : ev (lkL L) x = .c (.fn b f caps)) (hf : FnOk P f) (hc : CallV P h f (bArgs b (evsN L xs) (caps.map .c)) (K L)) : Did P m d op L h K
 | ar {L : Lv} {h : Hp} {K : Lv → AV → Hp → Prop} (K0 : AV → Hp → Prop) (hd : d = false) (ha : vAr op L h K0) (k : ∀ v h', K0 v h' → K L v h') : Did P m d op L h K
theorem lkN_fun (L : Lv) : lkN L = lkL L := funext (lkN_eq L)
theorem bool_ne (ne x : Bool) : (if ne = true then !(x == x) else x == x) = !ne := by cases ne <;> cases x <;> rfl
theorem vcOp0_sound {P : Program} {Λ : Len} (hΛ : ∀ l, Λ l = (l.length : Int)) {m : Nat} {d : Bool} {op : AOp} {L : Lv} {h : Hp} {K : Lv → AV → Hp → Prop} (hv : vcOp0 P Λ m d op L h K) : Did P m d op L h K := by
 cases op
 case mv x => rw [vcOp0, evN_eq] at hv; exact .step _ _ rfl (by simp [cls]) hv
 case pick c a b =>
  simp only [vcOp0, evN_eq] at hv
  split at hv
  ·rename_i t ht
   cases t
   ·exact .step _ _ (by simp [astep, ht]) (by simp [cls]) hv
   ·exact .step _ _ (by simp [astep, ht]) (by simp [cls]) hv
  ·exact hv.elim
 case ld x n =>
  cases n with
  | none =>
   simp only [vcOp0, evN_eq] at hv
   obtain ⟨cs, hrd, hk⟩ := vRd_sound hv
   split at hk
   ·exact .step _ _ (by simp only [astep, hrd]) (by simp [cls]) hk
   ·exact hk.elim
  | some n =>
   simp only [vcOp0, evN_eq] at hv
   obtain ⟨cs, hrd, hk⟩ := vRd_sound hv
   exact .step _ _ (by simp only [astep, hrd, hk.1, if_true]) (by simp [cls]) hk.2
 case st x v n =>
  simp only [vcOp0, evN_eq] at hv
  split at hv
  ·rename_i cs hcs
   obtain ⟨h1, h2, h3⟩ := hv
   have h2 := h2 ()
   obtain ⟨h', hw, hk⟩ := vSt_sound h3
   refine .step _ h' ?_ (by simp [cls]) hk
   rcases hw with hw | ⟨hw1, hw2⟩
   ·simp [astep, hcs, h1, h2, hw]
   ·simp [astep, hcs, h1, h2, hw1, hw2]
  ·exact hv.elim
 case bin bo a b =>
  simp only [vcOp0, evN_eq] at hv
  obtain ⟨x, y, r, h1, h2, h3, h4⟩ := vBin_sound hv
  exact .step _ _ (by simp only [astep, h1, h2, h3, Option.map_some]) (by simp [cls]) h4
 case beq ne a b =>
  simp only [vcOp0, evN_eq] at hv
  split at hv
  ·rename_i x y h1 h2
   split at hv
   ·exact .step _ _ (by simp only [astep, h1, h2, bool_ne]) (by simp [cls]) hv
   ·exact .step _ _ (by simp only [astep, h1, h2, bool_ne]) (by simp [cls]) hv
   ·exact .step _ _ (by simp only [astep, h1, h2]; cases ne <;> rfl) (by simp [cls]) hv
   ·exact .step _ _ (by simp only [astep, h1, h2]; cases ne <;> rfl) (by simp [cls]) hv
  ·exact hv.elim
 case eqa ne n ls a b =>
  simp only [vcOp0, evN_eq] at hv
  split at hv
  ·rename_i xs ys h1 h2
   obtain ⟨h3, h4, hv⟩ := hv
   split at hv
   ·rename_i p hp
    obtain ⟨r, hr, hi⟩ := eqP_sound hp
    by_cases hpp : p
    ·have : r = true := hi.2 hpp
     subst this
     exact .step _ _ (by simp only [astep, h1, h2, h3, h4, and_self, if_true, hr, Option.map_some]; cases ne <;> rfl) (by simp [cls]) (hv.1 hpp)
    ·have : r = false := by cases r; rfl; exact absurd (hi.1 rfl) hpp
     subst this
     exact .step _ _ (by simp only [astep, h1, h2, h3, h4, and_self, if_true, hr, Option.map_some]; cases ne <;> rfl) (by simp [cls]) (hv.2 hpp)
   ·exact hv.elim
  ·exact hv.elim
 case un o x =>
  cases o
  case not =>
   simp only [vcOp0, evN_eq] at hv
   split at hv
   ·rename_i b hb
    cases b
    ·exact .step _ _ (by simp [astep, hb, unD]) (by simp [cls]) hv
    ·exact .step _ _ (by simp [astep, hb, unD]) (by simp [cls]) hv
   ·exact hv.elim
  all_goals
   simp only [vcOp0, lkN_fun] at hv
   split at hv
   ·rename_i v h' hs; exact .step v h' hs (by simp [cls]) hv
   ·exact hv.elim
 case isnil kd ne x =>
  simp only [vcOp0, evN_eq] at hv
  split at hv
  ·rename_i sz l hx
   refine .nil ne x false sz l rfl rfl hx fun b hb => ?_
   cases b with
   | false => cases ne <;> exact hv.1
   | true => cases ne <;> exact hv.2 (hb rfl)
  ·split at hv
   ·rename_i b hb
    cases b with
    | true => exact .step _ _ (by simp only [astep, hb, Option.map_some]; rfl) (by simp [cls]) (by cases ne <;> exact hv)
    | false => exact .step _ _ (by simp only [astep, hb, Option.map_some]; rfl) (by simp [cls]) (by cases ne <;> exact hv)
   ·exact hv.elim
 case cvi k x =>
  simp only [vcOp0, evN_eq] at hv
  split at hv
  ·rename_i k0 n hn
   exact .step _ _ (by simp only [astep, hn]) (by simp [cls]) (hv _ rfl)
  ·exact hv.elim
 case sl sz x lo hi mx =>
  simp only [vcOp0, evN_eq, ointN_eq] at hv
  split at hv
  ·rename_i lo' hi' mx' h1 h2 h3
   split at hv
   ·rename_i l v i n hx
    split at hv
    ·rename_i rl v' sz' es hes
     split at hv
     ·rename_i q2
      have q1 : v' = v := hv.1 ()
      have q2 : sz' = sz := by simpa [Nat.beq_eq] using q2
      subst q1 q2
      obtain ⟨r, hr, hk⟩ := vSl_sound hΛ hv.2
      exact .step _ _ (by simp only [astep, h1, h2, h3, hx, hes, and_self, if_true, hr, Option.map_some]) (by simp [cls]) hk
     ·exact hv.elim
    ·exact hv.elim
   ·rename_i hne
    obtain ⟨r, hr, hk⟩ := vSl_sound hΛ hv
    refine .step _ _ ?_ (by simp [cls]) hk
    simp only [astep, h1, h2, h3]
    rw [hr]; rfl
  ·exact hv.elim
 case ias sz x i =>
  simp only [vcOp0, evN_eq] at hv
  split at hv
  ·rename_i k n hn
   obtain ⟨r, hr, hk⟩ := vIx_sound hΛ hv
   exact .step _ _ (by simp only [astep, hn, hr, Option.map_some]) (by simp [cls]) hk
  ·exact hv.elim
 case iaa n sz x i =>
  cases i with
  | t i =>
   simp only [vcOp0, evN_eq, lkN_eq] at hv
   split at hv
   ·rename_i kk k hk
    have h01 := hv.1 ()
    rw [nI_eq] at h01
    have hv := vAll_sound hv.2 h01.1 h01.2
    have hk' : ev (lkL L) (.t i) = .c (.d (.int kk k)) := hk
    split at hv
    ·rename_i cs hx
     exact .step _ _ (by simp only [astep, hk', h01, and_self, if_true, hx]) (by simp [cls]) hv
    ·rename_i l v p q hx
     split at hv
     ·rename_i hs
      exact .step _ _ (by simp only [astep, hk', h01, and_self, if_true, hx, hs]) (by simp [cls]) hv
     ·exact hv.elim
    ·exact hv.elim
   ·exact hv.elim
  | k v =>
   simp only [vcOp0, lkN_fun] at hv
   split at hv
   ·rename_i v h' hs; exact .step v h' hs (by simp [cls]) hv
   ·exact hv.elim
 case ixa n sz ag x i =>
  cases i with
  | t i =>
   simp only [vcOp0, evN_eq, lkN_eq] at hv
   split at hv
   ·rename_i kk k hk
    have h01 := hv.1 ()
    rw [nI_eq] at h01
    have hv := vAll_sound hv.2 h01.1 h01.2
    have hk' : ev (lkL L) (.t i) = .c (.d (.int kk k)) := hk
    split at hv
    ·rename_i l hx
     split at hv
     ·split at hv
      ·rename_i hle
       have hle := Nat.le_of_ble_eq_true hle
       exact .step _ _ (by simp only [astep, hk', h01, and_self, if_true, hx, hle]) (by simp [cls]) hv
      ·exact hv.elim
     ·split at hv
      ·rename_i c hcc
       exact .step _ _ (by simp only [astep, hk', h01, and_self, if_true, hx, hcc, Bool.false_eq_true, if_false, Option.map_some]) (by simp [cls]) hv
      ·exact hv.elim
    ·exact hv.elim
   ·exact hv.elim
  | k v =>
   simp only [vcOp0, lkN_fun] at hv
   split at hv
   ·rename_i v h' hs; exact .step v h' hs (by simp [cls]) hv
   ·exact hv.elim
 case len x =>
  simp only [vcOp0, evN_eq] at hv
  split at hv
  ·rename_i l v i n hx
   split at hv
   ·rename_i r v' sz es hes
    have q : v' = v := hv.1 ()
    subst q
    exact .lenA x l v' i n rfl rfl hx (by simp [solid, hes]) fun hm => hv.2 _ (nI_eq _).symm (by omega)
   ·exact hv.elim
  ·split at hv
   rotate_left
   ·exact hv.elim
   rename_i sz l hl
   split at hv
   ·rw [hΛ] at hv; exact .step _ _ (by simp only [astep, hl]) (by simp [cls]) hv
   ·rw [hΛ] at hv; exact .len x sz l rfl rfl hl fun hm => hv (by omega)
 case app sz bytes z x y =>
  simp only [vcOp0, evN_eq] at hv
  split at hv
  ·rename_i sz' ys hys
   split at hv
   ·rename_i q1
    have q1 : sz' = sz := by simpa [Nat.beq_eq] using q1
    subst q1
    obtain ⟨r, h', hr, hk⟩ := vApp_sound hv
    exact .step _ _ (by simp only [astep, hys, if_true]; exact hr) (by simp [cls]) hk
   ·exact hv.elim
  ·exact hv.elim
 case mks sz bytes z l c =>
  simp only [vcOp0, evN_eq] at hv
  split at hv
  ·rename_i k n k' m h1 h2
   exact .step _ _ (by simp only [astep, h1, h2]; rw [if_pos (hv.1 ())]) (fun _ _ => ⟨_, rfl⟩) (hv.2 _ _ rfl rfl)
  ·exact hv.elim
 case bsl sz z n ps =>
  simp only [vcOp0, lkN_fun] at hv
  split at hv
  ·rename_i as h1 has
   split at hv
   ·rename_i es hes
    exact .step _ _ (by simp only [astep, has, hes]; rw [if_pos hv.2.1]) (fun hd _ => ⟨_, by rw [hv.1 hd]⟩) hv.2.2
   ·exact hv.elim
  ·exact hv.elim
 case mo o xs =>
  simp only [vcOp0, evsN_eq] at hv
  obtain ⟨v, h', hs, hk⟩ := vMo_sound hv
  exact .step v h' hs (by cases o <;> simp [cls]) hk
 case call f xs => exact .call f xs rfl hv
 case callv x xs =>
  simp only [vcOp0, evN_eq] at hv
  split at hv
  ·rename_i b f caps hx
   exact .callv x xs b f caps rfl rfl hx hv.1 hv.2
  ·exact hv.elim
 case box x =>
  simp only [vcOp0, lkN_fun] at hv
  split at hv
  ·rename_i v h' hs
   refine .step v h' hs (fun _ _ => ?_) hv
   simp only [astep] at hs
   split at hs
   ·split at hs
    ·cases hs; exact ⟨_, rfl⟩
    ·cases hs
   ·cases hs
  ·exact hv.elim
 all_goals
  simp only [vcOp0, lkN_fun] at hv
  split at hv
  ·rename_i v h' hs; exact .step v h' hs (by simp [cls]) hv
  ·exact hv.elim
theorem vcOp_sound {P : Program} {Λ : Len} (hΛ : ∀ l, Λ l = (l.length : Int)) {m : Nat} {d : Bool} {op : AOp} {L : Lv} {h : Hp} {K : Lv → AV → Hp → Prop} (hv : vcOp P Λ m d op L h K) : Did P m d op L h K := by
 cases d with
 | true => exact vcOp0_sound hΛ hv
 | false =>
  simp only [vcOp] at hv
  split at hv
  ·exact vcOp0_sound hΛ hv
  ·exact .ar _ rfl hv fun _ _ hk => hk
  ·rcases hv with hv | hv
   ·exact vcOp0_sound hΛ (hv ())
   ·exact .ar _ rfl (hv ()) fun _ _ hk => hk
def md (m : Nat) : Bool → Nat
 | true => m + 1
 | false => m
def vcOps (P : Program) (Λ : Len) (m : Nat) (d : Bool) : List AO → Lv → Hp → (Lv → Hp → Prop) → Prop
 | [], L, h, K => K L h
 | o :: r, L, h, K => match o.g with
  | none => vcOp P Λ (md m d) d o.op L h fun L' v h' => vcOps P Λ m d r (putL L' o.dst v) h' K
  | some (s, want) => match lkN L s with
   | .c (.d (.bool b)) => (match b, want with
    | true, true => vcOp P Λ (md m d) d o.op L h fun L' v h' => vcOps P Λ m d r (putL L' o.dst v) h' K
    | false, false => vcOp P Λ (md m d) d o.op L h fun L' v h' => vcOps P Λ m d r (putL L' o.dst v) h' K
    | true, false => vcOps P Λ m d r (putL L o.dst (.tup [])) h K
    | false, true => vcOps P Λ m d r (putL L o.dst (.tup [])) h K)
   | .tup [] => vcOps P Λ m d r (putL L o.dst (.tup [])) h K
   | _ => False
theorem vcOps_cons {P : Program} {Λ : Len} {m : Nat} {d : Bool} {o : AO} {r : List AO} {L : Lv} {h : Hp} {K : Lv → Hp → Prop} (hv : vcOps P Λ m d (o :: r) L h K) :
  (gv (lkL L) o.g = some true ∧ vcOp P Λ (md m d) d o.op L h fun L' v h' => vcOps P Λ m d r (putL L' o.dst v) h' K) ∨ (gv (lkL L) o.g = some false ∧ vcOps P Λ m d r (putL L o.dst (.tup [])) h K) := by
 simp only [vcOps] at hv
 split at hv
 ·rename_i hg; exact .inl ⟨by simp [hg, gv], hv⟩
 ·rename_i s want hg
  split at hv
  ·rename_i b hb
   rw [lkN_eq] at hb
   have hgv : gv (lkL L) o.g = some (b == want) := by simp [hg, gv, lk, hb]
   split at hv
   ·exact .inl ⟨hgv, hv⟩
   ·exact .inl ⟨hgv, hv⟩
   ·exact .inr ⟨hgv, hv⟩
   ·exact .inr ⟨hgv, hv⟩
  ·rename_i hb
   rw [lkN_eq] at hb
   exact .inr ⟨by simp [hg, gv, lk, hb], hv⟩
  ·exact hv.elim
theorem CallS.mono {P : Program} {m : Nat} {d : Bool} {L : Lv} {h : Hp} {f : Nat} {xs : List X} {K K' : Lv → AV → Hp → Prop} (hc : CallS P m d L h f xs K) (hk : ∀ L v h', K L v h' → K' L v h') : CallS P m d L h f xs K' := by
 induction hc with
 | pure hp k => exact .pure hp (hk _ _ _ k)
 | ro hm hp k => exact .ro hm hp (hk _ _ _ k)
 | fn hf => exact .fn (hf.mono (hk _))
 | wk hw _ ih => exact .wk hw (ih hk)
theorem CallV.mono {P : Program} {h : Hp} {f : Nat} {args : List AV} {K K' : AV → Hp → Prop} (hc : CallV P h f args K) (hk : ∀ v h', K v h' → K' v h') : CallV P h f args K' := by
 cases hc with
 | pure hp k => exact .pure hp (hk _ _ k)
 | fn hf => exact .fn (hf.mono hk)
theorem Did.mono {P : Program} {m : Nat} {d : Bool} {op : AOp} {L : Lv} {h : Hp} {K K' : Lv → AV → Hp → Prop} (hd : Did P m d op L h K) (hk : ∀ L v h', K L v h' → K' L v h') : Did P m d op L h K' := by
 induction hd with
 | wk hd hw k ih => exact .wk hd hw (ih hk)
 | step v h' hs hd k => exact .step v h' hs hd (hk _ _ _ k)
 | call f xs ho hc => exact .call f xs ho (hc.mono hk)
 | len x sz l ho hd hx k => exact .len x sz l ho hd hx fun hm => hk _ _ _ (k hm)
 | lenA x l v i n ho hd hx hs k => exact .lenA x l v i n ho hd hx hs fun hm => hk _ _ _ (k hm)
 | nil ne x nl sz l ho hd hx k => exact .nil ne x nl sz l ho hd hx fun b hb => hk _ _ _ (k b hb)
 | callv x xs b f caps ho hd hx hf hc => exact .callv x xs b f caps ho hd hx hf (hc.mono (hk _))
 | ar K0 hd ha k => exact .ar K0 hd ha fun v h' h0 => hk _ _ _ (k v h' h0)
def runO (P : Program) (m : Nat) (d : Bool) : List AO → Lv → Hp → (Lv → Hp → Prop) → Prop
 | [], L, h, K => K L h
 | o :: r, L, h, K => (gv (lkL L) o.g = some true ∧ Did P (md m d) d o.op L h fun L' v h' => runO P m d r (putL L' o.dst v) h' K) ∨ (gv (lkL L) o.g = some false ∧ runO P m d r (putL L o.dst (.tup [])) h K)
theorem vcOps_runO {P : Program} {Λ : Len} (hΛ : ∀ l, Λ l = (l.length : Int)) {m : Nat} {d : Bool} {K : Lv → Hp → Prop} : ∀ {ops : List AO} {L : Lv} {h : Hp}, vcOps P Λ m d ops L h K → runO P m d ops L h K := by
 intro ops
 induction ops with
 | nil => intro L h hv; exact hv
 | cons o r ih =>
  intro L h hv
  rcases vcOps_cons hv with ⟨h1, h2⟩ | ⟨h1, h2⟩
  ·exact .inl ⟨h1, (vcOp_sound hΛ h2).mono fun L' v h' hk => ih hk⟩
  ·exact .inr ⟨h1, ih h2⟩
end Go.Ab

/-
  The engine: arenas, part b: what an operation on values that lead into an arena does in the model.
-/
namespace Go.Ab
theorem take_get {α : Type} {l t : List α} {i : Nat} (hi : i < l.length) : (l ++ t)[i]? = l[i]? := List.getElem?_append_left hi
theorem refsCs_get {n : Nat} {l : List CV} (h : refsCs n l = true) : ∀ (i : Nat) (x : CV), l[i]? = some x → refsC n x = true := by
 induction l with
 | nil => intro i x hx; simp at hx
 | cons y r ih =>
  intro i x hx
  simp only [refsCs, refsC.refsCs] at h
  split at h
  ·rename_i hy
   cases i with
   | zero => simp at hx; subst hx; exact hy
   | succ i => simp at hx; exact ih h i x hx
  ·cases h
theorem refsC_move {G : Nat → Prop} {w : World} {ι : Io} {h' t : Hp} {v : Value} {x : CV} (hx : CR G w ι (h' ++ t) v x) (hr : refsC h'.length x = true) : CR G w (ι.take h'.length) h' v x := by
 induction hx with
 | u => exact .u _
 | d _ _ hd => exact .d _ _ hd
 | cl _ _ _ _ hd hc => exact .cl _ _ _ _ hd hc
 | rp b o cs hG hc => exact .rp b o cs hG hc
 | mp _ l blk hb hk =>
  have hl : l < h'.length := Nat.le_of_ble_eq_true hr
  rw [take_get hl] at hb
  refine .mp _ _ blk hb fun ver es he => ?_
  obtain ⟨b, o, h1, h2⟩ := hk ver es he
  exact ⟨b, o, by rw [List.getElem?_take, if_pos hl]; exact h1, h2⟩
 | it _ l blk hb hk =>
  have hl : l < h'.length := Nat.le_of_ble_eq_true hr
  rw [take_get hl] at hb
  refine .it _ _ blk hb fun m ver es he => ?_
  obtain ⟨b, o, h1, h2⟩ := hk m ver es he
  exact ⟨b, o, by rw [List.getElem?_take, if_pos hl]; exact h1, h2⟩
 | ptr _ l ver i j blk hb ha hk =>
  have hl : l < h'.length := Nat.le_of_ble_eq_true hr
  rw [take_get hl] at hb
  refine .ptr _ _ _ _ _ blk hb ha fun k hk' => ?_
  obtain ⟨b, o, h1, h2⟩ := hk k hk'
  exact ⟨b, o, by rw [List.getElem?_take, if_pos hl]; exact h1, h2⟩
 | arr _ l ver i j blk hb ha hk hk0 =>
  have hl : l < h'.length := Nat.le_of_ble_eq_true hr
  rw [take_get hl] at hb
  refine .arr _ _ _ _ _ blk hb ha (fun sz es he => ?_) hk0
  obtain ⟨b, o, cap, h1, h2⟩ := hk sz es he
  exact ⟨b, o, cap, by rw [List.getElem?_take, if_pos hl]; exact h1, h2⟩
 | fn v b f vs caps hv hn hc ih =>
  simp only [refsC] at hr
  exact .fn v b f vs caps hv hn fun i v c hv hx => ih i v c hv hx (refsCs_get hr i c hx)
theorem refsA_move {G : Nat → Prop} {w : World} {ι : Io} {h' t : Hp} {v : Value} {x : AV} (hx : VR G w ι (h' ++ t) v x) (hr : refsA h'.length x = true) : VR G w (ι.take h'.length) h' v x := by
 cases hx with
 | c _ _ hc => exact .c _ _ (refsC_move hc hr)
 | agg cs l hn hc => exact .agg _ _ hn fun i v x hv hx => refsC_move (hc i v x hv hx) (refsCs_get hr i x hx)
 | tup cs l hn hc =>
  cases l with
  | nil => exact .tup _ _ hn (by simp)
  | cons => simp [refsA] at hr
theorem refsH_get {n : Nat} {h : Hp} (hr : refsH n h = true) : ∀ (i : Nat) (b : Blk), h[i]? = some b → refsB n b = true := by
 induction h with
 | nil => intro i x hx; simp at hx
 | cons y r ih =>
  intro i x hx
  simp only [refsH] at hr
  split at hr
  ·rename_i hy
   cases i with
   | zero => simp at hx; subst hx; exact hy
   | succ i => simp at hx; exact ih hr i x hx
  ·cases hr
theorem refsCs_of' {n : Nat} : ∀ {l : List CV}, (∀ (i : Nat) (x : CV), l[i]? = some x → refsC n x = true) → refsCs n l = true := by
 intro l
 induction l with
 | nil => intro _; rfl
 | cons y r ih =>
  intro h
  simp only [refsCs, refsC.refsCs]
  rw [h 0 y rfl]
  exact ih fun i x hx => h (i + 1) x hx
theorem CR.refs {G : Nat → Prop} {w : World} {ι : Io} {h : Hp} {v : Value} {x : CV} (hx : CR G w ι h v x) : refsC h.length x = true := by
 induction hx with
 | u => rfl
 | d => rfl
 | cl => rfl
 | rp => rfl
 | ptr _ l ver i j blk hb => exact Nat.ble_eq_true_of_le (get_lt hb)
 | arr _ l ver i j blk hb => exact Nat.ble_eq_true_of_le (get_lt hb)
 | mp _ l blk hb => exact Nat.ble_eq_true_of_le (get_lt hb)
 | it _ l blk hb => exact Nat.ble_eq_true_of_le (get_lt hb)
 | fn v b f vs caps hv hn hc ih =>
  simp only [refsC]
  refine refsCs_of' fun i x hx => ?_
  have hi := get_lt hx
  exact ih i (vs[i]'(by omega)) x (Array.getElem?_eq_getElem (by omega)) hx
theorem BR.refs {G : Nat → Prop} {w : World} {ι : Io} {h : Hp} {l : Nat} {k : Blk} (hb : BR G w ι h l k) : refsB h.length k = true := by
 cases k with
 | bx cs =>
  obtain ⟨b, o, c, t, fr, h1, h2, h3, h4, h5⟩ := hb
  refine refsCs_of' fun i x hx => ?_
  obtain ⟨v, _, hc⟩ := h5 i x hx
  exact hc.refs
 | mi m ver es =>
  obtain ⟨b, o, mb, seen, clock, blk, h1, h2, h3, _⟩ := hb
  exact Nat.ble_eq_true_of_le (get_lt h3)
 | _ => rfl
theorem refsH_of' {n : Nat} : ∀ {h : Hp}, (∀ (i : Nat) (k : Blk), h[i]? = some k → refsB n k = true) → refsH n h = true := by
 intro h
 induction h with
 | nil => intro _; rfl
 | cons y r ih =>
  intro hh
  simp only [refsH]
  rw [hh 0 y rfl]
  exact ih fun i x hx => hh (i + 1) x hx
theorem HR.refs {G : Nat → Prop} {w : World} {ι : Io} {h : Hp} (r : HR G ι h w) : refsH h.length h = true := refsH_of' fun i k hk => (r.blk i k hk).refs
theorem HR.cut {G : Nat → Prop} {w : World} {ι : Io} {h' t : Hp} (r : HR G ι (h' ++ t) w) (refs : refsH h'.length h' = true) : HR G (ι.take h'.length) h' w := by
  have hlen := r.len
  simp only [List.length_append] at hlen
  have hι : ∀ l, l < h'.length → (ι.take h'.length)[l]? = ι[l]? := fun l hl => by rw [List.getElem?_take, if_pos hl]
  have hown : ∀ b, owned (ι.take h'.length) h' b → owned ι (h' ++ t) b := fun b ⟨l, k, h2, h3⟩ =>
    ⟨l, k, by rw [take_get (get_lt h2)]; exact h2, own1_io h3 fun _ => (hι l (get_lt h2)).symm⟩
  exact
    { len := by simp; omega
      own := fun l l' b k k' b1 b2 c1 c2 => r.own l l' b k k' (by rw [take_get (get_lt b1)]; exact b1) (by rw [take_get (get_lt b2)]; exact b2)
        (own1_io c1 fun _ => (hι l (get_lt b1)).symm) (own1_io c2 fun _ => (hι l' (get_lt b2)).symm)
      g := fun b hb => ⟨(r.g b hb).1, fun ho => (r.g b hb).2 (hown b ho)⟩
      blk := fun l k hk => by
        have hl := get_lt hk
        have hb := r.blk l k (by rw [take_get hl]; exact hk)
        have hrb := refsH_get refs l k hk
        cases k with
        | dead => trivial
        | am m' => exact hb
        | bx cs =>
          obtain ⟨b, o, c, ty, fr, h1, h2, h3, h4, h5⟩ := hb
          refine ⟨b, o, c, ty, fr, by rw [hι l hl]; exact h1, h2, h3, h4, fun i x hx => ?_⟩
          obtain ⟨v, hv, hc⟩ := h5 i x hx
          exact ⟨v, hv, refsC_move hc (refsCs_get hrb i x hx)⟩
        | mp ver es =>
          obtain ⟨b, o, ces, clock, h1, h2⟩ := hb
          exact ⟨b, o, ces, clock, by rw [hι l hl]; exact h1, h2⟩
        | mi m' ver es =>
          have hm' : m' < h'.length := Nat.le_of_ble_eq_true hrb
          obtain ⟨b, o, mb, seen, clock, blk, h1, h2, h3, h4, h5⟩ := hb
          rw [take_get hm'] at h3
          refine ⟨b, o, mb, seen, clock, blk, by rw [hι l hl]; exact h1, h2, h3, h4, fun all ha => ?_⟩
          obtain ⟨o', ces, g1, g2⟩ := h5 all ha
          exact ⟨o', ces, by rw [hι m' hm']; exact g1, g2⟩
        | da rl v sz es =>
          cases rl with
          | false => exact hb
          | true =>
            obtain ⟨b, o, c, ty, fr, hmx, h1, h2, h3⟩ := hb
            exact ⟨b, o, c, ty, fr, hmx, by rw [hι l hl]; exact h1, h2, h3⟩ }
section
variable {G : Nat → Prop} {w : World} {ι : Io} {h : Hp} {m : Ar} {b : Nat} {x : AB}
theorem am_owned (h0 : h[0]? = some (.am m)) (hx : m b = some x) : owned ι h b := ⟨0, _, h0, x, hx⟩
theorem HR.am_del (r : HR G ι h w) (h0 : h[0]? = some (.am m)) (b : Nat) : HR G ι (h.set 0 (.am (mdel m b))) w ∧ Ext G ι h w G ι (h.set 0 (.am (mdel m b))) w := by
 have sub : ∀ i x, mdel m b i = some x → m i = some x := fun i x hi => by
  simp only [mdel] at hi; split at hi
  ·cases hi
  ·exact hi
 refine HR.bump r h0 (fun i ⟨x, hx⟩ => ⟨x, sub i x hx⟩) trivial fun i x hx => r.blk 0 _ h0 i x (sub i x hx)
theorem HR.am_add (r : HR G ι h w) (h0 : h[0]? = some (.am m)) (hno : ¬ owned ι h b) (hG : ¬ G b) (hlt : b < w.heap.size) (ha : ABR G w b x) :
    m b = none ∧ HR G ι (h.set 0 (.am (mup m b x))) w ∧ ∀ c, owned ι (h.set 0 (.am (mup m b x))) c → owned ι h c ∨ c = b := by
  have hm : m b = none := by
    cases hm : m b with
    | none => rfl
    | some x => exact absurd (am_owned h0 hm) hno
  have at0 : ∀ c, own1 ι 0 (.am (mup m b x)) c → own1 ι 0 (.am m) c ∨ c = b := by
    intro c ⟨y, hy⟩
    by_cases hc : c = b
    · exact .inr hc
    · rw [mup_ne hc] at hy; exact .inl ⟨y, hy⟩
  have hown : ∀ c, owned ι (h.set 0 (.am (mup m b x))) c → owned ι h c ∨ c = b := by
    intro c ⟨l, k, h1, h2⟩
    rcases get_set h1 with ⟨e1, e2, _⟩ | ⟨_, e1⟩
    · subst e1 e2
      rcases at0 c h2 with e | e
      · exact .inl ⟨0, _, h0, e⟩
      · exact .inr e
    · exact .inl ⟨l, k, e1, h2⟩
  have hkeep : ∀ l k, h[l]? = some k → ∃ k', (h.set 0 (.am (mup m b x)))[l]? = some k' ∧ Kept ι ι w w l k k' := by
    intro l k hk
    by_cases e : l = 0
    · subst e
      rw [h0] at hk; cases hk
      exact ⟨.am (mup m b x), by rw [List.getElem?_set_self (get_lt h0)], trivial⟩
    · exact ⟨k, by rw [List.getElem?_set_ne (fun q => e q.symm)]; exact hk, Kept.refl ι w l k⟩
  refine ⟨hm, ?_, hown⟩
  exact
    { len := by simp [r.len]
      own := by
        intro l l' c k k' h1 h2 h3 h4
        rcases get_set h1 with ⟨e1, e2, _⟩ | ⟨e1, e2⟩ <;> rcases get_set h2 with ⟨f1, f2, _⟩ | ⟨f1, f2⟩
        · omega
        · subst e1 e2
          rcases at0 c h3 with q | q
          · exact r.own _ _ c _ k' h0 f2 q h4
          · subst q; exact absurd ⟨l', k', f2, h4⟩ hno
        · subst f1 f2
          rcases at0 c h4 with q | q
          · exact r.own _ _ c k _ e2 h0 h3 q
          · subst q; exact absurd ⟨l, k, e2, h3⟩ hno
        · exact r.own l l' c k k' e2 f2 h3 h4
      g := fun c hc => ⟨(r.g c hc).1, fun ho => by
        rcases hown c ho with e | e
        · exact (r.g c hc).2 e
        · subst e; exact hG hc⟩
      blk := fun l k hk => by
        rcases get_set hk with ⟨e1, e2, _⟩ | ⟨e1, e2⟩
        · subst e1 e2
          intro c y hy
          by_cases hc : c = b
          · subst hc; rw [mup_at] at hy; cases hy; exact ha
          · rw [mup_ne hc] at hy; exact r.blk 0 _ h0 c y hy
        · exact BR.carry (fun c hc => ⟨hc, rfl⟩) hkeep (r.blk l k e2) rfl fun _ _ => rfl }
theorem HR.am_set {w' : World} {x0 : AB} (r : HR G ι h w) (h0 : h[0]? = some (.am m)) (hx0 : m b = some x0) (hsize : w'.heap.size = w.heap.size) (hother : ∀ c, c ≠ b → w'.heap[c]? = w.heap[c]?)
    (ha : ABR G w' b x) (hq : Quiet w w') : HR G ι (h.set 0 (.am (mup m b x))) w' ∧ Ext G ι h w G ι (h.set 0 (.am (mup m b x))) w' := by
  have hsub : ∀ c, own1 ι 0 (.am (mup m b x)) c → own1 ι 0 (.am m) c := by
    intro c ⟨y, hy⟩
    by_cases hc : c = b
    · subst hc; exact ⟨x0, hx0⟩
    · rw [mup_ne hc] at hy; exact ⟨y, hy⟩
  have hob : owned ι h b := am_owned h0 hx0
  have hg : ∀ c, G c → G c ∧ w'.heap[c]? = w.heap[c]? := fun c hc => ⟨hc, hother c fun e => (r.g c hc).2 (e ▸ hob)⟩
  have hne : ∀ l k, h[l]? = some k → l ≠ 0 → ∀ c, own1 ι l k c → w'.heap[c]? = w.heap[c]? := fun l k hk hl c hc => hother c fun e => hl (by subst e; exact (r.own 0 l c _ k h0 hk ⟨x0, hx0⟩ hc).symm)
  have hkeep : ∀ l k, h[l]? = some k → ∃ k', (h.set 0 (.am (mup m b x)))[l]? = some k' ∧ Kept ι ι w w' l k k' := by
    intro l k hk
    by_cases e : l = 0
    · subst e
      rw [h0] at hk; cases hk
      exact ⟨.am (mup m b x), by rw [List.getElem?_set_self (get_lt h0)], trivial⟩
    · exact ⟨k, by rw [List.getElem?_set_ne (fun q => e q.symm)]; exact hk, Kept.frame rfl (hne l k hk e)⟩
  refine ⟨?_, ?_⟩
  · exact
      { len := by simp [r.len]
        own := by
          intro l l' c k k' h1 h2 h3 h4
          rcases get_set h1 with ⟨e1, e2, _⟩ | ⟨e1, e2⟩ <;> rcases get_set h2 with ⟨f1, f2, _⟩ | ⟨f1, f2⟩
          · omega
          · subst e1 e2; exact r.own _ _ c _ k' h0 f2 (hsub c h3) h4
          · subst f1 f2; exact r.own _ _ c k _ e2 h0 h3 (hsub c h4)
          · exact r.own l l' c k k' e2 f2 h3 h4
        g := fun c hc => ⟨by rw [hsize]; exact (r.g c hc).1, fun ho => (r.g c hc).2 (owned_set h0 (hsub c) ho)⟩
        blk := fun l k hk => by
          rcases get_set hk with ⟨e1, e2, _⟩ | ⟨e1, e2⟩
          · subst e1 e2
            intro c y hy
            by_cases hc : c = b
            · subst hc; rw [mup_at] at hy; cases hy; exact ha
            · rw [mup_ne hc] at hy; exact (r.blk 0 _ h0 c y hy).mono hg (hother c hc)
          · exact BR.carry hg hkeep (r.blk l k e2) rfl (hne l k e2 e1) }
  · exact
      { size := by omega
        quiet := hq
        frame := fun c _ ho => hother c fun e => ho (e ▸ hob)
        gmono := fun _ h => h
        gnew := fun _ h => .inl h
        onew := fun c ho => .inl (owned_set h0 (hsub c) ho)
        keep := hkeep }
theorem HR.am_new (r : HR G ι h w) (h0 : h[0]? = some (.am m)) (ob : Obj) (ha : ABR G (push w ob) w.heap.size x) :
    m w.heap.size = none ∧ HR G ι (h.set 0 (.am (mup m w.heap.size x))) (push w ob) ∧ Ext G ι h w G ι (h.set 0 (.am (mup m w.heap.size x))) (push w ob) := by
  have e0 := Ext.push_other r ob
  have r1 : HR G ι h (push w ob) :=
    { len := r.len
      own := r.own
      g := fun c hc => ⟨by have := (r.g c hc).1; simp [push]; omega, (r.g c hc).2⟩
      blk := fun l k hk => BR.ext e0 r hk rfl fun c hc => push_old w ob (owned_lt r ⟨l, k, hk, hc⟩) }
  have hno : ¬ owned ι h w.heap.size := fun ho => by have := owned_lt r ho; omega
  obtain ⟨q1, q2, q3⟩ := HR.am_add r1 h0 hno (fun hG => by have := (r.g _ hG).1; omega) (by simp [push]) ha
  refine ⟨q1, q2, ?_⟩
  exact
    { size := by simp [push]
      quiet := ⟨rfl, rfl⟩
      frame := fun c hc _ => push_old w ob hc
      gmono := fun _ h => h
      gnew := fun _ h => .inl h
      onew := fun c ho => by
        rcases q3 c ho with e | e
        · exact .inl e
        · right; omega
      keep := fun l k hk => by
        by_cases e : l = 0
        · subst e
          rw [h0] at hk; cases hk
          exact ⟨.am (mup m w.heap.size x), by rw [List.getElem?_set_self (get_lt h0)], trivial⟩
        · exact ⟨k, by rw [List.getElem?_set_ne (fun q => e q.symm)]; exact hk, Kept.frame rfl fun c hc => push_old w ob (owned_lt r ⟨l, k, hk, hc⟩)⟩ }
theorem HR.adopt {k : Blk} (r : HR G ι h w) (hno : ¬ owned ι h b) (hG : ¬ G b) (hk0 : k.live = true) (hb : BR G w (ι ++ [(b, 0)]) (h ++ [k]) h.length k) : HR G (ι ++ [(b, 0)]) (h ++ [k]) w := by
  have new : ∀ {l : Nat} {k1 : Blk} {c : Nat}, l = h.length → k1 = k → own1 (ι ++ [(b, 0)]) l k1 c → c = b := by
    intro l k1 c e1 e2 hc
    subst e2
    rcases own1_cases hc with ⟨_, o, h5⟩ | ⟨m, x, rfl, _⟩
    · rw [e1, ← r.len] at h5; simp at h5; exact h5.1.symm
    · cases hk0
  have old : ∀ {l : Nat} {k1 : Blk} {c : Nat}, h[l]? = some k1 → own1 (ι ++ [(b, 0)]) l k1 c → own1 ι l k1 c := fun hl hc => own1_snoc (by rw [r.len]; exact get_lt hl) hc
  have hkeep : ∀ l k1, h[l]? = some k1 → ∃ k', (h ++ [k])[l]? = some k' ∧ Kept ι (ι ++ [(b, 0)]) w w l k1 k' := fun l k1 hk =>
    ⟨k1, get_snoc_old hk, Kept.frame (List.getElem?_append_left (by rw [r.len]; exact get_lt hk)) fun _ _ => rfl⟩
  exact
    { len := by simp [r.len]
      own := by
        intro l l' c k1 k2 b1 b2 c1 c2
        rcases get_snoc b1 with d1 | ⟨d1, d1'⟩ <;> rcases get_snoc b2 with d2 | ⟨d2, d2'⟩
        · exact r.own l l' c k1 k2 d1 d2 (old d1 c1) (old d2 c2)
        · have := new d2 d2' c2; subst this; exact absurd ⟨l, k1, d1, old d1 c1⟩ hno
        · have := new d1 d1' c1; subst this; exact absurd ⟨l', k2, d2, old d2 c2⟩ hno
        · omega
      g := fun c hc => ⟨(r.g c hc).1, fun ⟨l, k1, h1, h2⟩ => by
        rcases get_snoc h1 with d | ⟨d, d'⟩
        · exact (r.g c hc).2 ⟨l, k1, d, old d h2⟩
        · have := new d d' h2; subst this; exact hG hc⟩
      blk := fun l k1 hk => by
        rcases get_snoc hk with d | ⟨d, d'⟩
        · exact BR.carry (fun c hc => ⟨hc, rfl⟩) hkeep (r.blk l k1 d) (List.getElem?_append_left (by rw [r.len]; exact get_lt d)) fun _ _ => rfl
        · subst d d'; exact hb }
theorem arflat_get {sz : Nat} : ∀ {es : List (List D)} {i : Nat} {x : D}, (∀ e ∈ es, e.length = sz) → es.flatten[i]? = some x → ∃ (p j : Nat) (e : List D), es[p]? = some e ∧ e[j]? = some x ∧ i = p * sz + j := by
 intro es
 induction es with
 | nil => intro i x _ h; simp at h
 | cons e r ih =>
  intro i x hs h
  rw [List.flatten_cons] at h
  rcases Nat.lt_or_ge i e.length with hi | hi
  ·rw [List.getElem?_append_left hi] at h
   exact ⟨0, i, e, rfl, h, by omega⟩
  ·rw [List.getElem?_append_right hi] at h
   obtain ⟨p, j, e', h1, h2, h3⟩ := ih (fun e he => hs e (List.mem_cons_of_mem _ he)) h
   have := hs e (List.mem_cons_self ..)
   refine ⟨p + 1, j, e', h1, h2, ?_⟩
   rw [Nat.add_mul, Nat.one_mul]; omega
theorem arget_flat {sz : Nat} : ∀ {es : List (List D)} {p j : Nat} {e : List D} {x : D}, (∀ e ∈ es, e.length = sz) → es[p]? = some e → e[j]? = some x → es.flatten[p * sz + j]? = some x := by
 intro es
 induction es with
 | nil => intro p j e x _ h; simp at h
 | cons e0 r ih =>
  intro p j e x hs h hx
  rw [List.flatten_cons]
  have h0 := hs e0 (List.mem_cons_self ..)
  cases p with
  | zero =>
   simp at h; subst h
   rw [Nat.zero_mul, Nat.zero_add, List.getElem?_append_left (get_lt hx)]; exact hx
  | succ p =>
   simp at h
   rw [List.getElem?_append_right (by rw [Nat.add_mul, Nat.one_mul]; omega)]
   rw [show (p + 1) * sz + j - e0.length = p * sz + j by rw [Nat.add_mul, Nat.one_mul]; omega]
   exact ih (fun e he => hs e (List.mem_cons_of_mem _ he)) h hx
theorem arflat_len {sz : Nat} : ∀ {es : List (List D)}, (∀ e ∈ es, e.length = sz) → es.flatten.length = es.length * sz := by
 intro es
 induction es with
 | nil => intro _; simp
 | cons e r ih =>
  intro hs
  rw [List.flatten_cons, List.length_append, ih fun e he => hs e (List.mem_cons_of_mem _ he), hs e (List.mem_cons_self ..), List.length_cons, Nat.add_mul, Nat.one_mul]; omega
theorem ABR.of_laid {sz : Nat} {es : List (List D)} {c : Array Value} {t : TypeId} {fr : Nat × Nat} (hl : laid sz es G w c 0) (hw : w.heap[b]? = some (.cells c t fr)) (hfr : ∀ k, k < c.size → ¬ (fr.1 ≤ k ∧ k < fr.2)) (hle : es.length * sz ≤ c.size) : ABR G w b (.cs c.size es.flatten) := by
 have hs : ∀ e ∈ es, e.length = sz := fun e he => by
  obtain ⟨i, hi⟩ := List.mem_iff_getElem?.1 he
  exact hl.1 i e hi
 refine ⟨c, t, fr, hw, rfl, by rw [arflat_len hs]; exact hle, hfr, fun i x hx => ?_⟩
 obtain ⟨p, j, e, h1, h2, h3⟩ := arflat_get hs hx
 obtain ⟨v, hv, hd⟩ := hl.2 p e j x h1 h2
 rw [Nat.zero_add] at hv
 exact ⟨v, by rw [h3]; exact hv, hd⟩
theorem HR.borrow {sz N : Nat} {es : List (List D)} (r : HR G ι h w) (h0 : h[0]? = some (.am m)) (hx : m b = some (.cs N es.flatten)) (hs : ∀ e ∈ es, e.length = sz) (hmx : es.length ≤ 9223372036854775807) :
    HR G (ι ++ [(b, 0)]) (h.set 0 (.am (mdel m b)) ++ [.da true 0 sz es]) w ∧ Ext G ι h w G (ι ++ [(b, 0)]) (h.set 0 (.am (mdel m b)) ++ [.da true 0 sz es]) w ∧ N = bsize w b ∧ HR G ι (h.set 0 (.am (mdel m b))) w := by
  obtain ⟨r1, e1⟩ := HR.am_del r h0 b
  obtain ⟨c, t, fr, a1, a2, a3, a4, a5⟩ := r.blk 0 _ h0 b _ hx
  have hno : ¬ owned ι (h.set 0 (.am (mdel m b))) b := by
    intro ⟨l, k, h1, h2⟩
    rcases get_set h1 with ⟨q1, q2, _⟩ | ⟨q1, q2⟩
    · subst q1 q2
      obtain ⟨y, hy⟩ := h2
      rw [mdel_at] at hy; cases hy
    · exact q1 (r.own 0 l b _ k h0 q2 ⟨_, hx⟩ h2).symm
  have hG : ¬ G b := fun hg => (r.g b hg).2 (am_owned h0 hx)
  have hlen : (h.set 0 (.am (mdel m b))).length = h.length := by simp
  have r2 := HR.adopt (k := .da true 0 sz es) r1 hno hG rfl ⟨b, 0, c, t, fr, hmx, by rw [hlen, ← r.len]; simp, a1, by rw [arflat_len hs] at a3; omega, a4, fun i e he => hs e (List.mem_of_getElem? he), fun i e j x he hx' => by
    obtain ⟨v, hv, hd⟩ := a5 _ x (arget_flat hs he hx')
    exact ⟨v, by rw [Nat.zero_add]; exact hv, hd⟩⟩
  refine ⟨r2, ?_, by rw [← a2]; simp [bsize, a1], r1⟩
  exact
    { size := Nat.le_refl _
      quiet := ⟨rfl, rfl⟩
      frame := fun _ _ _ => rfl
      gmono := fun _ h => h
      gnew := fun _ h => .inl h
      onew := fun c ⟨l, k, h1, h2⟩ => by
        left
        rcases get_snoc h1 with d | ⟨d, rfl⟩
        · have h3 := own1_snoc (by rw [r.len, ← hlen]; exact get_lt d) h2
          rcases e1.onew c ⟨l, k, d, h3⟩ with q | q
          · exact q
          · have := owned_lt r1 ⟨l, k, d, h3⟩; omega
        · obtain ⟨_, o, h5⟩ := h2
          rw [d, hlen, ← r.len] at h5
          simp at h5
          rw [← h5.1]; exact am_owned h0 hx
      keep := fun l k hk => by
        obtain ⟨k', g1, g2⟩ := e1.keep l k hk
        refine ⟨k', get_snoc_old g1, ?_⟩
        have hi : (ι ++ [(b, 0)])[l]? = ι[l]? := List.getElem?_append_left (by rw [r.len]; exact get_lt hk)
        by_cases e : l = 0
        · subst e
          rw [h0] at hk; cases hk
          rw [List.getElem?_set_self (get_lt h0)] at g1
          cases g1; trivial
        · rw [List.getElem?_set_ne (fun q => e q.symm), hk] at g1
          cases g1
          exact Kept.frame hi fun _ _ => rfl }
theorem Kept.io {ι ι' ι2 : Io} {w w' : World} {l : Nat} {k k' : Blk} (hk : Kept ι ι' w w' l k k') (h : ι2[l]? = ι'[l]?) : Kept ι ι2 w w' l k k' := by
 cases k <;> cases k' <;> simp_all [Kept]
theorem HR.give {Gb : Nat → Prop} {ιb : Io} {hb : Hp} {wb : World} {hA : Hp} {v sz : Nat} {es : List (List D)} (r : HR G ι (hA ++ [.da true v sz es]) w) (hrefs : refsH hA.length hA = true) (h0 : hA[0]? = some (.am m))
    (hi : ι[hA.length]? = some (b, 0)) (e1 : Ext Gb ιb hb wb G ι (hA ++ [.da true v sz es]) w) (hl : hb.length ≤ hA.length) :
    m b = none ∧ HR G (ι.take hA.length) (hA.set 0 (.am (mup m b (.cs (bsize w b) es.flatten)))) w ∧ Ext Gb ιb hb wb G (ι.take hA.length) (hA.set 0 (.am (mup m b (.cs (bsize w b) es.flatten)))) w := by
  have hlast : (hA ++ [.da true v sz es])[hA.length]? = some (.da true v sz es) := by simp
  have hob : owned ι (hA ++ [.da true v sz es]) b := owned_of hi hlast rfl
  obtain ⟨b', o', c, t, fr, c0, c1, c2, c3, c4, c5, c6⟩ := r.blk _ _ hlast
  rw [hi] at c1; cases c1
  rw [Nat.zero_add] at c3
  have hbs : bsize w b = c.size := by simp [bsize, c2]
  have ha : ABR G w b (.cs (bsize w b) es.flatten) := by
    rw [hbs]; exact ABR.of_laid ⟨c5, c6⟩ c2 c4 c3
  have hι : ∀ l, l < hA.length → (ι.take hA.length)[l]? = ι[l]? := fun l hl => by rw [List.getElem?_take, if_pos hl]
  have hown : ∀ c, owned (ι.take hA.length) hA c → owned ι (hA ++ [.da true v sz es]) c ∧ c ≠ b := fun c ⟨l, k, h2, h3⟩ => by
    have h4 := own1_io h3 fun _ => (hι l (get_lt h2)).symm
    have h5 : (hA ++ [.da true v sz es])[l]? = some k := by rw [take_get (get_lt h2)]; exact h2
    refine ⟨⟨l, k, h5, h4⟩, fun e => ?_⟩
    subst e
    have := r.own l hA.length c k _ h5 hlast h4 (own1_of hi rfl)
    have := get_lt h2; omega
  obtain ⟨q1, q2, q3⟩ := HR.am_add (r.cut hrefs) h0 (fun ho => (hown b ho).2 rfl) (fun hG => (r.g b hG).2 hob) (owned_lt r hob) ha
  refine ⟨q1, q2, ?_⟩
  exact
    { size := e1.size
      quiet := e1.quiet
      frame := e1.frame
      gmono := e1.gmono
      gnew := e1.gnew
      onew := fun c ho => by
        rcases q3 c ho with e | e
        · exact e1.onew c (hown c e).1
        · subst e; exact e1.onew c hob
      keep := fun l k hk => by
        obtain ⟨k', g1, g2⟩ := e1.keep l k hk
        have hlA : l < hA.length := by have := get_lt hk; omega
        rw [take_get hlA] at g1
        by_cases e : l = 0
        · subst e
          rw [h0] at g1; cases g1
          refine ⟨_, by rw [List.getElem?_set_self hlA], ?_⟩
          cases k <;> simp_all [Kept]
        · exact ⟨k', by rw [List.getElem?_set_ne (fun q => e q.symm)]; exact g1, g2.io (hι l hlA)⟩ }
end
end Go.Ab

/-
  The engine: arenas, part c: each operation on values that lead into an arena does in the model what its condition says.
-/
namespace Go.Ab
section
variable {P : Program} {N : Nat} {G : Nat → Prop} {ι : Io} {L : Lv} {h : Hp} {a : Act} {w : World} {o : Oper} {K : AV → Hp → Prop}
theorem inv_adr {v : Value} {b o : Nat} (hv : VR G w ι h v (.c (.d (.adr b o)))) : v = .pointer (some ⟨b, o, none⟩) := by
 cases inv_d hv; rfl
theorem inv_sl {v : Value} {b o sz n cap : Nat} (hv : VR G w ι h v (.c (.d (.sl b o sz n cap)))) : v = .slice (some ⟨b, o, none⟩) n cap := by
 cases inv_d hv; rfl
theorem vr_adr (b o : Nat) : VR G w ι h (.pointer (some ⟨b, o, none⟩)) (.c (.d (.adr b o))) := .c _ _ (.d _ _ (.adr b o))
def Goes (P : Program) (G : Nat → Prop) (ι : Io) (h : Hp) (a : Act) (w : World) (o : Oper) (K : AV → Hp → Prop) : Prop :=
 ∃ av h', OpRes G ι h w av h' ((execOp a.eval o).run P w) ∧ K av h'
theorem bad_ar {Q : Prop} (hv : vAr .bad L h K) : Q := by simp [vAr] at hv
theorem a_nilc {x : Operand} (r : Rel N G ι (lkL L) h a w) (hop : o.op = .nilCheck x) (hv : vAr (compOp P o) L h K) : Goes P G ι h a w o K := by
 simp only [compOp, hop] at hv
 split at hv
 ·rename_i y hy
  have hvx := cx_sound hy r
  simp only [vAr, evN_eq] at hv
  split at hv
  ·rename_i b off hx
   rw [hx] at hvx
   have hp := inv_adr hvx
   exact ⟨_, _, OpRes.value r.hr (by simp [execOp, hop, hp]) (hp ▸ hvx), hv⟩
  ·exact hv.elim
 ·exact bad_ar hv
theorem a_fa {s : TypeId} {x : Operand} {f : Nat} (r : Rel N G ι (lkL L) h a w) (hop : o.op = .fieldAddr s x f) (hv : vAr (compOp P o) L h K) : Goes P G ι h a w o K := by
 simp only [compOp, hop] at hv
 split at hv
 ·rename_i x' fs hx hu
  have hvx := cx_sound hx r
  split at hv
  ·rename_i fl hf
   split at hv
   ·rename_i ti hti
    split at hv
    ·rename_i hz
     simp only [vAr, evN_eq] at hv
     split at hv
     ·rename_i b off hxv
      rw [hxv] at hvx
      refine ⟨_, _, OpRes.value r.hr (v := .pointer (some ⟨b, off + fl.offset, none⟩)) ?_ (vr_adr _ _), hv⟩
      simp [execOp, hop, inv_adr hvx, Instr.fieldAt, Instr.sureAddr, r_und hu, hf, fieldPlace, r_size hti, hz, add_none]
     ·exact hv.elim
    ·exact bad_ar hv
   ·exact bad_ar hv
  ·exact bad_ar hv
 ·exact bad_ar hv
theorem a_ia {t : TypeId} {x i : Operand} (r : Rel N G ι (lkL L) h a w) (hop : o.op = .indexAddr t x i) (hv : vAr (compOp P o) L h K) : Goes P G ι h a w o K := by
 simp only [compOp, hop] at hv
 split at hv
 ·rename_i x' i' el hx hi hu
  have hvx := cx_sound hx r
  have hvi := cx_sound hi r
  split at hv
  ·rename_i ti hti
   simp only [vAr, evN_eq] at hv
   split at hv
   ·rename_i k n b off sz' m cap h1 h2
    rw [h1] at hvi; rw [h2] at hvx
    split at hv
    ·rename_i hsz
     have hsz := Nat.eq_of_beq_eq_true hsz
     have h01 := hv.1 ()
     rw [nI_eq] at h01
     refine ⟨_, _, OpRes.value r.hr (v := .pointer (some ⟨b, off + n.toNat * ti.size, none⟩)) ?_ (vr_adr _ _), hv.2 _ rfl⟩
     have e1 := inv_sl hvx
     have e2 := inv_int hvi
     have h02 : n < m ∧ 0 ≤ n := ⟨h01.2, h01.1⟩
     simp [execOp, hop, e1, e2, Instr.indexAt, asIntOf, r_und hu, h01, r_size hti, add_none]
    ·exact hv.elim
   ·exact hv.elim
  ·exact bad_ar hv
 ·rename_i x' i' n el hx hi hu
  have hvx := cx_sound hx r
  have hvi := cx_sound hi r
  split at hv
  ·rename_i ti hti
   cases i' with
   | k v => simp [vAr] at hv
   | t it =>
    simp only [vAr, evN_eq, lkN_eq] at hv
    split at hv
    ·rename_i k m b off h1 h2
     have hvi : VR G w ι h (a.eval i) (lkL L it) := hvi
     rw [h1] at hvi; rw [h2] at hvx
     have h01 := hv.1 ()
     rw [nI_eq] at h01
     have hk := vAll_sound hv.2 h01.1 h01.2
     refine ⟨_, _, OpRes.value r.hr (v := .pointer (some ⟨b, off + m.toNat * ti.size, none⟩)) ?_ (vr_adr _ _), hk⟩
     simp [execOp, hop, inv_int hvi, inv_adr hvx, Instr.indexAt, asIntOf, r_und hu, Instr.sureAddr, h01, r_size hti, add_none]
    ·exact hv.elim
  ·exact bad_ar hv
 ·exact bad_ar hv
theorem am_head {m : Ar} {rest : Hp} (r : HR G ι (.am m :: rest) w) {b : Nat} {N : Nat} {xs : List D} (hx : m b = some (.cs N xs)) : ∃ (c : Array Value) (t : TypeId) (fr : Nat × Nat), w.heap[b]? = some (.cells c t fr) ∧ c.size = N ∧ xs.length ≤ N ∧
  (∀ k, k < c.size → ¬ (fr.1 ≤ k ∧ k < fr.2)) ∧ ∀ (i : Nat) (x : D), xs[i]? = some x → ∃ v, c[i]? = some v ∧ DR G w v x := r.blk 0 _ rfl b _ hx
theorem a_load {t : TypeId} {x : Operand} (r : Rel N G ι (lkL L) h a w) (hop : o.op = .load t x) (hv : vAr (compOp P o) L h K) : Goes P G ι h a w o K := by
 simp only [compOp, hop] at hv
 split at hv
 ·rename_i n y hn hy
  have hvx := cx_sound hy r
  simp only [vAr, evN_eq] at hv
  split at hv
  ·rename_i m rest b off hx
   rw [hx] at hvx
   have hp := inv_adr hvx
   split at hv
   ·obtain ⟨N', xs, c, h1, h2, h3⟩ := hv
    obtain ⟨cs, tt, fr, a1, a2, a3, a4, a5⟩ := am_head r.hr h1
    obtain ⟨v, g1, g2⟩ := a5 off c h2
    have hcell : w.cell? ⟨b, off, none⟩ = some v := by rw [cell_of a1]; exact g1
    exact ⟨_, _, OpRes.value r.hr (v := v) (by simp [execOp, hop, hp, Instr.loadAt, Instr.sureAddr, loadVar, ldk_none hn, hcell]) (.c _ _ (.d _ _ g2)), h3⟩
   ·rename_i n
    obtain ⟨N', xs, ds, h1, h2, h3, h4⟩ := hv
    obtain ⟨cs, tt, fr, a1, a2, a3, a4, a5⟩ := am_head r.hr h1
    have hc : ∀ (j : Nat) (x : CV), ((xs.drop off).map CV.d)[j]? = some x → ∃ y, w.cell? ⟨b, off + j, none⟩ = some y ∧ CR G w ι (.am m :: rest) y x := by
     intro j x hx
     simp only [List.getElem?_map, Option.map_eq_some_iff, List.getElem?_drop] at hx
     obtain ⟨d, hd, rfl⟩ := hx
     obtain ⟨v, g1, g2⟩ := a5 _ d hd
     exact ⟨v, by rw [cell_of a1]; exact g1, .d _ _ g2⟩
    have hle : n ≤ ((xs.drop off).map CV.d).length := by
     rw [List.length_map, ← h3, ← h2, List.length_take]; omega
    obtain ⟨vs, q1, q2, q3⟩ := loadCells_sound P hc hle
    obtain ⟨k1, k2⟩ := ldk_some (w := w) hn
    refine ⟨_, _, OpRes.value r.hr (v := .agg vs) (by simp [execOp, hop, hp, Instr.loadAt, Instr.sureAddr, loadVar, k1, k2, q1]) (.agg _ _ (by simp; omega) fun i v x hv hx => ?_), h4⟩
    rw [← h2, List.map_take, List.getElem?_take] at hx
    split at hx
    ·exact q3 i v x hv hx
    ·cases hx
  ·exact hv.elim
 ·exact bad_ar hv
theorem a_store {t : TypeId} {x y : Operand} (r : Rel N G ι (lkL L) h a w) (hop : o.op = .store t x y) (hv : vAr (compOp P o) L h K) : Goes P G ι h a w o K := by
 simp only [compOp, hop] at hv
 split at hv
 ·rename_i i x' y' hi hx hy
  have hvx := cx_sound hx r
  have hvy := cx_sound hy r
  simp only [vAr, evN_eq] at hv
  split at hv
  ·rename_i m rest b off cs hxv hcs
   rw [hxv] at hvx
   split at hv
   ·rename_i ds hds
    obtain ⟨hn, N', xs, h1, h2, h3⟩ := hv
    obtain ⟨c, tt, fr, a1, a2, a3, a4, a5⟩ := am_head r.hr h1
    obtain ⟨d1, d2⟩ := toDs_get hds
    obtain ⟨hsz, hrel⟩ := hvy.cells hcs (toDs_ok hds)
    have hvs : (a.eval y).cells.toList.length = ds.length := by rw [list_of_cells hsz, d1]
    have hone : ∀ v ∈ (a.eval y).cells.toList, v.oneCell' = true := by
     intro v hv
     obtain ⟨i, hi⟩ := List.mem_iff_getElem?.1 hv
     rw [Array.getElem?_toList] at hi
     have hi2 : i < cs.length := by have := (Array.getElem?_eq_some_iff.1 hi).1; omega
     have := hrel i v _ hi (List.getElem?_eq_getElem hi2)
     have hd := toD_sound this (d2 i _ (ds[i]'(by omega)) (List.getElem?_eq_getElem hi2) (List.getElem?_eq_getElem _))
     exact hd.one.1
    obtain ⟨w', c', q1, q2, q3, q4, q5, q6, q7⟩ := storeCells_run P b off tt fr (a.eval y).cells.toList w c 0 a1 a4 (by omega) hone
    have hg : ∀ bb, G bb → G bb ∧ w'.heap[bb]? = w.heap[bb]? := fun bb hbb => ⟨hbb, q6 bb fun e => (r.hr.g bb hbb).2 (e ▸ am_owned (h := .am m :: rest) rfl h1)⟩
    have hA : ABR G w' b (.cs N' (xs.take off ++ (ds ++ xs.drop (off + ds.length)))) := by
     refine ⟨c', tt, fr, q2, by omega, by rw [splice_len _ _ _ h2]; exact a3, by rw [q3]; exact a4, fun i x hx => ?_⟩
     rw [splice_get _ _ _ _ h2] at hx
     rw [q4]
     simp only [Nat.add_zero, hvs]
     split at hx
     ·rename_i hi
      rw [if_pos hi]
      have hi2 : i - off < cs.length := by omega
      have hi3 : i - off < (a.eval y).cells.size := by omega
      refine ⟨(a.eval y).cells[i - off], by rw [Array.getElem?_toList]; exact Array.getElem?_eq_getElem hi3, ?_⟩
      have hcr := hrel (i - off) _ _ (Array.getElem?_eq_getElem hi3) (List.getElem?_eq_getElem hi2)
      exact (toD_sound hcr (d2 _ _ x (List.getElem?_eq_getElem hi2) hx)).mono hg
     ·rename_i hi
      rw [if_neg hi]
      obtain ⟨v, g1, g2⟩ := a5 i x hx
      exact ⟨v, g1, g2.mono hg⟩
    obtain ⟨k1, k2⟩ := HR.am_set r.hr (h := .am m :: rest) rfl h1 q5 q6 hA q7
    refine ⟨_, _, ⟨undef, w', G, ι, .inr ⟨?_, rfl⟩, k1, .c _ _ (.u _), k2⟩, h3 _ rfl⟩
    have hsz2 : (a.eval y).cells.size = i.size := by omega
    simp [execOp, hop, inv_adr hvx, Instr.storeAt, Instr.sureAddr, storeVar, r_size hi, hsz2, q1]
   ·exact hv.elim
  ·exact hv.elim
 ·exact bad_ar hv
theorem a_boxv {v : Value} {x : X} (t : TypeId) (hr : HR G ι h w) (hvx : VR G w ι h v (evN L x)) (hv : vAr (.box x) L h K) :
  ∃ av h', OpRes G ι h w av h' ((do pure (.value (.pointer (some (← newVar t v)))) : Sem Next).run P w) ∧ K av h' := by
 simp only [vAr] at hv
 split at hv
 ·rename_i m rest cs hcs
  split at hv
  ·rename_i ds hds
   obtain ⟨d1, d2⟩ := toDs_get hds
   obtain ⟨hsz, hrel⟩ := hvx.cells hcs (toDs_ok hds)
   have hpush : ∀ bb, G bb → G bb ∧ (push w (.cells v.cells t)).heap[bb]? = w.heap[bb]? := fun bb hbb => ⟨hbb, push_old w _ (hr.g bb hbb).1⟩
   have hA : ABR G (push w (.cells v.cells t)) w.heap.size (.cs v.cells.size ds) := by
    refine ⟨v.cells, t, (0, 0), push_new w _, rfl, by omega, by simp, fun i x hx => ?_⟩
    have hi := get_lt hx
    refine ⟨v.cells[i]'(by omega), Array.getElem?_eq_getElem _, ?_⟩
    have hcr := hrel i _ _ (Array.getElem?_eq_getElem (by omega)) (List.getElem?_eq_getElem (l := cs) (i := i) (by omega))
    exact (toD_sound hcr (d2 _ _ x (List.getElem?_eq_getElem _) hx)).mono hpush
   obtain ⟨k0, k1, k2⟩ := HR.am_new hr (h := .am m :: rest) rfl (.cells v.cells t) hA
   exact ⟨_, _, ⟨_, _, G, ι, .inl (by simp [newVar, newRow]; rfl), k1, vr_adr _ _, k2⟩, hv _ _ _ k0 (by omega) rfl⟩
  ·exact hv.elim
 ·exact hv.elim
theorem a_alloc {el : TypeId} (r : Rel N G ι (lkL L) h a w) (hop : o.op = .alloc el) (hv : vAr (compOp P o) L h K) : Goes P G ι h a w o K := by
 simp only [compOp, hop] at hv
 split at hv
 ·rename_i i hi
  split at hv
  ·rename_i z hz
   split at hv
   ·rename_i v hv'
    obtain ⟨av, h', k1, k2⟩ := a_boxv (P := P) el r.hr (L := L) (x := .k v) (tcav_sound hv' G w ι h) hv
    refine ⟨av, h', ?_, k2⟩
    simp only [execOp, hop, Instr.alloc, Sem.run_bind, r_zero hi hz, Result.andThen_ok] at k1 ⊢
    exact k1
   ·exact bad_ar hv
  ·exact bad_ar hv
 ·exact bad_ar hv
theorem a_box {el : TypeId} {x : Operand} (r : Rel N G ι (lkL L) h a w) (hop : o.op = .box el x) (hv : vAr (compOp P o) L h K) : Goes P G ι h a w o K := by
 simp only [compOp, hop] at hv
 split at hv
 ·rename_i y hy
  obtain ⟨av, h', k1, k2⟩ := a_boxv (P := P) el r.hr (L := L) (x := y) (by rw [evN_eq]; exact cx_sound hy r) hv
  refine ⟨av, h', ?_, k2⟩
  simp only [execOp, hop, Instr.box, Sem.run_bind, newVar, newRow, run_newObj, Result.andThen_ok, Sem.run_pure] at k1 ⊢
  exact k1
 ·exact bad_ar hv
theorem mks_run {t el : TypeId} {k k' : IntKind} {ln cp : Int} {zd : List D} {ti : TypeInfo} {z : Value} (hu : P.underlying t = some (.slice el)) (hi : P.info? el = some ti) (g2 : ti.zero = some z)
  (h0 : 0 ≤ ln) (h1 : ln ≤ cp) (hb : cp.toNat * ti.bytes ≤ 140737488355328) (hc : cp ≤ 9223372036854775807) (_ : zds P el = some zd) :
  (Instr.makeSlice t (.int k ln) (.int k' cp)).run P w = .ok (.slice (some ⟨w.heap.size, 0, none⟩) ln.toNat cp.toNat) (push w (.cells ((Array.range (cp.toNat * ti.size)).map (z.cells[· % z.cells.size]!)) el)) := by
 have hwl : IntKind.i64.wrap ln = ln := wrap_id (by omega) (by omega)
 have hwc : IntKind.i64.wrap cp = cp := wrap_id (by omega) (by omega)
 have hbI : ¬ (2 : Int) ^ 48 < (ti.bytes : Int) * cp := by
  have : (ti.bytes : Int) * cp = ((cp.toNat * ti.bytes : Nat) : Int) := by
   rw [Int.natCast_mul, Int.toNat_of_nonneg (by omega), Int.mul_comm]
  rw [this]; omega
 have e1 : ¬ cp < 0 := by omega
 have e2 : ¬ ln < 0 := by omega
 have e3 : ¬ cp < ln := by omega
 simp only [Instr.makeSlice, Sem.run_bind, r_und hu, Result.andThen_ok, asInt, asIntOf, Sem.run_pure, r_info hi, hwl, hwc, Sem.run_ite, r_size hi, run_askRoom]
 simp only [gt_iff_lt, e1, hbI, e2, e3, decide_false, Bool.or_self, Bool.false_eq_true, if_false]
 by_cases hz0 : cp.toNat * ti.size = 0
 ·simp only [hz0, if_true, Result.andThen_ok, newRow, Sem.run_bind, run_newObj, Sem.run_pure]
  have : ∀ f : Nat → Value, Array.map f (Array.range 0) = #[] := fun f => by simp
  simp [push, this]
 ·simp only [hz0, if_false, r_zero hi g2, Result.andThen_ok, newRow, Sem.run_bind, run_newObj, Sem.run_pure]
  rfl
theorem a_mks {t : TypeId} {l c : Operand} (r : Rel N G ι (lkL L) h a w) (hop : o.op = .makeSlice t l c) (hv : vAr (compOp P o) L h K) : Goes P G ι h a w o K := by
 simp only [compOp, hop] at hv
 split at hv
 ·rename_i el l' c' hu hl hc
  have hvl := cx_sound hl r
  have hvc := cx_sound hc r
  split at hv
  ·rename_i z ti hz hti
   simp only [vAr, evN_eq] at hv
   split at hv
   ·rename_i m rest k n k' q h1 h2
    rw [h1] at hvl; rw [h2] at hvc
    obtain ⟨p1, p2, p3, p4⟩ := hv.1 ()
    subst p2
    obtain ⟨i, zv, g1, g2, g3, g4, g5⟩ := zds_sound hz
    rw [hti] at g1; cases g1
    have hrun := mks_run (P := P) (w := w) (k := k) (k' := k') hu hti g2 p1 (Int.le_refl _) p4 p3 hz
    have hlz := laid_zero (G := G) (w := w) n.toNat (n.toNat * ti.size) g4 g3 (g5 G w) (Nat.le_refl _)
    have hpush : ∀ bb, G bb → G bb ∧ (push w (.cells ((Array.range (n.toNat * ti.size)).map (zv.cells[· % zv.cells.size]!)) el)).heap[bb]? = w.heap[bb]? := fun bb hbb => ⟨hbb, push_old w _ (r.hr.g bb hbb).1⟩
    have hA := ABR.of_laid (laid_mono hlz hpush) (push_new w _) (fr := (0, 0)) (by simp) (by simp)
    obtain ⟨k0, k1, k2⟩ := HR.am_new r.hr (h := .am m :: rest) rfl _ hA
    refine ⟨_, _, ⟨_, _, G, ι, .inl ?_, k1, .c _ _ (.d _ _ (.slA _ _ _ _ _)), k2⟩, hv.2 _ _ _ _ _ k0 rfl (by simp) rfl rfl⟩
    simp only [execOp, hop, Sem.run_bind, inv_int hvl, inv_int hvc, hrun, Result.andThen_ok, Sem.run_pure]
   ·exact hv.elim
  ·exact bad_ar hv
 ·exact bad_ar hv
theorem a_isnil {op : BinOp} {xt yt : TypeId} {x y : Operand} (r : Rel N G ι (lkL L) h a w) (hop : o.op = .binOp op xt x y yt) (hv : vAr (compOp P o) L h K) : Goes P G ι h a w o K := by
 have key : ∀ kd x', cx P xt x = some x' → (op = .eql ∨ op = .neq) → ((kd = 0 ∧ lnil y = true ∧ ∃ el, P.underlying xt = some (.slice el)) ∨ (kd = 1 ∧ pnil y = true ∧ ∃ el, P.underlying xt = some (.pointer el))) →
   vAr (.isnil kd (op == .neq) x') L h K → Goes P G ι h a w o K := by
  intro kd x' hcx hopk hty hv
  have hvx := cx_sound hcx r
  simp only [vAr, evN_eq] at hv
  split at hv
  ·rename_i b off hx
   rw [hx] at hvx
   have := b_nil_at (P := P) r hop x' 1 false hcx hopk hty (fun h => by cases h) (fun _ => ⟨_, inv_adr hvx, rfl⟩)
   refine ⟨_, _, this, ?_⟩
   have e : (if (op == BinOp.neq) = true then !false else false) = (op == BinOp.neq) := by cases (op == BinOp.neq) <;> rfl
   rw [e]; exact hv
  ·rename_i b off sz n cap hx
   rw [hx] at hvx
   have := b_nil_at (P := P) r hop x' 0 false hcx hopk hty (fun _ => ⟨_, _, _, inv_sl hvx, rfl⟩) (fun h => by cases h)
   refine ⟨_, _, this, ?_⟩
   have e : (if (op == BinOp.neq) = true then !false else false) = (op == BinOp.neq) := by cases (op == BinOp.neq) <;> rfl
   rw [e]; exact hv
  ·exact hv.elim
 simp only [compOp, hop] at hv
 split at hv
 ·rename_i x' y' hx' hy'
  split at hv
  all_goals (repeat' split at hv) <;> first | exact bad_ar hv | (simp [vAr] at hv; done) | skip
  all_goals
   rename_i hu hl
   first
    | exact key 0 x' hx' (by simp) (.inl ⟨rfl, hl, _, hu⟩) hv
    | exact key 1 x' hx' (by simp) (.inr ⟨rfl, hl, _, hu⟩) hv
 ·exact bad_ar hv
theorem a_app {c : Call} {x y : Operand} {t u el el2 : TypeId} {x' y' : X} {z : List D} {ti : TypeInfo} (r : Rel N G ι (lkL L) h a w) (hop : o.op = .call c) (hc : c.callee = .builtin .append) (ha : c.args.toList = [x, y]) (ht : c.argTypes.toList = [t, u])
  (hx : cx P t x = some x') (hy : cx P u y = some y') (hu : P.underlying t = some (.slice el)) (hu2 : P.underlying u = some (.slice el2)) (hz : zds P el = some z) (hti : P.info? el = some ti) (hpos : 0 < ti.bytes)
  (hv : vAr (.app ti.size ti.bytes z x' y') L h K) : Goes P G ι h a w o K := by
 have hvx := cx_sound hx r
 have hvy := cx_sound hy r
 obtain ⟨i, zv, g1, g2, g3, g4, g5⟩ := zds_sound hz
 rw [hti] at g1; cases g1
 have hexec := exec_app (P := P) (a := a) (w := w) hop hc ha ht
 have T : AppTy P t u el el2 ti zv ti.size ti.bytes := ⟨hu, hu2, hti, rfl, rfl, hpos, g2, g4⟩
 simp only [vAr, evN_eq] at hv
 split at hv
 ·rename_i m rest sz' ys hys
  split at hv
  ·rename_i hsz
   have hsz := Nat.eq_of_beq_eq_true hsz
   subst hsz
   split at hv
   ·-- onto the nil slice
    rename_i sz2 l0 hxv
    rw [hxv] at hvx
    split at hv
    ·rename_i hsz2
     have hsz2 := Nat.eq_of_beq_eq_true hsz2
     subst hsz2
     obtain ⟨hv1, hv2⟩ := hv
     obtain ⟨hne, hroom⟩ := hv1 ()
     have hvx0 : a.eval x = .slice none 0 0 ∧ l0 = [] := by
      revert hvx
      generalize a.eval x = v
      intro hvx
      cases inv_d hvx; exact ⟨rfl, rfl⟩
     obtain ⟨ex, rfl⟩ := hvx0
     have hpos2 : 0 < ys.length := by cases ys with | nil => exact absurd rfl hne | cons => simp
     obtain ⟨w1, hw1⟩ : ∃ w1 : World, w1 = { w with drawn := w.drawn + 1 } := ⟨_, rfl⟩
     have hh : w1.heap = w.heap := by rw [hw1]
     have hr1 := r.hr.same_heap hh
     have hx1 := Ext.same_heap (G := G) (ι := ι) (h := .am m :: rest) hh
     have hxv1 : view (.am m :: rest) (.c (.d (.list true ti.size []))) = some (ti.size, []) := rfl
     obtain ⟨co, a1, a2, a3⟩ := view_laid (P := P) hr1 (hvx.ext hx1 r.hr) hxv1
     obtain ⟨cn, b1, b2, b3⟩ := view_laid (P := P) hr1 (hvy.ext hx1 r.hr) hys
     obtain ⟨ay, capy, hvy', _⟩ := view_len r.hr hvy hys
     have hlen : (Builtin.lenOf (a.eval y)).run P w = .ok ys.length w := by rw [hvy']; rfl
     obtain ⟨cap', c, k1, k2, k3, k4⟩ := append_grow_run (G := G) (P := P) (xs := []) (ys := ys) o.type T.hu T.hdy T.hpos T.hi T.hsz T.hby T.hz T.hzs ex rfl rfl hlen w1 hw1 a1 b1 a3 a2 b3 b2 (by omega) (by simpa using hroom)
     rw [List.nil_append] at k3
     have hpush : ∀ bb, G bb → G bb ∧ (push w1 (.cells c el)).heap[bb]? = w1.heap[bb]? := fun bb hbb => ⟨hbb, push_old w1 _ (hr1.g bb hbb).1⟩
     have hle : ys.length * ti.size ≤ c.size := Nat.le_trans (Nat.mul_le_mul_right _ (by omega)) k4
     have hA := ABR.of_laid (laid_mono k3 hpush) (push_new w1 _) (fr := (0, 0)) (by simp) hle
     obtain ⟨j0, j1, j2⟩ := HR.am_new hr1 (h := .am m :: rest) rfl _ hA
     refine ⟨_, _, ⟨_, _, G, ι, .inl (by rw [hexec, k1]; rfl), j1, .c _ _ (.d _ _ (.slA _ _ ti.size _ _)), hx1.trans j2⟩, ?_⟩
     exact hv2 _ _ _ _ _ j0 (by omega) (by omega) k4 rfl
    ·exact hv.elim
   ·-- onto a row of the arena
    rename_i b off sz2 n cap hxv
    rw [hxv] at hvx
    split at hv
    ·rename_i hsz2
     have hsz2 := Nat.eq_of_beq_eq_true hsz2
     subst hsz2
     obtain ⟨N', es, hm, rfl, rfl, hes, hcap, hN, hroom, hK⟩ := hv
     have hroom := hroom ()
     have hmx : es.length ≤ 9223372036854775807 := room_le hpos (Nat.le_trans (Nat.mul_le_mul_right _ (Nat.le_add_right es.length ys.length)) hroom.2)
     obtain ⟨r2, e2, hNb, r0⟩ := HR.borrow r.hr (h := .am m :: rest) rfl hm hes hmx
     simp only [List.set_cons_zero] at r2 e2 r0
     have hlast : (.am (mdel m b) :: rest ++ [Blk.da true 0 ti.size es])[rest.length + 1]? = some (.da true 0 ti.size es) := by simp
     have hix : (ι ++ [(b, 0)])[rest.length + 1]? = some (b, 0) := by
      have := r.hr.len; simp only [List.length_cons] at this
      rw [← this]; simp
     have hvxA : VR G w (ι ++ [(b, 0)]) (.am (mdel m b) :: rest ++ [Blk.da true 0 ti.size es]) (a.eval x) (.c (.arr (rest.length + 1) 0 0 es.length)) := by
      rw [inv_sl hvx]
      refine .c _ _ (.arr _ _ _ _ _ (.da true 0 ti.size es) hlast rfl (fun sz3 es3 he => ?_) fun _ _ he => by cases he)
      cases he
      refine ⟨b, 0, cap, hix, by omega, hcap, ?_, .inl (by simp)⟩
      rw [← hNb, Nat.zero_add, Nat.zero_add]; exact hN
     have hysA : view (.am (mdel m b) :: rest ++ [Blk.da true 0 ti.size es]) (ev (lkL L) y') = some (ti.size, ys) := by
      revert hys
      generalize ev (lkL L) y' = yv
      intro hys
      unfold view at hys ⊢
      split at hys
      ·exact hys
      ·exact hys
      ·rename_i l v i n
       cases l with
       | zero => simp at hys
       | succ l =>
        simp only [List.getElem?_cons_succ, List.cons_append] at hys ⊢
        split at hys
        ·rename_i rr v' s es' he
         rw [get_snoc_old he]
         exact hys
        ·cases hys
      ·cases hys
     obtain ⟨v', w', G', ι', k1, k2, k3, k4, k5⟩ := append_own0 (P := P) o.type T r2 hvxA hlast (hvy.ext e2 r.hr) hysA (by simpa using hroom.2)
     obtain ⟨b1, hb1⟩ := k5 b rfl hix
     have hset : List.set (.am (mdel m b) :: rest ++ [Blk.da true 0 ti.size es]) (rest.length + 1) (.da true (0 + 1) ti.size ((es.drop 0).take es.length ++ ys)) = (.am (mdel m b) :: rest) ++ [Blk.da true 1 ti.size (es ++ ys)] := by
      simp
     rw [hset] at k2 k3 k4
     have hrefs : refsH (Blk.am (mdel m b) :: rest).length (Blk.am (mdel m b) :: rest) = true := r0.refs
     obtain ⟨j0, j1, j2⟩ := HR.give (m := mdel m b) (hA := .am (mdel m b) :: rest) k2 hrefs rfl (by simpa using hb1) (e2.trans k4) (by simp)
     have hvv : ∃ cap', v' = .slice (some ⟨b1, 0, none⟩) (es.length + ys.length) cap' ∧ es.length + ys.length ≤ cap' ∧ cap' * ti.size ≤ bsize w' b1 := by
      cases k3 with
      | c _ _ hc =>
       cases hc with
       | arr _ _ _ _ _ blk hb ha hk hk0 =>
        have hl2 : (.am (mdel m b) :: rest ++ [Blk.da true 1 ti.size (es ++ ys)])[rest.length + 1]? = some (.da true 1 ti.size (es ++ ys)) := by simp
        rw [hl2] at hb; cases hb
        obtain ⟨b2, o2, cap2, q1, q2, q3, q4, q5⟩ := hk _ _ rfl
        rw [hb1] at q1; cases q1
        refine ⟨cap2, ?_, q3, by simpa using q4⟩
        rcases q5 with q5 | ⟨q5, _⟩
        ·simpa using q5
        ·have := hroom.1
         cases ys with
         | nil => exact absurd rfl this
         | cons => simp at q5
     obtain ⟨cap', rfl, f1, f2⟩ := hvv
     refine ⟨_, _, ⟨_, _, G', _, .inl (by rw [hexec, k1]; rfl), j1, .c _ _ (.d _ _ (.slA _ _ ti.size _ _)), j2⟩, ?_⟩
     exact hK _ _ _ _ _ j0 rfl f1 f2 rfl
    ·exact hv.elim
   ·exact hv.elim
  ·exact hv.elim
 ·exact hv.elim
theorem a_call {c : Call} (r : Rel N G ι (lkL L) h a w) (hop : o.op = .call c) (hv : vAr (compOp P o) L h K) : Goes P G ι h a w o K := by
 cases hc : c.callee with
 | invoke _ _ => simp only [compOp, hop, hc] at hv; exact bad_ar hv
 | value f =>
  simp only [compOp, hop, hc] at hv
  split at hv
  ·rename_i heq; cases heq
  all_goals (repeat' split at hv) <;> first | exact bad_ar hv | (simp [vAr] at hv; done)
 | builtin b =>
  simp only [compOp, hop, hc] at hv
  unfold compB at hv
  split at hv
  case h_1 =>
   rename_i x t ha ht
   split at hv
   ·rename_i x' hx
    split at hv
    ·simp [vAr] at hv
    ·rename_i el hu
     have hvx := cx_sound hx r
     simp only [vAr, evN_eq] at hv
     split at hv
     ·rename_i bb off sz n cap hxv
      rw [hxv] at hvx
      refine ⟨_, _, OpRes.value r.hr (v := .int .i64 n) ?_ (.c _ _ (.d _ _ (.int _ _))), hv _ (by rw [nI_eq])⟩
      rw [exec_len (P := P) (a := a) (w := w) hop hc ha ht, inv_sl hvx]
      simp [Builtin.len_, r_und hu, goInt]
     ·exact hv.elim
    ·simp [vAr] at hv
    ·exact bad_ar hv
   ·exact bad_ar hv
  case h_7 =>
   rename_i x y t u ha ht
   split at hv
   ·rename_i x' y' hx hy
    split at hv
    ·rename_i el el2 hu hu2
     split at hv
     ·rename_i z ti hz hti
      split at hv
      ·rename_i hpos
       exact a_app r hop hc ha ht hx hy hu hu2 hz hti hpos hv
      ·exact bad_ar hv
     ·exact bad_ar hv
    ·(repeat' split at hv) <;> first | exact bad_ar hv | (simp [vAr] at hv; done)
    ·exact bad_ar hv
   ·exact bad_ar hv
  all_goals (repeat' split at hv) <;> first | exact bad_ar hv | (simp [vAr] at hv; done)
theorem ar_sound (r : Rel N G ι (lkL L) h a w) (hv : vAr (compOp P o) L h K) : Goes P G ι h a w o K := by
 cases hop : o.op
 case nilCheck => exact a_nilc r hop hv
 case fieldAddr => exact a_fa r hop hv
 case indexAddr => exact a_ia r hop hv
 case load => exact a_load r hop hv
 case store => exact a_store r hop hv
 case alloc => exact a_alloc r hop hv
 case box => exact a_box r hop hv
 case makeSlice => exact a_mks r hop hv
 case binOp => exact a_isnil r hop hv
 case call => exact a_call r hop hv
 all_goals
  exfalso
  simp only [compOp, hop] at hv
  (repeat' split at hv) <;> first | contradiction | exact bad_ar hv | (simp [vAr] at hv; done)
end
end Go.Ab

/-
  The engine, part w: texts and functions.
-/
namespace Go.Ab
section
variable {P : Program} {N : Nat} {G0 : Nat → Prop} {ι0 : Io} {h0 : Hp} {w0 : World}
theorem KeepL_get {n : Nat} {L : Lv} : ∀ {L' : Lv}, KeepL n L L' → ∀ i, lkL L' i = .c .u ∨ (lkL L' i = lkL L i ∧ refsA n (lkL L i) = true) := by
 intro L'
 induction L' with
 | nil => intro _ i; exact .inl rfl
 | cons p r ih =>
  intro hk i
  obtain ⟨j, v⟩ := p
  obtain ⟨⟨h1, h2⟩, h3⟩ := hk
  simp only [lkL, upd]
  by_cases hj : j = i
  ·subst hj
   rw [if_pos rfl]
   rw [lkN_eq] at h1
   right; exact ⟨h1.symm, by rw [h1]; exact h2⟩
  ·rw [if_neg hj]; exact ih h3 i
theorem Wk.cut_fits {m : Nat} {L L' : Lv} {h h' : Hp} {a : Act} {w : World} (heap : ∃ t, h = h' ++ t) (least : m ≤ h'.length) (refs : refsH h'.length h' = true) (env : KeepL h'.length L L') (hm : h0.length ≤ m)
    (hf : Fits N G0 ι0 h0 w0 (lkL L) h a w) : Fits N G0 ι0 h0 w0 (lkL L') h' a w := by
  obtain ⟨t, rfl⟩ := heap
  obtain ⟨G, ι, st⟩ := hf
  have hlen := st.rel.hr.len
  simp only [List.length_append] at hlen
  have hle := least
  have hι : ∀ l, l < h'.length → (ι.take h'.length)[l]? = ι[l]? := fun l hl => by rw [List.getElem?_take, if_pos hl]
  have hown : ∀ b, owned (ι.take h'.length) h' b → owned ι (h' ++ t) b := fun b ⟨l, k, h2, h3⟩ =>
    ⟨l, k, by rw [take_get (get_lt h2)]; exact h2, own1_io h3 fun _ => (hι l (get_lt h2)).symm⟩
  have hr : HR G (ι.take h'.length) h' w :=
    { len := by simp; omega
      own := fun l l' b k k' b1 b2 c1 c2 => st.rel.hr.own l l' b k k' (by rw [take_get (get_lt b1)]; exact b1) (by rw [take_get (get_lt b2)]; exact b2)
        (own1_io c1 fun _ => (hι l (get_lt b1)).symm) (own1_io c2 fun _ => (hι l' (get_lt b2)).symm)
      g := fun b hb => ⟨(st.rel.hr.g b hb).1, fun ho => (st.rel.hr.g b hb).2 (hown b ho)⟩
      blk := fun l k hk => by
        have hl := get_lt hk
        have hb := st.rel.hr.blk l k (by rw [take_get hl]; exact hk)
        have hrb := refsH_get refs l k hk
        cases k with
        | dead => trivial
        | am m' => exact hb
        | bx cs =>
          obtain ⟨b, o, c, ty, fr, h1, h2, h3, h4, h5⟩ := hb
          refine ⟨b, o, c, ty, fr, by rw [hι l hl]; exact h1, h2, h3, h4, fun i x hx => ?_⟩
          obtain ⟨v, hv, hc⟩ := h5 i x hx
          exact ⟨v, hv, refsC_move hc (refsCs_get hrb i x hx)⟩
        | mp ver es =>
          obtain ⟨b, o, ces, clock, h1, h2⟩ := hb
          exact ⟨b, o, ces, clock, by rw [hι l hl]; exact h1, h2⟩
        | mi m' ver es =>
          have hm' : m' < h'.length := Nat.le_of_ble_eq_true hrb
          obtain ⟨b, o, mb, seen, clock, blk, h1, h2, h3, h4, h5⟩ := hb
          rw [take_get hm'] at h3
          refine ⟨b, o, mb, seen, clock, blk, by rw [hι l hl]; exact h1, h2, h3, h4, fun all ha => ?_⟩
          obtain ⟨o', ces, g1, g2⟩ := h5 all ha
          exact ⟨o', ces, by rw [hι m' hm']; exact g1, g2⟩
        | da rl v sz es =>
          cases rl with
          | false => exact hb
          | true =>
            obtain ⟨b, o, c, ty, fr, hmx, h1, h2, h3⟩ := hb
            exact ⟨b, o, c, ty, fr, hmx, by rw [hι l hl]; exact h1, h2, h3⟩ }
  refine ⟨G, ι.take h'.length, ⟨hr, st.rel.dfr, st.rel.size, fun i => ?_⟩, ?_⟩
  · rcases KeepL_get env i with h1 | ⟨h1, h2⟩
    · simp only [lk, h1]; exact .c _ _ (.u _)
    · simp only [lk, h1]; exact refsA_move (st.rel.env i) h2
  · exact
      { size := st.ext.size
        quiet := st.ext.quiet
        frame := st.ext.frame
        gmono := st.ext.gmono
        gnew := st.ext.gnew
        onew := fun b ho => st.ext.onew b (hown b ho)
        keep := fun l k hk => by
          obtain ⟨k', h1, h2⟩ := st.ext.keep l k hk
          have hl : l < h'.length := by have := get_lt hk; omega
          rw [take_get hl] at h1
          refine ⟨k', h1, ?_⟩
          cases k with
          | dead => cases k' <;> first | trivial | (simp [Kept] at h2)
          | am m' => cases k' <;> first | trivial | (simp [Kept] at h2)
          | bx cs =>
            cases k' with
            | dead => trivial
            | bx cs' => exact ⟨h2.1, by rw [hι l hl]; exact h2.2⟩
            | _ => simp [Kept] at h2
          | mp v es =>
            cases k' with
            | dead => trivial
            | mp v' es' => exact ⟨by rw [hι l hl]; exact h2.1, h2.2⟩
            | _ => simp [Kept] at h2
          | mi m' v es =>
            cases k' with
            | dead => trivial
            | mi m2 v' es' => exact ⟨h2.1, h2.2.1, by rw [hι l hl]; exact h2.2.2⟩
            | _ => simp [Kept] at h2
          | da rl v sz es =>
            cases k' with
            | dead => trivial
            | da rl' v' sz' es' =>
              rcases h2 with h2 | ⟨q1, q0, q2, q3, q4, q5⟩
              · exact .inl h2
              · exact .inr ⟨q1, q0, q2, q3, by rw [hι l hl]; exact q4, q5⟩
            | _ => simp [Kept] at h2 }
theorem nil_value {G : Nat → Prop} {w : World} {v : Value} {sz : Nat} (hd : DR G w v (.list true sz [])) : v = .slice none 0 0 := by
 cases hd; rfl
theorem FzH_get {l v sz : Nat} {es : List (List D)} : ∀ {h h' : Hp} {n : Nat}, FzH l v sz es n h h' → h.length = h'.length ∧
  ∀ (i : Nat) (b b' : Blk), h[i]? = some b → h'[i]? = some b' → (n + i = l ∧ b' = .dead) ∨ (n + i ≠ l ∧ FzB l v sz es b b') := by
 intro h
 induction h with
 | nil =>
  intro h' n hf
  cases h' with
  | nil => exact ⟨rfl, by simp⟩
  | cons => simp [FzH] at hf
 | cons b h ih =>
  intro h' n hf
  cases h' with
  | nil => simp [FzH] at hf
  | cons b' h' =>
   obtain ⟨h1, h2⟩ := hf
   obtain ⟨i1, i2⟩ := ih h2
   refine ⟨by simp [i1], fun i x y hx hy => ?_⟩
   cases i with
   | zero => simp at hx hy; subst hx hy; exact h1
   | succ i =>
    simp at hx hy
    rcases i2 i x y hx hy with ⟨q1, q2⟩ | ⟨q1, q2⟩
    ·exact .inl ⟨by omega, q2⟩
    ·exact .inr ⟨by omega, q2⟩
theorem FzCs_get {l v sz : Nat} {es : List (List D)} : ∀ {xs ys : List CV}, FzCs l v sz es xs ys → xs.length = ys.length ∧ ∀ (i : Nat) (x y : CV), xs[i]? = some x → ys[i]? = some y → FzC l v sz es x y := by
 intro xs
 induction xs with
 | nil =>
  intro ys hf
  cases ys with
  | nil => exact ⟨rfl, by simp⟩
  | cons => simp [FzCs] at hf
 | cons x xs ih =>
  intro ys hf
  cases ys with
  | nil => simp [FzCs] at hf
  | cons y ys =>
   obtain ⟨h1, h2⟩ := hf
   obtain ⟨i1, i2⟩ := ih h2
   refine ⟨by simp [i1], fun i a b ha hb => ?_⟩
   cases i with
   | zero => simp at ha hb; subst ha hb; exact h1
   | succ i => simp at ha hb; exact i2 i a b ha hb
theorem Wk.fz_fits {L L' : Lv} {h h' : Hp} {a : Act} {w : World} (l v sz : Nat) (rl : Bool) (es : List (List D)) (hl : h[l]? = some (.da rl v sz es)) (env : ∀ i, lkL L' i = .c .u ∨ FzA l v sz es (lkL L i) (lkL L' i)) (heap : FzH l v sz es 0 h h')
    (hf : Fits N G0 ι0 h0 w0 (lkL L) h a w) : Fits N G0 ι0 h0 w0 (lkL L') h' a w := by
  obtain ⟨G, ι, st⟩ := hf
  have hr := st.rel.hr
  obtain ⟨G1, q1, q2, qd⟩ : ∃ G1, HR G1 ι (h.set l .dead) w ∧ Ext G ι h w G1 ι (h.set l .dead) w ∧ ∀ (u : Value) (n : Nat), n = es.length → CR G w ι h u (.arr l v 0 n) → DR G1 w u (.list false sz es) := by
    cases rl with
    | false =>
      have hes : es = [] := hr.blk l _ hl
      subst hes
      refine ⟨G, HR.kill hr hl, Ext.kill hl, fun u n hn hc => ?_⟩
      cases hc with
      | arr _ _ _ _ _ blk hb _ _ hk0 => rw [hl] at hb; cases hb; obtain ⟨_, _, rfl⟩ := hk0 sz [] rfl; exact .nils false sz
    | true =>
      obtain ⟨b, o, c, ty, fr, hmx, g1, g2, g3⟩ := hr.blk l _ hl
      refine ⟨_, HR.freeze hr hl g1 rfl, Ext.freeze hl g1 rfl, fun u n hn hc => ?_⟩
      subst hn
      have hfz : frz h (.arr l v 0 es.length) = some (.list false sz es, h.set l .dead) := by simp [frz, hl]
      obtain ⟨G', k1, k2, k3⟩ := frz_sound hr hc hfz
      -- the frozen set of 'frz_sound' is the same one
      cases hc with
      | arr _ _ _ _ _ blk hb ha hk hk0 =>
        rw [hl] at hb; cases hb
        obtain ⟨b', o', cap, f1, f2, f3, f4, f5⟩ := hk sz es rfl
        rw [g1] at f1; cases f1
        obtain ⟨b2, o2, c2, t2, fr2, hmx2, p1, p2, p3, p4, p5, p6⟩ := hr.blk l _ hl
        rw [g1] at p1; cases p1
        have hext := Ext.freeze (G := G) (w := w) hl g1 rfl
        rcases f5 with rfl | ⟨hn0, hc0, o', rfl⟩
        · have := DR.sl (G := fun x => G x ∨ x = b) (w := w) b (o + 0 * sz) cap sz es (fun p q => (c2[o + p * sz + q]?).getD undef) (fun _ => .inr rfl) (by omega) hmx p5 ?_ ?_
          · exact this
          · intro p e q x he hq
            obtain ⟨y, hy, _⟩ := p6 _ e q x he hq
            rw [cell_of p2]
            have : o + 0 * sz + p * sz + q = o + p * sz + q := by omega
            rw [this, hy]; rfl
          · intro p e q x he hq
            obtain ⟨y, hy, hd⟩ := p6 _ e q x he hq
            simp only [hy, Option.getD_some]
            exact hd.ext hext hr
        · have : es = [] := List.eq_nil_of_length_eq_zero hn0
          subst this
          exact .emp _ _
  obtain ⟨hlen, hget⟩ := FzH_get heap
  have hk : ∀ k b, (h.set l .dead)[k]? = some b → ∃ b', h'[k]? = some b' ∧ Kept ι ι w w k b b' ∧ (∀ x, own1 ι k b' x ↔ own1 ι k b x) ∧ ((b = .dead ∧ b' = .dead) ∨ ∃ b0, h[k]? = some b0 ∧ b = b0 ∧ k ≠ l ∧ FzB l v sz es b0 b') := by
    intro k b hb
    have hkl : k < h'.length := by have := get_lt hb; simp at this; omega
    have hb' : h'[k]? = some h'[k] := List.getElem?_eq_getElem hkl
    refine ⟨h'[k], hb', ?_⟩
    rcases get_set hb with ⟨e1, e2, _⟩ | ⟨e1, e2⟩
    · subst e1 e2
      rcases hget k _ _ hl hb' with ⟨_, q⟩ | ⟨q, _⟩
      · rw [q]; exact ⟨trivial, fun _ => Iff.rfl, .inl ⟨rfl, rfl⟩⟩
      · omega
    · rcases hget k _ _ e2 hb' with ⟨q, _⟩ | ⟨q, q3⟩
      · omega
      · refine ⟨?_, ?_, .inr ⟨b, e2, rfl, e1, q3⟩⟩
        · generalize h'[k] = x at q3
          cases q3 with
          | same => exact Kept.refl ι w k b
          | bx xs ys hc => exact ⟨(FzCs_get hc).1.symm, rfl⟩
        · generalize h'[k] = x at q3
          cases q3 <;> exact fun _ => Iff.rfl
  have hk1 : ∀ k b, (h.set l .dead)[k]? = some b → ∃ b', h'[k]? = some b' ∧ Kept ι ι w w k b b' := fun k b hb => let ⟨b', x1, x2, _⟩ := hk k b hb; ⟨b', x1, x2⟩
  have hg1 : ∀ b, G1 b → G1 b ∧ w.heap[b]? = w.heap[b]? := fun b hb => ⟨hb, rfl⟩
  have hcv : ∀ (u : Value) (x y : CV), CR G w ι h u x → FzC l v sz es x y → CR G1 w ι h' u y := by
    intro u x y hc hz
    cases hz with
    | keep => exact (hc.ext q2 hr).mono hg1 hk1
    | arr n hn => exact .d _ _ (qd u n hn hc)
    | drop => exact .u _
  have hback : ∀ (k : Nat) (b' : Blk), h'[k]? = some b' → ∃ b : Blk, (List.set h l Blk.dead)[k]? = some b ∧ ∀ x, own1 ι k b' x ↔ own1 ι k b x := by
    intro k b' hb'
    have hkl : k < (List.set h l Blk.dead).length := by have := get_lt hb'; simp; omega
    have hb := List.getElem?_eq_getElem hkl
    obtain ⟨b2, x1, _, x3, _⟩ := hk k _ hb
    rw [hb'] at x1; cases x1
    exact ⟨_, hb, x3⟩
  have hown : ∀ b, owned ι h' b ↔ owned ι (h.set l .dead) b := by
    intro b
    constructor
    · rintro ⟨k, blk, x2, x3⟩
      obtain ⟨b1, y1, y2⟩ := hback k blk x2
      exact ⟨k, b1, y1, (y2 b).1 x3⟩
    · rintro ⟨k, blk, x2, x3⟩
      obtain ⟨b1, y1, _, y2, _⟩ := hk k blk x2
      exact ⟨k, b1, y1, (y2 b).2 x3⟩
  have hr' : HR G1 ι h' w :=
    { len := by rw [← hlen]; exact hr.len
      own := fun l1 l2 b k1 k2 c1 c2 d1 d2 => by
        obtain ⟨b1, x1, x2⟩ := hback l1 k1 c1
        obtain ⟨b2, y1, y2⟩ := hback l2 k2 c2
        exact q1.own l1 l2 b b1 b2 x1 y1 ((x2 b).1 d1) ((y2 b).1 d2)
      g := fun b hb => ⟨(q1.g b hb).1, fun ho => (q1.g b hb).2 ((hown b).1 ho)⟩
      blk := fun k b' hb' => by
        have hkl : k < (List.set h l Blk.dead).length := by have := get_lt hb'; simp; omega
        have hb := List.getElem?_eq_getElem hkl
        obtain ⟨b2, x1, _, _, x4⟩ := hk k _ hb
        rw [hb'] at x1; cases x1
        have hbr := q1.blk k _ hb
        rcases x4 with ⟨_, e2⟩ | ⟨b0, e1, e2, e3, e4⟩
        · subst e2; trivial
        · rw [e2] at hbr hb
          cases e4 with
          | bx xs ys hc =>
            obtain ⟨b, o, c, t, fr, h1, h2, h3, h4, h5⟩ := hr.blk k _ e1
            obtain ⟨z1, z2⟩ := FzCs_get hc
            refine ⟨b, o, c, t, fr, h1, h2, by omega, h4, fun i y hy => ?_⟩
            have hi := get_lt hy
            have hx : xs[i]? = some (xs[i]'(by omega)) := List.getElem?_eq_getElem (by omega)
            obtain ⟨u, hu, hcr⟩ := h5 i _ hx
            exact ⟨u, hu, hcv u _ y hcr (z2 i _ y hx hy)⟩
          | same =>
            cases b' with
            | dead => trivial
            | am m' => exact hbr
            | bx cs =>
              obtain ⟨b, o, c, t, fr, h1, h2, h3, h4, h5⟩ := hbr
              refine ⟨b, o, c, t, fr, h1, h2, h3, h4, fun i x hx => ?_⟩
              obtain ⟨u, hu, hcr⟩ := h5 i x hx
              exact ⟨u, hu, hcr.mono hg1 hk1⟩
            | mp ver es => exact hbr
            | mi m' ver es' =>
              obtain ⟨b, o, mb, seen, clock, blk, h1, h2, h3, h4, h5⟩ := hbr
              obtain ⟨b3, y1, y2, _, y4⟩ := hk m' blk h3
              refine ⟨b, o, mb, seen, clock, b3, h1, h2, y1, y2.allows h4, fun all ha => ?_⟩
              obtain ⟨v0, es0, z1, z2, z3⟩ := y2.mp ha
              subst z1
              rcases z3 with z3 | ⟨z3, z4, _⟩
              · simp only [Blk.allows, decide_eq_true_eq] at h4; omega
              · subst z3 z4; exact h5 _ rfl
            | da rl v2 sz2 es2 =>
              cases rl with
              | false => exact hbr
              | true => exact hbr }
  have hext : Ext G1 ι (h.set l .dead) w G1 ι h' w :=
    { size := Nat.le_refl _
      quiet := ⟨rfl, rfl⟩
      frame := fun _ _ _ => rfl
      gmono := fun _ h => h
      gnew := fun _ h => .inl h
      onew := fun b ho => .inl ((hown b).1 ho)
      keep := hk1 }
  refine ⟨G1, ι, ⟨hr', st.rel.dfr, st.rel.size, fun i => ?_⟩, (st.ext.trans q2).trans hext⟩
  rcases env i with h1 | h1
  · simp only [lk, h1]; exact .c _ _ (.u _)
  · have hvr := st.rel.env i
    simp only [lk] at hvr ⊢
    revert h1
    generalize lkL L' i = y
    intro h1
    generalize lkL L i = x at hvr h1
    generalize a.tmps.getD i undef = u at hvr ⊢
    cases h1 with
    | same => exact (hvr.ext q2 hr).mono hg1 hk1
    | c x y hz =>
      cases hvr with
      | c _ _ hc => exact .c _ _ (hcv _ _ _ hc hz)
    | agg xs ys hz =>
      obtain ⟨z1, z2⟩ := FzCs_get hz
      cases hvr with
      | agg cs _ hn hc =>
        refine .agg _ _ (by omega) fun j u y hu hy => ?_
        have hj := get_lt hy
        have hx : xs[j]? = some (xs[j]'(by omega)) := List.getElem?_eq_getElem (by omega)
        exact hcv u _ y (hc j u _ hu hx) (z2 j _ y hx hy)
theorem Wk.fits {m : Nat} {L L' : Lv} {h h' : Hp} {a : Act} {w : World} (hw : Wk m L h L' h') (hm : h0.length ≤ m) : Fits N G0 ι0 h0 w0 (lkL L) h a w → Fits N G0 ι0 h0 w0 (lkL L') h' a w := by
  induction hw with
  | trans _ _ ih1 ih2 => exact fun hf => ih2 (ih1 hf)
  | fz l v sz r es hl env heap => exact Wk.fz_fits l v sz r es hl env heap
  | cut heap least refs env => exact Wk.cut_fits heap least refs env hm
  | same hh env =>
    intro hf
    subst hh
    obtain ⟨G, ι, st⟩ := hf
    refine ⟨G, ι, ⟨st.rel.hr, st.rel.dfr, st.rel.size, fun i => ?_⟩, st.ext⟩
    rcases env i with h1 | h1
    · simp only [lk, h1]; exact .c _ _ (.u _)
    · simp only [lk, h1]; exact st.rel.env i
  | fg i =>
    intro ⟨G, ι, st⟩
    refine ⟨G, ι, ⟨st.rel.hr, st.rel.dfr, st.rel.size, fun k => ?_⟩, st.ext⟩
    simp only [lkL, lk, upd]
    split
    · rename_i e
      subst e
      have := st.rel.env i
      rw [lk, ← lkN_eq] at this
      exact this.fg
    · exact st.rel.env k
  | nilS i sz hi =>
    intro ⟨G, ι, st⟩
    obtain ⟨q1, q2, q3⟩ := new_nil (sz := sz) st.rel.hr
    refine ⟨G, _, ⟨q1, st.rel.dfr, st.rel.size, fun k => ?_⟩, st.ext.trans q3⟩
    simp only [lkL, lk, upd]
    split
    · rename_i e
      subst e
      have := st.rel.env i
      rw [lk, ← lkN_eq, hi] at this
      rw [nil_value (inv_d this)]
      exact q2
    · exact (st.rel.env k).ext q3 st.rel.hr
  | nilB l j sz cs hl hj =>
    rename_i L h
    intro ⟨G, ι, st⟩
    obtain ⟨q1, q2, q3⟩ := new_nil (sz := sz) st.rel.hr
    have hl' := get_snoc_old (a := Blk.da false 0 sz []) hl
    obtain ⟨b, o, c, ty, fr, h1, h2, h3, h4, h5⟩ := q1.blk l _ hl'
    have hkept : Kept (ι ++ [(0, 0)]) (ι ++ [(0, 0)]) w w l (.bx cs) (.bx (cs.set j (.arr h.length 0 0 0))) := ⟨by simp, rfl⟩
    have hext := Ext.set_own (G := G) q1 hl' h1 rfl rfl hkept rfl (fun _ _ => rfl)
    have hr := HR.set_own (G := G) q1 hl' h1 rfl rfl hkept rfl (fun _ _ => rfl) ⟨b, o, c, ty, fr, h1, h2, by simpa using h3, h4, fun i x hx => by
      rcases get_set hx with ⟨e1, e2, _⟩ | ⟨_, e1⟩
      · subst e1 e2
        obtain ⟨v, hv, hc⟩ := h5 i _ hj
        refine ⟨v, hv, ?_⟩
        have hd : DR G w v (.list true sz []) := by cases hc; assumption
        rw [nil_value hd]
        exact (inv_c q2).ext hext q1
      · obtain ⟨v, hv, hc⟩ := h5 i x e1
        exact ⟨v, hv, hc.ext hext q1⟩⟩
    exact ⟨G, _, ⟨hr, st.rel.dfr, st.rel.size, fun k => ((st.rel.env k).ext q3 st.rel.hr).ext hext q1⟩, (st.ext.trans q3).trans hext⟩
  | rst l v sz sz' r es hl =>
    rename_i L h
    intro ⟨G, ι, st⟩
    have hr := st.rel.hr
    have hkept : Kept ι ι w w l (.da r v sz es) (.da false (v + 1) sz' []) := .inl (by omega)
    have hown : ∀ l2 k b, (h.set l (.da false (v + 1) sz' []))[l2]? = some k → own1 ι l2 k b → h[l2]? = some k := by
      intro l2 k b h1 h2
      rcases get_set h1 with ⟨_, e2, _⟩ | ⟨_, e1⟩
      · subst e2; cases h2.1
      · exact e1
    have how : ∀ b, owned ι (h.set l (.da false (v + 1) sz' [])) b → owned ι h b := fun b ⟨l2, k, h1, h2⟩ => ⟨l2, k, hown l2 k b h1 h2, h2⟩
    have hext : Ext G ι h w G ι (h.set l (.da false (v + 1) sz' [])) w :=
      { size := Nat.le_refl _
        quiet := ⟨rfl, rfl⟩
        frame := fun _ _ _ => rfl
        gmono := fun _ h => h
        gnew := fun _ h => .inl h
        onew := fun b ho => .inl (how b ho)
        keep := fun l2 k hk => by
          by_cases e : l2 = l
          · subst e
            rw [hl] at hk; cases hk
            exact ⟨_, List.getElem?_set_self (get_lt hl), hkept⟩
          · exact ⟨k, by rw [List.getElem?_set_ne (fun e2 => e e2.symm)]; exact hk, Kept.refl ι w l2 k⟩ }
    have hr' : HR G ι (h.set l (.da false (v + 1) sz' [])) w :=
      { len := by simp [hr.len]
        own := fun l1 l2 b k1 k2 b1 b2 c1 c2 => hr.own l1 l2 b k1 k2 (hown l1 k1 b b1 c1) (hown l2 k2 b b2 c2) c1 c2
        g := fun b hb => ⟨(hr.g b hb).1, fun ho => (hr.g b hb).2 (how b ho)⟩
        blk := fun l2 k hk => by
          rcases get_set hk with ⟨_, e2, _⟩ | ⟨_, e1⟩
          · subst e2; rfl
          · exact BR.ext hext hr e1 rfl fun _ _ => rfl }
    exact ⟨G, ι, ⟨hr', st.rel.dfr, st.rel.size, fun k => (st.rel.env k).ext hext hr⟩, st.ext.trans hext⟩
  | nilK l b j v sz sz' cs hl hb hj =>
    rename_i L h
    intro ⟨G, ι, st⟩
    have hr := st.rel.hr
    obtain ⟨b0, o, c, ty, fr, h1, h2, h3, h4, h5⟩ := hr.blk b _ hb
    have hkept : Kept ι ι w w b (.bx cs) (.bx (cs.set j (.arr l v 0 0))) := ⟨by simp, rfl⟩
    have hext := Ext.set_own (G := G) hr hb h1 rfl rfl hkept rfl (fun _ _ => rfl)
    have hnil : CR G w ι h (.slice none 0 0) (.arr l v 0 0) := .arr _ l v 0 0 _ hl (by simp [Blk.allows]) (fun sz es he => by cases he) fun sz es he => ⟨rfl, rfl, rfl⟩
    have hr' := HR.set_own (G := G) hr hb h1 rfl rfl hkept rfl (fun _ _ => rfl) ⟨b0, o, c, ty, fr, h1, h2, by simpa using h3, h4, fun i x hx => by
      rcases get_set hx with ⟨e1, e2, _⟩ | ⟨_, e1⟩
      · subst e1 e2
        obtain ⟨u, hu, hc⟩ := h5 i _ hj
        refine ⟨u, hu, ?_⟩
        have hd : DR G w u (.list true sz' []) := by cases hc; assumption
        rw [nil_value hd]
        exact hnil.ext hext hr
      · obtain ⟨u, hu, hc⟩ := h5 i x e1
        exact ⟨u, hu, hc.ext hext hr⟩⟩
    exact ⟨G, ι, ⟨hr', st.rel.dfr, st.rel.size, fun k => (st.rel.env k).ext hext hr⟩, st.ext.trans hext⟩
def bVals (b : Bool) (xs ys : Array Value) : Array Value := match b with
 | false => xs ++ ys
 | true => ys ++ xs
def bLs (b : Bool) (xs ys : List Value) : List Value := match b with
 | false => xs ++ ys
 | true => ys ++ xs
theorem callv_exec {o : Oper} {x : X} {xs : List X} {a : Act} {w : World} {f : Nat} {b : Bool} {vs : Array Value} (hc : compOp P o = .callv x xs) (hx : ∀ op, cx P 0 op = some x → a.eval op = fnV b f vs) (hf : FnOk P f) :
  ∃ c : Call, (execOp a.eval o).run P w = .ok (.enter f (bVals b (c.args.map a.eval) vs)) w ∧ cxs P c.argTypes.toList c.args.toList = some xs := by
 cases hoo : o.op
 case call c =>
  simp only [compOp, hoo] at hc
  split at hc
  ·exact absurd hc compB_callv
  ·split at hc
   ·split at hc <;> cases hc
   ·cases hc
  ·rename_i t hcal
   split at hc
   ·rename_i l hl
    cases hc
    have hev := hx (.tmp t) rfl
    obtain ⟨fn, h1, h2, h3⟩ := hf.ok
    refine ⟨c, ?_, hl⟩
    cases b
    ·simp only [fnV] at hev
     simp only [execOp, hoo, resolve, hcal, hev, Deferred.ofValue, Sem.run_bind, Sem.run_pure, Result.andThen_ok, invoke, Array.empty_append]
     exact callFunc_run h1 h2 h3
    ·simp only [fnV] at hev
     simp only [execOp, hoo, resolve, hcal, hev, Deferred.ofValue, Sem.run_bind, Sem.run_pure, Result.andThen_ok, invoke, Array.append_empty]
     exact callFunc_run h1 h2 h3
   ·cases hc
  ·cases hc
 case makeMap t rs => exfalso; cases rs <;> (simp only [compOp, hoo] at hc; cases hc)
 case makeFunc fn first caps =>
  exfalso
  cases fn
  case func g =>
   simp only [compOp, hoo] at hc
   revert hc
   (repeat' split) <;> intro hc <;> cases hc
  all_goals (simp only [compOp, hoo] at hc; cases hc)
 all_goals
  exfalso
  simp only [compOp, hoo] at hc
  revert hc
  (repeat' split) <;> intro hc <;> cases hc
theorem callv_slot {o : Oper} {x : X} {xs : List X} (hc : compOp P o = .callv x xs) : ∃ t, x = .t t := by
 cases hoo : o.op
 case call c =>
  simp only [compOp, hoo] at hc
  split at hc
  ·exact absurd hc compB_callv
  ·split at hc
   ·split at hc <;> cases hc
   ·cases hc
  ·split at hc
   ·cases hc; exact ⟨_, rfl⟩
   ·cases hc
  ·cases hc
 case makeMap t rs => exfalso; cases rs <;> (simp only [compOp, hoo] at hc; cases hc)
 case makeFunc fn first caps =>
  exfalso
  cases fn
  case func g =>
   simp only [compOp, hoo] at hc
   revert hc
   (repeat' split) <;> intro hc <;> cases hc
  all_goals (simp only [compOp, hoo] at hc; cases hc)
 all_goals
  exfalso
  simp only [compOp, hoo] at hc
  revert hc
  (repeat' split) <;> intro hc <;> cases hc
theorem isnil_exec {o : Oper} {ne : Bool} {x : X} {G : Nat → Prop} {ι : Io} {e : Env} {h : Hp} {a : Act} {w : World} {nl : Bool} {sz : Nat} {l : List (List D)} (hc : compOp P o = .isnil 0 ne x) (r : Rel N G ι e h a w)
  (hx : ev e x = .c (.d (.list nl sz l))) : ∃ b : Bool, (b = true → l = []) ∧ OpRes G ι h w (.c (.d (.bool (if ne then !b else b)))) h ((execOp a.eval o).run P w) := by
 have key : ∀ op xt (x0 y0 : Operand) yt x', o.op = .binOp op xt x0 y0 yt → cx P xt x0 = some x' → (op = .eql ∨ op = .neq) → lnil y0 = true → (∃ el, P.underlying xt = some (.slice el)) → x' = x → (op == .neq) = ne →
   ∃ b : Bool, (b = true → l = []) ∧ OpRes G ι h w (.c (.d (.bool (if ne then !b else b)))) h ((execOp a.eval o).run P w) := by
  intro op xt x0 y0 yt x' hop hcx hopk hl hu he hne
  subst he hne
  have r1 := cx_sound hcx r
  rw [hx] at r1
  obtain ⟨ad, n, c, e1, e2⟩ := nil_either r1
  exact ⟨ad.isNone, e2, b_nil_at r hop x' 0 ad.isNone hcx hopk (.inl ⟨rfl, hl, hu⟩) (fun _ => ⟨ad, n, c, e1, rfl⟩) (fun h => by cases h)⟩
 cases hoo : o.op
 case binOp op xt x0 y0 yt =>
  simp only [compOp, hoo] at hc
  split at hc
  ·rename_i x' y' hx' hy'
   split at hc
   all_goals
    (repeat' split at hc) <;> first | (cases hc; done) | skip
    all_goals
     simp only [AOp.isnil.injEq] at hc
     obtain ⟨hk, hne, hxx⟩ := hc
     first | (cases hk; done) | skip
     rename_i hu hl
     exact key _ _ _ _ _ _ hoo hx' (by simp) hl ⟨_, hu⟩ hxx hne
  ·cases hc
 case call c =>
  exfalso
  simp only [compOp, hoo] at hc
  split at hc
  ·exact absurd hc compB_isnil
  ·split at hc
   ·split at hc <;> cases hc
   ·cases hc
  ·split at hc <;> cases hc
  ·cases hc
 case makeMap t rs => exfalso; cases rs <;> (simp only [compOp, hoo] at hc; cases hc)
 case makeFunc fn first caps =>
  exfalso
  cases fn
  case func g =>
   simp only [compOp, hoo] at hc
   revert hc
   (repeat' split) <;> intro hc <;> cases hc
  all_goals (simp only [compOp, hoo] at hc; cases hc)
 all_goals
  exfalso
  simp only [compOp, hoo] at hc
  revert hc
  (repeat' split) <;> intro hc <;> cases hc
theorem len_slot {o : Oper} {x : X} {G : Nat → Prop} {ι : Io} {e : Env} {h : Hp} {a : Act} {w : World} (hc : compOp P o = .len x) (r : Rel N G ι e h a w) : ∃ v, VR G w ι h v (ev e x) := by
 have key : ∀ t y, cx P t y = some x → ∃ v, VR G w ι h v (ev e x) := fun t y hy => ⟨_, cx_sound hy r⟩
 cases hoo : o.op
 case call c =>
  simp only [compOp, hoo] at hc
  split at hc
  ·unfold compB at hc
   (repeat' split at hc) <;> first | (cases hc; done) | skip
   cases hc
   exact key _ _ (by assumption)
  ·split at hc
   ·split at hc <;> cases hc
   ·cases hc
  ·split at hc <;> cases hc
  ·cases hc
 case makeMap t rs => exfalso; cases rs <;> (simp only [compOp, hoo] at hc; cases hc)
 case makeFunc fn first caps =>
  exfalso
  cases fn
  case func g =>
   simp only [compOp, hoo] at hc
   revert hc
   (repeat' split) <;> intro hc <;> cases hc
  all_goals (simp only [compOp, hoo] at hc; cases hc)
 all_goals
  exfalso
  simp only [compOp, hoo] at hc
  revert hc
  (repeat' split) <;> intro hc <;> cases hc
theorem len_bound {o : Oper} {x : X} {G : Nat → Prop} {ι : Io} {e : Env} {h : Hp} {a : Act} {w : World} {sz : Nat} {l : List (List D)} (hc : compOp P o = .len x) (r : Rel N G ι e h a w)
  (hx : view h (ev e x) = some (sz, l)) : l.length ≤ 9223372036854775807 := by
 have key : ∀ t y, cx P t y = some x → l.length ≤ 9223372036854775807 := fun t y hy => by
  obtain ⟨_, _, _, _, hm⟩ := view_len r.hr (cx_sound hy r) hx
  exact hm
 cases hoo : o.op
 case call c =>
  simp only [compOp, hoo] at hc
  split at hc
  ·unfold compB at hc
   (repeat' split at hc) <;> first | (cases hc; done) | skip
   cases hc
   exact key _ _ (by assumption)
  ·split at hc
   ·split at hc <;> cases hc
   ·cases hc
  ·split at hc <;> cases hc
  ·cases hc
 case makeMap t rs => exfalso; cases rs <;> (simp only [compOp, hoo] at hc; cases hc)
 case makeFunc fn first caps =>
  exfalso
  cases fn
  case func g =>
   simp only [compOp, hoo] at hc
   revert hc
   (repeat' split) <;> intro hc <;> cases hc
  all_goals (simp only [compOp, hoo] at hc; cases hc)
 all_goals
  exfalso
  simp only [compOp, hoo] at hc
  revert hc
  (repeat' split) <;> intro hc <;> cases hc
theorem fn_enter {o : Oper} {f : Nat} {vs : List Value} {args : List AV} {h : Hp} {K : AV → Hp → Prop} {G : Nat → Prop} {ι : Io} {e : Env} {a : Act} {w : World} {K' : Act → World → Prop} {Q : Exit → Act → World → Prop}
  (st : St N G0 ι0 h0 w0 G ι e h a w) (hd : ∀ d, o.dst = some d → d < N) (hf : FnS P f args h K) (hv : VRs G w ι h vs args) (hrun : (execOp a.eval o).run P w = .ok (.enter f vs.toArray) w)
  (hK : ∀ v h' a' w', K v h' → Fits N G0 ι0 h0 w0 (putE e o.dst v) h' a' w' → K' a' w') : o.wp P a w K' Q := by
 unfold Oper.wp
 rw [hrun, Oper.upon_enter]
 refine (hf.out G ι w vs st.rel.hr hv).mono fun en w' ⟨v, r, G', ι', h', k0, k1, k2, k3, k4⟩ => ?_
 subst k0
 exact hK r h' _ _ k1 ⟨G', ι', st.step hd k2 k3 k4⟩
theorem callS_sound {o : Oper} {c : Call} {f : Nat} {xs : List X} {m : Nat} (hm : h0.length ≤ m) (hoo : o.op = .call c) (ho : compOp P o = .call f xs) (hdN : ∀ d, o.dst = some d → d < N) {d : Bool} {L : Lv} {h : Hp} {K : Lv → AV → Hp → Prop}
  (hc : CallS P m d L h f xs K) : ∀ {a : Act} {w : World} {K' : Act → World → Prop} {Q : Exit → Act → World → Prop}, Fits N G0 ι0 h0 w0 (lkL L) h a w →
  (∀ L v h' a' w', K L v h' → Fits N G0 ι0 h0 w0 (putE (lkL L) o.dst v) h' a' w' → K' a' w') → o.wp P a w K' Q := by
 induction hc with
 | pure hp k =>
  intro a w K' Q hf hK
  obtain ⟨G, ι, st⟩ := hf
  obtain ⟨q1, q2⟩ := call_exec (a := a) (w := w) hoo ho
  have hargs : c.args.map a.eval = (c.args.toList.map a.eval).toArray := by apply Array.ext'; simp
  rw [hargs] at q1
  rw [evsN_eq] at hp
  exact fn_enter st hdN hp.fn (args_sound st.rel q2) q1 (fun v h' a' w' hk hf => by obtain ⟨rfl, rfl⟩ := hk; exact hK _ _ _ _ _ k hf)
 | ro _ hp k =>
  intro a w K' Q hf hK
  obtain ⟨G, ι, st⟩ := hf
  obtain ⟨q1, q2⟩ := call_exec (a := a) (w := w) hoo ho
  have hargs : c.args.map a.eval = (c.args.toList.map a.eval).toArray := by apply Array.ext'; simp
  rw [hargs] at q1
  rw [evsN_eq] at hp
  exact fn_enter st hdN hp.fn (args_sound st.rel q2) q1 (fun v h' a' w' hk hf => by obtain ⟨rfl, rfl⟩ := hk; exact hK _ _ _ _ _ k hf)
 | fn hfn =>
  intro a w K' Q hf hK
  obtain ⟨G, ι, st⟩ := hf
  obtain ⟨q1, q2⟩ := call_exec (a := a) (w := w) hoo ho
  have hargs : c.args.map a.eval = (c.args.toList.map a.eval).toArray := by apply Array.ext'; simp
  rw [hargs] at q1
  rw [evsN_eq] at hfn
  exact fn_enter st hdN hfn (args_sound st.rel q2) q1 fun v h' a' w' hk hf => hK _ _ _ _ _ hk hf
 | wk hw _ ih =>
  intro a w K' Q hf hK
  exact ih ho (hw.fits hm hf) hK
theorem did_sound {ops : Array Oper} {o : Oper} {ao : AO} {m : Nat} (hm : h0.length ≤ m) {L : Lv} {h : Hp} {a : Act} {w : World} {K : Lv → AV → Hp → Prop} {K' : Act → World → Prop} {Q : Exit → Act → World → Prop}
  (hc : compO P ops N o = some ao) (hs : Did P m false ao.op L h K) (hf : Fits N G0 ι0 h0 w0 (lkL L) h a w)
  (hK : ∀ L v h' a' w', K L v h' → Fits N G0 ι0 h0 w0 (putE (lkL L) ao.dst v) h' a' w' → K' a' w') : o.wp P a w K' Q := by
 obtain ⟨hd, hdN, hop, hg⟩ := compO_dst hc
 rw [hd] at hK
 induction hs with
 | wk _ hw _ ih => exact ih (hw.fits hm hf) hK
 | @step L h K v h' hs _ hk =>
  have hf0 := hf
  obtain ⟨G, ι, st⟩ := hf
  rw [hop] at hs
  obtain ⟨v', w', G', ι', hrun, k1, k2, k3⟩ := op_sound st.rel hs
  unfold Oper.wp
  rcases hrun with hrun | ⟨hrun, rfl⟩
  ·rw [hrun]; exact hK _ _ _ _ _ hk ⟨G', ι', st.step hdN k1 k2 k3⟩
  ·rw [hrun]; exact hK _ _ _ _ _ hk ⟨G', ι', st.step hdN k1 k2 k3⟩
 | @call L h K f xs ho hc' =>
  have hf0 := hf
  obtain ⟨G, ι, st⟩ := hf
  rw [hop] at ho
  obtain ⟨c, hoo⟩ := compOp_call ho
  exact callS_sound hm hoo ho hdN hc' hf0 hK
 | @len L h K x sz l ho _ hx hk =>
  have hf0 := hf
  obtain ⟨G, ι, st⟩ := hf
  have hb := len_bound (by rw [← hop]; exact ho) st.rel hx
  have hs : astep (lkL L) h ao.op = some (.c (.d (.int .i64 l.length)), h) := by rw [ho]; simp only [astep, hx]
  rw [hop] at hs
  obtain ⟨v', w', G', ι', hrun, k1, k2, k3⟩ := op_sound st.rel hs
  unfold Oper.wp
  rcases hrun with hrun | ⟨hrun, rfl⟩
  ·rw [hrun]; exact hK _ _ _ _ _ (hk hb) ⟨G', ι', st.step hdN k1 k2 k3⟩
  ·rw [hrun]; exact hK _ _ _ _ _ (hk hb) ⟨G', ι', st.step hdN k1 k2 k3⟩
 | @lenA L h K x l v i n ho _ hx hsol hk =>
  have hf0 := hf
  obtain ⟨G, ι, st⟩ := hf
  obtain ⟨vv, hvv⟩ := len_slot (by rw [← hop]; exact ho) st.rel
  obtain ⟨sz, ls, hview, hlen⟩ : ∃ sz ls, view h (ev (lkL L) x) = some (sz, ls) ∧ ls.length = n := by
   rw [hx] at hvv ⊢
   cases inv_c hvv with
   | arr _ _ _ _ _ blk hb ha hk1 hk0 =>
    simp only [solid, hb] at hsol
    cases blk <;> simp at hsol
    rename_i rl v' sz es
    subst hsol
    refine ⟨sz, (es.drop i).take n, by simp [view, hb], ?_⟩
    cases rl with
    | false => obtain ⟨_, hn, _⟩ := hk0 sz es rfl; subst hn; simp
    | true => obtain ⟨b, o', cap, h1, h2, _⟩ := hk1 sz es rfl; simp; omega
  have hb := len_bound (by rw [← hop]; exact ho) st.rel hview
  have hs : astep (lkL L) h ao.op = some (.c (.d (.int .i64 n)), h) := by rw [ho]; simp only [astep, hview, hlen]
  rw [hop] at hs
  obtain ⟨v', w', G', ι', hrun, k1, k2, k3⟩ := op_sound st.rel hs
  unfold Oper.wp
  rcases hrun with hrun | ⟨hrun, rfl⟩
  ·rw [hrun]; exact hK _ _ _ _ _ (hk (by omega)) ⟨G', ι', st.step hdN k1 k2 k3⟩
  ·rw [hrun]; exact hK _ _ _ _ _ (hk (by omega)) ⟨G', ι', st.step hdN k1 k2 k3⟩
 | @nil L h K ne x nl sz l ho _ hx hk =>
  have hf0 := hf
  obtain ⟨G, ι, st⟩ := hf
  rw [hop] at ho
  obtain ⟨b, hb, v', w', G', ι', hrun, k1, k2, k3⟩ := isnil_exec ho st.rel hx
  unfold Oper.wp
  rcases hrun with hrun | ⟨hrun, rfl⟩
  ·rw [hrun]; exact hK _ _ _ _ _ (hk b hb) ⟨G', ι', st.step hdN k1 k2 k3⟩
  ·rw [hrun]; exact hK _ _ _ _ _ (hk b hb) ⟨G', ι', st.step hdN k1 k2 k3⟩
 | @ar L h K K0 _ ha hk =>
  have hf0 := hf
  obtain ⟨G, ι, st⟩ := hf
  rw [hop] at ha
  obtain ⟨av, h', ⟨v', w', G', ι', hrun, k1, k2, k3⟩, k0⟩ := ar_sound st.rel ha
  unfold Oper.wp
  rcases hrun with hrun | ⟨hrun, rfl⟩
  ·rw [hrun]; exact hK _ _ _ _ _ (hk _ _ k0) ⟨G', ι', st.step hdN k1 k2 k3⟩
  ·rw [hrun]; exact hK _ _ _ _ _ (hk _ _ k0) ⟨G', ι', st.step hdN k1 k2 k3⟩
 | @callv L h K x xs b f caps ho _ hx hfn hc' =>
  have hf0 := hf
  obtain ⟨G, ι, st⟩ := hf
  rw [hop] at ho
  obtain ⟨t, rfl⟩ := callv_slot ho
  have hvx := st.rel.env t
  have hx' : lk (lkL L) t = .c (.fn b f caps) := hx
  rw [hx'] at hvx
  obtain ⟨vs, hvs, hn, hcr⟩ : ∃ vs : Array Value, a.tmps.getD t undef = fnV b f vs ∧ vs.size = caps.length ∧ ∀ (i : Nat) (v : Value) (c : CV), vs[i]? = some v → caps[i]? = some c → CR G w ι h v c := by
   revert hvx
   generalize a.tmps.getD t undef = v
   intro hvx
   cases inv_c hvx with
   | fn _ _ _ vs _ hv hn hc => exact ⟨vs, hv, hn, hc⟩
  obtain ⟨c, q1, q2⟩ := callv_exec (a := a) (w := w) (vs := vs) ho (fun op hop' => by
   cases op with
   | tmp t' => simp only [cx, Option.some.injEq, X.t.injEq] at hop'; subst hop'; exact hvs
   | const v => simp [cx] at hop'
   | global g => simp [cx] at hop'
   | func g => simp [cx] at hop') hfn
  obtain ⟨t1, t2⟩ := args_sound st.rel q2
  have hargs : bVals b (c.args.map a.eval) vs = (bLs b (c.args.toList.map a.eval) vs.toList).toArray := by apply Array.ext'; cases b <;> simp [bVals, bLs]
  rw [hargs] at q1
  have hv : VRs G w ι h (bLs b (c.args.toList.map a.eval) vs.toList) (bArgs b (evsN L xs) (caps.map .c)) := by
   rw [evsN_eq]
   cases b with
   | true =>
    refine ⟨by simp only [bArgs, bLs, List.length_append, t1, Array.length_toList, hn, List.length_map], fun i v x hv hx => ?_⟩
    simp only [bArgs, bLs] at hv hx
    rcases Nat.lt_or_ge i vs.toList.length with hi | hi
    ·rw [List.getElem?_append_left hi] at hv
     rw [List.getElem?_append_left (by rw [List.length_map]; rw [Array.length_toList] at hi; omega)] at hx
     simp only [List.getElem?_map, Option.map_eq_some_iff] at hx
     obtain ⟨y, hy, rfl⟩ := hx
     exact .c _ _ (hcr _ v y (by simpa using hv) hy)
    ·rw [List.getElem?_append_right hi] at hv
     rw [List.getElem?_append_right (by rw [List.length_map]; rw [Array.length_toList] at hi; omega)] at hx
     rw [List.length_map, ← hn, ← Array.length_toList] at hx
     exact t2 _ v x hv hx
   | false =>
   simp only [bArgs, bLs]
   refine ⟨by simp only [List.length_append, t1, Array.length_toList, hn, List.length_map], fun i v x hv hx => ?_⟩
   rcases Nat.lt_or_ge i (c.args.toList.map a.eval).length with hi | hi
   ·rw [List.getElem?_append_left hi] at hv
    rw [List.getElem?_append_left (by omega)] at hx
    exact t2 i v x hv hx
   ·rw [List.getElem?_append_right hi] at hv
    rw [List.getElem?_append_right (by omega)] at hx
    simp only [List.getElem?_map, Option.map_eq_some_iff] at hx
    obtain ⟨y, hy, rfl⟩ := hx
    rw [← t1] at hy
    exact .c _ _ (hcr _ v y (by simpa using hv) hy)
  cases hc' with
  | pure hp k => exact fn_enter st hdN hp.fn hv q1 (fun v h' a' w' hk hf => by obtain ⟨rfl, rfl⟩ := hk; exact hK _ _ _ _ _ k hf)
  | fn hf => exact fn_enter st hdN hf hv q1 fun v h' a' w' hk hf => hK _ _ _ _ _ hk hf
theorem region_seq {ops : Array Oper} {m : Nat} (hm : h0.length ≤ m) {Q : Exit → Act → World → Prop} : ∀ (os : List Oper) (aos : List AO) (k : Nat) (L : Lv) (h : Hp) (K : Lv → Hp → Prop) (a : Act) (w : World),
  (∀ i, os[i]? = ops[k + i]?) → compOs P ops N os = some aos → aos.all (gOk N) = true → runO P m false aos L h K → Fits N G0 ι0 h0 w0 (lkL L) h a w →
  (∀ L' h' a' w', K L' h' → Fits N G0 ι0 h0 w0 (lkL L') h' a' w' → Q .normal a' w') → wpOps P ops Q (List.range' k os.length) a w := by
 intro os
 induction os with
 | nil =>
  intro aos k L h K a w _ hc _ hv hf hQ
  simp only [compOs, Option.some.injEq] at hc
  subst hc
  exact hQ L h a w hv hf
 | cons o os ih =>
  intro aos k L h K a w hk hc hg hv hf hQ
  simp only [compOs] at hc
  split at hc
  ·rename_i ao l hao hl
   cases hc
   simp only [List.all_cons, Bool.and_eq_true] at hg
   have hok : ops[k]? = some o := by have := hk 0; simpa using this.symm
   have hrest : ∀ L' h' a' w', runO P m false l L' h' K → Fits N G0 ι0 h0 w0 (lkL L') h' a' w' → wpOps P ops Q (List.range' (k + 1) os.length) a' w' := fun L' h' a' w' hv' hf' =>
    ih l (k + 1) L' h' K a' w' (fun i => by have := hk (i + 1); simp only [List.getElem?_cons_succ] at this; rw [this]; congr 1; omega) hl hg.2 hv' hf' hQ
   simp only [List.length_cons, List.range'_succ]
   rw [wpOps_cons]
   unfold wpOp
   simp only [hok]
   obtain ⟨G, ι, st⟩ := hf
   obtain ⟨hd, hdN, hop, hgs⟩ := compO_dst hao
   have hgN := gOk_spec hg.1
   rcases hv with ⟨hgv, hv⟩ | ⟨hgv, hv⟩
   ·rw [gv_wanted st.rel hgs hgv hgN]
    simp only [if_true]
    left
    refine did_sound hm hao hv ⟨G, ι, st⟩ fun L' v h' a' w' hk' hf' => ?_
    exact hrest _ _ _ _ hk' (by rw [putL_eq]; exact hf')
   ·rw [gv_wanted st.rel hgs hgv hgN]
    simp only [Bool.false_eq_true, if_false]
    refine hrest _ _ _ _ hv ⟨G, ι, ?_⟩
    rw [putL_eq, hd]
    exact st.step hdN st.rel.hr (.tup #[] [] rfl (by simp)) (Ext.refl _ _ _ _)
  ·cases hc
theorem runO_run {aops : List AO} {m : Nat} : ∀ (aos : List AO) (k : Nat) (L : Lv) (h : Hp) (K : Lv → Hp → Prop), (∀ i, aos[i]? = aops[k + i]?) → runO P m true aos L h K →
  ∃ L' h', RunI P aops (List.range' k aos.length) (lkL L) h (lkL L') h' ∧ K L' h' := by
 intro aos
 induction aos with
 | nil => intro k L h K _ hv; exact ⟨L, h, ⟨rfl, rfl⟩, hv⟩
 | cons o aos ih =>
  intro k L h K hk hv
  have hok : aops[k]? = some o := by have := hk 0; simpa using this.symm
  have next : ∀ L' h', StepD P o (lkL L) h (lkL L') h' → runO P m true aos L' h' K → ∃ L' h', RunI P aops (List.range' k (o :: aos).length) (lkL L) h (lkL L') h' ∧ K L' h' := by
   intro L' h' hs hv'
   obtain ⟨L2, h2, hr, hk2⟩ := ih (k + 1) L' h' K (fun i => by have := hk (i + 1); simp only [List.getElem?_cons_succ] at this; rw [this]; congr 1; omega) hv'
   exact ⟨L2, h2, ⟨o, _, _, hok, hs, hr⟩, hk2⟩
  rcases hv with ⟨hgv, hv⟩ | ⟨hgv, hv⟩
  ·cases hv with
   | wk hd => cases hd
   | step v h' hs hcl hk' =>
    refine next (putL L o.dst v) h' ⟨?_, fun hc => .inr (hcl rfl hc)⟩ hk'
    rw [putL_eq]; unfold StepR; rw [hgv]; exact .inl ⟨v, hs, rfl⟩
   | call f xs ho hc =>
    cases hc with
    | pure hp hk' =>
     rename_i r
     rw [evsN_eq] at hp
     refine next (putL L o.dst r) h ⟨?_, fun hc => .inl rfl⟩ hk'
     rw [putL_eq]; unfold StepR; rw [hgv]; exact .inr ⟨f, xs, r, ho, .inl hp, rfl, rfl⟩
    | ro hm0 hp hk' =>
     rename_i r
     rw [evsN_eq] at hp
     refine next (putL L o.dst r) h ⟨?_, fun hc => .inl rfl⟩ hk'
     rw [putL_eq]; unfold StepR; rw [hgv]; exact .inr ⟨f, xs, r, ho, .inr hp, rfl, rfl⟩
   | callv x xs b f caps ho hd => cases hd
   | ar K0 hd => cases hd
   | nil ne x nl sz l ho hd => cases hd
   | len x sz l ho hd => cases hd
   | lenA x l v i n ho hd => cases hd
  ·refine next (putL L o.dst (.tup [])) h ⟨?_, fun _ => .inl rfl⟩ hv
   rw [putL_eq]; unfold StepR; rw [hgv]; exact ⟨rfl, rfl⟩
end
end Go.Ab

/-
  The engine: other numbers for the blocks.
-/
namespace Go.Ab
def rnC (ρ : Nat → Nat) : CV → CV
 | .ptr l v i j => .ptr (ρ l) v i j
 | .arr l v i n => .arr (ρ l) v i n
 | .mp l => .mp (ρ l)
 | .it l => .it (ρ l)
 | .fn b f caps => .fn b f (rnCs ρ caps)
 | x => x
where
  rnCs (ρ : Nat → Nat) : List CV → List CV
  | [] => []
  | x :: r => rnC ρ x :: rnCs ρ r
abbrev rnCs (ρ : Nat → Nat) : List CV → List CV := rnC.rnCs ρ
theorem rnCs_get (ρ : Nat → Nat) (l : List CV) (i : Nat) : (rnCs ρ l)[i]? = (l[i]?).map (rnC ρ) := by
 induction l generalizing i with
 | nil => simp [rnCs, rnC.rnCs]
 | cons x r ih =>
  cases i with
  | zero => simp [rnCs, rnC.rnCs]
  | succ i => simpa [rnCs, rnC.rnCs] using ih i
theorem rnCs_len (ρ : Nat → Nat) (l : List CV) : (rnCs ρ l).length = l.length := by
 induction l with
 | nil => rfl
 | cons x r ih => simpa [rnCs, rnC.rnCs] using ih
def rnA (ρ : Nat → Nat) : AV → AV
 | .c x => .c (rnC ρ x)
 | .agg l => .agg (rnCs ρ l)
 | .tup l => .tup (rnAs ρ l)
where
  rnAs (ρ : Nat → Nat) : List AV → List AV
  | [] => []
  | x :: r => rnA ρ x :: rnAs ρ r
abbrev rnAs (ρ : Nat → Nat) : List AV → List AV := rnA.rnAs ρ
theorem rnAs_get (ρ : Nat → Nat) (l : List AV) (i : Nat) : (rnAs ρ l)[i]? = (l[i]?).map (rnA ρ) := by
 induction l generalizing i with
 | nil => simp [rnAs, rnA.rnAs]
 | cons x r ih =>
  cases i with
  | zero => simp [rnAs, rnA.rnAs]
  | succ i => simpa [rnAs, rnA.rnAs] using ih i
theorem rnAs_len (ρ : Nat → Nat) (l : List AV) : (rnAs ρ l).length = l.length := by
 induction l with
 | nil => rfl
 | cons x r ih => simpa [rnAs, rnA.rnAs] using ih
def rnB (ρ : Nat → Nat) : Blk → Blk
 | .bx cs => .bx (rnCs ρ cs)
 | .mi m v es => .mi (ρ m) v es
 | b => b
def rnH (ρ : Nat → Nat) : Hp → Hp
 | [] => []
 | b :: r => rnB ρ b :: rnH ρ r
theorem rnH_get (ρ : Nat → Nat) (h : Hp) (i : Nat) : (rnH ρ h)[i]? = (h[i]?).map (rnB ρ) := by
 induction h generalizing i with
 | nil => simp [rnH]
 | cons x r ih =>
  cases i with
  | zero => simp [rnH]
  | succ i => simpa [rnH] using ih i
theorem rnH_len (ρ : Nat → Nat) (h : Hp) : (rnH ρ h).length = h.length := by
 induction h with
 | nil => rfl
 | cons x r ih => simpa [rnH] using ih
theorem rnB_off (ρ : Nat → Nat) (b : Blk) (v i j : Nat) : (rnB ρ b).off v i j = b.off v i j := by cases b <;> rfl
theorem rnB_allows (ρ : Nat → Nat) (b : Blk) (v : Nat) : (rnB ρ b).allows v = b.allows v := by cases b <;> rfl
theorem rnB_da {ρ : Nat → Nat} {b : Blk} {r : Bool} {v sz : Nat} {es : List (List D)} : rnB ρ b = .da r v sz es ↔ b = .da r v sz es := by cases b <;> simp [rnB]
theorem rnB_mp {ρ : Nat → Nat} {b : Blk} {v : Nat} {es : List (DV × DV)} : rnB ρ b = .mp v es ↔ b = .mp v es := by cases b <;> simp [rnB]
structure Among (ρ : Nat → Nat) (ιc : Io) (hc : Hp) (ι : Io) (h : Hp) : Prop where
 blk : ∀ i k, hc[i]? = some k → h[ρ i]? = some (rnB ρ k)
 at' : ∀ i k, hc[i]? = some k → ι[ρ i]? = ιc[i]?
section
variable {G : Nat → Prop} {w : World} {ιc ι : Io} {hc h : Hp} {ρ : Nat → Nat}
theorem CR.rn (am : Among ρ ιc hc ι h) {v : Value} {c : CV} (hx : CR G w ιc hc v c) : CR G w ι h v (rnC ρ c) := by
 induction hx with
 | u => exact .u _
 | d _ _ hd => exact .d _ _ hd
 | cl _ _ _ _ hd hc => exact .cl _ _ _ _ hd hc
 | rp b o cs hG hc => exact .rp b o cs hG hc
 | mp _ l blk hb hk =>
  refine .mp _ _ _ (am.blk l blk hb) fun ver es he => ?_
  obtain ⟨b, o, h1, h2⟩ := hk ver es (rnB_mp.1 he)
  exact ⟨b, o, by rw [am.at' l blk hb]; exact h1, h2⟩
 | it _ l blk hb hk =>
  refine .it _ _ _ (am.blk l blk hb) fun m ver es he => ?_
  cases blk with
  | mi m0 v0 es0 =>
   simp only [rnB, Blk.mi.injEq] at he
   obtain ⟨b, o, h1, h2⟩ := hk m0 v0 es0 rfl
   exact ⟨b, o, by rw [am.at' l _ hb]; exact h1, h2⟩
  | _ => simp [rnB] at he
 | ptr _ l ver i j blk hb ha hk =>
  refine .ptr _ _ _ _ _ _ (am.blk l blk hb) (by rw [rnB_allows]; exact ha) fun k hk' => ?_
  rw [rnB_off] at hk'
  obtain ⟨b, o, h1, h2⟩ := hk k hk'
  exact ⟨b, o, by rw [am.at' l blk hb]; exact h1, h2⟩
 | arr _ l ver i j blk hb ha hk hk0 =>
  refine .arr _ _ _ _ _ _ (am.blk l blk hb) (by rw [rnB_allows]; exact ha) (fun sz es he => ?_) fun sz es he => hk0 sz es (rnB_da.1 he)
  obtain ⟨b, o, cap, h1, h2⟩ := hk sz es (rnB_da.1 he)
  exact ⟨b, o, cap, by rw [am.at' l blk hb]; exact h1, h2⟩
 | fn v b f vs caps hv hn hc ih =>
  refine .fn v b f vs _ hv (by rw [hn]; exact (rnCs_len ρ caps).symm) fun i v c hv hx => ?_
  rw [show rnC.rnCs ρ caps = rnCs ρ caps from rfl, rnCs_get, Option.map_eq_some_iff] at hx
  obtain ⟨c0, h1, rfl⟩ := hx
  exact ih i v c0 hv h1
theorem CR.unrn (am : Among ρ ιc hc ι h) {v : Value} {x : CV} (hx : CR G w ι h v x) : ∀ c, x = rnC ρ c → refsC hc.length c = true → CR G w ιc hc v c := by
 have at1 : ∀ l, l < hc.length → ∃ k, hc[l]? = some k := fun l hl => ⟨_, List.getElem?_eq_getElem hl⟩
 induction hx with
 | u v => intro c e hr; cases c <;> first | exact .u _ | (simp [rnC] at e)
 | d _ _ hd => intro c e hr; cases c <;> simp [rnC] at e; subst e; exact .d _ _ hd
 | cl _ _ _ _ hd hc => intro c e hr; cases c <;> simp [rnC] at e; obtain ⟨rfl, rfl, rfl⟩ := e; exact .cl _ _ _ _ hd hc
 | rp b o cs hG hc => intro c e hr; cases c <;> simp [rnC] at e; subst e; exact .rp b o _ hG hc
 | mp _ l blk hb hk =>
  intro c e hr
  cases c <;> simp [rnC] at e
  rename_i l0
  obtain ⟨k, hk0⟩ := at1 l0 (Nat.le_of_ble_eq_true hr)
  rw [e, am.blk l0 k hk0] at hb
  cases hb
  refine .mp _ _ k hk0 fun ver es he => ?_
  obtain ⟨b, o, h1, h2⟩ := hk ver es (rnB_mp.2 he)
  exact ⟨b, o, by rw [← am.at' l0 k hk0, ← e]; exact h1, h2⟩
 | it _ l blk hb hk =>
  intro c e hr
  cases c <;> simp [rnC] at e
  rename_i l0
  obtain ⟨k, hk0⟩ := at1 l0 (Nat.le_of_ble_eq_true hr)
  rw [e, am.blk l0 k hk0] at hb
  cases hb
  refine .it _ _ k hk0 fun m ver es he => ?_
  subst he
  obtain ⟨b, o, h1, h2⟩ := hk (ρ m) ver es rfl
  exact ⟨b, o, by rw [← am.at' l0 _ hk0, ← e]; exact h1, h2⟩
 | ptr _ l ver i j blk hb ha hk =>
  intro c e hr
  cases c <;> simp [rnC] at e
  rename_i l0 v0 i0 j0
  obtain ⟨e, rfl, rfl, rfl⟩ := e
  obtain ⟨k, hk0⟩ := at1 l0 (Nat.le_of_ble_eq_true hr)
  rw [e, am.blk l0 k hk0] at hb
  cases hb
  rw [rnB_allows] at ha
  refine .ptr _ _ _ _ _ k hk0 ha fun n hn => ?_
  obtain ⟨b, o, h1, h2⟩ := hk n (by rw [rnB_off]; exact hn)
  exact ⟨b, o, by rw [← am.at' l0 k hk0, ← e]; exact h1, h2⟩
 | arr _ l ver i j blk hb ha hk hk0 =>
  intro c e hr
  cases c <;> simp [rnC] at e
  rename_i l0 v0 i0 j0
  obtain ⟨e, rfl, rfl, rfl⟩ := e
  obtain ⟨k, hk1⟩ := at1 l0 (Nat.le_of_ble_eq_true hr)
  rw [e, am.blk l0 k hk1] at hb
  cases hb
  rw [rnB_allows] at ha
  refine .arr _ _ _ _ _ k hk1 ha (fun sz es he => ?_) fun sz es he => hk0 sz es (rnB_da.2 he)
  obtain ⟨b, o, cap, h1, h2⟩ := hk sz es (rnB_da.2 he)
  exact ⟨b, o, cap, by rw [← am.at' l0 k hk1, ← e]; exact h1, h2⟩
 | fn v b f vs caps hv hn hc ih =>
  intro c e hr
  cases c <;> simp [rnC] at e
  rename_i b0 f0 caps0
  obtain ⟨rfl, rfl, e⟩ := e
  have e' : caps = rnCs ρ caps0 := e
  refine .fn _ _ _ vs caps0 hv (by rw [hn, e', rnCs_len]) fun i v c hv hx => ?_
  have hx' : caps[i]? = some (rnC ρ c) := by rw [e', rnCs_get, hx]; rfl
  exact ih i v _ hv hx' c rfl (refsCs_get hr i c hx)
theorem VR.rn (am : Among ρ ιc hc ι h) {v : Value} {x : AV} (hx : VR G w ιc hc v x) : VR G w ι h v (rnA ρ x) := by
 induction hx with
 | c _ _ h1 => exact .c _ _ (h1.rn am)
 | agg cs l hn h1 =>
  refine .agg cs _ (by rw [hn]; exact (rnCs_len ρ l).symm) fun i v x hv hx => ?_
  rw [rnCs_get, Option.map_eq_some_iff] at hx
  obtain ⟨c0, h2, rfl⟩ := hx
  exact (h1 i v c0 hv h2).rn am
 | tup cs l hn h1 ih =>
  refine .tup cs _ (by rw [hn]; exact (rnAs_len ρ l).symm) fun i v x hv hx => ?_
  rw [show rnA.rnAs ρ l = rnAs ρ l from rfl, rnAs_get, Option.map_eq_some_iff] at hx
  obtain ⟨c0, h2, rfl⟩ := hx
  exact ih i v c0 hv h2
theorem VR.unrn (am : Among ρ ιc hc ι h) {v : Value} {x : AV} (hx : VR G w ι h v (rnA ρ x)) (hr : refsA hc.length x = true) : VR G w ιc hc v x := by
 cases x with
 | c x =>
  cases hx with
  | c _ _ h1 => exact .c _ _ (h1.unrn am x rfl hr)
 | agg l =>
  cases hx with
  | agg cs _ hn h1 =>
   refine .agg cs l (by rw [hn, rnCs_len]) fun i v x hv hx => ?_
   exact (h1 i v (rnC ρ x) hv (by rw [rnCs_get, hx]; rfl)).unrn am x rfl (refsCs_get hr i x hx)
 | tup l =>
  cases l with
  | nil => cases hx with | tup cs _ hn h1 => exact .tup cs [] hn (by simp)
  | cons a r => simp [refsA] at hr
theorem BR.rn (am : Among ρ ιc hc ι h) {i : Nat} {k : Blk} (hk : hc[i]? = some k) (hx : BR G w ιc hc i k) : BR G w ι h (ρ i) (rnB ρ k) := by
 have ha := am.at' i k hk
 cases k with
 | dead => trivial
 | am m => exact hx
 | bx cs =>
  obtain ⟨b, o, c, t, fr, h1, h2, h3, h4, h5⟩ := hx
  refine ⟨b, o, c, t, fr, by rw [ha]; exact h1, h2, by rw [rnCs_len]; exact h3, h4, fun j x hx => ?_⟩
  rw [rnCs_get, Option.map_eq_some_iff] at hx
  obtain ⟨c0, g1, rfl⟩ := hx
  obtain ⟨v, g2, g3⟩ := h5 j c0 g1
  exact ⟨v, g2, g3.rn am⟩
 | da r v sz es =>
  cases r with
  | false => exact hx
  | true =>
   obtain ⟨b, o, c, t, fr, h0, h1, h2⟩ := hx
   exact ⟨b, o, c, t, fr, h0, by rw [ha]; exact h1, h2⟩
 | mp v es =>
  obtain ⟨b, o, ces, clock, h1, h2⟩ := hx
  exact ⟨b, o, ces, clock, by rw [ha]; exact h1, h2⟩
 | mi m v es =>
  obtain ⟨b, o, mb, seen, clock, blk, h1, h2, h3, h4, h5⟩ := hx
  refine ⟨b, o, mb, seen, clock, _, by rw [ha]; exact h1, h2, am.blk m blk h3, by rw [rnB_allows]; exact h4, fun all he => ?_⟩
  obtain ⟨o', ces, g1, g2⟩ := h5 all (rnB_mp.1 he)
  exact ⟨o', ces, by rw [am.at' m blk h3]; exact g1, g2⟩
theorem BR.unrn (am : Among ρ ιc hc ι h) {i : Nat} {k : Blk} (hk : hc[i]? = some k) (hr : refsB hc.length k = true) (hx : BR G w ι h (ρ i) (rnB ρ k)) : BR G w ιc hc i k := by
 have ha := am.at' i k hk
 cases k with
 | dead => trivial
 | am m => exact hx
 | bx cs =>
  obtain ⟨b, o, c, t, fr, h1, h2, h3, h4, h5⟩ := hx
  refine ⟨b, o, c, t, fr, by rw [← ha]; exact h1, h2, by rw [rnCs_len] at h3; exact h3, h4, fun j x hx => ?_⟩
  obtain ⟨v, g2, g3⟩ := h5 j (rnC ρ x) (by rw [rnCs_get, hx]; rfl)
  exact ⟨v, g2, g3.unrn am x rfl (refsCs_get hr j x hx)⟩
 | da r v sz es =>
  cases r with
  | false => exact hx
  | true =>
   obtain ⟨b, o, c, t, fr, h0, h1, h2⟩ := hx
   exact ⟨b, o, c, t, fr, h0, by rw [← ha]; exact h1, h2⟩
 | mp v es =>
  obtain ⟨b, o, ces, clock, h1, h2⟩ := hx
  exact ⟨b, o, ces, clock, by rw [← ha]; exact h1, h2⟩
 | mi m v es =>
  obtain ⟨b, o, mb, seen, clock, blk, h1, h2, h3, h4, h5⟩ := hx
  have hm : m < hc.length := Nat.le_of_ble_eq_true hr
  have hkm : hc[m]? = some (hc[m]'hm) := List.getElem?_eq_getElem hm
  rw [am.blk m _ hkm] at h3
  cases h3
  rw [rnB_allows] at h4
  refine ⟨b, o, mb, seen, clock, _, by rw [← ha]; exact h1, h2, hkm, h4, fun all he => ?_⟩
  obtain ⟨o', ces, g1, g2⟩ := h5 all (rnB_mp.2 he)
  exact ⟨o', ces, by rw [← am.at' m _ hkm]; exact g1, g2⟩
theorem own1_rn {ι ιc : Io} {i l b : Nat} {k : Blk} (h : ι[l]? = ιc[i]?) : own1 ι l (rnB ρ k) b ↔ own1 ιc i k b := by
 cases k <;> simp only [own1, rnB, Blk.live, h]
theorem owned_rn (am : Among ρ ιc hc ι h) {b : Nat} (ho : owned ιc hc b) : ∃ i k, hc[i]? = some k ∧ own1 ιc i k b ∧ own1 ι (ρ i) (rnB ρ k) b ∧ h[ρ i]? = some (rnB ρ k) := by
 obtain ⟨i, k, h2, h3⟩ := ho
 exact ⟨i, k, h2, h3, (own1_rn (am.at' i k h2)).2 h3, am.blk i k h2⟩
theorem owned_up (am : Among ρ ιc hc ι h) {b : Nat} (ho : owned ιc hc b) : owned ι h b := by
 obtain ⟨i, k, h1, h2, h3, h4⟩ := owned_rn am ho
 exact ⟨ρ i, _, h4, h3⟩
theorem HR.down (am : Among ρ ιc hc ι h) (hr : HR G ι h w) (hl : ιc.length = hc.length) (hinj : ∀ i j, i < hc.length → j < hc.length → ρ i = ρ j → i = j) (hcl : refsH hc.length hc = true) : HR G ιc hc w where
 len := hl
 own l l' b k k' h3 h4 h5 h6 := by
  refine hinj l l' (get_lt h3) (get_lt h4) ?_
  exact hr.own (ρ l) (ρ l') b _ _ (am.blk l k h3) (am.blk l' k' h4) ((own1_rn (am.at' l k h3)).2 h5) ((own1_rn (am.at' l' k' h4)).2 h6)
 g b hb := ⟨(hr.g b hb).1, fun ho => (hr.g b hb).2 (owned_up am ho)⟩
 blk l k hk := BR.unrn am hk (refsH_get hcl l k hk) (hr.blk _ _ (am.blk l k hk))
end
end Go.Ab

/-
  The engine: regions whose order is drawn and which make memory of their own. Each new block has a place kept for it, so that the order in which the blocks are made does not matter.
-/
namespace Go.Ab
def rfC : CV → List Nat
 | .ptr l _ _ _ => [l]
 | .arr l _ _ _ => [l]
 | .mp l => [l]
 | .it l => [l]
 | .fn _ _ caps => rfCs caps
 | _ => []
where
  rfCs : List CV → List Nat
  | [] => []
  | x :: r => rfC x ++ rfCs r
abbrev rfCs : List CV → List Nat := rfC.rfCs
def rfA : AV → List Nat
 | .c x => rfC x
 | .agg l => rfCs l
 | .tup l => rfAs l
where
  rfAs : List AV → List Nat
  | [] => []
  | x :: r => rfA x ++ rfAs r
abbrev rfAs : List AV → List Nat := rfA.rfAs
def rfB : Blk → List Nat
 | .bx cs => rfCs cs
 | .mi m _ _ => [m]
 | _ => []
theorem rfCs_mem {l : List CV} {n : Nat} : n ∈ rfCs l ↔ ∃ x ∈ l, n ∈ rfC x := by
 induction l with
 | nil => simp [rfCs, rfC.rfCs]
 | cons x r ih =>
  rw [show rfCs (x :: r) = rfC x ++ rfCs r from rfl, List.mem_append, ih]
  simp
theorem rfAs_mem {l : List AV} {n : Nat} : n ∈ rfAs l ↔ ∃ x ∈ l, n ∈ rfA x := by
 induction l with
 | nil => simp [rfAs, rfA.rfAs]
 | cons x r ih =>
  rw [show rfAs (x :: r) = rfA x ++ rfAs r from rfl, List.mem_append, ih]
  simp
theorem rf_agreeC {h h' : Hp} {x : CV} (hx : ∀ l ∈ rfC x, h'[l]? = h[l]?) : agreeC h h' x := by
 cases x <;> first | trivial | exact hx _ (by simp [rfC])
theorem rf_agree {h h' : Hp} {x : AV} (hx : ∀ l ∈ rfA x, h'[l]? = h[l]?) : agreeA h h' x := by
 cases x with
 | c x => exact rf_agreeC hx
 | agg l => exact fun y hy => rf_agreeC fun n hn => hx n (rfCs_mem.2 ⟨y, hy, hn⟩)
 | tup l => trivial
theorem CR.lt {G : Nat → Prop} {w : World} {ι : Io} {h : Hp} {v : Value} {x : CV} (hx : CR G w ι h v x) : ∀ l ∈ rfC x, l < h.length := by
 induction hx with
 | ptr _ l ver i j blk hb => intro n hn; simp only [rfC, List.mem_singleton] at hn; subst hn; exact get_lt hb
 | arr _ l ver i j blk hb => intro n hn; simp only [rfC, List.mem_singleton] at hn; subst hn; exact get_lt hb
 | mp _ l blk hb => intro n hn; simp only [rfC, List.mem_singleton] at hn; subst hn; exact get_lt hb
 | it _ l blk hb => intro n hn; simp only [rfC, List.mem_singleton] at hn; subst hn; exact get_lt hb
 | fn v b f vs caps hv hn hc ih =>
  intro n hm
  obtain ⟨x, hx, hxn⟩ := rfCs_mem.1 hm
  obtain ⟨i, hi⟩ := List.mem_iff_getElem?.1 hx
  have hl := get_lt hi
  exact ih i _ x (Array.getElem?_eq_getElem (by omega)) hi n hxn
 | _ => intro n hn; simp [rfC] at hn
theorem VR.lt {G : Nat → Prop} {w : World} {ι : Io} {h : Hp} {v : Value} {x : AV} (hx : VR G w ι h v x) : ∀ l ∈ rfA x, l < h.length := by
 induction hx with
 | c _ x hc => exact hc.lt
 | agg cs l hn hc =>
  intro n hm
  obtain ⟨x, hx, hxn⟩ := rfCs_mem.1 hm
  obtain ⟨i, hi⟩ := List.mem_iff_getElem?.1 hx
  have hl := get_lt hi
  exact (hc i _ x (Array.getElem?_eq_getElem (by omega)) hi).lt n hxn
 | tup cs l hn hc ih =>
  intro n hm
  obtain ⟨x, hx, hxn⟩ := rfAs_mem.1 hm
  obtain ⟨i, hi⟩ := List.mem_iff_getElem?.1 hx
  have hl := get_lt hi
  exact ih i _ x (Array.getElem?_eq_getElem (by omega)) hi n hxn
theorem BR.lt {G : Nat → Prop} {w : World} {ι : Io} {h : Hp} {i : Nat} {k : Blk} (hx : BR G w ι h i k) : ∀ l ∈ rfB k, l < h.length := by
 cases k with
 | bx cs =>
  obtain ⟨b, o, c, t, fr, h1, h2, h3, h4, h5⟩ := hx
  intro n hm
  obtain ⟨x, hx, hxn⟩ := rfCs_mem.1 hm
  obtain ⟨i, hi⟩ := List.mem_iff_getElem?.1 hx
  obtain ⟨v, _, g2⟩ := h5 i x hi
  exact g2.lt n hxn
 | mi m ver es =>
  obtain ⟨b, o, mb, seen, clock, blk, _, _, h3, _⟩ := hx
  intro n hn
  simp only [rfB, List.mem_singleton] at hn
  subst hn
  exact get_lt h3
 | _ => intro n hn; simp [rfB] at hn
/-! Renaming one block. -/
section
variable {r m : Nat}
def mvN (r m : Nat) : Nat → Nat := fun i => if i = r then m else i
theorem rnC_fix {x : CV} (hx : r ∉ rfC x) : rnC (mvN r m) x = x := by
 have aux : ∀ x : CV, r ∉ rfC x → rnC (mvN r m) x = x := by
  intro x
  refine CV.rec (motive_1 := fun x => r ∉ rfC x → rnC (mvN r m) x = x) (motive_2 := fun l => r ∉ rfCs l → rnCs (mvN r m) l = l) ?_ ?_ ?_ ?_ ?_ ?_ ?_ ?_ ?_ ?_ ?_ x
  ·intro _; rfl
  ·intro _ _; rfl
  ·intro _ _ _ _; rfl
  ·intro _ _; rfl
  ·intro l v i j h; simp only [rfC, List.mem_singleton] at h; simp only [rnC, mvN]; rw [if_neg (fun e => h e.symm)]
  ·intro l v i j h; simp only [rfC, List.mem_singleton] at h; simp only [rnC, mvN]; rw [if_neg (fun e => h e.symm)]
  ·intro l h; simp only [rfC, List.mem_singleton] at h; simp only [rnC, mvN]; rw [if_neg (fun e => h e.symm)]
  ·intro l h; simp only [rfC, List.mem_singleton] at h; simp only [rnC, mvN]; rw [if_neg (fun e => h e.symm)]
  ·intro b f caps ih h
   show CV.fn b f (rnCs (mvN r m) caps) = _
   rw [ih h]
  ·intro _; rfl
  ·intro x l ih1 ih2 h
   rw [show rfCs (x :: l) = rfC x ++ rfCs l from rfl, List.mem_append, not_or] at h
   show rnC (mvN r m) x :: rnCs (mvN r m) l = _
   rw [ih1 h.1, ih2 h.2]
 exact aux x hx
theorem rnCs_fix {l : List CV} (hx : r ∉ rfCs l) : rnCs (mvN r m) l = l := by
 induction l with
 | nil => rfl
 | cons x l ih =>
  rw [show rfCs (x :: l) = rfC x ++ rfCs l from rfl, List.mem_append, not_or] at hx
  show rnC (mvN r m) x :: rnCs (mvN r m) l = _
  rw [rnC_fix hx.1, ih hx.2]
theorem rnB_fix {k : Blk} (hx : r ∉ rfB k) : rnB (mvN r m) k = k := by
 cases k with
 | bx cs => show Blk.bx (rnCs (mvN r m) cs) = _; rw [rnCs_fix hx]
 | mi n v es => simp only [rfB, List.mem_singleton] at hx; simp only [rnB, mvN]; rw [if_neg (fun e => hx e.symm)]
 | _ => rfl
end
theorem refsC_of {n : Nat} : ∀ {x : CV}, (∀ l ∈ rfC x, l < n) → refsC n x = true := by
 intro x
 refine CV.rec (motive_1 := fun x => (∀ l ∈ rfC x, l < n) → refsC n x = true) (motive_2 := fun cs => (∀ l ∈ rfCs cs, l < n) → refsCs n cs = true) ?_ ?_ ?_ ?_ ?_ ?_ ?_ ?_ ?_ ?_ ?_ x
 ·intro _; rfl
 ·intro _ _; rfl
 ·intro _ _ _ _; rfl
 ·intro _ _; rfl
 ·intro l v i j h; exact Nat.ble_eq_true_of_le (h l (by simp [rfC]))
 ·intro l v i j h; exact Nat.ble_eq_true_of_le (h l (by simp [rfC]))
 ·intro l h; exact Nat.ble_eq_true_of_le (h l (by simp [rfC]))
 ·intro l h; exact Nat.ble_eq_true_of_le (h l (by simp [rfC]))
 ·intro b f caps ih h; exact ih h
 ·intro _; rfl
 ·intro x l ih1 ih2 h
  show (match refsC n x with | true => refsCs n l | false => false) = true
  rw [ih1 fun y hy => h y (List.mem_append_left _ hy)]
  exact ih2 fun y hy => h y (List.mem_append_right _ hy)
theorem refsCs_of {n : Nat} : ∀ {l : List CV}, (∀ x ∈ rfCs l, x < n) → refsCs n l = true := by
 intro l
 induction l with
 | nil => intro _; rfl
 | cons x l ih =>
  intro h
  show (match refsC n x with | true => refsCs n l | false => false) = true
  rw [refsC_of fun y hy => h y (List.mem_append_left _ hy)]
  exact ih fun y hy => h y (List.mem_append_right _ hy)
theorem refsH_of {n : Nat} : ∀ {h : Hp}, (∀ k ∈ h, ∀ x ∈ rfB k, x < n) → refsH n h = true := by
 intro h
 induction h with
 | nil => intro _; rfl
 | cons k h ih =>
  intro hx
  show (match refsB n k with | true => refsH n h | false => false) = true
  have hk : refsB n k = true := by
   have hk := hx k (by simp)
   cases k with
   | bx cs => exact refsCs_of hk
   | mi m v es => exact Nat.ble_eq_true_of_le (hk m (by simp [rfB]))
   | _ => rfl
  rw [hk]
  exact ih fun k hk => hx k (by simp [hk])
theorem VR.mv {G : Nat → Prop} {w : World} {ιc ι : Io} {hc h : Hp} {r m : Nat} (am : Among (mvN r m) ιc hc ι h) {v : Value} {x : AV} (hx : VR G w ι h v x) : r ∉ rfA x → (∀ l ∈ rfA x, l < hc.length) → VR G w ιc hc v x := by
 induction hx with
 | c v x h1 => intro hr hl; exact .c _ _ (h1.unrn am x (rnC_fix hr).symm (refsC_of hl))
 | agg cs l hn h1 =>
  intro hr hl
  refine .agg cs l hn fun i v x hv hx => ?_
  have hm := List.mem_of_getElem? hx
  exact (h1 i v x hv hx).unrn am x (rnC_fix fun h => hr (rfCs_mem.2 ⟨x, hm, h⟩)).symm (refsC_of fun y hy => hl y (rfCs_mem.2 ⟨x, hm, hy⟩))
 | tup cs l hn h1 ih =>
  intro hr hl
  refine .tup cs l hn fun i v x hv hx => ?_
  have hm := List.mem_of_getElem? hx
  exact ih i v x hv hx (fun h => hr (rfAs_mem.2 ⟨x, hm, h⟩)) fun y hy => hl y (rfAs_mem.2 ⟨x, hm, hy⟩)
end Go.Ab

/-
  The engine: regions that make memory, part b: a new block is put at the place that is kept for it.
-/
namespace Go.Ab
section
variable {P : Program} {N : Nat} {G0 : Nat → Prop} {ι0 : Io} {h0 : Hp} {w0 : World}
def Free (l : Nat) (e : Env) (h : Hp) : Prop := (∀ n, l ∉ rfA (e n)) ∧ ∀ (i : Nat) (k : Blk), h[i]? = some k → l ∉ rfB k
def AlF (f : Nat → AV) : Prop := (∃ m, f = fun n => .c (.arr n 0 0 m)) ∨ f = (fun n => .c (.ptr n 0 0 0)) ∨ f = fun n => .c (.mp n)
theorem AlF.rf {f : Nat → AV} (h : AlF f) (n : Nat) : rfA (f n) = [n] := by
 rcases h with ⟨m, rfl⟩ | rfl | rfl <;> rfl
theorem AlF.rn {f : Nat → AV} (h : AlF f) (r m : Nat) : rnA (mvN r m) (f r) = f m := by
 rcases h with ⟨k, rfl⟩ | rfl | rfl <;> simp [rnA, rnC, mvN]
theorem get_set_at {α : Type} {l : List α} {i : Nat} {a : α} (h : i < l.length) : (l.set i a)[i]? = some a := by simp [h]
theorem get_set_ne {α : Type} {l : List α} {i j : Nat} {a : α} (h : i ≠ j) : (l.set i a)[j]? = l[j]? := List.getElem?_set_ne h
theorem Kept.rnI {ι ι' ι2 : Io} {w w' : World} {l : Nat} {k k' : Blk} (hk : Kept ι ι' w w' l k k') (h : ι2[l]? = ι'[l]?) : Kept ι ι2 w w' l k k' := by
 cases k' <;> cases k <;> simp only [Kept, h] at hk ⊢ <;> exact hk
theorem Fits.move {e : Env} {h : Hp} {k : Blk} {a : Act} {w : World} {r : Nat} {dst : Option Nat} {f : Nat → AV} (hf : Fits N G0 ι0 h0 w0 (putE e dst (f h.length)) (h ++ [k]) a w) (hfree : Free r e h) (hlt : ∀ n, ∀ l ∈ rfA (e n), l < h.length) (hr0 : h0.length ≤ r) (hrl : r < h.length)
    (hk : r ∉ rfB k ∧ ∀ l ∈ rfB k, l < h.length) (hfo : AlF f) (hbl : ∀ (i : Nat) (k : Blk), h[i]? = some k → ∀ l ∈ rfB k, l < h.length) : Fits N G0 ι0 h0 w0 (putE e dst (f r)) (h.set r k) a w := by
  obtain ⟨G, ι, st⟩ := hf
  have hlen := st.rel.hr.len
  simp only [List.length_append, List.length_singleton] at hlen
  have hι : ∃ p, ι[h.length]? = some p := ⟨_, List.getElem?_eq_getElem (by omega)⟩
  obtain ⟨p, hp⟩ := hι
  let ιc := (ι.take h.length).set r p
  have hιl : ιc.length = h.length := by simp only [ιc, List.length_set, List.length_take]; omega
  have hιr : ιc[r]? = some p := by simp only [ιc]; exact get_set_at (by simp only [List.length_take]; omega)
  have hιo : ∀ i, i ≠ r → i < h.length → ιc[i]? = ι[i]? := fun i hi hl => by
    simp only [ιc]; rw [get_set_ne (fun e => hi e.symm), List.getElem?_take_of_lt hl]
  have am : Among (mvN r h.length) ιc (h.set r k) ι (h ++ [k]) := by
    refine ⟨fun i b hb => ?_, fun i b hb => ?_⟩
    · rcases get_set hb with ⟨rfl, rfl, _⟩ | ⟨hne, hb⟩
      · rw [rnB_fix hk.1]; simp [mvN]
      · rw [rnB_fix (hfree.2 i b hb)]
        simp only [mvN, if_neg hne]
        exact get_snoc_old hb
    · rcases get_set hb with ⟨rfl, rfl, _⟩ | ⟨hne, hb⟩
      · simp only [mvN, if_true]; rw [hp, hιr]
      · simp only [mvN, if_neg hne]; rw [hιo i hne (get_lt hb)]
  have hcl : refsH (h.set r k).length (h.set r k) = true := refsH_of fun b hb l hl => by
    rw [List.length_set]
    obtain ⟨i, hi⟩ := List.mem_iff_getElem?.1 hb
    rcases get_set hi with ⟨rfl, rfl, _⟩ | ⟨hne, hb⟩
    · exact hk.2 l hl
    · exact hbl i b hb l hl
  have hinj : ∀ i j, i < (h.set r k).length → j < (h.set r k).length → mvN r h.length i = mvN r h.length j → i = j := by
    intro i j hi hj hij
    rw [List.length_set] at hi hj
    simp only [mvN] at hij
    split at hij <;> split at hij <;> omega
  have hr := HR.down am st.rel.hr (by rw [hιl, List.length_set]) hinj hcl
  refine ⟨G, ιc, ⟨{ hr := hr, dfr := st.rel.dfr, size := st.rel.size, env := fun n => ?_ }, ?_⟩⟩
  · have hv : VR G w ι (h ++ [k]) (a.tmps.getD n undef) (putE e dst (f h.length) n) := st.rel.env n
    show VR G w ιc (h.set r k) (a.tmps.getD n undef) (putE e dst (f r) n)
    have other : (∀ d, dst = some d → d ≠ n) → VR G w ιc (h.set r k) (a.tmps.getD n undef) (putE e dst (f r) n) := fun hn => by
      have e1 : ∀ v, putE e dst v n = e n := fun v => putE_other fun hd => hn n hd rfl
      rw [e1] at hv ⊢
      exact hv.mv am (hfree.1 n) (by rw [List.length_set]; exact hlt n)
    cases hd : dst with
    | none => rw [← hd]; exact other (by rw [hd]; simp)
    | some d =>
      by_cases hdn : d = n
      · subst hdn
        rw [hd] at hv
        simp only [putE, upd, if_true] at hv ⊢
        rw [← hfo.rn r h.length] at hv
        refine hv.unrn am ?_
        rw [List.length_set]
        rcases hfo with ⟨q, rfl⟩ | rfl | rfl <;> exact Nat.ble_eq_true_of_le hrl
      · rw [← hd]; exact other fun d' hd' => by rw [hd] at hd'; cases hd'; exact hdn
  · have ex := st.ext
    exact { size := ex.size, quiet := ex.quiet, frame := ex.frame, gmono := ex.gmono, gnew := ex.gnew,
            onew := fun b hb => ex.onew b (owned_up am hb),
            keep := fun l k0 hk0 => by
              obtain ⟨k', h1, h2⟩ := ex.keep l k0 hk0
              have hl0 := get_lt hk0
              have hlr : l ≠ r := by omega
              have hlh : l < h.length := by omega
              rw [List.getElem?_append_left hlh] at h1
              refine ⟨k', by rw [get_set_ne (fun e => hlr e.symm)]; exact h1, ?_⟩
              exact h2.rnI (hιo l hlr hlh) }
end
end Go.Ab

