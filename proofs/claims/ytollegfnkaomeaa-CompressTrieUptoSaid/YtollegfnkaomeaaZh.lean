/-
  Merged texts, part h.
-/
import Derived.Test.YtollegfnkaomeaaZg
import Derived.Scope
/-
  The engine, part v: the conditions of an operation, of a region, of a text, of a function; that they suffice.
-/
namespace Go.Ab
def ointN (L : Lv) : Option X → Option (Option Int)
 | none => some none
 | some x => match evN L x with
  | .c (.d (.int _ n)) => some (some n)
  | _ => none
theorem ointN_eq (L : Lv) (x : Option X) : ointN L x = oint (lkL L) x := by
 cases x with
 | none => rfl
 | some y => simp only [ointN, oint, evN_eq]; rfl
structure FnOk (P : Program) (f : Nat) : Prop where
 ok : ∃ fn, P.funcs[f]? = some fn ∧ fn.body.isSome = true ∧ fn.name ≠ "runtime.NumGoroutine"
def vLk (ok : Bool) (z : AV) (K : AV → Prop) : Option (Option (Nat × DV)) → Prop
 | none => False
 | some none => K (lkR ok z false)
 | some (some (_, v)) => K (lkR ok (avDV v) true)
def vLkF (ok : Bool) (z : AV) (K : AV → Prop) : Option Bool → Prop
 | none => False
 | some false => K (lkR ok z false)
 | some true => K (lkR ok (.c (.d (.bool true))) true)
def vUp (es : List (DV × DV)) (kd vd : DV) (K : List (DV × DV) → Prop) : Option (Option (Nat × DV)) → Prop
 | none => False
 | some none => ∀ es', es' = es ++ [(kd, vd)] → K es'
 | some (some (i, _)) => ∀ es', es' = es.set i (kd, vd) → K es'
def vDel (es : List (DV × DV)) (K0 : Prop) (K : List (DV × DV) → Prop) : Option (Option (Nat × DV)) → Prop
 | none => False
 | some none => K0
 | some (some (i, _)) => ∀ es', es' = es.eraseIdx i → K es'
theorem isFn_eq {f : Nat} (h : Nat.beq (f / 4294967296) 1 = true) : f = 4294967296 + f % 4294967296 := by
 have := Nat.eq_of_beq_eq_true h
 omega
def tyaV (t : Nat) (ok : Bool) (z : AV) (b : Bool) (f : Nat) (caps : List CV) : Option AV := match Nat.beq (f / 4294967296) 1 with
 | false => none
 | true => (match Nat.beq (f % 4294967296) t with
  | true => (match payA b caps with
   | some v => some (lkR ok v true)
   | none => none)
  | false => (match ok with
   | true => some (lkR true z false)
   | false => none))
theorem tyaV_eq {t : Nat} {ok : Bool} {z : AV} {b : Bool} {f : Nat} {caps : List CV} {v : AV} (h : tyaV t ok z b f caps = some v) : tyaS t ok z b f caps = some v := by
 unfold tyaV at h
 unfold tyaS
 cases h1 : Nat.beq (f / 4294967296) 1 with
 | false => rw [h1] at h; cases h
 | true =>
  rw [h1] at h
  have e0 := isFn_eq h1
  have e1 : Nat.blt f 4294967296 = false := by
   cases hb : Nat.blt f 4294967296 with
   | false => rfl
   | true => have := Nat.le_of_ble_eq_true hb; omega
  have e2 : Nat.beq f (4294967296 + t) = Nat.beq (f % 4294967296) t := by
   rw [Bool.eq_iff_iff, Nat.beq_eq, Nat.beq_eq]
   have := Nat.eq_of_beq_eq_true h1
   omega
  rw [e1, e2]
  exact h
def vMo (o : MOp) (avs : List AV) (h : Hp) (K : AV → Hp → Prop) : Prop :=
 match o, avs with
 | .apz sz bytes z, [.c (.d (.list true sz' _)), .c (.d (.int .i64 n))] => (match Nat.beq sz' sz with
   | true => (Unit → 0 < n ∧ n.toNat * bytes ≤ 140737488355328) ∧ ∀ k es, k = n.toNat → es = List.replicate n.toNat z → K (.c (.arr h.length 0 0 k)) (h ++ [.da true 0 sz es])
   | false => False)
 | .mkm, [] => K (.c (.mp h.length)) (h ++ [.mp 0 []])
 | .lk sc n ls ok z, [.c (.mp l), k] => (match h[l]?, keyDV ls sc n k with
  | some (.mp _ es), some kd => ∀ r, mfind sc n ls kd es 0 = r → vLk ok z (fun v => K v h) r
  | _, _ => False)
 | .lk sc n ls ok z, [.c (.d (.mpf es)), k] => (match keyDV ls sc n k with
  | some kd => setOk es = true ∧ ∀ r, hasK sc n ls kd es = r → vLkF ok z (fun v => K v h) r
  | none => False)
 | .lk sc n ls ok z, [.c (.d .nilm), k] => (match keyDV ls sc n k with
  | some _ => K (lkR ok z false) h
  | none => False)
 | .up sc n ls, [.c (.mp l), k, x] => (match keyDV ls sc n k, valDV h x with
  | some kd, some (vd, h1) => (match h1[l]? with
   | some (.mp v es) => ∀ r, mfind sc n ls kd es 0 = r → vUp es kd vd (fun es' => K (.c .u) (h1.set l (.mp (v + 1) es'))) r
   | _ => False)
  | _, _ => False)
 | .del sc n ls, [.c (.mp l), k] => (match h[l]?, keyDV ls sc n k with
  | some (.mp v es), some kd => ∀ r, mfind sc n ls kd es 0 = r → vDel es (K (.tup []) h) (fun es' => K (.tup []) (h.set l (.mp (v + 1) es'))) r
  | _, _ => False)
 | .lnm, [.c (.mp l)] => (match h[l]? with
  | some (.mp _ es) => ∀ c : Int, c = es.length → K (.c (.d (.int .i64 c))) h
  | _ => False)
 | .mm true, [.c (.d (.int .i64 a)), .c (.d (.int .i64 b))] => ∀ c : Int, (a ≤ c ∧ b ≤ c ∧ (c = a ∨ c = b)) → K (.c (.d (.int .i64 c))) h
 | .mm false, [.c (.d (.int .i64 a)), .c (.d (.int .i64 b))] => ∀ c : Int, (c ≤ a ∧ c ≤ b ∧ (c = a ∨ c = b)) → K (.c (.d (.int .i64 c))) h
 | .lit d, [] => K (.c (.d d)) h
 | .mki t, [.c c] => K (.c (.fn false (4294967296 + t) [c])) h
 | .mki t, [.agg l] => K (.c (.fn true (4294967296 + t) l)) h
 | .tya t ok z, [.c (.fn b f caps)] => (match tyaV t ok z b f caps with
  | some v => K v h
  | none => False)
 | .clr sz z, [.c (.arr l v i n)] => (match h[l]? with
  | some (.da r v' sz' es) => (match Nat.beq sz' sz with
   | true => (Unit → v' = v) ∧ ∀ es', es' = es.take i ++ (List.replicate n z ++ es.drop (i + n)) → K (.tup []) (h.set l (.da r v' sz es'))
   | false => False)
  | _ => False)
 | _, _ => False
theorem vMo_sound {o : MOp} {avs : List AV} {h : Hp} {K : AV → Hp → Prop} (hv : vMo o avs h K) : ∃ v h', mstep h o avs = some (v, h') ∧ K v h' := by
 unfold vMo at hv
 split at hv
 ·rename_i sz bytes z sz' l n
  split at hv
  ·rename_i q
   have q : sz' = sz := by simpa [Nat.beq_eq] using q
   subst q
   obtain ⟨c1, c2⟩ := hv.1 ()
   exact ⟨_, _, by simp only [mstep]; rw [if_pos ⟨trivial, c1, c2⟩], hv.2 _ _ rfl rfl⟩
  ·exact hv.elim
 ·exact ⟨_, _, by simp only [mstep], hv⟩
 ·rename_i sc n ls ok z l k
  split at hv
  ·rename_i ver es kd h1 h2
   have hv := hv _ rfl
   cases hm : mfind sc n ls kd es 0 with
   | none => rw [hm] at hv; exact hv.elim
   | some r =>
    rw [hm] at hv
    cases r with
    | none => exact ⟨_, _, by simp only [mstep, h1, h2, hm], hv⟩
    | some p => obtain ⟨j, v⟩ := p; exact ⟨_, _, by simp only [mstep, h1, h2, hm], hv⟩
  ·exact hv.elim
 ·rename_i sc n ls ok z es k
  split at hv
  ·rename_i kd h1
   obtain ⟨h2, hv⟩ := hv
   have hv := hv _ rfl
   cases hm : hasK sc n ls kd es with
   | none => rw [hm] at hv; exact hv.elim
   | some b =>
    rw [hm] at hv
    cases b with
    | false => exact ⟨_, _, by simp only [mstep, h1, h2, hm], hv⟩
    | true => exact ⟨_, _, by simp only [mstep, h1, h2, hm], hv⟩
  ·exact hv.elim
 ·rename_i sc n ls ok z k
  split at hv
  ·rename_i kd h1
   exact ⟨_, _, by simp only [mstep, h1], hv⟩
  ·exact hv.elim
 ·rename_i sc n ls l k x
  split at hv
  ·rename_i kd vd h1 hk hx
   split at hv
   ·rename_i ver es hl
    have hv := hv _ rfl
    cases hm : mfind sc n ls kd es 0 with
    | none => rw [hm] at hv; exact hv.elim
    | some r =>
     rw [hm] at hv
     cases r with
     | none => exact ⟨_, _, by simp only [mstep, hk, hx, hl, hm], hv _ rfl⟩
     | some p => obtain ⟨j, v⟩ := p; exact ⟨_, _, by simp only [mstep, hk, hx, hl, hm], hv _ rfl⟩
   ·exact hv.elim
  ·exact hv.elim
 ·rename_i sc n ls l k
  split at hv
  ·rename_i ver es kd h1 h2
   have hv := hv _ rfl
   cases hm : mfind sc n ls kd es 0 with
   | none => rw [hm] at hv; exact hv.elim
   | some r =>
    rw [hm] at hv
    cases r with
    | none => exact ⟨_, _, by simp only [mstep, h1, h2, hm], hv⟩
    | some p => obtain ⟨j, v⟩ := p; exact ⟨_, _, by simp only [mstep, h1, h2, hm], hv _ rfl⟩
  ·exact hv.elim
 ·rename_i l
  split at hv
  ·rename_i ver es h1
   exact ⟨_, _, by simp only [mstep, h1], hv _ rfl⟩
  ·exact hv.elim
 ·rename_i a b
  refine ⟨_, _, by simp only [mstep, if_true]; rfl, hv _ ?_⟩
  split <;> omega
 ·rename_i a b
  refine ⟨_, _, by simp only [mstep, if_true, Bool.false_eq_true, if_false]; rfl, hv _ ?_⟩
  split <;> omega
 ·exact ⟨_, _, by simp only [mstep], hv⟩
 ·exact ⟨_, _, by simp only [mstep], hv⟩
 ·exact ⟨_, _, by simp only [mstep], hv⟩
 ·split at hv
  ·rename_i v hs
   have hs := tyaV_eq hs
   exact ⟨_, _, by simp only [mstep, hs, Option.map_some], hv⟩
  ·exact hv.elim
 ·rename_i sz z l v i n
  split at hv
  ·rename_i r v' sz' es hl
   split at hv
   ·rename_i q
    have q : sz' = sz := by simpa [Nat.beq_eq] using q
    subst q
    have hvv := hv.1 ()
    subst hvv
    exact ⟨_, _, by simp only [mstep, hl, and_self, if_true], hv.2 _ rfl⟩
   ·exact hv.elim
  ·exact hv.elim
 ·exact hv.elim
def vcOp0 (P : Program) (Λ : Len) (m : Nat) (d : Bool) (op : AOp) (L : Lv) (h : Hp) (K : Lv → AV → Hp → Prop) : Prop :=
 match op with
 | .mv x => K L (evN L x) h
 | .pick c a b => match evN L c with
  | .c (.d (.bool t)) => (match t with
   | true => K L (evN L a) h
   | false => K L (evN L b) h)
  | _ => False
 | .ld x none => vRd h (evN L x) fun cs => match cs with
  | c :: _ => K L (.c c) h
  | [] => False
 | .ld x (some n) => vRd h (evN L x) fun cs => n ≤ cs.length ∧ K L (.agg (cs.take n)) h
 | .st x v n => match cells (evN L v) with
  | some cs => cs.length = n ∧ (Unit → cellsOk h cs = true) ∧ vSt h (evN L x) cs fun h' => K L (.c .u) h'
  | none => False
 | .bin bo a b => vBin bo (evN L a) (evN L b) fun v => K L v h
 | .beq ne a b => match evN L a, evN L b with
  | .c (.d (.bool x)), .c (.d (.bool y)) => (match x, y with
   | true, true => K L (.c (.d (.bool (!ne)))) h
   | false, false => K L (.c (.d (.bool (!ne)))) h
   | true, false => K L (.c (.d (.bool ne))) h
   | false, true => K L (.c (.d (.bool ne))) h)
  | _, _ => False
 | .eqa ne n ls a b => match evN L a, evN L b with
  | .agg xs, .agg ys => xs.length = n ∧ ys.length = n ∧ (match eqP xs ys ls with
   | some p => (p → K L (.c (.d (.bool (!ne)))) h) ∧ (¬ p → K L (.c (.d (.bool ne))) h)
   | none => False)
  | _, _ => False
 | .un .not x => match evN L x with
  | .c (.d (.bool b)) => (match b with
   | true => K L (.c (.d (.bool false))) h
   | false => K L (.c (.d (.bool true))) h)
  | _ => False
 | .isnil kd ne x => (match kd, d, evN L x with
  | 0, false, .c (.d (.list false _ l)) => K L (.c (.d (.bool ne))) h ∧ (l = [] → K L (.c (.d (.bool (!ne)))) h)
  | kd, _, v => match isNil h kd v with
   | some b => (match b with
    | true => K L (.c (.d (.bool (!ne)))) h
    | false => K L (.c (.d (.bool ne))) h)
   | none => False)
 | .cvi k x => match evN L x with
  | .c (.d (.int _ n)) => ∀ c, c = k.wrap n → K L (.c (.d (.int k c))) h
  | _ => False
 | .sl sz x lo hi mx => match ointN L lo, ointN L hi, ointN L mx with
  | some lo, some hi, some mx => (match evN L x with
   | .c (.arr l v i n) => (match h[l]? with
    | some (.da _ v' sz' _) => (match Nat.beq sz' sz with
     | true => (Unit → v' = v) ∧ vSl Λ sz (.c (.arr l v i n)) lo hi mx fun r => K L r h
     | false => False)
    | _ => False)
   | xv => vSl Λ sz xv lo hi mx fun r => K L r h)
  | _, _, _ => False
 | .ias sz x i => match evN L i with
  | .c (.d (.int _ n)) => vIx Λ h sz (evN L x) n fun r => K L r h
  | _ => False
 | .iaa n sz x (.t i) => match lkN L i with
  | .c (.d (.int _ k)) => (Unit → 0 ≤ k ∧ k < nI n) ∧ vAll k (fun j => match evN L x with
   | .c (.rp cs) => K L (.c (.rp (cs.drop (j * sz)))) h
   | .c (.ptr l v p q) => (match solid h (.ptr l v p q) with
    | true => K L (.c (.ptr l v p (q + j * sz))) h
    | false => False)
   | _ => False) n
  | _ => False
 | .ixa n sz ag x (.t i) => match lkN L i with
  | .c (.d (.int _ k)) => (Unit → 0 ≤ k ∧ k < nI n) ∧ vAll k (fun j => match evN L x with
   | .agg l => (match ag with
    | true => (match Nat.ble (j * sz + sz) l.length with
     | true => K L (.agg ((l.drop (j * sz)).take sz)) h
     | false => False)
    | false => (match l[j * sz]? with
     | some c => K L (.c c) h
     | none => False))
   | _ => False) n
  | _ => False
 | .len x => match d, evN L x with
  | false, .c (.arr l v _ n) => (match h[l]? with
   | some (.da _ v' _ _) => (Unit → v' = v) ∧ ∀ c : Int, c = nI n → c ≤ 9223372036854775807 → K L (.c (.d (.int .i64 c))) h
   | _ => False)
  | d, xv => match view h xv with
  | some (_, l) => (match d with
   | true => K L (.c (.d (.int .i64 (Λ l)))) h
   | false => Λ l ≤ 9223372036854775807 → K L (.c (.d (.int .i64 (Λ l)))) h)
  | none => False
 | .app sz bytes _ x y => match view h (evN L y) with
  | some (sz', ys) => (match Nat.beq sz' sz with
   | true => vApp h sz bytes (evN L x) ys (K L)
   | false => False)
  | none => False
 | .mks sz bytes z l c => match evN L l, evN L c with
  | .c (.d (.int _ n)), .c (.d (.int _ m)) => (Unit → 0 ≤ n ∧ n ≤ m ∧ m ≤ 9223372036854775807 ∧ m.toNat * bytes ≤ 140737488355328) ∧
    ∀ k es, k = n.toNat → es = List.replicate n.toNat z → K L (.c (.arr h.length 0 0 k)) (h ++ [.da true 0 sz es])
  | _, _ => False
 | .bsl sz z n ps => match elemsOf h (lkN L) ps with
  | some (as, h1) => (match fillE sz (List.replicate n z) as with
   | some es => (d = true → h1 = h) ∧ (n * sz ≤ 16777216 ∧ n ≤ 16777216) ∧ K L (.c (.arr h1.length 0 0 n)) (h1 ++ [.da true 0 sz es])
   | none => False)
  | none => False
 | .mo o xs => vMo o (evsN L xs) h (K L)
 | .call f xs => CallS P m d L h f xs K
 | .callv x xs => match d, evN L x with
  | false, .c (.fn b f caps) => (match Nat.blt f 4294967296 with
   | true => FnOk P f ∧ CallV P h f (bArgs b (evsN L xs) (caps.map .c)) (K L)
   | false => False)
  | false, .c (.d (.yl l)) => NoFn P l ∧ CallV P h (8589934592 + l) (evsN L xs) (K L)
  | _, _ => False
 | .ivk rows x xs => match d, evN L x with
  | false, .c (.fn b f caps) => (match Nat.beq (f / 4294967296) 1 with
   | false => False
   | true => (match ivRow rows (f % 4294967296), payA b caps with
    | some (g, k), some pv => (match rcvA h pv k with
     | some rv => CallV P h g (rv :: evsN L xs) (K L)
     | none => False)
    | _, _ => False))
  | _, _ => False
 | op => match astep (lkN L) h op with
  | some (v, h') => K L v h'
  | none => False
def vcOp (P : Program) (Λ : Len) (m : Nat) (d : Bool) (op : AOp) (L : Lv) (h : Hp) (K : Lv → AV → Hp → Prop) : Prop :=
 match d with
 | true => match arR L op with
  | true => vAr op L h (K L)
  | false => vcOp0 P Λ m true op L h K
 | false => match arOp L h op with
  | .no => vcOp0 P Λ m false op L h K
  | .yes => vAr op L h (K L)
  | .both => (Unit → vcOp0 P Λ m false op L h K) ∨ (Unit → vAr op L h (K L))
inductive Did (P : Program) (m : Nat) (d : Bool) (op : AOp) : Lv → Hp → (Lv → AV → Hp → Prop) → Prop
 | wk {L : Lv} {h : Hp} {L1 : Lv} {h1 : Hp} {K : Lv → AV → Hp → Prop} (hd : d = false) (hw : Wk m L h L1 h1) (k : Did P m d op L1 h1 K) : Did P m d op L h K
 | step {L : Lv} {h : Hp} {K : Lv → AV → Hp → Prop} (v : AV) (h' : Hp) (hs : astep (lkL L) h op = some (v, h')) (hd : d = true → cls op = 1 → ∃ k, h' = h ++ [k]) (k : K L v h') : Did P m d op L h K
 | call {L : Lv} {h : Hp} {K : Lv → AV → Hp → Prop} (f : Nat) (xs : List X) (ho : op = .call f xs) (hc : CallS P m d L h f xs K) : Did P m d op L h K
 | len {L : Lv} {h : Hp} {K : Lv → AV → Hp → Prop} (x : X) (sz : Nat) (l : List (List D)) (ho : op = .len x) (hd : d = false) (hx : view h (ev (lkL L) x) = some (sz, l)) (k : l.length ≤ 9223372036854775807 → K L (.c (.d (.int .i64 l.length))) h) : Did P m d op L h K
 | lenA {L : Lv} {h : Hp} {K : Lv → AV → Hp → Prop} (x : X) (l v i n : Nat) (ho : op = .len x) (hd : d = false) (hx : ev (lkL L) x = .c (.arr l v i n)) (hs : solid h (.arr l v i n) = true) (k : n ≤ 9223372036854775807 → K L (.c (.d (.int .i64 n))) h) : Did P m d op L h K
 | nil {L : Lv} {h : Hp} {K : Lv → AV → Hp → Prop} (ne : Bool) (x : X) (nl : Bool) (sz : Nat) (l : List (List D)) (ho : op = .isnil 0 ne x) (hd : d = false) (hx : ev (lkL L) x = .c (.d (.list nl sz l))) (k : ∀ b : Bool, (b = true → l = []) → K L (.c (.d (.bool (if ne then !b else b)))) h) : Did P m d op L h K
 | callv {L : Lv} {h : Hp} {K : Lv → AV → Hp → Prop} (x : X) (xs : List X) (b : Bool) (f : Nat) (caps : List CV) (ho : op = .callv x xs) (hd : d = false) (hx : ev (lkL L) x = .c (.fn b f caps)) (hlt : Nat.blt f 4294967296 = true) (hf : FnOk P f) (hc : CallV P h f (bArgs b (evsN L xs) (caps.map .c)) (K L)) : Did P m d op L h K
 | yl {L : Lv} {h : Hp} {K : Lv → AV → Hp → Prop} (x : X) (xs : List X) (l : Nat) (ho : op = .callv x xs) (hd : d = false) (hx : ev (lkL L) x = .c (.d (.yl l))) (hn : NoFn P l) (hc : CallV P h (8589934592 + l) (evsN L xs) (K L)) : Did P m d op L h K
 | ivk {L : Lv} {h : Hp} {K : Lv → AV → Hp → Prop} (rows : List (Nat × Nat × Option (Option Nat))) (x : X) (xs : List X) (b : Bool) (t : Nat) (caps : List CV) (g : Nat) (k : Option (Option Nat)) (pv rv : AV) (ho : op = .ivk rows x xs) (hd : d = false) (hx : ev (lkL L) x = .c (.fn b (4294967296 + t) caps))
   (hr : ivRow rows t = some (g, k)) (hp : payA b caps = some pv) (hv : rcvA h pv k = some rv) (hc : CallV P h g (rv :: evsN L xs) (K L)) : Did P m d op L h K
 | ar {L : Lv} {h : Hp} {K : Lv → AV → Hp → Prop} (K0 : AV → Hp → Prop) (hd : d = false) (ha : vAr op L h K0) (k : ∀ v h', K0 v h' → K L v h') : Did P m d op L h K
theorem lkN_fun (L : Lv) : lkN L = lkL L := funext (lkN_eq L)
theorem bool_ne (ne x : Bool) : (if ne = true then !(x == x) else x == x) = !ne := by cases ne <;> cases x <;> rfl
theorem vcOp0_sound {P : Program} {Λ : Len} (hΛ : ∀ l, Λ l = (l.length : Int)) {m : Nat} {d : Bool} {op : AOp} {L : Lv} {h : Hp} {K : Lv → AV → Hp → Prop} (hv : vcOp0 P Λ m d op L h K) : Did P m d op L h K := by
 cases op
 case mv x => rw [vcOp0, evN_eq] at hv; exact .step _ _ rfl (by simp [cls]) hv
 case pick c a b =>
  simp only [vcOp0, evN_eq] at hv
  split at hv
  ·rename_i t ht
   cases t
   ·exact .step _ _ (by simp [astep, ht]) (by simp [cls]) hv
   ·exact .step _ _ (by simp [astep, ht]) (by simp [cls]) hv
  ·exact hv.elim
 case ld x n =>
  cases n with
  | none =>
   simp only [vcOp0, evN_eq] at hv
   obtain ⟨cs, hrd, hk⟩ := vRd_sound hv
   split at hk
   ·exact .step _ _ (by simp only [astep, hrd]) (by simp [cls]) hk
   ·exact hk.elim
  | some n =>
   simp only [vcOp0, evN_eq] at hv
   obtain ⟨cs, hrd, hk⟩ := vRd_sound hv
   exact .step _ _ (by simp only [astep, hrd, hk.1, if_true]) (by simp [cls]) hk.2
 case st x v n =>
  simp only [vcOp0, evN_eq] at hv
  split at hv
  ·rename_i cs hcs
   obtain ⟨h1, h2, h3⟩ := hv
   have h2 := h2 ()
   obtain ⟨h', hw, hk⟩ := vSt_sound h3
   refine .step _ h' ?_ (by simp [cls]) hk
   rcases hw with hw | ⟨hw1, hw2⟩
   ·simp [astep, hcs, h1, h2, hw]
   ·simp [astep, hcs, h1, h2, hw1, hw2]
  ·exact hv.elim
 case bin bo a b =>
  simp only [vcOp0, evN_eq] at hv
  obtain ⟨x, y, r, h1, h2, h3, h4⟩ := vBin_sound hv
  exact .step _ _ (by simp only [astep, h1, h2, h3, Option.map_some]) (by simp [cls]) h4
 case beq ne a b =>
  simp only [vcOp0, evN_eq] at hv
  split at hv
  ·rename_i x y h1 h2
   split at hv
   ·exact .step _ _ (by simp only [astep, h1, h2, bool_ne]) (by simp [cls]) hv
   ·exact .step _ _ (by simp only [astep, h1, h2, bool_ne]) (by simp [cls]) hv
   ·exact .step _ _ (by simp only [astep, h1, h2]; cases ne <;> rfl) (by simp [cls]) hv
   ·exact .step _ _ (by simp only [astep, h1, h2]; cases ne <;> rfl) (by simp [cls]) hv
  ·exact hv.elim
 case eqa ne n ls a b =>
  simp only [vcOp0, evN_eq] at hv
  split at hv
  ·rename_i xs ys h1 h2
   obtain ⟨h3, h4, hv⟩ := hv
   split at hv
   ·rename_i p hp
    obtain ⟨r, hr, hi⟩ := eqP_sound hp
    by_cases hpp : p
    ·have : r = true := hi.2 hpp
     subst this
     exact .step _ _ (by simp only [astep, h1, h2, h3, h4, and_self, if_true, hr, Option.map_some]; cases ne <;> rfl) (by simp [cls]) (hv.1 hpp)
    ·have : r = false := by cases r; rfl; exact absurd (hi.1 rfl) hpp
     subst this
     exact .step _ _ (by simp only [astep, h1, h2, h3, h4, and_self, if_true, hr, Option.map_some]; cases ne <;> rfl) (by simp [cls]) (hv.2 hpp)
   ·exact hv.elim
  ·exact hv.elim
 case un o x =>
  cases o
  case not =>
   simp only [vcOp0, evN_eq] at hv
   split at hv
   ·rename_i b hb
    cases b
    ·exact .step _ _ (by simp [astep, hb, unD]) (by simp [cls]) hv
    ·exact .step _ _ (by simp [astep, hb, unD]) (by simp [cls]) hv
   ·exact hv.elim
  all_goals
   simp only [vcOp0, lkN_fun] at hv
   split at hv
   ·rename_i v h' hs; exact .step v h' hs (by simp [cls]) hv
   ·exact hv.elim
 case isnil kd ne x =>
  simp only [vcOp0, evN_eq] at hv
  split at hv
  ·rename_i sz l hx
   refine .nil ne x false sz l rfl rfl hx fun b hb => ?_
   cases b with
   | false => cases ne <;> exact hv.1
   | true => cases ne <;> exact hv.2 (hb rfl)
  ·split at hv
   ·rename_i b hb
    cases b with
    | true => exact .step _ _ (by simp only [astep, hb, Option.map_some]; rfl) (by simp [cls]) (by cases ne <;> exact hv)
    | false => exact .step _ _ (by simp only [astep, hb, Option.map_some]; rfl) (by simp [cls]) (by cases ne <;> exact hv)
   ·exact hv.elim
 case cvi k x =>
  simp only [vcOp0, evN_eq] at hv
  split at hv
  ·rename_i k0 n hn
   exact .step _ _ (by simp only [astep, hn]) (by simp [cls]) (hv _ rfl)
  ·exact hv.elim
 case sl sz x lo hi mx =>
  simp only [vcOp0, evN_eq, ointN_eq] at hv
  split at hv
  ·rename_i lo' hi' mx' h1 h2 h3
   split at hv
   ·rename_i l v i n hx
    split at hv
    ·rename_i rl v' sz' es hes
     split at hv
     ·rename_i q2
      have q1 : v' = v := hv.1 ()
      have q2 : sz' = sz := by simpa [Nat.beq_eq] using q2
      subst q1 q2
      obtain ⟨r, hr, hk⟩ := vSl_sound hΛ hv.2
      exact .step _ _ (by simp only [astep, h1, h2, h3, hx, hes, and_self, if_true, hr, Option.map_some]) (by simp [cls]) hk
     ·exact hv.elim
    ·exact hv.elim
   ·rename_i hne
    obtain ⟨r, hr, hk⟩ := vSl_sound hΛ hv
    refine .step _ _ ?_ (by simp [cls]) hk
    simp only [astep, h1, h2, h3]
    rw [hr]; rfl
  ·exact hv.elim
 case ias sz x i =>
  simp only [vcOp0, evN_eq] at hv
  split at hv
  ·rename_i k n hn
   obtain ⟨r, hr, hk⟩ := vIx_sound hΛ hv
   exact .step _ _ (by simp only [astep, hn, hr, Option.map_some]) (by simp [cls]) hk
  ·exact hv.elim
 case iaa n sz x i =>
  cases i with
  | t i =>
   simp only [vcOp0, evN_eq, lkN_eq] at hv
   split at hv
   ·rename_i kk k hk
    have h01 := hv.1 ()
    rw [nI_eq] at h01
    have hv := vAll_sound hv.2 h01.1 h01.2
    have hk' : ev (lkL L) (.t i) = .c (.d (.int kk k)) := hk
    split at hv
    ·rename_i cs hx
     exact .step _ _ (by simp only [astep, hk', h01, and_self, if_true, hx]) (by simp [cls]) hv
    ·rename_i l v p q hx
     split at hv
     ·rename_i hs
      exact .step _ _ (by simp only [astep, hk', h01, and_self, if_true, hx, hs]) (by simp [cls]) hv
     ·exact hv.elim
    ·exact hv.elim
   ·exact hv.elim
  | k v =>
   simp only [vcOp0, lkN_fun] at hv
   split at hv
   ·rename_i v h' hs; exact .step v h' hs (by simp [cls]) hv
   ·exact hv.elim
 case ixa n sz ag x i =>
  cases i with
  | t i =>
   simp only [vcOp0, evN_eq, lkN_eq] at hv
   split at hv
   ·rename_i kk k hk
    have h01 := hv.1 ()
    rw [nI_eq] at h01
    have hv := vAll_sound hv.2 h01.1 h01.2
    have hk' : ev (lkL L) (.t i) = .c (.d (.int kk k)) := hk
    split at hv
    ·rename_i l hx
     split at hv
     ·split at hv
      ·rename_i hle
       have hle := Nat.le_of_ble_eq_true hle
       exact .step _ _ (by simp only [astep, hk', h01, and_self, if_true, hx, hle]) (by simp [cls]) hv
      ·exact hv.elim
     ·split at hv
      ·rename_i c hcc
       exact .step _ _ (by simp only [astep, hk', h01, and_self, if_true, hx, hcc, Bool.false_eq_true, if_false, Option.map_some]) (by simp [cls]) hv
      ·exact hv.elim
    ·exact hv.elim
   ·exact hv.elim
  | k v =>
   simp only [vcOp0, lkN_fun] at hv
   split at hv
   ·rename_i v h' hs; exact .step v h' hs (by simp [cls]) hv
   ·exact hv.elim
 case len x =>
  simp only [vcOp0, evN_eq] at hv
  split at hv
  ·rename_i l v i n hx
   split at hv
   ·rename_i r v' sz es hes
    have q : v' = v := hv.1 ()
    subst q
    exact .lenA x l v' i n rfl rfl hx (by simp [solid, hes]) fun hm => hv.2 _ (nI_eq _).symm (by omega)
   ·exact hv.elim
  ·split at hv
   rotate_left
   ·exact hv.elim
   rename_i sz l hl
   split at hv
   ·rw [hΛ] at hv; exact .step _ _ (by simp only [astep, lenv_view hl]) (by simp [cls]) hv
   ·rw [hΛ] at hv; exact .len x sz l rfl rfl hl fun hm => hv (by omega)
 case app sz bytes z x y =>
  simp only [vcOp0, evN_eq] at hv
  split at hv
  ·rename_i sz' ys hys
   split at hv
   ·rename_i q1
    have q1 : sz' = sz := by simpa [Nat.beq_eq] using q1
    subst q1
    obtain ⟨r, h', hr, hk⟩ := vApp_sound hv
    exact .step _ _ (by simp only [astep, hys, if_true]; exact hr) (by simp [cls]) hk
   ·exact hv.elim
  ·exact hv.elim
 case mks sz bytes z l c =>
  simp only [vcOp0, evN_eq] at hv
  split at hv
  ·rename_i k n k' m h1 h2
   exact .step _ _ (by simp only [astep, h1, h2]; rw [if_pos (hv.1 ())]) (fun _ _ => ⟨_, rfl⟩) (hv.2 _ _ rfl rfl)
  ·exact hv.elim
 case bsl sz z n ps =>
  simp only [vcOp0, lkN_fun] at hv
  split at hv
  ·rename_i as h1 has
   split at hv
   ·rename_i es hes
    exact .step _ _ (by simp only [astep, has, hes]; rw [if_pos hv.2.1]) (fun hd _ => ⟨_, by rw [hv.1 hd]⟩) hv.2.2
   ·exact hv.elim
  ·exact hv.elim
 case mo o xs =>
  simp only [vcOp0, evsN_eq] at hv
  obtain ⟨v, h', hs, hk⟩ := vMo_sound hv
  exact .step v h' hs (by cases o <;> simp [cls]) hk
 case call f xs => exact .call f xs rfl hv
 case callv x xs =>
  simp only [vcOp0, evN_eq] at hv
  split at hv
  ·rename_i b f caps hx
   split at hv
   ·rename_i hlt
    exact .callv x xs b f caps rfl rfl hx hlt hv.1 hv.2
   ·exact hv.elim
  ·rename_i l hx
   exact .yl x xs l rfl rfl hx hv.1 hv.2
  ·exact hv.elim
 case ivk rows x xs =>
  simp only [vcOp0, evN_eq] at hv
  split at hv
  ·rename_i b f caps hx
   split at hv
   ·exact hv.elim
   ·rename_i hlt
    have e0 := isFn_eq hlt
    split at hv
    ·rename_i g k pv hr hp
     split at hv
     ·rename_i rv hrv
      exact .ivk rows x xs b (f % 4294967296) caps g k pv rv rfl rfl (by rw [← e0]; exact hx) hr hp hrv hv
     ·exact hv.elim
    ·exact hv.elim
  ·exact hv.elim
 case box x =>
  simp only [vcOp0, lkN_fun] at hv
  split at hv
  ·rename_i v h' hs
   refine .step v h' hs (fun _ _ => ?_) hv
   simp only [astep] at hs
   split at hs
   ·split at hs
    ·cases hs; exact ⟨_, rfl⟩
    ·cases hs
   ·cases hs
  ·exact hv.elim
 all_goals
  simp only [vcOp0, lkN_fun] at hv
  split at hv
  ·rename_i v h' hs; exact .step v h' hs (by simp [cls]) hv
  ·exact hv.elim
theorem vcOp_sound {P : Program} {Λ : Len} (hΛ : ∀ l, Λ l = (l.length : Int)) {m : Nat} {d : Bool} {op : AOp} {L : Lv} {h : Hp} {K : Lv → AV → Hp → Prop} (hv : vcOp P Λ m d op L h K) : Did P m d op L h K := by
 cases d with
 | true =>
  simp only [vcOp] at hv
  split at hv
  ·rename_i ha
   obtain ⟨v, h', h1, h2, h3⟩ := vAr_step ha hv
   exact .step v h' h1 (fun _ hc => absurd hc h2) h3
  ·exact vcOp0_sound hΛ hv
 | false =>
  simp only [vcOp] at hv
  split at hv
  ·exact vcOp0_sound hΛ hv
  ·exact .ar _ rfl hv fun _ _ hk => hk
  ·rcases hv with hv | hv
   ·exact vcOp0_sound hΛ (hv ())
   ·exact .ar _ rfl (hv ()) fun _ _ hk => hk
def md (m : Nat) : Bool → Nat
 | true => m + 1
 | false => m
def vcOps (P : Program) (Λ : Len) (m : Nat) (d : Bool) : List AO → Lv → Hp → (Lv → Hp → Prop) → Prop
 | [], L, h, K => K L h
 | o :: r, L, h, K => match o.g with
  | none => vcOp P Λ (md m d) d o.op L h fun L' v h' => vcOps P Λ m d r (putL L' o.dst v) h' K
  | some (s, want) => match lkN L s with
   | .c (.d (.bool b)) => (match b, want with
    | true, true => vcOp P Λ (md m d) d o.op L h fun L' v h' => vcOps P Λ m d r (putL L' o.dst v) h' K
    | false, false => vcOp P Λ (md m d) d o.op L h fun L' v h' => vcOps P Λ m d r (putL L' o.dst v) h' K
    | true, false => vcOps P Λ m d r (putL L o.dst (.tup [])) h K
    | false, true => vcOps P Λ m d r (putL L o.dst (.tup [])) h K)
   | .tup [] => vcOps P Λ m d r (putL L o.dst (.tup [])) h K
   | _ => False
theorem vcOps_cons {P : Program} {Λ : Len} {m : Nat} {d : Bool} {o : AO} {r : List AO} {L : Lv} {h : Hp} {K : Lv → Hp → Prop} (hv : vcOps P Λ m d (o :: r) L h K) :
  (gv (lkL L) o.g = some true ∧ vcOp P Λ (md m d) d o.op L h fun L' v h' => vcOps P Λ m d r (putL L' o.dst v) h' K) ∨ (gv (lkL L) o.g = some false ∧ vcOps P Λ m d r (putL L o.dst (.tup [])) h K) := by
 simp only [vcOps] at hv
 split at hv
 ·rename_i hg; exact .inl ⟨by simp [hg, gv], hv⟩
 ·rename_i s want hg
  split at hv
  ·rename_i b hb
   rw [lkN_eq] at hb
   have hgv : gv (lkL L) o.g = some (b == want) := by simp [hg, gv, lk, hb]
   split at hv
   ·exact .inl ⟨hgv, hv⟩
   ·exact .inl ⟨hgv, hv⟩
   ·exact .inr ⟨hgv, hv⟩
   ·exact .inr ⟨hgv, hv⟩
  ·rename_i hb
   rw [lkN_eq] at hb
   exact .inr ⟨by simp [hg, gv, lk, hb], hv⟩
  ·exact hv.elim
theorem CallS.mono {P : Program} {m : Nat} {d : Bool} {L : Lv} {h : Hp} {f : Nat} {xs : List X} {K K' : Lv → AV → Hp → Prop} (hc : CallS P m d L h f xs K) (hk : ∀ L v h', K L v h' → K' L v h') : CallS P m d L h f xs K' := by
 induction hc with
 | pure hp k => exact .pure hp (hk _ _ _ k)
 | ro hm hp k => exact .ro hm hp (hk _ _ _ k)
 | fn hf => exact .fn (hf.mono (hk _))
 | wk hw _ ih => exact .wk hw (ih hk)
theorem CallV.mono {P : Program} {h : Hp} {f : Nat} {args : List AV} {K K' : AV → Hp → Prop} (hc : CallV P h f args K) (hk : ∀ v h', K v h' → K' v h') : CallV P h f args K' := by
 cases hc with
 | pure hp k => exact .pure hp (hk _ _ k)
 | fn hf => exact .fn (hf.mono hk)
theorem Did.mono {P : Program} {m : Nat} {d : Bool} {op : AOp} {L : Lv} {h : Hp} {K K' : Lv → AV → Hp → Prop} (hd : Did P m d op L h K) (hk : ∀ L v h', K L v h' → K' L v h') : Did P m d op L h K' := by
 induction hd with
 | wk hd hw k ih => exact .wk hd hw (ih hk)
 | step v h' hs hd k => exact .step v h' hs hd (hk _ _ _ k)
 | call f xs ho hc => exact .call f xs ho (hc.mono hk)
 | len x sz l ho hd hx k => exact .len x sz l ho hd hx fun hm => hk _ _ _ (k hm)
 | lenA x l v i n ho hd hx hs k => exact .lenA x l v i n ho hd hx hs fun hm => hk _ _ _ (k hm)
 | nil ne x nl sz l ho hd hx k => exact .nil ne x nl sz l ho hd hx fun b hb => hk _ _ _ (k b hb)
 | callv x xs b f caps ho hd hx hlt hf hc => exact .callv x xs b f caps ho hd hx hlt hf (hc.mono (hk _))
 | yl x xs l ho hd hx hn hc => exact .yl x xs l ho hd hx hn (hc.mono (hk _))
 | ivk rows x xs b t caps g k pv rv ho hd hx hr hp hv hc => exact .ivk rows x xs b t caps g k pv rv ho hd hx hr hp hv (hc.mono (hk _))
 | ar K0 hd ha k => exact .ar K0 hd ha fun v h' h0 => hk _ _ _ (k v h' h0)
def runO (P : Program) (m : Nat) (d : Bool) : List AO → Lv → Hp → (Lv → Hp → Prop) → Prop
 | [], L, h, K => K L h
 | o :: r, L, h, K => (gv (lkL L) o.g = some true ∧ Did P (md m d) d o.op L h fun L' v h' => runO P m d r (putL L' o.dst v) h' K) ∨ (gv (lkL L) o.g = some false ∧ runO P m d r (putL L o.dst (.tup [])) h K)
theorem vcOps_runO {P : Program} {Λ : Len} (hΛ : ∀ l, Λ l = (l.length : Int)) {m : Nat} {d : Bool} {K : Lv → Hp → Prop} : ∀ {ops : List AO} {L : Lv} {h : Hp}, vcOps P Λ m d ops L h K → runO P m d ops L h K := by
 intro ops
 induction ops with
 | nil => intro L h hv; exact hv
 | cons o r ih =>
  intro L h hv
  rcases vcOps_cons hv with ⟨h1, h2⟩ | ⟨h1, h2⟩
  ·exact .inl ⟨h1, (vcOp_sound hΛ h2).mono fun L' v h' hk => ih hk⟩
  ·exact .inr ⟨h1, ih h2⟩
end Go.Ab

/-
  The engine: arenas, part b: what an operation on values that lead into an arena does in the model.
-/
namespace Go.Ab
theorem take_get {α : Type} {l t : List α} {i : Nat} (hi : i < l.length) : (l ++ t)[i]? = l[i]? := List.getElem?_append_left hi
theorem refsCs_get {n : Nat} {l : List CV} (h : refsCs n l = true) : ∀ (i : Nat) (x : CV), l[i]? = some x → refsC n x = true := by
 induction l with
 | nil => intro i x hx; simp at hx
 | cons y r ih =>
  intro i x hx
  simp only [refsCs, refsC.refsCs] at h
  split at h
  ·rename_i hy
   cases i with
   | zero => simp at hx; subst hx; exact hy
   | succ i => simp at hx; exact ih h i x hx
  ·cases h
theorem refsC_move {G : Nat → Prop} {w : World} {ι : Io} {h' t : Hp} {v : Value} {x : CV} (hx : CR G w ι (h' ++ t) v x) (hr : refsC h'.length x = true) : CR G w (ι.take h'.length) h' v x := by
 induction hx with
 | u => exact .u _
 | d _ _ hd => exact .d _ _ hd
 | cl _ _ _ _ hd hc => exact .cl _ _ _ _ hd hc
 | rp b o cs hG hc => exact .rp b o cs hG hc
 | mp _ l blk hb hk =>
  have hl : l < h'.length := Nat.le_of_ble_eq_true hr
  rw [take_get hl] at hb
  refine .mp _ _ blk hb fun ver es he => ?_
  obtain ⟨b, o, h1, h2⟩ := hk ver es he
  exact ⟨b, o, by rw [List.getElem?_take, if_pos hl]; exact h1, h2⟩
 | it _ l blk hb hk =>
  have hl : l < h'.length := Nat.le_of_ble_eq_true hr
  rw [take_get hl] at hb
  refine .it _ _ blk hb fun m ver es he => ?_
  obtain ⟨b, o, h1, h2⟩ := hk m ver es he
  exact ⟨b, o, by rw [List.getElem?_take, if_pos hl]; exact h1, h2⟩
 | ptr _ l ver i j blk hb ha hk =>
  have hl : l < h'.length := Nat.le_of_ble_eq_true hr
  rw [take_get hl] at hb
  refine .ptr _ _ _ _ _ blk hb ha fun k hk' => ?_
  obtain ⟨b, o, h1, h2⟩ := hk k hk'
  exact ⟨b, o, by rw [List.getElem?_take, if_pos hl]; exact h1, h2⟩
 | arr _ l ver i j blk hb ha hk hk0 =>
  have hl : l < h'.length := Nat.le_of_ble_eq_true hr
  rw [take_get hl] at hb
  refine .arr _ _ _ _ _ blk hb ha (fun sz es he => ?_) hk0
  obtain ⟨b, o, cap, h1, h2⟩ := hk sz es he
  exact ⟨b, o, cap, by rw [List.getElem?_take, if_pos hl]; exact h1, h2⟩
 | fn v b f vs caps hv hn hc ih =>
  simp only [refsC] at hr
  exact .fn v b f vs caps hv hn fun i v c hv hx => ih i v c hv hx (refsCs_get hr i c hx)
theorem refsA_move {G : Nat → Prop} {w : World} {ι : Io} {h' t : Hp} {v : Value} {x : AV} (hx : VR G w ι (h' ++ t) v x) (hr : refsA h'.length x = true) : VR G w (ι.take h'.length) h' v x := by
 cases hx with
 | c _ _ hc => exact .c _ _ (refsC_move hc hr)
 | agg cs l hn hc => exact .agg _ _ hn fun i v x hv hx => refsC_move (hc i v x hv hx) (refsCs_get hr i x hx)
 | tup cs l hn hc =>
  cases l with
  | nil => exact .tup _ _ hn (by simp)
  | cons => simp [refsA] at hr
theorem refsH_get {n : Nat} {h : Hp} (hr : refsH n h = true) : ∀ (i : Nat) (b : Blk), h[i]? = some b → refsB n b = true := by
 induction h with
 | nil => intro i x hx; simp at hx
 | cons y r ih =>
  intro i x hx
  simp only [refsH] at hr
  split at hr
  ·rename_i hy
   cases i with
   | zero => simp at hx; subst hx; exact hy
   | succ i => simp at hx; exact ih hr i x hx
  ·cases hr
theorem refsCs_of' {n : Nat} : ∀ {l : List CV}, (∀ (i : Nat) (x : CV), l[i]? = some x → refsC n x = true) → refsCs n l = true := by
 intro l
 induction l with
 | nil => intro _; rfl
 | cons y r ih =>
  intro h
  simp only [refsCs, refsC.refsCs]
  rw [h 0 y rfl]
  exact ih fun i x hx => h (i + 1) x hx
theorem CR.refs {G : Nat → Prop} {w : World} {ι : Io} {h : Hp} {v : Value} {x : CV} (hx : CR G w ι h v x) : refsC h.length x = true := by
 induction hx with
 | u => rfl
 | d => rfl
 | cl => rfl
 | rp => rfl
 | ptr _ l ver i j blk hb => exact Nat.ble_eq_true_of_le (get_lt hb)
 | arr _ l ver i j blk hb => exact Nat.ble_eq_true_of_le (get_lt hb)
 | mp _ l blk hb => exact Nat.ble_eq_true_of_le (get_lt hb)
 | it _ l blk hb => exact Nat.ble_eq_true_of_le (get_lt hb)
 | fn v b f vs caps hv hn hc ih =>
  simp only [refsC]
  refine refsCs_of' fun i x hx => ?_
  have hi := get_lt hx
  exact ih i (vs[i]'(by omega)) x (Array.getElem?_eq_getElem (by omega)) hx
theorem BR.refs {G : Nat → Prop} {w : World} {ι : Io} {h : Hp} {l : Nat} {k : Blk} (hb : BR G w ι h l k) : refsB h.length k = true := by
 cases k with
 | bx cs =>
  obtain ⟨b, o, c, t, fr, h1, h2, h3, h4, h5⟩ := hb
  refine refsCs_of' fun i x hx => ?_
  obtain ⟨v, _, hc⟩ := h5 i x hx
  exact hc.refs
 | mi m ver es =>
  obtain ⟨b, o, mb, seen, clock, blk, h1, h2, h3, _⟩ := hb
  exact Nat.ble_eq_true_of_le (get_lt h3)
 | _ => rfl
theorem refsH_of' {n : Nat} : ∀ {h : Hp}, (∀ (i : Nat) (k : Blk), h[i]? = some k → refsB n k = true) → refsH n h = true := by
 intro h
 induction h with
 | nil => intro _; rfl
 | cons y r ih =>
  intro hh
  simp only [refsH]
  rw [hh 0 y rfl]
  exact ih fun i x hx => hh (i + 1) x hx
theorem HR.refs {G : Nat → Prop} {w : World} {ι : Io} {h : Hp} (r : HR G ι h w) : refsH h.length h = true := refsH_of' fun i k hk => (r.blk i k hk).refs
theorem HR.cut {G : Nat → Prop} {w : World} {ι : Io} {h' t : Hp} (r : HR G ι (h' ++ t) w) (refs : refsH h'.length h' = true) : HR G (ι.take h'.length) h' w := by
  have hlen := r.len
  simp only [List.length_append] at hlen
  have hι : ∀ l, l < h'.length → (ι.take h'.length)[l]? = ι[l]? := fun l hl => by rw [List.getElem?_take, if_pos hl]
  have hown : ∀ b, owned (ι.take h'.length) h' b → owned ι (h' ++ t) b := fun b ⟨l, k, h2, h3⟩ =>
    ⟨l, k, by rw [take_get (get_lt h2)]; exact h2, own1_io h3 fun _ => (hι l (get_lt h2)).symm⟩
  exact
    { len := by simp; omega
      own := fun l l' b k k' b1 b2 c1 c2 => r.own l l' b k k' (by rw [take_get (get_lt b1)]; exact b1) (by rw [take_get (get_lt b2)]; exact b2)
        (own1_io c1 fun _ => (hι l (get_lt b1)).symm) (own1_io c2 fun _ => (hι l' (get_lt b2)).symm)
      g := fun b hb => ⟨(r.g b hb).1, fun ho => (r.g b hb).2 (hown b ho)⟩
      blk := fun l k hk => by
        have hl := get_lt hk
        have hb := r.blk l k (by rw [take_get hl]; exact hk)
        have hrb := refsH_get refs l k hk
        cases k with
        | dead => trivial
        | am m' => exact hb
        | bx cs =>
          obtain ⟨b, o, c, ty, fr, h1, h2, h3, h4, h5⟩ := hb
          refine ⟨b, o, c, ty, fr, by rw [hι l hl]; exact h1, h2, h3, h4, fun i x hx => ?_⟩
          obtain ⟨v, hv, hc⟩ := h5 i x hx
          exact ⟨v, hv, refsC_move hc (refsCs_get hrb i x hx)⟩
        | mp ver es =>
          obtain ⟨b, o, ces, clock, h1, h2⟩ := hb
          exact ⟨b, o, ces, clock, by rw [hι l hl]; exact h1, h2⟩
        | mi m' ver es =>
          have hm' : m' < h'.length := Nat.le_of_ble_eq_true hrb
          obtain ⟨b, o, mb, seen, clock, blk, h1, h2, h3, h4, h5⟩ := hb
          rw [take_get hm'] at h3
          refine ⟨b, o, mb, seen, clock, blk, by rw [hι l hl]; exact h1, h2, h3, h4, fun all ha => ?_⟩
          obtain ⟨o', ces, g1, g2⟩ := h5 all ha
          exact ⟨o', ces, by rw [hι m' hm']; exact g1, g2⟩
        | da rl v sz es =>
          cases rl with
          | false => exact hb
          | true =>
            obtain ⟨b, o, c, ty, fr, hmx, h1, h2, h3⟩ := hb
            exact ⟨b, o, c, ty, fr, hmx, by rw [hι l hl]; exact h1, h2, h3⟩ }
section
variable {G : Nat → Prop} {w : World} {ι : Io} {h : Hp} {m : Ar} {b : Nat} {x : AB}
theorem HR.am_del (r : HR G ι h w) (h0 : h[0]? = some (.am m)) (b : Nat) : HR G ι (h.set 0 (.am (mdel m b))) w ∧ Ext G ι h w G ι (h.set 0 (.am (mdel m b))) w := by
 have sub : ∀ i x, mdel m b i = some x → m i = some x := fun i x hi => by
  simp only [mdel] at hi; split at hi
  ·cases hi
  ·exact hi
 refine HR.bump r h0 (fun i ⟨x, hx⟩ => ⟨x, sub i x hx⟩) trivial fun i x hx => r.blk 0 _ h0 i x (sub i x hx)
theorem HR.am_add (r : HR G ι h w) (h0 : h[0]? = some (.am m)) (hno : ¬ owned ι h b) (hG : ¬ G b) (hlt : b < w.heap.size) (ha : ABR G w b x) :
    m b = none ∧ HR G ι (h.set 0 (.am (mup m b x))) w ∧ ∀ c, owned ι (h.set 0 (.am (mup m b x))) c → owned ι h c ∨ c = b := by
  have hm : m b = none := by
    cases hm : m b with
    | none => rfl
    | some x => exact absurd (am_owned h0 hm) hno
  have at0 : ∀ c, own1 ι 0 (.am (mup m b x)) c → own1 ι 0 (.am m) c ∨ c = b := by
    intro c ⟨y, hy⟩
    by_cases hc : c = b
    · exact .inr hc
    · rw [mup_ne hc] at hy; exact .inl ⟨y, hy⟩
  have hown : ∀ c, owned ι (h.set 0 (.am (mup m b x))) c → owned ι h c ∨ c = b := by
    intro c ⟨l, k, h1, h2⟩
    rcases get_set h1 with ⟨e1, e2, _⟩ | ⟨_, e1⟩
    · subst e1 e2
      rcases at0 c h2 with e | e
      · exact .inl ⟨0, _, h0, e⟩
      · exact .inr e
    · exact .inl ⟨l, k, e1, h2⟩
  have hkeep : ∀ l k, h[l]? = some k → ∃ k', (h.set 0 (.am (mup m b x)))[l]? = some k' ∧ Kept ι ι w w l k k' := by
    intro l k hk
    by_cases e : l = 0
    · subst e
      rw [h0] at hk; cases hk
      exact ⟨.am (mup m b x), by rw [List.getElem?_set_self (get_lt h0)], trivial⟩
    · exact ⟨k, by rw [List.getElem?_set_ne (fun q => e q.symm)]; exact hk, Kept.refl ι w l k⟩
  refine ⟨hm, ?_, hown⟩
  exact
    { len := by simp [r.len]
      own := by
        intro l l' c k k' h1 h2 h3 h4
        rcases get_set h1 with ⟨e1, e2, _⟩ | ⟨e1, e2⟩ <;> rcases get_set h2 with ⟨f1, f2, _⟩ | ⟨f1, f2⟩
        · omega
        · subst e1 e2
          rcases at0 c h3 with q | q
          · exact r.own _ _ c _ k' h0 f2 q h4
          · subst q; exact absurd ⟨l', k', f2, h4⟩ hno
        · subst f1 f2
          rcases at0 c h4 with q | q
          · exact r.own _ _ c k _ e2 h0 h3 q
          · subst q; exact absurd ⟨l, k, e2, h3⟩ hno
        · exact r.own l l' c k k' e2 f2 h3 h4
      g := fun c hc => ⟨(r.g c hc).1, fun ho => by
        rcases hown c ho with e | e
        · exact (r.g c hc).2 e
        · subst e; exact hG hc⟩
      blk := fun l k hk => by
        rcases get_set hk with ⟨e1, e2, _⟩ | ⟨e1, e2⟩
        · subst e1 e2
          intro c y hy
          by_cases hc : c = b
          · subst hc; rw [mup_at] at hy; cases hy; exact ha
          · rw [mup_ne hc] at hy; exact r.blk 0 _ h0 c y hy
        · exact BR.carry (fun c hc => ⟨hc, rfl⟩) hkeep (r.blk l k e2) rfl fun _ _ => rfl }
theorem HR.am_new (r : HR G ι h w) (h0 : h[0]? = some (.am m)) (ob : Obj) (ha : ABR G (push w ob) w.heap.size x) :
    m w.heap.size = none ∧ HR G ι (h.set 0 (.am (mup m w.heap.size x))) (push w ob) ∧ Ext G ι h w G ι (h.set 0 (.am (mup m w.heap.size x))) (push w ob) := by
  have e0 := Ext.push_other r ob
  have r1 : HR G ι h (push w ob) :=
    { len := r.len
      own := r.own
      g := fun c hc => ⟨by have := (r.g c hc).1; simp [push]; omega, (r.g c hc).2⟩
      blk := fun l k hk => BR.ext e0 r hk rfl fun c hc => push_old w ob (owned_lt r ⟨l, k, hk, hc⟩) }
  have hno : ¬ owned ι h w.heap.size := fun ho => by have := owned_lt r ho; omega
  obtain ⟨q1, q2, q3⟩ := HR.am_add r1 h0 hno (fun hG => by have := (r.g _ hG).1; omega) (by simp [push]) ha
  refine ⟨q1, q2, ?_⟩
  exact
    { size := by simp [push]
      quiet := ⟨rfl, rfl, rfl, Nat.le_refl _⟩
      frame := fun c hc _ => push_old w ob hc
      gmono := fun _ h => h
      gnew := fun _ h => .inl h
      onew := fun c ho => by
        rcases q3 c ho with e | e
        · exact .inl e
        · right; omega
      keep := fun l k hk => by
        by_cases e : l = 0
        · subst e
          rw [h0] at hk; cases hk
          exact ⟨.am (mup m w.heap.size x), by rw [List.getElem?_set_self (get_lt h0)], trivial⟩
        · exact ⟨k, by rw [List.getElem?_set_ne (fun q => e q.symm)]; exact hk, Kept.frame rfl fun c hc => push_old w ob (owned_lt r ⟨l, k, hk, hc⟩)⟩ }
theorem HR.adopt {k : Blk} (r : HR G ι h w) (hno : ¬ owned ι h b) (hG : ¬ G b) (hk0 : k.live = true) (hb : BR G w (ι ++ [(b, 0)]) (h ++ [k]) h.length k) : HR G (ι ++ [(b, 0)]) (h ++ [k]) w := by
  have new : ∀ {l : Nat} {k1 : Blk} {c : Nat}, l = h.length → k1 = k → own1 (ι ++ [(b, 0)]) l k1 c → c = b := by
    intro l k1 c e1 e2 hc
    subst e2
    rcases own1_cases hc with ⟨_, o, h5⟩ | ⟨m, x, rfl, _⟩
    · rw [e1, ← r.len] at h5; simp at h5; exact h5.1.symm
    · cases hk0
  have old : ∀ {l : Nat} {k1 : Blk} {c : Nat}, h[l]? = some k1 → own1 (ι ++ [(b, 0)]) l k1 c → own1 ι l k1 c := fun hl hc => own1_snoc (by rw [r.len]; exact get_lt hl) hc
  have hkeep : ∀ l k1, h[l]? = some k1 → ∃ k', (h ++ [k])[l]? = some k' ∧ Kept ι (ι ++ [(b, 0)]) w w l k1 k' := fun l k1 hk =>
    ⟨k1, get_snoc_old hk, Kept.frame (List.getElem?_append_left (by rw [r.len]; exact get_lt hk)) fun _ _ => rfl⟩
  exact
    { len := by simp [r.len]
      own := by
        intro l l' c k1 k2 b1 b2 c1 c2
        rcases get_snoc b1 with d1 | ⟨d1, d1'⟩ <;> rcases get_snoc b2 with d2 | ⟨d2, d2'⟩
        · exact r.own l l' c k1 k2 d1 d2 (old d1 c1) (old d2 c2)
        · have := new d2 d2' c2; subst this; exact absurd ⟨l, k1, d1, old d1 c1⟩ hno
        · have := new d1 d1' c1; subst this; exact absurd ⟨l', k2, d2, old d2 c2⟩ hno
        · omega
      g := fun c hc => ⟨(r.g c hc).1, fun ⟨l, k1, h1, h2⟩ => by
        rcases get_snoc h1 with d | ⟨d, d'⟩
        · exact (r.g c hc).2 ⟨l, k1, d, old d h2⟩
        · have := new d d' h2; subst this; exact hG hc⟩
      blk := fun l k1 hk => by
        rcases get_snoc hk with d | ⟨d, d'⟩
        · exact BR.carry (fun c hc => ⟨hc, rfl⟩) hkeep (r.blk l k1 d) (List.getElem?_append_left (by rw [r.len]; exact get_lt d)) fun _ _ => rfl
        · subst d d'; exact hb }
theorem arflat_get {sz : Nat} : ∀ {es : List (List D)} {i : Nat} {x : D}, (∀ e ∈ es, e.length = sz) → es.flatten[i]? = some x → ∃ (p j : Nat) (e : List D), es[p]? = some e ∧ e[j]? = some x ∧ i = p * sz + j := by
 intro es
 induction es with
 | nil => intro i x _ h; simp at h
 | cons e r ih =>
  intro i x hs h
  rw [List.flatten_cons] at h
  rcases Nat.lt_or_ge i e.length with hi | hi
  ·rw [List.getElem?_append_left hi] at h
   exact ⟨0, i, e, rfl, h, by omega⟩
  ·rw [List.getElem?_append_right hi] at h
   obtain ⟨p, j, e', h1, h2, h3⟩ := ih (fun e he => hs e (List.mem_cons_of_mem _ he)) h
   have := hs e (List.mem_cons_self ..)
   refine ⟨p + 1, j, e', h1, h2, ?_⟩
   rw [Nat.add_mul, Nat.one_mul]; omega
theorem arget_flat {sz : Nat} : ∀ {es : List (List D)} {p j : Nat} {e : List D} {x : D}, (∀ e ∈ es, e.length = sz) → es[p]? = some e → e[j]? = some x → es.flatten[p * sz + j]? = some x := by
 intro es
 induction es with
 | nil => intro p j e x _ h; simp at h
 | cons e0 r ih =>
  intro p j e x hs h hx
  rw [List.flatten_cons]
  have h0 := hs e0 (List.mem_cons_self ..)
  cases p with
  | zero =>
   simp at h; subst h
   rw [Nat.zero_mul, Nat.zero_add, List.getElem?_append_left (get_lt hx)]; exact hx
  | succ p =>
   simp at h
   rw [List.getElem?_append_right (by rw [Nat.add_mul, Nat.one_mul]; omega)]
   rw [show (p + 1) * sz + j - e0.length = p * sz + j by rw [Nat.add_mul, Nat.one_mul]; omega]
   exact ih (fun e he => hs e (List.mem_cons_of_mem _ he)) h hx
theorem arflat_len {sz : Nat} : ∀ {es : List (List D)}, (∀ e ∈ es, e.length = sz) → es.flatten.length = es.length * sz := by
 intro es
 induction es with
 | nil => intro _; simp
 | cons e r ih =>
  intro hs
  rw [List.flatten_cons, List.length_append, ih fun e he => hs e (List.mem_cons_of_mem _ he), hs e (List.mem_cons_self ..), List.length_cons, Nat.add_mul, Nat.one_mul]; omega
theorem ABR.of_laid {sz : Nat} {es : List (List D)} {c : Array Value} {t : TypeId} {fr : Nat × Nat} (hl : laid sz es G w c 0) (hw : w.heap[b]? = some (.cells c t fr)) (hfr : ∀ k, k < c.size → ¬ (fr.1 ≤ k ∧ k < fr.2)) (hle : es.length * sz ≤ c.size) : ABR G w b (.cs c.size es.flatten) := by
 have hs : ∀ e ∈ es, e.length = sz := fun e he => by
  obtain ⟨i, hi⟩ := List.mem_iff_getElem?.1 he
  exact hl.1 i e hi
 refine ⟨c, t, fr, hw, rfl, by rw [arflat_len hs]; exact hle, hfr, fun i x hx => ?_⟩
 obtain ⟨p, j, e, h1, h2, h3⟩ := arflat_get hs hx
 obtain ⟨v, hv, hd⟩ := hl.2 p e j x h1 h2
 rw [Nat.zero_add] at hv
 exact ⟨v, by rw [h3]; exact hv, hd⟩
theorem HR.borrow {sz N : Nat} {es : List (List D)} (r : HR G ι h w) (h0 : h[0]? = some (.am m)) (hx : m b = some (.cs N es.flatten)) (hs : ∀ e ∈ es, e.length = sz) (hmx : es.length ≤ 9223372036854775807) :
    HR G (ι ++ [(b, 0)]) (h.set 0 (.am (mdel m b)) ++ [.da true 0 sz es]) w ∧ Ext G ι h w G (ι ++ [(b, 0)]) (h.set 0 (.am (mdel m b)) ++ [.da true 0 sz es]) w ∧ N = bsize w b ∧ HR G ι (h.set 0 (.am (mdel m b))) w := by
  obtain ⟨r1, e1⟩ := HR.am_del r h0 b
  obtain ⟨c, t, fr, a1, a2, a3, a4, a5⟩ := r.blk 0 _ h0 b _ hx
  have hno : ¬ owned ι (h.set 0 (.am (mdel m b))) b := by
    intro ⟨l, k, h1, h2⟩
    rcases get_set h1 with ⟨q1, q2, _⟩ | ⟨q1, q2⟩
    · subst q1 q2
      obtain ⟨y, hy⟩ := h2
      rw [mdel_at] at hy; cases hy
    · exact q1 (r.own 0 l b _ k h0 q2 ⟨_, hx⟩ h2).symm
  have hG : ¬ G b := fun hg => (r.g b hg).2 (am_owned h0 hx)
  have hlen : (h.set 0 (.am (mdel m b))).length = h.length := by simp
  have r2 := HR.adopt (k := .da true 0 sz es) r1 hno hG rfl ⟨b, 0, c, t, fr, hmx, by rw [hlen, ← r.len]; simp, a1, by rw [arflat_len hs] at a3; omega, a4, fun i e he => hs e (List.mem_of_getElem? he), fun i e j x he hx' => by
    obtain ⟨v, hv, hd⟩ := a5 _ x (arget_flat hs he hx')
    exact ⟨v, by rw [Nat.zero_add]; exact hv, hd⟩⟩
  refine ⟨r2, ?_, by rw [← a2]; simp [bsize, a1], r1⟩
  exact
    { size := Nat.le_refl _
      quiet := ⟨rfl, rfl, rfl, Nat.le_refl _⟩
      frame := fun _ _ _ => rfl
      gmono := fun _ h => h
      gnew := fun _ h => .inl h
      onew := fun c ⟨l, k, h1, h2⟩ => by
        left
        rcases get_snoc h1 with d | ⟨d, rfl⟩
        · have h3 := own1_snoc (by rw [r.len, ← hlen]; exact get_lt d) h2
          rcases e1.onew c ⟨l, k, d, h3⟩ with q | q
          · exact q
          · have := owned_lt r1 ⟨l, k, d, h3⟩; omega
        · obtain ⟨_, o, h5⟩ := h2
          rw [d, hlen, ← r.len] at h5
          simp at h5
          rw [← h5.1]; exact am_owned h0 hx
      keep := fun l k hk => by
        obtain ⟨k', g1, g2⟩ := e1.keep l k hk
        refine ⟨k', get_snoc_old g1, ?_⟩
        have hi : (ι ++ [(b, 0)])[l]? = ι[l]? := List.getElem?_append_left (by rw [r.len]; exact get_lt hk)
        by_cases e : l = 0
        · subst e
          rw [h0] at hk; cases hk
          rw [List.getElem?_set_self (get_lt h0)] at g1
          cases g1; trivial
        · rw [List.getElem?_set_ne (fun q => e q.symm), hk] at g1
          cases g1
          exact Kept.frame hi fun _ _ => rfl }
theorem Kept.io {ι ι' ι2 : Io} {w w' : World} {l : Nat} {k k' : Blk} (hk : Kept ι ι' w w' l k k') (h : ι2[l]? = ι'[l]?) : Kept ι ι2 w w' l k k' := by
 cases k <;> cases k' <;> simp_all [Kept]
theorem HR.give {Gb : Nat → Prop} {ιb : Io} {hb : Hp} {wb : World} {hA : Hp} {v sz : Nat} {es : List (List D)} (r : HR G ι (hA ++ [.da true v sz es]) w) (hrefs : refsH hA.length hA = true) (h0 : hA[0]? = some (.am m))
    (hi : ι[hA.length]? = some (b, 0)) (e1 : Ext Gb ιb hb wb G ι (hA ++ [.da true v sz es]) w) (hl : hb.length ≤ hA.length) :
    m b = none ∧ HR G (ι.take hA.length) (hA.set 0 (.am (mup m b (.cs (bsize w b) es.flatten)))) w ∧ Ext Gb ιb hb wb G (ι.take hA.length) (hA.set 0 (.am (mup m b (.cs (bsize w b) es.flatten)))) w := by
  have hlast : (hA ++ [.da true v sz es])[hA.length]? = some (.da true v sz es) := by simp
  have hob : owned ι (hA ++ [.da true v sz es]) b := owned_of hi hlast rfl
  obtain ⟨b', o', c, t, fr, c0, c1, c2, c3, c4, c5, c6⟩ := r.blk _ _ hlast
  rw [hi] at c1; cases c1
  rw [Nat.zero_add] at c3
  have hbs : bsize w b = c.size := by simp [bsize, c2]
  have ha : ABR G w b (.cs (bsize w b) es.flatten) := by
    rw [hbs]; exact ABR.of_laid ⟨c5, c6⟩ c2 c4 c3
  have hι : ∀ l, l < hA.length → (ι.take hA.length)[l]? = ι[l]? := fun l hl => by rw [List.getElem?_take, if_pos hl]
  have hown : ∀ c, owned (ι.take hA.length) hA c → owned ι (hA ++ [.da true v sz es]) c ∧ c ≠ b := fun c ⟨l, k, h2, h3⟩ => by
    have h4 := own1_io h3 fun _ => (hι l (get_lt h2)).symm
    have h5 : (hA ++ [.da true v sz es])[l]? = some k := by rw [take_get (get_lt h2)]; exact h2
    refine ⟨⟨l, k, h5, h4⟩, fun e => ?_⟩
    subst e
    have := r.own l hA.length c k _ h5 hlast h4 (own1_of hi rfl)
    have := get_lt h2; omega
  obtain ⟨q1, q2, q3⟩ := HR.am_add (r.cut hrefs) h0 (fun ho => (hown b ho).2 rfl) (fun hG => (r.g b hG).2 hob) (owned_lt r hob) ha
  refine ⟨q1, q2, ?_⟩
  exact
    { size := e1.size
      quiet := e1.quiet
      frame := e1.frame
      gmono := e1.gmono
      gnew := e1.gnew
      onew := fun c ho => by
        rcases q3 c ho with e | e
        · exact e1.onew c (hown c e).1
        · subst e; exact e1.onew c hob
      keep := fun l k hk => by
        obtain ⟨k', g1, g2⟩ := e1.keep l k hk
        have hlA : l < hA.length := by have := get_lt hk; omega
        rw [take_get hlA] at g1
        by_cases e : l = 0
        · subst e
          rw [h0] at g1; cases g1
          refine ⟨_, by rw [List.getElem?_set_self hlA], ?_⟩
          cases k <;> simp_all [Kept]
        · exact ⟨k', by rw [List.getElem?_set_ne (fun q => e q.symm)]; exact g1, g2.io (hι l hlA)⟩ }
end
end Go.Ab

