/-
  Merged texts, part c.
-/
import Derived.Test.YtollegfnkaomeaaZb
import Derived.Laws.Strings
/-
  The engine, part e: the operations, with their types resolved; what each does to abstract values.
-/
namespace Go.Ab
inductive MOp where
 | apz (sz bytes : Nat) (z : List D)
 | mkm
 | lk (sc : Bool) (n : Nat) (ls : List (Nat × Nat)) (ok : Bool) (z : AV)
 | up (sc : Bool) (n : Nat) (ls : List (Nat × Nat))
 | del (sc : Bool) (n : Nat) (ls : List (Nat × Nat))
 | lnm
 | mm (mx : Bool)
 | clr (sz : Nat) (z : List D)
 | mki (t : Nat)
 | lit (d : D)
 | tya (t : Nat) (ok : Bool) (z : AV)
 deriving Inhabited
inductive AOp where
 | mv (x : X)
 | pick (c a b : X)
 | box (x : X)
 | build (z : List CV) (ps : List (Nat × Nat × X))
 | bsl (sz : Nat) (z : List D) (n : Nat) (ps : List (Nat × X))
 | ld (x : X) (n : Option Nat)
 | st (x v : X) (n : Nat)
 | nilc (x : X)
 | bin (op : BinOp) (a b : X)
 | beq (ne : Bool) (a b : X)
 | eqa (ne : Bool) (n : Nat) (ls : List (Nat × Nat)) (a b : X)
 | isnil (kind : Nat) (ne : Bool) (x : X)
 | un (op : UnOp) (x : X)
 | cvi (k : IntKind) (x : X)
 | bts (x : X)
 | sl (sz : Nat) (x : X) (lo hi mx : Option X)
 | sls (x : X) (lo hi : Option X)
 | fa (x : X) (o : Nat)
 | fld (x : X) (o : Nat) (n : Option Nat)
 | ias (sz : Nat) (x i : X)
 | iaa (n sz : Nat) (x i : X)
 | ixs (x i : X)
 | ixa (n sz : Nat) (ag : Bool) (x i : X)
 | ext (x : X) (i : Nat)
 | len (x : X)
 | lens (x : X)
 | cap (x : X)
 | app (sz bytes : Nat) (z : List D) (x y : X)
 | mo (o : MOp) (xs : List X)
 | mks (sz bytes : Nat) (z : List D) (l c : X)
 | mkf (b : Bool) (f : Nat) (caps : List X)
 | call (f : Nat) (args : List X)
 | callv (x : X) (args : List X)
 | ivk (rows : List (Nat × Nat × Option (Option Nat))) (x : X) (args : List X)
 | rng (x : X)
 | nx (x : X)
 | ent (x : X)
 | bad
 deriving Inhabited
structure AO where
 dst : Option Nat
 op : AOp
 g : Option (Nat × Bool)
 deriving Inhabited
inductive AC where
 | skip
 | reg (d : Bool) (ops : List AO)
 | rgf (pre : List (List Nat)) (k : Nat) (ops : List AO)
 | rgw (e1 : List AO) (o : AO) (e2 : List AO) (cs : List AO) (late : List Nat)
 | rgc (es ws : List AO) (late : List (List (Nat × Bool)))
 | seq (a b : AC)
 | cond (c : X) (a b : AC)
 | block (id : Nat) (c : AC)
 | loop (c : AC)
 | exit (id : Nat)
 | ret
 | rfn (x : X) (p : Nat) (a b : AC)
 deriving Inhabited
def OpRes (G : Nat → Prop) (ι : Io) (h : Hp) (w : World) (av : AV) (h' : Hp) (r : Result Next) : Prop :=
 ∃ v w' G' ι', (r = .ok (.value v) w' ∨ (r = .ok .skip w' ∧ v = undef)) ∧ HR G' ι' h' w' ∧ VR G' w' ι' h' v av ∧ Ext G ι h w G' ι' h' w'
theorem OpRes.value {G : Nat → Prop} {ι : Io} {h : Hp} {w : World} {av : AV} {r : Result Next} {v : Value} (hr : HR G ι h w) (hrun : r = .ok (.value v) w) (hv : VR G w ι h v av) :
  OpRes G ι h w av h r := ⟨v, w, G, ι, .inl hrun, hr, hv, Ext.refl _ _ _ _⟩
def leafTys (P : Program) : Nat → TypeId → Option (List TypeId)
 | 0, _ => none
 | d + 1, t => match P.underlying t with
  | some (.struct fs) => (fs.toList.mapM fun f => leafTys P d f.type).map List.flatten
  | some (.array n el) => (leafTys P d el).map fun l => (List.replicate n l).flatten
  | some _ => some [t]
  | none => none
def ccv (P : Program) (t : TypeId) : Value → Option CV
 | .bool b => some (.d (.bool b))
 | .int k n => some (.d (.int k n))
 | .string s => some (.d (.str s.data.toList))
 | .pointer none => some (.d .nilp)
 | .map none => some (.d .nilm)
 | .nilFunc => some (.d .nilf)
 | .nilIface => some (.d .nili)
 | .slice none 0 0 => match P.underlying t with
  | some (.slice el) => some (.d (.list true (P.cellsOf el) []))
  | _ => some (.d (.list true 0 []))
 | _ => none
theorem ccv_sound {P : Program} {t : TypeId} {v : Value} {x : CV} (h0 : ccv P t v = some x) (G : Nat → Prop) (w : World) (ι : Io) (h : Hp) : CR G w ι h v x := by
 cases v with
 | bool b => simp only [ccv, Option.some.injEq] at h0; subst h0; exact .d _ _ (.bool b)
 | int k n => simp only [ccv, Option.some.injEq] at h0; subst h0; exact .d _ _ (.int k n)
 | string s => simp only [ccv, Option.some.injEq] at h0; subst h0; exact .d _ _ (.str s)
 | pointer a =>
  cases a with
  | none => simp only [ccv, Option.some.injEq] at h0; subst h0; exact .d _ _ .nilp
  | some a => simp [ccv] at h0
 | map a =>
  cases a with
  | none => simp only [ccv, Option.some.injEq] at h0; subst h0; exact .d _ _ .nilm
  | some a => simp [ccv] at h0
 | nilFunc => simp only [ccv, Option.some.injEq] at h0; subst h0; exact .d _ _ .nilf
 | nilIface => simp only [ccv, Option.some.injEq] at h0; subst h0; exact .d _ _ .nili
 | slice a n c =>
  unfold ccv at h0
  split at h0 <;> first | (cases h0; done) | skip
  all_goals try (rename_i heq; cases heq)
  split at h0
  ·cases h0; exact .d _ _ (.nils _ _)
  ·cases h0; exact .d _ _ (.nils _ _)
 | _ => simp [ccv] at h0
def ccvs (P : Program) : List TypeId → List Value → Option (List CV)
 | [], [] => some []
 | t :: ts, v :: vs => match ccv P t v, ccvs P ts vs with
  | some x, some r => some (x :: r)
  | _, _ => none
 | _, _ => none
theorem ccvs_sound {P : Program} {ts : List TypeId} : ∀ {vs : List Value} {xs : List CV}, ccvs P ts vs = some xs →
  vs.length = xs.length ∧ ∀ (i : Nat) (v : Value) (x : CV), vs[i]? = some v → xs[i]? = some x → ∀ (G : Nat → Prop) (w : World) (ι : Io) (h : Hp), CR G w ι h v x := by
 induction ts with
 | nil =>
  intro vs xs h
  cases vs with
  | nil => simp only [ccvs, Option.some.injEq] at h; subst h; simp
  | cons v vs => simp [ccvs] at h
 | cons t ts ih =>
  intro vs xs h
  cases vs with
  | nil => simp [ccvs] at h
  | cons v vs =>
   simp only [ccvs] at h
   split at h
   ·rename_i x r hx hr
    cases h
    obtain ⟨h1, h2⟩ := ih hr
    refine ⟨by simp [h1], fun i y z hy hz => ?_⟩
    cases i with
    | zero => simp at hy hz; subst hy hz; exact ccv_sound hx
    | succ i => simp at hy hz; exact h2 i y z hy hz
   ·cases h
def tcav (P : Program) (t : TypeId) : Value → Option AV
 | .agg cs => match leafTys P 12 t with
  | some ts => (ccvs P ts cs.toList).map .agg
  | none => none
 | v => (ccv P t v).map .c
theorem tcav_sound {P : Program} {t : TypeId} {v : Value} {x : AV} (h0 : tcav P t v = some x) (G : Nat → Prop) (w : World) (ι : Io) (h : Hp) : VR G w ι h v x := by
 unfold tcav at h0
 split at h0
 ·split at h0
  ·simp only [Option.map_eq_some_iff] at h0
   obtain ⟨xs, hxs, rfl⟩ := h0
   obtain ⟨h1, h2⟩ := ccvs_sound hxs
   exact .agg _ _ (by simpa using h1) fun i v x hv hx => h2 i v x (by simpa using hv) hx G w ι h
  ·cases h0
 ·simp only [Option.map_eq_some_iff] at h0
  obtain ⟨y, hy, rfl⟩ := h0
  exact .c _ _ (ccv_sound hy G w ι h)
def cx (P : Program) (t : TypeId) : Operand → Option X
 | .tmp n => some (.t n)
 | .const v => (tcav P t v).map .k
 | .func f => match Nat.blt f 4294967296 with
  | true => some (.k (.c (.fn false f [])))
  | false => none
 | .global _ => none
theorem cx_sound {P : Program} {t : TypeId} {o : Operand} {x : X} {N : Nat} {G : Nat → Prop} {ι : Io} {e : Env} {h : Hp} {a : Act} {w : World} (hc : cx P t o = some x)
  (r : Rel N G ι e h a w) : VR G w ι h (a.eval o) (ev e x) := by
 cases o with
 | tmp n => simp only [cx, Option.some.injEq] at hc; subst hc; exact r.env n
 | const v =>
  simp only [cx, Option.map_eq_some_iff] at hc
  obtain ⟨av, hav, rfl⟩ := hc
  exact tcav_sound hav G w ι h
 | func f =>
  simp only [cx] at hc
  split at hc
  ·rename_i hf
   simp only [Option.some.injEq] at hc
   subst hc
   exact .c _ _ (.fn _ false f #[] [] (by rw [fnV_fn hf]; rfl) rfl (by simp))
  ·cases hc
 | global g => simp [cx] at hc
def cxs (P : Program) : List TypeId → List Operand → Option (List X)
 | _, [] => some []
 | ts, o :: os => match cx P (ts.headD 0) o, cxs P ts.tail os with
  | some x, some r => some (x :: r)
  | _, _ => none
theorem cxs_sound {P : Program} {N : Nat} {G : Nat → Prop} {ι : Io} {e : Env} {h : Hp} {a : Act} {w : World} (r : Rel N G ι e h a w) : ∀ {os : List Operand} {ts : List TypeId} {xs : List X},
  cxs P ts os = some xs → os.length = xs.length ∧ ∀ (i : Nat) (o : Operand) (x : X), os[i]? = some o → xs[i]? = some x → VR G w ι h (a.eval o) (ev e x) := by
 intro os
 induction os with
 | nil => intro ts xs h; simp only [cxs, Option.some.injEq] at h; subst h; simp
 | cons o os ih =>
  intro ts xs h
  simp only [cxs] at h
  split at h
  ·rename_i x rr hx hr
   cases h
   obtain ⟨h1, h2⟩ := ih hr
   refine ⟨by simp [h1], fun i y z hy hz => ?_⟩
   cases i with
   | zero => simp at hy hz; subst hy hz; exact cx_sound hx r
   | succ i => simp at hy hz; exact h2 i y z hy hz
  ·cases h
def binD : BinOp → D → D → Option D
 | .shl, .int k a, .int _ b => if b < 0 then none else some (.int k (k.wrap (a * 2 ^ (min b.toNat k.bits))))
 | .shr, .int k a, .int _ b => if b < 0 then none else some (.int k (a.fdiv (2 ^ (min b.toNat k.bits))))
 | op, .int k a, .int k' b => if k = k' then
   match op with
   | .add => some (.int k (k.wrap (a + b)))
   | .sub => some (.int k (k.wrap (a - b)))
   | .mul => some (.int k (k.wrap (a * b)))
   | .quo => if b = 0 then none else some (.int k (k.wrap (a.tdiv b)))
   | .rem => if b = 0 then none else some (.int k (a.tmod b))
   | .and => some (.int k (k.wrap (BitVec.ofInt k.bits a &&& BitVec.ofInt k.bits b).toNat))
   | .or => some (.int k (k.wrap (BitVec.ofInt k.bits a ||| BitVec.ofInt k.bits b).toNat))
   | .xor => some (.int k (k.wrap (BitVec.ofInt k.bits a ^^^ BitVec.ofInt k.bits b).toNat))
   | .andNot => some (.int k (k.wrap (BitVec.ofInt k.bits a &&& ~~~ BitVec.ofInt k.bits b).toNat))
   | .eql => some (.bool (a == b))
   | .neq => some (.bool (a != b))
   | .lss => some (.bool (decide (a < b)))
   | .leq => some (.bool (decide (a ≤ b)))
   | .gtr => some (.bool (decide (a > b)))
   | .geq => some (.bool (decide (a ≥ b)))
   | _ => none
  else none
 | .add, .str a, .str b => if a.length + b.length < 9223372036854775808 then some (.str (a ++ b)) else none
 | .eql, .str a, .str b => some (.bool (a == b))
 | .neq, .str a, .str b => some (.bool (!(a == b)))
 | _, _, _ => none
theorem eqGuard_int {P : Program} {w : World} (op : BinOp) (t : TypeId) (x y : Operand) (k k' : IntKind) (a b : Int) :
  (eqGuard op t x y (.int k a) (.int k' b)).run P w = .ok () w := by
 unfold eqGuard; cases op <;> rfl
theorem eqGuard_str {P : Program} {w : World} (op : BinOp) (t : TypeId) (x y : Operand) (a b : ByteArray) :
  (eqGuard op t x y (.string a) (.string b)).run P w = .ok () w := by
 unfold eqGuard; cases op <;> rfl
theorem eqGuard_bool {P : Program} {w : World} (op : BinOp) (t : TypeId) (x y : Operand) (a b : Bool) :
  (eqGuard op t x y (.bool a) (.bool b)).run P w = .ok () w := by
 unfold eqGuard; cases op <;> rfl
theorem str_append (a b : ByteArray) : (a ++ b).data.toList = a.data.toList ++ b.data.toList := by simp
theorem str_size (a : ByteArray) : a.size = a.data.toList.length := by simp
theorem toList_data (a : ByteArray) : a.toList = a.data.toList := ByteArray.toList_eq a
theorem shift_sound {P : Program} {w : World} {G : Nat → Prop} {op : BinOp} {t : TypeId} {x y : Operand} {k k' : IntKind} {a b : Int} {d : D} (hop : op = .shl ∨ op = .shr)
  (h : binD op (.int k a) (.int k' b) = some d) : ∃ v, ((do eqGuard op t x y (.int k a) (.int k' b); binOp op t (.int k a) (.int k' b) : Sem Value)).run P w = .ok v w ∧ DR G w v d := by
 rcases hop with rfl | rfl
 all_goals
  simp only [binD] at h
  split at h
  ·cases h
  ·rename_i hb
   cases h
   simp only [Sem.run_bind, eqGuard_int, Result.andThen_ok, binOp]
   exact ⟨_, by simp only [Op.shift, hb, if_false]; rfl, .int _ _⟩
theorem int_sound {P : Program} {w : World} {G : Nat → Prop} {op : BinOp} {t : TypeId} {x y : Operand} {k k' : IntKind} {a b : Int} {d : D} (h1 : op ≠ .shl) (h2 : op ≠ .shr)
  (h : binD op (.int k a) (.int k' b) = some d) : ∃ v, ((do eqGuard op t x y (.int k a) (.int k' b); binOp op t (.int k a) (.int k' b) : Sem Value)).run P w = .ok v w ∧ DR G w v d := by
 by_cases hk : k = k'
 ·subst hk
  cases op
  case shl => exact absurd rfl h1
  case shr => exact absurd rfl h2
  case quo =>
   simp only [binD, if_true] at h
   split at h
   ·cases h
   ·rename_i hb
    cases h
    simp only [Sem.run_bind, eqGuard_int, Result.andThen_ok, binOp]
    exact ⟨_, by simp only [ne_eq, not_true_eq_false, if_false, Op.intDiv, hb]; rfl, .int _ _⟩
  case rem =>
   simp only [binD, if_true] at h
   split at h
   ·cases h
   ·rename_i hb
    cases h
    simp only [Sem.run_bind, eqGuard_int, Result.andThen_ok, binOp]
    exact ⟨_, by simp only [ne_eq, not_true_eq_false, if_false, Op.intDiv, hb]; rfl, .int _ _⟩
  all_goals
   simp only [binD, if_true, Option.some.injEq] at h
   subst h
   simp only [Sem.run_bind, eqGuard_int, Result.andThen_ok, binOp]
   exact ⟨_, by simp only [ne_eq, not_true_eq_false, if_false, Op.intArith, Op.intBits, Op.intCmp]; rfl, by constructor⟩
 ·cases op
  case shl => exact absurd rfl h1
  case shr => exact absurd rfl h2
  all_goals simp [binD, hk] at h
theorem bin_sound {P : Program} {w : World} {G : Nat → Prop} {op : BinOp} {t : TypeId} {x y : Operand} {va vb : Value} {a b d : D} (ha : DR G w va a) (hb : DR G w vb b)
  (h : binD op a b = some d) : ∃ v, ((do eqGuard op t x y va vb; binOp op t va vb : Sem Value)).run P w = .ok v w ∧ DR G w v d := by
 cases ha with
 | int k a =>
  cases hb with
  | int k' b =>
   by_cases h1 : op = .shl
   ·exact shift_sound (.inl h1) h
   ·by_cases h2 : op = .shr
    ·exact shift_sound (.inr h2) h
    ·exact int_sound h1 h2 h
  | _ => cases op <;> simp [binD] at h
 | str a =>
  cases hb with
  | str b =>
   cases op <;> simp only [binD] at h
   all_goals first | (cases h; done) | skip
   ·split at h
    ·rename_i hlt
     simp only [Option.some.injEq] at h; subst h
     refine ⟨.string (a ++ b), ?_, ?_⟩
     ·simp only [Sem.run_bind, eqGuard_str, Result.andThen_ok, binOp, Op.stringOp]
      rw [if_neg]
      ·rfl
      ·simp only [str_size, IntKind.max, IntKind.signed, IntKind.bits] ; simp at hlt ⊢; omega
     ·rw [← str_append]; exact .str _
    ·cases h
   ·simp only [Option.some.injEq] at h; subst h
    refine ⟨_, by simp only [Sem.run_bind, eqGuard_str, Result.andThen_ok, binOp, Op.stringOp]; rfl, ?_⟩
    rw [toList_data, toList_data]; exact .bool _
   ·simp only [Option.some.injEq] at h; subst h
    refine ⟨_, by simp only [Sem.run_bind, eqGuard_str, Result.andThen_ok, binOp, Op.stringOp]; rfl, ?_⟩
    rw [toList_data, toList_data]; exact .bool _
  | _ => cases op <;> simp [binD] at h
 | _ => cases op <;> simp [binD] at h
end Go.Ab

