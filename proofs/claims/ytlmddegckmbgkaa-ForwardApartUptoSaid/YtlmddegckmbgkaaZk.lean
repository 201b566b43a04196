/-
  Merged texts, part k.
-/
import Derived.Test.YtlmddegckmbgkaaZj
/-
  The engine, part z: running a closed call.
-/
namespace Go.Ab
def zC (l v sz : Nat) (es : List (List D)) : CV → CV
 | .arr l' v' i n => match Nat.beq l' l, Nat.beq v' v with
  | true, true => .d (.list false sz es)
  | _, _ => .arr l' v' i n
 | x => x
def zCs (l v sz : Nat) (es : List (List D)) : List CV → List CV
 | [] => []
 | x :: r => zC l v sz es x :: zCs l v sz es r
def zA (l v sz : Nat) (es : List (List D)) : AV → AV
 | .c x => .c (zC l v sz es x)
 | .agg xs => .agg (zCs l v sz es xs)
 | x => x
def zB (l v sz : Nat) (es : List (List D)) : Blk → Blk
 | .bx cs => .bx (zCs l v sz es cs)
 | b => b
def zH (l v sz : Nat) (es : List (List D)) : Nat → Hp → Hp
 | _, [] => []
 | n, b :: r => (match Nat.beq n l with
  | true => .dead
  | false => zB l v sz es b) :: zH l v sz es (n + 1) r
def zL (l v sz : Nat) (es : List (List D)) : Lv → Lv
 | [] => []
 | (i, x) :: r => (i, zA l v sz es x) :: zL l v sz es r
def okC (l v k : Nat) : CV → Prop
 | .arr l' v' i n => match Nat.beq l' l, Nat.beq v' v with
  | true, true => i = 0 ∧ n = k
  | _, _ => True
 | _ => True
def okCs (l v k : Nat) : List CV → Prop
 | [] => True
 | x :: r => okC l v k x ∧ okCs l v k r
def okA (l v k : Nat) : AV → Prop
 | .c x => okC l v k x
 | .agg xs => okCs l v k xs
 | _ => True
def okB (l v k : Nat) : Blk → Prop
 | .bx cs => okCs l v k cs
 | _ => True
def okH (l v k : Nat) : Hp → Prop
 | [] => True
 | b :: r => okB l v k b ∧ okH l v k r
def okL (l v k : Nat) : Lv → Prop
 | [] => True
 | (_, x) :: r => okA l v k x ∧ okL l v k r
theorem zC_ok {l v sz k : Nat} {es : List (List D)} (hk : k = es.length) {x : CV} (h : okC l v k x) : FzC l v sz es x (zC l v sz es x) := by
 cases x with
 | arr l' v' i n =>
  simp only [okC] at h
  simp only [zC]
  split at h
  ·rename_i hl hv
   obtain ⟨rfl, rfl⟩ := h
   have hl : l' = l := Nat.eq_of_beq_eq_true hl
   have hv : v' = v := Nat.eq_of_beq_eq_true hv
   subst hl hv
   exact .arr _ hk
  ·exact .keep _
 | _ => exact .keep _
theorem zCs_ok {l v sz k : Nat} {es : List (List D)} (hk : k = es.length) : ∀ {xs : List CV}, okCs l v k xs → FzCs l v sz es xs (zCs l v sz es xs) := by
 intro xs
 induction xs with
 | nil => intro _; trivial
 | cons x r ih => intro h; exact ⟨zC_ok hk h.1, ih h.2⟩
theorem zA_ok {l v sz k : Nat} {es : List (List D)} (hk : k = es.length) {x : AV} (h : okA l v k x) : FzA l v sz es x (zA l v sz es x) := by
 cases x with
 | c x => exact .c _ _ (zC_ok hk h)
 | agg xs => exact .agg _ _ (zCs_ok hk h)
 | tup => exact .same _
theorem lkN_z {l v sz : Nat} {es : List (List D)} : ∀ (L : Lv) (i : Nat), lkN (zL l v sz es L) i = zA l v sz es (lkN L i) := by
 intro L
 induction L with
 | nil => intro i; rfl
 | cons p r ih =>
  intro i
  obtain ⟨j, x⟩ := p
  simp only [zL, lkN]
  split <;> simp_all
theorem okL_get {l v k : Nat} : ∀ {L : Lv}, okL l v k L → ∀ i, okA l v k (lkN L i) := by
 intro L
 induction L with
 | nil => intro _ i; trivial
 | cons p r ih =>
  intro h i
  obtain ⟨j, x⟩ := p
  simp only [lkN]
  split
  ·exact h.1
  ·exact ih h.2 i
theorem zH_ok {l v sz k : Nat} {es : List (List D)} (hk : k = es.length) : ∀ {h : Hp} {n : Nat}, okH l v k h → FzH l v sz es n h (zH l v sz es n h) := by
 intro h
 induction h with
 | nil => intro n _; trivial
 | cons b r ih =>
  intro n ho
  refine ⟨?_, ih ho.2⟩
  cases hb : Nat.beq n l with
  | true => exact .inl ⟨Nat.eq_of_beq_eq_true hb, rfl⟩
  | false =>
   refine .inr ⟨(fun e => by subst e; rw [Nat.beq_refl] at hb; cases hb), ?_⟩
   cases b with
   | bx cs => exact .bx _ _ (zCs_ok hk ho.1)
   | _ => exact .same _
def okCb (l v k : Nat) : CV → Bool
 | .arr l' v' i n => match Nat.beq l' l, Nat.beq v' v with
  | true, true => Nat.beq i 0 && Nat.beq n k
  | _, _ => true
 | _ => true
def okCsb (l v k : Nat) : List CV → Bool
 | [] => true
 | x :: r => okCb l v k x && okCsb l v k r
def okAb (l v k : Nat) : AV → Bool
 | .c x => okCb l v k x
 | .agg xs => okCsb l v k xs
 | _ => true
def okHb (l v k : Nat) : Hp → Bool
 | [] => true
 | .bx cs :: r => okCsb l v k cs && okHb l v k r
 | _ :: r => okHb l v k r
def okLb (l v k : Nat) : Lv → Bool
 | [] => true
 | (_, x) :: r => okAb l v k x && okLb l v k r
theorem okCb_ok {l v k : Nat} {x : CV} (h : okCb l v k x = true) : okC l v k x := by
 cases x <;> simp only [okC]
 simp only [okCb] at h
 split at h
 ·simp only [Bool.and_eq_true] at h
  exact ⟨Nat.eq_of_beq_eq_true h.1, Nat.eq_of_beq_eq_true h.2⟩
 ·trivial
theorem okCsb_ok {l v k : Nat} : ∀ {xs : List CV}, okCsb l v k xs = true → okCs l v k xs := by
 intro xs
 induction xs with
 | nil => intro _; trivial
 | cons x r ih => intro h; simp only [okCsb, Bool.and_eq_true] at h; exact ⟨okCb_ok h.1, ih h.2⟩
theorem okAb_ok {l v k : Nat} {x : AV} (h : okAb l v k x = true) : okA l v k x := by
 cases x with
 | c x => exact okCb_ok h
 | agg xs => exact okCsb_ok h
 | tup => trivial
theorem okHb_ok {l v k : Nat} : ∀ {h : Hp}, okHb l v k h = true → okH l v k h := by
 intro h
 induction h with
 | nil => intro _; trivial
 | cons b r ih =>
  intro ho
  cases b with
  | bx cs => simp only [okHb, Bool.and_eq_true] at ho; exact ⟨okCsb_ok ho.1, ih ho.2⟩
  | _ => simp only [okHb] at ho; exact ⟨trivial, ih ho⟩
theorem okLb_ok {l v k : Nat} : ∀ {L : Lv}, okLb l v k L = true → okL l v k L := by
 intro L
 induction L with
 | nil => intro _; trivial
 | cons p r ih =>
  obtain ⟨i, x⟩ := p
  intro ho
  simp only [okLb, Bool.and_eq_true] at ho
  exact ⟨okAb_ok ho.1, ih ho.2⟩
def fzAll : Nat → Lv → Hp → Lv × Hp
 | 0, L, h => (L, h)
 | l + 1, L, h => match h[l]? with
  | some (.da _ v sz es) => (match okLb l v es.length L && okHb l v es.length h with
   | true => fzAll l (zL l v sz es L) (zH l v sz es 0 h)
   | false => fzAll l L h)
  | _ => fzAll l L h
theorem fzAll_wk {m : Nat} : ∀ (n : Nat) (L : Lv) (h : Hp), Wk m L h (fzAll n L h).1 (fzAll n L h).2 := by
 intro n
 induction n with
 | zero => intro L h; exact .same rfl fun _ => .inr rfl
 | succ l ih =>
  intro L h
  simp only [fzAll]
  split
  ·rename_i r v sz es hl
   split
   ·rename_i hok
    simp only [Bool.and_eq_true] at hok
    refine .trans (.fz l v sz r es hl (fun i => .inr ?_) (zH_ok rfl (okHb_ok hok.2))) (ih _ _)
    rw [← lkN_eq, ← lkN_eq, lkN_z]; exact zA_ok rfl (okL_get (okLb_ok hok.1) i)
   ·exact ih L h
  ·exact ih L h
def xFz (fq : Nat → Bool) (d : Bool) (op : AOp) (L : Lv) (h : Hp) : Lv × Hp :=
 match d with
 | true => (L, h)
 | false => match (match op with
   | .call f _ => fq f
   | .callv x _ => (match evN L x with
    | .c (.fn _ f _) => fq f
    | _ => false)
   | _ => false) with
  | true => fzAll h.length L h
  | false => (L, h)
theorem xFz_wk {fq : Nat → Bool} {d : Bool} {op : AOp} {L : Lv} {h : Hp} {m : Nat} : (d = true ∧ xFz fq d op L h = (L, h)) ∨ (d = false ∧ Wk m L h (xFz fq d op L h).1 (xFz fq d op L h).2) := by
 cases d with
 | true => exact .inl ⟨rfl, rfl⟩
 | false =>
  refine .inr ⟨rfl, ?_⟩
  unfold xFz
  simp only
  generalize (match op with
   | .call f _ => fq f
   | .callv x _ => (match evN L x with
    | .c (.fn _ f _) => fq f
    | _ => false)
   | _ => false) = b
  cases b with
  | true => exact fzAll_wk _ _ _
  | false => exact .same rfl fun _ => .inr rfl
def isD : CV → Bool
 | .d _ => true
 | _ => false
def plainEl (L : Lv) : List (Nat × X) → Bool
 | [] => true
 | (_, x) :: r => match cells (evN L x) with
  | some cs => match cs.all isD with
   | true => plainEl L r
   | false => false
  | none => false
abbrev CF := Bool → Nat → List AV → Hp → Option (AV × Hp)
def xOp (cf : CF) (d : Bool) (op : AOp) (L : Lv) (h : Hp) : Option (AV × Hp) :=
 match op with
 | .call f xs => cf d f (evsN L xs) h
 | .callv x xs => match d, evN L x with
  | false, .c (.fn b f caps) => cf false f (bArgs b (evsN L xs) (caps.map .c)) h
  | _, _ => none
 | .bsl sz z n ps => match d with
  | true => match plainEl L ps with
   | true => astep (lkN L) h (.bsl sz z n ps)
   | false => none
  | false => astep (lkN L) h (.bsl sz z n ps)
 | op => astep (lkN L) h op
def xOps (cf : CF) (fq : Nat → Bool) (d : Bool) : List AO → Lv → Hp → Option (Lv × Hp)
 | [], L, h => some (L, h)
 | o :: r, L, h => match o.g with
  | none => (match xFz fq d o.op L h with
   | (L1, h1) => match xOp cf d o.op L1 h1 with
    | some (v, h') => xOps cf fq d r (putL L1 o.dst v) h'
    | none => none)
  | some (s, want) => match lkN L s with
   | .c (.d (.bool b)) => (match b, want with
    | true, true => (match xFz fq d o.op L h with
     | (L1, h1) => match xOp cf d o.op L1 h1 with
      | some (v, h') => xOps cf fq d r (putL L1 o.dst v) h'
      | none => none)
    | false, false => (match xFz fq d o.op L h with
     | (L1, h1) => match xOp cf d o.op L1 h1 with
      | some (v, h') => xOps cf fq d r (putL L1 o.dst v) h'
      | none => none)
    | true, false => xOps cf fq d r (putL L o.dst (.tup [])) h
    | false, true => xOps cf fq d r (putL L o.dst (.tup [])) h)
   | .tup [] => xOps cf fq d r (putL L o.dst (.tup [])) h
   | _ => none
def xG (cf : CF) (pre : List Nat) (i : Nat) (F : List Ft) (o : AO) (L : Lv) (h : Hp) : Option (List Ft × AV × Hp) :=
 match wtOf (lkN L) h.length o.op with
 | some (w, al) => (match xOp cf true o.op L h with
  | some (v, h') => (match chkF pre (tOf (lkN L) h o.op) w (rfA v) F with
   | true => some (F ++ [⟨i, tOf (lkN L) h o.op, w, al⟩], v, h')
   | false => none)
  | none => none)
 | none => none
def xOpsF (cf : CF) (pre : List (List Nat)) : Nat → List Ft → List AO → Lv → Hp → Option (Lv × Hp)
 | _, _, [], L, h => some (L, h)
 | i, F, o :: r, L, h => match o.g with
  | none => (match xG cf (getP pre i) i F o L h with
   | some (F', v, h') => xOpsF cf pre (i + 1) F' r (putL L o.dst v) h'
   | none => none)
  | some (s, want) => match lkN L s with
   | .c (.d (.bool b)) => (match b, want with
    | true, true => (match xG cf (getP pre i) i F o L h with
     | some (F', v, h') => xOpsF cf pre (i + 1) F' r (putL L o.dst v) h'
     | none => none)
    | false, false => (match xG cf (getP pre i) i F o L h with
     | some (F', v, h') => xOpsF cf pre (i + 1) F' r (putL L o.dst v) h'
     | none => none)
    | true, false => xOpsF cf pre (i + 1) F r (putL L o.dst (.tup [])) h
    | false, true => xOpsF cf pre (i + 1) F r (putL L o.dst (.tup [])) h)
   | .tup [] => xOpsF cf pre (i + 1) F r (putL L o.dst (.tup [])) h
   | _ => none
def dropL (n : Nat) : Lv → Lv
 | [] => []
 | (i, v) :: r => match Nat.beq i n with
  | true => dropL n r
  | false => (i, v) :: dropL n r
def normL : Lv → Lv
 | [] => []
 | (i, v) :: r => (i, v) :: dropL i (normL r)
abbrev RF := AC → Lv → Hp → Option (Ex × Lv × Hp)
def runP (run : RF) (af : AF) (args : List AV) : Option AV :=
 match run af.body (argL 0 args) [] with
 | some (.exit _, _, _) => none
 | some (_, L, h') => (match resA (lkN L) h' af.res with
  | some vs => (match frzAs h' vs with
   | some (rs, _) => some (pack rs)
   | none => none)
  | none => none)
 | none => none
def runH (run : RF) (af : AF) (args : List AV) (h : Hp) : Option (AV × Hp) :=
 match run af.body (argL 0 args) h with
 | some (.exit _, _, _) => none
 | some (_, L, h') => (match resA (lkN L) h' af.res with
  | some vs => some (pack vs, h')
  | none => none)
 | none => none
inductive Ent where
 | txt (sc fz : Bool) (af : AF)
 | nat (g : List AV → Option AV)
 | nlk (g : List AV → Option AV)
abbrev Tb := Nat → Option Ent
def fqT (T : Tb) (f : Nat) : Bool := match T f with
 | some (.txt _ fz _) => fz
 | some (.nat _) => true
 | some (.nlk _) => false
 | none => false
def xNat (g : List AV → Option AV) (args : List AV) (h : Hp) : Option AV :=
 match (args.map fgA).all pureA with
 | true => match g (args.map fgA) with
  | some r => (match pureA r with
   | true => some r
   | false => none)
  | none => none
 | false => match viewAs h args with
  | some vargs => (match g vargs with
   | some r => (match scalA r with
    | true => some r
    | false => none)
   | none => none)
  | none => none
def xCall (T : Tb) (run : RF) : CF := fun d f args h =>
 match T f with
 | none => none
 | some (.nat g) => match xNat g args h with
  | some r => some (r, h)
  | none => none
 | some (.nlk g) => match viewAs h args with
  | some vargs => (match g vargs with
   | some r => some (r, h)
   | none => none)
  | none => none
 | some (.txt sc _ af) => match Nat.ble args.length af.nt with
  | false => none
  | true => match args.all pureA with
   | true => (match runP run af args with
    | some r => some (r, h)
    | none => (match d with
     | true => none
     | false => runH run af args h))
   | false => match sc with
    | true => (match viewAs h args with
     | some vargs => (match runP run af vargs with
      | some r => (match scalA r with
       | true => some (r, h)
       | false => none)
      | none => none)
     | none => (match d with
      | true => none
      | false => runH run af args h))
    | false => (match d with
     | true => none
     | false => runH run af args h)
def xC (T : Tb) : Nat → AC → Lv → Hp → Option (Ex × Lv × Hp)
 | 0, _, _, _ => none
 | n + 1, c, L, h => match c with
  | .skip => some (.normal, L, h)
  | .reg d ops => (match xOps (xCall T (xC T n)) (fqT T) d ops L h with
   | some (L', h') => some (.normal, L', h')
   | none => none)
  | .rgf pre k ops => (match xOpsF (xCall T (xC T n)) pre k [] ops L h with
   | some (L', h') => some (.normal, L', h')
   | none => none)
  | .rgw _ _ _ _ _ => none
  | .rgc _ _ _ => none
  | .seq a b => (match xC T n a L h with
   | some (.normal, L', h') => xC T n b L' h'
   | r => r)
  | .cond c a b => (match evN L c with
   | .c (.d (.bool t)) => (match t with
    | true => xC T n a L h
    | false => xC T n b L h)
   | _ => none)
  | .block id c => (match xC T n c L h with
   | some (.exit i, L', h') => (match Nat.beq i id with
    | true => some (.normal, L', h')
    | false => some (.exit i, L', h'))
   | r => r)
  | .loop c => (match xC T n c L h with
   | some (.normal, L', h') => xC T n (.loop c) (normL L') h'
   | r => r)
  | .exit id => some (.exit id, L, h)
  | .ret => some (.ret, L, h)
theorem dropL_get (n : Nat) : ∀ (L : Lv) (i : Nat), i ≠ n → lkL (dropL n L) i = lkL L i := by
 intro L
 induction L with
 | nil => intro i _; rfl
 | cons p r ih =>
  intro i hi
  obtain ⟨j, v⟩ := p
  simp only [dropL]
  split
  ·rename_i hj
   have hj : j = n := Nat.eq_of_beq_eq_true hj
   subst hj
   simp only [lkL, upd, Ne.symm hi, if_false]
   exact ih i hi
  ·simp only [lkL, upd]
   by_cases h : j = i
   ·simp [h]
   ·simp only [h, if_false]; exact ih i hi
theorem normL_get : ∀ (L : Lv) (i : Nat), lkL (normL L) i = lkL L i := by
 intro L
 induction L with
 | nil => intro i; rfl
 | cons p r ih =>
  intro i
  obtain ⟨j, v⟩ := p
  simp only [normL, lkL, upd]
  by_cases h : j = i
  ·simp [h]
  ·simp only [h, if_false]; rw [dropL_get j _ i (Ne.symm h), ih]
theorem frzs_plain {h h' : Hp} : ∀ {cs : List CV} {ds : List D}, cs.all isD = true → frzs h cs = some (ds, h') → h' = h := by
 intro cs
 induction cs generalizing h h' with
 | nil => intro ds _ hf; simp only [frzs, Option.some.injEq, Prod.mk.injEq] at hf; exact hf.2.symm
 | cons c cs ih =>
  intro ds ha hf
  simp only [List.all_cons, Bool.and_eq_true] at ha
  cases c with
  | d x =>
   simp only [frzs] at hf
   revert hf
   simp only [frz]
   split
   ·rename_i l h2 hl
    intro hf
    cases hf
    exact ih ha.2 hl
   ·intro hf; cases hf
  | _ => simp [isD] at ha
theorem elemsOf_plain {h : Hp} {L : Lv} : ∀ {ps : List (Nat × X)} {as : List (Nat × List D)} {h' : Hp}, plainEl L ps = true → elemsOf h (lkN L) ps = some (as, h') → h' = h := by
 intro ps
 induction ps with
 | nil => intro as h' _ hf; simp only [elemsOf, Option.some.injEq, Prod.mk.injEq] at hf; exact hf.2.symm
 | cons p ps ih =>
  intro as h' ha hf
  obtain ⟨i, x⟩ := p
  simp only [plainEl] at ha
  simp only [elemsOf] at hf
  rw [evN_eq, ← lkN_fun] at ha
  split at ha
  ·rename_i cs hcs
   rw [hcs] at hf
   simp only at hf
   split at ha
   ·rename_i hall
    split at hf
    ·rename_i ds h1 hds
     have := frzs_plain hall hds
     subst this
     split at hf
     ·rename_i l h2 hl
      cases hf
      exact ih ha hl
     ·cases hf
    ·cases hf
   ·cases ha
  ·cases ha
inductive CallR (P : Program) : Bool → Hp → Nat → List AV → (AV → Hp → Prop) → Prop
 | pure {d : Bool} {h : Hp} {f : Nat} {args : List AV} {K : AV → Hp → Prop} {r : AV} (hp : PureR P h f args r) (k : K r h) : CallR P d h f args K
 | fn {h : Hp} {f : Nat} {args : List AV} {K : AV → Hp → Prop} (hf : FnS P f args h K) : CallR P false h f args K
def CfOk (P : Program) (cf : CF) : Prop := ∀ d f args h r h', cf d f args h = some (r, h') → FnOk P f ∧ CallR P d h f args fun v h1 => v = r ∧ h1 = h'
theorem xOp_sound {P : Program} {cf : CF} {d : Bool} {op : AOp} {L : Lv} {h h' : Hp} {v : AV} (hcf : CfOk P cf) {m : Nat} (hx : xOp cf d op L h = some (v, h')) : Did P m d op L h fun L1 v1 h1 => L1 = L ∧ v1 = v ∧ h1 = h' := by
 cases op
 case call f xs =>
  simp only [xOp] at hx
  refine .call f xs rfl ?_
  cases (hcf _ _ _ _ _ _ hx).2 with
  | pure hp k => exact .pure hp ⟨rfl, k⟩
  | fn hf => exact .fn (hf.mono fun _ _ k => ⟨rfl, k⟩)
 case callv x xs =>
  simp only [xOp] at hx
  split at hx
  ·rename_i b f caps hf
   obtain ⟨h1, h2⟩ := hcf _ _ _ _ _ _ hx
   refine .callv x xs b f caps rfl rfl (by rw [← evN_eq]; exact hf) h1 ?_
   cases h2 with
   | pure hp k => exact .pure hp ⟨rfl, k⟩
   | fn hf => exact .fn (hf.mono fun _ _ k => ⟨rfl, k⟩)
  ·cases hx
 case bsl sz z n ps =>
  cases d with
  | false =>
   simp only [xOp, lkN_fun] at hx
   exact .step v h' hx (by simp) ⟨rfl, rfl, rfl⟩
  | true =>
   simp only [xOp] at hx
   split at hx
   ·rename_i hp
    have hx0 := hx
    rw [lkN_fun] at hx0
    refine .step v h' hx0 (fun _ _ => ?_) ⟨rfl, rfl, rfl⟩
    simp only [astep] at hx
    split at hx
    ·rename_i as h1 has
     have := elemsOf_plain hp has
     subst this
     split at hx
     ·split at hx
      ·cases hx; exact ⟨_, rfl⟩
      ·cases hx
     ·cases hx
    ·cases hx
   ·cases hx
 case box x =>
  simp only [xOp, lkN_fun] at hx
  refine .step v h' hx (fun _ _ => ?_) ⟨rfl, rfl, rfl⟩
  simp only [astep] at hx
  split at hx
  ·split at hx
   ·cases hx; exact ⟨_, rfl⟩
   ·cases hx
  ·cases hx
 case mks sz bytes z l c =>
  simp only [xOp, lkN_fun] at hx
  refine .step v h' hx (fun _ _ => ?_) ⟨rfl, rfl, rfl⟩
  simp only [astep] at hx
  split at hx
  ·split at hx
   ·cases hx; exact ⟨_, rfl⟩
   ·cases hx
  ·cases hx
 all_goals
  simp only [xOp, lkN_fun] at hx
  exact .step v h' hx (by first | (simp [cls]; done) | (rename_i o _; cases o <;> simp [cls])) ⟨rfl, rfl, rfl⟩
theorem xOps_sound {P : Program} {cf : CF} {fq : Nat → Bool} {m : Nat} {d : Bool} (hcf : CfOk P cf) : ∀ {ops : List AO} {L L' : Lv} {h h' : Hp}, xOps cf fq d ops L h = some (L', h') → runO P m d ops L h fun L1 h1 => L1 = L' ∧ h1 = h' := by
 intro ops
 induction ops with
 | nil =>
  intro L L' h h' hx
  simp only [xOps, Option.some.injEq, Prod.mk.injEq] at hx
  exact ⟨hx.1, hx.2⟩
 | cons o r ih =>
  intro L L' h h' hx
  have go : (match xFz fq d o.op L h with
    | (L1, h1) => match xOp cf d o.op L1 h1 with
     | some (v, h') => xOps cf fq d r (putL L1 o.dst v) h'
     | none => none) = some (L', h') → Did P (md m d) d o.op L h fun L2 v h1 => runO P m d r (putL L2 o.dst v) h1 fun L1 h1 => L1 = L' ∧ h1 = h' := by
   intro hx
   generalize hq : xFz fq d o.op L h = q at hx
   obtain ⟨L1, h1⟩ := q
   simp only at hx
   split at hx
   ·rename_i v h2 hv
    have hd : Did P (md m d) d o.op L1 h1 fun L2 v h1 => runO P m d r (putL L2 o.dst v) h1 fun L1 h1 => L1 = L' ∧ h1 = h' :=
     (xOp_sound hcf hv).mono fun L2 v2 h2 ⟨e1, e2, e3⟩ => by subst e1 e2 e3; exact ih hx
    rcases xFz_wk (fq := fq) (d := d) (op := o.op) (L := L) (h := h) (m := md m d) with ⟨_, e⟩ | ⟨e1, e2⟩
    ·rw [hq] at e; cases e; exact hd
    ·rw [hq] at e2; exact .wk e1 e2 hd
   ·cases hx
  simp only [runO]
  simp only [xOps] at hx
  split at hx
  ·rename_i hg; exact .inl ⟨by simp [hg, gv], go hx⟩
  ·rename_i s want hg
   split at hx
   ·rename_i b hb
    rw [lkN_eq] at hb
    have hgv : gv (lkL L) o.g = some (b == want) := by simp [hg, gv, lk, hb]
    split at hx
    ·left; exact ⟨hgv, go hx⟩
    ·left; exact ⟨hgv, go hx⟩
    ·right; exact ⟨hgv, ih hx⟩
    ·right; exact ⟨hgv, ih hx⟩
   ·rename_i hb
    rw [lkN_eq] at hb
    right; exact ⟨by simp [hg, gv, lk, hb], ih hx⟩
   ·cases hx
theorem xOpsF_sound {P : Program} {cf : CF} {m : Nat} {pre : List (List Nat)} (hcf : CfOk P cf) : ∀ {ops : List AO} {i : Nat} {F : List Ft} {L L' : Lv} {h h' : Hp}, xOpsF cf pre i F ops L h = some (L', h') → runF P m pre i F ops L h fun L1 h1 => L1 = L' ∧ h1 = h' := by
 intro ops
 induction ops with
 | nil =>
  intro i F L L' h h' hx
  simp only [xOpsF, Option.some.injEq, Prod.mk.injEq] at hx
  exact ⟨hx.1, hx.2⟩
 | cons o r ih =>
  intro i F L L' h h' hx
  have go : (match xG cf (getP pre i) i F o L h with
    | some (F', v, h') => xOpsF cf pre (i + 1) F' r (putL L o.dst v) h'
    | none => none) = some (L', h') → ∃ w al, wtOf (lkL L) h.length o.op = some (w, al) ∧ Did P 0 true o.op L h fun L2 v h1 => chkF (getP pre i) (tOf (lkL L) h o.op) w (rfA v) F = true ∧
     runF P m pre (i + 1) (F ++ [⟨i, tOf (lkL L) h o.op, w, al⟩]) r (putL L2 o.dst v) h1 fun L1 h1 => L1 = L' ∧ h1 = h' := by
   intro hx
   split at hx
   ·rename_i F' v h1 hg
    unfold xG at hg
    rw [lkN_fun] at hg
    split at hg
    ·rename_i w al hw
     split at hg
     ·rename_i v' h2 hv
      split at hg
      ·rename_i hc
       cases hg
       refine ⟨w, al, hw, (xOp_sound hcf hv).mono fun L2 v2 h2 ⟨e1, e2, e3⟩ => ?_⟩
       subst e1 e2 e3
       exact ⟨hc, ih hx⟩
      ·cases hg
     ·cases hg
    ·cases hg
   ·cases hx
  simp only [runF]
  simp only [xOpsF] at hx
  split at hx
  ·rename_i hg; exact .inl ⟨by simp [hg, gv], go hx⟩
  ·rename_i s want hg
   split at hx
   ·rename_i b hb
    rw [lkN_eq] at hb
    have hgv : gv (lkL L) o.g = some (b == want) := by simp [hg, gv, lk, hb]
    split at hx
    ·left; exact ⟨hgv, go hx⟩
    ·left; exact ⟨hgv, go hx⟩
    ·right; exact ⟨hgv, ih hx⟩
    ·right; exact ⟨hgv, ih hx⟩
   ·rename_i hb
    rw [lkN_eq] at hb
    right; exact ⟨by simp [hg, gv, lk, hb], ih hx⟩
   ·cases hx
theorem runO.mono {P : Program} {m : Nat} {d : Bool} {K K' : Lv → Hp → Prop} (hK : ∀ L h, K L h → K' L h) : ∀ {ops : List AO} {L : Lv} {h : Hp}, runO P m d ops L h K → runO P m d ops L h K' := by
 intro ops
 induction ops with
 | nil => intro L h hr; exact hK _ _ hr
 | cons o r ih =>
  intro L h hr
  rcases hr with ⟨h1, h2⟩ | ⟨h1, h2⟩
  ·exact .inl ⟨h1, h2.mono fun L' v h' hr => ih hr⟩
  ·exact .inr ⟨h1, ih h2⟩
structure TabOk (P : Program) (T : Tb) : Prop where
 ok : ∀ f sc fz af, T f = some (.txt sc fz af) → ∃ fn, P.funcs[f]? = some fn ∧ fn.name ≠ "runtime.NumGoroutine" ∧ compF P fn = some af
 nat : ∀ f g, T f = some (.nat g) → FnOk P f ∧ ∀ args r, g args = some r → FnS P f args [] fun r' _ => r' = r
 nlk : ∀ f g, T f = some (.nlk g) → FnOk P f ∧ ∀ args r, g args = some r → FrS P f args r
def RunOk (P : Program) (run : RF) : Prop := ∀ (N : Nat) (G0 : Nat → Prop) (ι0 : Io) (h0 : Hp) (w0 : World) (c : Code) (ac : AC) (L L' : Lv) (h h' : Hp) (x : Ex) (Q : Post) (a : Act) (w : World),
 compC P N c = some ac → run ac L h = some (x, L', h') → Q x L' h' → Fits N G0 ι0 h0 w0 (lkL L) h a w → c.wp P (out N G0 ι0 h0 w0 Q) a w
theorem runP_sound {P : Program} {run : RF} {f : Nat} {fn : Func} {af : AF} {args : List AV} {r : AV} (hr : RunOk P run) (hf : P.funcs[f]? = some fn) (hc : compF P fn = some af) (hl : args.length ≤ af.nt) (hx : runP run af args = some r) :
  FnS P f args [] fun r' _ => pureA r' = true ∧ r' = r := by
 obtain ⟨c, hb, hac, hres, hn⟩ := compF_spec hc
 refine fn_pure_wp (K := fun r' => r' = r) hf hb hres (by omega) fun G ι w a hfit => ?_
 unfold runP at hx
 split at hx
 ·cases hx
 ·rename_i x L h' hne hrun
  split at hx
  ·rename_i vs hvs
   split at hx
   ·rename_i rs h2 hrs
    cases hx
    refine hr _ _ _ _ _ _ _ _ _ _ _ _ _ _ _ hac hrun ?_ hfit
    cases x with
    | exit i => exact absurd rfl (hne i)
    | normal => simp only [postP, RetP, hvs, hrs]
    | ret => simp only [postP, RetP, hvs, hrs]
   ·cases hx
  ·cases hx
 ·cases hx
theorem runH_sound {P : Program} {run : RF} {f : Nat} {fn : Func} {af : AF} {args : List AV} {h h' : Hp} {r : AV} (hr : RunOk P run) (hf : P.funcs[f]? = some fn) (hc : compF P fn = some af) (hl : args.length ≤ af.nt) (hx : runH run af args h = some (r, h')) :
  FnS P f args h fun r1 h1 => r1 = r ∧ h1 = h' := by
 obtain ⟨c, hb, hac, hres, hn⟩ := compF_spec hc
 refine fn_heap_wp (K := fun r1 h1 => r1 = r ∧ h1 = h') hf hb hres (by omega) fun G ι w a hfit => ?_
 unfold runH at hx
 split at hx
 ·cases hx
 ·rename_i x L h2 hne hrun
  split at hx
  ·rename_i vs hvs
   cases hx
   refine hr _ _ _ _ _ _ _ _ _ _ _ _ _ _ _ hac hrun ?_ hfit
   cases x with
   | exit i => exact absurd rfl (hne i)
   | normal => simp only [postH, RetH, hvs, and_self]
   | ret => simp only [postH, RetH, hvs, and_self]
  ·cases hx
 ·cases hx
theorem xCall_sound {P : Program} {T : Tb} {run : RF} (hT : TabOk P T) (hr : RunOk P run) : CfOk P (xCall T run) := by
 intro d f args h r h' hx
 unfold xCall at hx
 split at hx
 ·cases hx
 ·rename_i g hTg
  obtain ⟨hfok, hg⟩ := hT.nat f g hTg
  refine ⟨hfok, ?_⟩
  split at hx
  ·rename_i r' hr'
   cases hx
   refine .pure ?_ ⟨rfl, rfl⟩
   unfold xNat at hr'
   split at hr'
   ·rename_i hp
    split at hr'
    ·rename_i r0 hr0
     split at hr'
     ·rename_i hpr
      cases hr'
      exact .inl ⟨_, .inl rfl, hp, (hg _ _ hr0).mono fun q _ e => ⟨by rw [e]; exact hpr, e⟩⟩
     ·cases hr'
    ·cases hr'
   ·split at hr'
    ·rename_i vargs hv
     split at hr'
     ·rename_i r0 hr0
      split at hr'
      ·rename_i hs
       cases hr'
       exact .inr ⟨vargs, hv, .inl ((hg _ _ hr0).mono fun q _ e => ⟨by rw [e]; exact hs, e⟩)⟩
      ·cases hr'
     ·cases hr'
    ·cases hr'
  ·cases hx
 ·rename_i g hTg
  obtain ⟨hfok, hg⟩ := hT.nlk f g hTg
  refine ⟨hfok, ?_⟩
  split at hx
  ·rename_i vargs hv
   split at hx
   ·rename_i r0 hr0
    cases hx
    exact .pure (.inr ⟨vargs, hv, .inr (hg _ _ hr0)⟩) ⟨rfl, rfl⟩
   ·cases hx
  ·cases hx
 ·rename_i sc fz af hTf
  obtain ⟨fn, hf, hnm, hc⟩ := hT.ok f sc fz af hTf
  have hfok : FnOk P f := ⟨fn, hf, by obtain ⟨c, hb, _⟩ := compF_spec hc; simp [hb], hnm⟩
  refine ⟨hfok, ?_⟩
  split at hx
  ·cases hx
  ·rename_i hle
   have hle : args.length ≤ af.nt := Nat.le_of_ble_eq_true hle
   have hh : ∀ d : Bool, (match d with | true => none | false => runH run af args h) = some (r, h') → CallR P d h f args fun v h1 => v = r ∧ h1 = h' := by
    intro d hd
    cases d with
    | true => cases hd
    | false => exact .fn (runH_sound hr hf hc hle hd)
   split at hx
   ·rename_i hp
    split at hx
    ·rename_i r' hr'
     cases hx
     exact .pure (.inl ⟨_, .inr rfl, hp, runP_sound hr hf hc hle hr'⟩) ⟨rfl, rfl⟩
    ·exact hh d hx
   ·split at hx
    ·split at hx
     ·rename_i vargs hv
      split at hx
      ·rename_i r' hr'
       split at hx
       ·rename_i hs
        cases hx
        refine .pure (.inr ⟨vargs, hv, ?_⟩) ⟨rfl, rfl⟩
        have hlen := (viewAs_get hv).1
        exact .inl ((runP_sound hr hf hc (by omega) hr').mono fun q _ ⟨_, e⟩ => ⟨by rw [e]; exact hs, e⟩)
       ·cases hx
      ·cases hx
     ·exact hh d hx
    ·exact hh d hx
theorem xC_sound {P : Program} {T : Tb} (hm : P.follows .mixedOrders = true) (hT : TabOk P T) : ∀ n, RunOk P (xC T n) := by
 intro n
 induction n using Nat.strongRecOn with
 | _ n ihs =>
 cases n with
 | zero => intro N G0 ι0 h0 w0 c ac L L' h h' x Q a w _ hx; simp [xC] at hx
 | succ n =>
  have ih := ihs n (Nat.lt_succ_self n)
  intro N G0 ι0 h0 w0 c
  induction c with
  | skip =>
   intro ac L L' h h' x Q a w hc hx hq hf
   simp only [compC, Option.some.injEq] at hc; subst hc
   simp only [xC, Option.some.injEq, Prod.mk.injEq] at hx
   obtain ⟨rfl, rfl, rfl⟩ := hx
   exact wp_skip ⟨L, h, hq, hf⟩
  | label l =>
   intro ac L L' h h' x Q a w hc hx hq hf
   simp only [compC, Option.some.injEq] at hc; subst hc
   simp only [xC, Option.some.injEq, Prod.mk.injEq] at hx
   obtain ⟨rfl, rfl, rfl⟩ := hx
   exact wp_label ⟨L, h, hq, hf⟩
  | region id ops draw =>
   intro ac L L' h h' x Q a w hc hx hq hf
   simp only [compC] at hc
   split at hc
   ·rename_i aos haos
    split at hc
    ·rename_i hcond
     cases hc
     cases draw with
     | false =>
      simp only [xC] at hx
      split at hx
      ·rename_i L1 h1 hops
       cases hx
       have hrun := xOps_sound (m := h0.length) (xCall_sound hT ih) hops
       refine wp_region ?_
       rw [List.range_eq_range']
       have := region_seq (ops := ops) (Q := out N G0 ι0 h0 w0 Q) (Nat.le_refl _) ops.toList aos 0 L h _ a w (by simp) haos hcond.1 hrun hf (fun L2 h2 a' w' hk hf' => by obtain ⟨rfl, rfl⟩ := hk; exact ⟨_, _, hq, hf'⟩)
       simpa using this
      ·cases hx
     | true =>
      have hx : xC T (n + 1) (acDrawW P ops aos) L h = some (x, L', h') := by
       revert hx
       simp only [acDraw5]
       split
       ·split
        ·split
         ·intro hx; simp [xC] at hx
         ·exact fun hx => hx
        ·exact fun hx => hx
       ·exact fun hx => hx
      have hx : xC T (n + 1) (acDraw ops aos) L h = some (x, L', h') := by
       revert hx
       simp only [acDrawW]
       split
       ·split
        ·split
         ·intro hx; simp [xC] at hx
         ·exact fun hx => hx
        ·exact fun hx => hx
       ·exact fun hx => hx
      refine region_segs (S := fun ac L h Q => ∃ k x L' h', k ≤ n + 1 ∧ xC T k ac L h = some (x, L', h') ∧ Q x L' h') hm (Nat.le_refl _) ?_ ?_ haos hcond.1 (hcond.2 rfl).1 (hcond.2 rfl).2 hf ⟨n + 1, x, L', h', Nat.le_refl _, hx, hq⟩
      ·rintro a b L h Q ⟨k, x, L', h', hk, hx, hq⟩
       cases k with
       | zero => simp [xC] at hx
       | succ k =>
        simp only [xC] at hx
        split at hx
        ·rename_i L1 h1 hr1
         exact ⟨k, .normal, L1, h1, by omega, hr1, k, x, L', h', by omega, hx, hq⟩
        ·rename_i hne
         refine ⟨k, x, L', h', by omega, hx, ?_⟩
         cases x with
         | normal => exact absurd hx (hne _ _)
         | exit i => exact hq
         | ret => exact hq
      ·rintro d os L h Q ⟨k, x, L', h', hk, hx, hq⟩
       cases k with
       | zero => simp [xC] at hx
       | succ k =>
        simp only [xC] at hx
        split at hx
        ·rename_i L1 h1 hops
         cases hx
         exact runO.mono (fun L2 h2 ⟨e1, e2⟩ => by subst e1 e2; exact hq) (xOps_sound (m := h0.length) (xCall_sound hT (ihs k (by omega))) hops)
        ·cases hx
    ·split at hc
     ·rename_i hcond
      cases hc
      obtain ⟨rfl, k1, k2, k3⟩ := hcond
      have hx : xC T (n + 1) (acDraw3 ops aos) L h = some (x, L', h') := by
       unfold acDraw4 at hx
       split at hx
       ·split at hx
        ·simp [xC] at hx
        ·exact hx
       ·exact hx
      refine region_segs3 (S := fun ac L h Q => ∃ k x L' h', k ≤ n + 1 ∧ xC T k ac L h = some (x, L', h') ∧ Q x L' h') hm (Nat.le_refl _) ?_ ?_ ?_ haos k1 k2 k3 hf ⟨n + 1, x, L', h', Nat.le_refl _, hx, hq⟩
      ·rintro a b L h Q ⟨k, x, L', h', hk, hx, hq⟩
       cases k with
       | zero => simp [xC] at hx
       | succ k =>
        simp only [xC] at hx
        split at hx
        ·rename_i L1 h1 hr1
         exact ⟨k, .normal, L1, h1, by omega, hr1, k, x, L', h', by omega, hx, hq⟩
        ·rename_i hne
         refine ⟨k, x, L', h', by omega, hx, ?_⟩
         cases x with
         | normal => exact absurd hx (hne _ _)
         | exit i => exact hq
         | ret => exact hq
      ·rintro d os L h Q ⟨k, x, L', h', hk, hx, hq⟩
       cases k with
       | zero => simp [xC] at hx
       | succ k =>
        simp only [xC] at hx
        split at hx
        ·rename_i L1 h1 hops
         cases hx
         exact runO.mono (fun L2 h2 ⟨e1, e2⟩ => by subst e1 e2; exact hq) (xOps_sound (m := h0.length) (xCall_sound hT (ihs k (by omega))) hops)
        ·cases hx
      ·rintro pre k0 os L h Q ⟨k, x, L', h', hk, hx, hq⟩
       cases k with
       | zero => simp [xC] at hx
       | succ k =>
        simp only [xC] at hx
        split at hx
        ·rename_i L1 h1 hops
         cases hx
         exact runF.mono (fun L2 h2 ⟨e1, e2⟩ => by subst e1 e2; exact hq) (xOpsF_sound (m := h0.length) (xCall_sound hT (ihs k (by omega))) hops)
        ·cases hx
     ·cases hc
   ·cases hc
  | seq p q _ _ =>
   intro ac L L' h h' x Q a w hc hx hq hf
   simp only [compC] at hc
   split at hc
   ·rename_i cp cq hp hcq
    cases hc
    simp only [xC] at hx
    split at hx
    ·rename_i L1 h1 hrun
     refine wp_seq (wp_mono (ih N G0 ι0 h0 w0 p cp L L1 h h1 .normal (fun x L h => x = .normal ∧ L = L1 ∧ h = h1) a w hp hrun ⟨rfl, rfl, rfl⟩ hf) fun e a' w' ⟨L2, h2, hq2, hf2⟩ => ?_)
     cases e with
     | normal => obtain ⟨_, rfl, rfl⟩ := hq2; exact ih N G0 ι0 h0 w0 q cq _ L' _ h' x Q a' w' hcq hx hq hf2
     | exit i => cases hq2.1
     | ret => cases hq2.1
     | goto => exact hq2.elim
     | panic => exact hq2.elim
     | outgrown => exact hq2.elim
    ·rename_i hne
     refine wp_seq (wp_mono (ih N G0 ι0 h0 w0 p cp L L' h h' x (fun x1 L1 h1 => x1 = x ∧ L1 = L' ∧ h1 = h') a w hp hx ⟨rfl, rfl, rfl⟩ hf) fun e a' w' ⟨L2, h2, hq2, hf2⟩ => ?_)
     cases e with
     | normal => obtain ⟨rfl, rfl, rfl⟩ := hq2; exact absurd hx (hne _ _)
     | exit i => obtain ⟨rfl, rfl, rfl⟩ := hq2; exact ⟨_, _, hq, hf2⟩
     | ret => obtain ⟨rfl, rfl, rfl⟩ := hq2; exact ⟨_, _, hq, hf2⟩
     | goto => exact hq2.elim
     | panic => exact hq2.elim
     | outgrown => exact hq2.elim
   ·cases hc
  | cond b p q _ _ =>
   intro ac L L' h h' x Q a w hc hx hq hf
   simp only [compC] at hc
   split at hc
   ·rename_i c' cp cq hcc hp hcq
    cases hc
    simp only [xC] at hx
    split at hx
    ·rename_i t ht
     obtain ⟨G, ι, st⟩ := hf
     have hr := cx_sound hcc st.rel
     rw [evN_eq] at ht
     rw [ht] at hr
     have he := inv_bool hr
     cases t with
     | true => exact wp_cond_true he (ih _ _ _ _ _ p cp L L' h h' x Q a w hp hx hq ⟨G, ι, st⟩)
     | false => exact wp_cond_false he (ih _ _ _ _ _ q cq L L' h h' x Q a w hcq hx hq ⟨G, ι, st⟩)
    ·cases hx
   ·cases hc
  | block id c _ =>
   intro ac L L' h h' x Q a w hc hx hq hf
   simp only [compC] at hc
   split at hc
   ·rename_i c' hcc
    cases hc
    simp only [xC] at hx
    refine wp_block ?_
    split at hx
    ·rename_i i L1 h1 hrun
     refine wp_mono (ih N G0 ι0 h0 w0 c c' L L1 h h1 (.exit i) (fun x L h => x = .exit i ∧ L = L1 ∧ h = h1) a w hcc hrun ⟨rfl, rfl, rfl⟩ hf) fun e a' w' ⟨L2, h2, hq2, hf2⟩ => ?_
     cases e with
     | normal => cases hq2.1
     | ret => cases hq2.1
     | exit k =>
      obtain ⟨e1, rfl, rfl⟩ := hq2
      cases e1
      simp only [Exit.inBlock]
      split at hx
      ·rename_i hb
       cases hx
       have : i = id := Nat.eq_of_beq_eq_true hb
       rw [if_pos this]; exact ⟨_, _, hq, hf2⟩
      ·rename_i hb
       cases hx
       have : ¬ i = id := fun e => by subst e; simp at hb
       rw [if_neg this]; exact ⟨_, _, hq, hf2⟩
     | goto => exact hq2.elim
     | panic => exact hq2.elim
     | outgrown => exact hq2.elim
    ·rename_i hne
     refine wp_mono (ih N G0 ι0 h0 w0 c c' L L' h h' x (fun x1 L1 h1 => x1 = x ∧ L1 = L' ∧ h1 = h') a w hcc hx ⟨rfl, rfl, rfl⟩ hf) fun e a' w' ⟨L2, h2, hq2, hf2⟩ => ?_
     cases e with
     | normal => obtain ⟨rfl, rfl, rfl⟩ := hq2; exact ⟨_, _, hq, hf2⟩
     | ret => obtain ⟨rfl, rfl, rfl⟩ := hq2; exact ⟨_, _, hq, hf2⟩
     | exit k => obtain ⟨rfl, rfl, rfl⟩ := hq2; exact absurd hx (hne _ _ _)
     | goto => exact hq2.elim
     | panic => exact hq2.elim
     | outgrown => exact hq2.elim
   ·cases hc
  | loop c _ =>
   intro ac L L' h h' x Q a w hc hx hq hf
   simp only [compC] at hc
   split at hc
   ·rename_i c' hcc
    cases hc
    refine wp_loop_ghost (fun k a w => ∃ j L h, k = j ∧ j ≤ n + 1 ∧ xC T j (.loop c') L h = some (x, L', h') ∧ Fits N G0 ι0 h0 w0 (lkL L) h a w) ?_ (n + 1) a w ⟨n + 1, L, h, rfl, Nat.le_refl _, hx, hf⟩
    intro k a w ⟨j, L, h, hk, hj, hx, hf⟩
    subst hk
    cases k with
    | zero => simp [xC] at hx
    | succ j =>
     have ihj := ihs j (by omega)
     simp only [xC] at hx
     split at hx
     ·rename_i L1 h1 hrun
      refine wp_mono (ihj N G0 ι0 h0 w0 c c' L L1 h h1 .normal (fun x L h => x = .normal ∧ L = L1 ∧ h = h1) a w hcc hrun ⟨rfl, rfl, rfl⟩ hf) fun e a' w' ⟨L2, h2, hq2, hf2⟩ => ?_
      cases e with
      | normal =>
       obtain ⟨_, rfl, rfl⟩ := hq2
       exact ⟨j, Nat.lt_succ_self j, j, _, _, rfl, by omega, hx, by rw [show lkL (normL L2) = lkL L2 from funext (normL_get L2)]; exact hf2⟩
      | ret => cases hq2.1
      | exit k => cases hq2.1
      | goto => exact hq2.elim
      | panic => exact hq2.elim
      | outgrown => exact hq2.elim
     ·rename_i hne
      refine wp_mono (ihj N G0 ι0 h0 w0 c c' L L' h h' x (fun x1 L1 h1 => x1 = x ∧ L1 = L' ∧ h1 = h') a w hcc hx ⟨rfl, rfl, rfl⟩ hf) fun e a' w' ⟨L2, h2, hq2, hf2⟩ => ?_
      cases e with
      | normal => obtain ⟨rfl, rfl, rfl⟩ := hq2; exact absurd hx (hne _ _)
      | ret => obtain ⟨rfl, rfl, rfl⟩ := hq2; exact ⟨_, _, hq, hf2⟩
      | exit k => obtain ⟨rfl, rfl, rfl⟩ := hq2; exact ⟨_, _, hq, hf2⟩
      | goto => exact hq2.elim
      | panic => exact hq2.elim
      | outgrown => exact hq2.elim
   ·cases hc
  | scope c ihs =>
   intro ac L L' h h' x Q a w hc hx hq hf
   simp only [compC] at hc
   refine wp_scope_straight (wp_mono (ihs ac L L' h h' x Q a w hc hx hq hf) fun e a' w' hq => ?_)
   obtain ⟨L', h', hq, hf'⟩ := hq
   cases e with
   | normal => exact ⟨L', h', hq, hf'⟩
   | exit i => exact ⟨L', h', hq, hf'⟩
   | ret => exact ⟨L', h', hq, hf'⟩
   | goto => exact hq.elim
   | panic => exact hq.elim
   | outgrown => exact hq.elim
  | exit id =>
   intro ac L L' h h' x Q a w hc hx hq hf
   simp only [compC, Option.some.injEq] at hc; subst hc
   simp only [xC, Option.some.injEq, Prod.mk.injEq] at hx
   obtain ⟨rfl, rfl, rfl⟩ := hx
   exact wp_exit ⟨L, h, hq, hf⟩
  | ret =>
   intro ac L L' h h' x Q a w hc hx hq hf
   simp only [compC, Option.some.injEq] at hc; subst hc
   simp only [xC, Option.some.injEq, Prod.mk.injEq] at hx
   obtain ⟨rfl, rfl, rfl⟩ := hx
   exact wp_ret ⟨L, h, hq, hf⟩
  | goto l => intro ac L L' h h' x Q a w hc; simp [compC] at hc
  | rangeFunc => intro ac L L' h h' x Q a w hc; simp [compC] at hc
  | refuse => intro ac L L' h h' x Q a w hc; simp [compC] at hc
end Go.Ab

