/-
  Merged texts, part j.
-/
import Derived.Test.YtkpgchgghbmecaaZi
/-
  The engine, part z: running a closed call.
-/
namespace Go.Ab
def zC (l v sz : Nat) (es : List (List D)) : CV → CV
 | .arr l' v' i n => match Nat.beq l' l, Nat.beq v' v with
  | true, true => .d (.list false sz es)
  | _, _ => .arr l' v' i n
 | x => x
def zCs (l v sz : Nat) (es : List (List D)) : List CV → List CV
 | [] => []
 | x :: r => zC l v sz es x :: zCs l v sz es r
def zA (l v sz : Nat) (es : List (List D)) : AV → AV
 | .c x => .c (zC l v sz es x)
 | .agg xs => .agg (zCs l v sz es xs)
 | x => x
def zB (l v sz : Nat) (es : List (List D)) : Blk → Blk
 | .bx cs => .bx (zCs l v sz es cs)
 | b => b
def zH (l v sz : Nat) (es : List (List D)) : Nat → Hp → Hp
 | _, [] => []
 | n, b :: r => (match Nat.beq n l with
  | true => .dead
  | false => zB l v sz es b) :: zH l v sz es (n + 1) r
def zL (l v sz : Nat) (es : List (List D)) : Lv → Lv
 | [] => []
 | (i, x) :: r => (i, zA l v sz es x) :: zL l v sz es r
def okC (l v k : Nat) : CV → Prop
 | .arr l' v' i n => match Nat.beq l' l, Nat.beq v' v with
  | true, true => i = 0 ∧ n = k
  | _, _ => True
 | _ => True
def okCs (l v k : Nat) : List CV → Prop
 | [] => True
 | x :: r => okC l v k x ∧ okCs l v k r
def okA (l v k : Nat) : AV → Prop
 | .c x => okC l v k x
 | .agg xs => okCs l v k xs
 | _ => True
def okB (l v k : Nat) : Blk → Prop
 | .bx cs => okCs l v k cs
 | _ => True
def okH (l v k : Nat) : Hp → Prop
 | [] => True
 | b :: r => okB l v k b ∧ okH l v k r
def okL (l v k : Nat) : Lv → Prop
 | [] => True
 | (_, x) :: r => okA l v k x ∧ okL l v k r
theorem zC_ok {l v sz k : Nat} {es : List (List D)} (hk : k = es.length) {x : CV} (h : okC l v k x) : FzC l v sz es x (zC l v sz es x) := by
 cases x with
 | arr l' v' i n =>
  simp only [okC] at h
  simp only [zC]
  split at h
  ·rename_i hl hv
   obtain ⟨rfl, rfl⟩ := h
   have hl : l' = l := Nat.eq_of_beq_eq_true hl
   have hv : v' = v := Nat.eq_of_beq_eq_true hv
   subst hl hv
   exact .arr _ hk
  ·exact .keep _
 | _ => exact .keep _
theorem zCs_ok {l v sz k : Nat} {es : List (List D)} (hk : k = es.length) : ∀ {xs : List CV}, okCs l v k xs → FzCs l v sz es xs (zCs l v sz es xs) := by
 intro xs
 induction xs with
 | nil => intro _; trivial
 | cons x r ih => intro h; exact ⟨zC_ok hk h.1, ih h.2⟩
theorem zA_ok {l v sz k : Nat} {es : List (List D)} (hk : k = es.length) {x : AV} (h : okA l v k x) : FzA l v sz es x (zA l v sz es x) := by
 cases x with
 | c x => exact .c _ _ (zC_ok hk h)
 | agg xs => exact .agg _ _ (zCs_ok hk h)
 | tup => exact .same _
theorem lkN_z {l v sz : Nat} {es : List (List D)} : ∀ (L : Lv) (i : Nat), lkN (zL l v sz es L) i = zA l v sz es (lkN L i) := by
 intro L
 induction L with
 | nil => intro i; rfl
 | cons p r ih =>
  intro i
  obtain ⟨j, x⟩ := p
  simp only [zL, lkN]
  split <;> simp_all
theorem okL_get {l v k : Nat} : ∀ {L : Lv}, okL l v k L → ∀ i, okA l v k (lkN L i) := by
 intro L
 induction L with
 | nil => intro _ i; trivial
 | cons p r ih =>
  intro h i
  obtain ⟨j, x⟩ := p
  simp only [lkN]
  split
  ·exact h.1
  ·exact ih h.2 i
theorem zH_ok {l v sz k : Nat} {es : List (List D)} (hk : k = es.length) : ∀ {h : Hp} {n : Nat}, okH l v k h → FzH l v sz es n h (zH l v sz es n h) := by
 intro h
 induction h with
 | nil => intro n _; trivial
 | cons b r ih =>
  intro n ho
  refine ⟨?_, ih ho.2⟩
  cases hb : Nat.beq n l with
  | true => exact .inl ⟨Nat.eq_of_beq_eq_true hb, rfl⟩
  | false =>
   refine .inr ⟨(fun e => by subst e; rw [Nat.beq_refl] at hb; cases hb), ?_⟩
   cases b with
   | bx cs => exact .bx _ _ (zCs_ok hk ho.1)
   | _ => exact .same _
def okCb (l v k : Nat) : CV → Bool
 | .arr l' v' i n => match Nat.beq l' l, Nat.beq v' v with
  | true, true => Nat.beq i 0 && Nat.beq n k
  | _, _ => true
 | _ => true
def okCsb (l v k : Nat) : List CV → Bool
 | [] => true
 | x :: r => okCb l v k x && okCsb l v k r
def okAb (l v k : Nat) : AV → Bool
 | .c x => okCb l v k x
 | .agg xs => okCsb l v k xs
 | _ => true
def okHb (l v k : Nat) : Hp → Bool
 | [] => true
 | .bx cs :: r => okCsb l v k cs && okHb l v k r
 | _ :: r => okHb l v k r
def okLb (l v k : Nat) : Lv → Bool
 | [] => true
 | (_, x) :: r => okAb l v k x && okLb l v k r
theorem okCb_ok {l v k : Nat} {x : CV} (h : okCb l v k x = true) : okC l v k x := by
 cases x <;> simp only [okC]
 simp only [okCb] at h
 split at h
 ·simp only [Bool.and_eq_true] at h
  exact ⟨Nat.eq_of_beq_eq_true h.1, Nat.eq_of_beq_eq_true h.2⟩
 ·trivial
theorem okCsb_ok {l v k : Nat} : ∀ {xs : List CV}, okCsb l v k xs = true → okCs l v k xs := by
 intro xs
 induction xs with
 | nil => intro _; trivial
 | cons x r ih => intro h; simp only [okCsb, Bool.and_eq_true] at h; exact ⟨okCb_ok h.1, ih h.2⟩
theorem okAb_ok {l v k : Nat} {x : AV} (h : okAb l v k x = true) : okA l v k x := by
 cases x with
 | c x => exact okCb_ok h
 | agg xs => exact okCsb_ok h
 | tup => trivial
theorem okHb_ok {l v k : Nat} : ∀ {h : Hp}, okHb l v k h = true → okH l v k h := by
 intro h
 induction h with
 | nil => intro _; trivial
 | cons b r ih =>
  intro ho
  cases b with
  | bx cs => simp only [okHb, Bool.and_eq_true] at ho; exact ⟨okCsb_ok ho.1, ih ho.2⟩
  | _ => simp only [okHb] at ho; exact ⟨trivial, ih ho⟩
theorem okLb_ok {l v k : Nat} : ∀ {L : Lv}, okLb l v k L = true → okL l v k L := by
 intro L
 induction L with
 | nil => intro _; trivial
 | cons p r ih =>
  obtain ⟨i, x⟩ := p
  intro ho
  simp only [okLb, Bool.and_eq_true] at ho
  exact ⟨okAb_ok ho.1, ih ho.2⟩
def fzAll : Nat → Lv → Hp → Lv × Hp
 | 0, L, h => (L, h)
 | l + 1, L, h => match h[l]? with
  | some (.da _ v sz es) => (match okLb l v es.length L && okHb l v es.length h with
   | true => fzAll l (zL l v sz es L) (zH l v sz es 0 h)
   | false => fzAll l L h)
  | _ => fzAll l L h
theorem fzAll_wk {m : Nat} : ∀ (n : Nat) (L : Lv) (h : Hp), Wk m L h (fzAll n L h).1 (fzAll n L h).2 := by
 intro n
 induction n with
 | zero => intro L h; exact .same rfl fun _ => .inr rfl
 | succ l ih =>
  intro L h
  simp only [fzAll]
  split
  ·rename_i r v sz es hl
   split
   ·rename_i hok
    simp only [Bool.and_eq_true] at hok
    refine .trans (.fz l v sz r es hl (fun i => .inr ?_) (zH_ok rfl (okHb_ok hok.2))) (ih _ _)
    rw [← lkN_eq, ← lkN_eq, lkN_z]; exact zA_ok rfl (okL_get (okLb_ok hok.1) i)
   ·exact ih L h
  ·exact ih L h
def xFz (fq : Nat → Bool) (d : Bool) (op : AOp) (L : Lv) (h : Hp) : Lv × Hp :=
 match d with
 | true => (L, h)
 | false => match (match op with
   | .call f _ => fq f
   | .callv x _ => (match evN L x with
    | .c (.fn f _) => fq f
    | _ => false)
   | _ => false) with
  | true => fzAll h.length L h
  | false => (L, h)
theorem xFz_wk {fq : Nat → Bool} {d : Bool} {op : AOp} {L : Lv} {h : Hp} {m : Nat} : (d = true ∧ xFz fq d op L h = (L, h)) ∨ (d = false ∧ Wk m L h (xFz fq d op L h).1 (xFz fq d op L h).2) := by
 cases d with
 | true => exact .inl ⟨rfl, rfl⟩
 | false =>
  refine .inr ⟨rfl, ?_⟩
  unfold xFz
  simp only
  generalize (match op with
   | .call f _ => fq f
   | .callv x _ => (match evN L x with
    | .c (.fn f _) => fq f
    | _ => false)
   | _ => false) = b
  cases b with
  | true => exact fzAll_wk _ _ _
  | false => exact .same rfl fun _ => .inr rfl
def isD : CV → Bool
 | .d _ => true
 | _ => false
def plainEl (L : Lv) : List (Nat × X) → Bool
 | [] => true
 | (_, x) :: r => match cells (evN L x) with
  | some cs => match cs.all isD with
   | true => plainEl L r
   | false => false
  | none => false
abbrev CF := Bool → Nat → List AV → Hp → Option (AV × Hp)
def xOp (cf : CF) (d : Bool) (op : AOp) (L : Lv) (h : Hp) : Option (AV × Hp) :=
 match op with
 | .call f xs => cf d f (evsN L xs) h
 | .callv x xs => match d, evN L x with
  | false, .c (.fn f caps) => cf false f (evsN L xs ++ caps.map .c) h
  | _, _ => none
 | .bsl sz z n ps => match d with
  | true => match plainEl L ps with
   | true => astep (lkN L) h (.bsl sz z n ps)
   | false => none
  | false => astep (lkN L) h (.bsl sz z n ps)
 | op => astep (lkN L) h op
def xOps (cf : CF) (fq : Nat → Bool) (d : Bool) : List AO → Lv → Hp → Option (Lv × Hp)
 | [], L, h => some (L, h)
 | o :: r, L, h => match o.g with
  | none => (match xFz fq d o.op L h with
   | (L1, h1) => match xOp cf d o.op L1 h1 with
    | some (v, h') => xOps cf fq d r (putL L1 o.dst v) h'
    | none => none)
  | some (s, want) => match lkN L s with
   | .c (.d (.bool b)) => (match b, want with
    | true, true => (match xFz fq d o.op L h with
     | (L1, h1) => match xOp cf d o.op L1 h1 with
      | some (v, h') => xOps cf fq d r (putL L1 o.dst v) h'
      | none => none)
    | false, false => (match xFz fq d o.op L h with
     | (L1, h1) => match xOp cf d o.op L1 h1 with
      | some (v, h') => xOps cf fq d r (putL L1 o.dst v) h'
      | none => none)
    | true, false => xOps cf fq d r (putL L o.dst (.tup [])) h
    | false, true => xOps cf fq d r (putL L o.dst (.tup [])) h)
   | .tup [] => xOps cf fq d r (putL L o.dst (.tup [])) h
   | _ => none
def xG (cf : CF) (pre : List Nat) (i : Nat) (F : List Ft) (o : AO) (L : Lv) (h : Hp) : Option (List Ft × AV × Hp) :=
 match wtOf (lkN L) h.length o.op with
 | some (w, al) => (match xOp cf true o.op L h with
  | some (v, h') => (match chkF pre (tOf (lkN L) h o.op) w (rfA v) F with
   | true => some (F ++ [⟨i, tOf (lkN L) h o.op, w, al⟩], v, h')
   | false => none)
  | none => none)
 | none => none
def xOpsF (cf : CF) (pre : List (List Nat)) : Nat → List Ft → List AO → Lv → Hp → Option (Lv × Hp)
 | _, _, [], L, h => some (L, h)
 | i, F, o :: r, L, h => match o.g with
  | none => (match xG cf (getP pre i) i F o L h with
   | some (F', v, h') => xOpsF cf pre (i + 1) F' r (putL L o.dst v) h'
   | none => none)
  | some (s, want) => match lkN L s with
   | .c (.d (.bool b)) => (match b, want with
    | true, true => (match xG cf (getP pre i) i F o L h with
     | some (F', v, h') => xOpsF cf pre (i + 1) F' r (putL L o.dst v) h'
     | none => none)
    | false, false => (match xG cf (getP pre i) i F o L h with
     | some (F', v, h') => xOpsF cf pre (i + 1) F' r (putL L o.dst v) h'
     | none => none)
    | true, false => xOpsF cf pre (i + 1) F r (putL L o.dst (.tup [])) h
    | false, true => xOpsF cf pre (i + 1) F r (putL L o.dst (.tup [])) h)
   | .tup [] => xOpsF cf pre (i + 1) F r (putL L o.dst (.tup [])) h
   | _ => none
def dropL (n : Nat) : Lv → Lv
 | [] => []
 | (i, v) :: r => match Nat.beq i n with
  | true => dropL n r
  | false => (i, v) :: dropL n r
def normL : Lv → Lv
 | [] => []
 | (i, v) :: r => (i, v) :: dropL i (normL r)
abbrev RF := AC → Lv → Hp → Option (Ex × Lv × Hp)
def runP (run : RF) (af : AF) (args : List AV) : Option AV :=
 match run af.body (argL 0 args) [] with
 | some (.exit _, _, _) => none
 | some (_, L, h') => (match resA (lkN L) h' af.res with
  | some vs => (match frzAs h' vs with
   | some (rs, _) => some (pack rs)
   | none => none)
  | none => none)
 | none => none
def runH (run : RF) (af : AF) (args : List AV) (h : Hp) : Option (AV × Hp) :=
 match run af.body (argL 0 args) h with
 | some (.exit _, _, _) => none
 | some (_, L, h') => (match resA (lkN L) h' af.res with
  | some vs => some (pack vs, h')
  | none => none)
 | none => none
inductive Ent where
 | txt (sc fz : Bool) (af : AF)
 | nat (g : List AV → Option AV)
 | nlk (g : List AV → Option AV)
abbrev Tb := Nat → Option Ent
def fqT (T : Tb) (f : Nat) : Bool := match T f with
 | some (.txt _ fz _) => fz
 | some (.nat _) => true
 | some (.nlk _) => false
 | none => false
def xNat (g : List AV → Option AV) (args : List AV) (h : Hp) : Option AV :=
 match (args.map fgA).all pureA with
 | true => match g (args.map fgA) with
  | some r => (match pureA r with
   | true => some r
   | false => none)
  | none => none
 | false => match viewAs h args with
  | some vargs => (match g vargs with
   | some r => (match scalA r with
    | true => some r
    | false => none)
   | none => none)
  | none => none
def xCall (T : Tb) (run : RF) : CF := fun d f args h =>
 match T f with
 | none => none
 | some (.nat g) => match xNat g args h with
  | some r => some (r, h)
  | none => none
 | some (.nlk g) => match viewAs h args with
  | some vargs => (match g vargs with
   | some r => some (r, h)
   | none => none)
  | none => none
 | some (.txt sc _ af) => match Nat.ble args.length af.nt with
  | false => none
  | true => match args.all pureA with
   | true => (match runP run af args with
    | some r => some (r, h)
    | none => (match d with
     | true => none
     | false => runH run af args h))
   | false => match sc with
    | true => (match viewAs h args with
     | some vargs => (match runP run af vargs with
      | some r => (match scalA r with
       | true => some (r, h)
       | false => none)
      | none => none)
     | none => (match d with
      | true => none
      | false => runH run af args h))
    | false => (match d with
     | true => none
     | false => runH run af args h)
def xC (T : Tb) : Nat → AC → Lv → Hp → Option (Ex × Lv × Hp)
 | 0, _, _, _ => none
 | n + 1, c, L, h => match c with
  | .skip => some (.normal, L, h)
  | .reg d ops => (match xOps (xCall T (xC T n)) (fqT T) d ops L h with
   | some (L', h') => some (.normal, L', h')
   | none => none)
  | .rgf pre k ops => (match xOpsF (xCall T (xC T n)) pre k [] ops L h with
   | some (L', h') => some (.normal, L', h')
   | none => none)
  | .seq a b => (match xC T n a L h with
   | some (.normal, L', h') => xC T n b L' h'
   | r => r)
  | .cond c a b => (match evN L c with
   | .c (.d (.bool t)) => (match t with
    | true => xC T n a L h
    | false => xC T n b L h)
   | _ => none)
  | .block id c => (match xC T n c L h with
   | some (.exit i, L', h') => (match Nat.beq i id with
    | true => some (.normal, L', h')
    | false => some (.exit i, L', h'))
   | r => r)
  | .loop c => (match xC T n c L h with
   | some (.normal, L', h') => xC T n (.loop c) (normL L') h'
   | r => r)
  | .exit id => some (.exit id, L, h)
  | .ret => some (.ret, L, h)
theorem dropL_get (n : Nat) : ∀ (L : Lv) (i : Nat), i ≠ n → lkL (dropL n L) i = lkL L i := by
 intro L
 induction L with
 | nil => intro i _; rfl
 | cons p r ih =>
  intro i hi
  obtain ⟨j, v⟩ := p
  simp only [dropL]
  split
  ·rename_i hj
   have hj : j = n := Nat.eq_of_beq_eq_true hj
   subst hj
   simp only [lkL, upd, Ne.symm hi, if_false]
   exact ih i hi
  ·simp only [lkL, upd]
   by_cases h : j = i
   ·simp [h]
   ·simp only [h, if_false]; exact ih i hi
theorem normL_get : ∀ (L : Lv) (i : Nat), lkL (normL L) i = lkL L i := by
 intro L
 induction L with
 | nil => intro i; rfl
 | cons p r ih =>
  intro i
  obtain ⟨j, v⟩ := p
  simp only [normL, lkL, upd]
  by_cases h : j = i
  ·simp [h]
  ·simp only [h, if_false]; rw [dropL_get j _ i (Ne.symm h), ih]
theorem frzs_plain {h h' : Hp} : ∀ {cs : List CV} {ds : List D}, cs.all isD = true → frzs h cs = some (ds, h') → h' = h := by
 intro cs
 induction cs generalizing h h' with
 | nil => intro ds _ hf; simp only [frzs, Option.some.injEq, Prod.mk.injEq] at hf; exact hf.2.symm
 | cons c cs ih =>
  intro ds ha hf
  simp only [List.all_cons, Bool.and_eq_true] at ha
  cases c with
  | d x =>
   simp only [frzs] at hf
   revert hf
   simp only [frz]
   split
   ·rename_i l h2 hl
    intro hf
    cases hf
    exact ih ha.2 hl
   ·intro hf; cases hf
  | _ => simp [isD] at ha
theorem elemsOf_plain {h : Hp} {L : Lv} : ∀ {ps : List (Nat × X)} {as : List (Nat × List D)} {h' : Hp}, plainEl L ps = true → elemsOf h (lkN L) ps = some (as, h') → h' = h := by
 intro ps
 induction ps with
 | nil => intro as h' _ hf; simp only [elemsOf, Option.some.injEq, Prod.mk.injEq] at hf; exact hf.2.symm
 | cons p ps ih =>
  intro as h' ha hf
  obtain ⟨i, x⟩ := p
  simp only [plainEl] at ha
  simp only [elemsOf] at hf
  rw [evN_eq, ← lkN_fun] at ha
  split at ha
  ·rename_i cs hcs
   rw [hcs] at hf
   simp only at hf
   split at ha
   ·rename_i hall
    split at hf
    ·rename_i ds h1 hds
     have := frzs_plain hall hds
     subst this
     split at hf
     ·rename_i l h2 hl
      cases hf
      exact ih ha hl
     ·cases hf
    ·cases hf
   ·cases ha
  ·cases ha
inductive CallR (P : Program) : Bool → Hp → Nat → List AV → (AV → Hp → Prop) → Prop
 | pure {d : Bool} {h : Hp} {f : Nat} {args : List AV} {K : AV → Hp → Prop} {r : AV} (hp : PureR P h f args r) (k : K r h) : CallR P d h f args K
 | fn {h : Hp} {f : Nat} {args : List AV} {K : AV → Hp → Prop} (hf : FnS P f args h K) : CallR P false h f args K
def CfOk (P : Program) (cf : CF) : Prop := ∀ d f args h r h', cf d f args h = some (r, h') → FnOk P f ∧ CallR P d h f args fun v h1 => v = r ∧ h1 = h'
theorem xOp_sound {P : Program} {cf : CF} {d : Bool} {op : AOp} {L : Lv} {h h' : Hp} {v : AV} (hcf : CfOk P cf) {m : Nat} (hx : xOp cf d op L h = some (v, h')) : Did P m d op L h fun L1 v1 h1 => L1 = L ∧ v1 = v ∧ h1 = h' := by
 cases op
 case call f xs =>
  simp only [xOp] at hx
  refine .call f xs rfl ?_
  cases (hcf _ _ _ _ _ _ hx).2 with
  | pure hp k => exact .pure hp ⟨rfl, k⟩
  | fn hf => exact .fn (hf.mono fun _ _ k => ⟨rfl, k⟩)
 case callv x xs =>
  simp only [xOp] at hx
  split at hx
  ·rename_i f caps hf
   obtain ⟨h1, h2⟩ := hcf _ _ _ _ _ _ hx
   refine .callv x xs f caps rfl rfl (by rw [← evN_eq]; exact hf) h1 ?_
   cases h2 with
   | pure hp k => exact .pure hp ⟨rfl, k⟩
   | fn hf => exact .fn (hf.mono fun _ _ k => ⟨rfl, k⟩)
  ·cases hx
 case bsl sz z n ps =>
  cases d with
  | false =>
   simp only [xOp, lkN_fun] at hx
   exact .step v h' hx (by simp) ⟨rfl, rfl, rfl⟩
  | true =>
   simp only [xOp] at hx
   split at hx
   ·rename_i hp
    have hx0 := hx
    rw [lkN_fun] at hx0
    refine .step v h' hx0 (fun _ _ => ?_) ⟨rfl, rfl, rfl⟩
    simp only [astep] at hx
    split at hx
    ·rename_i as h1 has
     have := elemsOf_plain hp has
     subst this
     split at hx
     ·split at hx
      ·cases hx; exact ⟨_, rfl⟩
      ·cases hx
     ·cases hx
    ·cases hx
   ·cases hx
 case box x =>
  simp only [xOp, lkN_fun] at hx
  refine .step v h' hx (fun _ _ => ?_) ⟨rfl, rfl, rfl⟩
  simp only [astep] at hx
  split at hx
  ·split at hx
   ·cases hx; exact ⟨_, rfl⟩
   ·cases hx
  ·cases hx
 case mks sz bytes z l c =>
  simp only [xOp, lkN_fun] at hx
  refine .step v h' hx (fun _ _ => ?_) ⟨rfl, rfl, rfl⟩
  simp only [astep] at hx
  split at hx
  ·split at hx
   ·cases hx; exact ⟨_, rfl⟩
   ·cases hx
  ·cases hx
 all_goals
  simp only [xOp, lkN_fun] at hx
  exact .step v h' hx (by first | (simp [cls]; done) | (rename_i o _; cases o <;> simp [cls])) ⟨rfl, rfl, rfl⟩
theorem xOps_sound {P : Program} {cf : CF} {fq : Nat → Bool} {m : Nat} {d : Bool} (hcf : CfOk P cf) : ∀ {ops : List AO} {L L' : Lv} {h h' : Hp}, xOps cf fq d ops L h = some (L', h') → runO P m d ops L h fun L1 h1 => L1 = L' ∧ h1 = h' := by
 intro ops
 induction ops with
 | nil =>
  intro L L' h h' hx
  simp only [xOps, Option.some.injEq, Prod.mk.injEq] at hx
  exact ⟨hx.1, hx.2⟩
 | cons o r ih =>
  intro L L' h h' hx
  have go : (match xFz fq d o.op L h with
    | (L1, h1) => match xOp cf d o.op L1 h1 with
     | some (v, h') => xOps cf fq d r (putL L1 o.dst v) h'
     | none => none) = some (L', h') → Did P m d o.op L h fun L2 v h1 => runO P m d r (putL L2 o.dst v) h1 fun L1 h1 => L1 = L' ∧ h1 = h' := by
   intro hx
   generalize hq : xFz fq d o.op L h = q at hx
   obtain ⟨L1, h1⟩ := q
   simp only at hx
   split at hx
   ·rename_i v h2 hv
    have hd : Did P m d o.op L1 h1 fun L2 v h1 => runO P m d r (putL L2 o.dst v) h1 fun L1 h1 => L1 = L' ∧ h1 = h' :=
     (xOp_sound hcf hv).mono fun L2 v2 h2 ⟨e1, e2, e3⟩ => by subst e1 e2 e3; exact ih hx
    rcases xFz_wk (fq := fq) (d := d) (op := o.op) (L := L) (h := h) (m := m) with ⟨_, e⟩ | ⟨e1, e2⟩
    ·rw [hq] at e; cases e; exact hd
    ·rw [hq] at e2; exact .wk e1 e2 hd
   ·cases hx
  simp only [runO]
  simp only [xOps] at hx
  split at hx
  ·rename_i hg; exact .inl ⟨by simp [hg, gv], go hx⟩
  ·rename_i s want hg
   split at hx
   ·rename_i b hb
    rw [lkN_eq] at hb
    have hgv : gv (lkL L) o.g = some (b == want) := by simp [hg, gv, lk, hb]
    split at hx
    ·left; exact ⟨hgv, go hx⟩
    ·left; exact ⟨hgv, go hx⟩
    ·right; exact ⟨hgv, ih hx⟩
    ·right; exact ⟨hgv, ih hx⟩
   ·rename_i hb
    rw [lkN_eq] at hb
    right; exact ⟨by simp [hg, gv, lk, hb], ih hx⟩
   ·cases hx
theorem xOpsF_sound {P : Program} {cf : CF} {m : Nat} {pre : List (List Nat)} (hcf : CfOk P cf) : ∀ {ops : List AO} {i : Nat} {F : List Ft} {L L' : Lv} {h h' : Hp}, xOpsF cf pre i F ops L h = some (L', h') → runF P m pre i F ops L h fun L1 h1 => L1 = L' ∧ h1 = h' := by
 intro ops
 induction ops with
 | nil =>
  intro i F L L' h h' hx
  simp only [xOpsF, Option.some.injEq, Prod.mk.injEq] at hx
  exact ⟨hx.1, hx.2⟩
 | cons o r ih =>
  intro i F L L' h h' hx
  have go : (match xG cf (getP pre i) i F o L h with
    | some (F', v, h') => xOpsF cf pre (i + 1) F' r (putL L o.dst v) h'
    | none => none) = some (L', h') → ∃ w al, wtOf (lkL L) h.length o.op = some (w, al) ∧ Did P m true o.op L h fun L2 v h1 => chkF (getP pre i) (tOf (lkL L) h o.op) w (rfA v) F = true ∧
     runF P m pre (i + 1) (F ++ [⟨i, tOf (lkL L) h o.op, w, al⟩]) r (putL L2 o.dst v) h1 fun L1 h1 => L1 = L' ∧ h1 = h' := by
   intro hx
   split at hx
   ·rename_i F' v h1 hg
    unfold xG at hg
    rw [lkN_fun] at hg
    split at hg
    ·rename_i w al hw
     split at hg
     ·rename_i v' h2 hv
      split at hg
      ·rename_i hc
       cases hg
       refine ⟨w, al, hw, (xOp_sound hcf hv).mono fun L2 v2 h2 ⟨e1, e2, e3⟩ => ?_⟩
       subst e1 e2 e3
       exact ⟨hc, ih hx⟩
      ·cases hg
     ·cases hg
    ·cases hg
   ·cases hx
  simp only [runF]
  simp only [xOpsF] at hx
  split at hx
  ·rename_i hg; exact .inl ⟨by simp [hg, gv], go hx⟩
  ·rename_i s want hg
   split at hx
   ·rename_i b hb
    rw [lkN_eq] at hb
    have hgv : gv (lkL L) o.g = some (b == want) := by simp [hg, gv, lk, hb]
    split at hx
    ·left; exact ⟨hgv, go hx⟩
    ·left; exact ⟨hgv, go hx⟩
    ·right; exact ⟨hgv, ih hx⟩
    ·right; exact ⟨hgv, ih hx⟩
   ·rename_i hb
    rw [lkN_eq] at hb
    right; exact ⟨by simp [hg, gv, lk, hb], ih hx⟩
   ·cases hx
theorem runO.mono {P : Program} {m : Nat} {d : Bool} {K K' : Lv → Hp → Prop} (hK : ∀ L h, K L h → K' L h) : ∀ {ops : List AO} {L : Lv} {h : Hp}, runO P m d ops L h K → runO P m d ops L h K' := by
 intro ops
 induction ops with
 | nil => intro L h hr; exact hK _ _ hr
 | cons o r ih =>
  intro L h hr
  rcases hr with ⟨h1, h2⟩ | ⟨h1, h2⟩
  ·exact .inl ⟨h1, h2.mono fun L' v h' hr => ih hr⟩
  ·exact .inr ⟨h1, ih h2⟩
structure TabOk (P : Program) (T : Tb) : Prop where
 ok : ∀ f sc fz af, T f = some (.txt sc fz af) → ∃ fn, P.funcs[f]? = some fn ∧ fn.name ≠ "runtime.NumGoroutine" ∧ compF P fn = some af
 nat : ∀ f g, T f = some (.nat g) → FnOk P f ∧ ∀ args r, g args = some r → FnS P f args [] fun r' _ => r' = r
 nlk : ∀ f g, T f = some (.nlk g) → FnOk P f ∧ ∀ args r, g args = some r → FrS P f args r
def RunOk (P : Program) (run : RF) : Prop := ∀ (N : Nat) (G0 : Nat → Prop) (ι0 : Io) (h0 : Hp) (w0 : World) (c : Code) (ac : AC) (L L' : Lv) (h h' : Hp) (x : Ex) (Q : Post) (a : Act) (w : World),
 compC P N c = some ac → run ac L h = some (x, L', h') → Q x L' h' → Fits N G0 ι0 h0 w0 (lkL L) h a w → c.wp P (out N G0 ι0 h0 w0 Q) a w
theorem runP_sound {P : Program} {run : RF} {f : Nat} {fn : Func} {af : AF} {args : List AV} {r : AV} (hr : RunOk P run) (hf : P.funcs[f]? = some fn) (hc : compF P fn = some af) (hl : args.length ≤ af.nt) (hx : runP run af args = some r) :
  FnS P f args [] fun r' _ => pureA r' = true ∧ r' = r := by
 obtain ⟨c, hb, hac, hres, hn⟩ := compF_spec hc
 refine fn_pure_wp (K := fun r' => r' = r) hf hb hres (by omega) fun G ι w a hfit => ?_
 unfold runP at hx
 split at hx
 ·cases hx
 ·rename_i x L h' hne hrun
  split at hx
  ·rename_i vs hvs
   split at hx
   ·rename_i rs h2 hrs
    cases hx
    refine hr _ _ _ _ _ _ _ _ _ _ _ _ _ _ _ hac hrun ?_ hfit
    cases x with
    | exit i => exact absurd rfl (hne i)
    | normal => simp only [postP, RetP, hvs, hrs]
    | ret => simp only [postP, RetP, hvs, hrs]
   ·cases hx
  ·cases hx
 ·cases hx
theorem runH_sound {P : Program} {run : RF} {f : Nat} {fn : Func} {af : AF} {args : List AV} {h h' : Hp} {r : AV} (hr : RunOk P run) (hf : P.funcs[f]? = some fn) (hc : compF P fn = some af) (hl : args.length ≤ af.nt) (hx : runH run af args h = some (r, h')) :
  FnS P f args h fun r1 h1 => r1 = r ∧ h1 = h' := by
 obtain ⟨c, hb, hac, hres, hn⟩ := compF_spec hc
 refine fn_heap_wp (K := fun r1 h1 => r1 = r ∧ h1 = h') hf hb hres (by omega) fun G ι w a hfit => ?_
 unfold runH at hx
 split at hx
 ·cases hx
 ·rename_i x L h2 hne hrun
  split at hx
  ·rename_i vs hvs
   cases hx
   refine hr _ _ _ _ _ _ _ _ _ _ _ _ _ _ _ hac hrun ?_ hfit
   cases x with
   | exit i => exact absurd rfl (hne i)
   | normal => simp only [postH, RetH, hvs, and_self]
   | ret => simp only [postH, RetH, hvs, and_self]
  ·cases hx
 ·cases hx
theorem xCall_sound {P : Program} {T : Tb} {run : RF} (hT : TabOk P T) (hr : RunOk P run) : CfOk P (xCall T run) := by
 intro d f args h r h' hx
 unfold xCall at hx
 split at hx
 ·cases hx
 ·rename_i g hTg
  obtain ⟨hfok, hg⟩ := hT.nat f g hTg
  refine ⟨hfok, ?_⟩
  split at hx
  ·rename_i r' hr'
   cases hx
   refine .pure ?_ ⟨rfl, rfl⟩
   unfold xNat at hr'
   split at hr'
   ·rename_i hp
    split at hr'
    ·rename_i r0 hr0
     split at hr'
     ·rename_i hpr
      cases hr'
      exact .inl ⟨_, .inl rfl, hp, (hg _ _ hr0).mono fun q _ e => ⟨by rw [e]; exact hpr, e⟩⟩
     ·cases hr'
    ·cases hr'
   ·split at hr'
    ·rename_i vargs hv
     split at hr'
     ·rename_i r0 hr0
      split at hr'
      ·rename_i hs
       cases hr'
       exact .inr ⟨vargs, hv, .inl ((hg _ _ hr0).mono fun q _ e => ⟨by rw [e]; exact hs, e⟩)⟩
      ·cases hr'
     ·cases hr'
    ·cases hr'
  ·cases hx
 ·rename_i g hTg
  obtain ⟨hfok, hg⟩ := hT.nlk f g hTg
  refine ⟨hfok, ?_⟩
  split at hx
  ·rename_i vargs hv
   split at hx
   ·rename_i r0 hr0
    cases hx
    exact .pure (.inr ⟨vargs, hv, .inr (hg _ _ hr0)⟩) ⟨rfl, rfl⟩
   ·cases hx
  ·cases hx
 ·rename_i sc fz af hTf
  obtain ⟨fn, hf, hnm, hc⟩ := hT.ok f sc fz af hTf
  have hfok : FnOk P f := ⟨fn, hf, by obtain ⟨c, hb, _⟩ := compF_spec hc; simp [hb], hnm⟩
  refine ⟨hfok, ?_⟩
  split at hx
  ·cases hx
  ·rename_i hle
   have hle : args.length ≤ af.nt := Nat.le_of_ble_eq_true hle
   have hh : ∀ d : Bool, (match d with | true => none | false => runH run af args h) = some (r, h') → CallR P d h f args fun v h1 => v = r ∧ h1 = h' := by
    intro d hd
    cases d with
    | true => cases hd
    | false => exact .fn (runH_sound hr hf hc hle hd)
   split at hx
   ·rename_i hp
    split at hx
    ·rename_i r' hr'
     cases hx
     exact .pure (.inl ⟨_, .inr rfl, hp, runP_sound hr hf hc hle hr'⟩) ⟨rfl, rfl⟩
    ·exact hh d hx
   ·split at hx
    ·split at hx
     ·rename_i vargs hv
      split at hx
      ·rename_i r' hr'
       split at hx
       ·rename_i hs
        cases hx
        refine .pure (.inr ⟨vargs, hv, ?_⟩) ⟨rfl, rfl⟩
        have hlen := (viewAs_get hv).1
        exact .inl ((runP_sound hr hf hc (by omega) hr').mono fun q _ ⟨_, e⟩ => ⟨by rw [e]; exact hs, e⟩)
       ·cases hx
      ·cases hx
     ·exact hh d hx
    ·exact hh d hx
theorem xC_sound {P : Program} {T : Tb} (hm : P.follows .mixedOrders = true) (hT : TabOk P T) : ∀ n, RunOk P (xC T n) := by
 intro n
 induction n using Nat.strongRecOn with
 | _ n ihs =>
 cases n with
 | zero => intro N G0 ι0 h0 w0 c ac L L' h h' x Q a w _ hx; simp [xC] at hx
 | succ n =>
  have ih := ihs n (Nat.lt_succ_self n)
  intro N G0 ι0 h0 w0 c
  induction c with
  | skip =>
   intro ac L L' h h' x Q a w hc hx hq hf
   simp only [compC, Option.some.injEq] at hc; subst hc
   simp only [xC, Option.some.injEq, Prod.mk.injEq] at hx
   obtain ⟨rfl, rfl, rfl⟩ := hx
   exact wp_skip ⟨L, h, hq, hf⟩
  | label l =>
   intro ac L L' h h' x Q a w hc hx hq hf
   simp only [compC, Option.some.injEq] at hc; subst hc
   simp only [xC, Option.some.injEq, Prod.mk.injEq] at hx
   obtain ⟨rfl, rfl, rfl⟩ := hx
   exact wp_label ⟨L, h, hq, hf⟩
  | region id ops draw =>
   intro ac L L' h h' x Q a w hc hx hq hf
   simp only [compC] at hc
   split at hc
   ·rename_i aos haos
    split at hc
    ·rename_i hcond
     cases hc
     cases draw with
     | false =>
      simp only [xC] at hx
      split at hx
      ·rename_i L1 h1 hops
       cases hx
       have hrun := xOps_sound (m := h0.length) (xCall_sound hT ih) hops
       refine wp_region ?_
       rw [List.range_eq_range']
       have := region_seq (ops := ops) (Q := out N G0 ι0 h0 w0 Q) (Nat.le_refl _) ops.toList aos 0 L h _ a w (by simp) haos hcond.1 hrun hf (fun L2 h2 a' w' hk hf' => by obtain ⟨rfl, rfl⟩ := hk; exact ⟨_, _, hq, hf'⟩)
       simpa using this
      ·cases hx
     | true =>
      refine region_segs (S := fun ac L h Q => ∃ k x L' h', k ≤ n + 1 ∧ xC T k ac L h = some (x, L', h') ∧ Q x L' h') hm (Nat.le_refl _) ?_ ?_ haos hcond.1 (hcond.2 rfl).1 (hcond.2 rfl).2 hf ⟨n + 1, x, L', h', Nat.le_refl _, hx, hq⟩
      ·rintro a b L h Q ⟨k, x, L', h', hk, hx, hq⟩
       cases k with
       | zero => simp [xC] at hx
       | succ k =>
        simp only [xC] at hx
        split at hx
        ·rename_i L1 h1 hr1
         exact ⟨k, .normal, L1, h1, by omega, hr1, k, x, L', h', by omega, hx, hq⟩
        ·rename_i hne
         refine ⟨k, x, L', h', by omega, hx, ?_⟩
         cases x with
         | normal => exact absurd hx (hne _ _)
         | exit i => exact hq
         | ret => exact hq
      ·rintro d os L h Q ⟨k, x, L', h', hk, hx, hq⟩
       cases k with
       | zero => simp [xC] at hx
       | succ k =>
        simp only [xC] at hx
        split at hx
        ·rename_i L1 h1 hops
         cases hx
         exact runO.mono (fun L2 h2 ⟨e1, e2⟩ => by subst e1 e2; exact hq) (xOps_sound (m := h0.length) (xCall_sound hT (ihs k (by omega))) hops)
        ·cases hx
    ·split at hc
     ·rename_i hcond
      cases hc
      obtain ⟨rfl, k1, k2, k3⟩ := hcond
      refine region_segs3 (S := fun ac L h Q => ∃ k x L' h', k ≤ n + 1 ∧ xC T k ac L h = some (x, L', h') ∧ Q x L' h') hm (Nat.le_refl _) ?_ ?_ ?_ haos k1 k2 k3 hf ⟨n + 1, x, L', h', Nat.le_refl _, hx, hq⟩
      ·rintro a b L h Q ⟨k, x, L', h', hk, hx, hq⟩
       cases k with
       | zero => simp [xC] at hx
       | succ k =>
        simp only [xC] at hx
        split at hx
        ·rename_i L1 h1 hr1
         exact ⟨k, .normal, L1, h1, by omega, hr1, k, x, L', h', by omega, hx, hq⟩
        ·rename_i hne
         refine ⟨k, x, L', h', by omega, hx, ?_⟩
         cases x with
         | normal => exact absurd hx (hne _ _)
         | exit i => exact hq
         | ret => exact hq
      ·rintro d os L h Q ⟨k, x, L', h', hk, hx, hq⟩
       cases k with
       | zero => simp [xC] at hx
       | succ k =>
        simp only [xC] at hx
        split at hx
        ·rename_i L1 h1 hops
         cases hx
         exact runO.mono (fun L2 h2 ⟨e1, e2⟩ => by subst e1 e2; exact hq) (xOps_sound (m := h0.length) (xCall_sound hT (ihs k (by omega))) hops)
        ·cases hx
      ·rintro pre k0 os L h Q ⟨k, x, L', h', hk, hx, hq⟩
       cases k with
       | zero => simp [xC] at hx
       | succ k =>
        simp only [xC] at hx
        split at hx
        ·rename_i L1 h1 hops
         cases hx
         exact runF.mono (fun L2 h2 ⟨e1, e2⟩ => by subst e1 e2; exact hq) (xOpsF_sound (m := h0.length) (xCall_sound hT (ihs k (by omega))) hops)
        ·cases hx
     ·cases hc
   ·cases hc
  | seq p q _ _ =>
   intro ac L L' h h' x Q a w hc hx hq hf
   simp only [compC] at hc
   split at hc
   ·rename_i cp cq hp hcq
    cases hc
    simp only [xC] at hx
    split at hx
    ·rename_i L1 h1 hrun
     refine wp_seq (wp_mono (ih N G0 ι0 h0 w0 p cp L L1 h h1 .normal (fun x L h => x = .normal ∧ L = L1 ∧ h = h1) a w hp hrun ⟨rfl, rfl, rfl⟩ hf) fun e a' w' ⟨L2, h2, hq2, hf2⟩ => ?_)
     cases e with
     | normal => obtain ⟨_, rfl, rfl⟩ := hq2; exact ih N G0 ι0 h0 w0 q cq _ L' _ h' x Q a' w' hcq hx hq hf2
     | exit i => cases hq2.1
     | ret => cases hq2.1
     | goto => exact hq2.elim
     | panic => exact hq2.elim
     | outgrown => exact hq2.elim
    ·rename_i hne
     refine wp_seq (wp_mono (ih N G0 ι0 h0 w0 p cp L L' h h' x (fun x1 L1 h1 => x1 = x ∧ L1 = L' ∧ h1 = h') a w hp hx ⟨rfl, rfl, rfl⟩ hf) fun e a' w' ⟨L2, h2, hq2, hf2⟩ => ?_)
     cases e with
     | normal => obtain ⟨rfl, rfl, rfl⟩ := hq2; exact absurd hx (hne _ _)
     | exit i => obtain ⟨rfl, rfl, rfl⟩ := hq2; exact ⟨_, _, hq, hf2⟩
     | ret => obtain ⟨rfl, rfl, rfl⟩ := hq2; exact ⟨_, _, hq, hf2⟩
     | goto => exact hq2.elim
     | panic => exact hq2.elim
     | outgrown => exact hq2.elim
   ·cases hc
  | cond b p q _ _ =>
   intro ac L L' h h' x Q a w hc hx hq hf
   simp only [compC] at hc
   split at hc
   ·rename_i c' cp cq hcc hp hcq
    cases hc
    simp only [xC] at hx
    split at hx
    ·rename_i t ht
     obtain ⟨G, ι, st⟩ := hf
     have hr := cx_sound hcc st.rel
     rw [evN_eq] at ht
     rw [ht] at hr
     have he := inv_bool hr
     cases t with
     | true => exact wp_cond_true he (ih _ _ _ _ _ p cp L L' h h' x Q a w hp hx hq ⟨G, ι, st⟩)
     | false => exact wp_cond_false he (ih _ _ _ _ _ q cq L L' h h' x Q a w hcq hx hq ⟨G, ι, st⟩)
    ·cases hx
   ·cases hc
  | block id c _ =>
   intro ac L L' h h' x Q a w hc hx hq hf
   simp only [compC] at hc
   split at hc
   ·rename_i c' hcc
    cases hc
    simp only [xC] at hx
    refine wp_block ?_
    split at hx
    ·rename_i i L1 h1 hrun
     refine wp_mono (ih N G0 ι0 h0 w0 c c' L L1 h h1 (.exit i) (fun x L h => x = .exit i ∧ L = L1 ∧ h = h1) a w hcc hrun ⟨rfl, rfl, rfl⟩ hf) fun e a' w' ⟨L2, h2, hq2, hf2⟩ => ?_
     cases e with
     | normal => cases hq2.1
     | ret => cases hq2.1
     | exit k =>
      obtain ⟨e1, rfl, rfl⟩ := hq2
      cases e1
      simp only [Exit.inBlock]
      split at hx
      ·rename_i hb
       cases hx
       have : i = id := Nat.eq_of_beq_eq_true hb
       rw [if_pos this]; exact ⟨_, _, hq, hf2⟩
      ·rename_i hb
       cases hx
       have : ¬ i = id := fun e => by subst e; simp at hb
       rw [if_neg this]; exact ⟨_, _, hq, hf2⟩
     | goto => exact hq2.elim
     | panic => exact hq2.elim
     | outgrown => exact hq2.elim
    ·rename_i hne
     refine wp_mono (ih N G0 ι0 h0 w0 c c' L L' h h' x (fun x1 L1 h1 => x1 = x ∧ L1 = L' ∧ h1 = h') a w hcc hx ⟨rfl, rfl, rfl⟩ hf) fun e a' w' ⟨L2, h2, hq2, hf2⟩ => ?_
     cases e with
     | normal => obtain ⟨rfl, rfl, rfl⟩ := hq2; exact ⟨_, _, hq, hf2⟩
     | ret => obtain ⟨rfl, rfl, rfl⟩ := hq2; exact ⟨_, _, hq, hf2⟩
     | exit k => obtain ⟨rfl, rfl, rfl⟩ := hq2; exact absurd hx (hne _ _ _)
     | goto => exact hq2.elim
     | panic => exact hq2.elim
     | outgrown => exact hq2.elim
   ·cases hc
  | loop c _ =>
   intro ac L L' h h' x Q a w hc hx hq hf
   simp only [compC] at hc
   split at hc
   ·rename_i c' hcc
    cases hc
    refine wp_loop_ghost (fun k a w => ∃ j L h, k = j ∧ j ≤ n + 1 ∧ xC T j (.loop c') L h = some (x, L', h') ∧ Fits N G0 ι0 h0 w0 (lkL L) h a w) ?_ (n + 1) a w ⟨n + 1, L, h, rfl, Nat.le_refl _, hx, hf⟩
    intro k a w ⟨j, L, h, hk, hj, hx, hf⟩
    subst hk
    cases k with
    | zero => simp [xC] at hx
    | succ j =>
     have ihj := ihs j (by omega)
     simp only [xC] at hx
     split at hx
     ·rename_i L1 h1 hrun
      refine wp_mono (ihj N G0 ι0 h0 w0 c c' L L1 h h1 .normal (fun x L h => x = .normal ∧ L = L1 ∧ h = h1) a w hcc hrun ⟨rfl, rfl, rfl⟩ hf) fun e a' w' ⟨L2, h2, hq2, hf2⟩ => ?_
      cases e with
      | normal =>
       obtain ⟨_, rfl, rfl⟩ := hq2
       exact ⟨j, Nat.lt_succ_self j, j, _, _, rfl, by omega, hx, by rw [show lkL (normL L2) = lkL L2 from funext (normL_get L2)]; exact hf2⟩
      | ret => cases hq2.1
      | exit k => cases hq2.1
      | goto => exact hq2.elim
      | panic => exact hq2.elim
      | outgrown => exact hq2.elim
     ·rename_i hne
      refine wp_mono (ihj N G0 ι0 h0 w0 c c' L L' h h' x (fun x1 L1 h1 => x1 = x ∧ L1 = L' ∧ h1 = h') a w hcc hx ⟨rfl, rfl, rfl⟩ hf) fun e a' w' ⟨L2, h2, hq2, hf2⟩ => ?_
      cases e with
      | normal => obtain ⟨rfl, rfl, rfl⟩ := hq2; exact absurd hx (hne _ _)
      | ret => obtain ⟨rfl, rfl, rfl⟩ := hq2; exact ⟨_, _, hq, hf2⟩
      | exit k => obtain ⟨rfl, rfl, rfl⟩ := hq2; exact ⟨_, _, hq, hf2⟩
      | goto => exact hq2.elim
      | panic => exact hq2.elim
      | outgrown => exact hq2.elim
   ·cases hc
  | scope c ihs =>
   intro ac L L' h h' x Q a w hc hx hq hf
   simp only [compC] at hc
   refine wp_scope_straight (wp_mono (ihs ac L L' h h' x Q a w hc hx hq hf) fun e a' w' hq => ?_)
   obtain ⟨L', h', hq, hf'⟩ := hq
   cases e with
   | normal => exact ⟨L', h', hq, hf'⟩
   | exit i => exact ⟨L', h', hq, hf'⟩
   | ret => exact ⟨L', h', hq, hf'⟩
   | goto => exact hq.elim
   | panic => exact hq.elim
   | outgrown => exact hq.elim
  | exit id =>
   intro ac L L' h h' x Q a w hc hx hq hf
   simp only [compC, Option.some.injEq] at hc; subst hc
   simp only [xC, Option.some.injEq, Prod.mk.injEq] at hx
   obtain ⟨rfl, rfl, rfl⟩ := hx
   exact wp_exit ⟨L, h, hq, hf⟩
  | ret =>
   intro ac L L' h h' x Q a w hc hx hq hf
   simp only [compC, Option.some.injEq] at hc; subst hc
   simp only [xC, Option.some.injEq, Prod.mk.injEq] at hx
   obtain ⟨rfl, rfl, rfl⟩ := hx
   exact wp_ret ⟨L, h, hq, hf⟩
  | goto l => intro ac L L' h h' x Q a w hc; simp [compC] at hc
  | rangeFunc => intro ac L L' h h' x Q a w hc; simp [compC] at hc
  | refuse => intro ac L L' h h' x Q a w hc; simp [compC] at hc
end Go.Ab

/-
  The engine: a contract over a few blocks, used where these blocks are some of many.
-/
namespace Go.Ab
section
variable {G : Nat → Prop} {w : World} {ιc ι : Io} {hc h : Hp} {ρ : Nat → Nat}
theorem Kept.rn {ι' ιc' : Io} {w' : World} {i l : Nat} {k k' : Blk} (hk : Kept ιc ιc' w w' i k k') (h1 : ι[l]? = ιc[i]?) (h2 : ι'[l]? = ιc'[i]?) : Kept ι ι' w w' l (rnB ρ k) (rnB ρ k') := by
 cases k' with
 | dead => cases k <;> trivial
 | am m' =>
  cases k with
  | am m => trivial
  | _ => simp [Kept] at hk
 | bx cs' =>
  cases k with
  | bx cs => exact ⟨by rw [rnCs_len, rnCs_len]; exact hk.1, by rw [h1, h2]; exact hk.2⟩
  | _ => simp [Kept] at hk
 | da r' v' sz' es' =>
  cases k with
  | da r v sz es =>
   rcases hk with hk | ⟨a1, a2, a3, a4, a5, a6⟩
   ·exact .inl hk
   ·exact .inr ⟨a1, a2, a3, a4, by rw [h1, h2]; exact a5, fun hr b o hb => a6 hr b o (by rw [← h1]; exact hb)⟩
  | _ => simp [Kept] at hk
 | mp v' es' =>
  cases k with
  | mp v es =>
   obtain ⟨a1, a2⟩ := hk
   refine ⟨by rw [h1, h2]; exact a1, ?_⟩
   rcases a2 with a2 | ⟨a2, a3, a4⟩
   ·exact .inl a2
   ·exact .inr ⟨a2, a3, fun b o hb => a4 b o (by rw [← h1]; exact hb)⟩
  | _ => simp [Kept] at hk
 | mi m' v' es' =>
  cases k with
  | mi m v es =>
   obtain ⟨a1, a2, a3⟩ := hk
   exact ⟨by rw [a1], a2, by rw [h1, h2]; exact a3⟩
  | _ => simp [Kept] at hk
end
def setAll {α : Type} : List α → List Nat → List α → List α
 | h, [], _ => h
 | h, _ :: _, [] => h
 | h, l :: σ, b :: bs => setAll (h.set l b) σ bs
theorem setAll_len {α : Type} : ∀ (σ : List Nat) (h bs : List α), (setAll h σ bs).length = h.length
 | [], _, _ => by simp only [setAll]
 | _ :: _, _, [] => by simp only [setAll]
 | l :: σ, h, b :: bs => by simp only [setAll]; rw [setAll_len σ]; simp
theorem setAll_other {α : Type} : ∀ (σ : List Nat) (h bs : List α) (l : Nat), l ∉ σ → (setAll h σ bs)[l]? = h[l]?
 | [], _, _, _, _ => by simp only [setAll]
 | _ :: _, _, [], _, _ => by simp only [setAll]
 | l :: σ, h, b :: bs, l', hn => by
  simp only [setAll]
  rw [setAll_other σ _ bs l' (fun hm => hn (List.mem_cons_of_mem _ hm)), List.getElem?_set_ne (fun (e : l = l') => hn (by rw [e]; exact List.mem_cons_self ..))]
theorem setAll_at {α : Type} : ∀ (σ : List Nat) (h bs : List α) (i l : Nat) (b : α), σ.Nodup → (∀ l ∈ σ, l < h.length) → σ[i]? = some l → bs[i]? = some b → (setAll h σ bs)[l]? = some b
 | [], _, _, _, _, _, _, _, h1, _ => by simp at h1
 | _ :: _, _, [], _, _, _, _, _, _, h2 => by simp at h2
 | l0 :: σ, h, b0 :: bs, i, l, b, hn, hl, h1, h2 => by
  simp only [setAll]
  cases i with
  | zero =>
   simp at h1 h2
   subst h1 h2
   rw [setAll_other σ _ bs l0 (List.nodup_cons.1 hn).1, List.getElem?_set_self (hl l0 (List.mem_cons_self ..))]
  | succ i =>
   exact setAll_at σ _ bs i l b (List.nodup_cons.1 hn).2 (fun x hx => by simpa using hl x (List.mem_cons_of_mem _ hx)) (by simpa using h1) (by simpa using h2)
def rho : List Nat → Nat → Nat → Nat
 | [], n, i => n + i
 | l :: _, _, 0 => l
 | _ :: σ, n, i + 1 => rho σ n i
theorem rho_old : ∀ (σ : List Nat) (n i : Nat), i < σ.length → σ[i]? = some (rho σ n i)
 | [], _, _, h => by simp at h
 | l :: σ, n, 0, _ => rfl
 | l :: σ, n, i + 1, h => by simpa [rho] using rho_old σ n i (by simpa using h)
theorem rho_new : ∀ (σ : List Nat) (n i : Nat), σ.length ≤ i → rho σ n i = n + (i - σ.length)
 | [], _, _, _ => rfl
 | l :: σ, n, 0, h => by simp at h
 | l :: σ, n, i + 1, h => by simp only [rho, List.length_cons]; rw [rho_new σ n i (by simpa using h)]; omega
def backH (h : Hp) (σ : List Nat) (hc : Hp) : Hp := setAll h σ (rnH (rho σ h.length) hc) ++ rnH (rho σ h.length) (hc.drop σ.length)
def backI (ι : Io) (σ : List Nat) (ιc : Io) : Io := setAll ι σ ιc ++ ιc.drop σ.length
theorem FnS.frame {P : Program} {f : Nat} {args : List AV} {hc : Hp} {R : AV → Hp → Prop} (hf : FnS P f args hc R) (σ : List Nat) (h : Hp) (hlen : σ.length = hc.length) (hnd : σ.Nodup)
    (hh : ∀ i k, hc[i]? = some k → h[rho σ h.length i]? = some (rnB (rho σ h.length) k)) (hcl : refsH hc.length hc = true) (hca : ∀ x ∈ args, refsA hc.length x = true) :
    FnS P f (rnAs (rho σ h.length) args) h fun r' h' => ∃ r hc', R r hc' ∧ r' = rnA (rho σ h.length) r ∧ h' = backH h σ hc' := by
  refine ⟨fun G ι w vs hr hv => ?_⟩
  have hlt : ∀ l ∈ σ, l < h.length := by
    intro l hl
    obtain ⟨i, hi, rfl⟩ := List.getElem_of_mem hl
    have h1 := rho_old σ h.length i hi
    rw [List.getElem?_eq_getElem hi] at h1
    have h2 := hh i _ (List.getElem?_eq_getElem (by omega))
    rw [← Option.some.inj h1] at h2
    exact get_lt h2
  have hιl : ∀ l ∈ σ, l < ι.length := fun l hl => by rw [hr.len]; exact hlt l hl
  generalize hρ : rho σ h.length = ρ at *
  have rold : ∀ i, i < σ.length → σ[i]? = some (ρ i) := fun i hi => by rw [← hρ]; exact rho_old σ _ i hi
  have rnew : ∀ i, σ.length ≤ i → ρ i = h.length + (i - σ.length) := fun i hi => by rw [← hρ]; exact rho_new σ _ i hi
  have rmem : ∀ i, i < σ.length → ρ i ∈ σ := fun i hi => List.mem_of_getElem? (rold i hi)
  have rinj : ∀ i j, ρ i = ρ j → i = j := by
    intro i j e
    rcases Nat.lt_or_ge i σ.length with hi | hi <;> rcases Nat.lt_or_ge j σ.length with hj | hj
    · have h1 := rold i hi
      have h2 := rold j hj
      rw [e, ← h2] at h1
      exact (List.getElem?_inj hi hnd).1 h1
    · have := hlt _ (rmem i hi); have := rnew j hj; omega
    · have := hlt _ (rmem j hj); have := rnew i hi; omega
    · have := rnew i hi; have := rnew j hj; omega
  let ιc : Io := σ.map fun l => (ι[l]?).getD (0, 0)
  have hιc : ∀ i, i < σ.length → ιc[i]? = ι[ρ i]? := by
    intro i hi
    simp only [ιc, List.getElem?_map, rold i hi, Option.map_some]
    rw [List.getElem?_eq_getElem (hιl _ (rmem i hi))]; rfl
  have am : Among ρ ιc hc ι h := ⟨hh, fun i k hk => (hιc i (by rw [hlen]; exact get_lt hk)).symm⟩
  have hrc : HR G ιc hc w := HR.down am hr (by simp [ιc, hlen]) (fun i j _ _ e => rinj i j e) hcl
  have hvc : VRs G w ιc hc vs args := by
    refine ⟨by rw [hv.1, rnAs_len], fun i v x h1 h2 => ?_⟩
    exact (hv.2 i v (rnA ρ x) h1 (by rw [rnAs_get, h2]; rfl)).unrn am (hca x (List.mem_of_getElem? h2))
  refine (hf.out G ιc w vs hrc hvc).mono fun e w2 ⟨v, r, G2, ι2, hc2, he, hR, hr2, hvr, hx⟩ => ?_
  have hl2 : hc.length ≤ hc2.length := by
    rcases Nat.lt_or_ge hc2.length hc.length with hb | hb
    · obtain ⟨k', h1, _⟩ := hx.keep hc2.length _ (List.getElem?_eq_getElem hb)
      have := get_lt h1; omega
    · exact hb
  have hl2' : ι2.length = hc2.length := hr2.len
  have hset : (setAll h σ (rnH ρ hc2)).length = h.length := setAll_len σ h _
  have hseti : (setAll ι σ ι2).length = h.length := by rw [setAll_len, hr.len]
  have hbh : backH h σ hc2 = setAll h σ (rnH ρ hc2) ++ rnH ρ (hc2.drop σ.length) := by simp only [backH, hρ]
  -- the callee's blocks, at the caller
  have am2 : Among ρ ι2 hc2 (backI ι σ ι2) (backH h σ hc2) := by
    rw [hbh]
    constructor
    · intro i k hk
      rcases Nat.lt_or_ge i σ.length with hi | hi
      · rw [List.getElem?_append_left (by rw [hset]; exact hlt _ (rmem i hi))]
        exact setAll_at σ h _ i _ _ hnd hlt (rold i hi) (by rw [rnH_get, hk]; rfl)
      · rw [rnew i hi, List.getElem?_append_right (by omega), hset, rnH_get, List.getElem?_drop]
        rw [show σ.length + (h.length + (i - σ.length) - h.length) = i by omega, hk]; rfl
    · intro i k hk
      unfold backI
      have hi2 : ι2[i]? = some (ι2[i]'(by rw [hl2']; exact get_lt hk)) := List.getElem?_eq_getElem _
      rcases Nat.lt_or_ge i σ.length with hi | hi
      · rw [List.getElem?_append_left (by rw [hseti]; exact hlt _ (rmem i hi)), hi2]
        exact setAll_at σ ι _ i _ _ hnd hιl (rold i hi) hi2
      · rw [rnew i hi, List.getElem?_append_right (by omega), hseti, List.getElem?_drop]
        rw [show σ.length + (h.length + (i - σ.length) - h.length) = i by omega]
  -- each of the caller's blocks is one of the callee's, or as it was
  have part : ∀ l k', (backH h σ hc2)[l]? = some k' → (∃ i k, hc2[i]? = some k ∧ l = ρ i ∧ k' = rnB ρ k) ∨ (h[l]? = some k' ∧ l ∉ σ ∧ (backI ι σ ι2)[l]? = ι[l]?) := by
    intro l k' hk'
    by_cases hm : l ∈ σ
    · obtain ⟨i, hi, rfl⟩ := List.getElem_of_mem hm
      have e : σ[i] = ρ i := by have := rold i hi; rw [List.getElem?_eq_getElem hi] at this; exact Option.some.inj this
      have hki : hc2[i]? = some (hc2[i]'(by omega)) := List.getElem?_eq_getElem _
      have := am2.blk i _ hki
      rw [e, this] at hk'
      exact .inl ⟨i, _, hki, e, (Option.some.inj hk').symm⟩
    · rcases Nat.lt_or_ge l h.length with hl | hl
      · rw [hbh, List.getElem?_append_left (by omega), setAll_other σ h _ l hm] at hk'
        exact .inr ⟨hk', hm, by unfold backI; rw [List.getElem?_append_left (by omega), setAll_other σ ι _ l hm]⟩
      · rw [hbh, List.getElem?_append_right (by omega), hset, rnH_get, List.getElem?_drop, Option.map_eq_some_iff] at hk'
        obtain ⟨k, h1, rfl⟩ := hk'
        exact .inl ⟨_, k, h1, by rw [rnew _ (by omega)]; omega, rfl⟩
  have other : ∀ l b k, h[l]? = some k → l ∉ σ → own1 ι l k b → b < w.heap.size ∧ ¬ owned ιc hc b := by
    intro l b k h1 h2 h3
    refine ⟨owned_lt hr ⟨l, k, h1, h3⟩, fun ho => ?_⟩
    obtain ⟨i, kc, g1, g2, g3, g4⟩ := owned_rn am ho
    have := hr.own l (ρ i) b k _ h1 g4 h3 g3
    exact h2 (this ▸ rmem i (by rw [hlen]; exact get_lt g1))
  have same : ∀ l b k, h[l]? = some k → l ∉ σ → own1 ι l k b → w2.heap[b]? = w.heap[b]? := by
    intro l b k h1 h2 h3
    have := other l b k h1 h2 h3
    exact hx.frame b this.1 this.2
  have hext : Ext G ι h w G2 (backI ι σ ι2) (backH h σ hc2) w2 :=
    { size := hx.size
      quiet := hx.quiet
      frame := fun b hb ho => hx.frame b hb fun ho' => ho (owned_up am ho')
      gmono := hx.gmono
      gnew := fun b hb => by
        rcases hx.gnew b hb with h1 | h1 | h1
        · exact .inl h1
        · exact .inr (.inl h1)
        · exact .inr (.inr (owned_up am h1))
      onew := fun b ⟨l, k, h2, h3⟩ => by
        rcases part l k h2 with ⟨i, kc, g1, rfl, rfl⟩ | ⟨g1, g2, g3⟩
        · rcases hx.onew b ⟨i, kc, g1, (own1_rn (am2.at' i kc g1)).1 h3⟩ with h4 | h4
          · exact .inl (owned_up am h4)
          · exact .inr h4
        · exact .inl ⟨l, k, g1, own1_io h3 fun _ => g3.symm⟩
      keep := fun l k hk => by
        by_cases hm : l ∈ σ
        · obtain ⟨i, hi, rfl⟩ := List.getElem_of_mem hm
          have e : σ[i] = ρ i := by have := rold i hi; rw [List.getElem?_eq_getElem hi] at this; exact Option.some.inj this
          have hki : hc[i]? = some (hc[i]'(by omega)) := List.getElem?_eq_getElem _
          rw [e, hh i _ hki] at hk
          cases hk
          obtain ⟨k', g1, g2⟩ := hx.keep i _ hki
          exact ⟨rnB ρ k', by rw [e]; exact am2.blk i k' g1, by rw [e]; exact g2.rn (am.at' i _ hki) (am2.at' i k' g1)⟩
        · have hl : l < h.length := get_lt hk
          have e1 : (backH h σ hc2)[l]? = some k := by rw [hbh, List.getElem?_append_left (by omega), setAll_other σ h _ l hm]; exact hk
          have e2 : (backI ι σ ι2)[l]? = ι[l]? := by unfold backI; rw [List.getElem?_append_left (by omega), setAll_other σ ι _ l hm]
          exact ⟨k, e1, Kept.frame e2 fun b hb => same l b k hk hm hb⟩ }
  refine ⟨v, rnA ρ r, G2, backI ι σ ι2, backH h σ hc2, he, ⟨r, hc2, hR, rfl, rfl⟩, ?_, hvr.rn am2, hext⟩
  exact
    { len := by
        rw [hbh]; unfold backI
        simp only [List.length_append, hset, hseti, rnH_len, List.length_drop, hl2']
      own := by
        intro l l' b k k' h3 h4 h5 h6
        rcases part l k h3 with ⟨i, kc, g1, rfl, rfl⟩ | ⟨g1, g2, g3⟩ <;> rcases part l' k' h4 with ⟨i', kc', q1, rfl, rfl⟩ | ⟨q1, q2, q3⟩
        · rw [hr2.own i i' b kc kc' g1 q1 ((own1_rn (am2.at' i kc g1)).1 h5) ((own1_rn (am2.at' i' kc' q1)).1 h6)]
        · exfalso
          have ot := other l' b k' q1 q2 (own1_io h6 fun _ => q3.symm)
          rcases hx.onew b ⟨i, kc, g1, (own1_rn (am2.at' i kc g1)).1 h5⟩ with h7 | h7
          · exact ot.2 h7
          · omega
        · exfalso
          have ot := other l b k g1 g2 (own1_io h5 fun _ => g3.symm)
          rcases hx.onew b ⟨i', kc', q1, (own1_rn (am2.at' i' kc' q1)).1 h6⟩ with h7 | h7
          · exact ot.2 h7
          · omega
        · exact hr.own l l' b k k' g1 q1 (own1_io h5 fun _ => g3.symm) (own1_io h6 fun _ => q3.symm)
      g := by
        intro b hb
        refine ⟨(hr2.g b hb).1, fun ⟨l, k, h2, h3⟩ => ?_⟩
        rcases part l k h2 with ⟨i, kc, g1, rfl, rfl⟩ | ⟨g1, g2, g3⟩
        · exact (hr2.g b hb).2 ⟨i, kc, g1, (own1_rn (am2.at' i kc g1)).1 h3⟩
        · have h3' : own1 ι l k b := own1_io h3 fun _ => g3.symm
          have ot := other l b k g1 g2 h3'
          rcases hx.gnew b hb with h4 | h4 | h4
          · exact (hr.g b h4).2 ⟨l, k, g1, h3'⟩
          · omega
          · exact ot.2 h4
      blk := by
        intro l k hk
        rcases part l k hk with ⟨i, kc, g1, rfl, rfl⟩ | ⟨g1, g2, g3⟩
        · exact BR.rn am2 g1 (hr2.blk i kc g1)
        · exact BR.ext hext hr g1 g3 fun b hb => same l b k g1 g2 hb }
end Go.Ab

/-
  The engine: functions that work in an arena of their own; at their end it is given up, and what leads into it is plain data.
-/
namespace Go.Ab
inductive ThD (m : Ar) : D → D → Prop
 | same (x : D) : ThD m x x
 | fg (x : D) : ThD m x (fgD x)
 | row (b o sz n cap N : Nat) (xs : List D) (rows : List (List D)) (g : Nat → Nat → D) (hm : m b = some (.cs N xs)) (hn : rows.length = n) (hcap : n ≤ cap) (hmx : n ≤ 9223372036854775807)
   (hs : ∀ (i : Nat) (e : List D), rows[i]? = some e → e.length = sz) (hx : ∀ (i : Nat) (e : List D) (j : Nat) (x : D), rows[i]? = some e → e[j]? = some x → xs[o + i * sz + j]? = some (g i j))
   (hr : ∀ (i : Nat) (e : List D) (j : Nat) (x : D), rows[i]? = some e → e[j]? = some x → ThD m (g i j) x) : ThD m (.sl b o sz n cap) (.list false sz rows)
 | list (nl : Bool) (sz : Nat) (l l' : List (List D)) (hlen : l.length = l'.length) (hs : ∀ (i : Nat) (e : List D), l'[i]? = some e → e.length = sz)
   (hr : ∀ (i : Nat) (e e' : List D) (j : Nat) (x x' : D), l[i]? = some e → l'[i]? = some e' → e[j]? = some x → e'[j]? = some x' → ThD m x x') : ThD m (.list nl sz l) (.list nl sz l')
section
variable {G : Nat → Prop} {ι : Io} {h : Hp} {w : World} {m : Ar}
theorem thD_sound {G' : Nat → Prop} (hG : ∀ b x, m b = some x → G' b ∧ ABR G' w b x) {x x' : D} (ht : ThD m x x') : ∀ {v : Value}, DR G' w v x → DR G' w v x' := by
 induction ht with
 | same x => exact fun h => h
 | fg x => exact fun h => h.fg
 | row b o sz n cap N xs rows g hm hn hcap hmx hs hx hr ih =>
  intro v hd
  cases hd
  obtain ⟨hg, c, t, fr, a1, a2, a3, a4, a5⟩ := hG b _ hm
  subst hn
  refine .sl b o cap sz rows (fun i j => (c[o + i * sz + j]?).getD undef) (fun _ => hg) hcap hmx hs (fun i e j x he hx' => ?_) fun i e j x he hx' => ?_
  ·obtain ⟨v, hv, _⟩ := a5 _ _ (hx i e j x he hx')
   rw [cell_of a1, hv]; rfl
  ·obtain ⟨v, hv, hd⟩ := a5 _ _ (hx i e j x he hx')
   simp only [hv, Option.getD_some]
   exact ih i e j x he hx' hd
 | list nl sz l l' hlen hs hr ih =>
  intro v hd
  cases hd with
  | nils =>
   have : l' = [] := List.eq_nil_of_length_eq_zero (by simpa using hlen.symm)
   subst this; exact .nils nl sz
  | emp a =>
   have : l' = [] := List.eq_nil_of_length_eq_zero (by simpa using hlen.symm)
   subst this; exact .emp a sz
  | sl b off cap _ _ g hg hcap hmax hsz hc hr' =>
   have both : ∀ (i : Nat) (e' : List D) (j : Nat) (x' : D), l'[i]? = some e' → e'[j]? = some x' → ∃ e x, l[i]? = some e ∧ e[j]? = some x := by
    intro i e' j x' he hx
    have hi := get_lt he
    have hj := get_lt hx
    have h1 : l[i]? = some (l[i]'(by omega)) := List.getElem?_eq_getElem _
    have h2 := hsz i _ h1
    have h3 := hs i e' he
    exact ⟨_, _, h1, List.getElem?_eq_getElem (by omega)⟩
   rw [hlen]
   refine .sl b off cap sz l' g (fun hne => hg fun h0 => hne ?_) (by omega) (by omega) hs (fun i e j x he hx => ?_) fun i e j x he hx => ?_
   ·subst h0; exact List.eq_nil_of_length_eq_zero (by simpa using hlen.symm)
   ·obtain ⟨e0, x0, h1, h2⟩ := both i e j x he hx
    exact hc i e0 j x0 h1 h2
   ·obtain ⟨e0, x0, h1, h2⟩ := both i e j x he hx
    exact ih i e0 e j x0 x h1 he h2 hx (hr' i e0 j x0 h1 h2)
theorem HR.thaw (r : HR G ι h w) (h0 : h[0]? = some (.am m)) : HR (fun b => G b ∨ ∃ x, m b = some x) ι (h.set 0 .dead) w ∧ Ext G ι h w (fun b => G b ∨ ∃ x, m b = some x) ι (h.set 0 .dead) w ∧
    ∀ b x, m b = some x → (G b ∨ ∃ x, m b = some x) ∧ ABR (fun b => G b ∨ ∃ x, m b = some x) w b x := by
  have hgm : ∀ b, G b → (G b ∨ ∃ x, m b = some x) ∧ w.heap[b]? = w.heap[b]? := fun b hb => ⟨.inl hb, rfl⟩
  have hext : Ext G ι h w (fun b => G b ∨ ∃ x, m b = some x) ι (h.set 0 .dead) w :=
    { size := Nat.le_refl _
      quiet := ⟨rfl, rfl⟩
      frame := fun _ _ _ => rfl
      gmono := fun _ h => .inl h
      gnew := fun b hb => by
        rcases hb with h | ⟨x, hx⟩
        · exact .inl h
        · exact .inr (.inr (am_owned h0 hx))
      onew := fun b ho => .inl (owned_set h0 own1_dead ho)
      keep := fun l k hk => by
        by_cases e : 0 = l
        · subst e
          exact ⟨.dead, by rw [List.getElem?_set_self (get_lt h0)], by cases k <;> trivial⟩
        · exact ⟨k, by rw [List.getElem?_set_ne e]; exact hk, Kept.refl ι w l k⟩ }
  refine ⟨?_, hext, fun b x hx => ⟨.inr ⟨x, hx⟩, (r.blk 0 _ h0 b x hx).mono hgm rfl⟩⟩
  exact
    { len := by simp [r.len]
      own := own_kill r
      g := fun b hb => by
        rcases hb with hb | ⟨x, hx⟩
        · exact ⟨(r.g b hb).1, fun ho => (r.g b hb).2 (owned_set h0 own1_dead ho)⟩
        · refine ⟨owned_lt r (am_owned h0 hx), fun ⟨l, k, g1, g2⟩ => ?_⟩
          rcases get_set g1 with ⟨_, e2, _⟩ | ⟨e0, e1⟩
          · subst e2; exact own1_dead g2
          · exact e0 (r.own 0 l b _ k h0 e1 ⟨x, hx⟩ g2).symm
      blk := fun l k hk => by
        rcases get_set hk with ⟨_, d2, _⟩ | ⟨_, d1⟩
        · subst d2; trivial
        · exact BR.ext hext r d1 rfl fun _ _ => rfl }
end
inductive ThC (m : Ar) : CV → CV → Prop
 | same (x : CV) (hx : pureC x = true) : ThC m x x
 | d (x x' : D) (h : ThD m x x') : ThC m (.d x) (.d x')
def ThCs (m : Ar) : List CV → List CV → Prop
 | [], [] => True
 | x :: r, y :: s => ThC m x y ∧ ThCs m r s
 | _, _ => False
inductive ThA (m : Ar) : AV → AV → Prop
 | c (x y : CV) (h : ThC m x y) : ThA m (.c x) (.c y)
 | agg (l l' : List CV) (h : ThCs m l l') : ThA m (.agg l) (.agg l')
def ThAs (m : Ar) : List AV → List AV → Prop
 | [], [] => True
 | x :: r, y :: s => ThA m x y ∧ ThAs m r s
 | _, _ => False
theorem thC_pure {m : Ar} {x y : CV} (h : ThC m x y) : pureC y = true := by
 cases h with
 | same _ hx => exact hx
 | d => rfl
theorem thCs_pure {m : Ar} : ∀ {l l' : List CV}, ThCs m l l' → l.length = l'.length ∧ l'.all pureC = true ∧ ∀ (i : Nat) (x y : CV), l[i]? = some x → l'[i]? = some y → ThC m x y := by
 intro l
 induction l with
 | nil => intro l' h; cases l' with | nil => simp | cons => exact h.elim
 | cons x r ih =>
  intro l' h
  cases l' with
  | nil => exact h.elim
  | cons y s =>
   obtain ⟨h1, h2⟩ := h
   obtain ⟨i1, i2, i3⟩ := ih h2
   refine ⟨by simp [i1], by simp [thC_pure h1, i2], fun i a b ha hb => ?_⟩
   cases i with
   | zero => simp at ha hb; subst ha hb; exact h1
   | succ i => simp at ha hb; exact i3 i a b ha hb
theorem thA_pure {m : Ar} {x y : AV} (h : ThA m x y) : pureA y = true := by
 cases h with
 | c _ _ h => exact thC_pure h
 | agg _ _ h => exact (thCs_pure h).2.1
theorem thAs_get {m : Ar} : ∀ {l l' : List AV}, ThAs m l l' → l.length = l'.length ∧ pureA.pureAs l' = true ∧ ∀ (i : Nat) (x y : AV), l[i]? = some x → l'[i]? = some y → ThA m x y := by
 intro l
 induction l with
 | nil => intro l' h; cases l' with | nil => simp [pureA.pureAs] | cons => exact h.elim
 | cons x r ih =>
  intro l' h
  cases l' with
  | nil => exact h.elim
  | cons y s =>
   obtain ⟨h1, h2⟩ := h
   obtain ⟨i1, i2, i3⟩ := ih h2
   refine ⟨by simp [i1], by simp [pureA.pureAs, thA_pure h1, i2], fun i a b ha hb => ?_⟩
   cases i with
   | zero => simp at ha hb; subst ha hb; exact h1
   | succ i => simp at ha hb; exact i3 i a b ha hb
def RetA (res : List (Nat × Option (Option Nat))) (L : Lv) (h : Hp) (K : AV → Prop) : Prop :=
 match resA (lkN L) h res with
 | some vs => vFrzAs h vs fun rs h2 => match h2 with
  | .am m :: _ => ∃ rs', ThAs m rs rs' ∧ K (pack rs')
  | _ => False
 | none => False
def am0 : Ar := fun _ => none
def vcFAE (res : List (Nat × Option (Option Nat))) (K : AV → Prop) : Post := fun x L h => match x with
 | .exit _ => False
 | _ => RetA res L h K
def vcFA (P : Program) (Λ : Len) (af : AF) (args : List AV) (K : AV → Prop) : Prop :=
 match af with
 | ⟨_, res, body⟩ => vcC P Λ 1 body (argL 0 args) [.am am0] (vcFAE res K)
theorem HR.am0 {G : Nat → Prop} {w : World} {ι : Io} (r : HR G ι [] w) : HR G [(0, 0)] [.am am0] w :=
  { len := rfl
    own := fun l l' b k k' h1 h2 _ _ => by
      have := get_lt h1; have := get_lt h2; simp at *; omega
    g := fun b hb => ⟨(r.g b hb).1, fun ⟨l, k, h1, h2⟩ => by
      have hl : l = 0 := by have := get_lt h1; simpa using this
      subst hl; cases h1
      obtain ⟨x, hx⟩ := h2; cases hx⟩
    blk := fun l k h1 => by
      have hl : l = 0 := by have := get_lt h1; simpa using this
      subst hl; cases h1
      intro b x hx; cases hx }
theorem fn_arena {P : Program} {f : Nat} {fn : Func} {af : AF} {args : List AV} {K : AV → Prop} (hmo : P.follows .mixedOrders = true) (hf : P.funcs[f]? = some fn) (hc : compF P fn = some af) (hl : args.length ≤ af.nt) (hv : ∀ Λ : Len, (∀ l, Λ l = (l.length : Int)) → vcFA P Λ af args K) :
    FnS P f args [] fun r _ => pureA r = true ∧ K r := by
  obtain ⟨c, hb, hcc, hres, hnt⟩ := compF_spec hc
  have hv1 := hv (fun l => (l.length : Int)) fun _ => rfl
  refine ⟨fun G ι w vs hr hvs => ?_⟩
  have hr1 := hr.am0
  have hι : ι = [] := by have := hr.len; exact List.eq_nil_of_length_eq_zero this
  subst hι
  have hvs1 : VRs G w [(0, 0)] [.am am0] vs args := ⟨hvs.1, fun i v x h1 h2 => (hvs.2 i v x h1 h2).mono (fun b hb => ⟨hb, rfl⟩) (fun l k hk => by simp at hk)⟩
  have none1 : ∀ b, ¬ owned [(0, 0)] [.am am0] b := fun b ⟨l, k, h1, h2⟩ => by
    have hl : l = 0 := by have := get_lt h1; simpa using this
    subst hl; cases h1
    obtain ⟨x, hx⟩ := h2; cases hx
  have henter := enter_fits (af := af) hnt (by omega) hr1 hvs1
  have hwp := vcC_sound (h0 := [.am am0]) (Λ := fun l => (l.length : Int)) (fun _ => rfl) (m := 1) hmo (by simp) c af.body _ _ (vcFAE af.res K) _ w hcc (by cases af; exact hv1) henter
  refine calls_of_wp hf hb (wp_mono hwp fun x a w' ⟨L, h', hq, hfit⟩ => ?_)
  have fin : RetA af.res L h' K → a.defers = [] ∧ ∃ v, (results fn a.tmps).run P w' = .ok v w' ∧ ∃ v' r G' ι' h'', Ending.returned v = .returned v' ∧ (pureA r = true ∧ K r) ∧ HR G' ι' h'' w' ∧ VR G' w' ι' h'' v' r ∧ Ext G [] [] w G' ι' h'' w' := by
    intro hret
    obtain ⟨G1, ι1, st⟩ := hfit
    refine ⟨st.rel.dfr, ?_⟩
    unfold RetA at hret
    split at hret
    · rename_i vs' hvs'
      obtain ⟨rs, h2, hrs, hret⟩ := vFrzAs_sound hret
      split at hret
      · rename_i m rest
        obtain ⟨rs', ht, hK⟩ := hret
        rw [lkN_fun] at hvs'
        obtain ⟨us, q1, q2⟩ := results_all (P := P) (fn := fn) (af := af) hres st.rel.hr st.rel.env hvs'
        obtain ⟨G2, k1, k2, k3, k4⟩ := frzAs_sound st.rel.hr q2 hrs
        obtain ⟨j1, j2, j3⟩ := HR.thaw k1 (m := m) rfl
        have e := (st.ext.trans k2).trans j2
        obtain ⟨t1, t2, t3⟩ := thAs_get ht
        have hvr : VRs (fun b => G2 b ∨ ∃ x, m b = some x) w' ι1 (List.set (.am m :: rest) 0 .dead) us rs' := by
          refine ⟨by rw [k3.1, t1], fun i v y h1 h2 => ?_⟩
          have hi := get_lt h2
          have hx : rs[i]? = some (rs[i]'(by omega)) := List.getElem?_eq_getElem _
          have hvx := (k3.2 i v _ h1 hx).ext j2 k1
          have hth := t3 i _ y hx h2
          revert hvx hth
          generalize rs[i]'(by omega) = z
          intro hvx hth
          have cc : ∀ {v : Value} {p q : CV}, CR (fun b => G2 b ∨ ∃ x, m b = some x) w' ι1 (List.set (.am m :: rest) 0 .dead) v p → ThC m p q → CR (fun b => G2 b ∨ ∃ x, m b = some x) w' ι1 (List.set (.am m :: rest) 0 .dead) v q := by
            intro v p q hp hq
            cases hq with
            | same => exact hp
            | d x x' h => cases hp with | d _ _ hd => exact .d _ _ (thD_sound j3 h hd)
          cases hth with
          | c _ _ h => cases hvx with | c _ _ hc => exact .c _ _ (cc hc h)
          | agg l l' h =>
            obtain ⟨u1, u2, u3⟩ := thCs_pure h
            cases hvx with
            | agg cs _ hn hc =>
              refine .agg _ _ (by omega) fun j v y hv hy => ?_
              have hj := get_lt hy
              exact cc (hc j v _ hv (List.getElem?_eq_getElem (by omega))) (u3 j _ y (List.getElem?_eq_getElem (by omega)) hy)
        refine ⟨_, q1, _, pack rs', _, ι1, _, rfl, ⟨?_, hK⟩, j1, pack_sound hvr, ?_⟩
        · cases rs' with
          | nil => rfl
          | cons x rs' =>
            cases rs' with
            | nil => simp only [pureA.pureAs, Bool.and_true] at t2; exact t2
            | cons y rs' => exact t2
        · exact
            { size := e.size
              quiet := e.quiet
              frame := fun b hb _ => e.frame b hb (none1 b)
              gmono := e.gmono
              gnew := fun b hb => by
                rcases e.gnew b hb with h | h | h
                · exact .inl h
                · exact .inr (.inl h)
                · exact absurd h (none1 b)
              onew := fun b hb => by
                rcases e.onew b hb with h | h
                · exact absurd h (none1 b)
                · exact .inr h
              keep := fun l k hk => by simp at hk }
      · exact hret.elim
    · exact hret.elim
  cases x with
  | normal => exact fin hq
  | ret => exact fin hq
  | exit i => exact hq.elim
  | goto => exact hq.elim
  | panic => exact hq.elim
  | outgrown => exact hq.elim
end Go.Ab

