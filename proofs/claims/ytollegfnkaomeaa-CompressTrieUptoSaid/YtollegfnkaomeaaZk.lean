/-
  Merged texts, part k.
-/
import Derived.Test.YtollegfnkaomeaaZj
/-
  The engine, part x: the condition of a text, and that it suffices; functions.
-/
namespace Go.Ab
inductive Ex where
 | normal
 | exit (id : Nat)
 | ret
 deriving DecidableEq
abbrev Post := Ex → Lv → Hp → Prop
inductive LoopI (m : Nat) (body : Lv → Hp → Post → Prop) (L : Lv) (h : Hp) (Q : Post) : Prop
 | mk (I : Nat → Lv → Hp → Prop) (n : Nat) (L1 : Lv) (h1 : Hp) (wk : Wk m L h L1 h1) (start : I n L1 h1)
   (round : ∀ n L h, I n L h → body L h fun x L' h' => match x with
    | .normal => ∃ n' L1 h1, n' < n ∧ Wk m L' h' L1 h1 ∧ I n' L1 h1
    | .exit i => ∃ L1 h1, Wk m L' h' L1 h1 ∧ Q (.exit i) L1 h1
    | .ret => Q .ret L' h')
def lateOk (h h' : Hp) (L : Lv) : List Nat → Prop
 | [] => True
 | s :: r => agreeA h h' (lkN L s) ∧ (match lkN L s with
  | .c (.d (.adr _ _)) => False
  | _ => True) ∧ lateOk h h' L r
def lateOT (h h' : Hp) (L : Lv) : List (Nat × Bool) → Prop
 | [] => True
 | (s, b) :: r => agreeA h h' (lkN L s) ∧ (match b, lkN L s with
  | true, .c (.d (.adr _ _)) => False
  | _, _ => True) ∧ lateOT h h' L r
def vcWr (P : Program) (o : AO) (late : List Nat) (L : Lv) (h : Hp) (K : Lv → Hp → Prop) : Prop := match o.op with
 | .call f xs => ∃ R : AV → Hp → Prop, FnS P f (evsN L xs) h R ∧ ∀ r h', R r h' → lateOk h h' L late ∧ K (putL L o.dst r) h'
 | _ => False
def arW (L : Lv) : AOp → Bool
 | .nilc x => isA (evN L x)
 | .iaa _ _ x _ => isA (evN L x)
 | .ias _ x _ => isA (evN L x)
 | .fa x _ => isA (evN L x)
 | .ld x _ => isA (evN L x)
 | .st x _ _ => isA (evN L x)
 | _ => false
def readW : AOp → Bool
 | .ias .. => true
 | _ => false
def vcW1 (P : Program) (Λ : Len) (o : AO) (L : Lv) (h : Hp) (K : AV → Hp → Prop) : Prop := match o.op with
 | .call f xs => ∃ R : AV → Hp → Prop, FnS P f (evsN L xs) h R ∧ ∀ r h', R r h' → K r h'
 | .callv x xs => (match evN L x with
  | .c (.fn b f caps) => (match Nat.blt f 4294967296 with
   | true => FnOk P f ∧ ∃ R : AV → Hp → Prop, FnS P f (bArgs b (evsN L xs) (caps.map .c)) h R ∧ ∀ r h', R r h' → K r h'
   | false => False)
  | _ => False)
 | .bsl sz z n ps => vcOp0 P Λ 0 false (.bsl sz z n ps) L h fun _ v h' => K v h'
 | .app sz bytes z x y => (match evN L x with
  | .c (.d (.sl _ _ _ _ _)) => vAr (.app sz bytes z x y) L h K
  | .c (.d (.list true _ _)) => (Unit → vcOp0 P Λ 0 true (.app sz bytes z x y) L h fun _ v h' => K v h') ∨ (Unit → vAr (.app sz bytes z x y) L h K)
  | _ => vcOp0 P Λ 0 true (.app sz bytes z x y) L h fun _ v h' => K v h')
 | op => match arW L op with
  | true => vAr op L h K
  | false => vcOp0 P Λ 0 true op L h fun _ v h' => K v h'
def hdT : List (List (Nat × Bool)) → List (Nat × Bool)
 | [] => []
 | a :: _ => a
def tlT : List (List (Nat × Bool)) → List (List (Nat × Bool))
 | [] => []
 | _ :: r => r
def vcWs (P : Program) (Λ : Len) : List AO → List (List (Nat × Bool)) → Lv → Hp → (Lv → Hp → Prop) → Prop
 | [], _, L, h, K => K L h
 | o :: r, late, L, h, K => vcW1 P Λ o L h fun v h' => lateOT h h' L (hdT late) ∧ vcWs P Λ r (tlT late) (putL L o.dst v) h' K
def pureLv : Lv → Lv
 | [] => []
 | (i, v) :: r => (i, match pureA v with
  | true => v
  | false => .c .u) :: pureLv r
structure RfS (P : Program) (VA VB : Lv → Hp → Post → Prop) (x : X) (p : Nat) (L : Lv) (h : Hp) (Q : Post) : Prop where
 out : ∃ m rest g caps, h = .am m :: rest ∧ evN L x = .c (.fn false g caps) ∧ Nat.blt g 4294967296 = true ∧ FnOk P g ∧ (∀ l, NoFn P l) ∧
  ∀ (l : Nat) (rdy bsy : AB), m l = none →
   (∀ (m' : Ar) (r : AV) (K : Ar → Prop), m' l = some rdy → pureA r = true → (VA (putL (pureLv L) (some p) r) [.am m'] fun x L2 h2 => match x with
     | .normal => ∃ m2 tl, h2 = .am m2 :: tl ∧ m2 l = some rdy ∧ VB L2 (.am (mup m2 l bsy) :: tl) fun x _ h3 => match x with
      | .normal => ∃ m3 tl3, h3 = .am m3 :: tl3 ∧ m3 l = some bsy ∧ K (mup m3 l rdy)
      | _ => False
     | _ => False) →
    FnS P (8589934592 + l) [r] [.am m'] fun q h' => q = .c (.d (.bool true)) ∧ ∃ m3 tl, h' = .am m3 :: tl ∧ K m3) →
   FnS P g (.c (.d (.yl l)) :: caps.map .c) (.am (mup m l rdy) :: rest) fun _ h' => ∃ m3 rest', h' = .am m3 :: rest' ∧ m3 l = some rdy ∧ Q .normal L (.am (mdel m3 l) :: rest')
def vcC (P : Program) (Λ : Len) (m : Nat) : AC → Lv → Hp → Post → Prop
 | .skip, L, h, Q => Q .normal L h
 | .reg d ops, L, h, Q => vcOps P Λ m d ops L h fun L h => Q .normal L h
 | .rgf pre k ops, L, h, Q => vcF3 P Λ m pre k [] ops L h fun L h => Q .normal L h
 | .rgw e1 o e2 cs late, L, h, Q => vcOps P Λ m true e1 L h fun L h => vcOps P Λ m true e2 L h fun L h => vcWr P o late L h fun L h => vcOps P Λ m true cs L h fun L h => Q .normal L h
 | .rgc es ws late, L, h, Q => vcOps P Λ m true es L h fun L h => vcWs P Λ ws late L h fun L h => Q .normal L h
 | .seq a b, L, h, Q => vcC P Λ m a L h fun x L h => match x with
  | .normal => vcC P Λ m b L h Q
  | x => Q x L h
 | .cond c a b, L, h, Q => match evN L c with
  | .c (.d (.bool t)) => (match t with
   | true => vcC P Λ m a L h Q
   | false => vcC P Λ m b L h Q)
  | _ => False
 | .block id c, L, h, Q => vcC P Λ m c L h fun x L h => match x with
  | .exit i => (match Nat.beq i id with
   | true => Q .normal L h
   | false => Q (.exit i) L h)
  | x => Q x L h
 | .loop c, L, h, Q => LoopI m (vcC P Λ m c) L h Q
 | .exit id, L, h, Q => Q (.exit id) L h
 | .ret, L, h, Q => Q .ret L h
 | .rfn x p a b, L, h, Q => RfS P (vcC P Λ 1 a) (vcC P Λ 1 b) x p L h Q
def barB (ms : List Nat) (n b : Nat) : Bool := ((List.range b).all fun j => (ms.getD b 0).testBit j) && (List.range n).all fun i => decide (i ≤ b) || (ms.getD i 0).testBit b
def isCall : AOp → Bool
 | .call .. => true
 | .callv .. => true
 | .ivk .. => true
 | _ => false
def splitD (ms : List Nat) (n : Nat) : Nat → List AO → List AO × List (AO × List AO)
 | _, [] => ([], [])
 | k, o :: r => match splitD ms n (k + 1) r with
  | (c, bs) => match isCall o.op && barB ms n k with
   | true => ([], (o, c) :: bs)
   | false => (o :: c, bs)
def acSegs : List AO → List (AO × List AO) → AC
 | c, [] => .reg true c
 | c, (o, c') :: r => .seq (.reg true c) (.seq (.reg false [o]) (acSegs c' r))
def acDraw (ops : Array Oper) (aos : List AO) : AC := match splitD (masks ops.toList []) ops.size 0 aos with
 | (c, bs) => acSegs c bs
def acDrawW (P : Program) (ops : Array Oper) (aos : List AO) : AC := match findW P (barB (masks ops.toList []) ops.size) 0 aos with
 | some b => (match aos[b]? with
  | some o => let e2 := freeN (masks ops.toList []) b (ops.size - (b + 1)) (b + 1)
   if wrOk (masks ops.toList []) ops.size b e2 aos = true then .rgw (aos.take b) o ((aos.drop (b + 1)).take e2) (aos.drop (b + 1 + e2)) (((aos.take b ++ (aos.drop (b + 1)).take e2).flatMap lateS).filter fun s => !(dstsOf (aos.take b ++ (aos.drop (b + 1)).take e2)).contains s) else acDraw ops aos
  | none => acDraw ops aos)
 | none => acDraw ops aos
theorem findW_spec {P : Program} {bar : Nat → Bool} : ∀ {l : List AO} {k b : Nat}, findW P bar k l = some b → k ≤ b ∧ ∃ o f xs, l[b - k]? = some o ∧ o.op = .call f xs ∧ o.g = none := by
 intro l
 induction l with
 | nil => intro k b h; cases h
 | cons o r ih =>
  intro k b h
  have next : findW P bar (k + 1) r = some b → k ≤ b ∧ ∃ o' f xs, (o :: r)[b - k]? = some o' ∧ o'.op = .call f xs ∧ o'.g = none := fun h => by
   obtain ⟨h1, o', f, xs, h2, h3⟩ := ih h
   exact ⟨by omega, o', f, xs, by rw [show b - k = (b - (k + 1)) + 1 by omega, List.getElem?_cons_succ]; exact h2, h3⟩
  simp only [findW] at h
  split at h
  ·rename_i f xs hop hg
   split at h
   ·cases h
    exact ⟨Nat.le_refl _, o, f, xs, by simp, hop, hg⟩
   ·exact next h
  ·exact next h
def acSegs3 (pre : List (List Nat)) : Nat → List AO → List (AO × List AO) → AC
 | k, c, [] => .rgf pre k c
 | k, c, (o, c') :: r => .seq (.rgf pre k c) (.seq (.reg false [o]) (acSegs3 pre (k + c.length + 1) c' r))
def preOf (ms : List Nat) (n : Nat) : List (List Nat) := (List.range n).map fun i => (List.range i).filter fun j => (ms.getD i 0).testBit j
def acDraw3 (ops : Array Oper) (aos : List AO) : AC := match splitD (masks ops.toList []) ops.size 0 aos with
 | (c, bs) => acSegs3 (preOf (masks ops.toList []) ops.size) 0 c bs
def isW (ms : List Nat) (c i : Nat) : Bool := Nat.beq i c || (ms.getD i 0).testBit c
def idxE (ms : List Nat) (n c : Nat) : List Nat := (List.range n).filter fun i => !isW ms c i
def idxW (ms : List Nat) (n c : Nat) : List Nat := (List.range n).filter fun i => isW ms c i
def getA (aos : List AO) (l : List Nat) : List AO := l.filterMap fun i => aos[i]?
def indepB (a b : AO) : Bool := (match a.dst with
 | some d => !(slotsOf b).contains d && b.dst != some d
 | none => true) && (match b.dst with
 | some d => !(slotsOf a).contains d
 | none => true)
def dirOk (os : List Oper) : Bool := (List.range os.length).all fun i => match os[i]? with
 | some o => (direct o).all fun j => decide (j < i)
 | none => true
def chOk (ms : List Nat) (n c : Nat) (aos : List AO) : Bool :=
 ((idxW ms n c).all fun b => ((idxW ms n c).all fun k => decide (b ≤ k) || (ms.getD b 0).testBit k) && (match aos[b]? with
  | some o => o.g.isNone
  | none => false)) &&
 ((idxE ms n c).all fun j => match aos[j]? with
  | some o => cls o.op == 0
  | none => false) &&
 ((idxE ms n c).all fun j => (idxE ms n c).all fun i => decide (i ≤ j) || (ms.getD i 0).testBit j || (match aos[j]?, aos[i]? with
  | some x, some y => compat x y
  | _, _ => false)) &&
 ((idxE ms n c).all fun j => (idxW ms n c).all fun b => (decide (j < b) && (ms.getD b 0).testBit j) || (match aos[j]?, aos[b]? with
  | some x, some y => indepB x y && (lateB2 x || readW y.op)
  | _, _ => false))
def idxL (ms : List Nat) (n c b : Nat) : List Nat := (idxE ms n c).filter fun j => !(decide (j < b) && (ms.getD b 0).testBit j)
def lateAt (ms : List Nat) (n c : Nat) (aos : List AO) (b : Nat) : List (Nat × Bool) := (getA aos (idxL ms n c b)).flatMap lateT
def ordE (ms : List Nat) (n c : Nat) (aos : List AO) : Bool := (idxE ms n c).all fun i => (idxE ms n c).all fun j => decide (j < i) || (match aos[i]?, aos[j]? with
 | some x, some y => (lateS2 x).all fun s => y.dst != some s
 | _, _ => false)
def findV (bar : Nat → Bool) : Nat → List AO → Option Nat
 | _, [] => none
 | k, o :: r => match o.op with
  | .callv _ _ => (match bar k with
   | true => findV bar (k + 1) r
   | false => some k)
  | _ => findV bar (k + 1) r
def dstIs (aos : List AO) (s : Nat) (p : AOp → Bool) : Bool := aos.any fun o => (match o.dst with
 | some d => Nat.beq d s
 | none => false) && p o.op
def isApp : AOp → Bool
 | .app .. => true
 | _ => false
def isRec (aos : List AO) : AOp → Bool
 | .build _ ps => ps.any fun p => match p.2.2 with
  | .t y => dstIs aos y isApp
  | _ => false
 | _ => false
def isNest (aos : List AO) : AOp → Bool
 | .bsl _ _ _ ps => ps.any fun p => match p.2 with
  | .t x => dstIs aos x (isRec aos)
  | _ => false
 | _ => false
def isBsl : AOp → Bool
 | .bsl .. => true
 | _ => false
def findB (k : Nat) : List AO → Option Nat
 | [] => none
 | o :: r => match isBsl o.op with
  | true => some k
  | false => findB (k + 1) r
def isGrow (aos : List AO) : Bool := (aos.any fun o => match o.op with
 | .nilc .. => true
 | _ => false) && (aos.any fun o => match o.op with
 | .app .. => true
 | _ => false) && aos.any fun o => match o.op with
 | .st .. => true
 | _ => false
def findVB (bar : Nat → Bool) (aos : List AO) : Option Nat := match (aos.any fun o => isNest aos o.op) || isGrow aos with
 | true => findB 0 aos
 | false => findV bar 0 aos
def acDraw4 (ops : Array Oper) (aos : List AO) : AC := match findVB (barB (masks ops.toList []) ops.size) aos with
 | some c => if (chOk (masks ops.toList []) ops.size c aos && ordE (masks ops.toList []) ops.size c aos) = true ∧ dirOk ops.toList = true ∧ aos.all constOk = true then
   .rgc (getA aos (idxE (masks ops.toList []) ops.size c)) (getA aos (idxW (masks ops.toList []) ops.size c)) ((idxW (masks ops.toList []) ops.size c).map (lateAt (masks ops.toList []) ops.size c aos))
  else acDraw3 ops aos
 | none => acDraw3 ops aos
def isSt : AOp → Bool
 | .st .. => true
 | _ => false
def isLdIas (aos : List AO) : AOp → Bool
 | .ld (.t y) none => dstIs aos y readW
 | _ => false
def stTo (aos : List AO) (d : Option Nat) : Bool := match d with
 | some z => aos.any fun o => match o.op with
  | .st (.t y) _ _ => Nat.beq y z
  | _ => false
 | none => false
def nestAt (aos : List AO) (k : Nat) : List AO → Option Nat
 | [] => none
 | o :: r => match (match o.op with
   | .ias _ (.t x) _ => dstIs aos x (isLdIas aos) && stTo aos o.dst
   | _ => false) with
  | true => some k
  | false => nestAt aos (k + 1) r
def isLd1 : AOp → Bool
 | .ld _ none => true
 | _ => false
def findS (P : Program) (aos : List AO) : Nat → List AO → Option Nat
 | _, [] => none
 | k, o :: r => match o.op with
  | .call f xs => (match selfF P f && xs.any fun x => match x with
    | .t s => dstIs aos s isLd1
    | _ => false with
   | true => some k
   | false => findS P aos (k + 1) r)
  | _ => findS P aos (k + 1) r
def placeC (P : Program) (aos : List AO) : Option Nat := match nestAt aos 0 aos with
 | some c => some c
 | none => findS P aos 0 aos
def acDraw5 (P : Program) (ops : Array Oper) (aos : List AO) : AC := match aos.any fun o => isSt o.op with
 | true => (match placeC P aos with
  | some c => if (chOk (masks ops.toList []) ops.size c aos && ordE (masks ops.toList []) ops.size c aos) = true ∧ dirOk ops.toList = true ∧ aos.all constOk = true then
    .rgc (getA aos (idxE (masks ops.toList []) ops.size c)) (getA aos (idxW (masks ops.toList []) ops.size c)) ((idxW (masks ops.toList []) ops.size c).map (lateAt (masks ops.toList []) ops.size c aos))
   else acDrawW P ops aos
  | none => acDrawW P ops aos)
 | false => acDrawW P ops aos
def compX (P : Program) (N : Nat) : Bool → Code → Option AC
 | _, .skip => some .skip
 | _, .label _ => some .skip
 | _, .region _ ops draw => match compOs P ops N ops.toList with
  | some aos => if aos.all (gOk N) = true ∧ (draw = true → aos.all constOk = true ∧ drawOk ops.toList aos = true) then some (match draw with | true => acDraw5 P ops aos | false => .reg false aos)
   else if draw = true ∧ aos.all (gOk N) = true ∧ aos.all constRf = true ∧ drawOk2 ops.toList aos = true then some (acDraw4 ops aos) else none
  | none => none
 | rf, .seq a b => match compX P N rf a, compX P N rf b with
  | some x, some y => some (.seq x y)
  | _, _ => none
 | rf, .cond c a b => match cx P 0 c, compX P N rf a, compX P N rf b with
  | some c, some x, some y => some (.cond c x y)
  | _, _, _ => none
 | rf, .block id c => match compX P N rf c with
  | some x => some (.block id x)
  | none => none
 | rf, .loop c => match compX P N rf c with
  | some x => some (.loop x)
  | none => none
 | rf, .scope c => compX P N rf c
 | _, .exit id => some (.exit id)
 | _, .ret => some .ret
 | rf, .rangeFunc g ps a b => match rf, cx P 0 g, ps.toList, compX P N false a, compX P N false b with
  | true, some (.t x), [p], some a, some b => if p < N then some (.rfn (.t x) p a b) else none
  | _, _, _, _, _ => none
 | _, _ => none
abbrev compC (P : Program) (N : Nat) : Code → Option AC := compX P N true
section
variable {P : Program} {ro : Option Nat} {N : Nat} {G0 : Nat → Prop} {ι0 : Io} {h0 : Hp} {w0 : World}
def exq (Q : Post) : Exit → Lv → Hp → Prop
 | .normal => Q .normal
 | .exit i => Q (.exit i)
 | .ret => Q .ret
 | _ => fun _ _ => False
def out (N : Nat) (G0 : Nat → Prop) (ι0 : Io) (h0 : Hp) (w0 : World) (Q : Post) : Exit → Act → World → Prop :=
 fun x a w => ∃ L h, exq Q x L h ∧ Fits N G0 ι0 h0 w0 (lkL L) h a w
theorem least {p : Nat → Prop} : ∀ n, p n → ∃ m, p m ∧ ∀ k, p k → m ≤ k := by
 intro n
 induction n using Nat.strongRecOn with
 | _ n ih =>
  intro hn
  by_cases h : ∃ k, k < n ∧ p k
  ·obtain ⟨k, hk, hpk⟩ := h; exact ih k hk hpk
  ·exact ⟨n, hn, fun k hk => by
    rcases Nat.lt_or_ge k n with h' | h'
    ·exact absurd ⟨k, h', hk⟩ h
    ·exact h'⟩
theorem stepR_scope {b : Frame} {a : Act} {k : List Item} {cs : List Frame} {w : World} {c : Code} : step P (lone (b.atR a (.code (.scope c) :: k)) cs w) = .next (lone (b.atR a (.code c :: .inScope c :: k)) cs w) :=
 step_lone_go (by simp [stepG, stepG.exec, Frame.atR])
theorem stepR_inScope {b : Frame} {a : Act} {k : List Item} {cs : List Frame} {w : World} {c : Code} : step P (lone (b.atR a (.inScope c :: k)) cs w) = .next (lone (b.atR a k) cs w) :=
 step_lone_go (by simp [stepG, stepG.exec, Frame.atR])
theorem wpIn_scope_straight {c : Code} {Q : Exit → Act → World → Prop} {a : Act} {w : World} (h : c.wpIn (Fen ro) 0 P (Exit.noGoto Q) a w) : (Code.scope c).wpIn (Fen ro) 0 P Q a w := by
 intro b k cs hro hb hr
 have h0 : (lone (b.atR a (.code (.scope c) :: k)) cs w).fenced P (Fen ro) := fenced_calm hb hr rfl
 obtain ⟨e, a₁, w₁, hq, harr⟩ := h b (.inScope c :: k) cs hro hb hr
 cases e with
 | normal => exact ⟨.normal, a₁, w₁, hq, .head h0 stepR_scope (StepsIn.trans harr (.one (fenced_calm hb hr rfl) stepR_inScope))⟩
 | exit id =>
  have hx : exitTo id (.inScope c :: k) = exitTo id k := by simp [exitTo]
  exact ⟨.exit id, a₁, w₁, hq, fun k' hk => .head h0 stepR_scope (harr.1 k' (by rw [hx]; exact hk)), fun hr' hk => let ⟨k₁, h1, h2⟩ := harr.2 hr' (by rw [hx]; exact hk); ⟨k₁, h1, .head h0 stepR_scope h2⟩⟩
 | goto l => exact hq.elim
 | ret => exact ⟨_, a₁, w₁, hq, .of_steps (.one h0 stepR_scope) harr⟩
 | panic ch => exact ⟨_, a₁, w₁, hq, .of_steps (.one h0 stepR_scope) harr⟩
 | outgrown => exact ⟨_, a₁, w₁, hq, .of_steps (.one h0 stepR_scope) harr⟩
theorem wp_loop_ghost {c : Code} {Q : Exit → Act → World → Prop} (I : Nat → Act → World → Prop)
  (round : ∀ n a w, I n a w → c.wpIn (Fen ro) 0 P (Exit.then (fun a' w' => ∃ n', n' < n ∧ I n' a' w') Q) a w) : ∀ n a w, I n a w → (Code.loop c).wpIn (Fen ro) 0 P Q a w := by
 intro n a w h
 classical
 have hex : ∀ a w, (∃ n, I n a w) → ∃ m, I m a w ∧ ∀ k, I k a w → m ≤ k := fun a w ⟨n, hn⟩ => least n hn
 let μ : Act → World → Nat := fun a w => if h : ∃ n, I n a w then Classical.choose (hex a w h) else 0
 have hμ : ∀ a w, (∃ n, I n a w) → I (μ a w) a w := fun a w h => by simp only [μ, dif_pos h]; exact (Classical.choose_spec (hex a w h)).1
 have hμ' : ∀ a w n, I n a w → μ a w ≤ n := fun a w n h => by
  have h0 : ∃ n, I n a w := ⟨n, h⟩
  simp only [μ, dif_pos h0]; exact (Classical.choose_spec (hex a w h0)).2 n h
 refine wpIn_loop (fun a w => ∃ n, I n a w) μ ⟨n, h⟩ fun a w hI => ?_
 refine wpIn_mono (round _ a w (hμ a w hI)) fun x a' w' hx => ?_
 cases x with
 | normal => obtain ⟨n', h1, h2⟩ := hx; exact ⟨⟨n', h2⟩, Nat.lt_of_le_of_lt (hμ' a' w' n' h2) h1⟩
 | _ => exact hx
def BarsOk (ms : List Nat) (n : Nat) : Nat → List (AO × List AO) → Prop
 | _, [] => True
 | k, (_, c) :: r => barB ms n k = true ∧ BarsOk ms n (k + 1 + c.length) r
def flatB : List (AO × List AO) → List AO
 | [] => []
 | (o, c) :: r => o :: (c ++ flatB r)
def idxP : Nat → List (AO × List AO) → List (Nat × List Nat)
 | _, [] => []
 | k, (_, c) :: r => (k, List.range' (k + 1) c.length) :: idxP (k + 1 + c.length) r
theorem splitD_spec {ms : List Nat} {n : Nat} : ∀ (aos : List AO) (k : Nat) (c : List AO) (bs : List (AO × List AO)), splitD ms n k aos = (c, bs) → aos = c ++ flatB bs ∧ BarsOk ms n (k + c.length) bs := by
 intro aos
 induction aos with
 | nil => intro k c bs h; cases h; exact ⟨rfl, trivial⟩
 | cons o r ih =>
  intro k c bs h
  simp only [splitD] at h
  generalize hs : splitD ms n (k + 1) r = p at h
  obtain ⟨c', bs'⟩ := p
  obtain ⟨h1, h2⟩ := ih (k + 1) c' bs' hs
  simp only at h
  split at h
  ·rename_i hb
   simp only [Bool.and_eq_true] at hb
   cases h
   exact ⟨by simp [flatB, h1], hb.2, h2⟩
  ·cases h
   refine ⟨by simp [h1], ?_⟩
   simp only [List.length_cons]
   rw [show k + (c'.length + 1) = k + 1 + c'.length by omega]; exact h2
theorem flat_idx : ∀ (bs : List (AO × List AO)) (k : Nat), flatP (idxP k bs) = List.range' k (flatB bs).length := by
 intro bs
 induction bs with
 | nil => intro k; rfl
 | cons q r ih =>
  intro k
  obtain ⟨o, c⟩ := q
  simp only [idxP, flatP, flatB, List.length_cons, List.length_append, List.range'_succ, ih]
  congr 1
  rw [List.range'_append_1]
theorem op_wp {ops : Array Oper} {m b : Nat} (hm : h0.length ≤ m) {Q : Exit → Act → World → Prop} {o : Oper} {ao : AO} {L : Lv} {h : Hp} {K : Lv → Hp → Prop} {K' : Act → World → Prop} {a : Act} {w : World} (hok : ops[b]? = some o) (hao : compO P ops N o = some ao) (hg : gOk N ao = true)
  (hv : runO P m false [ao] L h K) (hf : Fits N G0 ι0 h0 w0 (lkL L) h a w) (hK : ∀ L' h' a' w', K L' h' → Fits N G0 ι0 h0 w0 (lkL L') h' a' w' → K' a' w') : wpOpIn (Fen ro) 0 P ops Q b K' a w := by
 unfold wpOpIn
 simp only [hok]
 obtain ⟨G, ι, st⟩ := hf
 obtain ⟨hd, hdN, hop, hgs⟩ := compO_dst hao
 have hgN := gOk_spec hg
 rcases hv with ⟨hgv, hv⟩ | ⟨hgv, hv⟩
 ·rw [gv_wanted st.rel hgs hgv hgN]
  simp only [if_true]
  refine did_sound hm hao hv ⟨G, ι, st⟩ fun L' v h' a' w' hk' hf' => ?_
  exact hK _ _ _ _ hk' (by rw [putL_eq]; exact hf')
 ·rw [gv_wanted st.rel hgs hgv hgN]
  simp only [Bool.false_eq_true, if_false]
  refine ⟨fun f _ => Fen.fn ro f, hK _ _ _ _ hv ⟨G, ι, ?_⟩⟩
  rw [putL_eq, hd]
  exact st.step hdN st.rel.hr (.tup #[] [] rfl (by simp)) (Ext.refl _ _ _ _)
theorem RunI.of_take {aops : List AO} {n : Nat} : ∀ {l : List Nat} {e : Env} {h : Hp} {e' : Env} {h' : Hp}, RunI P (aops.take n) l e h e' h' → RunI P aops l e h e' h' := by
 intro l
 induction l with
 | nil => intro e h e' h' hr; exact hr
 | cons i r ih =>
  intro e h e' h' ⟨o, e1, h1, ho, hs, hr⟩
  refine ⟨o, e1, h1, ?_, hs, ih hr⟩
  rw [List.getElem?_take] at ho
  split at ho
  ·exact ho
  ·cases ho
theorem segs_plan {S : AC → Lv → Hp → Post → Prop} {m : Nat} {ops : Array Oper} {aops : List AO} {Q : Post} (hm : h0.length ≤ m)
  (hseq : ∀ a b L h Q, S (.seq a b) L h Q → S a L h fun x L h => match x with | .normal => S b L h Q | x => Q x L h) (hreg : ∀ d ops L h Q, S (.reg d ops) L h Q → runO P m d ops L h fun L h => Q .normal L h)
  (hcomp : compOs P ops N ops.toList = some aops) (hg : aops.all (gOk N) = true) : ∀ (bs : List (AO × List AO)) (c : List AO) (k : Nat) (L : Lv) (h : Hp), (∀ i, (c ++ flatB bs)[i]? = aops[k + i]?) → BarsOk (masks ops.toList []) ops.size (k + c.length) bs → S (acSegs c bs) L h Q →
  ∃ e' h', RunI P aops (List.range' k c.length) (lkL L) h e' h' ∧ PlanK ro P N G0 ι0 h0 w0 ops aops (out N G0 ι0 h0 w0 Q) (idxP (k + c.length) bs) e' h' := by
 intro bs
 induction bs with
 | nil =>
  intro c k L h hi _ hs
  obtain ⟨L', h', h1, h2⟩ := runO_run (aops := aops) c k L h _ (by simpa [flatB] using hi) (hreg _ _ _ _ _ hs)
  exact ⟨_, _, h1, fun a w hf => ⟨L', h', h2, hf⟩⟩
 | cons q r ih =>
  intro c k L h hi hb hs
  obtain ⟨o, c'⟩ := q
  obtain ⟨hb1, hb2⟩ := hb
  have hci : ∀ i, c[i]? = aops[k + i]? ∨ c.length ≤ i := fun i => by
   rcases Nat.lt_or_ge i c.length with hlt | hge
   ·left; rw [← hi i, List.getElem?_append_left hlt]
   ·exact .inr hge
  have hrun : runO P m true c L h fun L h => S (.seq (.reg false [o]) (acSegs c' r)) L h Q := hreg _ _ _ _ _ (hseq _ _ _ _ _ hs)
  obtain ⟨L1, h1, q1, q2⟩ : ∃ L' h', RunI P aops (List.range' k c.length) (lkL L) h (lkL L') h' ∧ S (.seq (.reg false [o]) (acSegs c' r)) L' h' Q := by
   have hc2 : ∀ i, c[i]? = ((aops.take (k + c.length)))[k + i]? := fun i => by
    rcases hci i with h | h
    ·rcases Nat.lt_or_ge i c.length with hlt | hge
     ·rw [List.getElem?_take_of_lt (by omega), h]
     ·rw [List.getElem?_eq_none hge, List.getElem?_eq_none (by simp; omega)]
    ·rw [List.getElem?_eq_none h, List.getElem?_eq_none (by simp; omega)]
   obtain ⟨L', h', q1, q2⟩ := runO_run (aops := aops.take (k + c.length)) c k L h _ hc2 hrun
   exact ⟨L', h', RunI.of_take q1, q2⟩
  refine ⟨_, _, q1, ?_⟩
  have hob : aops[k + c.length]? = some o := by rw [← hi c.length]; simp [flatB]
  have hlen := (compOs_get hcomp).1
  obtain ⟨oo, hoo⟩ : ∃ oo, ops.toList[k + c.length]? = some oo := ⟨_, List.getElem?_eq_getElem (by have := get_lt hob; omega)⟩
  have hao := (compOs_get hcomp).2 _ oo o hoo hob
  have hgo : gOk N o = true := by rw [List.all_eq_true] at hg; exact hg o (List.mem_of_getElem? hob)
  have hone : runO P m false [o] L1 h1 fun L h => S (acSegs c' r) L h Q := hreg _ _ _ _ _ (hseq _ _ _ _ _ q2)
  refine ⟨?_, fun a w K hf hK => ?_⟩
  ·simp only [barB, Bool.and_eq_true, List.all_eq_true, List.mem_range, Bool.or_eq_true, decide_eq_true_eq] at hb1
   exact ⟨hb1.1, fun i h1 h2 => (hb1.2 i h2).resolve_left (by omega)⟩
  ·refine op_wp hm (by simpa using hoo) hao hgo hone hf fun L' h' a' w' hk hf' => ?_
   obtain ⟨e3, h3, p1, p2⟩ := ih c' (k + c.length + 1) L' h' (fun i => by
    have := hi (c.length + 1 + i)
    rw [List.getElem?_append_right (by omega)] at this
    rw [show c.length + 1 + i - c.length = i + 1 by omega] at this
    simp only [flatB, List.getElem?_cons_succ] at this
    rw [this]; congr 1; omega) hb2 hk
   exact hK _ _ _ _ _ _ hf' p1 p2
theorem region_segs {S : AC → Lv → Hp → Post → Prop} {m id : Nat} {ops : Array Oper} {aops : List AO} {Q : Post} {L : Lv} {h : Hp} {a : Act} {w : World} (hmo : P.follows .mixedOrders = true) (hm : h0.length ≤ m)
  (hseq : ∀ a b L h Q, S (.seq a b) L h Q → S a L h fun x L h => match x with | .normal => S b L h Q | x => Q x L h) (hreg : ∀ d ops L h Q, S (.reg d ops) L h Q → runO P m d ops L h fun L h => Q .normal L h)
  (hcomp : compOs P ops N ops.toList = some aops) (hg : aops.all (gOk N) = true) (hk : aops.all constOk = true) (hd : drawOk ops.toList aops = true) (hf : Fits N G0 ι0 h0 w0 (lkL L) h a w) (hs : S (acDraw ops aops) L h Q) : (Code.region id ops true).wpIn (Fen ro) 0 P (out N G0 ι0 h0 w0 Q) a w := by
 unfold acDraw at hs
 generalize hsp : splitD (masks ops.toList []) ops.size 0 aops = p at hs
 obtain ⟨c, bs⟩ := p
 obtain ⟨h1, h2⟩ := splitD_spec aops 0 c bs hsp
 obtain ⟨e', h', q1, q2⟩ := segs_plan (ro := ro) hm hseq hreg hcomp hg bs c 0 L h (fun i => by rw [← h1]; simp) h2 hs
 refine region_draw hmo hcomp hg hk hd hf ?_ q1 q2
 rw [flat_idx, Nat.zero_add]
 have hlen := (compOs_get hcomp).1
 have : ops.size = c.length + (flatB bs).length := by
  rw [← List.length_append, ← h1, ← hlen]; simp
 rw [this, List.range_eq_range']
 have := List.range'_append_1 (s := 0) (m := c.length) (n := (flatB bs).length)
 simpa using this
theorem getP_get : ∀ {l : List (List Nat)} {i : Nat} {x : List Nat}, l[i]? = some x → getP l i = x
 | [], _, _, h => by simp at h
 | y :: r, 0, x, h => by simpa [getP] using h
 | y :: r, i + 1, x, h => by simp only [List.getElem?_cons_succ] at h; simp only [getP]; exact getP_get h
theorem getP_none : ∀ {l : List (List Nat)} {i : Nat}, l.length ≤ i → getP l i = []
 | [], _, _ => rfl
 | y :: r, 0, h => by simp at h
 | y :: r, i + 1, h => by simp only [getP]; exact getP_none (by simpa using h)
theorem preOf_bit {ops : Array Oper} {i j : Nat} (h : j ∈ getP (preOf (masks ops.toList []) ops.size) i) : bitM ops i j = true := by
 rcases Nat.lt_or_ge i ops.size with hi | hi
 ·rw [getP_get (x := (List.range i).filter fun j => ((masks ops.toList []).getD i 0).testBit j) (by simp [preOf, hi])] at h
  exact (List.mem_filter.1 h).2
 ·rw [getP_none (by simp [preOf]; exact hi)] at h; cases h
theorem segs_plan3 {S : AC → Lv → Hp → Post → Prop} {m : Nat} {ops : Array Oper} {aops : List AO} {Q : Post} (hm : h0.length ≤ m)
  (hseq : ∀ a b L h Q, S (.seq a b) L h Q → S a L h fun x L h => match x with | .normal => S b L h Q | x => Q x L h) (hreg : ∀ d ops L h Q, S (.reg d ops) L h Q → runO P m d ops L h fun L h => Q .normal L h)
  (hrgf : ∀ pre k ops L h Q, S (.rgf pre k ops) L h Q → runF P m pre k [] ops L h fun L h => Q .normal L h)
  (hcomp : compOs P ops N ops.toList = some aops) (hg : aops.all (gOk N) = true) (hcon : aops.all constRf = true) : ∀ (bs : List (AO × List AO)) (c : List AO) (k : Nat) (L : Lv) (h : Hp) (a : Act) (w : World), (∀ i, (c ++ flatB bs)[i]? = aops[k + i]?) → BarsOk (masks ops.toList []) ops.size (k + c.length) bs →
   S (acSegs3 (preOf (masks ops.toList []) ops.size) k c bs) L h Q → Fits N G0 ι0 h0 w0 (lkL L) h a w →
  Seg3 P h0.length ops aops (List.range' k c.length) (lkL L) h (PlanK3 ro P N G0 ι0 h0 w0 ops aops (out N G0 ι0 h0 w0 Q) (idxP (k + c.length) bs)) := by
 intro bs
 have hci : ∀ (bs : List (AO × List AO)) (c : List AO) (k : Nat), (∀ i, (c ++ flatB bs)[i]? = aops[k + i]?) → ∀ i, i < c.length → c[i]? = aops[k + i]? := fun bs c k hi i hlt => by rw [← hi i, List.getElem?_append_left hlt]
 induction bs with
 | nil =>
  intro c k L h a w hi _ hs hf
  obtain ⟨mm, tr, e', h', q1, q2, q3, L', rfl, q4⟩ := runF_seg3 hcomp (fun i j => preOf_bit) hcon (hci [] c k hi) (hrgf _ _ _ _ _ _ hs) hf
  exact ⟨mm, tr, _, h', q1, q2, q3, fun a w hf => ⟨L', h', q4, hf⟩⟩
 | cons q r ih =>
  intro c k L h a w hi hb hs hf
  obtain ⟨o, c'⟩ := q
  obtain ⟨hb1, hb2⟩ := hb
  obtain ⟨mm, tr, e', h', q1, q2, q3, L1, rfl, q4⟩ := runF_seg3 hcomp (fun i j => preOf_bit) hcon (hci ((o, c') :: r) c k hi) (hrgf _ _ _ _ _ _ (hseq _ _ _ _ _ hs)) hf
  refine ⟨mm, tr, _, h', q1, q2, q3, ?_⟩
  have hob : aops[k + c.length]? = some o := by rw [← hi c.length]; simp [flatB]
  have hlen := (compOs_get hcomp).1
  obtain ⟨oo, hoo⟩ : ∃ oo, ops.toList[k + c.length]? = some oo := ⟨_, List.getElem?_eq_getElem (by have := get_lt hob; omega)⟩
  have hao := (compOs_get hcomp).2 _ oo o hoo hob
  have hgo : gOk N o = true := by rw [List.all_eq_true] at hg; exact hg o (List.mem_of_getElem? hob)
  have hone : runO P m false [o] L1 h' fun L h => S (acSegs3 (preOf (masks ops.toList []) ops.size) (k + c.length + 1) c' r) L h Q := hreg _ _ _ _ _ (hseq _ _ _ _ _ q4)
  refine ⟨?_, fun a w K hf hK => ?_⟩
  ·simp only [barB, Bool.and_eq_true, List.all_eq_true, List.mem_range, Bool.or_eq_true, decide_eq_true_eq] at hb1
   exact ⟨hb1.1, fun i h1 h2 => (hb1.2 i h2).resolve_left (by omega)⟩
  ·refine op_wp hm (by simpa using hoo) hao hgo hone hf fun L' h' a' w' hk hf' => ?_
   exact hK _ _ _ _ hf' (ih c' (k + c.length + 1) L' h' a' w' (fun i => by
    have := hi (c.length + 1 + i)
    rw [List.getElem?_append_right (by omega)] at this
    rw [show c.length + 1 + i - c.length = i + 1 by omega] at this
    simp only [flatB, List.getElem?_cons_succ] at this
    rw [this]; congr 1; omega) hb2 hk hf')
theorem region_segs3 {S : AC → Lv → Hp → Post → Prop} {m id : Nat} {ops : Array Oper} {aops : List AO} {Q : Post} {L : Lv} {h : Hp} {a : Act} {w : World} (hmo : P.follows .mixedOrders = true) (hm : h0.length ≤ m)
  (hseq : ∀ a b L h Q, S (.seq a b) L h Q → S a L h fun x L h => match x with | .normal => S b L h Q | x => Q x L h) (hreg : ∀ d ops L h Q, S (.reg d ops) L h Q → runO P m d ops L h fun L h => Q .normal L h)
  (hrgf : ∀ pre k ops L h Q, S (.rgf pre k ops) L h Q → runF P m pre k [] ops L h fun L h => Q .normal L h)
  (hcomp : compOs P ops N ops.toList = some aops) (hg : aops.all (gOk N) = true) (hcon : aops.all constRf = true) (hd : drawOk2 ops.toList aops = true) (hf : Fits N G0 ι0 h0 w0 (lkL L) h a w) (hs : S (acDraw3 ops aops) L h Q) : (Code.region id ops true).wpIn (Fen ro) 0 P (out N G0 ι0 h0 w0 Q) a w := by
 unfold acDraw3 at hs
 generalize hsp : splitD (masks ops.toList []) ops.size 0 aops = p at hs
 obtain ⟨c, bs⟩ := p
 obtain ⟨h1, h2⟩ := splitD_spec aops 0 c bs hsp
 have hseg := segs_plan3 (ro := ro) hm hseq hreg hrgf hcomp hg hcon bs c 0 L h a w (fun i => by rw [← h1]; simp) h2 hs hf
 refine region3 hmo hcomp hg hd hf ?_ hseg
 rw [flat_idx, Nat.zero_add]
 have hlen := (compOs_get hcomp).1
 have : ops.size = c.length + (flatB bs).length := by
  rw [← List.length_append, ← h1, ← hlen]; simp
 rw [this, List.range_eq_range']
 have := List.range'_append_1 (s := 0) (m := c.length) (n := (flatB bs).length)
 simpa using this
theorem lateOk_mem {h h' : Hp} {L : Lv} : ∀ {l : List Nat}, lateOk h h' L l → ∀ s ∈ l, agreeA h h' (lkN L s) ∧ ¬ isAdr (lkN L s) := by
 intro l
 induction l with
 | nil => intro _ s hs; cases hs
 | cons x r ih =>
  intro hl s hs
  rcases List.mem_cons.1 hs with rfl | hs
  ·refine ⟨hl.1, fun hi => ?_⟩
   have h2 := hl.2.1
   revert hi h2
   generalize lkN L s = v
   intro hi h2
   unfold isAdr at hi
   split at hi
   ·exact h2
   ·exact hi
  ·exact ih hl.2.2 s hs
theorem lateOT_mem {h h' : Hp} {L : Lv} : ∀ {l : List (Nat × Bool)}, lateOT h h' L l → ∀ s b, (s, b) ∈ l → agreeA h h' (lkN L s) ∧ (b = true → ¬ isAdr (lkN L s)) := by
 intro l
 induction l with
 | nil => intro _ s b hs; cases hs
 | cons x r ih =>
  intro hl s b hs
  rcases List.mem_cons.1 hs with rfl | hs
  ·refine ⟨hl.1, fun hb hi => ?_⟩
   have h2 := hl.2.1
   subst hb
   revert hi h2
   generalize lkN L s = v
   intro hi h2
   unfold isAdr at hi
   split at hi
   ·exact h2
   ·exact hi
  ·exact ih hl.2.2 s b hs
theorem RunI.heap {aops : List AO} : ∀ {l : List Nat} {e : Env} {h : Hp} {e' : Env} {h' : Hp}, (∀ j ∈ l, ∀ o, aops[j]? = some o → cls o.op = 0) → RunI P aops l e h e' h' → h' = h := by
 intro l
 induction l with
 | nil => intro e h e' h' _ hr; exact hr.2
 | cons i l ih =>
  intro e h e' h' hc hr
  obtain ⟨o, e1, h1, ho, hs, hr⟩ := hr
  obtain ⟨v, ea, rfl⟩ := hs.1.eff
  have h2 := ea.same (hc i (by simp) o ho)
  subst h2
  exact ih (fun j hj => hc j (by simp [hj])) hr
theorem region_w {Λ : Len} (hΛ : ∀ l, Λ l = (l.length : Int)) {m id b e2 f : Nat} {ops : Array Oper} {aops : List AO} {Q : Post} {L : Lv} {h : Hp} {a : Act} {w : World} {ob : AO} {xs : List X} (hmo : P.follows .mixedOrders = true)
  (hcomp : compOs P ops N ops.toList = some aops) (hg : aops.all (gOk N) = true) (hk : aops.all constOk = true) (hd : drawOk ops.toList aops = true) (hf : Fits N G0 ι0 h0 w0 (lkL L) h a w)
  (hb : aops[b]? = some ob) (hop : ob.op = .call f xs) (hgn : ob.g = none) (hw : wrOk (masks ops.toList []) ops.size b e2 aops = true)
  (hv : vcC P Λ m (.rgw (aops.take b) ob ((aops.drop (b + 1)).take e2) (aops.drop (b + 1 + e2)) (((aops.take b ++ (aops.drop (b + 1)).take e2).flatMap lateS).filter fun s => !(dstsOf (aops.take b ++ (aops.drop (b + 1)).take e2)).contains s)) L h Q) :
  (Code.region id ops true).wpIn (Fen ro) 0 P (out N G0 ι0 h0 w0 Q) a w := by
 have hlen := (compOs_get hcomp).1
 have hbl := get_lt hb
 have hw' := hw
 simp only [wrOk, Bool.and_eq_true, List.all_eq_true, List.mem_range, Bool.or_eq_true, decide_eq_true_eq, beq_iff_eq, Bool.not_eq_true'] at hw'
 obtain ⟨⟨⟨⟨w1, _⟩, _⟩, _⟩, w5⟩ := hw'
 have hsz : ops.size = aops.length := by rw [← hlen]; simp
 have l1 : (aops.take b).length = b := by rw [List.length_take]; omega
 have l2 : ((aops.drop (b + 1)).take e2).length = e2 := by rw [List.length_take, List.length_drop]; omega
 simp only [vcC] at hv
 have take_run : ∀ (xs ys : List AO) (k : Nat) (L : Lv) (h : Hp) (K : Lv → Hp → Prop), (∀ i, i < xs.length → xs[i]? = aops[k + i]?) → k + xs.length ≤ aops.length → runO P m true xs L h K → ∃ L' h', RunI P aops (List.range' k xs.length) (lkL L) h (lkL L') h' ∧ K L' h' := by
  intro xs ys k L h K hx hk hr
  have hx2 : ∀ i, xs[i]? = ((aops.take (k + xs.length)))[k + i]? := fun i => by
   rcases Nat.lt_or_ge i xs.length with hlt | hge
   ·rw [List.getElem?_take_of_lt (by omega), hx i hlt]
   ·rw [List.getElem?_eq_none hge, List.getElem?_eq_none (by simp; omega)]
  obtain ⟨L', h', q1, q2⟩ := runO_run (aops := aops.take (k + xs.length)) xs k L h _ hx2 hr
  exact ⟨L', h', RunI.of_take q1, q2⟩
 obtain ⟨La, ha, r1, hv1⟩ := take_run _ [] 0 L h _ (fun i hi => by rw [l1] at hi; rw [List.getElem?_take_of_lt hi, Nat.zero_add]) (by rw [l1]; omega) (vcOps_runO hΛ hv)
 obtain ⟨Lb, hb', r2, hv2⟩ := take_run _ [] (b + 1) La ha _ (fun i hi => by rw [l2] at hi; rw [List.getElem?_take_of_lt hi, List.getElem?_drop]) (by rw [l2]; omega) (vcOps_runO hΛ hv1)
 rw [l1] at r1
 rw [l2] at r2
 have hmem : ∀ j ∈ List.range' 0 b ++ List.range' (b + 1) e2, ∀ o, aops[j]? = some o → cls o.op = 0 := by
  intro j hj o ho
  refine w1 o ?_
  rcases List.mem_append.1 hj with hj | hj
  ·rw [List.mem_range'_1] at hj
   exact List.mem_append_left _ (List.mem_of_getElem? (i := j) (by rw [List.getElem?_take_of_lt (by omega)]; exact ho))
  ·rw [List.mem_range'_1] at hj
   refine List.mem_append_right _ (List.mem_of_getElem? (i := j - (b + 1)) ?_)
   rw [List.getElem?_take_of_lt (by omega), List.getElem?_drop, show b + 1 + (j - (b + 1)) = j by omega]; exact ho
 have hE := r1.append r2
 have hh := RunI.heap hmem hE
 subst hh
 simp only [vcWr, hop] at hv2
 obtain ⟨R, hfn, hv3⟩ := hv2
 refine region_wr hmo hcomp hg hk hd hf hb hop hgn hw hE hfn fun r h2 hr => ?_
 obtain ⟨hl, hv4⟩ := hv3 r h2 hr
 refine ⟨fun o ho s hs hsd => ?_, ?_⟩
 ·have := lateOk_mem hl s (List.mem_filter.2 ⟨List.mem_flatMap.2 ⟨o, ho, hs⟩, by simpa using hsd⟩)
  rwa [lkN_eq] at this
 ·obtain ⟨Lc, hc, r3, hv5⟩ := take_run _ [] (b + 1 + e2) _ h2 _ (fun i hi => by rw [List.getElem?_drop]) (by rw [List.length_drop]; omega) (vcOps_runO hΛ hv4)
  rw [List.length_drop, ← hsz] at r3
  exact ⟨_, _, r3, fun a w hf => ⟨Lc, hc, hv5, hf⟩⟩
def ChainW (P : Program) (aops : List AO) (late : Nat → List (Nat × Bool)) (Q : Lv → Hp → Prop) : List Nat → Lv → Hp → Prop
 | [], L, h => Q L h
 | b :: r, L, h => ∃ ob, aops[b]? = some ob ∧ ∃ K : AV → Hp → Prop, (∀ (m : Nat) (Le : Lv), (∀ n ∈ slotsOf ob, lkL Le n = lkL L n) → Did P m false ob.op Le h fun L' v h' => L' = Le ∧ K v h') ∧ ∀ v h', K v h' → (readW ob.op = true → h' = h) ∧ lateOT h h' L (late b) ∧ ChainW P aops late Q r (putL L ob.dst v) h'
theorem vcW1_did {Λ : Len} (hΛ : ∀ l, Λ l = (l.length : Int)) {o : AO} {L : Lv} {h : Hp} {K : AV → Hp → Prop} (hv : vcW1 P Λ o L h K) : ∀ (m : Nat) (Le : Lv), (∀ n ∈ slotsOf o, lkL Le n = lkL L n) → Did P m false o.op Le h fun L' v h' => L' = Le ∧ K v h' ∧ (readW o.op = true → h' = h) := by
 intro m Le hs
 have hx : ∀ x ∈ xsOf o.op, ev (lkL L) x = ev (lkL Le) x := fun x hx => ev_of_slots fun n hn => (hs n (by
  simp only [slotsOf, List.mem_append, List.mem_flatMap]; exact .inr ⟨x, hx, hn⟩)).symm
 have main : ∀ (op : AOp), o.op = op → (∀ f xs, op ≠ .call f xs) → (∀ x xs, op ≠ .callv x xs) → vcOp0 P Λ 0 true op L h (fun _ v h' => K v h') → Did P m false op Le h fun L' v h' => L' = Le ∧ K v h' ∧ (readW op = true → h' = h) := by
  intro op hop n1 n2 hv
  rw [hop] at hx
  have hd := vcOp0_sound hΛ hv
  cases hd with
  | wk hd => cases hd
  | step v h' hst _ hk =>
   refine .step v h' ?_ (fun h => by cases h) ⟨rfl, hk, fun hrd => ?_⟩
   rotate_left
   ·have hc0 : cls op = 0 := by cases op <;> first | rfl | cases hrd
    exact (astep_agree (h' := h) hc0 (fun x _ => by
     cases ev (lkL L) x with
     | c y => exact agreeC_refl _ y
     | agg l => exact fun y _ => agreeC_refl _ y
     | tup => trivial) (fun _ _ _ => .inr (sameAm.refl _)) hst).1
   rw [← astep_congr (op := op) hx]; exact hst
  | call f xs ho => exact absurd ho (n1 f xs)
  | len x sz l ho hd => cases hd
  | lenA x l v i n ho hd => cases hd
  | nil ne x nl sz l ho hd => cases hd
  | callv x xs b f caps ho => exact absurd ho (n2 x xs)
  | yl x xs l ho => exact absurd ho (n2 x xs)
  | ivk rows x xs b t caps g k pv rv ho hd => cases hd
  | ar K0 hd => cases hd
 have arena : ∀ (op : AOp), o.op = op → arW L op = true → vAr op L h K → Did P m false op Le h fun L' v h' => L' = Le ∧ K v h' ∧ (readW op = true → h' = h) := by
  intro op hop har hv
  rw [hop] at hx
  have hxn : ∀ x ∈ xsOf op, evN L x = evN Le x := fun x hx' => by rw [evN_eq, evN_eq]; exact hx x hx'
  cases op with
  | ias sz x i =>
   refine .ar (fun v h' => h' = h ∧ K v h') rfl ?_ fun v h' hk => ⟨rfl, hk.2, fun _ => hk.1⟩
   simp only [vAr] at hv ⊢
   rw [← hxn x (by simp [xsOf]), ← hxn i (by simp [xsOf])]
   split at hv
   ·split at hv
    ·exact ⟨hv.1, fun p hp => ⟨by trivial, hv.2 p hp⟩⟩
    ·exact hv
   ·exact hv
  | fa x n =>
   refine .ar K rfl ?_ fun v h' hk => ⟨rfl, hk, fun hrd => by cases hrd⟩
   simp only [vAr] at hv ⊢
   rw [← hxn x (by simp [xsOf])]; exact hv
  | nilc x =>
   refine .ar K rfl ?_ fun v h' hk => ⟨rfl, hk, fun hrd => by cases hrd⟩
   simp only [vAr] at hv ⊢
   rw [← hxn x (by simp [xsOf])]; exact hv
  | iaa n sz x i =>
   refine .ar K rfl ?_ fun v h' hk => ⟨rfl, hk, fun hrd => by cases hrd⟩
   cases i with
   | t i =>
    simp only [vAr] at hv ⊢
    have hi : lkN L i = lkN Le i := hxn (.t i) (by simp [xsOf])
    rw [← hxn x (by simp [xsOf]), ← hi]; exact hv
   | k c => exact hv.elim
  | ld x n =>
   refine .ar K rfl ?_ fun v h' hk => ⟨rfl, hk, fun hrd => by cases hrd⟩
   simp only [vAr] at hv ⊢
   rw [← hxn x (by simp [xsOf])]; exact hv
  | st x v n =>
   refine .ar K rfl ?_ fun v h' hk => ⟨rfl, hk, fun hrd => by cases hrd⟩
   simp only [vAr] at hv ⊢
   rw [← hxn x (by simp [xsOf]), ← hxn v (by simp [xsOf])]; exact hv
  | _ => cases har
 have bslD : ∀ sz z n ps, o.op = .bsl sz z n ps → vcOp0 P Λ 0 false (.bsl sz z n ps) L h (fun _ v h' => K v h') → Did P m false (.bsl sz z n ps) Le h fun L' v h' => L' = Le ∧ K v h' ∧ (readW (.bsl sz z n ps) = true → h' = h) := by
  intro sz z n ps hop hv
  rw [hop] at hx
  simp only [vcOp0] at hv
  split at hv
  ·rename_i as h1 he
   split at hv
   ·rename_i es hf
    refine .step _ _ ?_ (fun h => by cases h) ⟨rfl, hv.2.2, fun hrd => by cases hrd⟩
    rw [← astep_congr (op := .bsl sz z n ps) hx]
    rw [lkN_fun] at he
    simp only [astep, he, hf]
    rw [if_pos hv.2.1]
   ·exact hv.elim
  ·exact hv.elim
 unfold vcW1 at hv
 split at hv
 ·rename_i f xs hop
  obtain ⟨R, h1, h2⟩ := hv
  rw [hop] at hx ⊢
  refine .call f xs rfl (.fn ?_)
  rw [evsN_eq] at h1 ⊢
  rw [← evs_congr (e := lkL L) (xs := xs) hx]
  exact h1.mono fun r h' hr => ⟨rfl, h2 r h' hr, fun hrd => by cases hrd⟩
 ·rename_i x xs hop
  split at hv
  ·rename_i b f caps hxv
   split at hv
   rotate_left
   ·exact hv.elim
   rename_i hlt
   obtain ⟨hfo, R, h1, h2⟩ := hv
   rw [hop] at hx ⊢
   refine .callv x xs b f caps rfl rfl ?_ hlt hfo (.fn ?_)
   ·rw [← hx x (by simp [xsOf]), ← evN_eq]; exact hxv
   ·rw [evsN_eq] at h1 ⊢
    rw [← evs_congr (e := lkL L) (xs := xs) fun y hy => hx y (by simp [xsOf, hy])]
    exact h1.mono fun r h' hr => ⟨rfl, h2 r h' hr, fun hrd => by cases hrd⟩
  ·exact hv.elim
 ·rename_i sz z n ps hop
  rw [hop]
  exact bslD sz z n ps hop hv
 ·rename_i sz bytes z x y hop
  have hxn : ∀ w ∈ xsOf (.app sz bytes z x y), evN L w = evN Le w := fun w hw => by rw [evN_eq, evN_eq]; exact hx w (by rw [hop]; exact hw)
  have ar : vAr (.app sz bytes z x y) L h K → Did P m false (.app sz bytes z x y) Le h fun L' v h' => L' = Le ∧ K v h' ∧ (readW (.app sz bytes z x y) = true → h' = h) := fun hv => by
   refine .ar K rfl ?_ fun v h' hk => ⟨rfl, hk, fun hrd => by cases hrd⟩
   simp only [vAr] at hv ⊢
   rw [← hxn x (by simp [xsOf]), ← hxn y (by simp [xsOf])]; exact hv
  rw [hop]
  split at hv
  ·exact ar hv
  ·rcases hv with hv | hv
   ·exact main _ hop (fun f xs e => by cases e) (fun x xs e => by cases e) (hv ())
   ·exact ar (hv ())
  ·exact main _ hop (fun f xs e => by cases e) (fun x xs e => by cases e) hv
 ·rename_i n1 n2 n3 n4
  split at hv
  ·rename_i har
   exact arena _ rfl har hv
  ·exact main _ rfl (fun f xs e => n1 f xs e) (fun x xs e => n2 x xs e) hv
theorem getA_get {aops : List AO} : ∀ {is : List Nat}, (∀ i ∈ is, i < aops.length) → ∀ {i : Nat} {r : List Nat}, is = i :: r → ∃ o, aops[i]? = some o ∧ getA aops is = o :: getA aops r := by
 rintro is hl i r rfl
 have := hl i (by simp)
 refine ⟨_, List.getElem?_eq_getElem this, ?_⟩
 simp [getA, List.getElem?_eq_getElem this]
theorem vcWs_chain {Λ : Len} (hΛ : ∀ l, Λ l = (l.length : Int)) {aops : List AO} {late : Nat → List (Nat × Bool)} {Q : Lv → Hp → Prop} : ∀ (is : List Nat) (L : Lv) (h : Hp), (∀ i ∈ is, i < aops.length) → vcWs P Λ (getA aops is) (is.map late) L h Q → ChainW P aops late Q is L h := by
 intro is
 induction is with
 | nil => intro L h _ hv; exact hv
 | cons b r ih =>
  intro L h hl hv
  obtain ⟨ob, h1, h2⟩ := getA_get hl rfl
  rw [h2] at hv
  exact ⟨ob, h1, _, vcW1_did hΛ hv, fun v h' hk => ⟨hk.2, hk.1.1, ih _ _ (fun i hi => hl i (by simp [hi])) hk.1.2⟩⟩
theorem runO_idx {aops : List AO} {m : Nat} : ∀ (is : List Nat) (L : Lv) (h : Hp) (K : Lv → Hp → Prop), (∀ i ∈ is, i < aops.length) → runO P m true (getA aops is) L h K →
  ∃ L' h', RunI P aops is (lkL L) h (lkL L') h' ∧ K L' h' := by
 intro is
 induction is with
 | nil => intro L h K _ hv; exact ⟨L, h, ⟨rfl, rfl⟩, hv⟩
 | cons i is ih =>
  intro L h K hl hv
  obtain ⟨o, hoi, hg⟩ := getA_get hl rfl
  rw [hg] at hv
  obtain ⟨L1, h1, hr1, hk1⟩ := runO_run (aops := [o]) (m := m) [o] 0 L h (fun L' h' => runO P m true (getA aops is) L' h' K) (fun i => by simp) (by
   rcases hv with ⟨g, hd⟩ | ⟨g, hd⟩
   ·exact .inl ⟨g, hd⟩
   ·exact .inr ⟨g, hd⟩)
  obtain ⟨L2, h2, hr2, hk2⟩ := ih L1 h1 K (fun i hi => hl i (by simp [hi])) hk1
  obtain ⟨o', e1, h1', ho', hs, he⟩ := hr1
  obtain ⟨e, e'⟩ := he
  simp only [List.getElem?_cons_zero, Option.some.injEq] at ho'
  subst ho' e'
  rw [← e] at hs
  exact ⟨L2, h2, ⟨o, _, _, hoi, hs, hr2⟩, hk2⟩
theorem region_ch {id c : Nat} {ops : Array Oper} {aops : List AO} {Q : Exit → Act → World → Prop} {L L1 : Lv} {h : Hp} {a : Act} {w : World} {QL : Lv → Hp → Prop} (hmo : P.follows .mixedOrders = true)
  (hcomp : compOs P ops N ops.toList = some aops) (hg : aops.all (gOk N) = true) (hk : aops.all constOk = true) (hch : chOk (masks ops.toList []) ops.size c aops = true) (hore : ordE (masks ops.toList []) ops.size c aops = true) (hdir : dirOk ops.toList = true) (hf : Fits N G0 ι0 h0 w0 (lkL L) h a w)
  (hE : RunI P aops (idxE (masks ops.toList []) ops.size c) (lkL L) h (lkL L1) h)
  (hW : ChainW P aops (lateAt (masks ops.toList []) ops.size c aops) QL (idxW (masks ops.toList []) ops.size c) L1 h)
  (hQ : ∀ L h a w, QL L h → Fits N G0 ι0 h0 w0 (lkL L) h a w → Q .normal a w) : (Code.region id ops true).wpIn (Fen ro) 0 P Q a w := by
 simp only [chOk, Bool.and_eq_true, List.all_eq_true, Bool.or_eq_true, decide_eq_true_eq] at hch
 obtain ⟨⟨⟨c1, c2⟩, c3⟩, c4⟩ := hch
 generalize hlt0 : lateAt (masks ops.toList []) ops.size c aops = lt at *
 generalize hes : getA aops (idxE (masks ops.toList []) ops.size c) = es at *
 have hlen := (compOs_get hcomp).1
 have hsz : ops.size = aops.length := by rw [← hlen]; simp
 have memE : ∀ i, i ∈ idxE (masks ops.toList []) ops.size c ↔ i < ops.size ∧ isW (masks ops.toList []) c i = false := fun i => by simp [idxE]
 have memW : ∀ i, i ∈ idxW (masks ops.toList []) ops.size c ↔ i < ops.size ∧ isW (masks ops.toList []) c i = true := fun i => by simp [idxW]
 have hes' : ∀ i o, i ∈ idxE (masks ops.toList []) ops.size c → aops[i]? = some o → o ∈ es := fun i o hi ho => by
  rw [← hes]; exact List.mem_filterMap.2 ⟨i, hi, ho⟩
 have hd1 : ∀ i o, ops.toList[i]? = some o → ∀ j ∈ direct o, j < i := by
  intro i o ho j hj
  simp only [dirOk, List.all_eq_true, List.mem_range] at hdir
  have := hdir i (get_lt ho)
  rw [ho] at this
  simp only [List.all_eq_true, decide_eq_true_eq] at this
  exact this j hj
 have hempty : ∀ listed rem, Rem ops listed rem → Region.ready .any ops listed = [] → rem = [] := by
  intro listed rem hr hready
  cases rem with
  | nil => rfl
  | cons i rem =>
   exfalso
   have hi := (hr.mem i).1 (by simp)
   have ho : ops.toList[i]? = some (ops.toList[i]'(by simpa using hi.1)) := List.getElem?_eq_getElem _
   have : i ∈ Region.ready .any ops listed := by
    rw [ready_mem]
    refine ⟨hi.1, hi.2, _, ho, fun m hm => ?_⟩
    have hmi := hd1 i _ ho m hm
    have hnot : m ∉ i :: rem := by
     intro hmem
     simp only [List.mem_cons] at hmem
     rcases hmem with h | h
     ·omega
     ·have := (List.pairwise_cons.1 hr.sorted).1 m h; omega
    have hms : m < ops.size := by omega
    have : ¬ (listed.getD m true = false) := fun hf => hnot ((hr.mem m).2 ⟨hms, hf⟩)
    simp only [Array.getD_eq_getD_getElem?, Array.getElem?_eq_getElem (show m < listed.size by rw [hr.size]; exact hms), Option.getD_some] at this ⊢
    simpa using this
   rw [hready] at this
   cases this
 have hdone : ∀ listed rem i o j, Rem ops listed rem → Closed ops listed → ops.toList[i]? = some o → (∀ m ∈ direct o, listed.getD m false = true) → ((masks ops.toList []).getD i 0).testBit j = true → j ∈ rem → False := by
  intro listed rem i o j hr hc ho hdir hb hj
  have := before_listed hr.size hc i o j ho hdir hb
  have hj' := (hr.mem j).1 hj
  simp only [Array.getD_eq_getD_getElem?, Array.getElem?_eq_getElem (show j < listed.size by rw [hr.size]; exact hj'.1), Option.getD_some] at this hj'
  rw [this] at hj'; simp at hj'
 have claim : ∀ (fuel : Nat) (listed : Array Bool) (rem : List Nat) (Le L : Lv) (h : Hp) (a : Act) (w : World), Rem ops listed rem → rem.length ≤ fuel → Closed ops listed → Fits N G0 ι0 h0 w0 (lkL Le) h a w →
   RunI P aops (rem.filter fun i => !isW (masks ops.toList []) c i) (lkL Le) h (lkL L) h → (∀ s, s ∉ dstsOf es → lkL Le s = lkL L s) →
   ChainW P aops lt QL (rem.filter fun i => isW (masks ops.toList []) c i) L h → wpAnyIn (Fen ro) 0 P .any ops Q fuel listed a w := by
  intro fuel
  have stop : ∀ (listed : Array Bool) (Le L : Lv) (h : Hp) (a : Act) (w : World), Fits N G0 ι0 h0 w0 (lkL Le) h a w → RunI P aops (List.filter (fun i => !isW (masks ops.toList []) c i) []) (lkL Le) h (lkL L) h →
    ChainW P aops lt QL (List.filter (fun i => isW (masks ops.toList []) c i) []) L h → Q .normal a w := by
   intro listed Le L h a w hf hrun hw
   obtain ⟨e, _⟩ := hrun
   exact hQ L h a w hw (by rw [e]; exact hf)
  induction fuel with
  | zero =>
   intro listed rem Le L h a w hr hl hc hf hrun hee hw
   obtain rfl : rem = [] := List.eq_nil_of_length_eq_zero (by omega)
   refine ⟨?_, stop listed Le L h a w hf hrun hw⟩
   apply List.eq_nil_iff_forall_not_mem.2
   intro i hi
   rw [ready_mem] at hi
   have := (hr.mem i).2 ⟨hi.1, hi.2.1⟩
   cases this
  | succ fuel ih =>
   intro listed rem Le L h a w hr hl hc hf hrun hee hw
   refine ⟨fun hready => ?_, fun i hi => ?_⟩
   ·obtain rfl := hempty listed _ hr hready
    exact stop listed Le L h a w hf hrun hw
   ·rw [ready_mem] at hi
    obtain ⟨hin, hil, o, ho, hdr⟩ := hi
    have himem := (hr.mem i).2 ⟨hin, hil⟩
    have hoi : ops[i]? = some o := by simpa using ho
    obtain ⟨l1, l2, rfl⟩ := List.append_of_mem himem
    have hpair := hr.sorted
    rw [List.pairwise_append] at hpair
    have hl1 : ∀ j ∈ l1, j < i := fun j hj => hpair.2.2 j hj i (by simp)
    have hrm : ∀ j, j ∈ l1 ++ i :: l2 → j < ops.size := fun j hj => ((hr.mem j).1 hj).1
    have hnb : ∀ j, j ∈ l1 ++ i :: l2 → ¬ ((masks ops.toList []).getD i 0).testBit j = true := fun j hj hb => hdone listed _ i o j hr hc ho hdr hb hj
    obtain ⟨hr2, hc2⟩ := rem_step hr hc hin ho hdr hd1
    cases hwi : isW (masks ops.toList []) c i with
    | false =>
     have fe : List.filter (fun i => !isW (masks ops.toList []) c i) (l1 ++ i :: l2) = List.filter (fun i => !isW (masks ops.toList []) c i) l1 ++ i :: List.filter (fun i => !isW (masks ops.toList []) c i) l2 := by
      rw [List.filter_append, List.filter_cons]; simp [hwi]
     have fw : List.filter (fun i => isW (masks ops.toList []) c i) (l1 ++ i :: l2) = List.filter (fun i => isW (masks ops.toList []) c i) (l1 ++ l2) := by
      rw [List.filter_append, List.filter_cons, List.filter_append]; simp [hwi]
     have hiE := (memE i).2 ⟨hin, hwi⟩
     have hcompat : ∀ j ∈ List.filter (fun i => !isW (masks ops.toList []) c i) l1, ∀ x y, aops[j]? = some x → aops[i]? = some y → compat x y = true := by
      intro j hj x y hx hy
      obtain ⟨hj1, hj2⟩ := List.mem_filter.1 hj
      have hjE := (memE j).2 ⟨hrm j (by simp [hj1]), by simpa using hj2⟩
      rcases c3 j hjE i hiE with (h1 | h1) | h1
      ·have := hl1 j hj1; omega
      ·exact (hnb j (by simp [hj1]) h1).elim
      ·rw [hx, hy] at h1; exact h1
     rw [fe] at hrun
     rw [fw] at hw
     obtain ⟨ao, e1, h1, hao, hstep, hrest⟩ := front hcomp hk _ i _ _ h _ _ a w hf hcompat hrun
     have hco := (compOs_get hcomp).2 i o ao ho hao
     have hgo := gOk_spec (N := N) (by rw [List.all_eq_true] at hg; exact hg ao (List.mem_of_getElem? hao))
     have hz : cls ao.op = 0 := by have := c2 i hiE; rw [hao] at this; simpa using this
     obtain ⟨va, ea, rfl⟩ := hstep.1.eff
     have := ea.same hz
     subst this
     unfold wpOpIn
     simp only [hoi]
     refine step_sound hco hgo hstep.1 hf fun a' w' hf' => ih (listed.setIfInBounds i true) (l1 ++ l2) (putL Le ao.dst va) L _ a' w' hr2 (by simp at hl ⊢; omega) hc2 (by rw [putL_eq]; exact hf') ?_ (fun s hs => ?_) hw
     ·rw [putL_eq, List.filter_append]; exact hrest
     ·rw [putL_eq, putE_other fun hd => hs (by simp only [dstsOf, List.mem_filterMap]; exact ⟨ao, hes' i ao hiE hao, hd⟩)]; exact hee s hs
    | true =>
     have fe : List.filter (fun i => !isW (masks ops.toList []) c i) (l1 ++ i :: l2) = List.filter (fun i => !isW (masks ops.toList []) c i) (l1 ++ l2) := by
      rw [List.filter_append, List.filter_cons, List.filter_append]; simp [hwi]
     have hiW := (memW i).2 ⟨hin, hwi⟩
     have fw : List.filter (fun i => isW (masks ops.toList []) c i) (l1 ++ i :: l2) = i :: List.filter (fun i => isW (masks ops.toList []) c i) (l1 ++ l2) := by
      have : List.filter (fun i => isW (masks ops.toList []) c i) l1 = [] := by
       rw [List.filter_eq_nil_iff]
       intro j hj hwj
       have hjW := (memW j).2 ⟨hrm j (by simp [hj]), hwj⟩
       rcases (c1 i hiW).1 j hjW with h1 | h1
       ·have := hl1 j hj; omega
       ·exact hnb j (by simp [hj]) h1
      rw [List.filter_append, List.filter_cons, List.filter_append, this]; simp [hwi]
     rw [fe] at hrun
     rw [fw] at hw
     obtain ⟨ob, hob, K, hdid, hnext⟩ := hw
     have hgn : ob.g = none := by have := (c1 i hiW).2; rw [hob] at this; simpa using this
     have hco := (compOs_get hcomp).2 i o ob ho hob
     have hgo : gOk N ob = true := by rw [List.all_eq_true] at hg; exact hg ob (List.mem_of_getElem? hob)
     have hpend : ∀ j ∈ List.filter (fun i => !isW (masks ops.toList []) c i) (l1 ++ l2), ∀ oj, aops[j]? = some oj → oj ∈ es ∧ cls oj.op = 0 ∧ ((∀ x, oj.dst = some x → x ∉ slotsOf ob ∧ ob.dst ≠ some x) ∧ (∀ x, ob.dst = some x → x ∉ slotsOf oj)) ∧ (lateB2 oj = true ∨ readW ob.op = true) ∧ ∀ s ∈ lateS2 oj, (s, isLdO oj.op) ∈ lt i := by
      intro j hj oj hoj
      obtain ⟨hj1, hj2⟩ := List.mem_filter.1 hj
      have hjr : j ∈ l1 ++ i :: l2 := by
       rcases List.mem_append.1 hj1 with h | h
       ·exact List.mem_append_left _ h
       ·exact List.mem_append_right _ (List.mem_cons_of_mem _ h)
      have hjE := (memE j).2 ⟨hrm j hjr, by simpa using hj2⟩
      refine ⟨hes' j oj hjE hoj, by have := c2 j hjE; rw [hoj] at this; simpa using this, ?_⟩
      rcases c4 j hjE i hiW with h1 | h1
      ·exact (hnb j hjr h1.2).elim
      ·have hlts : ∀ s ∈ lateS2 oj, (s, isLdO oj.op) ∈ lt i := fun s hs => by
        rw [← hlt0, lateAt]
        refine List.mem_flatMap.2 ⟨oj, List.mem_filterMap.2 ⟨j, List.mem_filter.2 ⟨hjE, ?_⟩, hoj⟩, List.mem_map.2 ⟨s, hs, rfl⟩⟩
        simp only [Bool.not_eq_true', Bool.eq_false_iff, ne_eq, Bool.and_eq_true, decide_eq_true_eq]
        exact fun hall => hnb j hjr hall.2
       rw [hoj, hob] at h1
       simp only [indepB, Bool.and_eq_true, Bool.or_eq_true] at h1
       obtain ⟨⟨h2, h3⟩, h4⟩ := h1
       refine ⟨⟨fun x hx => ?_, fun x hx => ?_⟩, h4, hlts⟩
       ·rw [hx] at h2
        simp only [Bool.and_eq_true, Bool.not_eq_true', bne_iff_ne] at h2
        exact ⟨by simpa using h2.1, h2.2⟩
       ·rw [hx] at h3
        simpa using h3
     have hslots : ∀ n ∈ slotsOf ob, lkL Le n = lkL L n := fun n hn => by
      refine (RunI.slot (fun j hj oj hoj hd => ?_) hrun).symm
      exact ((hpend j hj oj hoj).2.2.1.1 n hd).1 hn
     have hone : runO P h0.length false [ob] Le h fun L' h' => ∃ v, L' = putL Le ob.dst v ∧ K v h' := by
      refine .inl ⟨by rw [hgn]; rfl, ?_⟩
      refine (hdid _ Le hslots).mono fun L' v h' hk => ?_
      obtain ⟨rfl, hk⟩ := hk
      exact ⟨v, rfl, hk⟩
     refine op_wp (Nat.le_refl _) hoi hco hgo hone hf fun L' h' a' w' ⟨v, e, hk⟩ hf' => ?_
     subst e
     obtain ⟨hsm, hlt, hrest⟩ := hnext v h' hk
     refine ih (listed.setIfInBounds i true) (l1 ++ l2) (putL Le ob.dst v) (putL L ob.dst v) h' a' w' hr2 (by simp at hl ⊢; omega) hc2 hf' ?_ (fun s hs => ?_) hrest
     ·rw [putL_eq, putL_eq]
      refine RunI.late2 (fun j hj oj hoj => ?_) (List.Pairwise.filter _ hr2.sorted) (fun i2 hi2 o2 ho2 s hs2 j2 hj2 hle o3 ho3 => ?_) hrun
      ·obtain ⟨z1, z2, z3, z4⟩ := hpend j hj oj hoj
       refine ⟨z2, z4.1.imp (fun h => h) hsm, z3.2, fun x hx => (z3.1 x hx).2, fun s hs => ?_⟩
       have := lateOT_mem hlt s _ (z4.2 s hs)
       rwa [lkN_eq] at this
      ·obtain ⟨m1, m2⟩ := List.mem_filter.1 hi2
       obtain ⟨n1, n2⟩ := List.mem_filter.1 hj2
       have hmr : ∀ x, x ∈ l1 ++ l2 → x ∈ l1 ++ i :: l2 := fun x hx => by
        rcases List.mem_append.1 hx with h | h
        ·exact List.mem_append_left _ h
        ·exact List.mem_append_right _ (List.mem_cons_of_mem _ h)
       have hiE := (memE i2).2 ⟨hrm i2 (hmr i2 m1), by simpa using m2⟩
       have hjE := (memE j2).2 ⟨hrm j2 (hmr j2 n1), by simpa using n2⟩
       simp only [ordE, List.all_eq_true, Bool.or_eq_true, decide_eq_true_eq] at hore
       rcases hore i2 hiE j2 hjE with h | h
       ·omega
       ·rw [ho2, ho3] at h
        simp only [List.all_eq_true, bne_iff_ne, ne_eq] at h
        exact h s hs2
     ·rw [putL_eq, putL_eq]
      cases hd : ob.dst with
      | none => exact hee s hs
      | some d =>
       by_cases e : d = s
       ·subst e; simp [putE, upd]
       ·rw [putE_other (by simpa using e), putE_other (by simpa using e)]; exact hee s hs
 refine wpIn_region_any hmo (claim ops.size (Array.replicate ops.size false) (List.range ops.size) L L1 h a _ ?_ ?_ ?_ (hf.same_heap rfl) hE ?_ hW)
 ·refine ⟨by simp, fun i => ?_, List.pairwise_lt_range⟩
  simp only [List.mem_range, Array.getD_eq_getD_getElem?, Array.getElem?_replicate]
  constructor
  ·intro hi; exact ⟨hi, by simp [hi]⟩
  ·exact fun hi => hi.1
 ·simp
 ·intro i o ho hl
  have hi : i < ops.size := by simpa using get_lt ho
  simp [Array.getD_eq_getD_getElem?, hi] at hl
 ·intro s hs
  refine (RunI.slot (fun j hj oj hoj hd => hs ?_) hE).symm
  simp only [dstsOf, List.mem_filterMap]
  exact ⟨oj, hes' j oj hj hoj, hd⟩
theorem region_rgc {Λ : Len} (hΛ : ∀ l, Λ l = (l.length : Int)) {m id c : Nat} {ops : Array Oper} {aos : List AO} {Q : Post} {L : Lv} {h : Hp} {a : Act} {w : World} (hm : P.follows .mixedOrders = true)
  (haos : compOs P ops N ops.toList = some aos) (k1 : aos.all (gOk N) = true) (hcc : (chOk (masks ops.toList []) ops.size c aos && ordE (masks ops.toList []) ops.size c aos) = true ∧ dirOk ops.toList = true ∧ aos.all constOk = true) (hf : Fits N G0 ι0 h0 w0 (lkL L) h a w)
  (hv : vcC P Λ m (.rgc (getA aos (idxE (masks ops.toList []) ops.size c)) (getA aos (idxW (masks ops.toList []) ops.size c)) ((idxW (masks ops.toList []) ops.size c).map (lateAt (masks ops.toList []) ops.size c aos))) L h Q) :
  (Code.region id ops true).wpIn (Fen ro) 0 P (out N G0 ι0 h0 w0 Q) a w := by
 obtain ⟨hc1, hc2⟩ := Bool.and_eq_true _ _ ▸ hcc.1
 have hlen := (compOs_get haos).1
 have hsz : ops.size = aos.length := by rw [← hlen]; simp
 simp only [vcC] at hv
 obtain ⟨L1, h1, hr, hv2⟩ := runO_idx (aops := aos) _ L h _ (fun i hi => by
  have := (List.mem_filter.1 hi).1; rw [List.mem_range] at this; omega) (vcOps_runO hΛ hv)
 have hh := RunI.heap (fun j hj o ho => by
  have := hc1
  simp only [chOk, Bool.and_eq_true, List.all_eq_true] at this
  have := this.1.1.2 j hj
  rw [ho] at this
  simpa using this) hr
 subst hh
 exact region_ch hm haos k1 hcc.2.2 hc1 hc2 hcc.2.1 hf hr (vcWs_chain hΛ _ _ _ (fun i hi => by
  have := (List.mem_filter.1 hi).1; rw [List.mem_range] at this; omega) hv2) fun L h a w hq hf => ⟨L, h, hq, hf⟩
theorem vcC_core {Λ : Len} (hΛ : ∀ l, Λ l = (l.length : Int)) {m : Nat} (hm : P.follows .mixedOrders = true) (hm0 : h0.length ≤ m) {rf : Bool} (hrf : ∀ (g : Operand) (ps : Array Tmp) (x y : Code) (ac : AC) (L : Lv) (h : Hp) (Q : Post) (a : Act) (w : World), compX P N rf (.rangeFunc g ps x y) = some ac → vcC P Λ m ac L h Q → Fits N G0 ι0 h0 w0 (lkL L) h a w → (Code.rangeFunc g ps x y).wpIn (Fen ro) 0 P (out N G0 ι0 h0 w0 Q) a w) :
  ∀ (c : Code) (ac : AC) (L : Lv) (h : Hp) (Q : Post) (a : Act) (w : World), compX P N rf c = some ac → vcC P Λ m ac L h Q →
  Fits N G0 ι0 h0 w0 (lkL L) h a w → c.wpIn (Fen ro) 0 P (out N G0 ι0 h0 w0 Q) a w := by
 intro c
 induction c with
 | skip =>
  intro ac L h Q a w hc hv hf
  simp only [compX, Option.some.injEq] at hc; subst hc
  exact wpIn_skip ⟨L, h, hv, hf⟩
 | label l =>
  intro ac L h Q a w hc hv hf
  simp only [compX, Option.some.injEq] at hc; subst hc
  exact wpIn_label ⟨L, h, hv, hf⟩
 | region id ops draw =>
  intro ac L h Q a w hc hv hf
  simp only [compX] at hc
  split at hc
  ·rename_i aos haos
   split at hc
   ·rename_i hcond
    cases hc
    cases draw with
    | false =>
     refine wpIn_region ?_
     rw [List.range_eq_range']
     have := region_seq (ro := ro) (ops := ops) (Q := out N G0 ι0 h0 w0 Q) hm0 ops.toList aos 0 L h _ a w (by simp) haos hcond.1 (vcOps_runO hΛ hv) hf (fun L' h' a' w' hk hf' => ⟨L', h', hk, hf'⟩)
     simpa using this
    | true =>
     have old : vcC P Λ m (acDraw ops aos) L h Q → (Code.region id ops true).wpIn (Fen ro) 0 P (out N G0 ι0 h0 w0 Q) a w := fun hv =>
      region_segs (S := fun ac L h Q => vcC P Λ m ac L h Q) hm hm0 (fun _ _ _ _ _ h => h) (fun _ _ _ _ _ h => vcOps_runO hΛ h) haos hcond.1 (hcond.2 rfl).1 (hcond.2 rfl).2 hf hv
     suffices hold : vcC P Λ m (acDrawW P ops aos) L h Q → (Code.region id ops true).wpIn (Fen ro) 0 P (out N G0 ι0 h0 w0 Q) a w by
      simp only [acDraw5] at hv
      split at hv
      ·split at hv
       ·rename_i c hc
        split at hv
        ·rename_i hcc
         exact region_rgc hΛ hm haos hcond.1 hcc hf hv
        ·exact hold hv
       ·exact hold hv
      ·exact hold hv
     intro hv
     simp only [acDrawW] at hv
     split at hv
     ·rename_i b hfw
      split at hv
      ·rename_i o ho
       split at hv
       ·rename_i hwr
        obtain ⟨_, o', f, xs, p1, p2, p3⟩ := findW_spec hfw
        rw [Nat.sub_zero, ho] at p1
        cases p1
        exact region_w hΛ hm haos hcond.1 (hcond.2 rfl).1 (hcond.2 rfl).2 hf ho p2 p3 hwr hv
       ·exact old hv
      ·exact old hv
     ·exact old hv
   ·split at hc
    ·rename_i hcond
     cases hc
     obtain ⟨rfl, k1, k2, k3⟩ := hcond
     have old : vcC P Λ m (acDraw3 ops aos) L h Q → (Code.region id ops true).wpIn (Fen ro) 0 P (out N G0 ι0 h0 w0 Q) a w := fun hv =>
      region_segs3 (S := fun ac L h Q => vcC P Λ m ac L h Q) hm hm0 (fun _ _ _ _ _ h => h) (fun _ _ _ _ _ h => vcOps_runO hΛ h) (fun _ _ _ _ _ _ h => vcF3_runF hΛ h) haos k1 k2 k3 hf hv
     unfold acDraw4 at hv
     split at hv
     ·rename_i c hc
      split at hv
      ·rename_i hcc
       exact region_rgc hΛ hm haos k1 hcc hf hv
      ·exact old hv
     ·exact old hv
    ·cases hc
  ·cases hc
 | seq x y ihx ihy =>
  intro ac L h Q a w hc hv hf
  simp only [compX] at hc
  split at hc
  ·rename_i cx' cy' hx hy
   cases hc
   refine wpIn_seq (wpIn_mono (ihx cx' L h _ a w hx hv hf) fun e a' w' ⟨L', h', hq, hf'⟩ => ?_)
   cases e with
   | normal => exact ihy cy' L' h' Q a' w' hy hq hf'
   | exit i => exact ⟨L', h', hq, hf'⟩
   | ret => exact ⟨L', h', hq, hf'⟩
   | goto => exact hq.elim
   | panic => exact hq.elim
   | outgrown => exact hq.elim
  ·cases hc
 | cond c x y ihx ihy =>
  intro ac L h Q a w hc hv hf
  simp only [compX] at hc
  split at hc
  ·rename_i c' cx' cy' hcc hx hy
   cases hc
   simp only [vcC] at hv
   split at hv
   ·rename_i t ht
    obtain ⟨G, ι, st⟩ := hf
    have hr := cx_sound hcc st.rel
    rw [evN_eq] at ht
    rw [ht] at hr
    have he := inv_bool hr
    cases t with
    | true => exact wpIn_cond_true he (ihx cx' L h Q a w hx hv ⟨G, ι, st⟩)
    | false => exact wpIn_cond_false he (ihy cy' L h Q a w hy hv ⟨G, ι, st⟩)
   ·exact hv.elim
  ·cases hc
 | block id c ih =>
  intro ac L h Q a w hc hv hf
  simp only [compX] at hc
  split at hc
  ·rename_i c' hcc
   cases hc
   refine wpIn_block (wpIn_mono (ih c' L h _ a w hcc hv hf) fun e a' w' ⟨L', h', hq, hf'⟩ => ?_)
   cases e with
   | normal => exact ⟨L', h', hq, hf'⟩
   | ret => exact ⟨L', h', hq, hf'⟩
   | exit i =>
    simp only [exq] at hq
    simp only [Exit.inBlock]
    split at hq
    ·rename_i hb
     have : i = id := Nat.eq_of_beq_eq_true hb
     rw [if_pos this]; exact ⟨L', h', hq, hf'⟩
    ·rename_i hb
     have : ¬ i = id := fun e => by subst e; simp at hb
     rw [if_neg this]; exact ⟨L', h', hq, hf'⟩
   | goto => exact hq.elim
   | panic => exact hq.elim
   | outgrown => exact hq.elim
  ·cases hc
 | loop c ih =>
  intro ac L h Q a w hc hv hf
  simp only [compX] at hc
  split at hc
  ·rename_i c' hcc
   cases hc
   simp only [vcC] at hv
   obtain ⟨I, n, L1, h1, hwk, hstart, hround⟩ := hv
   refine wp_loop_ghost (fun n a w => ∃ L h, I n L h ∧ Fits N G0 ι0 h0 w0 (lkL L) h a w) ?_ n a w ⟨L1, h1, hstart, hwk.fits hm0 hf⟩
   intro n a w ⟨L2, h2, hI, hf2⟩
   refine wpIn_mono (ih c' L2 h2 _ a w hcc (hround n L2 h2 hI) hf2) fun e a' w' ⟨L', h', hq, hf'⟩ => ?_
   cases e with
   | normal =>
    obtain ⟨n', L3, h3, h4, h5, h6⟩ := hq
    exact ⟨n', h4, L3, h3, h6, h5.fits hm0 hf'⟩
   | exit i =>
    obtain ⟨L3, h3, h4, h5⟩ := hq
    exact ⟨L3, h3, h5, h4.fits hm0 hf'⟩
   | ret => exact ⟨L', h', hq, hf'⟩
   | goto => exact hq.elim
   | panic => exact hq.elim
   | outgrown => exact hq.elim
  ·cases hc
 | scope c ih =>
  intro ac L h Q a w hc hv hf
  simp only [compX] at hc
  refine wpIn_scope_straight (wpIn_mono (ih ac L h Q a w hc hv hf) fun e a' w' hq => ?_)
  obtain ⟨L', h', hq, hf'⟩ := hq
  cases e with
  | normal => exact ⟨L', h', hq, hf'⟩
  | exit i => exact ⟨L', h', hq, hf'⟩
  | ret => exact ⟨L', h', hq, hf'⟩
  | goto => exact hq.elim
  | panic => exact hq.elim
  | outgrown => exact hq.elim
 | exit id =>
  intro ac L h Q a w hc hv hf
  simp only [compX, Option.some.injEq] at hc; subst hc
  exact wpIn_exit ⟨L, h, hv, hf⟩
 | ret =>
  intro ac L h Q a w hc hv hf
  simp only [compX, Option.some.injEq] at hc; subst hc
  exact wpIn_ret ⟨L, h, hv, hf⟩
 | goto l => intro ac L h Q a w hc; simp [compX] at hc
 | rangeFunc g ps x y _ _ => intro ac L h Q a w hc hv hf; exact hrf g ps x y ac L h Q a w hc hv hf
 | refuse => intro ac L h Q a w hc; simp [compX] at hc
theorem vcC_sound0 {Λ : Len} (hΛ : ∀ l, Λ l = (l.length : Int)) {m : Nat} (hm : P.follows .mixedOrders = true) (hm0 : h0.length ≤ m) (c : Code) (ac : AC) (L : Lv) (h : Hp) (Q : Post) (a : Act) (w : World) (hc : compX P N false c = some ac) (hv : vcC P Λ m ac L h Q) (hf : Fits N G0 ι0 h0 w0 (lkL L) h a w) :
  c.wpIn (Fen ro) 0 P (out N G0 ι0 h0 w0 Q) a w :=
 vcC_core hΛ hm hm0 (fun g ps x y ac L h Q a w hc => by simp [compX] at hc) c ac L h Q a w hc hv hf
end
end Go.Ab

/-
  The engine: a range over a function.
-/
namespace Go.Ab
section
variable {G : Nat → Prop} {ι : Io} {h : Hp} {w w' : World}
theorem keep_other (hs : ∀ b, G b ∨ owned ι h b → w'.heap[b]? = w.heap[b]?) : ∀ l k, h[l]? = some k → ∃ k', h[l]? = some k' ∧ Kept ι ι w w' l k k' := fun l k hk =>
 ⟨k, hk, Kept.frame rfl fun b hb => hs b (.inr ⟨l, k, hk, hb⟩)⟩
theorem HR.other (r : HR G ι h w) (hs : ∀ b, G b ∨ owned ι h b → w'.heap[b]? = w.heap[b]?) (hz : w.heap.size ≤ w'.heap.size) : HR G ι h w' where
 len := r.len
 own := r.own
 g b hb := ⟨by have := (r.g b hb).1; omega, (r.g b hb).2⟩
 blk l k hk := BR.carry (fun b hb => ⟨hb, hs b (.inl hb)⟩) (keep_other hs) (r.blk l k hk) rfl fun b hb => hs b (.inr ⟨l, k, hk, hb⟩)
theorem VR.other {v : Value} {x : AV} (hx : VR G w ι h v x) (hs : ∀ b, G b ∨ owned ι h b → w'.heap[b]? = w.heap[b]?) : VR G w' ι h v x :=
 hx.mono (fun b hb => ⟨hb, hs b (.inl hb)⟩) (keep_other hs)
theorem Ext.other {G0 : Nat → Prop} {ι0 : Io} {h0 : Hp} {w0 : World} (e : Ext G0 ι0 h0 w0 G ι h w) (hs : ∀ b, G b ∨ owned ι h b → w'.heap[b]? = w.heap[b]?) (hz : w.heap.size ≤ w'.heap.size) (hq : Quiet w w') (hlo : ∀ b, b < w0.heap.size → w'.heap[b]? = w.heap[b]?) : Ext G0 ι0 h0 w0 G ι h w' where
 size := Nat.le_trans e.size hz
 quiet := ⟨hq.1.trans e.quiet.1, hq.2.1.trans e.quiet.2.1, hq.2.2.1.trans e.quiet.2.2.1, Nat.le_trans e.quiet.2.2.2 hq.2.2.2⟩
 frame b hb ho := (hlo b hb).trans (e.frame b hb ho)
 gmono := e.gmono
 gnew := e.gnew
 onew := e.onew
 keep l k hk := by
  obtain ⟨k', h1, h2⟩ := e.keep l k hk
  obtain ⟨k2, h3, h4⟩ := keep_other hs l k' h1
  rw [h1] at h3; cases h3
  exact ⟨k', h1, h2.trans h4⟩
end
theorem putObj_size (w : World) (b : Nat) (o : Obj) : (w.putObj b o).heap.size = w.heap.size := by simp [World.putObj]
theorem putObj_quiet (w : World) (b : Nat) (o : Obj) : Quiet w (w.putObj b o) := ⟨rfl, rfl, rfl, Nat.le_refl _⟩
section
variable {P : Program} {N : Nat} {G0 : Nat → Prop} {ι0 : Io} {h0 : Hp} {w0 : World}
theorem leave_marks {fn : Func} {R : Ending → World → Prop} {G : Nat → Prop} {ι : Io} {e : Env} {h : Hp} : ∀ (bs : List Nat) (a : Act) (w : World), bs.Nodup → (∀ b ∈ bs, Mrk w0 G ι h w b) → Rel N G ι e h a w → Ext G0 ι0 h0 w0 G ι h w →
  (∀ w2, Rel N G ι e h a w2 → Ext G0 ι0 h0 w0 G ι h w2 → ∃ v, (results fn a.tmps).run P w2 = .ok v w2 ∧ R (.returned v) w2) → LeavesInM Fence.wide 0 P fn a.tmps R (bs.map mkD) .returning w
 | [], a, w, _, _, hr, hx, hk => hk w hr hx
 |b :: bs, a, w, hn, hm, hr, hx, hk => by
  obtain ⟨h1, h2, h3, h4⟩ := hm b (by simp)
  rw [List.nodup_cons] at hn
  have hs : ∀ c, G c ∨ owned ι h c → (w.putObj b (.deferred none)).heap[c]? = w.heap[c]? := fun c hc => World.putObj_heap_other fun e => by
   subst e
   exact hc.elim h3 h4
  have hz : w.heap.size ≤ (w.putObj b (.deferred none)).heap.size := by rw [putObj_size]; exact Nat.le_refl _
  refine ⟨by simp, .inl ⟨b, _, rfl, run_takeDeferred h2, ?_⟩⟩
  refine leave_marks bs a _ hn.2 (fun c hc => ?_) ⟨hr.hr.other hs hz, hr.size, fun i => (hr.env i).other hs⟩ (hx.other hs hz (putObj_quiet _ _ _) fun c hc => World.putObj_heap_other (by omega)) hk
  obtain ⟨k1, k2, k3, k4⟩ := hm c (by simp [hc])
  have hne : b ≠ c := fun e => hn.1 (by rw [e]; exact hc)
  exact ⟨k1, (World.putObj_heap_other (by omega)).trans k2, k3, k4⟩
theorem calls_marks {f : FuncId} {fn : Func} {c : Code} {args : Array Value} {w : World} {R : Ending → World → Prop} (hf : P.funcs[f]? = some fn) (hb : fn.body = some c)
  (h : c.wpIn (Fen none) 0 P (fun x a w' => match x with
   | .normal => LeavesInM Fence.wide 0 P fn a.tmps R a.defers .returning w'
   | .ret => LeavesInM Fence.wide 0 P fn a.tmps R a.defers .returning w'
   |_ => False) { tmps := args ++ Array.replicate (fn.ntmps - args.size) undef, defers := [] } w) : Calls P f args w R := by
 refine (callsIn_wide (n := 0)).1 (callsIn_of_wp_marks hf hb trivial (wpIn_mono h fun x a w' hx => ?_) rfl)
 cases x with
 | normal => exact hx
 | ret => exact hx
 | _ => exact hx.elim
theorem fits_leave {fn : Func} {R : Ending → World → Prop} {e : Env} {h : Hp} {a : Act} {w : World} (hf : Fits N G0 ι0 h0 w0 e h a w)
  (hk : ∀ G ι w2, Rel N G ι e h a w2 → Ext G0 ι0 h0 w0 G ι h w2 → ∃ v, (results fn a.tmps).run P w2 = .ok v w2 ∧ R (.returned v) w2) : LeavesInM Fence.wide 0 P fn a.tmps R a.defers .returning w := by
 obtain ⟨G, ι, st⟩ := hf
 obtain ⟨bs, e, hn, hm⟩ := st.dfr
 rw [e]
 exact leave_marks bs a w hn hm st.rel st.ext (hk G ι)
end
theorem pureLv_get : ∀ (L : Lv) (i : Nat), lkL (pureLv L) i = match pureA (lkL L i) with
  | true => lkL L i
  | false => .c .u
 | [], i => rfl
 |(j, v) :: r, i => by
  simp only [pureLv, lkL, upd]
  split
  ·rfl
  ·exact pureLv_get r i
def recO (st : LoopState) (fn : FuncId) (tmps : Array Value) (p : Nat) (asn body : Code) (b : Nat) : Obj := .loop { state := st, pending := none, fn := fn, tmps := tmps, params := #[p], assign := asn, body := body, defers := b }
def RecP (N p : Nat) (asn body : Code) (L : Lv) (st : LoopState) (G : Nat → Prop) (w : World) (o : Obj) : Prop :=
 ∃ fn tmps b, o = recO st fn tmps p asn body b ∧ tmps.size = N ∧ ∀ i, VR G w [] [] (tmps.getD i undef) (lkL (pureLv L) i)
theorem RecP.mono {N p : Nat} {asn body : Code} {L : Lv} {st : LoopState} (G G' : Nat → Prop) (w w' : World) (o : Obj) (hg : ∀ b, G b → G' b ∧ w'.heap[b]? = w.heap[b]?) (h : RecP N p asn body L st G w o) : RecP N p asn body L st G' w' o := by
 obtain ⟨fn, tmps, b, h1, h2, h3⟩ := h
 exact ⟨fn, tmps, b, h1, h2, fun i => (h3 i).mono hg fun l k hk => by simp at hk⟩
def recB (N p : Nat) (asn body : Code) (L : Lv) (st : LoopState) : AB := .op (RecP N p asn body L st) RecP.mono
section
variable {G : Nat → Prop} {ι : Io} {w : World} {m : Ar} {rest : Hp} {N p : Nat} {asn body : Code} {L : Lv}
theorem rec_set {st st' : LoopState} {l : Nat} (r : HR G ι (.am m :: rest) w) (hl : m l = some (recB N p asn body L st)) : ∃ fn tmps b, w.heap[l]? = some (recO st fn tmps p asn body b) ∧ tmps.size = N ∧ (∀ i, VR G w [] [] (tmps.getD i undef) (lkL (pureLv L) i)) ∧
  HR G ι (.am (mup m l (recB N p asn body L st')) :: rest) (w.putObj l (recO st' fn tmps p asn body b)) ∧ Ext G ι (.am m :: rest) w G ι (.am (mup m l (recB N p asn body L st')) :: rest) (w.putObj l (recO st' fn tmps p asn body b)) := by
 obtain ⟨o, ho, fn, tmps, b, rfl, hsz, henv⟩ := r.blk 0 _ rfl l _ hl
 have hlt : l < w.heap.size := (Array.getElem?_eq_some_iff.1 ho).1
 have hng : ¬ G l := fun hg => (r.g l hg).2 (am_owned (h := .am m :: rest) rfl hl)
 have hoth : ∀ c, c ≠ l → (w.putObj l (recO st' fn tmps p asn body b)).heap[c]? = w.heap[c]? := fun c hc => World.putObj_heap_other (by omega)
 have hab : ABR G (w.putObj l (recO st' fn tmps p asn body b)) l (recB N p asn body L st') :=
  ⟨_, World.putObj_heap_same hlt, fn, tmps, b, rfl, hsz, fun i => (henv i).mono (fun c hc => ⟨hc, hoth c fun e => hng (e ▸ hc)⟩) fun _ _ hk => by simp at hk⟩
 obtain ⟨q1, q2⟩ := HR.am_set (x := recB N p asn body L st') r rfl hl (putObj_size _ _ _) hoth hab (putObj_quiet _ _ _)
 exact ⟨fn, tmps, b, ho, hsz, henv, q1, q2⟩
theorem own_del {l b : Nat} (r : HR G ι (.am m :: rest) w) (hl : ∃ x, m l = some x) (ho : owned ι (.am (mdel m l) :: rest) b) : owned ι (.am m :: rest) b ∧ b ≠ l := by
 obtain ⟨i, k, h1, h2⟩ := ho
 cases i with
 | zero =>
  simp only [List.getElem?_cons_zero, Option.some.injEq] at h1
  subst h1
  obtain ⟨x, hx⟩ := h2
  by_cases e : b = l
  ·rw [e, mdel_at] at hx; cases hx
  ·rw [mdel_ne e] at hx; exact ⟨⟨0, _, rfl, x, hx⟩, e⟩
 | succ i =>
  refine ⟨⟨i + 1, k, h1, h2⟩, fun e => ?_⟩
  subst e
  have := r.own 0 (i + 1) b _ k rfl h1 hl h2
  cases this
theorem HR.am_drop {l : Nat} (r : HR G ι (.am m :: rest) w) (hl : ∃ x, m l = some x) : HR G ι (.am (mdel m l) :: rest) w ∧ Ext G ι (.am m :: rest) w G ι (.am (mdel m l) :: rest) w := by
 have hk : ∀ i k, (Blk.am m :: rest)[i]? = some k → ∃ k', (Blk.am (mdel m l) :: rest)[i]? = some k' ∧ Kept ι ι w w i k k' := fun i k hk => by
  cases i with
  | zero =>
   simp only [List.getElem?_cons_zero, Option.some.injEq] at hk
   subst hk
   exact ⟨_, rfl, trivial⟩
  | succ i => exact ⟨k, hk, Kept.refl ι w _ k⟩
 have hsub : ∀ i k b, (Blk.am (mdel m l) :: rest)[i]? = some k → own1 ι i k b → ∃ k', (Blk.am m :: rest)[i]? = some k' ∧ own1 ι i k' b := fun i k b h1 h2 => by
  cases i with
  | zero =>
   simp only [List.getElem?_cons_zero, Option.some.injEq] at h1
   subst h1
   obtain ⟨x, hx⟩ := h2
   by_cases e : b = l
   ·rw [e, mdel_at] at hx; cases hx
   ·rw [mdel_ne e] at hx; exact ⟨_, rfl, x, hx⟩
  | succ i => exact ⟨k, h1, h2⟩
 refine ⟨{ len := r.len, own := fun i j b k k' h1 h2 h3 h4 => ?_, g := fun b hb => ⟨(r.g b hb).1, fun ho => (r.g b hb).2 (own_del r hl ho).1⟩, blk := fun i k h1 => ?_ }, { size := Nat.le_refl _, quiet := ⟨rfl, rfl, rfl, Nat.le_refl _⟩, frame := fun _ _ _ => rfl, gmono := fun _ h => h, gnew := fun _ h => .inl h, onew := fun b ho => .inl (own_del r hl ho).1, keep := hk }⟩
 ·obtain ⟨k1, a1, a2⟩ := hsub i k b h1 h3
  obtain ⟨k2, b1, b2⟩ := hsub j k' b h2 h4
  exact r.own i j b k1 k2 a1 b1 a2 b2
 ·cases i with
  | zero =>
   simp only [List.getElem?_cons_zero, Option.some.injEq] at h1
   subst h1
   intro b x hx
   by_cases e : b = l
   ·rw [e, mdel_at] at hx; cases hx
   ·rw [mdel_ne e] at hx; exact r.blk 0 _ rfl b x hx
  | succ i => exact BR.carry (fun _ hb => ⟨hb, rfl⟩) hk (r.blk (i + 1) k h1) rfl fun _ _ => rfl
end
section
variable {P : Program} {N : Nat} {G0 : Nat → Prop} {ι0 : Io} {h0 : Hp} {w0 : World}
theorem yield_rule {Λ : Len} (hΛ : ∀ l, Λ l = (l.length : Int)) (hm : P.follows .mixedOrders = true) {l p : Nat} {asn body : Code} {ca cb : AC} (hno : NoFn P l) (hp : p < N) (hca : compX P N false asn = some ca) (hcb : compX P N false body = some cb) {L : Lv} {m' : Ar} {r : AV} {K : Ar → Prop}
    (hl : m' l = some (recB N p asn body L .ready))
    (hv : vcC P Λ 1 ca (putL (pureLv L) (some p) r) [.am m'] fun x L2 h2 => match x with
          | .normal => ∃ m2 tl, h2 = .am m2 :: tl ∧ m2 l = some (recB N p asn body L .ready) ∧ vcC P Λ 1 cb L2 (.am (mup m2 l (recB N p asn body L .busy)) :: tl) fun x _ h3 => match x with
            | .normal => ∃ m3 tl3, h3 = .am m3 :: tl3 ∧ m3 l = some (recB N p asn body L .busy) ∧ K (mup m3 l (recB N p asn body L .ready))
            | _ => False
          | _ => False) :
    FnS P (8589934592 + l) [r] [.am m'] fun q h' => q = .c (.d (.bool true)) ∧ ∃ m3 tl, h' = .am m3 :: tl ∧ K m3 := by
  refine ⟨fun G ι w vs hr0 hvs => .inr ⟨l, rfl, hno.no, ?_⟩⟩
  obtain ⟨v, rfl⟩ : ∃ v, vs = [v] := by
    have := hvs.1
    match vs, this with
    | [x], _ => exact ⟨x, rfl⟩
  have hvr : VR G w ι [.am m'] v r := hvs.2 0 _ _ rfl rfl
  obtain ⟨fn, tmps, D, ho, hsz, henv, -, -⟩ := rec_set (st' := .ready) hr0 hl
  refine ⟨fn, tmps.setIfInBounds p v, asn, body, ?_, roundIn_of_wpIn trivial ?_⟩
  · have := run_yield (P := P) (args := #[v]) ho rfl
    simpa [recO] using this
  have hfit : Fits N G ι [.am m'] w (lkL (putL (pureLv L) (some p) r)) [.am m'] { tmps := tmps.setIfInBounds p v, defers := [] } w := by
    refine ⟨G, ι, ⟨hr0, by simp [hsz], fun i => ?_⟩, Ext.refl _ _ _ _, Marks.nil _ _ _ _ _⟩
    rw [putL_eq]
    simp only [putE, lk, upd]
    split
    · rename_i e
      subst e
      rw [Array.getD_eq_getD_getElem?, Array.getElem?_setIfInBounds_self_of_lt (by omega)]
      exact hvr
    · rename_i e
      rw [Array.getD_eq_getD_getElem?, Array.getElem?_setIfInBounds_ne (fun h => e h), ← Array.getD_eq_getD_getElem?]
      exact (henv i).mono (fun _ hb => ⟨hb, rfl⟩) fun _ _ hk => by simp at hk
  refine wpIn_mono (vcC_sound0 (ro := some l) hΛ (m := 1) hm (by simp) asn ca _ _ _ _ w hca hv hfit) fun x a1 w1 ⟨L2, h2, hq, hf2⟩ => ?_
  cases x with
  | normal =>
    obtain ⟨m2, tl, rfl, hm2, hvb⟩ := hq
    obtain ⟨G2, ι2, st2⟩ := hf2
    obtain ⟨fn2, tmps2, D2, ho2, hsz2, henv2, q1, q2⟩ := rec_set (st' := .busy) st2.rel.hr hm2
    refine ⟨_, run_beginRound ho2 rfl, ?_⟩
    have hfit2 : Fits N G ι [.am m'] w (lkL L2) (.am (mup m2 l (recB N p asn body L .busy)) :: tl) a1 (w1.putObj l (recO .busy fn2 tmps2 p asn body D2)) :=
      ⟨G2, ι2, ⟨q1, st2.rel.size, fun i => (st2.rel.env i).ext q2 st2.rel.hr⟩, st2.ext.trans q2, st2.dfr.ext q2⟩
    refine wpIn_mono (vcC_sound0 (ro := some l) hΛ (m := 1) hm (by simp) body cb _ _ _ _ _ hcb hvb hfit2) fun x a3 w3 ⟨L3, h3, hq, hf3⟩ => ?_
    cases x with
    | normal =>
      obtain ⟨m3, tl3, rfl, hm3, hK⟩ := hq
      obtain ⟨G3, ι3, st3⟩ := hf3
      obtain ⟨fn3, tmps3, D3, ho3, hsz3, henv3, q3, q4⟩ := rec_set (st' := .ready) st3.rel.hr hm3
      exact ⟨_, _, run_endRound none ho3, .bool true, .c (.d (.bool true)), G3, ι3, .am (mup m3 l (recB N p asn body L .ready)) :: tl3, rfl, ⟨rfl, _, _, rfl, hK⟩, q3, .c _ _ (.d _ _ (.bool true)), st3.ext.trans q4⟩
    | ret => exact hq.elim
    | exit i => exact hq.elim
    | goto => exact hq.elim
    | panic => exact hq.elim
    | outgrown => exact hq.elim
  | ret => exact hq.elim
  | exit i => exact hq.elim
  | goto => exact hq.elim
  | panic => exact hq.elim
  | outgrown => exact hq.elim
theorem rfn_sound {Λ : Len} (hΛ : ∀ l, Λ l = (l.length : Int)) {m : Nat} (hm : P.follows .mixedOrders = true) (g : Operand) (ps : Array Tmp) (x y : Code) (ac : AC) (L : Lv) (h : Hp) (Q : Post) (a : Act) (w : World) (hc : compX P N true (.rangeFunc g ps x y) = some ac) (hv : vcC P Λ m ac L h Q) (hf : Fits N G0 ι0 h0 w0 (lkL L) h a w) :
  (Code.rangeFunc g ps x y).wpIn (Fen none) 0 P (out N G0 ι0 h0 w0 Q) a w := by
 simp only [compX] at hc
 split at hc
 ·rename_i t p ca cb hrf hg hps hca hcb
  split at hc
  ·rename_i hp
   cases hc
   simp only [vcC] at hv
   obtain ⟨m, rest, gf, caps, rfl, hx, hlt, hfok, hno, hout⟩ := hv.out
   obtain ⟨G, ι, st⟩ := hf
   have hps' : ps = #[p] := by apply Array.ext'; simpa using hps
   subst hps'
   rw [evN_eq] at hx
   have hgv := cx_sound hg st.rel
   rw [hx] at hgv
   obtain ⟨vs, hev, hn, hcr⟩ := inv_fn hgv
   rw [fnV_fn hlt] at hev
   simp only at hev
   obtain ⟨fd, hfd, hfb, hfn⟩ := hfok.ok
   refine wpIn_rangeFunc fun fn _ => ?_
   have hdlt : ∀ b, G b ∨ owned ι (.am m :: rest) b → b < w.heap.size := fun b hb => hb.elim (fun h => (st.rel.hr.g b h).1) fun h => owned_lt st.rel.hr h
   -- the block of the deferred calls
   have hsD : ∀ b, G b ∨ owned ι (.am m :: rest) b → (push w (.deferred (some []))).heap[b]? = w.heap[b]? := fun b hb => push_old w _ (hdlt b hb)
   have hzD : (push w (.deferred (some []))).heap.size = w.heap.size + 1 := by simp [push]
   have rD := st.rel.hr.other hsD (by omega)
   have eD := Ext.push_other st.rel.hr (.deferred (some []))
   -- the record
   have hab : ABR G (push (push w (.deferred (some []))) (recO .ready fn a.tmps p x y w.heap.size)) (push w (.deferred (some []))).heap.size (recB N p x y L .ready) := by
    refine ⟨_, push_new _ _, fn, a.tmps, w.heap.size, rfl, st.rel.size, fun i => ?_⟩
    rw [pureLv_get]
    split
    ·rename_i hpu
     exact pureA_move hpu (fun b hb => ⟨hb, (push_old _ _ (by have := hdlt b (.inl hb); omega)).trans (hsD b (.inl hb))⟩) (st.rel.env i)
    ·exact .c _ _ (.u _)
   obtain ⟨k0, k1, k2⟩ := HR.am_new rD (h := .am m :: rest) rfl _ hab
   rw [hzD] at k0 k1 k2
   have e1 := eD.trans k2
   have hW : (w.alloc (.deferred (some []))).alloc (recO .ready fn a.tmps p x y w.heap.size) = push (push w (.deferred (some []))) (recO .ready fn a.tmps p x y w.heap.size) := rfl
   generalize hW1 : push (push w (.deferred (some []))) (recO .ready fn a.tmps p x y w.heap.size) = W1 at *
   have hD1 : W1.heap[w.heap.size]? = some (.deferred (some [])) := by
    rw [← hW1, push_old _ _ (by omega)]; exact push_new w _
   have hL1 : W1.heap[w.heap.size + 1]? = some (recO .ready fn a.tmps p x y w.heap.size) := by
    rw [← hW1, ← hzD]; exact push_new _ _
   have hown1 : ∀ b, owned ι (.am (mup m (w.heap.size + 1) (recB N p x y L .ready)) :: rest) b → owned ι (.am m :: rest) b ∨ b = w.heap.size + 1 := by
    rintro b ⟨i, k, h1, h2⟩
    cases i with
    | zero =>
     simp only [List.getElem?_cons_zero, Option.some.injEq] at h1
     subst h1
     obtain ⟨z, hz⟩ := h2
     by_cases e : b = w.heap.size + 1
     ·exact .inr e
     ·rw [mup_ne e] at hz; exact .inl ⟨0, _, rfl, z, hz⟩
    | succ i => exact .inl ⟨i + 1, k, h1, h2⟩
   have hfs := hout (w.heap.size + 1) (recB N p x y L .ready) (recB N p x y L .busy) k0 fun m' r K h1 _ h3 => yield_rule hΛ hm (hno _) hp hca hcb h1 h3
   have hvs1 : VRs G W1 ι (.am (mup m (w.heap.size + 1) (recB N p x y L .ready)) :: rest) (.func (.yield (w.heap.size + 1)) #[] #[] :: vs.toList) (.c (.d (.yl (w.heap.size + 1))) :: caps.map .c) := by
    refine ⟨by simp [hn], fun i v z h1 h2 => ?_⟩
    cases i with
    | zero => simp at h1 h2; subst h1 h2; exact .c _ _ (.d _ _ (.yl _))
    | succ i =>
     simp only [List.getElem?_cons_succ, List.getElem?_map, Option.map_eq_some_iff] at h1 h2
     obtain ⟨c, hc, rfl⟩ := h2
     exact (VR.c _ _ (hcr i v c (by simpa using h1) hc)).ext e1 st.rel.hr
   have hcall := (hfs.out G ι W1 _ k1 hvs1).calls hfd
   refine ⟨w.heap.size + 1, [mkD w.heap.size], W1, { target := .fn (.func gf) vs, args := #[.func (.yield (w.heap.size + 1)) #[] #[]] }, W1, gf, #[.func (.yield (w.heap.size + 1)) #[] #[]] ++ vs, W1, ?_, ?_, fun f _ => Fen.fn none f, ?_, Fen.depth none 0, ?_⟩
   ·rw [← hW]; exact run_enterLoop_outer _ _ _ _ _
   ·simp only [resolve, hev, Deferred.ofValue, Sem.run_pure]
    simp [Act.eval]
   ·simp only [invoke]
    exact callFunc_run hfd hfb hfn
   ·have harr : (#[Value.func (.yield (w.heap.size + 1)) #[] #[]] ++ vs) = (Value.func (.yield (w.heap.size + 1)) #[] #[] :: vs.toList).toArray := by apply Array.ext'; simp
    rw [harr]
    refine Fen.calls (hcall.mono fun e w3 ⟨v, r, G3, ι3, h3, he, hRR, hr3, _, hx3⟩ => ?_) none _
    obtain ⟨m3, rest3, rfl, hm3, hQ⟩ := hRR
    subst he
    obtain ⟨o3, ho3, fn3, tmps3, D3, rfl, -, -⟩ := hr3.blk 0 _ rfl _ _ hm3
    refine ⟨none, _, run_endLoop ho3 (by simp), L, .am (mdel m3 (w.heap.size + 1)) :: rest3, hQ, ?_⟩
    obtain ⟨j1, j2⟩ := hr3.am_drop ⟨_, hm3⟩
    have hngl : ¬ G3 (w.heap.size + 1) := fun hg => (hr3.g _ hg).2 (am_owned (h := .am m3 :: rest3) rfl hm3)
    have hno4 : ∀ b, G3 b ∨ owned ι3 (.am (mdel m3 (w.heap.size + 1)) :: rest3) b → b ≠ w.heap.size + 1 := fun b hb e => by
     subst e
     exact hb.elim hngl fun ho => (own_del hr3 ⟨_, hm3⟩ ho).2 rfl
    have hs4 : ∀ (o : Obj) b, G3 b ∨ owned ι3 (.am (mdel m3 (w.heap.size + 1)) :: rest3) b → (w3.putObj (w.heap.size + 1) o).heap[b]? = w3.heap[b]? := fun o b hb => World.putObj_heap_other (by have := hno4 b hb; omega)
    have hz4 : ∀ (o : Obj), w3.heap.size ≤ (w3.putObj (w.heap.size + 1) o).heap.size := fun o => by rw [putObj_size]; exact Nat.le_refl _
    have hmk : Marks w0 G ι (.am (mup m (w.heap.size + 1) (recB N p x y L .ready)) :: rest) (mkD w.heap.size :: a.defers) W1 := by
     obtain ⟨bs, e, hnd, hb⟩ := st.dfr.ext e1
     obtain ⟨bs0, e0, _, hb0⟩ := st.dfr
     have hbb : bs = bs0 := by
      have h1 := e.symm.trans e0
      have inj : ∀ l l' : List Nat, l.map mkD = l'.map mkD → l = l' := by
       intro l
       induction l with
       | nil => intro l' h; cases l' with | nil => rfl | cons => simp at h
       | cons z l ih =>
        intro l' h
        cases l' with
        | nil => simp at h
        | cons z' l' =>
         simp only [List.map_cons, List.cons.injEq] at h
         have : z = z' := by have := h.1; simpa [mkD] using this
         rw [this, ih l' h.2]
      exact inj _ _ h1
     subst hbb
     refine ⟨w.heap.size :: bs, by rw [e]; rfl, ?_, fun b hbm => ?_⟩
     ·rw [List.nodup_cons]
      refine ⟨fun hmem => ?_, hnd⟩
      have := (Array.getElem?_eq_some_iff.1 (hb0 _ hmem).at_).1
      omega
     ·rcases List.mem_cons.1 hbm with rfl | hbm
      ·refine ⟨st.ext.size, hD1, fun hg => by have := (st.rel.hr.g _ hg).1; omega, fun ho => ?_⟩
       rcases hown1 _ ho with h | h
       ·have := owned_lt st.rel.hr h; omega
       ·omega
      ·exact hb b hbm
    have hmk3 := (hmk.ext hx3).ext j2
    have hx4 := ((st.ext.trans e1).trans hx3).trans j2
    refine ⟨G3, ι3, ⟨j1.other (hs4 _) (hz4 _), st.rel.size, fun i => ((((st.rel.env i).ext e1 st.rel.hr).ext hx3 k1).ext j2 hr3).other (hs4 _)⟩, hx4.other (hs4 _) (hz4 _) (putObj_quiet _ _ _) fun b hb => World.putObj_heap_other (by have := st.ext.size; omega), ?_⟩
    obtain ⟨bs, e, hnd, hb⟩ := hmk3
    refine ⟨bs, e, hnd, fun b hbm => ?_⟩
    obtain ⟨q1, q2, q3, q4⟩ := hb b hbm
    have hbl : b ≠ w.heap.size + 1 := fun e => by
     rw [e, ho3] at q2
     simp [recO] at q2
    exact ⟨q1, (World.putObj_heap_other (by omega)).trans q2, q3, q4⟩
  ·cases hc
 ·cases hc
theorem vcC_sound {Λ : Len} (hΛ : ∀ l, Λ l = (l.length : Int)) {m : Nat} (hm : P.follows .mixedOrders = true) (hm0 : h0.length ≤ m) (c : Code) (ac : AC) (L : Lv) (h : Hp) (Q : Post) (a : Act) (w : World) (hc : compC P N c = some ac) (hv : vcC P Λ m ac L h Q) (hf : Fits N G0 ι0 h0 w0 (lkL L) h a w) :
  c.wpIn (Fen none) 0 P (out N G0 ι0 h0 w0 Q) a w :=
 vcC_core hΛ hm hm0 (fun g ps x y ac L h Q a w h1 h2 h3 => rfn_sound hΛ hm g ps x y ac L h Q a w h1 h2 h3) c ac L h Q a w hc hv hf
end
end Go.Ab

/-
  The engine, part y: a function's contract out of its text's condition.
-/
namespace Go.Ab
structure AF where
 nt : Nat
 res : List (Nat × Option (Option Nat))
 body : AC
def resC (P : Program) : List ResultVar → Option (List (Nat × Option (Option Nat)))
 | [] => some []
 | .tmp t :: r => match resC P r with
  | some l => some ((t, none) :: l)
  | none => none
 | .cell t ty :: r => match ldk P ty, resC P r with
  | some k, some l => some ((t, some k) :: l)
  | _, _ => none
def compF (P : Program) (fn : Func) : Option AF :=
 match fn.body with
 | some c => match compC P fn.ntmps c, resC P fn.results.toList with
  | some ac, some r => some ⟨fn.ntmps, r, ac⟩
  | _, _ => none
 | none => none
def resA (e : Env) (h : Hp) : List (Nat × Option (Option Nat)) → Option (List AV)
 | [] => some []
 | (s, k) :: r => match resA e h r with
  | some l => (match k with
   | none => some (e s :: l)
   | some none => match rd h (e s) with
    | some (c :: _) => some (.c c :: l)
    | _ => none
   | some (some n) => match rd h (e s) with
    | some cs => if n ≤ cs.length then some (.agg (cs.take n) :: l) else none
    | none => none)
  | none => none
def pack : List AV → AV
 | [x] => x
 | l => .tup l
def frzC (h : Hp) : CV → Option (CV × Hp)
 | .d x => some (.d (fgD x), h)
 | .cl _ sz l => some (.d (.list false sz l), h)
 | .arr l v i n => match h[l]? with
  | some (.da _ v' sz es) => (match Nat.beq v' v with
   | true => some (.d (.list false sz ((es.drop i).take n)), h.set l .dead)
   | false => none)
  | _ => none
 | .u => some (.u, h)
 | .rp cs => some (.rp cs, h)
 | .fn b f [] => some (.fn b f [], h)
 | .ptr l _ i j => match Nat.beq (i + j) 0, h[l]? with
  | true, some (.bx cs) => (match frzs h cs with
   | some (ds, h2) => some (.rp ds, h2.set l .dead)
   | none => none)
  | _, _ => none
 | _ => none
def frzCs (h : Hp) : List CV → Option (List CV × Hp)
 | [] => some ([], h)
 | x :: r => match frzC h x with
  | some (y, h1) => (match frzCs h1 r with
   | some (l, h2) => some (y :: l, h2)
   | none => none)
  | none => none
def frzA1 (h : Hp) : AV → Option (AV × Hp)
 | .c x => match frzC h x with
  | some (y, h1) => some (.c y, h1)
  | none => none
 | .agg l => match frzCs h l with
  | some (y, h1) => some (.agg y, h1)
  | none => none
 | .tup _ => none
def frzAs (h : Hp) : List AV → Option (List AV × Hp)
 | [] => some ([], h)
 | x :: r => match frzA1 h x with
  | some (y, h1) => (match frzAs h1 r with
   | some (l, h2) => some (y :: l, h2)
   | none => none)
  | none => none
def vFrzD (h : Hp) (x : CV) (K : D → Hp → Prop) : Prop :=
 match x with
 | .d x => K (fgD x) h
 | .arr l v i n => match h[l]? with
  | some (.da _ v' sz es) => (Unit → v' = v) ∧ ∀ ls, ls = (es.drop i).take n → K (.list false sz ls) (h.set l .dead)
  | _ => False
 | .rp cs => K (.rp cs) h
 | .mp l => match h[l]? with
  | some (.mp _ es) => ∃ ds, toDD es = some ds ∧ K (.mpf ds) (h.set l .dead)
  | _ => False
 | _ => False
def vFrzDs (h : Hp) : List CV → (List D → Hp → Prop) → Prop
 | [], K => K [] h
 | x :: r, K => vFrzD h x fun d h1 => vFrzDs h1 r fun l h2 => K (d :: l) h2
theorem vFrzD_sound {h : Hp} {x : CV} {K : D → Hp → Prop} (hv : vFrzD h x K) : ∃ y h1, frz h x = some (y, h1) ∧ K y h1 := by
 unfold vFrzD at hv
 split at hv
 ·exact ⟨_, _, rfl, hv⟩
 ·split at hv
  ·rename_i hes
   have hb := hv.1 ()
   subst hb
   exact ⟨_, _, by simp [frz, hes], hv.2 _ rfl⟩
  ·exact hv.elim
 ·exact ⟨_, _, rfl, hv⟩
 ·split at hv
  ·rename_i hes
   obtain ⟨ds, hd, hv⟩ := hv
   exact ⟨_, _, by simp [frz, hes, hd], hv⟩
  ·exact hv.elim
 ·exact hv.elim
theorem vFrzDs_sound : ∀ {l : List CV} {h : Hp} {K : List D → Hp → Prop}, vFrzDs h l K → ∃ y h1, frzs h l = some (y, h1) ∧ K y h1 := by
 intro l
 induction l with
 | nil => intro h K hv; exact ⟨_, _, rfl, hv⟩
 | cons x r ih =>
  intro h K hv
  obtain ⟨y, h1, e1, hv⟩ := vFrzD_sound hv
  obtain ⟨z, h2, e2, hv⟩ := ih hv
  exact ⟨_, _, by simp only [frzs, e1, e2], hv⟩
def vFrzC (h : Hp) (x : CV) (K : CV → Hp → Prop) : Prop :=
 match x with
 | .d x => K (.d (fgD x)) h
 | .arr l v i n => match h[l]? with
  | some (.da _ v' sz es) => (Unit → v' = v) ∧ ∀ ls, ls = (es.drop i).take n → K (.d (.list false sz ls)) (h.set l .dead)
  | _ => False
 | .ptr l _ i j => match Nat.beq (i + j) 0, h[l]? with
  | true, some (.bx cs) => vFrzDs h cs fun ds h2 => K (.rp ds) (h2.set l .dead)
  | _, _ => False
 | x => match frzC h x with
  | some (y, h1) => K y h1
  | none => False
def vFrzCs (h : Hp) : List CV → (List CV → Hp → Prop) → Prop
 | [], K => K [] h
 | x :: r, K => vFrzC h x fun y h1 => vFrzCs h1 r fun l h2 => K (y :: l) h2
def vFrzA1 (h : Hp) (x : AV) (K : AV → Hp → Prop) : Prop :=
 match x with
 | .c x => vFrzC h x fun y h1 => K (.c y) h1
 | .agg l => vFrzCs h l fun y h1 => K (.agg y) h1
 | .tup _ => False
def vFrzAs (h : Hp) : List AV → (List AV → Hp → Prop) → Prop
 | [], K => K [] h
 | x :: r, K => vFrzA1 h x fun y h1 => vFrzAs h1 r fun l h2 => K (y :: l) h2
theorem vFrzC_sound {h : Hp} {x : CV} {K : CV → Hp → Prop} (hv : vFrzC h x K) : ∃ y h1, frzC h x = some (y, h1) ∧ K y h1 := by
 unfold vFrzC at hv
 split at hv
 ·exact ⟨_, _, rfl, hv⟩
 ·split at hv
  ·rename_i hes
   have hb := hv.1 ()
   subst hb
   exact ⟨_, _, by simp only [frzC, hes, Nat.beq_refl], hv.2 _ rfl⟩
  ·exact hv.elim
 ·split at hv
  ·rename_i cs hb hes
   obtain ⟨ds, h2, e, hk⟩ := vFrzDs_sound hv
   exact ⟨_, _, by simp only [frzC, hb, hes, e], hk⟩
  ·exact hv.elim
 ·split at hv
  ·rename_i y h1 hy; exact ⟨y, h1, hy, hv⟩
  ·exact hv.elim
theorem vFrzCs_sound : ∀ {l : List CV} {h : Hp} {K : List CV → Hp → Prop}, vFrzCs h l K → ∃ y h1, frzCs h l = some (y, h1) ∧ K y h1 := by
 intro l
 induction l with
 | nil => intro h K hv; exact ⟨_, _, rfl, hv⟩
 | cons x r ih =>
  intro h K hv
  obtain ⟨y, h1, e1, hv⟩ := vFrzC_sound hv
  obtain ⟨z, h2, e2, hv⟩ := ih hv
  exact ⟨_, _, by simp only [frzCs, e1, e2], hv⟩
theorem vFrzA1_sound {h : Hp} {x : AV} {K : AV → Hp → Prop} (hv : vFrzA1 h x K) : ∃ y h1, frzA1 h x = some (y, h1) ∧ K y h1 := by
 unfold vFrzA1 at hv
 split at hv
 ·obtain ⟨y, h1, e1, hv⟩ := vFrzC_sound hv
  exact ⟨_, _, by simp only [frzA1, e1], hv⟩
 ·obtain ⟨y, h1, e1, hv⟩ := vFrzCs_sound hv
  exact ⟨_, _, by simp only [frzA1, e1], hv⟩
 ·exact hv.elim
theorem vFrzAs_sound : ∀ {l : List AV} {h : Hp} {K : List AV → Hp → Prop}, vFrzAs h l K → ∃ y h1, frzAs h l = some (y, h1) ∧ K y h1 := by
 intro l
 induction l with
 | nil => intro h K hv; exact ⟨_, _, rfl, hv⟩
 | cons x r ih =>
  intro h K hv
  obtain ⟨y, h1, e1, hv⟩ := vFrzA1_sound hv
  obtain ⟨z, h2, e2, hv⟩ := ih hv
  exact ⟨_, _, by simp only [frzAs, e1, e2], hv⟩
def RetP (res : List (Nat × Option (Option Nat))) (L : Lv) (h : Hp) (K : AV → Prop) : Prop :=
 match resA (lkN L) h res with
 | some vs => (match frzAs h vs with
  | some (rs, _) => K (pack rs)
  | none => False)
 | none => False
def RetQ (res : List (Nat × Option (Option Nat))) (L : Lv) (h : Hp) (K : AV → Prop) : Prop :=
 match resA (lkN L) h res with
 | some vs => vFrzAs h vs fun rs _ => K (pack rs)
 | none => False
theorem RetQ.ret {res : List (Nat × Option (Option Nat))} {L : Lv} {h : Hp} {K : AV → Prop} (hq : RetQ res L h K) : RetP res L h K := by
 unfold RetQ at hq
 unfold RetP
 split at hq
 ·rename_i vs hvs
  obtain ⟨y, h1, e1, hk⟩ := vFrzAs_sound hq
  simp only [e1]; exact hk
 ·exact hq.elim
def RetH (res : List (Nat × Option (Option Nat))) (L : Lv) (h : Hp) (K : AV → Hp → Prop) : Prop :=
 match resA (lkN L) h res with
 | some vs => K (pack vs) h
 | none => False
def argL : Nat → List AV → Lv
 | _, [] => []
 | n, v :: r => (n, v) :: argL (n + 1) r
def vcFE (res : List (Nat × Option (Option Nat))) (K : AV → Prop) : Post := fun x L h => match x with
 | .exit _ => False
 | _ => RetQ res L h K
def vcF (P : Program) (Λ : Len) (af : AF) (args : List AV) (K : AV → Prop) : Prop :=
 match af with
 | ⟨_, res, body⟩ => vcC P Λ 0 body (argL 0 args) [] (vcFE res K)
def vcH (P : Program) (Λ : Len) (af : AF) (args : List AV) (h : Hp) (K : AV → Hp → Prop) : Prop :=
 match af with
 | ⟨_, res, body⟩ => vcC P Λ h.length body (argL 0 args) h fun x L h => match x with
  | .exit _ => False
  | _ => RetH res L h K
section
variable {P : Program} {G : Nat → Prop} {ι : Io} {h : Hp} {w : World}
theorem argL_get : ∀ (args : List AV) (n i : Nat), lkL (argL n args) i = if n ≤ i then (args[i - n]?).getD (.c .u) else .c .u := by
 intro args
 induction args with
 | nil => intro n i; simp [argL, lkL]
 | cons v r ih =>
  intro n i
  simp only [argL, lkL, upd]
  by_cases h1 : n = i
  ·subst h1; simp
  ·rw [if_neg h1, ih]
   by_cases h2 : n ≤ i
   ·rw [if_pos (by omega), if_pos h2, show i - n = (i - (n + 1)) + 1 by omega]; simp
   ·rw [if_neg (by omega), if_neg h2]
theorem frz_bx {h h' : Hp} {x : CV} {d : D} {l : Nat} {cs : List CV} (hf : frz h x = some (d, h')) (hl : h[l]? = some (.bx cs)) : h'[l]? = some (.bx cs) := by
 unfold frz at hf
 split at hf
 ·cases hf; exact hl
 ·cases hf; exact hl
 ·split at hf
  ·rename_i hes
   split at hf
   ·cases hf
    rw [List.getElem?_set_ne]
    ·exact hl
    ·intro e; subst e; rw [hes] at hl; cases hl
   ·cases hf
  ·cases hf
 ·cases hf; exact hl
 ·split at hf
  ·rename_i hes
   split at hf
   ·cases hf
    rw [List.getElem?_set_ne]
    ·exact hl
    ·intro e; subst e; rw [hes] at hl; cases hl
   ·cases hf
  ·cases hf
 ·cases hf
theorem frzs_bx {l : Nat} {cs : List CV} : ∀ {xs : List CV} {h h' : Hp} {ds : List D}, frzs h xs = some (ds, h') → h[l]? = some (.bx cs) → h'[l]? = some (.bx cs) := by
 intro xs
 induction xs with
 | nil => intro h h' ds hf hl; simp only [frzs, Option.some.injEq, Prod.mk.injEq] at hf; obtain ⟨_, rfl⟩ := hf; exact hl
 | cons x xs ih =>
  intro h h' ds hf hl
  simp only [frzs] at hf
  split at hf
  ·rename_i d h1 hd
   split at hf
   ·rename_i ds' h2 hds
    simp only [Option.some.injEq, Prod.mk.injEq] at hf
    obtain ⟨_, rfl⟩ := hf
    exact ih hds (frz_bx hd hl)
   ·cases hf
  ·cases hf
theorem frzC_sound {v : Value} {x y : CV} {h' : Hp} (hr : HR G ι h w) (hx : CR G w ι h v x) (hf : frzC h x = some (y, h')) :
  ∃ G', HR G' ι h' w ∧ CR G' w ι h' v y ∧ Ext G ι h w G' ι h' w ∧ pureC y = true := by
 unfold frzC at hf
 split at hf
 ·cases hf; exact ⟨G, hr, hx.fg, Ext.refl _ _ _ _, rfl⟩
 ·cases hf; exact ⟨G, hr, hx.fg, Ext.refl _ _ _ _, rfl⟩
 ·rename_i l ver i n
  split at hf
  ·rename_i v' sz es hes
   split at hf
   ·rename_i hv
    have hv : v' = ver := Nat.eq_of_beq_eq_true hv
    subst hv
    cases hf
    obtain ⟨G', k1, k2, k3⟩ := frz_sound (h' := h.set l .dead) (d := .list false sz ((es.drop i).take n)) hr hx (by simp [frz, hes])
    exact ⟨G', k1, .d _ _ k2, k3, rfl⟩
   ·cases hf
  ·cases hf
 ·cases hf; exact ⟨G, hr, hx, Ext.refl _ _ _ _, rfl⟩
 ·cases hf; exact ⟨G, hr, hx, Ext.refl _ _ _ _, rfl⟩
 ·cases hf; exact ⟨G, hr, hx, Ext.refl _ _ _ _, rfl⟩
 ·rename_i l ver i j
  split at hf
  ·rename_i cs hij hes
   have hij : i + j = 0 := Nat.eq_of_beq_eq_true hij
   obtain ⟨rfl, rfl⟩ : i = 0 ∧ j = 0 := by omega
   split at hf
   ·rename_i ds h2 hfs
    cases hf
    cases hx with
    | ptr _ _ _ _ _ blk hb ha hk =>
     rw [hes] at hb; cases hb
     obtain ⟨b, o, hi, rfl⟩ := hk 0 rfl
     obtain ⟨b', o', c, t, fr, h1, h2', h3, h4, h5⟩ := hr.blk l _ hes
     rw [hi] at h1; cases h1
     obtain ⟨vs, hvs⟩ : ∃ vs : List Value, vs = (c.toList.drop o).take cs.length := ⟨_, rfl⟩
     have hvl : vs.length = cs.length := by rw [hvs]; simp; omega
     have hvg : ∀ i, i < cs.length → vs[i]? = c[o + i]? := fun i hi => by
      rw [hvs, List.getElem?_take_of_lt hi, List.getElem?_drop]; simp
     obtain ⟨G', q1, q2, q3, q4⟩ := frzs_sound hr hvl (fun i v x hv hx => by
      rw [hvg i (get_lt hx)] at hv
      obtain ⟨v', hv', hc⟩ := h5 i x hx
      rw [hv] at hv'; cases hv'
      exact hc) hfs
     have hbx := frzs_bx hfs hes
     have hfz := HR.freeze q1 hbx hi rfl
     have hef := Ext.freeze (G := G') (w := w) hbx hi rfl
     refine ⟨_, hfz, .rp b (o + 0) ds (.inr rfl) (fun k x hx => ?_), q2.trans hef, rfl⟩
     have hk : k < cs.length := by rw [← q3]; exact get_lt hx
     have hv : c[o + k]? = some (c[o + k]'(by omega)) := Array.getElem?_eq_getElem _
     refine ⟨_, by rw [cell_of h2', Nat.add_zero]; exact hv, ?_⟩
     exact (q4 k _ x (by rw [hvg k hk]; exact hv) hx).ext hef q1
   ·cases hf
  ·cases hf
 ·cases hf
theorem frzCs_sound : ∀ {xs ys : List CV} {vs : List Value} {G : Nat → Prop} {h h' : Hp}, HR G ι h w → vs.length = xs.length →
  (∀ (i : Nat) (v : Value) (x : CV), vs[i]? = some v → xs[i]? = some x → CR G w ι h v x) → frzCs h xs = some (ys, h') →
  ∃ G', HR G' ι h' w ∧ Ext G ι h w G' ι h' w ∧ vs.length = ys.length ∧ ys.all pureC = true ∧ ∀ (i : Nat) (v : Value) (y : CV), vs[i]? = some v → ys[i]? = some y → CR G' w ι h' v y := by
 intro xs
 induction xs with
 | nil =>
  intro ys vs G h h' hr hl _ hf
  simp only [frzCs, Option.some.injEq, Prod.mk.injEq] at hf
  obtain ⟨rfl, rfl⟩ := hf
  exact ⟨G, hr, Ext.refl _ _ _ _, hl, rfl, by simp⟩
 | cons x xs ih =>
  intro ys vs G h h' hr hl hc hf
  cases vs with
  | nil => simp at hl
  | cons v vs =>
   simp only [frzCs] at hf
   split at hf
   ·rename_i y h1 hy
    split at hf
    ·rename_i l h2 hl2
     cases hf
     obtain ⟨G1, k1, k2, k3, k4⟩ := frzC_sound hr (hc 0 v x rfl rfl) hy
     obtain ⟨G2, q1, q2, q3, q4, q5⟩ := ih k1 (by simpa using hl) (fun i v x hv hx => (hc (i + 1) v x (by simpa using hv) (by simpa using hx)).ext k3 hr) hl2
     refine ⟨G2, q1, k3.trans q2, by simp [q3], by simp [k4, q4], fun i v' y' hv hy' => ?_⟩
     cases i with
     | zero => simp at hv hy'; subst hv hy'; exact k2.ext q2 k1
     | succ i => simp at hv hy'; exact q5 i v' y' hv hy'
    ·cases hf
   ·cases hf
theorem frzA1_sound {v : Value} {x y : AV} {h' : Hp} (hr : HR G ι h w) (hx : VR G w ι h v x) (hf : frzA1 h x = some (y, h')) :
  ∃ G', HR G' ι h' w ∧ VR G' w ι h' v y ∧ Ext G ι h w G' ι h' w ∧ pureA y = true := by
 cases hx with
 | c _ x hc =>
  simp only [frzA1] at hf
  split at hf
  ·rename_i z h1 hz
   cases hf
   obtain ⟨G', k1, k2, k3, k4⟩ := frzC_sound hr hc hz
   exact ⟨G', k1, .c _ _ k2, k3, k4⟩
  ·cases hf
 | agg cs l hn hc =>
  simp only [frzA1] at hf
  split at hf
  ·rename_i z h1 hz
   cases hf
   obtain ⟨G', k1, k2, k3, k4, k5⟩ := frzCs_sound hr (vs := cs.toList) (by simpa using hn) (fun i v x hv hx => hc i v x (by simpa using hv) hx) hz
   exact ⟨G', k1, .agg _ _ (by simpa using k3) (fun i v x hv hx => k5 i v x (by simpa using hv) hx), k2, k4⟩
  ·cases hf
 | tup => simp [frzA1] at hf
theorem frzAs_sound : ∀ {xs ys : List AV} {vs : List Value} {G : Nat → Prop} {h h' : Hp}, HR G ι h w → VRs G w ι h vs xs → frzAs h xs = some (ys, h') →
  ∃ G', HR G' ι h' w ∧ Ext G ι h w G' ι h' w ∧ VRs G' w ι h' vs ys ∧ pureA.pureAs ys = true := by
 intro xs
 induction xs with
 | nil =>
  intro ys vs G h h' hr hv hf
  simp only [frzAs, Option.some.injEq, Prod.mk.injEq] at hf
  obtain ⟨rfl, rfl⟩ := hf
  exact ⟨G, hr, Ext.refl _ _ _ _, hv, rfl⟩
 | cons x xs ih =>
  intro ys vs G h h' hr hv hf
  obtain ⟨hl, hc⟩ := hv
  cases vs with
  | nil => simp at hl
  | cons v vs =>
   simp only [frzAs] at hf
   split at hf
   ·rename_i y h1 hy
    split at hf
    ·rename_i l h2 hl2
     cases hf
     obtain ⟨G1, k1, k2, k3, k4⟩ := frzA1_sound hr (hc 0 v x rfl rfl) hy
     obtain ⟨G2, q1, q2, q3, q4⟩ := ih k1 ⟨by simpa using hl, fun i v x hv hx => (hc (i + 1) v x (by simpa using hv) (by simpa using hx)).ext k3 hr⟩ hl2
     refine ⟨G2, q1, k3.trans q2, ⟨by simp [q3.1], fun i v' y' hv hy' => ?_⟩, by simp [pureA.pureAs, k4, q4]⟩
     cases i with
     | zero => simp at hv hy'; subst hv hy'; exact k2.ext q2 k1
     | succ i => simp at hv hy'; exact q3.2 i v' y' hv hy'
    ·cases hf
   ·cases hf
theorem asAddr_some {b o : Nat} : (asAddr (.pointer (some ⟨b, o, none⟩))).run P w = .ok ⟨b, o, none⟩ w := rfl
theorem results_run {tmps : Array Value} {e : Env} (hr : HR G ι h w) (he : ∀ i, VR G w ι h (tmps.getD i undef) (e i)) : ∀ (rs : List ResultVar) (res : List (Nat × Option (Option Nat))) (vs : List AV), resC P rs = some res → resA e h res = some vs →
  ∃ us : List Value, (rs.mapM fun (r : ResultVar) => (match r with | .tmp t => (pure (tmps.getD t undef) : Sem Value) | .cell a t => do loadVar t (← asAddr (tmps.getD a undef)))).run P w = .ok us w ∧ VRs G w ι h us vs := by
 intro rs
 induction rs with
 | nil =>
  intro res vs h1 h2
  simp only [resC, Option.some.injEq] at h1; subst h1
  simp only [resA, Option.some.injEq] at h2; subst h2
  exact ⟨[], by simp, rfl, by simp⟩
 | cons r rs ih =>
  intro res vs h1 h2
  have fin : ∀ (l : List (Nat × Option (Option Nat))) (l2 : List AV) (u : Value) (x : AV), resC P rs = some l → resA e h l = some l2 → vs = x :: l2 → VR G w ι h u x →
    ((match r with | .tmp t => (pure (tmps.getD t undef) : Sem Value) | .cell a t => do loadVar t (← asAddr (tmps.getD a undef)))).run P w = .ok u w →
    ∃ us : List Value, ((r :: rs).mapM fun (r : ResultVar) => (match r with | .tmp t => (pure (tmps.getD t undef) : Sem Value) | .cell a t => do loadVar t (← asAddr (tmps.getD a undef)))).run P w = .ok us w ∧ VRs G w ι h us vs := by
   intro l l2 u x a1 a2 a3 a4 a5
   obtain ⟨us, q1, q2, q3⟩ := ih l l2 a1 a2
   subst a3
   refine ⟨u :: us, ?_, by simp [q2], fun i v y hv hy => ?_⟩
   ·simp only [List.mapM_cons, Sem.run_bind, a5, Result.andThen_ok, q1, Sem.run_pure]
   ·cases i with
    | zero => simp at hv hy; subst hv hy; exact a4
    | succ i => simp at hv hy; exact q3 i v y hv hy
  cases r with
  | tmp t =>
   simp only [resC] at h1
   split at h1
   ·rename_i l hl
    cases h1
    simp only [resA] at h2
    split at h2
    ·rename_i l2 hl2
     cases h2
     exact fin l l2 _ _ hl hl2 rfl (he t) rfl
    ·cases h2
   ·cases h1
  | cell t ty =>
   simp only [resC] at h1
   split at h1
   ·rename_i k l hk hl
    cases h1
    simp only [resA] at h2
    split at h2
    ·rename_i l2 hl2
     cases k with
     | none =>
      simp only at h2
      split at h2
      ·rename_i c cs hrd
       cases h2
       obtain ⟨b, o, hv, hc⟩ := rd_sound hr (he t) hrd
       obtain ⟨v, k1, k2⟩ := s_ld1 (P := P) hr (he t) hk hrd
       rw [hv] at k1
       refine fin l l2 v _ hl hl2 rfl k2 ?_
       simp only [hv, Sem.run_bind, asAddr_some, Result.andThen_ok]
       simpa [Instr.loadAt, Instr.sureAddr] using k1
      ·cases h2
     | some n =>
      simp only at h2
      split at h2
      ·rename_i cs hrd
       split at h2
       ·rename_i hn
        cases h2
        obtain ⟨b, o, hv, hc⟩ := rd_sound hr (he t) hrd
        obtain ⟨v, k1, k2⟩ := s_ldn (P := P) hr (he t) hk hrd hn
        rw [hv] at k1
        refine fin l l2 v _ hl hl2 rfl k2 ?_
        simp only [hv, Sem.run_bind, asAddr_some, Result.andThen_ok]
        simpa [Instr.loadAt, Instr.sureAddr] using k1
       ·cases h2
      ·cases h2
    ·cases h2
   ·cases h1
theorem pack_sound {us : List Value} {vs : List AV} (hv : VRs G w ι h us vs) : VR G w ι h (if hs : us.toArray.size = 1 then us.toArray[0] else .tuple us.toArray) (pack vs) := by
 obtain ⟨h1, h2⟩ := hv
 cases us with
 | nil =>
  cases vs with
  | nil => exact .tup _ _ rfl (by simp)
  | cons => simp at h1
 | cons u us =>
  cases vs with
  | nil => simp at h1
  | cons v vs =>
   cases us with
   | nil =>
    cases vs with
    | nil => exact h2 0 u v rfl rfl
    | cons => simp at h1
   | cons u2 us =>
    cases vs with
    | nil => simp at h1
    | cons v2 vs =>
     refine .tup _ _ (by simpa using h1) fun i x y hx hy => h2 i x y (by simpa using hx) hy
theorem results_all {fn : Func} {af : AF} {tmps : Array Value} {e : Env} {vs : List AV} (hc : resC P fn.results.toList = some af.res) (hr : HR G ι h w) (he : ∀ i, VR G w ι h (tmps.getD i undef) (e i)) (hv : resA e h af.res = some vs) :
  ∃ us : List Value, (results fn tmps).run P w = .ok (if hs : us.toArray.size = 1 then us.toArray[0] else .tuple us.toArray) w ∧ VRs G w ι h us vs := by
 obtain ⟨us, q1, q2⟩ := results_run (P := P) hr he fn.results.toList af.res vs hc hv
 refine ⟨us, ?_, q2⟩
 simp only [results, Sem.run_bind]
 rw [Array.mapM_eq_mapM_toList, Sem.run_map]
 erw [q1]
 simp only [Result.andThen_ok, Sem.run_pure]
theorem enter_fits {fn : Func} {af : AF} {args : List AV} {vs : List Value} (_hn : af.nt = fn.ntmps) (hl : args.length ≤ fn.ntmps) (hr : HR G ι h w) (hv : VRs G w ι h vs args) :
  Fits fn.ntmps G ι h w (lkL (argL 0 args)) h { tmps := vs.toArray ++ Array.replicate (fn.ntmps - vs.toArray.size) undef, defers := [] } w := by
 refine ⟨G, ι, ⟨hr, ?_, fun i => ?_⟩, Ext.refl _ _ _ _, Marks.nil _ _ _ _ _⟩
 ·have := hv.1; simp; omega
 ·simp only [lk]
  rw [argL_get]
  simp only [Nat.zero_le, if_true, Nat.sub_zero]
  cases hi : args[i]? with
  | none => exact .c _ _ (.u _)
  | some x =>
   have hil := get_lt hi
   have hlt : i < vs.length := by rw [hv.1]; exact hil
   have hvi : vs[i]? = some vs[i] := List.getElem?_eq_getElem hlt
   have : (vs.toArray ++ Array.replicate (fn.ntmps - vs.toArray.size) undef).getD i undef = vs[i] := by
    rw [Array.getD_eq_getD_getElem?, Array.getElem?_append_left (by simpa using hlt)]
    simp [hlt]
   rw [this]
   exact hv.2 i _ x hvi hi
def postP (res : List (Nat × Option (Option Nat))) (K : AV → Prop) : Post := fun x L h => match x with
 | .exit _ => False
 | _ => RetP res L h K
def postH (res : List (Nat × Option (Option Nat))) (K : AV → Hp → Prop) : Post := fun x L h => match x with
 | .exit _ => False
 | _ => RetH res L h K
theorem fn_pure_wp {f : Nat} {fn : Func} {c : Code} {res : List (Nat × Option (Option Nat))} {args : List AV} {K : AV → Prop} (hf : P.funcs[f]? = some fn) (hb : fn.body = some c) (hres : resC P fn.results.toList = some res) (hl : args.length ≤ fn.ntmps)
  (hwp : ∀ (G : Nat → Prop) (ι : Io) (w : World) (a : Act), Fits fn.ntmps G ι [] w (lkL (argL 0 args)) [] a w → c.wpIn (Fen none) 0 P (out fn.ntmps G ι [] w (postP res K)) a w) :
  FnS P f args [] fun r _ => pureA r = true ∧ K r := by
 refine ⟨fun G ι w vs hr hvs => ?_⟩
 refine .of hf (calls_marks hf hb (wpIn_mono (hwp G ι w _ (enter_fits (af := ⟨fn.ntmps, res, .skip⟩) rfl hl hr hvs)) fun x a w' ⟨L, h', hq, hfit⟩ => ?_))
 have fin : RetP res L h' K → LeavesInM Fence.wide 0 P fn a.tmps (fun e w' => ∃ v r G' ι' h'', e = .returned v ∧ (pureA r = true ∧ K r) ∧ HR G' ι' h'' w' ∧ VR G' w' ι' h'' v r ∧ Ext G ι [] w G' ι' h'' w') a.defers .returning w' := by
  intro hret
  refine fits_leave hfit fun G1 ι1 w2 rel ext => ?_
  unfold RetP at hret
  split at hret
  ·rename_i vs' hvs'
   split at hret
   ·rename_i rs h2 hrs
    rw [lkN_fun] at hvs'
    obtain ⟨us, q1, q2⟩ := results_all (P := P) (fn := fn) (af := ⟨fn.ntmps, res, .skip⟩) hres rel.hr rel.env hvs'
    obtain ⟨G2, k1, k2, k3, k4⟩ := frzAs_sound rel.hr q2 hrs
    refine ⟨_, q1, _, pack rs, G2, ι1, h2, rfl, ⟨?_, hret⟩, k1, pack_sound k3, ext.trans k2⟩
    cases rs with
    | nil => rfl
    | cons x rs =>
     cases rs with
     | nil => simp only [pureA.pureAs, Bool.and_true] at k4; exact k4
     | cons y rs => exact k4
   ·exact hret.elim
  ·exact hret.elim
 cases x with
 | normal => exact fin hq
 | ret => exact fin hq
 | exit i => exact hq.elim
 | goto => exact hq.elim
 | panic => exact hq.elim
 | outgrown => exact hq.elim
theorem fn_heap_wp {f : Nat} {fn : Func} {c : Code} {res : List (Nat × Option (Option Nat))} {args : List AV} {h : Hp} {K : AV → Hp → Prop} (hf : P.funcs[f]? = some fn) (hb : fn.body = some c) (hres : resC P fn.results.toList = some res) (hl : args.length ≤ fn.ntmps)
  (hwp : ∀ (G : Nat → Prop) (ι : Io) (w : World) (a : Act), Fits fn.ntmps G ι h w (lkL (argL 0 args)) h a w → c.wpIn (Fen none) 0 P (out fn.ntmps G ι h w (postH res K)) a w) :
  FnS P f args h K := by
 refine ⟨fun G ι w vs hr hvs => ?_⟩
 refine .of hf (calls_marks hf hb (wpIn_mono (hwp G ι w _ (enter_fits (af := ⟨fn.ntmps, res, .skip⟩) rfl hl hr hvs)) fun x a w' ⟨L, h', hq, hfit⟩ => ?_))
 have fin : RetH res L h' K → LeavesInM Fence.wide 0 P fn a.tmps (fun e w' => ∃ v r G' ι' h'', e = .returned v ∧ K r h'' ∧ HR G' ι' h'' w' ∧ VR G' w' ι' h'' v r ∧ Ext G ι h w G' ι' h'' w') a.defers .returning w' := by
  intro hret
  refine fits_leave hfit fun G1 ι1 w2 rel ext => ?_
  unfold RetH at hret
  split at hret
  ·rename_i vs' hvs'
   rw [lkN_fun] at hvs'
   obtain ⟨us, q1, q2⟩ := results_all (P := P) (fn := fn) (af := ⟨fn.ntmps, res, .skip⟩) hres rel.hr rel.env hvs'
   exact ⟨_, q1, _, pack vs', G1, ι1, h', rfl, hret, rel.hr, pack_sound q2, ext⟩
  ·exact hret.elim
 cases x with
 | normal => exact fin hq
 | ret => exact fin hq
 | exit i => exact hq.elim
 | goto => exact hq.elim
 | panic => exact hq.elim
 | outgrown => exact hq.elim
theorem compF_spec {fn : Func} {af : AF} (hc : compF P fn = some af) : ∃ c, fn.body = some c ∧ compC P fn.ntmps c = some af.body ∧ resC P fn.results.toList = some af.res ∧ af.nt = fn.ntmps := by
 unfold compF at hc
 split at hc
 ·rename_i c hb
  split at hc
  ·rename_i ac res hac hres
   cases hc
   exact ⟨c, hb, hac, hres, rfl⟩
  ·cases hc
 ·cases hc
theorem fn_pure {f : Nat} {fn : Func} {af : AF} {args : List AV} {K : AV → Prop} (hm : P.follows .mixedOrders = true) (hf : P.funcs[f]? = some fn) (hc : compF P fn = some af) (hl : args.length ≤ af.nt) (hv : ∀ Λ : Len, (∀ l, Λ l = (l.length : Int)) → vcF P Λ af args K) :
  FnS P f args [] fun r _ => pureA r = true ∧ K r := by
 obtain ⟨c, hb, hac, hres, hn⟩ := compF_spec hc
 refine fn_pure_wp hf hb hres (by omega) fun G ι w a hfit => ?_
 refine wpIn_mono (vcC_sound (Λ := fun l => l.length) (fun _ => rfl) (m := 0) hm (by simp) c af.body _ _ _ _ _ hac (hv (fun l => l.length) fun _ => rfl) hfit) fun x a' w' ⟨L', h', hq, hf'⟩ => ⟨L', h', ?_, hf'⟩
 cases x <;> first | exact hq.elim | exact RetQ.ret hq
theorem fn_heap {f : Nat} {fn : Func} {af : AF} {args : List AV} {h : Hp} {K : AV → Hp → Prop} (hm : P.follows .mixedOrders = true) (hf : P.funcs[f]? = some fn) (hc : compF P fn = some af) (hl : args.length ≤ af.nt) (hv : ∀ Λ : Len, (∀ l, Λ l = (l.length : Int)) → vcH P Λ af args h K) :
  FnS P f args h K := by
 obtain ⟨c, hb, hac, hres, hn⟩ := compF_spec hc
 exact fn_heap_wp hf hb hres (by omega) fun G ι w a hfit => vcC_sound (Λ := fun l => l.length) (fun _ => rfl) (m := h.length) hm (Nat.le_refl _) c af.body _ _ _ _ _ hac (hv (fun l => l.length) fun _ => rfl) hfit
end
end Go.Ab

/-
  The engine, part z: running a closed call.
-/
namespace Go.Ab
def zC (l v sz : Nat) (es : List (List D)) : CV → CV
 | .arr l' v' i n => match Nat.beq l' l, Nat.beq v' v with
  | true, true => .d (.list false sz es)
  | _, _ => .arr l' v' i n
 | x => x
def zCs (l v sz : Nat) (es : List (List D)) : List CV → List CV
 | [] => []
 | x :: r => zC l v sz es x :: zCs l v sz es r
def zA (l v sz : Nat) (es : List (List D)) : AV → AV
 | .c (.fn b f cs) => .c (.fn b f (zCs l v sz es cs))
 | .c x => .c (zC l v sz es x)
 | .agg xs => .agg (zCs l v sz es xs)
 | x => x
def zB (l v sz : Nat) (es : List (List D)) : Blk → Blk
 | .bx cs => .bx (zCs l v sz es cs)
 | b => b
def zH (l v sz : Nat) (es : List (List D)) : Nat → Hp → Hp
 | _, [] => []
 | n, b :: r => (match Nat.beq n l with
  | true => .dead
  | false => zB l v sz es b) :: zH l v sz es (n + 1) r
def zL (l v sz : Nat) (es : List (List D)) : Lv → Lv
 | [] => []
 | (i, x) :: r => (i, zA l v sz es x) :: zL l v sz es r
def okC (l v k : Nat) : CV → Prop
 | .arr l' v' i n => match Nat.beq l' l, Nat.beq v' v with
  | true, true => i = 0 ∧ n = k
  | _, _ => True
 | _ => True
def okCs (l v k : Nat) : List CV → Prop
 | [] => True
 | x :: r => okC l v k x ∧ okCs l v k r
def okA (l v k : Nat) : AV → Prop
 | .c (.fn _ _ cs) => okCs l v k cs
 | .c x => okC l v k x
 | .agg xs => okCs l v k xs
 | _ => True
def okB (l v k : Nat) : Blk → Prop
 | .bx cs => okCs l v k cs
 | _ => True
def okH (l v k : Nat) : Hp → Prop
 | [] => True
 | b :: r => okB l v k b ∧ okH l v k r
def okL (l v k : Nat) : Lv → Prop
 | [] => True
 | (_, x) :: r => okA l v k x ∧ okL l v k r
theorem zC_ok {l v sz k : Nat} {es : List (List D)} (hk : k = es.length) {x : CV} (h : okC l v k x) : FzC l v sz es x (zC l v sz es x) := by
 cases x with
 | arr l' v' i n =>
  simp only [okC] at h
  simp only [zC]
  split at h
  ·rename_i hl hv
   obtain ⟨rfl, rfl⟩ := h
   have hl : l' = l := Nat.eq_of_beq_eq_true hl
   have hv : v' = v := Nat.eq_of_beq_eq_true hv
   subst hl hv
   exact .arr _ hk
  ·exact .keep _
 | _ => exact .keep _
theorem zCs_ok {l v sz k : Nat} {es : List (List D)} (hk : k = es.length) : ∀ {xs : List CV}, okCs l v k xs → FzCs l v sz es xs (zCs l v sz es xs) := by
 intro xs
 induction xs with
 | nil => intro _; trivial
 | cons x r ih => intro h; exact ⟨zC_ok hk h.1, ih h.2⟩
theorem zA_ok {l v sz k : Nat} {es : List (List D)} (hk : k = es.length) {x : AV} (h : okA l v k x) : FzA l v sz es x (zA l v sz es x) := by
 cases x with
 | c x =>
  cases x with
  | fn b f cs => exact .fn _ _ _ _ (zCs_ok hk h)
  | _ => exact .c _ _ (zC_ok hk h)
 | agg xs => exact .agg _ _ (zCs_ok hk h)
 | tup => exact .same _
theorem lkN_z {l v sz : Nat} {es : List (List D)} : ∀ (L : Lv) (i : Nat), lkN (zL l v sz es L) i = zA l v sz es (lkN L i) := by
 intro L
 induction L with
 | nil => intro i; rfl
 | cons p r ih =>
  intro i
  obtain ⟨j, x⟩ := p
  simp only [zL, lkN]
  split <;> simp_all
theorem okL_get {l v k : Nat} : ∀ {L : Lv}, okL l v k L → ∀ i, okA l v k (lkN L i) := by
 intro L
 induction L with
 | nil => intro _ i; trivial
 | cons p r ih =>
  intro h i
  obtain ⟨j, x⟩ := p
  simp only [lkN]
  split
  ·exact h.1
  ·exact ih h.2 i
theorem zH_ok {l v sz k : Nat} {es : List (List D)} (hk : k = es.length) : ∀ {h : Hp} {n : Nat}, okH l v k h → FzH l v sz es n h (zH l v sz es n h) := by
 intro h
 induction h with
 | nil => intro n _; trivial
 | cons b r ih =>
  intro n ho
  refine ⟨?_, ih ho.2⟩
  cases hb : Nat.beq n l with
  | true => exact .inl ⟨Nat.eq_of_beq_eq_true hb, rfl⟩
  | false =>
   refine .inr ⟨(fun e => by subst e; rw [Nat.beq_refl] at hb; cases hb), ?_⟩
   cases b with
   | bx cs => exact .bx _ _ (zCs_ok hk ho.1)
   | _ => exact .same _
theorem runO.mono {P : Program} {m : Nat} {d : Bool} {K K' : Lv → Hp → Prop} (hK : ∀ L h, K L h → K' L h) : ∀ {ops : List AO} {L : Lv} {h : Hp}, runO P m d ops L h K → runO P m d ops L h K' := by
 intro ops
 induction ops with
 | nil => intro L h hr; exact hK _ _ hr
 | cons o r ih =>
  intro L h hr
  rcases hr with ⟨h1, h2⟩ | ⟨h1, h2⟩
  ·exact .inl ⟨h1, h2.mono fun L' v h' hr => ih hr⟩
  ·exact .inr ⟨h1, ih h2⟩
end Go.Ab

