/-
  The engine, part k: the abstract step of an operation, and the operation that a text's one stands for.
-/
import Derived.Test.YtjaodmgeonfkiaaEj
namespace Go.Ab

def deq : Nat → D → D → Option Bool
  | 0, .int k a, .int k' b => if k = k' then some (a == b) else none
  | 1, .bool a, .bool b => some (a == b)
  | 2, .str a, .str b => some (a == b)
  | _, _, _ => none

def eqc (xs ys : List CV) : List (Nat × Nat) → Option Bool
  | [] => some true
  | (o, k) :: r => match xs[o]?, ys[o]? with
    | some (.d a), some (.d b) => match deq k a b, eqc xs ys r with
      | some c, some d => some (c && d)
      | _, _ => none
    | _, _ => none

def unD : UnOp → D → Option D
  | .not, .bool b => some (.bool !b)
  | .neg, .int k n => some (.int k (k.wrap (0 - n)))
  | .xor, .int k n => some (.int k (k.wrap (BitVec.ofInt k.bits (if k.signed then -1 else k.max) ^^^ BitVec.ofInt k.bits n).toNat))
  | _, _ => none

/-- an optional operand that is a number -/
def oint (e : Env) : Option X → Option (Option Int)
  | none => some none
  | some x => match ev e x with
    | .c (.d (.int _ n)) => some (some n)
    | _ => none

def btsD : List (List D) → Option (List UInt8)
  | [] => some []
  | [.int .u8 n] :: r => (btsD r).map fun l => UInt8.ofNat n.toNat :: l
  | _ :: _ => none

def evs (e : Env) : List X → List AV
  | [] => []
  | x :: r => ev e x :: evs e r

def capsOf : List AV → Option (List CV)
  | [] => some []
  | .c x :: r => (capsOf r).map fun l => x :: l
  | _ :: _ => none

def partsOf (e : Env) : List (Nat × Nat × X) → Option (List (Nat × Nat × List CV))
  | [] => some []
  | (o, s, x) :: r => match cells (ev e x), partsOf e r with
    | some cs, some l => some ((o, s, cs) :: l)
    | _, _ => none

/-- the elements of a composite slice, frozen -/
def elemsOf (h : Hp) (e : Env) : List (Nat × X) → Option (List (Nat × List D) × Hp)
  | [] => some ([], h)
  | (i, x) :: r => match cells (ev e x) with
    | some cs => match frzs h cs with
      | some (ds, h1) => match elemsOf h1 e r with
        | some (l, h2) => some ((i, ds) :: l, h2)
        | none => none
      | none => none
    | none => none

def isNil (h : Hp) : Nat → AV → Option Bool
  | 0, .c (.d (.list true _ _)) => some true
  | 0, .c (.d (.list false _ (_ :: _))) => some false
  | 0, .c (.cl true _ _) => some true
  | 0, .c (.cl false _ (_ :: _)) => some false
  | 0, .c (.arr l v _ _) => match h[l]? with
    | some (.da r v' _ _) => if v' = v then some !r else none
    | _ => none
  | 1, .c (.d .nilp) => some true
  | 1, .c (.rp _) => some false
  | 1, .c (.ptr l v i j) => if solid h (.ptr l v i j) then some false else none
  | _, _ => none

/-- the cells of a key -/
def dvk : Bool → Nat → DV → Option (List D)
  | true, _, .s d => some [d]
  | false, n, .g l => if l.length = n then some l else none
  | _, _, _ => none
def keyDV (ls : List (Nat × Nat)) : Bool → Nat → AV → Option DV
  | true, _, .c (.d x) => match eqc [.d x] [.d x] ls with
    | some _ => some (.s x)
    | none => none
  | false, n, .agg l => match toDs l with
    | some ds => (match Nat.beq ds.length n, eqc (ds.map .d) (ds.map .d) ls with
      | true, some _ => some (.g ds)
      | _, _ => none)
    | none => none
  | _, _, _ => none
/-- what a map is to hold is given up -/
def valDV (h : Hp) : AV → Option (DV × Hp)
  | .c x => match frz h x with
    | some (d, h1) => some (.s d, h1)
    | none => none
  | .agg l => match frzs h l with
    | some (ds, h1) => some (.g ds, h1)
    | none => none
  | _ => none
def avDV : DV → AV
  | .s d => .c (.d d)
  | .g l => .agg (l.map .d)
/-- the first entry with a key -/
def mfind (sc : Bool) (n : Nat) (ls : List (Nat × Nat)) (k : DV) : List (DV × DV) → Nat → Option (Option (Nat × DV))
  | [], _ => some none
  | e :: r, i => match dvk sc n k, dvk sc n e.1 with
    | some xs, some ys => match eqc (xs.map .d) (ys.map .d) ls with
      | some true => some (some (i, e.2))
      | some false => mfind sc n ls k r (i + 1)
      | none => none
    | _, _ => none
def lkR (ok : Bool) (v : AV) (b : Bool) : AV := match ok with
  | true => .tup [v, .c (.d (.bool b))]
  | false => v
/-- how the keys of a type are compared -/
def keyInfo (P : Program) (kt : TypeId) : Option (Bool × Nat × List (Nat × Nat)) :=
  match P.underlying kt, leafEq P 12 kt with
  | some (.int _), some ls => some (true, 1, ls)
  | some .bool, some ls => some (true, 1, ls)
  | some .string, some ls => some (true, 1, ls)
  | some (.array _ _), some ls => if ls.map (·.1) = List.range (P.cellsOf kt) then some (false, P.cellsOf kt, ls) else none
  | some (.struct _), some ls => if ls.map (·.1) = List.range (P.cellsOf kt) then some (false, P.cellsOf kt, ls) else none
  | _, _ => none

/-- further operations -/
def mstep (h : Hp) : MOp → List AV → Option (AV × Hp)
  | .apz sz bytes z, [.c (.d (.list true sz' _)), .c (.d (.int .i64 n))] => if sz' = sz ∧ 0 < n ∧ n.toNat * bytes ≤ 140737488355328 then
      some (.c (.arr h.length 0 0 n.toNat), h ++ [.da true 0 sz (List.replicate n.toNat z)]) else none
  | .mkm, [] => some (.c (.mp h.length), h ++ [.mp 0 []])
  | .lk sc n ls ok z, [.c (.mp l), k] => match h[l]?, keyDV ls sc n k with
    | some (.mp _ es), some kd => match mfind sc n ls kd es 0 with
      | some none => some (lkR ok z false, h)
      | some (some (_, v)) => some (lkR ok (avDV v) true, h)
      | none => none
    | _, _ => none
  | .up sc n ls, [.c (.mp l), k, x] => match keyDV ls sc n k, valDV h x with
    | some kd, some (vd, h1) => match h1[l]? with
      | some (.mp v es) => match mfind sc n ls kd es 0 with
        | some none => some (.c .u, h1.set l (.mp (v + 1) (es ++ [(kd, vd)])))
        | some (some (i, _)) => some (.c .u, h1.set l (.mp (v + 1) (es.set i (kd, vd))))
        | none => none
      | _ => none
    | _, _ => none
  | .del sc n ls, [.c (.mp l), k] => match h[l]?, keyDV ls sc n k with
    | some (.mp v es), some kd => match mfind sc n ls kd es 0 with
      | some none => some (.tup [], h)
      | some (some (i, _)) => some (.tup [], h.set l (.mp (v + 1) (es.eraseIdx i)))
      | none => none
    | _, _ => none
  | .lnm, [.c (.mp l)] => match h[l]? with
    | some (.mp _ es) => some (.c (.d (.int .i64 es.length)), h)
    | _ => none
  | _, _ => none

def astep (e : Env) (h : Hp) : AOp → Option (AV × Hp)
  | .mv x => some (ev e x, h)
  | .pick c a b => match ev e c with
    | .c (.d (.bool t)) => some (if t then ev e a else ev e b, h)
    | _ => none
  | .box x => match cells (ev e x) with
    | some cs => if cellsOk h cs then some (.c (.ptr h.length 0 0 0), h ++ [.bx cs]) else none
    | none => none
  | .build z ps => match partsOf e ps with
    | some as => if as.all (fun a => cellsOk h a.2.2) then (fillA z as).map fun l => (.agg l, h) else none
    | none => none
  | .bsl sz z n ps => match elemsOf h e ps with
    | some (as, h1) => match fillE sz (List.replicate n z) as with
      | some es => if n * sz ≤ 16777216 ∧ n ≤ 16777216 then some (.c (.arr h1.length 0 0 n), h1 ++ [.da true 0 sz es]) else none
      | none => none
    | none => none
  | .ld x none => match rd h (ev e x) with
    | some (c :: _) => some (.c c, h)
    | _ => none
  | .ld x (some n) => match rd h (ev e x) with
    | some cs => if n ≤ cs.length then some (.agg (cs.take n), h) else none
    | none => none
  | .st x v n => match cells (ev e v) with
    | some cs => if cs.length = n ∧ cellsOk h cs = true then
        (match wr h (ev e x) cs with
        | some h' => some (.c .u, h')
        | none => (wrd h (ev e x) cs).map fun h' => (.c .u, h'))
      else none
    | none => none
  | .nilc x => match ev e x with
    | .c (.rp cs) => some (.c (.rp cs), h)
    | .c (.ptr l v i j) => if solid h (.ptr l v i j) then some (.c (.ptr l v i j), h) else none
    | _ => none
  | .bin op a b => match ev e a, ev e b with
    | .c (.d x), .c (.d y) => (binD op x y).map fun d => (.c (.d d), h)
    | _, _ => none
  | .beq ne a b => match ev e a, ev e b with
    | .c (.d (.bool x)), .c (.d (.bool y)) => some (.c (.d (.bool (if ne then !(x == y) else x == y))), h)
    | _, _ => none
  | .eqa ne n ls a b => match ev e a, ev e b with
    | .agg xs, .agg ys => if xs.length = n ∧ ys.length = n then (eqc xs ys ls).map fun r => (.c (.d (.bool (if ne then !r else r))), h) else none
    | _, _ => none
  | .isnil kd ne x => (isNil h kd (ev e x)).map fun r => (.c (.d (.bool (if ne then !r else r))), h)
  | .un op x => match ev e x with
    | .c (.d y) => (unD op y).map fun d => (.c (.d d), h)
    | _ => none
  | .cvi k x => match ev e x with
    | .c (.d (.int _ n)) => some (.c (.d (.int k (k.wrap n))), h)
    | _ => none
  | .bts x => match view h (ev e x) with
    | some (1, l) => (btsD l).map fun s => (.c (.d (.str s)), h)
    | _ => none
  | .sl sz x lo hi mx => match oint e lo, oint e hi, oint e mx with
    | some lo, some hi, some mx => match ev e x with
      | .c (.arr l v i n) => (match h[l]? with
        | some (.da _ v' sz' _) => if v' = v ∧ sz' = sz then (slv sz (.c (.arr l v i n)) lo hi mx).map fun r => (r, h) else none
        | _ => none)
      | xv => (slv sz xv lo hi mx).map fun r => (r, h)
    | _, _, _ => none
  | .sls x lo hi => match oint e lo, oint e hi, ev e x with
    | some lo, some hi, .c (.d (.str s)) => (slb s.length lo hi none).map fun r => (.c (.d (.str ((s.take r.2.1).drop r.1))), h)
    | _, _, _ => none
  | .fa x o => match ev e x with
    | .c (.rp cs) => some (.c (.rp (cs.drop o)), h)
    | .c (.ptr l v i j) => if solid h (.ptr l v i j) then some (.c (.ptr l v i (j + o)), h) else none
    | _ => none
  | .fld x o none => match ev e x with
    | .agg l => (l[o]?).map fun c => (.c c, h)
    | _ => none
  | .fld x o (some n) => match ev e x with
    | .agg l => if o + n ≤ l.length then some (.agg ((l.drop o).take n), h) else none
    | _ => none
  | .ias sz x i => match ev e i with
    | .c (.d (.int _ n)) => (ixv h sz (ev e x) n).map fun r => (r, h)
    | _ => none
  | .iaa n sz x i => match ev e i with
    | .c (.d (.int _ k)) => if 0 ≤ k ∧ k < n then
        (match ev e x with
        | .c (.rp cs) => some (.c (.rp (cs.drop (k.toNat * sz))), h)
        | .c (.ptr l v p j) => if solid h (.ptr l v p j) then some (.c (.ptr l v p (j + k.toNat * sz)), h) else none
        | _ => none)
      else none
    | _ => none
  | .ixs x i => match ev e x, ev e i with
    | .c (.d (.str s)), .c (.d (.int _ k)) => if 0 ≤ k then (s[k.toNat]?).map fun b => (.c (.d (.int .u8 b.toNat)), h) else none
    | _, _ => none
  | .ixa n sz ag x i => match ev e x, ev e i with
    | .agg l, .c (.d (.int _ k)) => if 0 ≤ k ∧ k < n then
        (if ag then (if k.toNat * sz + sz ≤ l.length then some (.agg ((l.drop (k.toNat * sz)).take sz), h) else none)
        else (l[k.toNat * sz]?).map fun c => (.c c, h))
      else none
    | _, _ => none
  | .ext x i => match ev e x with
    | .tup l => (l[i]?).map fun v => (v, h)
    | _ => none
  | .len x => match view h (ev e x) with
    | some (_, l) => some (.c (.d (.int .i64 l.length)), h)
    | none => none
  | .lens x => match ev e x with
    | .c (.d (.str s)) => some (.c (.d (.int .i64 s.length)), h)
    | _ => none
  | .cap x => match ev e x with
    | .c (.d (.list true _ _)) => some (.c (.d (.int .i64 0)), h)
    | .c (.cl _ _ l) => some (.c (.d (.int .i64 l.length)), h)
    | _ => none
  | .app sz bytes _ x y => match view h (ev e y) with
    | some (sz', ys) => if sz' = sz then appv h sz bytes (ev e x) ys else none
    | none => none
  | .mks sz bytes z l c => match ev e l, ev e c with
    | .c (.d (.int _ n)), .c (.d (.int _ m)) => if 0 ≤ n ∧ n ≤ m ∧ m ≤ 9223372036854775807 ∧ m.toNat * bytes ≤ 140737488355328 then some (.c (.arr h.length 0 0 n.toNat), h ++ [.da true 0 sz (List.replicate n.toNat z)]) else none
    | _, _ => none
  | .mkf f xs => (capsOf (evs e xs)).map fun l => (.c (.fn f l), h)
  | .mo o xs => mstep h o (evs e xs)
  | _ => none

def lnil : Operand → Bool
  | .const (.slice none 0 0) => true
  | _ => false
def pnil : Operand → Bool
  | .const (.pointer none) => true
  | _ => false

/-- operands of a composite value -/
def partsC (P : Program) (place : Nat → Option (Nat × Nat × TypeId)) : List (Nat × Operand) → Option (List (Nat × Nat × X))
  | [] => some []
  | (i, o) :: r => match place i with
    | some (off, s, t) => match cx P t o, partsC P place r with
      | some x, some l => some ((off, s, x) :: l)
      | _, _ => none
    | none => none

def elemsC (P : Program) (el : TypeId) : List (Nat × Operand) → Option (List (Nat × X))
  | [] => some []
  | (i, o) :: r => match cx P el o, elemsC P el r with
    | some x, some l => some ((i, x) :: l)
    | _, _ => none

def ocx (P : Program) : Option Operand → Option (Option X)
  | none => some none
  | some o => (cx P 0 o).map some

/-- a built-in function -/
def compB (P : Program) (b : Builtin) (xs : List Operand) (ts : List TypeId) : AOp :=
  match b, xs, ts with
  | .len, [x], [t] => match cx P t x with
    | some a => (match P.underlying t with
      | some .string => .lens a
      | some (.slice _) => .len a
      | some (.map _ _) => .mo .lnm [a]
      | _ => .bad)
    | none => .bad
  | .cap, [x], [t] => match cx P t x with
    | some a => (match P.underlying t with
      | some (.slice _) => .cap a
      | _ => .bad)
    | none => .bad
  | .delete, [x, y], [t, u] => match cx P t x, cx P u y with
    | some a, some b => (match P.underlying t with
      | some (.map k _) => match keyInfo P k with
        | some (sc, n, ls) => .mo (.del sc n ls) [a, b]
        | none => .bad
      | _ => .bad)
    | _, _ => .bad
  | .append, [x, y], [t, u] => match cx P t x, cx P u y with
    | some a, some b => (match P.underlying t, P.underlying u with
      | some (.slice el), some (.slice _) => match zds P el, P.info? el with
        | some z, some i => if 0 < i.bytes then .app i.size i.bytes z a b else .bad
        | _, _ => .bad
      | some (.slice el), some (.int _) => match zds P el, P.info? el with
        | some z, some i => if 0 < i.bytes then .mo (.apz i.size i.bytes z) [a, b] else .bad
        | _, _ => .bad
      | _, _ => .bad)
    | _, _ => .bad
  | _, _, _ => .bad

/-- an operation of the text, its types resolved -/
def compOp (P : Program) (o : Oper) : AOp :=
  match o.op with
  | .move x => match cx P o.type x with
    | some x => .mv x
    | none => .bad
  | .assign x => match cx P o.type x with
    | some x => .mv x
    | none => .bad
  | .pick c a b => match cx P 0 c, cx P o.type a, cx P o.type b with
    | some c, some a, some b => .pick c a b
    | _, _, _ => .bad
  | .alloc el => match P.info? el with
    | some i => match i.zero with
      | some z => match tcav P el z with
        | some v => .box (.k v)
        | none => .bad
      | none => .bad
    | none => .bad
  | .box el x => match cx P el x with
    | some x => .box x
    | none => .bad
  | .build t ps => match P.info? t with
    | some i => match i.zero with
      | some z => match tcav P t z with
        | some (.agg zc) => (match P.underlying t with
          | some (.struct fs) => match partsC P (fun k => match fs[k]? with
              | some f => (P.info? f.type).map fun fi => (f.offset, fi.size, f.type)
              | none => none) ps.toList with
            | some l => if fs.all (fun f => (P.info? f.type).isSome) then .build zc l else .bad
            | none => .bad
          | some (.array _ el) => match P.info? el with
            | some ei => match partsC P (fun k => some (k * ei.size, ei.size, el)) ps.toList with
              | some l => .build zc l
              | none => .bad
            | none => .bad
          | _ => .bad)
        | _ => .bad
      | none => .bad
    | none => .bad
  | .buildSlice t n ps => match P.underlying t with
    | some (.slice el) => match zds P el, elemsC P el ps.toList with
      | some z, some l => .bsl (P.cellsOf el) z n l
      | _, _ => .bad
    | _ => .bad
  | .load t a => match ldk P t, cx P 0 a with
    | some n, some x => .ld x n
    | _, _ => .bad
  | .store t a v => match P.info? t, cx P 0 a, cx P t v with
    | some i, some x, some y => .st x y i.size
    | _, _, _ => .bad
  | .nilCheck x => match cx P 0 x with
    | some x => .nilc x
    | none => .bad
  | .binOp op xt x y _ => match cx P xt x, cx P xt y with
    | some a, some b => (match op with
      | .eql | .neq => (match P.underlying xt with
        | some (.int _) => .bin op a b
        | some .string => .bin op a b
        | some .bool => .beq (op == .neq) a b
        | some (.struct _) => match leafEq P 12 xt with
          | some ls => if P.eqGuardType P.depth xt = false then .eqa (op == .neq) (P.cellsOf xt) ls a b else .bad
          | none => .bad
        | some (.array _ _) => match leafEq P 12 xt with
          | some ls => if P.eqGuardType P.depth xt = false then .eqa (op == .neq) (P.cellsOf xt) ls a b else .bad
          | none => .bad
        | some (.slice _) => if lnil y then .isnil 0 (op == .neq) a else .bad
        | some (.pointer _) => if pnil y then .isnil 1 (op == .neq) a else .bad
        | _ => .bad)
      | _ => .bin op a b)
    | _, _ => .bad
  | .unOp op _ x => match cx P 0 x with
    | some x => .un op x
    | none => .bad
  | .convert src dst x => match cx P src x with
    | some a => (match P.underlying src, P.underlying dst with
      | some (.int _), some (.int k) => .cvi k a
      | some (.slice el), some .string => match P.underlying el with
        | some (.int .u8) => .bts a
        | _ => .bad
      | _, _ => .bad)
    | none => .bad
  | .slice xt x lo hi mx => match cx P xt x, ocx P lo, ocx P hi, ocx P mx with
    | some a, some lo, some hi, some mx => (match P.underlying xt with
      | some .string => match mx with
        | none => .sls a lo hi
        | some _ => .bad
      | some (.slice el) => match P.info? el with
        | some i => .sl i.size a lo hi mx
        | none => .bad
      | _ => .bad)
    | _, _, _, _ => .bad
  | .fieldAddr s x f => match cx P 0 x, P.underlying s with
    | some a, some (.struct fs) => match fs[f]? with
      | some fl => match P.info? fl.type with
        | some i => if i.size ≠ 0 then .fa a fl.offset else .bad
        | none => .bad
      | none => .bad
    | _, _ => .bad
  | .field t x f => match cx P t x, P.underlying t with
    | some a, some (.struct fs) => match fs[f]? with
      | some fl => match ldk P fl.type with
        | some n => .fld a fl.offset n
        | none => .bad
      | none => .bad
    | _, _ => .bad
  | .indexAddr t x i => match cx P t x, cx P 0 i, P.underlying t with
    | some a, some b, some (.slice el) => match P.info? el with
      | some ei => .ias ei.size a b
      | none => .bad
    | some a, some b, some (.array n el) => match P.info? el with
      | some ei => .iaa n ei.size a b
      | none => .bad
    | _, _, _ => .bad
  | .index t x i => match cx P t x, cx P 0 i, P.underlying t with
    | some a, some b, some .string => .ixs a b
    | some a, some b, some (.array n el) => match P.info? el, ldk P el with
      | some ei, some k => .ixa n ei.size k.isSome a b
      | _, _ => .bad
    | _, _, _ => .bad
  | .extract x i => match cx P 0 x with
    | some x => .ext x i
    | none => .bad
  | .makeSlice t l c => match P.underlying t, cx P 0 l, cx P 0 c with
    | some (.slice el), some a, some b => match zds P el, P.info? el with
      | some z, some i => .mks i.size i.bytes z a b
      | _, _ => .bad
    | _, _, _ => .bad
  | .makeFunc (.func f) first caps => match cxs P [] caps.toList with
    | some l => if first.isEmpty then .mkf f l else .bad
    | none => .bad
  | .makeMap _ none => .mo .mkm []
  | .lookup t x i ok => match P.underlying t with
    | some (.map k el) => match keyInfo P k, cx P t x, cx P k i, P.info? el with
      | some (sc, n, ls), some a, some b, some ti => (match ti.zero with
        | some z => match tcav P el z with
          | some zv => .mo (.lk sc n ls ok zv) [a, b]
          | none => .bad
        | none => .bad)
      | _, _, _, _ => .bad
    | _ => .bad
  | .mapUpdate t m k v => match P.underlying t with
    | some (.map kt el) => match keyInfo P kt, cx P t m, cx P kt k, cx P el v with
      | some (sc, n, ls), some a, some b, some x => .mo (.up sc n ls) [a, b, x]
      | _, _, _, _ => .bad
    | _ => .bad
  | .call c => match c.callee with
    | .builtin b => compB P b c.args.toList c.argTypes.toList
    | .value (.func f) => match P.funcs[f]?, cxs P c.argTypes.toList c.args.toList with
      | some fn, some l => if fn.body.isSome ∧ fn.name ≠ "runtime.NumGoroutine" then .call f l else .bad
      | _, _ => .bad
    | .value (.tmp t) => match cxs P c.argTypes.toList c.args.toList with
      | some l => .callv (.t t) l
      | none => .bad
    | _ => .bad
  | _ => .bad

theorem compB_call {P : Program} {b : Builtin} {xs : List Operand} {ts : List TypeId} {f : Nat} {l : List X} : compB P b xs ts ≠ .call f l := by
  unfold compB
  (repeat' split) <;> intro h <;> cases h
theorem compB_callv {P : Program} {b : Builtin} {xs : List Operand} {ts : List TypeId} {x : X} {l : List X} : compB P b xs ts ≠ .callv x l := by
  unfold compB
  (repeat' split) <;> intro h <;> cases h
theorem compB_isnil {P : Program} {b : Builtin} {xs : List Operand} {ts : List TypeId} {k : Nat} {ne : Bool} {x : X} : compB P b xs ts ≠ .isnil k ne x := by
  unfold compB
  (repeat' split) <;> intro h <;> cases h

end Go.Ab
