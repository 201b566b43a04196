/-
  Merged texts, part e.
-/
import Derived.Test.YtollegfnkaomeaaZd
import Derived.ChangeKeysEq
/-
  The engine, part j: '==' on aggregates, leaf by leaf.
-/
namespace Go.Ab
def leafEq (P : Program) : Nat → TypeId → Option (List (Nat × Nat))
 | 0, _ => none
 | d + 1, t => match P.underlying t with
  | some (.int _) => some [(0, 0)]
  | some .bool => some [(0, 1)]
  | some .string => some [(0, 2)]
  | some (.struct fs) => match fs.toList.mapM (fun f => if f.name = "_" ∨ ¬ f.offset + P.cellsOf f.type ≤ P.cellsOf t then none else (leafEq P d f.type).map fun l => l.map fun p => (f.offset + p.1, p.2)) with
   | some ls => if P.stoodInHeld t = false ∧ ls.flatten.all (fun p => decide (p.1 < P.cellsOf t)) = true then some ls.flatten else none
   | none => none
  | some (.array n el) => match (List.range n).mapM (fun i => if ¬ i * P.cellsOf el + P.cellsOf el ≤ P.cellsOf t then none else (leafEq P d el).map fun l => l.map fun p => (i * P.cellsOf el + p.1, p.2)) with
   | some ls => if n ≠ 0 ∧ ls.flatten.all (fun p => decide (p.1 < P.cellsOf t)) = true then some ls.flatten else none
   | none => none
  | _ => none
def sv : Nat → Value → Value → Option Bool
 | 0, .int k a, .int k' b => if k = k' then some (a == b) else none
 | 1, .bool a, .bool b => some (a == b)
 | 2, .string a, .string b => some (a.data.toList == b.data.toList)
 | _, _, _ => none
def eqv (xs ys : Array Value) : List (Nat × Nat) → Option Bool
 | [] => some true
 | (o, k) :: r => match xs[o]?, ys[o]? with
  | some a, some b => match sv k a b, eqv xs ys r with
   | some c, some d => some (c && d)
   | _, _ => none
  | _, _ => none
theorem eqv_append {xs ys : Array Value} : ∀ {l1 l2 : List (Nat × Nat)} {b : Bool}, eqv xs ys (l1 ++ l2) = some b → ∃ b1 b2, eqv xs ys l1 = some b1 ∧ eqv xs ys l2 = some b2 ∧ b = (b1 && b2) := by
 intro l1
 induction l1 with
 | nil => intro l2 b h; exact ⟨true, b, rfl, h, by simp⟩
 | cons p l1 ih =>
  intro l2 b h
  obtain ⟨o, k⟩ := p
  simp only [List.cons_append, eqv] at h ⊢
  split at h
  ·rename_i a b' ha hb
   split at h
   ·rename_i c d hc hd
    cases h
    obtain ⟨b1, b2, h1, h2, h3⟩ := ih hd
    refine ⟨c && b1, b2, ?_, h2, ?_⟩
    ·simp [hc, h1]
    ·rw [h3, Bool.and_assoc]
   ·cases h
  ·cases h
theorem eqv_extract {xs ys : Array Value} {off n : Nat} (hx : off + n ≤ xs.size) (hy : off + n ≤ ys.size) : ∀ {l : List (Nat × Nat)}, (∀ p ∈ l, p.1 < n) →
  eqv (xs.extract off (off + n)) (ys.extract off (off + n)) l = eqv xs ys (l.map fun p => (off + p.1, p.2)) := by
 intro l
 induction l with
 | nil => intro _; rfl
 | cons p l ih =>
  intro hp
  obtain ⟨o, k⟩ := p
  have ho : o < n := hp (o, k) (by simp)
  simp only [eqv, List.map_cons]
  rw [Array.getElem?_extract_of_lt (by omega), Array.getElem?_extract_of_lt (by omega), ih (fun p hp' => hp p (by simp [hp']))]
  rw [Array.getElem?_eq_getElem (show off + o < xs.size by omega), Array.getElem?_eq_getElem (show off + o < ys.size by omega)]
section
variable {P : Program} {w : World}
theorem part_run {t : TypeId} {xs : Array Value} {off : Nat} {d : TypeDesc} (hu : P.underlying t = some d) (hd : aggD d = true) {i : TypeInfo} (hi : P.info? t = some i) :
  (part t xs off).run P w = .ok (.agg (xs.extract off (off + i.size))) w := by
 simp [part, r_isAgg hu, hd, r_size hi]
theorem part_run1 {t : TypeId} {xs : Array Value} {off : Nat} {d : TypeDesc} (hu : P.underlying t = some d) (hd : aggD d = false) {v : Value} (hv : xs[off]? = some v) :
  (part t xs off).run P w = .ok v w := by
 simp [part, r_isAgg hu, hd, hv]
theorem info_und {t : TypeId} {d : TypeDesc} (hu : P.underlying t = some d) : ∃ i, P.info? t = some i := by
 unfold Program.underlying at hu
 split at hu
 ·rename_i heq; exact ⟨_, heq⟩
 ·rename_i heq; exact ⟨_, heq⟩
 ·cases hu
theorem mapM_cons_some {α β : Type} {f : α → Option β} {a : α} {as : List α} {bs : List β} (h : (a :: as).mapM f = some bs) : ∃ b bs', f a = some b ∧ as.mapM f = some bs' ∧ bs = b :: bs' := by
 rw [List.mapM_cons] at h
 simp only [bind, Option.bind_eq_some_iff, pure, Option.some.injEq] at h
 obtain ⟨b, h1, bs', h2, rfl⟩ := h
 exact ⟨b, bs', h1, h2, rfl⟩
def EqOk (P : Program) (dd : Nat) (t : TypeId) (ls : List (Nat × Nat)) : Prop :=
 ∀ (w : World) (xs ys : Array Value) (off : Nat) (b : Bool), off + P.cellsOf t ≤ xs.size → off + P.cellsOf t ≤ ys.size → eqv xs ys (ls.map fun p => (off + p.1, p.2)) = some b →
  ∃ x y, (part t xs off).run P w = .ok x w ∧ (part t ys off).run P w = .ok y w ∧ (Op.equalIn dd t x y).run P w = .ok b w
theorem eqFields_run (dd : Nat) (xs ys : Array Value) (w : World) (n : Nat) (hx : n ≤ xs.size) (hy : n ≤ ys.size) : ∀ (fs : List Field) (g : Field → Option (List (Nat × Nat))) (ls : List (List (Nat × Nat))) (b : Bool),
  (∀ f ∈ fs, ∀ l, g f = some l → f.name ≠ "_" ∧ ∃ l0, l = l0.map (fun p => (f.offset + p.1, p.2)) ∧ EqOk P dd f.type l0 ∧ f.offset + P.cellsOf f.type ≤ n) →
  fs.mapM g = some ls → eqv xs ys ls.flatten = some b → (Op.eqFields dd xs ys fs).run P w = .ok b w := by
 intro fs
 induction fs with
 | nil =>
  intro g ls b _ hm hb
  simp at hm; subst hm
  simp only [List.flatten_nil, eqv, Option.some.injEq] at hb; subst hb
  simp [Op.eqFields]
 | cons f fs ih =>
  intro g ls b hall hm hb
  obtain ⟨l, ls', h1, h2, rfl⟩ := mapM_cons_some hm
  rw [List.flatten_cons] at hb
  obtain ⟨b1, b2, k1, k2, rfl⟩ := eqv_append hb
  obtain ⟨hn, l0, rfl, hok, hle⟩ := hall f (by simp) l h1
  obtain ⟨x, y, p1, p2, p3⟩ := hok w xs ys f.offset b1 (by omega) (by omega) k1
  have hrest := ih g ls' b2 (fun f' hf' => hall f' (by simp [hf'])) h2 k2
  simp only [Op.eqFields, ne_eq, hn, not_false_eq_true, if_true, Sem.run_bind, p1, p2, p3, Result.andThen_ok, Sem.run_ite]
  cases b1
  ·simp
  ·simp [hrest]
theorem eqItems_run (dd : Nat) (el : TypeId) (xs ys : Array Value) (w : World) (n : Nat) (hx : n ≤ xs.size) (hy : n ≤ ys.size) : ∀ (is : List Nat) (g : Nat → Option (List (Nat × Nat))) (ls : List (List (Nat × Nat))) (b : Bool),
  (∀ i ∈ is, ∀ l, g i = some l → ∃ l0, l = l0.map (fun p => (i * P.cellsOf el + p.1, p.2)) ∧ EqOk P dd el l0 ∧ i * P.cellsOf el + P.cellsOf el ≤ n) →
  is.mapM g = some ls → eqv xs ys ls.flatten = some b → (Op.eqItems dd el (P.cellsOf el) xs ys is).run P w = .ok b w := by
 intro is
 induction is with
 | nil =>
  intro g ls b _ hm hb
  simp at hm; subst hm
  simp only [List.flatten_nil, eqv, Option.some.injEq] at hb; subst hb
  simp [Op.eqItems]
 | cons i is ih =>
  intro g ls b hall hm hb
  obtain ⟨l, ls', h1, h2, rfl⟩ := mapM_cons_some hm
  rw [List.flatten_cons] at hb
  obtain ⟨b1, b2, k1, k2, rfl⟩ := eqv_append hb
  obtain ⟨l0, rfl, hok, hle⟩ := hall i (by simp) l h1
  obtain ⟨x, y, p1, p2, p3⟩ := hok w xs ys (i * P.cellsOf el) b1 (by omega) (by omega) k1
  have hrest := ih g ls' b2 (fun i' hi' => hall i' (by simp [hi'])) h2 k2
  simp only [Op.eqItems, Sem.run_bind, p1, p2, p3, Result.andThen_ok, Sem.run_ite]
  cases b1
  ·simp
  ·simp [hrest]
theorem cellsOf_info {t : TypeId} {i : TypeInfo} (hi : P.info? t = some i) : P.cellsOf t = i.size := by simp [Program.cellsOf, hi]
theorem leafEq_ok : ∀ (d : Nat) (t : TypeId) (ls : List (Nat × Nat)), leafEq P d t = some ls → ∀ k, EqOk P (k + d) t ls := by
 intro d
 induction d with
 | zero => intro t ls h; simp [leafEq] at h
 | succ d ih =>
  intro t ls h k w xs ys off b hx hy hb
  unfold leafEq at h
  cases hu : P.underlying t with
  | none => simp [hu] at h
  | some kd =>
   obtain ⟨i, hi⟩ := info_und hu
   have hsz := cellsOf_info hi
   rw [hu] at h
   have scalar : ∀ (q : Nat), aggD kd = false → ls = [(0, q)] → (∀ x y c, sv q x y = some c → (Op.equalIn (k + (d + 1)) t x y).run P w = .ok c w) →
     ∃ x y, (part t xs off).run P w = .ok x w ∧ (part t ys off).run P w = .ok y w ∧ (Op.equalIn (k + (d + 1)) t x y).run P w = .ok b w := by
    intro q ha hl hrun
    subst hl
    simp only [List.map_cons, List.map_nil, eqv, Nat.add_zero] at hb
    split at hb
    ·rename_i x y h1 h2
     split at hb
     ·rename_i c e hc he
      cases he
      cases hb
      exact ⟨x, y, part_run1 hu ha h1, part_run1 hu ha h2, by simpa using hrun x y c hc⟩
     ·cases hb
    ·cases hb
   cases kd
   case int q =>
    simp only [Option.some.injEq] at h
    refine scalar 0 rfl h.symm fun x y c hc => ?_
    unfold sv at hc
    split at hc
    ·split at hc
     ·rename_i heq; subst heq; cases hc; exact run_equalIn_int w (k + d) t _ q _ _ hu
     ·cases hc
    all_goals first | (cases hc; done) | skip
    ·rename_i h0; simp at h0
    ·rename_i h0; simp at h0
   case bool =>
    simp only [Option.some.injEq] at h
    refine scalar 1 rfl h.symm fun x y c hc => ?_
    unfold sv at hc
    split at hc
    ·rename_i h0; simp at h0
    ·cases hc; exact run_equalIn_bool' w (k + d) t _ _ hu
    ·rename_i h0; simp at h0
    ·cases hc
   case string =>
    simp only [Option.some.injEq] at h
    refine scalar 2 rfl h.symm fun x y c hc => ?_
    unfold sv at hc
    split at hc
    ·rename_i h0; simp at h0
    ·rename_i h0; simp at h0
    ·rename_i s1 s2 _
     cases hc
     have := run_equalIn_string w (k + d) t s1 s2 hu
     rw [toList_data, toList_data] at this
     exact this
    ·cases hc
   case struct fs =>
    simp only at h
    split at h
    ·rename_i ls' hm
     split at h
     ·rename_i hcond
      cases h
      have hfs : P.fieldsOf t = fs := by simp [Program.fieldsOf, hu]
      have hall : ∀ p ∈ ls'.flatten, p.1 < i.size := by
       have := hcond.2
       rw [List.all_eq_true] at this
       intro p hp
       have := this p hp
       rw [hsz] at this
       simpa using this
      rw [← eqv_extract (n := i.size) (by omega) (by omega) hall] at hb
      refine ⟨_, _, part_run hu rfl hi, part_run hu rfl hi, ?_⟩
      rw [show k + (d + 1) = (k + d) + 1 from rfl, run_equalIn_struct w (k + d) t _ _ (by rw [hfs]; exact hu) hcond.1, hfs]
      refine eqFields_run (k + d) _ _ w i.size (by simp; omega) (by simp; omega) fs.toList _ ls' b ?_ hm hb
      intro f hf l hl
      split at hl
      ·cases hl
      ·rename_i hnc
       simp only [Option.map_eq_some_iff] at hl
       obtain ⟨l0, hl0, rfl⟩ := hl
       refine ⟨fun e => hnc (.inl e), l0, rfl, ih f.type l0 hl0 k, ?_⟩
       rw [← hsz]
       exact Decidable.not_not.1 fun e => hnc (.inr e)
     ·cases h
    ·cases h
   case array n el =>
    simp only at h
    split at h
    ·rename_i ls' hm
     split at h
     ·rename_i hcond
      cases h
      have hall : ∀ p ∈ ls'.flatten, p.1 < i.size := by
       have := hcond.2
       rw [List.all_eq_true] at this
       intro p hp
       have := this p hp
       rw [hsz] at this
       simpa using this
      rw [← eqv_extract (n := i.size) (by omega) (by omega) hall] at hb
      refine ⟨_, _, part_run hu rfl hi, part_run hu rfl hi, ?_⟩
      cases n with
      | zero => exact absurd rfl hcond.1
      | succ n =>
       have hel : ∃ ie, P.info? el = some ie := by
        have h0 : ∃ l, leafEq P d el = some l := by
         rw [List.range_succ_eq_map] at hm
         obtain ⟨l, _, h1, _, _⟩ := mapM_cons_some hm
         split at h1
         ·cases h1
         ·simp only [Option.map_eq_some_iff] at h1
          obtain ⟨l0, hl0, _⟩ := h1
          exact ⟨l0, hl0⟩
        obtain ⟨l, hl⟩ := h0
        cases d with
        | zero => simp [leafEq] at hl
        | succ d =>
         unfold leafEq at hl
         cases hue : P.underlying el with
         | none => simp [hue] at hl
         | some x => exact info_und hue
       obtain ⟨ie, hie⟩ := hel
       rw [show k + (d + 1) = (k + d) + 1 from rfl, run_equalIn_array w (k + d) _ _ hu hie]
       refine eqItems_run (k + d) el _ _ w i.size (by simp; omega) (by simp; omega) (List.range (n + 1)) _ ls' b ?_ hm hb
       intro j hj l hl
       split at hl
       ·cases hl
       ·rename_i hnc
        simp only [Option.map_eq_some_iff] at hl
        obtain ⟨l0, hl0, rfl⟩ := hl
        refine ⟨l0, rfl, ih el l0 hl0 k, ?_⟩
        rw [← hsz]
        exact Decidable.not_not.1 hnc
     ·cases h
    ·cases h
   all_goals simp at h
end
end Go.Ab

/-
  The engine, part k: the abstract step of an operation, and the operation that a text's one stands for.
-/
namespace Go.Ab
def deq : Nat → D → D → Option Bool
 | 0, .int k a, .int k' b => if k = k' then some (a == b) else none
 | 1, .bool a, .bool b => some (a == b)
 | 2, .str a, .str b => some (a == b)
 | _, _, _ => none
def eqc (xs ys : List CV) : List (Nat × Nat) → Option Bool
 | [] => some true
 | (o, k) :: r => match xs[o]?, ys[o]? with
  | some (.d a), some (.d b) => match deq k a b, eqc xs ys r with
   | some c, some d => some (c && d)
   | _, _ => none
  | _, _ => none
def unD : UnOp → D → Option D
 | .not, .bool b => some (.bool !b)
 | .neg, .int k n => some (.int k (k.wrap (0 - n)))
 | .xor, .int k n => some (.int k (k.wrap (BitVec.ofInt k.bits (if k.signed then -1 else k.max) ^^^ BitVec.ofInt k.bits n).toNat))
 | _, _ => none
def oint (e : Env) : Option X → Option (Option Int)
 | none => some none
 | some x => match ev e x with
  | .c (.d (.int _ n)) => some (some n)
  | _ => none
def btsD : List (List D) → Option (List UInt8)
 | [] => some []
 | [.int .u8 n] :: r => (btsD r).map fun l => UInt8.ofNat n.toNat :: l
 | _ :: _ => none
def evs (e : Env) : List X → List AV
 | [] => []
 | x :: r => ev e x :: evs e r
def capsOf : List AV → Option (List CV)
 | [] => some []
 | .c x :: r => (capsOf r).map fun l => x :: l
 | _ :: _ => none
def partsOf (e : Env) : List (Nat × Nat × X) → Option (List (Nat × Nat × List CV))
 | [] => some []
 | (o, s, x) :: r => match cells (ev e x), partsOf e r with
  | some cs, some l => some ((o, s, cs) :: l)
  | _, _ => none
def elemsOf (h : Hp) (e : Env) : List (Nat × X) → Option (List (Nat × List D) × Hp)
 | [] => some ([], h)
 | (i, x) :: r => match cells (ev e x) with
  | some cs => match frzsM h cs with
   | some (ds, h1) => match elemsOf h1 e r with
    | some (l, h2) => some ((i, ds) :: l, h2)
    | none => none
   | none => none
  | none => none
def isNil (h : Hp) : Nat → AV → Option Bool
 | 0, .c (.d (.list true _ _)) => some true
 | 0, .c (.d (.list false _ (_ :: _))) => some false
 | 0, .c (.cl true _ _) => some true
 | 0, .c (.cl false _ (_ :: _)) => some false
 | 0, .c (.arr l v _ _) => match h[l]? with
  | some (.da r v' _ _) => if v' = v then some !r else none
  | _ => none
 | 1, .c (.d .nilp) => some true
 | 1, .c (.d (.adr _ _)) => some false
 | 0, .c (.d (.sl _ _ _ _ _)) => some false
 | 1, .c (.rp _) => some false
 | 1, .c (.ptr l v i j) => if solid h (.ptr l v i j) then some false else none
 | 2, .c (.d .nilf) => some true
 | 2, .c (.fn _ f _) => if Nat.blt f 4294967296 = true then some false else none
 | _, _ => none
def lenv (h : Hp) : AV → Option Nat
 | .c (.d (.sl _ _ _ n _)) => some n
 | x => (view h x).map fun p => p.2.length
theorem lenv_view {h : Hp} {x : AV} {sz : Nat} {l : List (List D)} (hv : view h x = some (sz, l)) : lenv h x = some l.length := by
 unfold lenv
 split
 ·simp [view] at hv
 ·rw [hv]; rfl
def dvk : Bool → Nat → DV → Option (List D)
 | true, _, .s d => some [d]
 | false, n, .g l => if l.length = n then some l else none
 | _, _, _ => none
def keyDV (ls : List (Nat × Nat)) : Bool → Nat → AV → Option DV
 | true, _, .c (.d x) => match eqc [.d x] [.d x] ls with
  | some _ => some (.s x)
  | none => none
 | false, n, .agg l => match toDs l with
  | some ds => (match Nat.beq ds.length n, eqc (ds.map .d) (ds.map .d) ls with
   | true, some _ => some (.g ds)
   | _, _ => none)
  | none => none
 | _, _, _ => none
def valDV (h : Hp) : AV → Option (DV × Hp)
 | .c x => match frz h x with
  | some (d, h1) => some (.s d, h1)
  | none => none
 | .agg l => match frzs h l with
  | some (ds, h1) => some (.g ds, h1)
  | none => none
 | _ => none
def avDV : DV → AV
 | .s d => .c (.d d)
 | .g l => .agg (l.map .d)
def mfind (sc : Bool) (n : Nat) (ls : List (Nat × Nat)) (k : DV) : List (DV × DV) → Nat → Option (Option (Nat × DV))
 | [], _ => some none
 | e :: r, i => match dvk sc n k, dvk sc n e.1 with
  | some xs, some ys => match eqc (xs.map .d) (ys.map .d) ls with
   | some true => some (some (i, e.2))
   | some false => mfind sc n ls k r (i + 1)
   | none => none
  | _, _ => none
def cmpK (sc : Bool) (n : Nat) (ls : List (Nat × Nat)) (k : DV) (x : D) : Option Bool :=
 match dvk sc n k, dvk sc n (.s x) with
 | some xs, some ys => eqc (xs.map .d) (ys.map .d) ls
 | _, _ => none
def orO : Option Bool → Option Bool → Option Bool
 | some b, some c => some (b || c)
 | _, _ => none
def hasK (sc : Bool) (n : Nat) (ls : List (Nat × Nat)) (k : DV) : List (D × D) → Option Bool
 | [] => some false
 | e :: r => orO (cmpK sc n ls k e.1) (hasK sc n ls k r)
def setOk : List (D × D) → Bool
 | [] => true
 | (_, .bool true) :: r => setOk r
 | _ => false
def lkR (ok : Bool) (v : AV) (b : Bool) : AV := match ok with
 | true => .tup [v, .c (.d (.bool b))]
 | false => v
def keyInfo (P : Program) (kt : TypeId) : Option (Bool × Nat × List (Nat × Nat)) :=
 match P.underlying kt, leafEq P 12 kt with
 | some (.int _), some ls => some (true, 1, ls)
 | some .bool, some ls => some (true, 1, ls)
 | some .string, some ls => some (true, 1, ls)
 | some (.array _ _), some ls => if ls.map (·.1) = List.range (P.cellsOf kt) then some (false, P.cellsOf kt, ls) else none
 | some (.struct _), some ls => if ls.map (·.1) = List.range (P.cellsOf kt) then some (false, P.cellsOf kt, ls) else none
 | _, _ => none
def payA : Bool → List CV → Option AV
 | true, l => some (.agg l)
 | false, [c] => some (.c c)
 | false, _ => none
def tyaS (t : Nat) (ok : Bool) (z : AV) (b : Bool) (f : Nat) (caps : List CV) : Option AV := match Nat.blt f 4294967296 with
 | true => none
 | false => (match Nat.beq f (4294967296 + t) with
  | true => (match payA b caps with
   | some v => some (lkR ok v true)
   | none => none)
  | false => (match ok with
   | true => some (lkR true z false)
   | false => none))
def mstep (h : Hp) : MOp → List AV → Option (AV × Hp)
 | .lit d, [] => some (.c (.d d), h)
 | .mki t, [.c c] => some (.c (.fn false (4294967296 + t) [c]), h)
 | .mki t, [.agg l] => some (.c (.fn true (4294967296 + t) l), h)
 | .tya t ok z, [.c (.fn b f caps)] => (tyaS t ok z b f caps).map fun v => (v, h)
 | .apz sz bytes z, [.c (.d (.list true sz' _)), .c (.d (.int .i64 n))] => if sz' = sz ∧ 0 < n ∧ n.toNat * bytes ≤ 140737488355328 then
   some (.c (.arr h.length 0 0 n.toNat), h ++ [.da true 0 sz (List.replicate n.toNat z)]) else none
 | .mkm, [] => some (.c (.mp h.length), h ++ [.mp 0 []])
 | .lk sc n ls ok z, [.c (.mp l), k] => match h[l]?, keyDV ls sc n k with
  | some (.mp _ es), some kd => match mfind sc n ls kd es 0 with
   | some none => some (lkR ok z false, h)
   | some (some (_, v)) => some (lkR ok (avDV v) true, h)
   | none => none
  | _, _ => none
 | .lk sc n ls ok z, [.c (.d (.mpf es)), k] => match keyDV ls sc n k, setOk es with
  | some kd, true => match hasK sc n ls kd es with
   | some true => some (lkR ok (.c (.d (.bool true))) true, h)
   | some false => some (lkR ok z false, h)
   | none => none
  | _, _ => none
 | .lk sc n ls ok z, [.c (.d .nilm), k] => match keyDV ls sc n k with
  | some _ => some (lkR ok z false, h)
  | none => none
 | .up sc n ls, [.c (.mp l), k, x] => match keyDV ls sc n k, valDV h x with
  | some kd, some (vd, h1) => match h1[l]? with
   | some (.mp v es) => match mfind sc n ls kd es 0 with
    | some none => some (.c .u, h1.set l (.mp (v + 1) (es ++ [(kd, vd)])))
    | some (some (i, _)) => some (.c .u, h1.set l (.mp (v + 1) (es.set i (kd, vd))))
    | none => none
   | _ => none
  | _, _ => none
 | .del sc n ls, [.c (.mp l), k] => match h[l]?, keyDV ls sc n k with
  | some (.mp v es), some kd => match mfind sc n ls kd es 0 with
   | some none => some (.tup [], h)
   | some (some (i, _)) => some (.tup [], h.set l (.mp (v + 1) (es.eraseIdx i)))
   | none => none
  | _, _ => none
 | .lnm, [.c (.mp l)] => match h[l]? with
  | some (.mp _ es) => some (.c (.d (.int .i64 es.length)), h)
  | _ => none
 | .mm mx, [.c (.d (.int k a)), .c (.d (.int k' b))] => if k = k' then some (.c (.d (.int k (if mx then (if a < b then b else a) else (if b < a then b else a)))), h) else none
 | .clr sz z, [.c (.arr l v i n)] => match h[l]? with
  | some (.da r v' sz' es) => if v' = v ∧ sz' = sz then some (.tup [], h.set l (.da r v' sz (es.take i ++ (List.replicate n z ++ es.drop (i + n))))) else none
  | _ => none
 | _, _ => none
def allD : List CV → Option (List D)
 | [] => some []
 | .d x :: r => (match allD r with
  | some l => some (x :: l)
  | none => none)
 | _ :: _ => none
def allM (cs : List CV) : Option (List D) := match allD cs with
 | some ds => (match Nat.ble 10 cs.length with
  | true => some ds
  | false => some (ds.map fgD))
 | none => none
def litE : List (Nat × X) → Option (List (Nat × List D))
 | [] => some []
 | (i, .k v) :: r => (match cells v with
  | some cs => (match allM cs, litE r with
   | some ds, some l => some ((i, ds) :: l)
   | _, _ => none)
  | none => none)
 | _ => none
def litS (sz : Nat) (z : List D) (n : Nat) (l : List (Nat × X)) : Option (List (List D)) := match n with
 | 0 => none
 | _ + 1 => (match litE l with
  | some as => (match fillE sz (List.replicate n z) as with
   | some es => if n * sz ≤ 16777216 ∧ n ≤ 16777216 then some es else none
   | none => none)
  | none => none)
theorem allD_frzs {h : Hp} : ∀ {cs : List CV} {ds : List D}, allD cs = some ds → frzsK h cs = some (ds, h) ∧ frzs h cs = some (ds.map fgD, h) := by
 intro cs
 induction cs with
 | nil => intro ds hd; cases hd; exact ⟨rfl, rfl⟩
 | cons c r ih =>
  intro ds hd
  cases c <;> simp only [allD] at hd <;> first | (cases hd; done) | skip
  split at hd
  ·rename_i l hl
   cases hd
   obtain ⟨h1, h2⟩ := ih hl
   exact ⟨by simp only [frzsK, frzK, toK, h1], by simp only [frzs, frz, h2, List.map_cons]⟩
  ·cases hd
theorem allM_frzs {h : Hp} {cs : List CV} {ds : List D} (hd : allM cs = some ds) : frzsM h cs = some (ds, h) := by
 unfold allM at hd
 split at hd
 ·rename_i ds1 h1
  obtain ⟨k1, k2⟩ := allD_frzs (h := h) h1
  unfold frzsM
  split at hd
  ·rename_i hb; rw [hb]; cases hd; exact k1
  ·rename_i hb; rw [hb]; cases hd; exact k2
 ·cases hd
theorem litE_elems {e : Env} {h : Hp} : ∀ {l : List (Nat × X)} {as : List (Nat × List D)}, litE l = some as → elemsOf h e l = some (as, h) := by
 intro l
 induction l with
 | nil => intro as ha; cases ha; rfl
 | cons p r ih =>
  intro as ha
  obtain ⟨i, x⟩ := p
  cases x with
  | t n => simp only [litE] at ha; cases ha
  | k v =>
   simp only [litE] at ha
   split at ha
   ·rename_i cs hcs
    split at ha
    ·rename_i ds l hd hl
     cases ha
     simp only [elemsOf, ev, hcs, allM_frzs hd, ih hl]
    ·cases ha
   ·cases ha
theorem litS_spec {sz n : Nat} {z : List D} {l : List (Nat × X)} {es : List (List D)} (h : litS sz z n l = some es) : n ≠ 0 ∧ ∃ as, litE l = some as ∧ fillE sz (List.replicate n z) as = some es ∧ n * sz ≤ 16777216 ∧ n ≤ 16777216 := by
 cases n with
 | zero => simp only [litS] at h; cases h
 | succ n =>
  simp only [litS] at h
  split at h
  ·rename_i as ha
   split at h
   ·rename_i es' he
    split at h
    ·rename_i hb
     cases h
     exact ⟨by omega, as, ha, he, hb⟩
    ·cases h
   ·cases h
  ·cases h
def astep (e : Env) (h : Hp) : AOp → Option (AV × Hp)
 | .mv x => some (ev e x, h)
 | .pick c a b => match ev e c with
  | .c (.d (.bool t)) => some (if t then ev e a else ev e b, h)
  | _ => none
 | .box x => match cells (ev e x) with
  | some cs => if cellsOk h cs then some (.c (.ptr h.length 0 0 0), h ++ [.bx cs]) else none
  | none => none
 | .build z ps => match partsOf e ps with
  | some as => if as.all (fun a => cellsOk h a.2.2) then (fillA z as).map fun l => (.agg l, h) else none
  | none => none
 | .bsl sz z n ps => match elemsOf h e ps with
  | some (as, h1) => match fillE sz (List.replicate n z) as with
   | some es => if n * sz ≤ 16777216 ∧ n ≤ 16777216 then some (.c (.arr h1.length 0 0 n), h1 ++ [.da true 0 sz es]) else none
   | none => none
  | none => none
 | .ld x none => match rd h (ev e x) with
  | some (c :: _) => some (.c c, h)
  | _ => none
 | .ld x (some n) => match rd h (ev e x) with
  | some cs => if n ≤ cs.length then some (.agg (cs.take n), h) else none
  | none => none
 | .st x v n => match cells (ev e v) with
  | some cs => if cs.length = n ∧ cellsOk h cs = true then
    (match wr h (ev e x) cs with
    | some h' => some (.c .u, h')
    | none => (wrd h (ev e x) cs).map fun h' => (.c .u, h'))
   else none
  | none => none
 | .nilc x => match ev e x with
  | .c (.rp cs) => some (.c (.rp cs), h)
  | .c (.ptr l v i j) => if solid h (.ptr l v i j) then some (.c (.ptr l v i j), h) else none
  | .c (.d (.adr b o)) => some (.c (.d (.adr b o)), h)
  | _ => none
 | .bin op a b => match ev e a, ev e b with
  | .c (.d x), .c (.d y) => (binD op x y).map fun d => (.c (.d d), h)
  | _, _ => none
 | .beq ne a b => match ev e a, ev e b with
  | .c (.d (.bool x)), .c (.d (.bool y)) => some (.c (.d (.bool (if ne then !(x == y) else x == y))), h)
  | _, _ => none
 | .eqa ne n ls a b => match ev e a, ev e b with
  | .agg xs, .agg ys => if xs.length = n ∧ ys.length = n then (eqc xs ys ls).map fun r => (.c (.d (.bool (if ne then !r else r))), h) else none
  | _, _ => none
 | .isnil kd ne x => (isNil h kd (ev e x)).map fun r => (.c (.d (.bool (if ne then !r else r))), h)
 | .un op x => match ev e x with
  | .c (.d y) => (unD op y).map fun d => (.c (.d d), h)
  | _ => none
 | .cvi k x => match ev e x with
  | .c (.d (.int _ n)) => some (.c (.d (.int k (k.wrap n))), h)
  | _ => none
 | .bts x => match view h (ev e x) with
  | some (1, l) => (btsD l).map fun s => (.c (.d (.str s)), h)
  | _ => none
 | .sl sz x lo hi mx => match oint e lo, oint e hi, oint e mx with
  | some lo, some hi, some mx => match ev e x with
   | .c (.arr l v i n) => (match h[l]? with
    | some (.da _ v' sz' _) => if v' = v ∧ sz' = sz then (slv sz (.c (.arr l v i n)) lo hi mx).map fun r => (r, h) else none
    | _ => none)
   | xv => (slv sz xv lo hi mx).map fun r => (r, h)
  | _, _, _ => none
 | .sls x lo hi => match oint e lo, oint e hi, ev e x with
  | some lo, some hi, .c (.d (.str s)) => (slb s.length lo hi none).map fun r => (.c (.d (.str ((s.take r.2.1).drop r.1))), h)
  | _, _, _ => none
 | .fa x o => match ev e x with
  | .c (.rp cs) => some (.c (.rp (cs.drop o)), h)
  | .c (.ptr l v i j) => if solid h (.ptr l v i j) then some (.c (.ptr l v i (j + o)), h) else none
  | .c (.d (.adr b p)) => some (.c (.d (.adr b (p + o))), h)
  | _ => none
 | .fld x o none => match ev e x with
  | .agg l => (l[o]?).map fun c => (.c c, h)
  | _ => none
 | .fld x o (some n) => match ev e x with
  | .agg l => if o + n ≤ l.length then some (.agg ((l.drop o).take n), h) else none
  | _ => none
 | .ias sz x i => match ev e i with
  | .c (.d (.int _ n)) => (ixv h sz (ev e x) n).map fun r => (r, h)
  | _ => none
 | .iaa n sz x i => match ev e i with
  | .c (.d (.int _ k)) => if 0 ≤ k ∧ k < n then
    (match ev e x with
    | .c (.rp cs) => some (.c (.rp (cs.drop (k.toNat * sz))), h)
    | .c (.ptr l v p j) => if solid h (.ptr l v p j) then some (.c (.ptr l v p (j + k.toNat * sz)), h) else none
    | .c (.d (.adr b p)) => some (.c (.d (.adr b (p + k.toNat * sz))), h)
    | _ => none)
   else none
  | _ => none
 | .ixs x i => match ev e x, ev e i with
  | .c (.d (.str s)), .c (.d (.int _ k)) => if 0 ≤ k then (s[k.toNat]?).map fun b => (.c (.d (.int .u8 b.toNat)), h) else none
  | _, _ => none
 | .ixa n sz ag x i => match ev e x, ev e i with
  | .agg l, .c (.d (.int _ k)) => if 0 ≤ k ∧ k < n then
    (if ag then (if k.toNat * sz + sz ≤ l.length then some (.agg ((l.drop (k.toNat * sz)).take sz), h) else none)
    else (l[k.toNat * sz]?).map fun c => (.c c, h))
   else none
  | _, _ => none
 | .ext x i => match ev e x with
  | .tup l => (l[i]?).map fun v => (v, h)
  | _ => none
 | .len x => match lenv h (ev e x) with
  | some n => some (.c (.d (.int .i64 n)), h)
  | none => none
 | .lens x => match ev e x with
  | .c (.d (.str s)) => some (.c (.d (.int .i64 s.length)), h)
  | _ => none
 | .cap x => match ev e x with
  | .c (.d (.list true _ _)) => some (.c (.d (.int .i64 0)), h)
  | .c (.cl _ _ l) => some (.c (.d (.int .i64 l.length)), h)
  | _ => none
 | .app sz bytes _ x y => match view h (ev e y) with
  | some (sz', ys) => if sz' = sz then appv h sz bytes (ev e x) ys else none
  | none => none
 | .mks sz bytes z l c => match ev e l, ev e c with
  | .c (.d (.int _ n)), .c (.d (.int _ m)) => if 0 ≤ n ∧ n ≤ m ∧ m ≤ 9223372036854775807 ∧ m.toNat * bytes ≤ 140737488355328 then some (.c (.arr h.length 0 0 n.toNat), h ++ [.da true 0 sz (List.replicate n.toNat z)]) else none
  | _, _ => none
 | .mkf b f xs => (capsOf (evs e xs)).map fun l => (.c (.fn b f l), h)
 | .mo o xs => mstep h o (evs e xs)
 | _ => none
def lnil : Operand → Bool
 | .const (.slice none 0 0) => true
 | _ => false
def pnil : Operand → Bool
 | .const (.pointer none) => true
 | _ => false
def fnil : Operand → Bool
 | .const .nilFunc => true
 | _ => false
def partsC (P : Program) (place : Nat → Option (Nat × Nat × TypeId)) : List (Nat × Operand) → Option (List (Nat × Nat × X))
 | [] => some []
 | (i, o) :: r => match place i with
  | some (off, s, t) => match cx P t o, partsC P place r with
   | some x, some l => some ((off, s, x) :: l)
   | _, _ => none
  | none => none
def elemsC (P : Program) (el : TypeId) : List (Nat × Operand) → Option (List (Nat × X))
 | [] => some []
 | (i, o) :: r => match cx P el o, elemsC P el r with
  | some x, some l => some ((i, x) :: l)
  | _, _ => none
def ocx (P : Program) : Option Operand → Option (Option X)
 | none => some none
 | some o => (cx P 0 o).map some
def compB (P : Program) (b : Builtin) (xs : List Operand) (ts : List TypeId) : AOp :=
 match b, xs, ts with
 | .len, [x], [t] => match cx P t x with
  | some a => (match P.underlying t with
   | some .string => .lens a
   | some (.slice _) => .len a
   | some (.map _ _) => .mo .lnm [a]
   | _ => .bad)
  | none => .bad
 | .cap, [x], [t] => match cx P t x with
  | some a => (match P.underlying t with
   | some (.slice _) => .cap a
   | _ => .bad)
  | none => .bad
 | .min, [x, y], [t, u] => match cx P t x, cx P u y with
  | some a, some b => (match P.underlying t with
   | some (.int _) => .mo (.mm false) [a, b]
   | _ => .bad)
  | _, _ => .bad
 | .max, [x, y], [t, u] => match cx P t x, cx P u y with
  | some a, some b => (match P.underlying t with
   | some (.int _) => .mo (.mm true) [a, b]
   | _ => .bad)
  | _, _ => .bad
 | .clear, [x], [t] => match cx P t x with
  | some a => (match P.underlying t with
   | some (.slice el) => match zds P el, P.info? el with
    | some z, some i => .mo (.clr i.size z) [a]
    | _, _ => .bad
   | _ => .bad)
  | none => .bad
 | .delete, [x, y], [t, u] => match cx P t x, cx P u y with
  | some a, some b => (match P.underlying t with
   | some (.map k _) => match keyInfo P k with
    | some (sc, n, ls) => .mo (.del sc n ls) [a, b]
    | none => .bad
   | _ => .bad)
  | _, _ => .bad
 | .append, [x, y], [t, u] => match cx P t x, cx P u y with
  | some a, some b => (match P.underlying t, P.underlying u with
   | some (.slice el), some (.slice _) => match zds P el, P.info? el with
    | some z, some i => if 0 < i.bytes then .app i.size i.bytes z a b else .bad
    | _, _ => .bad
   | some (.slice el), some (.int _) => match zds P el, P.info? el with
    | some z, some i => if 0 < i.bytes then .mo (.apz i.size i.bytes z) [a, b] else .bad
    | _, _ => .bad
   | _, _ => .bad)
  | _, _ => .bad
 | _, _, _ => .bad
def ivRow1 (P : Program) (name : String) (t : Nat) : Option (Nat × Nat × Option (Option Nat)) := match P.info? t with
 | some i => (match i.methods.find? (·.name == name) with
  | some m => (match m.path.toList, m.func with
   | [], some (f, pr) => (match P.funcs[f]? with
    | some fn => (match fn.body.isSome && fn.name != "runtime.NumGoroutine" && Nat.blt f 4294967296 with
     | true => (match P.underlying t with
      | some (.interface _) => none
      | some (.pointer el) => (match pr with
       | true => some (t, f, none)
       | false => (match ldk P el with
        | some k => some (t, f, some k)
        | none => none))
      | some _ => (match pr with
       | true => none
       | false => some (t, f, none))
      | none => none)
     | false => none)
    | none => none)
   | _, _ => none)
  | none => none)
 | none => none
def ivRows (P : Program) (name : String) : List (Nat × Nat × Option (Option Nat)) := (List.range P.types.size).filterMap (ivRow1 P name)
def ivRow : List (Nat × Nat × Option (Option Nat)) → Nat → Option (Nat × Option (Option Nat))
 | [], _ => none
 | (t', f, k) :: r, t => match Nat.beq t' t with
  | true => some (f, k)
  | false => ivRow r t
def rcvA (h : Hp) (pv : AV) : Option (Option Nat) → Option AV
 | none => some pv
 | some none => match rd h pv with
  | some (c :: _) => some (.c c)
  | _ => none
 | some (some n) => match rd h pv with
  | some cs => if n ≤ cs.length then some (.agg (cs.take n)) else none
  | none => none
def compOp (P : Program) (o : Oper) : AOp :=
 match o.op with
 | .move x => match cx P o.type x with
  | some x => .mv x
  | none => .bad
 | .assign x => match cx P o.type x with
  | some x => .mv x
  | none => .bad
 | .pick c a b => match cx P 0 c, cx P o.type a, cx P o.type b with
  | some c, some a, some b => .pick c a b
  | _, _, _ => .bad
 | .alloc el => match P.info? el with
  | some i => match i.zero with
   | some z => match tcav P el z with
    | some v => .box (.k v)
    | none => .bad
   | none => .bad
  | none => .bad
 | .box el x => match cx P el x with
  | some x => .box x
  | none => .bad
 | .build t ps => match P.info? t with
  | some i => match i.zero with
   | some z => match tcav P t z with
    | some (.agg zc) => (match P.underlying t with
     | some (.struct fs) => match partsC P (fun k => match fs[k]? with
       | some f => (P.info? f.type).map fun fi => (f.offset, fi.size, f.type)
       | none => none) ps.toList with
      | some l => if fs.all (fun f => (P.info? f.type).isSome) then .build zc l else .bad
      | none => .bad
     | some (.array _ el) => match P.info? el with
      | some ei => match partsC P (fun k => some (k * ei.size, ei.size, el)) ps.toList with
       | some l => .build zc l
       | none => .bad
      | none => .bad
     | _ => .bad)
    | _ => .bad
   | none => .bad
  | none => .bad
 | .buildSlice t n ps => match P.underlying t with
  | some (.slice el) => match zds P el, elemsC P el ps.toList with
   | some z, some l => (match litS (P.cellsOf el) z n l with
    | some es => .mo (.lit (.list false (P.cellsOf el) es)) []
    | none => .bsl (P.cellsOf el) z n l)
   | _, _ => .bad
  | _ => .bad
 | .load t a => match ldk P t, cx P 0 a with
  | some n, some x => .ld x n
  | _, _ => .bad
 | .store t a v => match P.info? t, cx P 0 a, cx P t v with
  | some i, some x, some y => .st x y i.size
  | _, _, _ => .bad
 | .nilCheck x => match cx P 0 x with
  | some x => .nilc x
  | none => .bad
 | .binOp op xt x y _ => match cx P xt x, cx P xt y with
  | some a, some b => (match op with
   | .eql | .neq => (match P.underlying xt with
    | some (.int _) => .bin op a b
    | some .string => .bin op a b
    | some .bool => .beq (op == .neq) a b
    | some (.struct _) => match leafEq P 12 xt with
     | some ls => if P.eqGuardType P.depth xt = false then .eqa (op == .neq) (P.cellsOf xt) ls a b else .bad
     | none => .bad
    | some (.array _ _) => match leafEq P 12 xt with
     | some ls => if P.eqGuardType P.depth xt = false then .eqa (op == .neq) (P.cellsOf xt) ls a b else .bad
     | none => .bad
    | some (.slice _) => if lnil y then .isnil 0 (op == .neq) a else .bad
    | some (.pointer _) => if pnil y then .isnil 1 (op == .neq) a else .bad
    | some (.func _ _ _) => if fnil y then .isnil 2 (op == .neq) a else .bad
    | _ => .bad)
   | _ => .bin op a b)
  | _, _ => .bad
 | .unOp op _ x => match cx P 0 x with
  | some x => .un op x
  | none => .bad
 | .convert src dst x => match cx P src x with
  | some a => (match P.underlying src, P.underlying dst with
   | some (.int _), some (.int k) => .cvi k a
   | some (.slice el), some .string => match P.underlying el with
    | some (.int .u8) => .bts a
    | _ => .bad
   | _, _ => .bad)
  | none => .bad
 | .slice xt x lo hi mx => match cx P xt x, ocx P lo, ocx P hi, ocx P mx with
  | some a, some lo, some hi, some mx => (match P.underlying xt with
   | some .string => match mx with
    | none => .sls a lo hi
    | some _ => .bad
   | some (.slice el) => match P.info? el with
    | some i => .sl i.size a lo hi mx
    | none => .bad
   | _ => .bad)
  | _, _, _, _ => .bad
 | .fieldAddr s x f => match cx P 0 x, P.underlying s with
  | some a, some (.struct fs) => match fs[f]? with
   | some fl => match P.info? fl.type with
    | some i => if i.size ≠ 0 then .fa a fl.offset else .bad
    | none => .bad
   | none => .bad
  | _, _ => .bad
 | .field t x f => match cx P t x, P.underlying t with
  | some a, some (.struct fs) => match fs[f]? with
   | some fl => match ldk P fl.type with
    | some n => .fld a fl.offset n
    | none => .bad
   | none => .bad
  | _, _ => .bad
 | .indexAddr t x i => match cx P t x, cx P 0 i, P.underlying t with
  | some a, some b, some (.slice el) => match P.info? el with
   | some ei => .ias ei.size a b
   | none => .bad
  | some a, some b, some (.array n el) => match P.info? el with
   | some ei => .iaa n ei.size a b
   | none => .bad
  | _, _, _ => .bad
 | .index t x i => match cx P t x, cx P 0 i, P.underlying t with
  | some a, some b, some .string => .ixs a b
  | some a, some b, some (.array n el) => match P.info? el, ldk P el with
   | some ei, some k => .ixa n ei.size k.isSome a b
   | _, _ => .bad
  | _, _, _ => .bad
 | .extract x i => match cx P 0 x with
  | some x => .ext x i
  | none => .bad
 | .makeSlice t l c => match P.underlying t, cx P 0 l, cx P 0 c with
  | some (.slice el), some a, some b => match zds P el, P.info? el with
   | some z, some i => .mks i.size i.bytes z a b
   | _, _ => .bad
  | _, _, _ => .bad
 | .makeFunc (.func f) first caps => match (match Nat.blt f 4294967296 with
   | true => cxs P [] caps.toList
   | false => none) with
  | some l => if first.isEmpty then .mkf false f l else (match cxs P [] first.toList with
   | some l' => if caps.isEmpty then .mkf true f l' else .bad
   | none => .bad)
  | none => .bad
 | .makeMap _ none => .mo .mkm []
 | .lookup t x i ok => match P.underlying t with
  | some (.map k el) => match keyInfo P k, cx P t x, cx P k i, P.info? el with
   | some (sc, n, ls), some a, some b, some ti => (match ti.zero with
    | some z => match tcav P el z with
     | some zv => .mo (.lk sc n ls ok zv) [a, b]
     | none => .bad
    | none => .bad)
   | _, _, _, _ => .bad
  | _ => .bad
 | .insert t m k v => match P.underlying t with
  | some (.map kt el) => match keyInfo P kt, cx P t m, cx P kt k, cx P el v with
   | some (sc, n, ls), some a, some b, some x => .mo (.up sc n ls) [a, b, x]
   | _, _, _, _ => .bad
  | _ => .bad
 | .mapUpdate t m k v => match P.underlying t with
  | some (.map kt el) => match keyInfo P kt, cx P t m, cx P kt k, cx P el v with
   | some (sc, n, ls), some a, some b, some x => .mo (.up sc n ls) [a, b, x]
   | _, _, _, _ => .bad
  | _ => .bad
 | .makeInterface t x => match P.underlying t, cx P t x with
  | some (.interface _), _ => .bad
  | some _, some a => .mo (.mki t) [a]
  | _, _ => .bad
 | .typeAssert x xt t ok => match P.underlying t, cx P xt x, P.info? t with
  | some (.interface _), _, _ => .bad
  | some _, some a, some i => (match i.zero with
   | some z => (match tcav P t z with
    | some v => .mo (.tya t ok v) [a]
    | none => .bad)
   | none => .bad)
  | _, _, _ => .bad
 | .range t x => match cx P t x, P.underlying t with
  | some a, some (.map _ _) => .rng a
  | _, _ => .bad
 | .next it s => match s, cx P 0 it with
  | false, some x => .nx x
  | _, _ => .bad
 | .entry it => match cx P 0 it with
  | some x => .ent x
  | none => .bad
 | .call c => match c.callee with
  | .builtin b => compB P b c.args.toList c.argTypes.toList
  | .value (.func f) => match P.funcs[f]?, cxs P c.argTypes.toList c.args.toList with
   | some fn, some l => if fn.body.isSome ∧ fn.name ≠ "runtime.NumGoroutine" then .call f l else .bad
   | _, _ => .bad
  | .value (.tmp t) => match cxs P c.argTypes.toList c.args.toList with
   | some l => .callv (.t t) l
   | none => .bad
  | .invoke x name => match cx P 0 x, cxs P c.argTypes.toList c.args.toList with
   | some a, some l => .ivk (ivRows P name) a l
   | _, _ => .bad
  | _ => .bad
 | _ => .bad
theorem compB_call {P : Program} {b : Builtin} {xs : List Operand} {ts : List TypeId} {f : Nat} {l : List X} : compB P b xs ts ≠ .call f l := by
 unfold compB
 (repeat' split) <;> intro h <;> cases h
theorem compB_callv {P : Program} {b : Builtin} {xs : List Operand} {ts : List TypeId} {x : X} {l : List X} : compB P b xs ts ≠ .callv x l := by
 unfold compB
 (repeat' split) <;> intro h <;> cases h
theorem compB_ivk {P : Program} {b : Builtin} {xs : List Operand} {ts : List TypeId} {rows : List (Nat × Nat × Option (Option Nat))} {x : X} {l : List X} : compB P b xs ts ≠ .ivk rows x l := by
 unfold compB
 (repeat' split) <;> intro h <;> cases h
theorem compB_isnil {P : Program} {b : Builtin} {xs : List Operand} {ts : List TypeId} {k : Nat} {ne : Bool} {x : X} : compB P b xs ts ≠ .isnil k ne x := by
 unfold compB
 (repeat' split) <;> intro h <;> cases h
end Go.Ab

/-
  The engine, part l: each operation does in the model what its abstract step says.
-/
namespace Go.Ab
section
variable {P : Program} {N : Nat} {G : Nat → Prop} {ι : Io} {e : Env} {h h' : Hp} {a : Act} {w : World} {o : Oper} {av : AV}
theorem bad_step {x : AV × Hp} : astep e h .bad ≠ some x := by simp [astep]
theorem inv_d {v : Value} {x : D} (hv : VR G w ι h v (.c (.d x))) : DR G w v x := by
 cases hv with
 | c _ _ hc => cases hc with
  | d _ _ hd => exact hd
theorem inv_bool {v : Value} {b : Bool} (hv : VR G w ι h v (.c (.d (.bool b)))) : v = .bool b := by
 cases inv_d hv; rfl
theorem inv_int {v : Value} {k : IntKind} {n : Int} (hv : VR G w ι h v (.c (.d (.int k n)))) : v = .int k n := by
 cases inv_d hv; rfl
theorem inv_adr {v : Value} {b o : Nat} (hv : VR G w ι h v (.c (.d (.adr b o)))) : v = .pointer (some ⟨b, o, none⟩) := by
 cases inv_d hv; rfl
theorem inv_sl {v : Value} {b o sz n cap : Nat} (hv : VR G w ι h v (.c (.d (.sl b o sz n cap)))) : v = .slice (some ⟨b, o, none⟩) n cap := by
 cases inv_d hv; rfl
theorem inv_str {v : Value} {l : List UInt8} (hv : VR G w ι h v (.c (.d (.str l)))) : ∃ s : ByteArray, v = .string s ∧ s.data.toList = l := by
 cases inv_d hv; exact ⟨_, rfl, rfl⟩
theorem inv_agg {v : Value} {l : List CV} (hv : VR G w ι h v (.agg l)) : ∃ cs : Array Value, v = .agg cs ∧ cs.size = l.length ∧
  ∀ (i : Nat) (v : Value) (x : CV), cs[i]? = some v → l[i]? = some x → CR G w ι h v x := by
 cases hv with
 | agg cs _ hn hc => exact ⟨cs, rfl, hn, hc⟩
theorem inv_tup {v : Value} {l : List AV} (hv : VR G w ι h v (.tup l)) : ∃ cs : Array Value, v = .tuple cs ∧ cs.size = l.length ∧
  ∀ (i : Nat) (v : Value) (x : AV), cs[i]? = some v → l[i]? = some x → VR G w ι h v x := by
 cases hv with
 | tup cs _ hn hc => exact ⟨cs, rfl, hn, hc⟩
theorem inv_c {v : Value} {x : CV} (hv : VR G w ι h v (.c x)) : CR G w ι h v x := by
 cases hv with
 | c _ _ hc => exact hc
theorem inv_rp {v : Value} {cs : List D} (hv : VR G w ι h v (.c (.rp cs))) : ∃ b o, v = .pointer (some ⟨b, o, none⟩) ∧ G b ∧
  ∀ (j : Nat) (x : D), cs[j]? = some x → ∃ v, w.cell? ⟨b, o + j, none⟩ = some v ∧ DR G w v x := by
 cases inv_c hv with
 | rp b o _ hG hc => exact ⟨b, o, rfl, hG, hc⟩
theorem l_mv {x : Operand} (r : Rel N G ι e h a w) (hop : o.op = .move x ∨ o.op = .assign x) (hs : astep e h (compOp P o) = some (av, h')) :
  OpRes G ι h w av h' ((execOp a.eval o).run P w) := by
 have key : ∀ y, cx P o.type x = some y → ev e y = av → h = h' → (execOp a.eval o).run P w = .ok (.value (a.eval x)) w → OpRes G ι h w av h' ((execOp a.eval o).run P w) := by
  intro y hy h1 h2 h3
  subst h1 h2
  exact OpRes.value r.hr h3 (cx_sound hy r)
 rcases hop with hop | hop
 all_goals
  simp only [compOp, hop] at hs
  split at hs
  ·rename_i y hy
   simp only [astep, Option.some.injEq, Prod.mk.injEq] at hs
   exact key y hy hs.1 hs.2 (by simp [execOp, hop])
  ·exact absurd hs bad_step
theorem l_pick {c x y : Operand} (r : Rel N G ι e h a w) (hop : o.op = .pick c x y) (hs : astep e h (compOp P o) = some (av, h')) :
  OpRes G ι h w av h' ((execOp a.eval o).run P w) := by
 simp only [compOp, hop] at hs
 split at hs
 ·rename_i c' x' y' hc hx hy
  simp only [astep] at hs
  split at hs
  ·rename_i t ht
   simp only [Option.some.injEq, Prod.mk.injEq] at hs
   obtain ⟨rfl, rfl⟩ := hs
   have h1 := cx_sound hc r
   rw [ht] at h1
   have hb := inv_bool h1
   refine OpRes.value (v := if t then a.eval x else a.eval y) r.hr (by simp [execOp, hop, hb, asBool]) ?_
   cases t
   ·exact cx_sound hy r
   ·exact cx_sound hx r
  ·cases hs
 ·exact absurd hs bad_step
theorem box_res {v : Value} {x : X} (t : TypeId) (hr : HR G ι h w) (hv : VR G w ι h v (ev e x)) (hs : astep e h (.box x) = some (av, h')) :
  OpRes G ι h w av h' ((do pure (.value (.pointer (some (← newVar t v)))) : Sem Next).run P w) := by
 simp only [astep] at hs
 split at hs
 ·rename_i cs hcs
  split at hs
  ·rename_i hok
   simp only [Option.some.injEq, Prod.mk.injEq] at hs
   obtain ⟨rfl, rfl⟩ := hs
   obtain ⟨k1, k2, k3⟩ := box_sound hr hv hcs hok t
   exact ⟨_, _, G, _, .inl (by simp [newVar, newRow]; rfl), k1, k2, k3⟩
  ·cases hs
 ·cases hs
theorem l_alloc {el : TypeId} (r : Rel N G ι e h a w) (hop : o.op = .alloc el) (hs : astep e h (compOp P o) = some (av, h')) :
  OpRes G ι h w av h' ((execOp a.eval o).run P w) := by
 simp only [compOp, hop] at hs
 split at hs
 ·rename_i i hi
  split at hs
  ·rename_i z hz
   split at hs
   ·rename_i v hv
    have := box_res (P := P) el r.hr (e := e) (x := .k v) (tcav_sound hv G w ι h) hs
    simp only [execOp, hop, Instr.alloc, Sem.run_bind, r_zero hi hz, Result.andThen_ok] at this ⊢
    exact this
   ·exact absurd hs bad_step
  ·exact absurd hs bad_step
 ·exact absurd hs bad_step
theorem l_box {el : TypeId} {x : Operand} (r : Rel N G ι e h a w) (hop : o.op = .box el x) (hs : astep e h (compOp P o) = some (av, h')) :
  OpRes G ι h w av h' ((execOp a.eval o).run P w) := by
 simp only [compOp, hop] at hs
 split at hs
 ·rename_i y hy
  have := box_res (P := P) el r.hr (cx_sound hy r) hs
  simp only [execOp, hop, Instr.box, Sem.run_bind, newVar, newRow, run_newObj, Result.andThen_ok, Sem.run_pure] at this ⊢
  exact this
 ·exact absurd hs bad_step
theorem l_load {t : TypeId} {x : Operand} (r : Rel N G ι e h a w) (hop : o.op = .load t x) (hs : astep e h (compOp P o) = some (av, h')) :
  OpRes G ι h w av h' ((execOp a.eval o).run P w) := by
 simp only [compOp, hop] at hs
 split at hs
 ·rename_i n y hn hy
  have hv := cx_sound hy r
  cases n with
  | none =>
   simp only [astep] at hs
   split at hs
   ·rename_i c cs hrd
    simp only [Option.some.injEq, Prod.mk.injEq] at hs
    obtain ⟨rfl, rfl⟩ := hs
    obtain ⟨v, k1, k2⟩ := s_ld1 (P := P) r.hr hv hn hrd
    exact OpRes.value r.hr (by simp [execOp, hop, k1]) k2
   ·cases hs
  | some m =>
   simp only [astep] at hs
   split at hs
   ·rename_i cs hrd
    split at hs
    ·rename_i hm
     simp only [Option.some.injEq, Prod.mk.injEq] at hs
     obtain ⟨rfl, rfl⟩ := hs
     obtain ⟨v, k1, k2⟩ := s_ldn (P := P) r.hr hv hn hrd hm
     exact OpRes.value r.hr (by simp [execOp, hop, k1]) k2
    ·cases hs
   ·cases hs
 ·exact absurd hs bad_step
theorem l_store {t : TypeId} {x y : Operand} (r : Rel N G ι e h a w) (hop : o.op = .store t x y) (hs : astep e h (compOp P o) = some (av, h')) :
  OpRes G ι h w av h' ((execOp a.eval o).run P w) := by
 simp only [compOp, hop] at hs
 split at hs
 ·rename_i i x' y' hi hx hy
  simp only [astep] at hs
  split at hs
  ·rename_i cs hcs
   split at hs
   ·rename_i hcond
    have key : ∀ h1, (wr h (ev e x') cs = some h1 ∨ wrd h (ev e x') cs = some h1) → OpRes G ι h w (.c .u) h1 ((execOp a.eval o).run P w) := by
     intro h1 hw
     obtain ⟨w', k1, k2, k3⟩ := s_st (P := P) r.hr (cx_sound hx r) (cx_sound hy r) hi hcs hcond.2 hcond.1 hw
     exact ⟨undef, w', G, ι, .inr ⟨by simp [execOp, hop, k1], rfl⟩, k2, .c _ _ (.u _), k3⟩
    split at hs
    ·rename_i h1 hw
     simp only [Option.some.injEq, Prod.mk.injEq] at hs
     obtain ⟨rfl, rfl⟩ := hs
     exact key _ (.inl hw)
    ·simp only [Option.map_eq_some_iff, Prod.mk.injEq] at hs
     obtain ⟨h1, hw, rfl, rfl⟩ := hs
     exact key _ (.inr hw)
   ·cases hs
  ·cases hs
 ·exact absurd hs bad_step
theorem l_nilc {x : Operand} (r : Rel N G ι e h a w) (hop : o.op = .nilCheck x) (hs : astep e h (compOp P o) = some (av, h')) :
  OpRes G ι h w av h' ((execOp a.eval o).run P w) := by
 simp only [compOp, hop] at hs
 split at hs
 ·rename_i y hy
  have hv := cx_sound hy r
  simp only [astep] at hs
  split at hs
  ·rename_i cs hcs
   simp only [Option.some.injEq, Prod.mk.injEq] at hs
   obtain ⟨rfl, rfl⟩ := hs
   rw [hcs] at hv
   obtain ⟨b, o', hp, _, _⟩ := inv_rp hv
   exact OpRes.value r.hr (by simp [execOp, hop, hp]) (hp ▸ hv)
  ·rename_i l v i j hcs
   split at hs
   ·rename_i hsol
    simp only [Option.some.injEq, Prod.mk.injEq] at hs
    obtain ⟨rfl, rfl⟩ := hs
    rw [hcs] at hv
    obtain ⟨blk, b, o', k, _, _, _, _, hp⟩ := ptr_at (inv_c hv) hsol
    exact OpRes.value r.hr (by simp [execOp, hop, hp]) (hp ▸ hv)
   ·cases hs
  ·rename_i b o' hcs
   simp only [Option.some.injEq, Prod.mk.injEq] at hs
   obtain ⟨rfl, rfl⟩ := hs
   rw [hcs] at hv
   have hp := inv_adr hv
   exact OpRes.value r.hr (by simp [execOp, hop, hp]) (hp ▸ hv)
  ·cases hs
 ·exact absurd hs bad_step
end
end Go.Ab

/-
  The engine, part m: the other operations.
-/
namespace Go.Ab
section
variable {P : Program} {N : Nat} {G : Nat → Prop} {ι : Io} {e : Env} {h h' : Hp} {a : Act} {w : World} {o : Oper} {av : AV}
theorem deq_sv {v1 v2 : Value} {d1 d2 : D} {k : Nat} {c : Bool} (r1 : CR G w ι h v1 (.d d1)) (r2 : CR G w ι h v2 (.d d2)) (hc : deq k d1 d2 = some c) : sv k v1 v2 = some c := by
 cases r1 with
 | d _ _ r1 =>
  cases r2 with
  | d _ _ r2 =>
   unfold deq at hc
   split at hc
   ·cases r1; cases r2; simpa [sv] using hc
   ·cases r1; cases r2; simpa [sv] using hc
   ·cases r1; cases r2; simpa [sv] using hc
   ·cases hc
theorem andThen_assoc {α β γ : Type} (r : Result α) (f : α → World → Result β) (g : β → World → Result γ) : (r.andThen f).andThen g = r.andThen fun x w => (f x w).andThen g := by
 cases r <;> rfl
theorem equalIn_slice_nil (d : Nat) {t el : TypeId} (hu : P.underlying t = some (.slice el)) (ad : Option Addr) (n c : Nat) : (Op.equalIn (d + 1) t (.slice ad n c) (.slice none 0 0)).run P w = .ok ad.isNone w := by
 cases ad <;> simp [Op.equalIn, r_und hu]
theorem equalIn_ptr_nil (d : Nat) {t el : TypeId} (hu : P.underlying t = some (.pointer el)) (ad : Option Addr) : (Op.equalIn (d + 1) t (.pointer ad) (.pointer none)).run P w = .ok ad.isNone w := by
 cases ad <;> simp [Op.equalIn, r_und hu]
theorem equalIn_fn_nil1 (d : Nat) {t : TypeId} {ps rs : Array TypeId} {v : Bool} (hu : P.underlying t = some (.func ps rs v)) : (Op.equalIn (d + 1) t .nilFunc .nilFunc).run P w = .ok true w := by
 simp [Op.equalIn, r_und hu]
theorem equalIn_fn_nil2 (d : Nat) {t : TypeId} {ps rs : Array TypeId} {v : Bool} (hu : P.underlying t = some (.func ps rs v)) (f : Fn) (xs ys : Array Value) : (Op.equalIn (d + 1) t (.func f xs ys) .nilFunc).run P w = .ok false w := by
 simp [Op.equalIn, r_und hu]
theorem eqc_eqv {xs ys : List CV} {cx cy : Array Value} (hx : cx.size = xs.length) (hy : cy.size = ys.length)
  (hrx : ∀ (i : Nat) (v : Value) (x : CV), cx[i]? = some v → xs[i]? = some x → CR G w ι h v x) (hry : ∀ (i : Nat) (v : Value) (x : CV), cy[i]? = some v → ys[i]? = some x → CR G w ι h v x) :
  ∀ {ls : List (Nat × Nat)} {b : Bool}, eqc xs ys ls = some b → eqv cx cy ls = some b := by
 intro ls
 induction ls with
 | nil => intro b hb; exact hb
 | cons p ls ih =>
  intro b hb
  obtain ⟨q, k⟩ := p
  simp only [eqc] at hb
  split at hb
  ·rename_i d1 d2 h1 h2
   split at hb
   ·rename_i c d hc hd
    cases hb
    have l1 := get_lt h1
    have l2 := get_lt h2
    have v1 : cx[q]? = some cx[q] := Array.getElem?_eq_getElem (by omega)
    have v2 : cy[q]? = some cy[q] := Array.getElem?_eq_getElem (by omega)
    have r1 := hrx q _ _ v1 h1
    have r2 := hry q _ _ v2 h2
    have hsv : sv k cx[q] cy[q] = some c := deq_sv r1 r2 hc
    simp only [eqv, v1, v2, hsv, ih hd]
   ·cases hb
  ·cases hb
theorem exec_bin {op : BinOp} {xt yt : TypeId} {x y : Operand} (hop : o.op = .binOp op xt x y yt) :
  (execOp a.eval o).run P w = ((do eqGuard op xt x y (a.eval x) (a.eval y); binOp op xt (a.eval x) (a.eval y) : Sem Value).run P w).andThen fun v w' => .ok (.value v) w' := by
 simp only [execOp, hop, Sem.run_bind, andThen_assoc, Sem.run_pure]
theorem b_scal {op : BinOp} {xt yt : TypeId} {x y : Operand} (r : Rel N G ι e h a w) (hop : o.op = .binOp op xt x y yt) :
  ∀ x' y', cx P xt x = some x' → cx P xt y = some y' → astep e h (.bin op x' y') = some (av, h') → OpRes G ι h w av h' ((execOp a.eval o).run P w) := by
 have hexec := exec_bin (P := P) (a := a) (w := w) hop
 intro x' y' hx hy hs
 simp only [astep] at hs
 split at hs
 ·rename_i d1 d2 h1 h2
  simp only [Option.map_eq_some_iff, Prod.mk.injEq] at hs
  obtain ⟨d, hd, rfl, rfl⟩ := hs
  have r1 := cx_sound hx r
  have r2 := cx_sound hy r
  rw [h1] at r1; rw [h2] at r2
  obtain ⟨v, k1, k2⟩ := bin_sound (P := P) (t := xt) (x := x) (y := y) (inv_d r1) (inv_d r2) hd
  refine OpRes.value r.hr ?_ (.c _ _ (.d _ _ k2))
  rw [hexec, k1]; rfl
 ·cases hs
theorem b_agg {op : BinOp} {xt yt : TypeId} {x y : Operand} (r : Rel N G ι e h a w) (hop : o.op = .binOp op xt x y yt) :
  ∀ x' y' ls, cx P xt x = some x' → cx P xt y = some y' → (op = .eql ∨ op = .neq) → leafEq P 12 xt = some ls → P.eqGuardType P.depth xt = false →
   (∃ d, P.underlying xt = some d ∧ aggD d = true) → astep e h (.eqa (op == .neq) (P.cellsOf xt) ls x' y') = some (av, h') → OpRes G ι h w av h' ((execOp a.eval o).run P w) := by
 have hexec := exec_bin (P := P) (a := a) (w := w) hop
 intro x' y' ls hx hy hopk hls hg ⟨d, hu, hd⟩ hs
 simp only [astep] at hs
 split at hs
 ·rename_i xs ys h1 h2
  split at hs
  ·rename_i hlen
   simp only [Option.map_eq_some_iff, Prod.mk.injEq] at hs
   obtain ⟨b, hb, rfl, rfl⟩ := hs
   have r1 := cx_sound hx r
   have r2 := cx_sound hy r
   rw [h1] at r1; rw [h2] at r2
   obtain ⟨ca, e1, e2, e3⟩ := inv_agg r1
   obtain ⟨cb, f1, f2, f3⟩ := inv_agg r2
   have hev := eqc_eqv e2 f2 e3 f3 hb
   obtain ⟨i, hi⟩ := info_und hu
   have hsz := cellsOf_info hi
   obtain ⟨va, vb, p1, p2, p3⟩ := leafEq_ok 12 xt ls hls 9988 w ca cb 0 b (by omega) (by omega) (by simpa using hev)
   rw [part_run hu hd hi] at p1 p2
   cases p1; cases p2
   have ea : ca.extract 0 (0 + i.size) = ca := by rw [Nat.zero_add, ← hsz, ← hlen.1, ← e2]; simp
   have eb : cb.extract 0 (0 + i.size) = cb := by rw [Nat.zero_add, ← hsz, ← hlen.2, ← f2]; simp
   rw [ea, eb] at p3
   refine OpRes.value r.hr (v := .bool (if (op == .neq) then !b else b)) ?_ (.c _ _ (.d _ _ (.bool _)))
   rw [hexec, e1, f1]
   simp only [Sem.run_bind, run_eqGuard_agg w op xt x y ca cb hg, Result.andThen_ok]
   rcases hopk with rfl | rfl
   ·rw [run_eql_struct w xt ca cb, p3]; rfl
   ·rw [run_neq_struct w xt ca cb, p3]; rfl
  ·cases hs
 ·cases hs
theorem b_bools {op : BinOp} {xt yt : TypeId} {x y : Operand} (r : Rel N G ι e h a w) (hop : o.op = .binOp op xt x y yt) :
  ∀ x' y', cx P xt x = some x' → cx P xt y = some y' → (op = .eql ∨ op = .neq) → P.underlying xt = some .bool → astep e h (.beq (op == .neq) x' y') = some (av, h') → OpRes G ι h w av h' ((execOp a.eval o).run P w) := by
 have hexec := exec_bin (P := P) (a := a) (w := w) hop
 intro x' y' hx hy hopk hu hs
 simp only [astep] at hs
 split at hs
 ·rename_i b1 b2 h1 h2
  simp only [Option.some.injEq, Prod.mk.injEq] at hs
  obtain ⟨rfl, rfl⟩ := hs
  have r1 := cx_sound hx r
  have r2 := cx_sound hy r
  rw [h1] at r1; rw [h2] at r2
  have e1 := inv_bool r1
  have e2 := inv_bool r2
  refine OpRes.value r.hr (v := .bool (if (op == .neq) then !(b1 == b2) else b1 == b2)) ?_ (.c _ _ (.d _ _ (.bool _)))
  rw [hexec, e1, e2]
  have heq : (Op.equal xt (.bool b1) (.bool b2)).run P w = .ok (b1 == b2) w := by
   simp only [Op.equal, Op.maxDepth]
   exact run_equalIn_bool' w 9999 xt b1 b2 hu
  simp only [Sem.run_bind, eqGuard_bool, Result.andThen_ok]
  rcases hopk with rfl | rfl
  ·simp [binOp, heq]
  ·simp [binOp, heq]
 ·cases hs
theorem isNil_slice {v : Value} {xv : AV} {b : Bool} (r1 : VR G w ι h v xv) (hb : isNil h 0 xv = some b) : ∃ ad n c, v = .slice ad n c ∧ b = ad.isNone := by
 have key : ∀ (nl : Bool) (sz : Nat) (l : List (List D)), DR G w v (.list nl sz l) → (nl = true ∨ l ≠ []) → ∃ ad n c, v = .slice ad n c ∧ nl = ad.isNone := by
  intro nl sz l hd hl
  cases hd with
  | nils => simp at hl; subst hl; exact ⟨_, _, _, rfl, rfl⟩
  | emp => simp at hl
  | sl => exact ⟨_, _, _, rfl, rfl⟩
 have cl : ∀ (nl : Bool) (sz : Nat) (l : List (List D)), xv = .c (.cl nl sz l) → (nl = true ∨ l ≠ []) → ∃ ad n c, v = .slice ad n c ∧ nl = ad.isNone := by
  intro nl sz l he hl
  subst he
  cases inv_c r1 with
  | cl _ _ _ _ hd _ => exact key nl sz l hd hl
 unfold isNil at hb
 split at hb
 case h_1 => cases hb; exact key _ _ _ (inv_d r1) (.inl rfl)
 case h_2 => cases hb; exact key _ _ _ (inv_d r1) (.inr (by simp))
 case h_3 => cases hb; exact cl _ _ _ rfl (.inl rfl)
 case h_4 => cases hb; exact cl _ _ _ rfl (.inr (by simp))
 case h_5 =>
  split at hb
  ·rename_i rl v' sz es hbk
   split at hb
   ·rename_i hv
    subst hv
    cases hb
    cases inv_c r1 with
    | arr _ _ _ _ _ blk hbk' ha hk hk0 =>
     rw [hbk] at hbk'; cases hbk'
     cases rl with
     | false => obtain ⟨_, _, rfl⟩ := hk0 sz es rfl; exact ⟨_, _, _, rfl, rfl⟩
     | true =>
      obtain ⟨b0, o0, cap, _, _, _, _, h5⟩ := hk sz es rfl
      rcases h5 with rfl | ⟨_, _, o', rfl⟩
      ·exact ⟨_, _, _, rfl, rfl⟩
      ·exact ⟨_, _, _, rfl, rfl⟩
   ·cases hb
  ·cases hb
 case h_8 => cases hb; cases inv_d r1; exact ⟨_, _, _, rfl, rfl⟩
 all_goals first | (rename_i h0 _; simp at h0; done) | (rename_i h0; simp at h0; done) | (cases hb; done)
theorem nil_either {v : Value} {nl : Bool} {sz : Nat} {l : List (List D)} (r1 : VR G w ι h v (.c (.d (.list nl sz l)))) : ∃ ad n c, v = .slice ad n c ∧ (ad.isNone = true → l = []) := by
 cases inv_d r1 with
 | nils => exact ⟨_, _, _, rfl, fun _ => rfl⟩
 | emp => exact ⟨_, _, _, rfl, fun _ => rfl⟩
 | sl => exact ⟨_, _, _, rfl, by simp⟩
theorem b_nil_at {op : BinOp} {xt yt : TypeId} {x y : Operand} (r : Rel N G ι e h a w) (hop : o.op = .binOp op xt x y yt) :
  ∀ (x' : X) (kd : Nat) (b : Bool), cx P xt x = some x' → (op = .eql ∨ op = .neq) → ((kd = 0 ∧ lnil y = true ∧ ∃ el, P.underlying xt = some (.slice el)) ∨ (kd = 1 ∧ pnil y = true ∧ ∃ el, P.underlying xt = some (.pointer el)) ∨ (kd = 2 ∧ fnil y = true ∧ ∃ ps rs v, P.underlying xt = some (.func ps rs v))) →
   (kd = 0 → ∃ ad n c, a.eval x = .slice ad n c ∧ b = ad.isNone) → (kd = 1 → ∃ ad, a.eval x = .pointer ad ∧ b = ad.isNone) → (kd = 2 → (a.eval x = .nilFunc ∧ b = true) ∨ ∃ f xs ys, a.eval x = .func f xs ys ∧ b = false) →
   OpRes G ι h w (.c (.d (.bool (if (op == .neq) then !b else b)))) h ((execOp a.eval o).run P w) := by
 have hexec := exec_bin (P := P) (a := a) (w := w) hop
 intro x' kd b hx hopk hkd h0 h1 h2
 have fin : (eqGuard op xt x y (a.eval x) (a.eval y)).run P w = .ok () w → (Op.equal xt (a.eval x) (a.eval y)).run P w = .ok b w →
   (∀ (op' : BinOp), op' = .eql → binOp op' xt (a.eval x) (a.eval y) = (do pure (.bool (← Op.equal xt (a.eval x) (a.eval y))))) →
   (∀ (op' : BinOp), op' = .neq → binOp op' xt (a.eval x) (a.eval y) = (do pure (.bool (!(← Op.equal xt (a.eval x) (a.eval y)))))) →
   OpRes G ι h w (.c (.d (.bool (if (op == .neq) then !b else b)))) h ((execOp a.eval o).run P w) := by
  intro k1 k2 k3 k4
  refine OpRes.value r.hr (v := .bool (if (op == .neq) then !b else b)) ?_ (.c _ _ (.d _ _ (.bool _)))
  rw [hexec]
  simp only [Sem.run_bind, k1, Result.andThen_ok]
  rcases hopk with rfl | rfl
  ·rw [k3 _ rfl]; simp [k2]
  ·rw [k4 _ rfl]; simp [k2]
 rcases hkd with ⟨rfl, hy, el, hu⟩ | ⟨rfl, hy, el, hu⟩ | ⟨rfl, hy, ps, rs, vr, hu⟩
 ·have ey : a.eval y = .slice none 0 0 := by
   cases y with
   | const v => cases v <;> simp_all [lnil, Act.eval]; split at hy <;> simp_all
   | _ => simp [lnil] at hy
  have ex := h0 rfl
  obtain ⟨ad, n, c, ex, rfl⟩ := ex
  refine fin ?_ ?_ ?_ ?_
  ·rw [ex, ey]; rcases hopk with rfl | rfl <;> rfl
  ·rw [ex, ey]; exact equalIn_slice_nil 9999 hu ad n c
  ·rw [ex, ey]; intro op' hh; subst hh; rfl
  ·rw [ex, ey]; intro op' hh; subst hh; rfl
 ·have ey : a.eval y = .pointer none := by
   cases y with
   | const v =>
    cases v with
    | pointer ad => cases ad <;> simp_all [pnil, Act.eval]
    | _ => simp [pnil] at hy
   | _ => simp [pnil] at hy
  have ex := h1 rfl
  obtain ⟨ad, ex, rfl⟩ := ex
  refine fin ?_ ?_ ?_ ?_
  ·rw [ex, ey]; rcases hopk with rfl | rfl <;> rfl
  ·rw [ex, ey]; exact equalIn_ptr_nil 9999 hu ad
  ·rw [ex, ey]; intro op' hh; subst hh; rfl
  ·rw [ex, ey]; intro op' hh; subst hh; rfl
 ·have ey : a.eval y = .nilFunc := by
   cases y with
   | const v => cases v <;> first | rfl | (simp [fnil] at hy; done)
   | _ => simp [fnil] at hy
  rcases h2 rfl with ⟨ex, rfl⟩ | ⟨f, xs, ys, ex, rfl⟩
  ·refine fin ?_ ?_ ?_ ?_
   ·rw [ex, ey]; rcases hopk with rfl | rfl <;> rfl
   ·rw [ex, ey]; exact equalIn_fn_nil1 9999 hu
   ·rw [ex, ey]; intro op' hh; subst hh; rfl
   ·rw [ex, ey]; intro op' hh; subst hh; rfl
  ·refine fin ?_ ?_ ?_ ?_
   ·rw [ex, ey]; rcases hopk with rfl | rfl <;> rfl
   ·rw [ex, ey]; exact equalIn_fn_nil2 9999 hu f xs ys
   ·rw [ex, ey]; intro op' hh; subst hh; rfl
   ·rw [ex, ey]; intro op' hh; subst hh; rfl
theorem b_nils {op : BinOp} {xt yt : TypeId} {x y : Operand} (r : Rel N G ι e h a w) (hop : o.op = .binOp op xt x y yt) :
  ∀ x' kd, cx P xt x = some x' → (op = .eql ∨ op = .neq) → ((kd = 0 ∧ lnil y = true ∧ ∃ el, P.underlying xt = some (.slice el)) ∨ (kd = 1 ∧ pnil y = true ∧ ∃ el, P.underlying xt = some (.pointer el)) ∨ (kd = 2 ∧ fnil y = true ∧ ∃ ps rs v, P.underlying xt = some (.func ps rs v))) →
   astep e h (.isnil kd (op == .neq) x') = some (av, h') → OpRes G ι h w av h' ((execOp a.eval o).run P w) := by
 intro x' kd hx hopk hkd hs
 simp only [astep, Option.map_eq_some_iff, Prod.mk.injEq] at hs
 obtain ⟨b, hb, rfl, rfl⟩ := hs
 have r1 := cx_sound hx r
 refine b_nil_at r hop x' kd b hx hopk hkd (fun hk => ?_) (fun hk => ?_) fun hk => ?_
 ·subst hk
  exact isNil_slice r1 hb
 ·subst hk
  revert hb r1
  generalize ev e x' = xv
  generalize a.eval x = v
  intro r1 hb
  unfold isNil at hb
  split at hb
  all_goals first | (rename_i h0 _; simp at h0; done) | (rename_i h0; simp at h0; done) | skip
  ·cases hb; cases inv_d r1; exact ⟨_, rfl, rfl⟩
  ·cases hb; cases inv_d r1; exact ⟨_, rfl, rfl⟩
  ·cases hb
   obtain ⟨b0, o0, rfl, _⟩ := inv_rp r1
   exact ⟨_, rfl, rfl⟩
  ·split at hb
   ·rename_i hsol
    cases hb
    obtain ⟨blk, b0, o0, k, _, _, _, _, rfl⟩ := ptr_at (inv_c r1) hsol
    exact ⟨_, rfl, rfl⟩
   ·cases hb
  ·cases hb
 ·subst hk
  revert hb r1
  generalize ev e x' = xv
  generalize a.eval x = v
  intro r1 hb
  unfold isNil at hb
  split at hb
  all_goals first | (rename_i h0 _; simp at h0; done) | (rename_i h0; simp at h0; done) | skip
  ·cases hb; cases inv_d r1; exact .inl ⟨rfl, rfl⟩
  ·rename_i bb ff cc _
   split at hb
   ·rename_i hlt
    cases hb
    cases inv_c r1 with
    | fn _ _ _ vs _ hv _ _ =>
     subst hv
     rw [fnV_fn hlt]
     right
     cases bb <;> exact ⟨_, _, _, rfl, rfl⟩
   ·cases hb
  ·cases hb
theorem l_bin {op : BinOp} {xt yt : TypeId} {x y : Operand} (r : Rel N G ι e h a w) (hop : o.op = .binOp op xt x y yt) (hs : astep e h (compOp P o) = some (av, h')) :
  OpRes G ι h w av h' ((execOp a.eval o).run P w) := by
 have scal := @b_scal P N G ι e h h' a w o av op xt yt x y r hop
 have agg := @b_agg P N G ι e h h' a w o av op xt yt x y r hop
 have bools := @b_bools P N G ι e h h' a w o av op xt yt x y r hop
 have nils := @b_nils P N G ι e h h' a w o av op xt yt x y r hop
 simp only [compOp, hop] at hs
 split at hs
 ·rename_i x' y' hx hy
  have eqcase : (op = .eql ∨ op = .neq) → astep e h (match P.underlying xt with
    | some (.int _) => .bin op x' y'
    | some .string => .bin op x' y'
    | some .bool => .beq (op == .neq) x' y'
    | some (.struct _) => match leafEq P 12 xt with
     | some ls => if P.eqGuardType P.depth xt = false then .eqa (op == .neq) (P.cellsOf xt) ls x' y' else .bad
     | none => .bad
    | some (.array _ _) => match leafEq P 12 xt with
     | some ls => if P.eqGuardType P.depth xt = false then .eqa (op == .neq) (P.cellsOf xt) ls x' y' else .bad
     | none => .bad
    | some (.slice _) => if lnil y then .isnil 0 (op == .neq) x' else .bad
    | some (.pointer _) => if pnil y then .isnil 1 (op == .neq) x' else .bad
    | some (.func _ _ _) => if fnil y then .isnil 2 (op == .neq) x' else .bad
    |_ => .bad) = some (av, h') → OpRes G ι h w av h' ((execOp a.eval o).run P w) := by
   intro hopk hs
   split at hs
   ·exact scal x' y' hx hy hs
   ·exact scal x' y' hx hy hs
   ·rename_i hu; exact bools x' y' hx hy hopk hu hs
   ·rename_i fs hu
    split at hs
    ·rename_i ls hls
     split at hs
     ·rename_i hg; exact agg x' y' ls hx hy hopk hls hg ⟨_, hu, rfl⟩ hs
     ·exact absurd hs bad_step
    ·exact absurd hs bad_step
   ·rename_i fs hu
    split at hs
    ·rename_i ls hls
     split at hs
     ·rename_i hg; exact agg x' y' ls hx hy hopk hls hg ⟨_, hu, rfl⟩ hs
     ·exact absurd hs bad_step
    ·exact absurd hs bad_step
   ·rename_i el hu
    split at hs
    ·rename_i hn; exact nils x' 0 hx hopk (.inl ⟨rfl, hn, el, hu⟩) hs
    ·exact absurd hs bad_step
   ·rename_i el hu
    split at hs
    ·rename_i hn; exact nils x' 1 hx hopk (.inr (.inl ⟨rfl, hn, el, hu⟩)) hs
    ·exact absurd hs bad_step
   ·rename_i ps rs vr hu
    split at hs
    ·rename_i hn; exact nils x' 2 hx hopk (.inr (.inr ⟨rfl, hn, ps, rs, vr, hu⟩)) hs
    ·exact absurd hs bad_step
   ·exact absurd hs bad_step
  cases op
  case eql => exact eqcase (.inl rfl) hs
  case neq => exact eqcase (.inr rfl) hs
  all_goals exact scal x' y' hx hy hs
 ·exact absurd hs bad_step
end
end Go.Ab

/-
  The engine, part n: the rest of the operations, and all of them together.
-/
namespace Go.Ab
section
variable {P : Program} {N : Nat} {G : Nat → Prop} {ι : Io} {e : Env} {h h' : Hp} {a : Act} {w : World} {o : Oper} {av : AV}
theorem l_un {op : UnOp} {t : TypeId} {x : Operand} (r : Rel N G ι e h a w) (hop : o.op = .unOp op t x) (hs : astep e h (compOp P o) = some (av, h')) :
  OpRes G ι h w av h' ((execOp a.eval o).run P w) := by
 simp only [compOp, hop] at hs
 split at hs
 ·rename_i y hy
  simp only [astep] at hs
  split at hs
  ·rename_i d hd
   simp only [Option.map_eq_some_iff, Prod.mk.injEq] at hs
   obtain ⟨d', hd', rfl, rfl⟩ := hs
   have hv := cx_sound hy r
   rw [hd] at hv
   have hexec : (execOp a.eval o).run P w = ((Op.unary op (a.eval x)).run P w).andThen fun v w' => .ok (.value v) w' := by
    simp only [execOp, hop, Sem.run_bind, Sem.run_pure]
   unfold unD at hd'
   split at hd'
   ·cases hd'
    rw [inv_bool hv] at hexec
    exact OpRes.value r.hr (by rw [hexec]; rfl) (.c _ _ (.d _ _ (.bool _)))
   ·cases hd'
    rw [inv_int hv] at hexec
    exact OpRes.value r.hr (by rw [hexec]; rfl) (.c _ _ (.d _ _ (.int _ _)))
   ·cases hd'
    rw [inv_int hv] at hexec
    exact OpRes.value r.hr (by rw [hexec]; rfl) (.c _ _ (.d _ _ (.int _ _)))
   ·cases hd'
  ·cases hs
 ·exact absurd hs bad_step
theorem bts_run (f : Value → ByteArray → Sem (ForInStep ByteArray)) (hf : ∀ n s, (f (.int .u8 n) s).run P w = .ok (.yield (s.push (UInt8.ofNat n.toNat))) w) :
  ∀ (vs : List Value) (l : List (List D)) (s : List UInt8) (acc : ByteArray), vs.length = l.length →
  (∀ (i : Nat) (v : Value) (e : List D), vs[i]? = some v → l[i]? = some e → ∃ x, e = [x] ∧ DR G w v x) → btsD l = some s →
  ∃ out : ByteArray, (forIn vs acc f).run P w = .ok out w ∧ out.data.toList = acc.data.toList ++ s := by
 intro vs
 induction vs with
 | nil =>
  intro l s acc hl _ hb
  cases l with
  | nil => simp only [btsD, Option.some.injEq] at hb; subst hb; exact ⟨acc, by simp, by simp⟩
  | cons => simp at hl
 | cons v vs ih =>
  intro l s acc hl hr hb
  cases l with
  | nil => simp at hl
  | cons e l =>
   obtain ⟨x, rfl, hd⟩ := hr 0 v e rfl rfl
   unfold btsD at hb
   split at hb
   ·rename_i h0; cases h0
   ·rename_i n r' heq
    simp only [List.cons.injEq, and_true] at heq
    obtain ⟨rfl, rfl⟩ := heq
    simp only [Option.map_eq_some_iff] at hb
    obtain ⟨s', hs', rfl⟩ := hb
    cases hd
    obtain ⟨out, k1, k2⟩ := ih l s' (acc.push (UInt8.ofNat n.toNat)) (by simpa using hl) (fun i v e hv he => hr (i + 1) v e (by simpa using hv) (by simpa using he)) hs'
    refine ⟨out, ?_, ?_⟩
    ·simp only [List.forIn_cons, Sem.run_bind, hf, Result.andThen_ok]
     exact k1
    ·rw [k2]; simp
   ·cases hb
theorem view_nil {v : Value} {xv : AV} {sz n c : Nat} {l : List (List D)} (hv : VR G w ι h v xv) (hw : view h xv = some (sz, l)) (hx : v = .slice none n c) : l = [] := by
 cases hv with
 | agg => simp [view] at hw
 | tup => simp [view] at hw
 | c _ x hc =>
  cases hc with
  | u => simp [view] at hw
  | rp => simp [view] at hw
  | ptr => simp [view] at hw
  | fn => simp [view] at hw
  | mp => simp [view] at hw
  | it => simp [view] at hw
  | d _ x hd =>
   cases hd with
   | nils => simp only [view, Option.some.injEq, Prod.mk.injEq] at hw; exact hw.2.symm
   | emp => simp only [view, Option.some.injEq, Prod.mk.injEq] at hw; exact hw.2.symm
   | sl => cases hx
   | _ => simp [view] at hw
  | cl _ nl sz' l' hd _ =>
   simp only [view, Option.some.injEq, Prod.mk.injEq] at hw
   obtain ⟨rfl, rfl⟩ := hw
   cases hd with
   | nils => rfl
   | emp => rfl
   | sl => cases hx
  | arr _ l' ver i n' blk hb ha hk hk0 =>
   simp only [view, hb] at hw
   cases blk with
   | bx => simp at hw
   | dead => simp at hw
   | mp => simp at hw
   | mi => simp at hw
   | am => simp at hw
   | da rl v' sz' es =>
    simp only at hw
    split at hw
    ·rename_i hv'; subst hv'
     cases rl with
     | false =>
      obtain ⟨_, hn, _⟩ := hk0 sz' es rfl
      subst hn
      simp only [Option.some.injEq, Prod.mk.injEq, List.take_zero] at hw
      exact hw.2.symm
     | true =>
     obtain ⟨b0, o0, cap0, _, _, _, _, h5⟩ := hk sz' es rfl
     rcases h5 with h5 | ⟨_, _, o', h5⟩ <;> (rw [h5] at hx; cases hx)
    ·cases hw
theorem l_conv {src dst : TypeId} {x : Operand} (r : Rel N G ι e h a w) (hop : o.op = .convert src dst x) (hs : astep e h (compOp P o) = some (av, h')) :
  OpRes G ι h w av h' ((execOp a.eval o).run P w) := by
 simp only [compOp, hop] at hs
 split at hs
 ·rename_i y hy
  have hv := cx_sound hy r
  split at hs
  ·rename_i k1 k hu1 hu2
   simp only [astep] at hs
   split at hs
   ·rename_i k0 n hn
    simp only [Option.some.injEq, Prod.mk.injEq] at hs
    obtain ⟨rfl, rfl⟩ := hs
    rw [hn] at hv
    have ex := inv_int hv
    exact OpRes.value r.hr (v := .int k (k.wrap n)) (by simp [execOp, hop, ex, convert, r_und hu1, r_und hu2, Conv.intToInt]) (.c _ _ (.d _ _ (.int _ _)))
   ·cases hs
  ·rename_i el hu1 hu2
   split at hs
   ·rename_i hu3
    simp only [astep] at hs
    split at hs
    ·rename_i l hl
     simp only [Option.map_eq_some_iff, Prod.mk.injEq] at hs
     obtain ⟨s, hss, rfl, rfl⟩ := hs
     obtain ⟨ad, cap, hx, hcap⟩ := view_len r.hr hv hl
     obtain ⟨vs, c1, c2, c3, c4⟩ := view_cells (P := P) r.hr hv hl
     have hexec : (execOp a.eval o).run P w = ((Conv.bytesToString (a.eval x)).run P w).andThen fun v w' => .ok (.value v) w' := by
      rw [hx]
      simp [execOp, hop, convert, r_und hu1, r_und hu2, r_und hu3, hx]
     cases ad with
     | none =>
      have : l = [] := view_nil hv hl hx
      subst this
      simp only [btsD, Option.some.injEq] at hss
      subst hss
      refine OpRes.value r.hr (v := .string .empty) ?_ (.c _ _ (.d _ _ (.str _)))
      rw [hexec, hx]; rfl
     | some ad =>
      have hld : (loadCells ad l.length).run P w = .ok vs w := by
       rw [hx] at c1
       simpa [Builtin.firstCells] using c1
      have hrel : ∀ (i : Nat) (v : Value) (e : List D), vs.toList[i]? = some v → l[i]? = some e → ∃ x, e = [x] ∧ DR G w v x := by
       intro i v e hv' he
       have hlen := c3 i e he
       cases e with
       | nil => simp at hlen
       | cons x e =>
        cases e with
        | cons => simp at hlen
        | nil =>
         obtain ⟨y', hy', hd⟩ := c4 i [x] 0 x he rfl
         refine ⟨x, rfl, ?_⟩
         simp only [Array.getElem?_toList] at hv'
         simp only [Nat.mul_one, Nat.add_zero] at hy'
         rw [hv'] at hy'; cases hy'; exact hd
      have hfor : ∀ (f : Value → ByteArray → Sem (ForInStep ByteArray)), (∀ n s, (f (.int .u8 n) s).run P w = .ok (.yield (s.push (UInt8.ofNat n.toNat))) w) →
        ∃ out : ByteArray, ((forIn vs ByteArray.empty f).run P w).andThen (fun a w' => (pure (Value.string a) : Sem Value).run P w') = .ok (.string out) w ∧ out.data.toList = s := by
       intro f hf
       obtain ⟨out, q1, q2⟩ := bts_run (P := P) f hf vs.toList l s .empty (by simp [c2]) hrel hss
       exact ⟨out, by rw [← Array.forIn_toList, q1]; rfl, by simpa using q2⟩
      have hend : ∃ out : ByteArray, (Conv.bytesToString (.slice (some ad) l.length cap)).run P w = .ok (.string out) w ∧ out.data.toList = s := by
       simp only [Conv.bytesToString, Sem.run_bind, hld, Result.andThen_ok]
       exact hfor _ (fun n s => rfl)
      obtain ⟨out, q1, q2⟩ := hend
      refine OpRes.value r.hr (v := .string out) ?_ ?_
      ·rw [hexec, hx, q1]; rfl
      ·have : s = out.data.toList := q2.symm
       rw [this]; exact .c _ _ (.d _ _ (.str _))
    ·cases hs
   ·exact absurd hs bad_step
  ·exact absurd hs bad_step
 ·exact absurd hs bad_step
theorem oint_sound {lo : Option Operand} {lo' : Option X} {n : Option Int} (r : Rel N G ι e h a w) (hc : ocx P lo = some lo') (ho : oint e lo' = some n) : IR (lo.map a.eval) n := by
 cases lo with
 | none => simp only [ocx, Option.some.injEq] at hc; subst hc; simp only [oint, Option.some.injEq] at ho; subst ho; exact .none
 | some x =>
  simp only [ocx, Option.map_eq_some_iff] at hc
  obtain ⟨y, hy, rfl⟩ := hc
  simp only [oint] at ho
  split at ho
  ·rename_i k m hm
   cases ho
   have hv := cx_sound hy r
   rw [hm] at hv
   simp only [Option.map_some, inv_int hv]
   exact .some _ _
  ·cases ho
theorem extract_toList (s : ByteArray) (l hh : Nat) : (s.extract l hh).data.toList = (s.data.toList.take hh).drop l := by
 simp only [ByteArray.data_extract, Array.toList_extract, List.extract, List.drop_take]
theorem l_slice {xt : TypeId} {x : Operand} {lo hi mx : Option Operand} (r : Rel N G ι e h a w) (hop : o.op = .slice xt x lo hi mx) (hs : astep e h (compOp P o) = some (av, h')) :
  OpRes G ι h w av h' ((execOp a.eval o).run P w) := by
 simp only [compOp, hop] at hs
 split at hs
 ·rename_i x' lo' hi' mx' hx hlo hhi hmx
  have hv := cx_sound hx r
  split at hs
  ·rename_i hu
   split at hs
   ·rename_i hmx0
    simp only [astep] at hs
    split at hs
    ·rename_i nlo nhi s hnlo hnhi hstr
     simp only [Option.map_eq_some_iff, Prod.mk.injEq] at hs
     obtain ⟨⟨l, hh, m⟩, hb, rfl, rfl⟩ := hs
     rw [hstr] at hv
     obtain ⟨bs, ex, ebs⟩ := inv_str hv
     have hsz : bs.size = s.length := by rw [str_size, ebs]
     obtain ⟨q1, q2, q3, q4⟩ := slb_run (P := P) (w := w) (isS := false) (oint_sound r hlo hnlo) (oint_sound r hhi hnhi) IR.none hb (Nat.le_refl _)
     have hmxn : mx = none := by
      cases mx with
      | none => rfl
      | some y => simp [ocx] at hmx
     subst hmxn
     refine OpRes.value r.hr (v := .string (bs.extract l hh)) ?_ ?_
     ·simp only [execOp, hop, Sem.run_bind, Instr.sliceAt, r_und hu, Result.andThen_ok, Option.map_none, Instr.slice, ex, Option.isSome_none, Bool.false_eq_true, if_false, hsz, q1, Sem.run_pure]
     ·rw [← ebs, ← extract_toList]; exact .c _ _ (.d _ _ (.str _))
    ·cases hs
   ·exact absurd hs bad_step
  ·rename_i el hu
   split at hs
   ·rename_i ti hti
    simp only [astep] at hs
    split at hs
    ·rename_i nlo nhi nmx hnlo hnhi hnmx
     have key : ∀ av', slv ti.size (ev e x') nlo nhi nmx = some av' → (∀ l v i n, ev e x' = .c (.arr l v i n) → ∃ r es, h[l]? = some (.da r v ti.size es)) → OpRes G ι h w av' h ((execOp a.eval o).run P w) := by
      intro av' h1 h2
      obtain ⟨v', k1, k2⟩ := s_sl (P := P) hv hu hti rfl (oint_sound r hlo hnlo) (oint_sound r hhi hnhi) (oint_sound r hmx hnmx) h1 h2
      exact OpRes.value r.hr (by simp only [execOp, hop, Sem.run_bind, k1, Result.andThen_ok, Sem.run_pure]) k2
     split at hs
     ·rename_i l v i n harr
      split at hs
      ·rename_i rl v' sz' es hes
       split at hs
       ·rename_i hcond
        obtain ⟨rfl, rfl⟩ := hcond
        simp only [Option.map_eq_some_iff, Prod.mk.injEq] at hs
        obtain ⟨av', h1, rfl, rfl⟩ := hs
        refine key _ (by rw [harr]; exact h1) fun l2 v2 i2 n2 h2 => ?_
        rw [harr] at h2; cases h2; exact ⟨_, _, hes⟩
       ·cases hs
      ·cases hs
     ·rename_i hnot
      simp only [Option.map_eq_some_iff, Prod.mk.injEq] at hs
      obtain ⟨av', h1, rfl, rfl⟩ := hs
      exact key _ h1 fun l2 v2 i2 n2 h2 => absurd h2 (hnot l2 v2 i2 n2)
    ·cases hs
   ·exact absurd hs bad_step
  ·exact absurd hs bad_step
 ·exact absurd hs bad_step
theorem l_fa {s : TypeId} {x : Operand} {f : Nat} (r : Rel N G ι e h a w) (hop : o.op = .fieldAddr s x f) (hs : astep e h (compOp P o) = some (av, h')) :
  OpRes G ι h w av h' ((execOp a.eval o).run P w) := by
 simp only [compOp, hop] at hs
 split at hs
 ·rename_i x' fs hx hu
  have hv := cx_sound hx r
  split at hs
  ·rename_i fl hf
   split at hs
   ·rename_i ti hti
    split at hs
    ·rename_i hz
     simp only [astep] at hs
     split at hs
     ·rename_i cs hcs
      simp only [Option.some.injEq, Prod.mk.injEq] at hs
      obtain ⟨rfl, rfl⟩ := hs
      rw [hcs] at hv
      obtain ⟨v, k1, k2⟩ := s_fa (P := P) hv hu hf hti hz
      exact OpRes.value r.hr (by simp only [execOp, hop, Sem.run_bind, k1, Result.andThen_ok, Sem.run_pure]) k2
     ·rename_i l v i j hcs
      split at hs
      ·rename_i hsol
       simp only [Option.some.injEq, Prod.mk.injEq] at hs
       obtain ⟨rfl, rfl⟩ := hs
       rw [hcs] at hv
       obtain ⟨v', k1, k2⟩ := s_fap (P := P) hv hsol hu hf hti hz
       exact OpRes.value r.hr (by simp only [execOp, hop, Sem.run_bind, k1, Result.andThen_ok, Sem.run_pure]) k2
      ·cases hs
     ·rename_i b off hcs
      simp only [Option.some.injEq, Prod.mk.injEq] at hs
      obtain ⟨rfl, rfl⟩ := hs
      rw [hcs] at hv
      have ex := inv_adr hv
      refine OpRes.value r.hr (v := .pointer (some ⟨b, off + fl.offset, none⟩)) ?_ (.c _ _ (.d _ _ (.adr _ _)))
      simp [execOp, hop, ex, Instr.fieldAt, Instr.sureAddr, r_und hu, hf, fieldPlace, r_size hti, hz, add_none]
     ·cases hs
    ·exact absurd hs bad_step
   ·exact absurd hs bad_step
  ·exact absurd hs bad_step
 ·exact absurd hs bad_step
theorem part_sound {t : TypeId} {n : Option Nat} {cs : Array Value} {l : List CV} {off : Nat} {x : AV} (hk : ldk P t = some n) (hn : cs.size = l.length)
  (hc : ∀ (i : Nat) (v : Value) (x : CV), cs[i]? = some v → l[i]? = some x → CR G w ι h v x)
  (hx : (n = none ∧ ∃ c, l[off]? = some c ∧ x = .c c) ∨ (∃ m, n = some m ∧ off + m ≤ l.length ∧ x = .agg ((l.drop off).take m))) :
  ∃ v, (part t cs off).run P w = .ok v w ∧ VR G w ι h v x := by
 rcases hx with ⟨rfl, c, hl, rfl⟩ | ⟨m, rfl, hm, rfl⟩
 ·have hlt := get_lt hl
  have h1 : cs[off]? = some cs[off] := Array.getElem?_eq_getElem (by omega)
  exact ⟨cs[off], by simp [part, ldk_none hk, h1], .c _ _ (hc off _ c h1 hl)⟩
 ·obtain ⟨k1, k2⟩ := ldk_some (w := w) hk
  refine ⟨.agg (cs.extract off (off + m)), by simp [part, k1, k2], .agg _ _ (by simp; omega) fun i v x hv hx => ?_⟩
  have hi : i < m := by have := get_lt hx; simp at this; omega
  rw [Array.getElem?_extract_of_lt (by omega)] at hv
  rw [List.getElem?_take, if_pos hi, List.getElem?_drop] at hx
  exact hc (off + i) v x (by rw [Array.getElem?_eq_getElem (by omega)]; exact hv) hx
theorem l_field {t : TypeId} {x : Operand} {f : Nat} (r : Rel N G ι e h a w) (hop : o.op = .field t x f) (hs : astep e h (compOp P o) = some (av, h')) :
  OpRes G ι h w av h' ((execOp a.eval o).run P w) := by
 simp only [compOp, hop] at hs
 split at hs
 ·rename_i x' fs hx hu
  have hv := cx_sound hx r
  split at hs
  ·rename_i fl hf
   split at hs
   ·rename_i n hn
    have fin : ∀ l av', ev e x' = .agg l → ((n = none ∧ ∃ c, l[fl.offset]? = some c ∧ av' = .c c) ∨ (∃ m, n = some m ∧ fl.offset + m ≤ l.length ∧ av' = .agg ((l.drop fl.offset).take m))) →
      OpRes G ι h w av' h ((execOp a.eval o).run P w) := by
     intro l av' hl hcase
     rw [hl] at hv
     obtain ⟨cs, ex, e2, e3⟩ := inv_agg hv
     obtain ⟨v, k1, k2⟩ := part_sound (P := P) hn e2 e3 hcase
     exact OpRes.value r.hr (by simp only [execOp, hop, Sem.run_bind, Instr.field, r_und hu, Result.andThen_ok, hf, ex, asAgg, k1, Sem.run_pure]) k2
    cases n with
    | none =>
     simp only [astep] at hs
     split at hs
     ·rename_i l hl
      simp only [Option.map_eq_some_iff, Prod.mk.injEq] at hs
      obtain ⟨c, hc, rfl, rfl⟩ := hs
      exact fin l _ hl (.inl ⟨rfl, c, hc, rfl⟩)
     ·cases hs
    | some m =>
     simp only [astep] at hs
     split at hs
     ·rename_i l hl
      split at hs
      ·rename_i hm
       simp only [Option.some.injEq, Prod.mk.injEq] at hs
       obtain ⟨rfl, rfl⟩ := hs
       exact fin l _ hl (.inr ⟨m, rfl, hm, rfl⟩)
      ·cases hs
     ·cases hs
   ·exact absurd hs bad_step
  ·exact absurd hs bad_step
 ·exact absurd hs bad_step
theorem l_ia {t : TypeId} {x i : Operand} (r : Rel N G ι e h a w) (hop : o.op = .indexAddr t x i) (hs : astep e h (compOp P o) = some (av, h')) :
  OpRes G ι h w av h' ((execOp a.eval o).run P w) := by
 simp only [compOp, hop] at hs
 split at hs
 ·rename_i x' i' el hx hi hu
  have hv := cx_sound hx r
  split at hs
  ·rename_i ti hti
   simp only [astep] at hs
   split at hs
   ·rename_i k n hn
    simp only [Option.map_eq_some_iff, Prod.mk.injEq] at hs
    obtain ⟨av', h1, rfl, rfl⟩ := hs
    have hiv := cx_sound hi r
    rw [hn] at hiv
    obtain ⟨v', k1, k2⟩ := s_ias (P := P) (k := k) hv hu hti rfl h1
    exact OpRes.value r.hr (by simp only [execOp, hop, Sem.run_bind, inv_int hiv, k1, Result.andThen_ok, Sem.run_pure]) k2
   ·cases hs
  ·exact absurd hs bad_step
 ·rename_i x' i' n el hx hi hu
  have hv := cx_sound hx r
  split at hs
  ·rename_i ti hti
   simp only [astep] at hs
   split at hs
   ·rename_i k m hn
    have hiv := cx_sound hi r
    rw [hn] at hiv
    split at hs
    ·rename_i hm
     split at hs
     ·rename_i cs hcs
      simp only [Option.some.injEq, Prod.mk.injEq] at hs
      obtain ⟨rfl, rfl⟩ := hs
      rw [hcs] at hv
      obtain ⟨b, o', ex, hG, hc⟩ := inv_rp hv
      refine OpRes.value r.hr (v := .pointer (some ⟨b, o' + m.toNat * ti.size, none⟩)) ?_ (.c _ _ (.rp _ _ _ hG fun j y hy => ?_))
      ·simp [execOp, hop, inv_int hiv, Instr.indexAt, asIntOf, r_und hu, ex, Instr.sureAddr, hm, r_size hti, add_none]
      ·rw [List.getElem?_drop] at hy
       obtain ⟨v, q1, q2⟩ := hc _ y hy
       exact ⟨v, by rw [Nat.add_assoc]; exact q1, q2⟩
     ·rename_i l v p j hcs
      split at hs
      ·rename_i hsol
       simp only [Option.some.injEq, Prod.mk.injEq] at hs
       obtain ⟨rfl, rfl⟩ := hs
       rw [hcs] at hv
       obtain ⟨blk, b, o', q, h1, h2, h3, h4, ex⟩ := ptr_at (inv_c hv) hsol
       refine OpRes.value r.hr (v := .pointer (some ⟨b, o' + q + m.toNat * ti.size, none⟩)) ?_ (.c _ _ (.ptr _ _ _ _ _ blk h1 h2 fun q' hq' => ⟨b, o', h3, ?_⟩))
       ·simp [execOp, hop, inv_int hiv, Instr.indexAt, asIntOf, r_und hu, ex, Instr.sureAddr, hm, r_size hti, add_none]
       ·rw [off_some h4] at hq'; cases hq'; simp [Nat.add_assoc]
      ·cases hs
     ·rename_i b off hcs
      simp only [Option.some.injEq, Prod.mk.injEq] at hs
      obtain ⟨rfl, rfl⟩ := hs
      rw [hcs] at hv
      have ex := inv_adr hv
      refine OpRes.value r.hr (v := .pointer (some ⟨b, off + m.toNat * ti.size, none⟩)) ?_ (.c _ _ (.d _ _ (.adr _ _)))
      simp [execOp, hop, inv_int hiv, ex, Instr.indexAt, asIntOf, r_und hu, Instr.sureAddr, hm, r_size hti, add_none]
     ·cases hs
    ·cases hs
   ·cases hs
  ·exact absurd hs bad_step
 ·exact absurd hs bad_step
theorem l_index {t : TypeId} {x i : Operand} (r : Rel N G ι e h a w) (hop : o.op = .index t x i) (hs : astep e h (compOp P o) = some (av, h')) :
  OpRes G ι h w av h' ((execOp a.eval o).run P w) := by
 simp only [compOp, hop] at hs
 split at hs
 ·rename_i x' i' hx hi hu
  simp only [astep] at hs
  split at hs
  ·rename_i s k n h1 h2
   split at hs
   ·rename_i hn
    simp only [Option.map_eq_some_iff, Prod.mk.injEq] at hs
    obtain ⟨b, hb, rfl, rfl⟩ := hs
    have hv := cx_sound hx r
    have hiv := cx_sound hi r
    rw [h1] at hv; rw [h2] at hiv
    obtain ⟨bs, ex, ebs⟩ := inv_str hv
    have hbs : bs[n.toNat]? = some b := by
     have hlt := get_lt hb
     have hlt' : n.toNat < bs.size := by rw [str_size, ebs]; exact hlt
     rw [getElem?_pos bs n.toNat hlt']
     have : bs[n.toNat] = bs.data.toList[n.toNat]'(by simpa using hlt') := by simp; rfl
     rw [this]
     simp only [ebs]
     rw [← hb, List.getElem?_eq_getElem hlt]
    exact OpRes.value r.hr (v := .int .u8 b.toNat) (by simp [execOp, hop, inv_int hiv, ex, Instr.index, asIntOf, r_und hu, hn, hbs]) (.c _ _ (.d _ _ (.int _ _)))
   ·cases hs
  ·cases hs
 ·rename_i x' i' n el hx hi hu
  split at hs
  ·rename_i ti kk hti hkk
   simp only [astep] at hs
   split at hs
   ·rename_i l k m h1 h2
    have hv := cx_sound hx r
    have hiv := cx_sound hi r
    rw [h1] at hv; rw [h2] at hiv
    obtain ⟨cs, ex, e2, e3⟩ := inv_agg hv
    split at hs
    ·rename_i hm
     have fin : ∀ av', ((kk = none ∧ ∃ c, l[m.toNat * ti.size]? = some c ∧ av' = .c c) ∨ (∃ q, kk = some q ∧ m.toNat * ti.size + q ≤ l.length ∧ av' = .agg ((l.drop (m.toNat * ti.size)).take q))) →
       OpRes G ι h w av' h ((execOp a.eval o).run P w) := by
      intro av' hcase
      obtain ⟨v, k1, k2⟩ := part_sound (P := P) hkk e2 e3 hcase
      exact OpRes.value r.hr (by simp [execOp, hop, inv_int hiv, ex, Instr.index, asIntOf, r_und hu, hm, r_size hti, k1]) k2
     cases kk with
     | none =>
      simp only [Option.isSome_none, Bool.false_eq_true, if_false, Option.map_eq_some_iff, Prod.mk.injEq] at hs
      obtain ⟨c, hc, rfl, rfl⟩ := hs
      exact fin _ (.inl ⟨rfl, c, hc, rfl⟩)
     | some q =>
      have hq : q = ti.size := by
       obtain ⟨_, k2⟩ := ldk_some (w := w) hkk
       rw [r_size hti] at k2; cases k2; rfl
      subst hq
      simp only [Option.isSome_some, if_true] at hs
      split at hs
      ·rename_i hle
       simp only [Option.some.injEq, Prod.mk.injEq] at hs
       obtain ⟨rfl, rfl⟩ := hs
       exact fin _ (.inr ⟨_, rfl, hle, rfl⟩)
      ·cases hs
    ·cases hs
   ·cases hs
  ·exact absurd hs bad_step
 ·exact absurd hs bad_step
theorem l_ext {x : Operand} {i : Nat} (r : Rel N G ι e h a w) (hop : o.op = .extract x i) (hs : astep e h (compOp P o) = some (av, h')) :
  OpRes G ι h w av h' ((execOp a.eval o).run P w) := by
 simp only [compOp, hop] at hs
 split at hs
 ·rename_i x' hx
  simp only [astep] at hs
  split at hs
  ·rename_i l hl
   simp only [Option.map_eq_some_iff, Prod.mk.injEq] at hs
   obtain ⟨v, hv, rfl, rfl⟩ := hs
   have hv0 := cx_sound hx r
   rw [hl] at hv0
   obtain ⟨cs, ex, e2, e3⟩ := inv_tup hv0
   have hlt := get_lt hv
   have h1 : cs[i]? = some cs[i] := Array.getElem?_eq_getElem (by omega)
   exact OpRes.value r.hr (v := cs[i]) (by simp [execOp, hop, ex, Instr.extract, h1]) (e3 i _ v h1 hv)
  ·cases hs
 ·exact absurd hs bad_step
theorem l_mks {t : TypeId} {l c : Operand} (r : Rel N G ι e h a w) (hop : o.op = .makeSlice t l c) (hs : astep e h (compOp P o) = some (av, h')) :
  OpRes G ι h w av h' ((execOp a.eval o).run P w) := by
 simp only [compOp, hop] at hs
 split at hs
 ·rename_i el l' c' hu hl hc
  split at hs
  ·rename_i z ti hz hti
   simp only [astep] at hs
   split at hs
   ·rename_i k n k' m h1 h2
    split at hs
    ·rename_i hcond
     simp only [Option.some.injEq, Prod.mk.injEq] at hs
     obtain ⟨rfl, rfl⟩ := hs
     have hv := cx_sound hl r
     have hv' := cx_sound hc r
     rw [h1] at hv; rw [h2] at hv'
     obtain ⟨v, w', G', ι', k1, k2, k3, k4⟩ := s_mks (k := k) (k' := k') r.hr hu hz hti hcond.1 hcond.2.1 hcond.2.2.2 hcond.2.2.1
     exact ⟨v, w', G', ι', .inl (by simp only [execOp, hop, Sem.run_bind, inv_int hv, inv_int hv', k1, Result.andThen_ok, Sem.run_pure]), k2, k3, k4⟩
    ·cases hs
   ·cases hs
  ·exact absurd hs bad_step
 ·exact absurd hs bad_step
end
end Go.Ab

