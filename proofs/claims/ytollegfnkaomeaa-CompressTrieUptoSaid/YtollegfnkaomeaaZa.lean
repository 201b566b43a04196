/-
  Merged texts, part a.
-/
import Derived.Calls
import Derived.KernelRfl
/-
  The engine, part a: abstract values, their relation to memory, and how that relation is kept.
-/
namespace Go.Ab
inductive D where
 | bool (b : Bool)
 | int (k : IntKind) (n : Int)
 | str (s : List UInt8)
 | list (nl : Bool) (sz : Nat) (l : List (List D))
 | nilp
 | nilm
 | nilf
 | nili
 | adr (b o : Nat)
 | sl (b o sz n cap : Nat)
 | mpf (es : List (D × D))
 | rp (cs : List D)
 | yl (l : Nat)
 deriving Inhabited
inductive DV where
 | s (x : D)
 | g (l : List D)
 deriving Inhabited
inductive CV where
 | u
 | d (x : D)
 | cl (nl : Bool) (sz : Nat) (l : List (List D))
 | rp (cs : List D)
 | ptr (l v i j : Nat)
 | arr (l v i n : Nat)
 | mp (l : Nat)
 | it (l : Nat)
 | fn (b : Bool) (f : Nat) (caps : List CV)
 deriving Inhabited
inductive AV where
 | c (x : CV)
 | agg (l : List CV)
 | tup (l : List AV)
 deriving Inhabited
inductive AB where
 | cs (N : Nat) (xs : List D)
 | mp (es : List (DV × DV))
 | op (Φ : (Nat → Prop) → World → Obj → Prop) (hΦ : ∀ (G G' : Nat → Prop) (w w' : World) (o : Obj), (∀ b, G b → G' b ∧ w'.heap[b]? = w.heap[b]?) → Φ G w o → Φ G' w' o)
instance : Inhabited AB := ⟨.mp []⟩
abbrev Ar := Nat → Option AB
inductive Blk where
 | bx (cs : List CV)
 | da (r : Bool) (v sz : Nat) (es : List (List D))
 | mp (v : Nat) (es : List (DV × DV))
 | mi (m v : Nat) (es : List (DV × DV))
 | am (m : Ar)
 | dead
 deriving Inhabited
abbrev Hp := List Blk
abbrev Io := List (Nat × Nat)
abbrev Env := Nat → AV
def lk (e : Env) (n : Nat) : AV := e n
def upd (e : Env) (d : Nat) (v : AV) : Env := fun i => if d = i then v else e i
def Blk.off : Blk → Nat → Nat → Nat → Option Nat
 | .bx _, _, i, j => if i = 0 then some j else none
 | .da _ v sz _, v', i, j => if v = v' then some (i * sz + j) else none
 | _, _, _, _ => none
def Blk.allows : Blk → Nat → Bool
 | .da _ v _ _, v' => decide (v' ≤ v)
 | .mp v _, v' => decide (v' ≤ v)
 | _, _ => true
def Blk.live : Blk → Bool
 | .dead => false
 | .da r _ _ _ => r
 | .am _ => false
 | _ => true
def bsize (w : World) (b : Nat) : Nat :=
 match w.heap[b]? with
 | some (.cells c _ _) => c.size
 | _ => 0
inductive DR (G : Nat → Prop) (w : World) : Value → D → Prop
 | bool (b : Bool) : DR G w (.bool b) (.bool b)
 | int (k : IntKind) (n : Int) : DR G w (.int k n) (.int k n)
 | str (s : ByteArray) : DR G w (.string s) (.str s.data.toList)
 | nils (nl : Bool) (sz : Nat) : DR G w (.slice none 0 0) (.list nl sz [])
 | emp (a : Addr) (sz : Nat) : DR G w (.slice (some a) 0 0) (.list false sz [])
 | sl (b off cap sz : Nat) (l : List (List D)) (g : Nat → Nat → Value)
   (hG : l ≠ [] → G b) (hcap : l.length ≤ cap) (hmax : l.length ≤ 9223372036854775807)
   (hsz : ∀ (i : Nat) (e : List D), l[i]? = some e → e.length = sz)
   (hc : ∀ (i : Nat) (e : List D) (j : Nat) (x : D), l[i]? = some e → e[j]? = some x → w.cell? ⟨b, off + i * sz + j, none⟩ = some (g i j))
   (hr : ∀ (i : Nat) (e : List D) (j : Nat) (x : D), l[i]? = some e → e[j]? = some x → DR G w (g i j) x) :
   DR G w (.slice (some ⟨b, off, none⟩) l.length cap) (.list false sz l)
 | nilp : DR G w (.pointer none) .nilp
 | nilm : DR G w (.map none) .nilm
 | nilf : DR G w .nilFunc .nilf
 | nili : DR G w .nilIface .nili
 | adr (b o : Nat) : DR G w (.pointer (some ⟨b, o, none⟩)) (.adr b o)
 | yl (l : Nat) : DR G w (.func (.yield l) #[] #[]) (.yl l)
 | slA (b o sz n cap : Nat) : DR G w (.slice (some ⟨b, o, none⟩) n cap) (.sl b o sz n cap)
 | mpf (b clock : Nat) (ces : Array MapEntry) (es0 es : List (D × D)) (hp : es.Perm es0) (hG : G b) (hb : w.heap[b]? = some (.map ces clock)) (hlen : ces.toList.length = es.length)
   (hst : (∀ c ∈ ces.toList, c.born < clock) ∧ (ces.toList.map (·.born)).Nodup)
   (hk : ∀ (i : Nat) (c : MapEntry) (e : D × D), ces.toList[i]? = some c → es[i]? = some e → DR G w c.key e.1)
   (hv : ∀ (i : Nat) (c : MapEntry) (e : D × D), ces.toList[i]? = some c → es[i]? = some e → DR G w c.val e.2) : DR G w (.map (some b)) (.mpf es0)
 | rp (b o : Nat) (cs : List D) (g : Nat → Value) (hG : G b) (hc : ∀ (j : Nat) (x : D), cs[j]? = some x → w.cell? ⟨b, o + j, none⟩ = some (g j))
   (hr : ∀ (j : Nat) (x : D), cs[j]? = some x → DR G w (g j) x) : DR G w (.pointer (some ⟨b, o, none⟩)) (.rp cs)
def fnV (b : Bool) (f : Nat) (vs : Array Value) : Value := match Nat.blt f 4294967296 with
 | true => (match b with
  | false => .func (.func f) #[] vs
  | true => .func (.func f) vs #[])
 | false => .iface (f - 4294967296) (match b with
  | false => vs.getD 0 undef
  | true => .agg vs)
theorem fnV_fn {b : Bool} {f : Nat} {vs : Array Value} (h : Nat.blt f 4294967296 = true) : fnV b f vs = (match b with
  | false => .func (.func f) #[] vs
  | true => .func (.func f) vs #[]) := by simp only [fnV, h]
theorem fnV_if (b : Bool) (t : Nat) (vs : Array Value) : fnV b (4294967296 + t) vs = .iface t (match b with
  | false => vs.getD 0 undef
  |true => .agg vs) := by
 have h : Nat.blt (4294967296 + t) 4294967296 = false := by
  rw [Bool.eq_false_iff]
  intro h
  have := Nat.le_of_ble_eq_true h
  omega
 simp only [fnV, h, Nat.add_sub_cancel_left]
def capOf : Value → Nat
 | .slice _ _ c => c
 | _ => 0
inductive CR (G : Nat → Prop) (w : World) (ι : Io) (h : Hp) : Value → CV → Prop
 | u (v : Value) : CR G w ι h v .u
 | d (v : Value) (x : D) : DR G w v x → CR G w ι h v (.d x)
 | cl (v : Value) (nl : Bool) (sz : Nat) (l : List (List D)) : DR G w v (.list nl sz l) → capOf v = l.length → CR G w ι h v (.cl nl sz l)
 | rp (b o : Nat) (cs : List D) (hG : G b)
   (hc : ∀ (j : Nat) (x : D), cs[j]? = some x → ∃ v, w.cell? ⟨b, o + j, none⟩ = some v ∧ DR G w v x) :
   CR G w ι h (.pointer (some ⟨b, o, none⟩)) (.rp cs)
 | ptr (v : Value) (l ver i j : Nat) (blk : Blk) (hb : h[l]? = some blk) (ha : blk.allows ver = true)
   (hk : ∀ k, blk.off ver i j = some k → ∃ b o, ι[l]? = some (b, o) ∧ v = .pointer (some ⟨b, o + k, none⟩)) :
   CR G w ι h v (.ptr l ver i j)
 | arr (v : Value) (l ver i n : Nat) (blk : Blk) (hb : h[l]? = some blk) (ha : blk.allows ver = true)
   (hk : ∀ sz es, blk = .da true ver sz es → ∃ b o cap, ι[l]? = some (b, o) ∧ i + n ≤ es.length ∧ n ≤ cap ∧ o + (i + cap) * sz ≤ bsize w b ∧
    (v = .slice (some ⟨b, o + i * sz, none⟩) n cap ∨ (n = 0 ∧ cap = 0 ∧ ∃ o', v = .slice (some ⟨b, o', none⟩) 0 0)))
   (hk0 : ∀ sz es, blk = .da false ver sz es → i = 0 ∧ n = 0 ∧ v = .slice none 0 0) :
   CR G w ι h v (.arr l ver i n)
 | mp (v : Value) (l : Nat) (blk : Blk) (hb : h[l]? = some blk) (hk : ∀ ver es, blk = .mp ver es → ∃ b o, ι[l]? = some (b, o) ∧ v = .map (some b)) :
   CR G w ι h v (.mp l)
 | it (v : Value) (l : Nat) (blk : Blk) (hb : h[l]? = some blk) (hk : ∀ m ver es, blk = .mi m ver es → ∃ b o, ι[l]? = some (b, o) ∧ v = .pointer (some ⟨b, 0, none⟩)) :
   CR G w ι h v (.it l)
 | fn (v : Value) (b : Bool) (f : Nat) (vs : Array Value) (caps : List CV) (hv : v = fnV b f vs) (hn : vs.size = caps.length)
   (hc : ∀ (i : Nat) (v : Value) (c : CV), vs[i]? = some v → caps[i]? = some c → CR G w ι h v c) :
   CR G w ι h v (.fn b f caps)
inductive VR (G : Nat → Prop) (w : World) (ι : Io) (h : Hp) : Value → AV → Prop
 | c (v : Value) (x : CV) : CR G w ι h v x → VR G w ι h v (.c x)
 | agg (cs : Array Value) (l : List CV) (hn : cs.size = l.length)
   (hc : ∀ (i : Nat) (v : Value) (x : CV), cs[i]? = some v → l[i]? = some x → CR G w ι h v x) : VR G w ι h (.agg cs) (.agg l)
 | tup (cs : Array Value) (l : List AV) (hn : cs.size = l.length)
   (hc : ∀ (i : Nat) (v : Value) (x : AV), cs[i]? = some v → l[i]? = some x → VR G w ι h v x) : VR G w ι h (.tuple cs) (.tup l)
def own1 (ι : Io) (l : Nat) : Blk → Nat → Prop
 | .am m, b => ∃ x, m b = some x
 | k, b => k.live = true ∧ ∃ o, ι[l]? = some (b, o)
def owned (ι : Io) (h : Hp) (b : Nat) : Prop := ∃ (l : Nat) (blk : Blk), h[l]? = some blk ∧ own1 ι l blk b
theorem own1_of {ι : Io} {l b o : Nat} {k : Blk} (hi : ι[l]? = some (b, o)) (hl : k.live = true) : own1 ι l k b := by
 cases k <;> first | exact ⟨hl, o, hi⟩ | cases hl
theorem owned_of {ι : Io} {h : Hp} {l b o : Nat} {k : Blk} (hi : ι[l]? = some (b, o)) (hk : h[l]? = some k) (hl : k.live = true) : owned ι h b :=
 ⟨l, k, hk, own1_of hi hl⟩
theorem own1_cases {ι : Io} {l b : Nat} {k : Blk} (h : own1 ι l k b) : (k.live = true ∧ ∃ o, ι[l]? = some (b, o)) ∨ ∃ m x, k = .am m ∧ m b = some x := by
 cases k with
 | am m => obtain ⟨x, hx⟩ := h; exact .inr ⟨m, x, rfl, hx⟩
 | dead => exact .inl h
 | bx _ => exact .inl h
 | da _ _ _ _ => exact .inl h
 | mp _ _ => exact .inl h
 | mi _ _ _ => exact .inl h
theorem own1_io {ι ι' : Io} {l b : Nat} {k : Blk} (h : own1 ι l k b) (hi : k.live = true → ι'[l]? = ι[l]?) : own1 ι' l k b := by
 rcases own1_cases h with ⟨h1, o, h2⟩ | ⟨m, x, rfl, hx⟩
 ·exact own1_of (by rw [hi h1]; exact h2) h1
 ·exact ⟨x, hx⟩
inductive DVR (G : Nat → Prop) (w : World) : Value → DV → Prop
 | s (v : Value) (x : D) : DR G w v x → DVR G w v (.s x)
 | g (cs : Array Value) (l : List D) (hn : cs.size = l.length) (hc : ∀ (i : Nat) (v : Value) (x : D), cs[i]? = some v → l[i]? = some x → DR G w v x) : DVR G w (.agg cs) (.g l)
def ER (G : Nat → Prop) (w : World) (ces : List MapEntry) (es : List (DV × DV)) : Prop :=
 ces.length = es.length ∧ ∀ (i : Nat) (c : MapEntry) (e : DV × DV), ces[i]? = some c → es[i]? = some e → DVR G w c.key e.1 ∧ DVR G w c.val e.2
def Stamps (ces : List MapEntry) (clock : Nat) : Prop := (∀ c ∈ ces, c.born < clock) ∧ (ces.map (·.born)).Nodup
def unseen (seen : Array Nat) (ces : List MapEntry) : List MapEntry := ces.filter fun e => !seen.contains e.born
def realK : DV → Bool
 | .g [] => false
 | _ => true
def ItR (G : Nat → Prop) (w : World) (seen : Array Nat) (ces : List MapEntry) (es : List (DV × DV)) : Prop :=
 ∃ e rest, es = e :: rest ∧ ER G w (unseen seen ces) rest ∧ (realK e.1 = true → ∃ c, c ∈ ces ∧ seen.back? = some c.born ∧ DVR G w c.key e.1 ∧ DVR G w c.val e.2)
def ABR (G : Nat → Prop) (w : World) (b : Nat) : AB → Prop
 | .cs N xs => ∃ (c : Array Value) (t : TypeId) (fr : Nat × Nat), w.heap[b]? = some (.cells c t fr) ∧ c.size = N ∧ xs.length ≤ N ∧ (∀ k, k < c.size → ¬ (fr.1 ≤ k ∧ k < fr.2)) ∧
   ∀ (i : Nat) (x : D), xs[i]? = some x → ∃ v, c[i]? = some v ∧ DR G w v x
 | .mp es => ∃ ces clock, w.heap[b]? = some (.map ces clock) ∧ Stamps ces.toList clock ∧ ER G w ces.toList es
 | .op Φ _ => ∃ o, w.heap[b]? = some o ∧ Φ G w o
def BR (G : Nat → Prop) (w : World) (ι : Io) (h : Hp) (l : Nat) : Blk → Prop
 | .bx cs => ∃ b o c t fr, ι[l]? = some (b, o) ∧ w.heap[b]? = some (.cells c t fr) ∧ (o + cs.length ≤ c.size ∧ o = 0) ∧ (∀ k, k < c.size → ¬ (fr.1 ≤ k ∧ k < fr.2)) ∧
   ∀ i x, cs[i]? = some x → ∃ v, c[o + i]? = some v ∧ CR G w ι h v x
 | .da false _ _ es => es = []
 | .da true _ sz es => ∃ b o c t fr, es.length ≤ 9223372036854775807 ∧ ι[l]? = some (b, o) ∧ w.heap[b]? = some (.cells c t fr) ∧ o + es.length * sz ≤ c.size ∧ (∀ k, k < c.size → ¬ (fr.1 ≤ k ∧ k < fr.2)) ∧
   (∀ (i : Nat) (e : List D), es[i]? = some e → e.length = sz) ∧
   ∀ (i : Nat) (e : List D) (j : Nat) (x : D), es[i]? = some e → e[j]? = some x → ∃ v, c[o + i * sz + j]? = some v ∧ DR G w v x
 | .mp _ es => ∃ b o ces clock, ι[l]? = some (b, o) ∧ w.heap[b]? = some (.map ces clock) ∧ Stamps ces.toList clock ∧ ER G w ces.toList es
 | .mi m ver es => ∃ b o mb seen clock blk, ι[l]? = some (b, o) ∧ w.heap[b]? = some (.mapIter (some mb) clock seen clock) ∧ h[m]? = some blk ∧ blk.allows ver = true ∧
   ∀ all, blk = .mp ver all → ∃ o' ces, ι[m]? = some (mb, o') ∧ w.heap[mb]? = some (.map ces clock) ∧ ItR G w seen ces.toList es
 | .am m => ∀ b x, m b = some x → ABR G w b x
 | .dead => True
structure HR (G : Nat → Prop) (ι : Io) (h : Hp) (w : World) : Prop where
 len : ι.length = h.length
 own : ∀ (l l' b : Nat) (k k' : Blk), h[l]? = some k → h[l']? = some k' → own1 ι l k b → own1 ι l' k' b → l = l'
 g : ∀ b, G b → b < w.heap.size ∧ ¬ owned ι h b
 blk : ∀ l k, h[l]? = some k → BR G w ι h l k
def Kept (ι ι' : Io) (w w' : World) (l : Nat) : Blk → Blk → Prop
 | _, .dead => True
 | .bx cs, .bx cs' => cs'.length = cs.length ∧ ι'[l]? = ι[l]?
 | .da r v sz es, .da r' v' sz' es' => v < v' ∨ (v = v' ∧ r' = r ∧ sz' = sz ∧ es'.length = es.length ∧ ι'[l]? = ι[l]? ∧ (r = true → ∀ b o, ι[l]? = some (b, o) → bsize w' b = bsize w b))
 | .mp v es, .mp v' es' => ι'[l]? = ι[l]? ∧ (v < v' ∨ (v = v' ∧ es' = es ∧ ∀ b o, ι[l]? = some (b, o) → w'.heap[b]? = w.heap[b]?))
 | .mi m v _, .mi m' v' _ => m' = m ∧ v' = v ∧ ι'[l]? = ι[l]?
 | .am _, .am _ => True
 | _, _ => False
def Quiet (w w' : World) : Prop := w'.os = w.os ∧ w'.output = w.output ∧ w'.tape = w.tape ∧ w.drawn ≤ w'.drawn
structure Ext (G : Nat → Prop) (ι : Io) (h : Hp) (w : World) (G' : Nat → Prop) (ι' : Io) (h' : Hp) (w' : World) : Prop where
 size : w.heap.size ≤ w'.heap.size
 quiet : Quiet w w'
 frame : ∀ b, b < w.heap.size → ¬ owned ι h b → w'.heap[b]? = w.heap[b]?
 gmono : ∀ b, G b → G' b
 gnew : ∀ b, G' b → G b ∨ w.heap.size ≤ b ∨ owned ι h b
 onew : ∀ b, owned ι' h' b → owned ι h b ∨ w.heap.size ≤ b
 keep : ∀ l k, h[l]? = some k → ∃ k', h'[l]? = some k' ∧ Kept ι ι' w w' l k k'
theorem HR.inj {G : Nat → Prop} {ι : Io} {h : Hp} {w : World} (r : HR G ι h w) (l l' b o o' : Nat) (k k' : Blk) (h1 : ι[l]? = some (b, o)) (h2 : ι[l']? = some (b, o')) (h3 : h[l]? = some k) (h4 : h[l']? = some k')
  (h5 : k.live = true) (h6 : k'.live = true) : l = l' := r.own l l' b k k' h3 h4 (own1_of h1 h5) (own1_of h2 h6)
theorem cell_same {w w' : World} {b : Nat} (h : w'.heap[b]? = w.heap[b]?) (o : Nat) : w'.cell? ⟨b, o, none⟩ = w.cell? ⟨b, o, none⟩ := by
 simp only [World.cell?, h]
theorem bsize_same {w w' : World} {b : Nat} (h : w'.heap[b]? = w.heap[b]?) : bsize w' b = bsize w b := by
 simp only [bsize, h]
theorem DR.mono {G G' : Nat → Prop} {w w' : World} {v : Value} {x : D} (hg : ∀ b, G b → G' b ∧ w'.heap[b]? = w.heap[b]?)
  (h : DR G w v x) : DR G' w' v x := by
 induction h with
 | bool b => exact .bool b
 | int k n => exact .int k n
 | str s => exact .str s
 | nils nl sz => exact .nils nl sz
 | emp a sz => exact .emp a sz
 | nilp => exact .nilp
 | nilm => exact .nilm
 | nilf => exact .nilf
 | nili => exact .nili
 | adr b o => exact .adr b o
 | slA b o sz n cap => exact .slA b o sz n cap
 | yl l => exact .yl l
 | mpf b clock ces es0 es hp hG hb hlen hst _ _ ih1 ih2 => exact .mpf b clock ces es0 es hp (hg b hG).1 (by rw [(hg b hG).2]; exact hb) hlen hst ih1 ih2
 | rp b o cs g hG hc _ ih => exact .rp b o cs g (hg b hG).1 (fun j x hx => by rw [cell_same (hg b hG).2]; exact hc j x hx) ih
 | sl b off cap sz l g hG hcap hmax hsz hc hr ih =>
  refine .sl b off cap sz l g (fun hl => (hg b (hG hl)).1) hcap hmax hsz ?_ ih
  intro i e j x he hx
  have hl : l ≠ [] := by intro h0; subst h0; simp at he
  rw [cell_same (hg b (hG hl)).2]
  exact hc i e j x he hx
theorem DVR.mono {G G' : Nat → Prop} {w w' : World} {v : Value} {x : DV} (hg : ∀ b, G b → G' b ∧ w'.heap[b]? = w.heap[b]?)
  (h : DVR G w v x) : DVR G' w' v x := by
 cases h with
 | s v x hd => exact .s v x (hd.mono hg)
 | g cs l hn hc => exact .g cs l hn fun i v x h1 h2 => (hc i v x h1 h2).mono hg
theorem ER.mono {G G' : Nat → Prop} {w w' : World} {ces : List MapEntry} {es : List (DV × DV)} (hg : ∀ b, G b → G' b ∧ w'.heap[b]? = w.heap[b]?)
  (h : ER G w ces es) : ER G' w' ces es :=
 ⟨h.1, fun i c e h1 h2 => ⟨(h.2 i c e h1 h2).1.mono hg, (h.2 i c e h1 h2).2.mono hg⟩⟩
theorem ItR.mono {G G' : Nat → Prop} {w w' : World} {seen : Array Nat} {ces : List MapEntry} {es : List (DV × DV)} (hg : ∀ b, G b → G' b ∧ w'.heap[b]? = w.heap[b]?)
  (h : ItR G w seen ces es) : ItR G' w' seen ces es := by
 obtain ⟨e, rest, h1, h2, h3⟩ := h
 exact ⟨e, rest, h1, h2.mono hg, fun hr => (by obtain ⟨c, g1, g2, g3, g4⟩ := h3 hr; exact ⟨c, g1, g2, g3.mono hg, g4.mono hg⟩)⟩
theorem Kept.refl (ι : Io) (w : World) (l : Nat) (k : Blk) : Kept ι ι w w l k k := by
 cases k <;> simp [Kept]
theorem Kept.off {ι ι' : Io} {w w' : World} {l ver i j o : Nat} {k k' : Blk} (h : Kept ι ι' w w' l k k') (ha : k.allows ver = true)
  (ho : k'.off ver i j = some o) : k.off ver i j = some o ∧ ι'[l]? = ι[l]? := by
 cases k with
 | dead => cases k' <;> simp_all [Kept, Blk.off]
 | bx cs => cases k' <;> simp_all [Kept, Blk.off]
 | mp => cases k' <;> simp_all [Kept, Blk.off]
 | mi => cases k' <;> simp_all [Kept, Blk.off]
 | am => cases k' <;> simp_all [Kept, Blk.off]
 | da r v sz es =>
  cases k' with
  | bx cs => simp [Kept] at h
  | dead => simp [Blk.off] at ho
  | mp => simp [Blk.off] at ho
  | mi => simp [Blk.off] at ho
  | am => simp [Blk.off] at ho
  | da r' v' sz' es' =>
   simp only [Kept, Blk.allows, decide_eq_true_eq] at h ha
   simp only [Blk.off] at ho ⊢
   rcases h with h | ⟨h1, h0, h2, h3, h4, h5⟩
   ·split at ho
    ·omega
    ·cases ho
   ·subst h1 h2; exact ⟨ho, h4⟩
theorem Kept.allows {ι ι' : Io} {w w' : World} {l ver : Nat} {k k' : Blk} (h : Kept ι ι' w w' l k k') (ha : k.allows ver = true) : k'.allows ver = true := by
 cases k <;> cases k' <;> simp_all [Kept, Blk.allows] <;> omega
theorem Kept.da {ι ι' : Io} {w w' : World} {l ver sz : Nat} {r : Bool} {es' : List (List D)} {k k' : Blk} (h : Kept ι ι' w w' l k k') (ha : k.allows ver = true)
  (hk : k' = .da r ver sz es') : ∃ es, k = .da r ver sz es ∧ es'.length = es.length ∧ ι'[l]? = ι[l]? ∧ (r = true → ∀ b o, ι[l]? = some (b, o) → bsize w' b = bsize w b) := by
 subst hk
 cases k with
 | bx cs => simp [Kept] at h
 | dead => simp [Kept] at h
 | mp => simp [Kept] at h
 | mi => simp [Kept] at h
 | am => simp [Kept] at h
 | da r0 v sz0 es =>
  simp only [Kept, Blk.allows, decide_eq_true_eq] at h ha
  rcases h with h | ⟨h1, h0, h2, h3, h4, h5⟩
  ·omega
  ·subst h1 h2 h0; exact ⟨es, rfl, h3, h4, h5⟩
theorem Kept.mp {ι ι' : Io} {w w' : World} {l v : Nat} {es : List (DV × DV)} {k k' : Blk} (h : Kept ι ι' w w' l k k') (hk : k' = .mp v es) :
  ∃ v0 es0, k = .mp v0 es0 ∧ ι'[l]? = ι[l]? ∧ (v0 < v ∨ (v0 = v ∧ es = es0 ∧ ∀ b o, ι[l]? = some (b, o) → w'.heap[b]? = w.heap[b]?)) := by
 subst hk
 cases k <;> simp [Kept] at h
 exact ⟨_, _, rfl, h.1, h.2⟩
theorem Kept.mi {ι ι' : Io} {w w' : World} {l m v : Nat} {es : List (DV × DV)} {k k' : Blk} (h : Kept ι ι' w w' l k k') (hk : k' = .mi m v es) :
  ∃ es0, k = .mi m v es0 ∧ ι'[l]? = ι[l]? := by
 subst hk
 cases k <;> simp [Kept] at h
 obtain ⟨rfl, rfl, h⟩ := h
 exact ⟨_, rfl, h⟩
theorem CR.mono {G G' : Nat → Prop} {w w' : World} {ι ι' : Io} {h h' : Hp} {v : Value} {x : CV} (hg : ∀ b, G b → G' b ∧ w'.heap[b]? = w.heap[b]?)
  (hk : ∀ l k, h[l]? = some k → ∃ k', h'[l]? = some k' ∧ Kept ι ι' w w' l k k') (hx : CR G w ι h v x) : CR G' w' ι' h' v x := by
 induction hx with
 | u v => exact .u v
 | d v x hd => exact .d v x (hd.mono hg)
 | cl v nl sz l hd hc => exact .cl v nl sz l (hd.mono hg) hc
 | rp b o cs hG hc =>
  refine .rp b o cs (hg b hG).1 fun j x hx => ?_
  obtain ⟨v, hv, hd⟩ := hc j x hx
  exact ⟨v, by rw [cell_same (hg b hG).2]; exact hv, hd.mono hg⟩
 | ptr v l ver i j blk hb ha hp =>
  obtain ⟨k', hk', hkept⟩ := hk l blk hb
  refine .ptr v l ver i j k' hk' (hkept.allows ha) fun o ho => ?_
  obtain ⟨h1, h2⟩ := hkept.off ha ho
  rw [h2]; exact hp o h1
 | arr v l ver i n blk hb ha hp hp0 =>
  obtain ⟨k', hk', hkept⟩ := hk l blk hb
  refine .arr v l ver i n k' hk' (hkept.allows ha) (fun sz es he => ?_) fun sz es he => ?_
  ·obtain ⟨es0, h1, h2, h3, h4⟩ := hkept.da ha he
   obtain ⟨b, o, cap, g1, g2, g3, g4, g5⟩ := hp sz es0 h1
   exact ⟨b, o, cap, by rw [h3]; exact g1, by omega, g3, by rw [h4 rfl b o g1]; exact g4, g5⟩
  ·obtain ⟨es0, h1, h2, h3, h4⟩ := hkept.da ha he
   exact hp0 sz es0 h1
 | mp v l blk hb hp =>
  obtain ⟨k', hk', hkept⟩ := hk l blk hb
  refine .mp v l k' hk' fun ver es he => ?_
  obtain ⟨v0, es0, h1, h2, _⟩ := hkept.mp he
  rw [h2]; exact hp v0 es0 h1
 | it v l blk hb hp =>
  obtain ⟨k', hk', hkept⟩ := hk l blk hb
  refine .it v l k' hk' fun m ver es he => ?_
  obtain ⟨es0, h1, h2⟩ := hkept.mi he
  rw [h2]; exact hp m ver es0 h1
 | fn v b f vs caps hv hn _ ih => exact .fn v b f vs caps hv hn fun i v c h1 h2 => ih i v c h1 h2
theorem VR.mono {G G' : Nat → Prop} {w w' : World} {ι ι' : Io} {h h' : Hp} {v : Value} {x : AV} (hg : ∀ b, G b → G' b ∧ w'.heap[b]? = w.heap[b]?)
  (hk : ∀ l k, h[l]? = some k → ∃ k', h'[l]? = some k' ∧ Kept ι ι' w w' l k k') (hx : VR G w ι h v x) : VR G' w' ι' h' v x := by
 induction hx with
 | c v x hc => exact .c v x (hc.mono hg hk)
 | agg cs l hn hc => exact .agg cs l hn fun i v x h1 h2 => (hc i v x h1 h2).mono hg hk
 | tup cs l hn _ ih => exact .tup cs l hn fun i v x h1 h2 => ih i v x h1 h2
theorem Ext.refl (G : Nat → Prop) (ι : Io) (h : Hp) (w : World) : Ext G ι h w G ι h w where
 size := Nat.le_refl _
 quiet := ⟨rfl, rfl, rfl, Nat.le_refl _⟩
 frame _ _ _ := rfl
 gmono _ h := h
 gnew _ h := .inl h
 onew _ h := .inl h
 keep l k hk := ⟨k, hk, Kept.refl ι w l k⟩
theorem Kept.trans {ι ι1 ι2 : Io} {w w1 w2 : World} {l : Nat} {k k1 k2 : Blk} (a : Kept ι ι1 w w1 l k k1) (b : Kept ι1 ι2 w1 w2 l k1 k2) : Kept ι ι2 w w2 l k k2 := by
 cases k2 with
 | dead => simp [Kept]
 | bx cs => cases k <;> cases k1 <;> simp_all [Kept]
 | mi => cases k <;> cases k1 <;> simp_all [Kept]
 | am => cases k <;> cases k1 <;> simp_all [Kept]
 | mp v es =>
  obtain ⟨v1, es1, rfl, b1, b2⟩ := Kept.mp b rfl
  obtain ⟨v0, es0, rfl, a1, a2⟩ := Kept.mp a rfl
  refine ⟨by rw [b1, a1], ?_⟩
  rcases a2 with a2 | ⟨a2, a3, a4⟩
  ·left
   rcases b2 with b2 | ⟨b2, _⟩ <;> omega
  ·rcases b2 with b2 | ⟨b2, b3, b4⟩
   ·left; omega
   ·right
    refine ⟨by omega, by rw [b3, a3], fun bb o hb => ?_⟩
    rw [b4 bb o (by rw [a1]; exact hb), a4 bb o hb]
 | da r v sz es =>
  cases k1 with
  | dead => simp [Kept] at b
  | bx cs => simp [Kept] at b
  | mp => simp [Kept] at b
  | mi => simp [Kept] at b
  | am => simp [Kept] at b
  | da r1 v1 sz1 es1 =>
   cases k with
   | dead => simp [Kept] at a
   | bx cs => simp [Kept] at a
   | mp => simp [Kept] at a
   | mi => simp [Kept] at a
   | am => simp [Kept] at a
   | da r0 v0 sz0 es0 =>
    simp only [Kept] at a b ⊢
    rcases a with a | ⟨a1, a0, a2, a3, a4, a5⟩
    ·rcases b with b | ⟨b1, b2⟩
     ·left; omega
     ·left; omega
    ·rcases b with b | ⟨b1, b0, b2, b3, b4, b5⟩
     ·left; omega
     ·right
      refine ⟨by omega, by rw [b0, a0], by omega, by omega, by rw [b4, a4], fun hr bb o hb => ?_⟩
      rw [b5 (by rw [a0]; exact hr) bb o (by rw [a4]; exact hb), a5 hr bb o hb]
theorem Ext.trans {G G1 G2 : Nat → Prop} {ι ι1 ι2 : Io} {h h1 h2 : Hp} {w w1 w2 : World} (a : Ext G ι h w G1 ι1 h1 w1) (b : Ext G1 ι1 h1 w1 G2 ι2 h2 w2) :
  Ext G ι h w G2 ι2 h2 w2 where
 size := Nat.le_trans a.size b.size
 quiet := ⟨b.quiet.1.trans a.quiet.1, b.quiet.2.1.trans a.quiet.2.1, b.quiet.2.2.1.trans a.quiet.2.2.1, Nat.le_trans a.quiet.2.2.2 b.quiet.2.2.2⟩
 frame x hx ho := by
  rw [b.frame x (Nat.lt_of_lt_of_le hx a.size) (fun h1 => by rcases a.onew x h1 with h | h; exact ho h; omega), a.frame x hx ho]
 gmono x hx := b.gmono x (a.gmono x hx)
 gnew x hx := by
  rcases b.gnew x hx with h | h | h
  ·exact a.gnew x h
  ·right; left; exact Nat.le_trans a.size h
  ·rcases a.onew x h with h | h
   ·right; right; exact h
   ·right; left; exact h
 onew x hx := by
  rcases b.onew x hx with h | h
  ·exact a.onew x h
  ·right; exact Nat.le_trans a.size h
 keep l k hk := by
  obtain ⟨k1, hk1, ha⟩ := a.keep l k hk
  obtain ⟨k2, hk2, hb⟩ := b.keep l k1 hk1
  exact ⟨k2, hk2, ha.trans hb⟩
theorem Ext.g_same {G G' : Nat → Prop} {ι ι' : Io} {h h' : Hp} {w w' : World} (e : Ext G ι h w G' ι' h' w') (hr : HR G ι h w) :
  ∀ b, G b → G' b ∧ w'.heap[b]? = w.heap[b]? :=
 fun b hb => ⟨e.gmono b hb, e.frame b (hr.g b hb).1 (hr.g b hb).2⟩
theorem VR.ext {G G' : Nat → Prop} {ι ι' : Io} {h h' : Hp} {w w' : World} {v : Value} {x : AV} (e : Ext G ι h w G' ι' h' w') (hr : HR G ι h w)
  (hx : VR G w ι h v x) : VR G' w' ι' h' v x := hx.mono (e.g_same hr) e.keep
theorem CR.ext {G G' : Nat → Prop} {ι ι' : Io} {h h' : Hp} {w w' : World} {v : Value} {x : CV} (e : Ext G ι h w G' ι' h' w') (hr : HR G ι h w)
  (hx : CR G w ι h v x) : CR G' w' ι' h' v x := hx.mono (e.g_same hr) e.keep
theorem DR.ext {G G' : Nat → Prop} {ι ι' : Io} {h h' : Hp} {w w' : World} {v : Value} {x : D} (e : Ext G ι h w G' ι' h' w') (hr : HR G ι h w)
  (hx : DR G w v x) : DR G' w' v x := hx.mono (e.g_same hr)
structure Rel (N : Nat) (G : Nat → Prop) (ι : Io) (e : Env) (h : Hp) (a : Act) (w : World) : Prop where
 hr : HR G ι h w
 size : a.tmps.size = N
 env : ∀ i, VR G w ι h (a.tmps.getD i undef) (lk e i)
theorem Rel.put {N : Nat} {G G' : Nat → Prop} {ι ι' : Io} {e : Env} {h h' : Hp} {a : Act} {w w' : World} (r : Rel N G ι e h a w) (x : Ext G ι h w G' ι' h' w')
  (hr' : HR G' ι' h' w') {d : Nat} {v : Value} {av : AV} (hd : d < N) (hv : VR G' w' ι' h' v av) :
  Rel N G' ι' (upd e d av) h' (a.put (some d) v) w' where
 hr := hr'
 size := by simp [Act.put, r.size]
 env i := by
  simp only [lk, upd, Act.put]
  by_cases hi : d = i
  ·subst hi
   simp [Array.getD_eq_getD_getElem?, r.size, hd]
   exact hv
  ·simp only [hi, if_false, Array.getD_eq_getD_getElem?, Array.getElem?_setIfInBounds]
   have := (r.env i).ext x r.hr
   simpa [Array.getD_eq_getD_getElem?, lk] using this
theorem Rel.put_none {N : Nat} {G G' : Nat → Prop} {ι ι' : Io} {e : Env} {h h' : Hp} {a : Act} {w w' : World} (r : Rel N G ι e h a w) (x : Ext G ι h w G' ι' h' w')
  (hr' : HR G' ι' h' w') (v : Value) : Rel N G' ι' e h' (a.put none v) w' where
 hr := hr'
 size := r.size
 env i := (r.env i).ext x r.hr
end Go.Ab

/-
  The engine, part b: how the heap relation is carried over an allocation, a store, a draw, a freezing.
-/
namespace Go.Ab
theorem Kept.same_heap {ι : Io} {w w' : World} (hw : w'.heap = w.heap) (l : Nat) (k : Blk) : Kept ι ι w w' l k k := by
 cases k <;> simp [Kept, bsize, hw]
theorem Ext.same_heap {G : Nat → Prop} {ι : Io} {h : Hp} {w w' : World} (hw : w'.heap = w.heap) (hq : Quiet w w' := by first | exact ⟨rfl, rfl, rfl, Nat.le_refl _⟩ | exact ⟨rfl, rfl, rfl, Nat.le_succ _⟩ | assumption | (subst_vars; exact ⟨rfl, rfl, rfl, Nat.le_refl _⟩) | (subst_vars; exact ⟨rfl, rfl, rfl, Nat.le_succ _⟩)) : Ext G ι h w G ι h w' where
 quiet := hq
 size := by rw [hw]; exact Nat.le_refl _
 frame _ _ _ := by rw [hw]
 gmono _ h := h
 gnew _ h := .inl h
 onew _ h := .inl h
 keep l k hk := ⟨k, hk, Kept.same_heap hw l k⟩
theorem ABR.mono {G G' : Nat → Prop} {w w' : World} {b : Nat} {x : AB} (hx : ABR G w b x) (hg : ∀ b, G b → G' b ∧ w'.heap[b]? = w.heap[b]?) (hb : w'.heap[b]? = w.heap[b]?) : ABR G' w' b x := by
 cases x with
 | cs N xs =>
  obtain ⟨c, t, fr, h1, h2, h3, h4, h5⟩ := hx
  refine ⟨c, t, fr, by rw [hb]; exact h1, h2, h3, h4, fun i x hi => ?_⟩
  obtain ⟨v, hv, hd⟩ := h5 i x hi
  exact ⟨v, hv, hd.mono hg⟩
 | mp es =>
  obtain ⟨ces, clock, h1, h2, h3⟩ := hx
  exact ⟨ces, clock, by rw [hb]; exact h1, h2, h3.mono hg⟩
 | op Φ hΦ =>
  obtain ⟨o, h1, h2⟩ := hx
  exact ⟨o, by rw [hb]; exact h1, hΦ G G' w w' o hg h2⟩
theorem HR.same_heap {G : Nat → Prop} {ι : Io} {h : Hp} {w w' : World} (r : HR G ι h w) (hw : w'.heap = w.heap) (hq : Quiet w w' := by first | exact ⟨rfl, rfl, rfl, Nat.le_refl _⟩ | exact ⟨rfl, rfl, rfl, Nat.le_succ _⟩ | assumption | (subst_vars; exact ⟨rfl, rfl, rfl, Nat.le_refl _⟩) | (subst_vars; exact ⟨rfl, rfl, rfl, Nat.le_succ _⟩)) : HR G ι h w' where
 len := r.len
 own := r.own
 g b hb := by rw [hw]; exact r.g b hb
 blk l k hk := by
  have hx := Ext.same_heap (G := G) (ι := ι) (h := h) hw
  have := r.blk l k hk
  cases k with
  | dead => trivial
  | am m => exact fun b x hb => (this b x hb).mono (hx.g_same r) (by rw [hw])
  | mp ver es =>
   obtain ⟨b, o, ces, clock, h1, h2, h3, h4⟩ := this
   exact ⟨b, o, ces, clock, h1, by rw [hw]; exact h2, h3, h4.mono (hx.g_same r)⟩
  | mi m ver es =>
   obtain ⟨b, o, mb, seen, clock, blk, h1, h2, h3, h4, h5⟩ := this
   refine ⟨b, o, mb, seen, clock, blk, h1, by rw [hw]; exact h2, h3, h4, fun all ha => ?_⟩
   obtain ⟨o', ces, g1, g2, g3⟩ := h5 all ha
   exact ⟨o', ces, g1, by rw [hw]; exact g2, g3.mono (hx.g_same r)⟩
  | bx cs =>
   obtain ⟨b, o, c, t, fr, h1, h2, h3, h4, h5⟩ := this
   refine ⟨b, o, c, t, fr, h1, by rw [hw]; exact h2, h3, h4, fun i x hx' => ?_⟩
   obtain ⟨v, hv, hc⟩ := h5 i x hx'
   exact ⟨v, hv, hc.ext hx r⟩
  | da rl v sz es =>
   cases rl with
   | false => exact this
   | true =>
   obtain ⟨b, o, c, t, fr, hmx, h1, h2, h3, h4, h5, h6⟩ := this
   refine ⟨b, o, c, t, fr, hmx, h1, by rw [hw]; exact h2, h3, h4, h5, fun i e j x he hx' => ?_⟩
   obtain ⟨v, hv, hc⟩ := h6 i e j x he hx'
   exact ⟨v, hv, hc.ext hx r⟩
def push (w : World) (o : Obj) : World := { w with heap := w.heap.push o }
theorem push_old (w : World) (o : Obj) {b : Nat} (hb : b < w.heap.size) : (push w o).heap[b]? = w.heap[b]? := by
 simp only [push, Array.getElem?_push]
 rw [if_neg (by omega)]
theorem push_new (w : World) (o : Obj) : (push w o).heap[w.heap.size]? = some o := by
 simp [push]
theorem owned_lt {G : Nat → Prop} {ι : Io} {h : Hp} {w : World} (r : HR G ι h w) {b : Nat} (ho : owned ι h b) : b < w.heap.size := by
 have lt : ∀ {o : Obj}, w.heap[b]? = some o → b < w.heap.size := fun {o} hb => by
  rcases Nat.lt_or_ge b w.heap.size with h | h
  ·exact h
  ·rw [Array.getElem?_eq_none h] at hb; cases hb
 obtain ⟨l, blk, h2, h3⟩ := ho
 have := r.blk l blk h2
 rcases own1_cases h3 with ⟨h3, o, h1⟩ | ⟨m, x, rfl, hx⟩
 ·cases blk with
  | dead => simp [Blk.live] at h3
  | am m => simp [Blk.live] at h3
  | mp ver es =>
   obtain ⟨b', o', c, t, g1, g2, _⟩ := this
   rw [h1] at g1; cases g1
   exact lt g2
  | mi m ver es =>
   obtain ⟨b', o', c, t, cl, blk, g1, g2, _⟩ := this
   rw [h1] at g1; cases g1
   exact lt g2
  | bx cs =>
   obtain ⟨b', o', c, t, fr, g1, g2, _⟩ := this
   rw [h1] at g1; cases g1
   exact lt g2
  | da rl v sz es =>
   simp only [Blk.live] at h3
   subst h3
   obtain ⟨b', o', c, t, fr, _, g1, g2, _⟩ := this
   rw [h1] at g1; cases g1
   exact lt g2
 ·have := this b x hx
  cases x with
  | cs N xs => obtain ⟨c, t, fr, g, _⟩ := this; exact lt g
  | mp es => obtain ⟨c, t, g, _⟩ := this; exact lt g
  | op Φ hΦ => obtain ⟨o, g, _⟩ := this; exact lt g
theorem get_snoc_old {α : Type} {l : List α} {a x : α} {i : Nat} (h : l[i]? = some x) : (l ++ [a])[i]? = some x := by
 have hi : i < l.length := by
  rcases Nat.lt_or_ge i l.length with h' | h'
  ·exact h'
  ·rw [List.getElem?_eq_none h'] at h; cases h
 rw [List.getElem?_append_left hi]; exact h
theorem get_snoc {α : Type} {l : List α} {a x : α} {i : Nat} (h : (l ++ [a])[i]? = some x) : l[i]? = some x ∨ (i = l.length ∧ x = a) := by
 rcases Nat.lt_or_ge i l.length with hi | hi
 ·rw [List.getElem?_append_left hi] at h; exact .inl h
 ·rw [List.getElem?_append_right hi] at h
  right
  rcases Nat.lt_or_ge (i - l.length) 1 with h1 | h1
  ·have : i - l.length = 0 := by omega
   rw [this] at h; simp at h; exact ⟨by omega, h.symm⟩
  ·rw [List.getElem?_eq_none (by simpa using h1)] at h; cases h
theorem get_lt {α : Type} {l : List α} {i : Nat} {x : α} (h : l[i]? = some x) : i < l.length := by
 rcases Nat.lt_or_ge i l.length with h' | h'
 ·exact h'
 ·rw [List.getElem?_eq_none h'] at h; cases h
theorem Kept.frame {ι ι' : Io} {w w' : World} {l : Nat} {k : Blk} (hi : ι'[l]? = ι[l]?) (hw : ∀ b, own1 ι l k b → w'.heap[b]? = w.heap[b]?) : Kept ι ι' w w' l k k := by
 cases k with
 | dead => trivial
 | am => trivial
 | bx cs => exact ⟨rfl, hi⟩
 | mi => exact ⟨rfl, rfl, hi⟩
 | mp v es => exact ⟨hi, .inr ⟨rfl, rfl, fun b o' hb => hw b (own1_of hb rfl)⟩⟩
 | da rl v sz es => exact .inr ⟨rfl, rfl, rfl, rfl, hi, fun hrl b o' hb => bsize_same (hw b (own1_of hb hrl))⟩
theorem Ext.push_other {G : Nat → Prop} {ι : Io} {h : Hp} {w : World} (r : HR G ι h w) (o : Obj) : Ext G ι h w G ι h (push w o) where
 size := by simp [push]
 quiet := ⟨rfl, rfl, rfl, Nat.le_refl _⟩
 frame b hb _ := push_old w o hb
 gmono _ h := h
 gnew _ h := .inl h
 onew _ h := .inl h
 keep l k hk := ⟨k, hk, Kept.frame rfl fun _ hb => push_old w o (owned_lt r ⟨l, k, hk, hb⟩)⟩
theorem own1_snoc {ι : Io} {l n b : Nat} {k : Blk} (hl : l < ι.length) (h : own1 (ι ++ [(n, 0)]) l k b) : own1 ι l k b :=
 own1_io h fun _ => (List.getElem?_append_left hl).symm
theorem owned_snoc {ι : Io} {h : Hp} {k : Blk} {n b : Nat} (hl : ι.length = h.length) (ho : owned (ι ++ [(n, 0)]) (h ++ [k]) b) : owned ι h b ∨ (k.live = true ∧ b = n) ∨ ∃ m x, k = .am m ∧ m b = some x := by
 obtain ⟨l, blk, h2, h3⟩ := ho
 rcases get_snoc h2 with g3 | ⟨g3, rfl⟩
 ·exact .inl ⟨l, blk, g3, own1_snoc (by have := get_lt g3; omega) h3⟩
 ·right
  rcases own1_cases h3 with ⟨h4, o, h5⟩ | h4
  ·left
   refine ⟨h4, ?_⟩
   rw [g3, ← hl] at h5
   simp at h5
   exact h5.1.symm
  ·exact .inr h4
theorem Ext.push_own {G : Nat → Prop} {ι : Io} {h : Hp} {w : World} (r : HR G ι h w) (o : Obj) (k : Blk) (hk0 : k.live = true) :
  Ext G ι h w G (ι ++ [(w.heap.size, 0)]) (h ++ [k]) (push w o) where
 size := by simp [push]
 quiet := ⟨rfl, rfl, rfl, Nat.le_refl _⟩
 frame b hb _ := push_old w o hb
 gmono _ h := h
 gnew _ h := .inl h
 onew b ho := by
  rcases owned_snoc r.len ho with h | ⟨_, h⟩ | ⟨m, x, rfl, _⟩
  ·exact .inl h
  ·right; omega
  ·cases hk0
 keep l k' hk := ⟨k', get_snoc_old hk, Kept.frame (List.getElem?_append_left (by rw [r.len]; exact get_lt hk)) fun b hb => push_old w o (owned_lt r ⟨l, k', hk, hb⟩)⟩
theorem BR.carry {G G' : Nat → Prop} {ι ι' : Io} {h h' : Hp} {w w' : World} (hg : ∀ b, G b → G' b ∧ w'.heap[b]? = w.heap[b]?) (hkeep : ∀ l k, h[l]? = some k → ∃ k', h'[l]? = some k' ∧ Kept ι ι' w w' l k k') {l : Nat} {k : Blk}
  (this : BR G w ι h l k) (hi : ι'[l]? = ι[l]?) (hw : ∀ b, own1 ι l k b → w'.heap[b]? = w.heap[b]?) : BR G' w' ι' h' l k := by
 cases k with
 | dead => trivial
 | am m => exact fun b x hb => (this b x hb).mono hg (hw b ⟨x, hb⟩)
 | mp ver es =>
  obtain ⟨b, o, ces, clock, h1, h2, h3, h4⟩ := this
  exact ⟨b, o, ces, clock, by rw [hi]; exact h1, by rw [hw b (own1_of h1 rfl)]; exact h2, h3, h4.mono hg⟩
 | mi m ver es =>
  obtain ⟨b, o, mb, seen, clock, blk, h1, h2, h3, h4, h5⟩ := this
  obtain ⟨k', hk', hkept⟩ := hkeep m blk h3
  refine ⟨b, o, mb, seen, clock, k', by rw [hi]; exact h1, by rw [hw b (own1_of h1 rfl)]; exact h2, hk', hkept.allows h4, fun all ha => ?_⟩
  obtain ⟨v0, es0, rfl, g1, g2⟩ := hkept.mp ha
  rcases g2 with g2 | ⟨g2, g3, g4⟩
  ·simp only [Blk.allows, decide_eq_true_eq] at h4; omega
  ·subst g2 g3
   obtain ⟨o', ces, f1, f2, f3⟩ := h5 _ rfl
   exact ⟨o', ces, by rw [g1]; exact f1, by rw [g4 mb o' f1]; exact f2, f3.mono hg⟩
 | bx cs =>
  obtain ⟨b, o, c, t, fr, h1, h2, h3, h4, h5⟩ := this
  refine ⟨b, o, c, t, fr, by rw [hi]; exact h1, by rw [hw b (own1_of h1 rfl)]; exact h2, h3, h4, fun i x hx' => ?_⟩
  obtain ⟨v, hv, hc⟩ := h5 i x hx'
  exact ⟨v, hv, hc.mono hg hkeep⟩
 | da rl v sz es =>
  cases rl with
  | false => exact this
  | true =>
  obtain ⟨b, o, c, t, fr, hmx, h1, h2, h3, h4, h5, h6⟩ := this
  refine ⟨b, o, c, t, fr, hmx, by rw [hi]; exact h1, by rw [hw b (own1_of h1 rfl)]; exact h2, h3, h4, h5, fun i e' j x he hx' => ?_⟩
  obtain ⟨v, hv, hc⟩ := h6 i e' j x he hx'
  exact ⟨v, hv, hc.mono hg⟩
theorem BR.ext {G G' : Nat → Prop} {ι ι' : Io} {h h' : Hp} {w w' : World} (e : Ext G ι h w G' ι' h' w') (r : HR G ι h w) {l : Nat} {k : Blk}
  (hk : h[l]? = some k) (hi : ι'[l]? = ι[l]?) (hw : ∀ b, own1 ι l k b → w'.heap[b]? = w.heap[b]?) : BR G' w' ι' h' l k :=
 BR.carry (e.g_same r) e.keep (r.blk l k hk) hi hw
theorem HR.push_own {G : Nat → Prop} {ι : Io} {h : Hp} {w : World} (r : HR G ι h w) (o : Obj) (k : Blk) (hk0 : k.live = true)
  (hb : BR G (push w o) (ι ++ [(w.heap.size, 0)]) (h ++ [k]) h.length k) :
  HR G (ι ++ [(w.heap.size, 0)]) (h ++ [k]) (push w o) where
 len := by simp [r.len]
 own l l' b k1 k2 b1 b2 c1 c2 := by
  have new : ∀ {l : Nat} {k1 : Blk} , l = h.length → k1 = k → own1 (ι ++ [(w.heap.size, 0)]) l k1 b → b = w.heap.size := by
   intro l k1 e1 e2 c
   subst e2
   rcases own1_cases c with ⟨_, o, h5⟩ | ⟨m, x, rfl, _⟩
   ·rw [e1, ← r.len] at h5; simp at h5; exact h5.1.symm
   ·cases hk0
  rcases get_snoc b1 with d1 | ⟨d1, d1'⟩ <;> rcases get_snoc b2 with d2 | ⟨d2, d2'⟩
  ·exact r.own l l' b k1 k2 d1 d2 (own1_snoc (by rw [r.len]; exact get_lt d1) c1) (own1_snoc (by rw [r.len]; exact get_lt d2) c2)
  ·have := owned_lt r ⟨l, k1, d1, own1_snoc (by rw [r.len]; exact get_lt d1) c1⟩
   have := new d2 d2' c2
   omega
  ·have := owned_lt r ⟨l', k2, d2, own1_snoc (by rw [r.len]; exact get_lt d2) c2⟩
   have := new d1 d1' c1
   omega
  ·omega
 g b hb' := by
  have := r.g b hb'
  refine ⟨by simp [push]; omega, fun ho => ?_⟩
  rcases owned_snoc r.len ho with h | ⟨_, h⟩ | ⟨m, x, rfl, _⟩
  ·exact this.2 h
  ·omega
  ·cases hk0
 blk l k' hk := by
  rcases get_snoc hk with d | ⟨d, d'⟩
  ·have hl := get_lt d
   exact BR.ext (Ext.push_own r o k hk0) r d (List.getElem?_append_left (by rw [r.len]; exact hl)) fun b hb => push_old w o (owned_lt r ⟨l, k', d, hb⟩)
  ·subst d d'; exact hb
theorem get_set {α : Type} {l : List α} {i j : Nat} {a x : α} (h : (l.set i a)[j]? = some x) : (j = i ∧ x = a ∧ i < l.length) ∨ (j ≠ i ∧ l[j]? = some x) := by
 by_cases hj : i = j
 ·subst hj
  have hl := get_lt h
  simp only [List.length_set] at hl
  rw [List.getElem?_set_self hl] at h
  cases h; exact .inl ⟨rfl, rfl, hl⟩
 ·rw [List.getElem?_set_ne hj] at h; exact .inr ⟨fun e => hj e.symm, h⟩
theorem owned_set {ι : Io} {h : Hp} {l b : Nat} {k k0 : Blk} (hk0 : h[l]? = some k0) (hlive : own1 ι l k b → own1 ι l k0 b)
  (ho : owned ι (h.set l k) b) : owned ι h b := by
 obtain ⟨l', blk, h2, h3⟩ := ho
 rcases get_set h2 with ⟨a, b', _⟩ | ⟨_, a⟩
 ·subst a b'; exact ⟨l', k0, hk0, hlive h3⟩
 ·exact ⟨l', blk, a, h3⟩
theorem own1_live {ι : Io} {l b : Nat} {k k0 : Blk} (h0 : k0.live = true) (hk : k.live = true) : own1 ι l k b → own1 ι l k0 b := by
 intro h
 rcases own1_cases h with ⟨_, o, h5⟩ | ⟨m, x, rfl, _⟩
 ·exact own1_of h5 h0
 ·cases hk
theorem own1_dead {ι : Io} {l b : Nat} {P : Prop} (h : own1 ι l .dead b) : P := by
 obtain ⟨h, _⟩ := h; cases h
theorem Ext.set_own {G : Nat → Prop} {ι : Io} {h : Hp} {w w' : World} (r : HR G ι h w) {l b0 o0 : Nat} {k0 k : Blk} (hk0 : h[l]? = some k0) (hi : ι[l]? = some (b0, o0))
  (hlive : k0.live = true) (hlk : k.live = true) (hkept : Kept ι ι w w' l k0 k) (hsize : w'.heap.size = w.heap.size) (hother : ∀ b, b ≠ b0 → w'.heap[b]? = w.heap[b]?) (hq : Quiet w w' := by first | exact ⟨rfl, rfl, rfl, Nat.le_refl _⟩ | exact ⟨rfl, rfl, rfl, Nat.le_succ _⟩ | assumption | (subst_vars; exact ⟨rfl, rfl, rfl, Nat.le_refl _⟩) | (subst_vars; exact ⟨rfl, rfl, rfl, Nat.le_succ _⟩)) :
  Ext G ι h w G ι (h.set l k) w' where
 size := by omega
 quiet := hq
 frame b _ ho := hother b fun e => ho (e ▸ owned_of hi hk0 hlive)
 gmono _ h := h
 gnew _ h := .inl h
 onew b ho := .inl (owned_set hk0 (own1_live hlive hlk) ho)
 keep l' k' hk' := by
  by_cases e : l = l'
  ·subst e
   rw [hk0] at hk'; cases hk'
   exact ⟨k, by rw [List.getElem?_set_self (get_lt hk0)], hkept⟩
  ·exact ⟨k', by rw [List.getElem?_set_ne e]; exact hk', Kept.frame rfl fun b hb => hother b fun eb => e (by subst eb; exact r.own l l' b k0 k' hk0 hk' (own1_of hi hlive) hb)⟩
theorem HR.set_own {G : Nat → Prop} {ι : Io} {h : Hp} {w w' : World} (r : HR G ι h w) {l b0 o0 : Nat} {k0 k : Blk} (hk0 : h[l]? = some k0) (hi : ι[l]? = some (b0, o0))
  (hlive : k0.live = true) (hlk : k.live = true) (hkept : Kept ι ι w w' l k0 k) (hsize : w'.heap.size = w.heap.size) (hother : ∀ b, b ≠ b0 → w'.heap[b]? = w.heap[b]?)
  (hb : BR G w' ι (h.set l k) l k) (hq : Quiet w w' := by first | exact ⟨rfl, rfl, rfl, Nat.le_refl _⟩ | exact ⟨rfl, rfl, rfl, Nat.le_succ _⟩ | assumption | (subst_vars; exact ⟨rfl, rfl, rfl, Nat.le_refl _⟩) | (subst_vars; exact ⟨rfl, rfl, rfl, Nat.le_succ _⟩)) : HR G ι (h.set l k) w' where
 len := by simp [r.len]
 own l1 l2 b k1 k2 b1 b2 c1 c2 := by
  rcases get_set b1 with ⟨d1, d2, _⟩ | ⟨_, d1⟩ <;> rcases get_set b2 with ⟨e1, e2, _⟩ | ⟨_, e1⟩
  ·omega
  ·subst d1 d2; exact r.own l1 l2 b k0 k2 hk0 e1 (own1_live hlive hlk c1) c2
  ·subst e1 e2; exact r.own l1 l2 b k1 k0 d1 hk0 c1 (own1_live hlive hlk c2)
  ·exact r.own l1 l2 b k1 k2 d1 e1 c1 c2
 g b hb' := by
  have := r.g b hb'
  exact ⟨by omega, fun ho => this.2 (owned_set hk0 (own1_live hlive hlk) ho)⟩
 blk l' k' hk' := by
  rcases get_set hk' with ⟨d1, d2, _⟩ | ⟨d0, d1⟩
  ·subst d1 d2; exact hb
  ·refine BR.ext (Ext.set_own r hk0 hi hlive hlk hkept hsize hother) r d1 rfl fun b hb => hother b fun eb => d0 ?_
   subst eb
   exact (r.own l l' b k0 k' hk0 d1 (own1_of hi hlive) hb).symm
theorem Ext.freeze {G : Nat → Prop} {ι : Io} {h : Hp} {w : World} {l b0 o0 : Nat} {k0 : Blk} (hk0 : h[l]? = some k0) (hi : ι[l]? = some (b0, o0))
  (hlive : k0.live = true) : Ext G ι h w (fun b => G b ∨ b = b0) ι (h.set l .dead) w where
 size := Nat.le_refl _
 quiet := ⟨rfl, rfl, rfl, Nat.le_refl _⟩
 frame _ _ _ := rfl
 gmono _ h := .inl h
 gnew b hb := by
  rcases hb with h | h
  ·exact .inl h
  ·subst h; exact .inr (.inr (owned_of hi hk0 hlive))
 onew b ho := .inl (owned_set hk0 own1_dead ho)
 keep l' k' hk' := by
  by_cases e : l = l'
  ·subst e
   exact ⟨.dead, by rw [List.getElem?_set_self (get_lt hk0)], by cases k' <;> trivial⟩
  ·exact ⟨k', by rw [List.getElem?_set_ne e]; exact hk', Kept.refl ι w l' k'⟩
theorem own_kill {G : Nat → Prop} {ι : Io} {h : Hp} {w : World} (r : HR G ι h w) {l : Nat} (l1 l2 b : Nat) (k1 k2 : Blk) (b1 : (h.set l .dead)[l1]? = some k1) (b2 : (h.set l .dead)[l2]? = some k2)
  (c1 : own1 ι l1 k1 b) (c2 : own1 ι l2 k2 b) : l1 = l2 := by
 rcases get_set b1 with ⟨d1, d2, _⟩ | ⟨_, d1⟩
 ·subst d2; exact own1_dead c1
 ·rcases get_set b2 with ⟨e1, e2, _⟩ | ⟨_, e1⟩
  ·subst e2; exact own1_dead c2
  ·exact r.own l1 l2 b k1 k2 d1 e1 c1 c2
theorem HR.freeze {G : Nat → Prop} {ι : Io} {h : Hp} {w : World} (r : HR G ι h w) {l b0 o0 : Nat} {k0 : Blk} (hk0 : h[l]? = some k0) (hi : ι[l]? = some (b0, o0))
  (hlive : k0.live = true) : HR (fun b => G b ∨ b = b0) ι (h.set l .dead) w where
 len := by simp [r.len]
 own := own_kill r
 g b hb := by
  rcases hb with hb | hb
  ·have := r.g b hb
   exact ⟨this.1, fun ho => this.2 (owned_set hk0 own1_dead ho)⟩
  ·subst hb
   refine ⟨owned_lt r (owned_of hi hk0 hlive), fun ⟨l', blk, g2, g3⟩ => ?_⟩
   rcases get_set g2 with ⟨_, e2, _⟩ | ⟨e0, e1⟩
   ·subst e2; exact own1_dead g3
   ·exact e0 (r.own l l' b k0 blk hk0 e1 (own1_of hi hlive) g3).symm
 blk l' k' hk' := by
  rcases get_set hk' with ⟨_, d2, _⟩ | ⟨_, d1⟩
  ·subst d2; trivial
  ·exact BR.ext (Ext.freeze hk0 hi hlive) r d1 rfl fun _ _ => rfl
theorem Ext.kill {G : Nat → Prop} {ι : Io} {h : Hp} {w : World} {l : Nat} {k0 : Blk} (hk0 : h[l]? = some k0) : Ext G ι h w G ι (h.set l .dead) w where
 size := Nat.le_refl _
 quiet := ⟨rfl, rfl, rfl, Nat.le_refl _⟩
 frame _ _ _ := rfl
 gmono _ h := h
 gnew b hb := .inl hb
 onew b ho := .inl (owned_set hk0 own1_dead ho)
 keep l' k' hk' := by
  by_cases e : l = l'
  ·subst e
   exact ⟨.dead, by rw [List.getElem?_set_self (get_lt hk0)], by cases k' <;> trivial⟩
  ·exact ⟨k', by rw [List.getElem?_set_ne e]; exact hk', Kept.refl ι w l' k'⟩
theorem HR.kill {G : Nat → Prop} {ι : Io} {h : Hp} {w : World} (r : HR G ι h w) {l : Nat} {k0 : Blk} (hk0 : h[l]? = some k0) : HR G ι (h.set l .dead) w where
 len := by simp [r.len]
 own := own_kill r
 g b hb := by
  have := r.g b hb
  exact ⟨this.1, fun ho => this.2 (owned_set hk0 own1_dead ho)⟩
 blk l' k' hk' := by
  rcases get_set hk' with ⟨_, d2, _⟩ | ⟨_, d1⟩
  ·subst d2; trivial
  ·exact BR.ext (Ext.kill hk0) r d1 rfl fun _ _ => rfl
end Go.Ab

