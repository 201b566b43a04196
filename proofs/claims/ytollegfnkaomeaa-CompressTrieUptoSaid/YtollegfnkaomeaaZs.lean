/-
  Merged texts, part s.
-/
import Derived.Test.YtollegfnkaomeaaZr
import Derived.Test.YtollegfnkaomeaaRows
import Derived.WalkKit
import Derived.ProofKit
import Derived.OpenShut
import Derived.JoinedCond
/-
  The closing lemma: what a row reads is data of the machine; a contract 'returns true' over that data is the row's statement.
-/
namespace Go.Ab
open Go.Proofs Go.Proofs.Ytollegfnkaomeaa Go.ChangeShapes Go.WideShapes Go.ChangeAt Go.RowKit
inductive Sh where
 | int (k : IntKind)
 | bool
 | str
 | list (sz : Nat) (es : List Sh)
def shFs (P : Program) (sh : TypeId → Option (List Sh)) : Nat → List (Nat × TypeId) → Option (List Sh)
 | _, [] => some []
 | off, f :: fs =>
  if f.1 = off then
   match sh f.2 with
   | some l => if l.length = P.cellsOf f.2 then (shFs P sh (off + l.length) fs).map (l ++ ·) else none
   | none => none
  else none
def shOf (P : Program) : Nat → TypeId → Option (List Sh)
 | 0, _ => none
 | n + 1, t =>
  match P.underlying t with
  | some (.int k) => some [.int k]
  | some .bool => some [.bool]
  | some .string => some [.str]
  | some (.slice e) =>
   match shOf P n e with
   | some l => if l.length = P.cellsOf e ∧ 0 < P.cellsOf e then some [.list (P.cellsOf e) l] else none
   | none => none
  | some (.struct fs) =>
   match shFs P (shOf P n) 0 (fs.toList.map fun f => (f.offset, f.type)) with
   | some l => if l.length = P.cellsOf t then some l else none
   | none => none
  | some (.array k e) =>
   match shFs P (shOf P n) 0 ((List.range k).map fun i => (i * P.cellsOf e, e)) with
   | some l => if l.length = P.cellsOf t then some l else none
   | none => none
  | _ => none
mutual
/-- data of a shape, and how many values it holds -/
inductive Fit1 : Sh → D → Nat → Prop
 | int (k : IntKind) (n : Int) (h : (Lit.int k n).wf = true) : Fit1 (.int k) (.int k n) 1
 | bool (b : Bool) : Fit1 .bool (.bool b) 1
 | str (s : List UInt8) : Fit1 .str (.str s) (s.length + 1)
 | list (sz : Nat) (es : List Sh) (l : List (List D)) (n : Nat) (h : FitLL es l n) : Fit1 (.list sz es) (.list false sz l) (n + 1)
inductive FitL : List Sh → List D → Nat → Prop
 | nil : FitL [] [] 0
 | cons (s : Sh) (ss : List Sh) (d : D) (ds : List D) (n m : Nat) (h : Fit1 s d n) (h' : FitL ss ds m) : FitL (s :: ss) (d :: ds) (n + m)
inductive FitLL : List Sh → List (List D) → Nat → Prop
 | nil (es : List Sh) : FitLL es [] 0
 | cons (es : List Sh) (e : List D) (l : List (List D)) (n m : Nat) (h : FitL es e n) (h' : FitLL es l m) : FitLL es (e :: l) (n + m)
end
theorem FitL.len {ss : List Sh} {ds : List D} {n : Nat} (h : FitL ss ds n) : ds.length = ss.length := by
 induction ss generalizing ds n with
 | nil => cases h; rfl
 | cons s ss ih => cases h with | cons _ _ _ _ _ _ h1 h2 => simp [ih h2]
theorem FitL.append {ss ss' : List Sh} {ds ds' : List D} {n m : Nat} (h : FitL ss ds n) (h' : FitL ss' ds' m) : FitL (ss ++ ss') (ds ++ ds') (n + m) := by
 induction ss generalizing ds n with
 | nil => cases h; simpa using h'
 | cons s ss ih =>
  cases h with
  | cons _ _ d ds1 a b h1 h2 =>
   have := FitL.cons s (ss ++ ss') d (ds1 ++ ds') a (b + m) h1 (ih h2)
   rw [Nat.add_assoc]; exact this
def CsR (w : World) (cs : List Value) (ds : List D) : Prop :=
 cs.length = ds.length ∧ ∀ (i : Nat) (v : Value) (d : D), cs[i]? = some v → ds[i]? = some d → DR (fun b => b < w.heap.size) w v d
theorem CsR.one {w : World} {v : Value} {d : D} (h : DR (fun b => b < w.heap.size) w v d) : CsR w [v] [d] := by
 refine ⟨rfl, fun i v' d' h1 h2 => ?_⟩
 cases i with
 | zero => simp at h1 h2; subst h1 h2; exact h
 | succ i => simp at h1
theorem CsR.append {w : World} {cs cs' : List Value} {ds ds' : List D} (h : CsR w cs ds) (h' : CsR w cs' ds') : CsR w (cs ++ cs') (ds ++ ds') := by
 refine ⟨by simp [h.1, h'.1], fun i v d h1 h2 => ?_⟩
 by_cases hi : i < cs.length
 ·rw [List.getElem?_append_left hi] at h1
  rw [List.getElem?_append_left (by rw [← h.1]; exact hi)] at h2
  exact h.2 i v d h1 h2
 ·rw [List.getElem?_append_right (by omega)] at h1
  rw [List.getElem?_append_right (by rw [← h.1]; omega), ← h.1] at h2
  exact h'.2 _ v d h1 h2
theorem list_of {α : Type} (p : Nat → α → Prop) : ∀ (len : Nat), (∀ i, i < len → ∃ a, p i a) → ∃ l : List α, l.length = len ∧ ∀ i a, l[i]? = some a → p i a := by
 intro len
 induction len with
 | zero => intro _; exact ⟨[], rfl, by intro i a h; simp at h⟩
 | succ n ih =>
  intro h
  obtain ⟨l, hl, hp⟩ := ih fun i hi => h i (by omega)
  obtain ⟨a, ha⟩ := h n (by omega)
  refine ⟨l ++ [a], by simp [hl], fun i x hx => ?_⟩
  rcases get_snoc hx with g | ⟨g, g'⟩
  ·exact hp i x g
  ·subst g g'; rw [hl]; exact ha
theorem fitLL_of {es : List Sh} : ∀ (l : List (List D × Nat)), (∀ (i : Nat) (x : List D × Nat), l[i]? = some x → FitL es x.1 x.2) → FitLL es (l.map (·.1)) (l.map (·.2)).sum := by
 intro l
 induction l with
 | nil => intro _; exact .nil es
 | cons x l ih =>
  intro h
  simp only [List.map_cons, List.sum_cons]
  exact .cons es _ _ _ _ (h 0 x rfl) (ih fun i y hy => h (i + 1) y (by simpa using hy))
theorem sum_le_bulk {H : Type} : ∀ (l : List (List D × Nat)) (xs : List (DataW H)), l.length = xs.length → (∀ (i : Nat) (x : List D × Nat) (y : DataW H), l[i]? = some x → xs[i]? = some y → x.2 ≤ Rows.uptoBulk y) → (l.map (·.2)).sum ≤ Rows.uptoBulkAll xs := by
 intro l
 induction l with
 | nil => intro xs _ _; simp
 | cons x l ih =>
  intro xs hl h
  cases xs with
  | nil => simp at hl
  | cons y xs =>
   have h0 := h 0 x y rfl rfl
   have h1 := ih xs (by simpa using hl) fun i a b ha hb => h (i + 1) a b (by simpa using ha) (by simpa using hb)
   simp only [List.map_cons, List.sum_cons, Rows.uptoBulkAll]
   omega
theorem cell_bound {w : World} {a : Addr} {v : Value} (h : w.cell? a = some v) : a.spot = none ∧ a.block < w.heap.size := by
 unfold World.cell? at h
 cases hb : w.heap[a.block]? with
 | none => rw [hb] at h; cases h
 | some o =>
  rw [hb] at h
  have hlt : a.block < w.heap.size := by
   rcases Nat.lt_or_ge a.block w.heap.size with h' | h'
   ·exact h'
   ·rw [Array.getElem?_eq_none h'] at hb; cases hb
  refine ⟨?_, hlt⟩
  cases o with
  | cells c t fr =>
   simp only at h
   cases hs : a.spot with
   | none => rfl
   | some s => rw [hs] at h; simp at h
  | _ => simp at h
theorem cells_get {w : World} {a : Addr} {n : Nat} {cs : List Value} (h : w.cells? 0 a n = some cs) : cs.length = n ∧ ∀ i, i < n → w.cell? (a.add i) = cs[i]? := by
 unfold World.cells? at h
 rw [if_pos (Nat.zero_le _)] at h
 exact ⟨by simpa using mapM_some_length h, fun i hi => mapM_some_get h i i (by simp [hi])⟩
section
variable {H : Type} {enc : TypeId × Value → H} {P : Program} {w : World}
abbrev Rdg (enc : TypeId × Value → H) (P : Program) (w : World) (fuel : Nat) (t : TypeId) (cs : List Value) (x : DataW H × List MemPlace) : Prop :=
 DataW.trod enc P w 0 (fun _ => true) true fuel t cs = some x
theorem read_parts {sh : TypeId → Option (List Sh)} {fuel : Nat} {cs : List Value}
  (ih : ∀ t shs cs x, sh t = some shs → Rdg enc P w fuel t cs x → ∃ ds n, CsR w cs ds ∧ FitL shs ds n ∧ n ≤ Rows.uptoBulk x.1) :
  ∀ (fs : List (Nat × TypeId)) (off : Nat) (shs : List Sh) (xs : List (DataW H × List MemPlace)), shFs P sh off fs = some shs → cs.length = off + shs.length → xs.length = fs.length →
   (∀ (i : Nat) (f : Nat × TypeId), fs[i]? = some f → DataW.trod enc P w 0 (fun _ => true) true fuel f.2 ((cs.drop f.1).take (P.cellsOf f.2)) = xs[i]?) →
   ∃ ds n, CsR w (cs.drop off) ds ∧ FitL shs ds n ∧ n ≤ Rows.uptoBulkAll (xs.map (·.1)) := by
 intro fs
 induction fs with
 | nil =>
  intro off shs xs hs hl hx _
  simp only [shFs, Option.some.injEq] at hs
  subst hs
  refine ⟨[], 0, ⟨by simp at hl ⊢; omega, fun i v d _ h => by simp at h⟩, .nil, Nat.zero_le _⟩
 | cons f fs ihf =>
  intro off shs xs hs hl hx hr
  obtain ⟨o, t⟩ := f
  cases xs with
  | nil => simp at hx
  | cons x xs =>
   simp only [shFs] at hs
   split at hs
   ·rename_i ho
    subst ho
    split at hs
    ·rename_i l hsl
     split at hs
     ·rename_i hll
      simp only [Option.map_eq_some_iff] at hs
      obtain ⟨r, hs, rfl⟩ := hs
      simp only [List.length_append] at hl
      obtain ⟨ds1, n1, a1, a2, a3⟩ := ih t l _ x hsl (by simpa using hr 0 (o, t) rfl)
      obtain ⟨ds2, n2, b1, b2, b3⟩ := ihf (o + l.length) r xs hs (by omega) (by simpa using hx) fun i f hf => by simpa using hr (i + 1) f (by simpa using hf)
      refine ⟨ds1 ++ ds2, n1 + n2, ?_, a2.append b2, ?_⟩
      ·have e : cs.drop o = (cs.drop o).take (P.cellsOf t) ++ cs.drop (o + l.length) := by
        rw [hll, ← List.drop_drop, List.take_append_drop]
       rw [e]; exact a1.append b1
      ·simp only [List.map_cons, Rows.uptoBulkAll]; omega
     ·cases hs
    ·cases hs
   ·cases hs
theorem DR_slice {b off len cap sz : Nat} {l : List (List D)} (hlen : l.length = len) (hcap : len ≤ cap) (hmax : cap ≤ maxLen) (hpos : 0 < sz) (hsz : ∀ (i : Nat) (e : List D), l[i]? = some e → e.length = sz)
  (h : ∀ (i : Nat) (e : List D), l[i]? = some e → ∃ cs, w.cells? 0 ((⟨b, off, none⟩ : Addr).add (i * sz)) sz = some cs ∧ CsR w cs e) :
  DR (fun b => b < w.heap.size) w (.slice (some ⟨b, off, none⟩) len cap) (.list false sz l) := by
 subst hlen
 have key : ∀ (i : Nat) (e : List D) (j : Nat) (x : D), l[i]? = some e → e[j]? = some x → ∃ v, w.cell? ⟨b, off + i * sz + j, none⟩ = some v ∧ DR (fun b => b < w.heap.size) w v x := by
  intro i e j x he hx
  obtain ⟨cs, h1, h2⟩ := h i e he
  obtain ⟨h3, h4⟩ := cells_get h1
  have hj : j < sz := by rw [← hsz i e he]; exact get_lt hx
  have hv : cs[j]? = some (cs[j]'(by omega)) := List.getElem?_eq_getElem _
  refine ⟨_, ?_, h2.2 j _ x hv hx⟩
  rw [← hv, ← h4 j hj, add_none, add_none]
 refine .sl b off cap sz l (fun i j => (w.cell? ⟨b, off + i * sz + j, none⟩).getD (.bool false)) (fun hne => ?_) hcap (by unfold maxLen at hmax; omega) hsz (fun i e j x he hx => ?_) fun i e j x he hx => ?_
 ·cases l with
  | nil => exact absurd rfl hne
  | cons e l =>
   have he : e.length = sz := hsz 0 e rfl
   cases e with
   | nil => simp at he; omega
   | cons x e =>
    obtain ⟨v, hv, _⟩ := key 0 (x :: e) 0 x rfl rfl
    exact (cell_bound hv).2
 ·obtain ⟨v, hv, _⟩ := key i e j x he hx
  rw [hv]; rfl
 ·obtain ⟨v, hv, hd⟩ := key i e j x he hx
  rw [hv]; exact hd
theorem read (P : Program) : ∀ (m : Nat) (t : TypeId) (shs : List Sh) (fuel : Nat) (cs : List Value) (x : DataW H × List MemPlace), shOf P m t = some shs → Rdg enc P w fuel t cs x →
  ∃ ds n, CsR w cs ds ∧ FitL shs ds n ∧ n ≤ Rows.uptoBulk x.1 := by
 intro m
 induction m with
 | zero => intro t shs fuel cs x hs; simp [shOf] at hs
 | succ m ih =>
  intro t shs fuel cs x hs hx
  unfold shOf at hs
  split at hs
  ·rename_i k hu
   cases hs
   obtain ⟨n, rfl, rfl, hw⟩ := DataW.trod_int hu hx
   exact ⟨_, _, CsR.one (.int k n), .cons _ _ _ _ 1 0 (.int k n hw) .nil, by simp [Rows.uptoBulk]⟩
  ·rename_i hu
   cases hs
   obtain ⟨b, rfl, rfl⟩ := DataW.trod_bool hu hx
   exact ⟨_, _, CsR.one (.bool b), .cons _ _ _ _ 1 0 (.bool b) .nil, by simp [Rows.uptoBulk]⟩
  ·rename_i hu
   cases hs
   obtain ⟨s, rfl, rfl, _⟩ := DataW.trod_string hu hx
   exact ⟨_, _, CsR.one (.str s), .cons _ _ _ _ _ 0 (.str _) .nil, by simp [Rows.uptoBulk]⟩
  ·rename_i e hu
   split at hs
   ·rename_i l hl
    split at hs
    ·rename_i hc
     cases hs
     rcases DataW.trod_slice hu hx with ⟨rfl, rfl⟩ | ⟨a, len, cap, elems, rest, n, rfl, rfl, rfl, _, hlc, hcm, hel, hget, hsp, _⟩
     ·exact ⟨_, _, CsR.one (.nils false _), .cons _ _ _ _ 1 0 (.list _ l [] 0 (.nil l)) .nil, by simp [Rows.uptoBulk]⟩
     ·obtain ⟨hrl, hrest⟩ := hsp rfl
      have each : ∀ i, i < len → ∃ y : List D × Nat, (∃ cs, w.cells? 0 (a.add (i * P.cellsOf e)) (P.cellsOf e) = some cs ∧ CsR w cs y.1) ∧ FitL l y.1 y.2 ∧ ∀ z, elems[i]? = some z → y.2 ≤ Rows.uptoBulk z.1 := by
       intro i hi
       have h1 := hget i hi
       rw [List.getElem?_eq_getElem (by omega)] at h1
       simp only [Option.bind_eq_some_iff] at h1
       obtain ⟨cs, h2, h3⟩ := h1
       obtain ⟨ds, k, g1, g2, g3⟩ := ih e l n cs _ hl h3
       refine ⟨(ds, k), ⟨cs, h2, g1⟩, g2, fun z hz => ?_⟩
       rw [List.getElem?_eq_getElem (by omega)] at hz
       cases hz; exact g3
      obtain ⟨L, hL, hp⟩ := list_of _ len each
      have hfl := fitLL_of L fun i y hy => (hp i y hy).2.1
      have hw := sum_le_bulk L (elems.map (·.1)) (by simp [hL, hel]) fun i y z hy hz => by
       simp only [List.getElem?_map, Option.map_eq_some_iff] at hz
       obtain ⟨u, hu1, rfl⟩ := hz
       exact (hp i y hy).2.2 u hu1
      refine ⟨[.list false (P.cellsOf e) (L.map (·.1))], _, CsR.one ?_, .cons _ _ _ _ _ 0 (.list _ l _ _ hfl) .nil, by simp only [Rows.uptoBulk]; omega⟩
      by_cases hz : cap = 0
      ·have h0 : len = 0 := by omega
       have hLn : L = [] := List.eq_nil_of_length_eq_zero (by omega)
       subst hLn h0 hz
       exact .emp a _
      ·have hspot : a.spot = none := by
        by_cases h0 : 0 < len
        ·obtain ⟨y, ⟨cs, h2, _⟩, _⟩ := each 0 h0
         have := (cells_get h2).2 0 hc.2
         rw [List.getElem?_eq_getElem (by have := (cells_get h2).1; omega)] at this
         simpa [Addr.add] using (cell_bound this).1
        ·have h1 := hrest 0 (by omega)
         rw [List.getElem?_eq_getElem (by omega)] at h1
         simp only [Option.bind_eq_some_iff] at h1
         obtain ⟨cs, h2, _⟩ := h1
         have := (cells_get h2).2 0 hc.2
         rw [List.getElem?_eq_getElem (by have := (cells_get h2).1; omega)] at this
         have h00 : len = 0 := by omega
         simpa [Addr.add, h00] using (cell_bound this).1
       obtain ⟨b, off, spot⟩ := a
       simp only at hspot
       subst hspot
       refine DR_slice (by simp [hL]) hlc hcm hc.2 (fun i ds hi => ?_) fun i ds hi => ?_
       ·simp only [List.getElem?_map, Option.map_eq_some_iff] at hi
        obtain ⟨y, hy, rfl⟩ := hi
        rw [(hp i y hy).2.1.len, hc.1]
       ·simp only [List.getElem?_map, Option.map_eq_some_iff] at hi
        obtain ⟨y, hy, rfl⟩ := hi
        exact (hp i y hy).1
    ·cases hs
   ·cases hs
  ·rename_i fs hu
   split at hs
   ·rename_i l hl
    split at hs
    ·rename_i hc
     cases hs
     obtain ⟨xs, n, rfl, rfl, h1, h2, h3⟩ := DataW.trod_struct hu hx
     obtain ⟨ds, k, g1, g2, g3⟩ := read_parts (fuel := n) (cs := cs) (fun t shs cs x h h' => ih t shs n cs x h h') _ 0 shs xs hl (by omega) (by simp [h2]) fun i f hf => by
      simp only [List.getElem?_map, Option.map_eq_some_iff] at hf
      obtain ⟨f', hf', rfl⟩ := hf
      exact h3 i f' (by simpa using hf')
     exact ⟨ds, k, by simpa using g1, g2, by simp only [Rows.uptoBulk]; omega⟩
    ·cases hs
   ·cases hs
  ·rename_i k e hu
   split at hs
   ·rename_i l hl
    split at hs
    ·rename_i hc
     cases hs
     obtain ⟨xs, n, rfl, rfl, h1, h2, h3⟩ := DataW.trod_array hu hx
     obtain ⟨ds, k', g1, g2, g3⟩ := read_parts (fuel := n) (cs := cs) (fun t shs cs x h h' => ih t shs n cs x h h') _ 0 shs xs hl (by omega) (by simp [h2]) fun i f hf => by
      simp only [List.getElem?_map, Option.map_eq_some_iff] at hf
      obtain ⟨i', hi', rfl⟩ := hf
      have hik : i < k := by have := get_lt hi'; simpa using this
      rw [List.getElem?_range hik] at hi'
      cases hi'
      exact h3 i hik
     exact ⟨ds, k', by simpa using g1, g2, by simp only [Rows.uptoBulk]; omega⟩
    ·cases hs
   ·cases hs
  ·cases hs
theorem kept_of {W W' : World} {may : MemPlace → Prop} (hq : Quiet W W') (hs : ∀ b, b < W.heap.size → W'.heap[b]? = W.heap[b]?) : W.keptBut W' may := by
 refine ⟨hq.1, hq.2.1, fun i hi => ?_⟩
 rw [hs i hi]
 cases W.heap[i]? with
 | none => rfl
 | some o => cases o with
  | cells c t fr => exact ⟨rfl, rfl, rfl, fun _ _ => rfl⟩
  | map es clock => exact .inr ⟨rfl, rfl⟩
  | _ => rfl
theorem sameAt_of {W W' : World} (hs : ∀ b, b < W.heap.size → W'.heap[b]? = W.heap[b]?) (p : MemPlace) (hp : p.block < W.heap.size) : W.sameAt W' p := by
 cases p with
 | cell b off => exact cell_same (hs b hp) off
 | map b => exact hs b hp
theorem trodAll_carry {W W' : World} {T : TypeId → Prop} (K : Kids P T) (hz : ∀ t e, T t → P.underlying t = some (.slice e) → 0 < P.cellsOf e) {sp : Nat → Bool} : ∀ (ts : List TypeId) (vs : List Value) (ds : List (DataW H)) (ps : List MemPlace),
  (∀ t ∈ ts, T t) → DataW.TrodAll enc P W 0 (fun _ => true) true ts vs ds ps → (∀ p ∈ ps, W.sameAt W' p) → (∀ p ∈ ps, sp p.block = true) → DataW.TrodAll enc P W' 0 sp true ts vs ds ps
 | [], [], [], _, _, h, _, _ => h
 |t :: ts, v :: vs, d :: ds, ps, hT, ⟨p, q, ⟨n, h1⟩, h2, e⟩, hs, hp => by
  subst e
  refine ⟨p, q, ⟨n, ?_⟩, trodAll_carry K hz ts vs ds q (fun t ht => hT t (List.mem_cons_of_mem _ ht)) h2 (fun x hx => hs x (List.mem_append_right _ hx)) fun x hx => hp x (List.mem_append_right _ hx), rfl⟩
  exact DataW.trod_stays K (fun a b => hz _ _ a b) (fun h => by cases h) (hT t (List.mem_cons_self ..)) h1 (fun x hx => hs x (List.mem_append_left _ hx)) fun x hx => hp x (List.mem_append_left _ hx)
theorem law_post {f : Func} {s : ChangeSpec} {apart fresh handsOn : Bool} {W W' : World} {args : Array Value} {ds gs : List (DataW H)} {before : List MemPlace} {bt : TypeId}
  (K : Kids P (· < P.types.size)) (hz : ∀ t e, t < P.types.size → P.underlying t = some (.slice e) → 0 < P.cellsOf e) (hT : ∀ t ∈ f.params.toList, t < P.types.size)
  (hvars : s.vars = []) (hres : f.resultTypes = #[bt]) (hbt : P.underlying bt = some .bool)
  (hW : DataW.Whole enc P f.params.toList s.vars apart W args.toList ds gs before) (hfn : (s.fn H (ds ++ gs)).results = [.lit (.bool true)] ∧ (s.fn H (ds ++ gs)).args = ds ∧ (s.fn H (ds ++ gs)).vars = [])
  (hq : Quiet W W') (hs : ∀ b, b < W.heap.size → W'.heap[b]? = W.heap[b]?) : s.post enc P f apart fresh handsOn false W args (.bool true) W' := by
 have hlt := hW.lt
 have hW' := hW
 obtain ⟨p, q, hA, hV, rfl, _, _⟩ := hW'
 rw [hvars] at hV
 obtain ⟨rfl, rfl⟩ := trodVars_none hV
 simp only [List.append_nil] at *
 refine ⟨ds, [], p, [], p, [], hW, ?_, ?_, ?_, kept_of hq hs, fun h => by cases h⟩
 ·simp only [List.append_nil]
  rw [hfn.1, hres]
  exact trodAll_cons_mk (shut_bool hbt _) trodAll_mk0
 ·simp only [List.append_nil]
  rw [hfn.2.1]
  exact trodAll_carry K hz _ _ _ _ hT hA (fun x hx => sameAt_of hs x (hlt x (by simpa using hx))) fun x hx => by simpa using hlt x (by simpa using hx)
 ·simp only [List.append_nil]
  rw [hfn.2.2, hvars]
  rfl
theorem ret_true {f : FuncId} {fn : Func} (hfn : P.funcs[f]? = some fn) {avs : List AV} {W : World} {vs : List Value} (hf : FnS P f avs [] fun r _ => pureA r = true ∧ r = .c (.d (.bool true))) (hv : VRs (fun b => b < W.heap.size) W [] [] vs avs) :
  Calls P f vs.toArray W fun e W' => e = .returned (.bool true) ∧ Quiet W W' ∧ ∀ b, b < W.heap.size → W'.heap[b]? = W.heap[b]? := by
 refine ((hf.out _ [] W vs (HR_nil fun b hb => hb) hv).calls hfn).mono fun e W' ⟨v, r, G', ι', h', he, hr, _, hvr, hx⟩ => ?_
 obtain ⟨_, rfl⟩ := hr
 refine ⟨?_, hx.quiet, fun b hb => hx.frame b hb fun ⟨l, blk, h1, _⟩ => by simp at h1⟩
 cases hvr with
 | c _ _ hc =>
  cases hc with
  | d _ _ hd => cases hd; exact he
theorem VR_one {w : World} {v : Value} {d : D} (h : DR (fun b => b < w.heap.size) w v d) : VR (fun b => b < w.heap.size) w [] [] v (.c (.d d)) := .c _ _ (.d _ _ h)
theorem VRs_nil {G : Nat → Prop} {w : World} {ι : Io} {h : Hp} : VRs G w ι h [] [] := ⟨rfl, fun i v x h1 => by simp at h1⟩
theorem VRs_cons {G : Nat → Prop} {w : World} {ι : Io} {h : Hp} {v : Value} {x : AV} {vs : List Value} {xs : List AV} (h1 : VR G w ι h v x) (h2 : VRs G w ι h vs xs) : VRs G w ι h (v :: vs) (x :: xs) := by
 refine ⟨by simp [h2.1], fun i a b ha hb => ?_⟩
 cases i with
 | zero => simp at ha hb; subst ha hb; exact h1
 | succ i => exact h2.2 i a b (by simpa using ha) (by simpa using hb)
theorem fitLL_map {α : Type} {es : List Sh} (en : α → List D) (wt : α → Nat) (h : ∀ e n, FitL es e n → ∃ a, e = en a ∧ wt a ≤ n) : ∀ (l : List (List D)) (n : Nat), FitLL es l n → ∃ xs : List α, l = xs.map en ∧ (xs.map wt).sum ≤ n := by
 intro l
 induction l with
 | nil => intro n _; exact ⟨[], rfl, Nat.zero_le _⟩
 | cons e l ih =>
  intro n hl
  cases hl with
  | cons _ _ _ a b h1 h2 =>
   obtain ⟨x, rfl, hx⟩ := h e a h1
   obtain ⟨xs, rfl, hxs⟩ := ih b h2
   exact ⟨x :: xs, rfl, by simp only [List.map_cons, List.sum_cons]; omega⟩
theorem FitL.weight {ss : List Sh} {ds : List D} {n : Nat} (h : FitL ss ds n) : ss.length ≤ n := by
 induction ss generalizing ds n with
 | nil => exact Nat.zero_le _
 | cons s ss ih =>
  cases h with
  | cons _ _ _ _ a b h1 h2 =>
   have h3 := ih h2
   have : 1 ≤ a := by cases h1 <;> omega
   simp only [List.length_cons]; omega
theorem FitL.un {s : Sh} {ss : List Sh} {ds : List D} {n : Nat} (h : FitL (s :: ss) ds n) : ∃ d ds' a b, ds = d :: ds' ∧ n = a + b ∧ Fit1 s d a ∧ FitL ss ds' b := by
 cases h with | cons _ _ d ds a b h1 h2 => exact ⟨d, ds, a, b, rfl, rfl, h1, h2⟩
theorem FitL.end {ds : List D} {n : Nat} (h : FitL [] ds n) : ds = [] := by cases h; rfl
theorem Fit1.i {k : IntKind} {d : D} {n : Nat} (h : Fit1 (.int k) d n) : ∃ z, d = .int k z ∧ (Lit.int k z).wf = true := by cases h with | int _ z hw => exact ⟨z, rfl, hw⟩
theorem Fit1.b {d : D} {n : Nat} (h : Fit1 .bool d n) : ∃ z, d = .bool z := by cases h with | bool z => exact ⟨z, rfl⟩
theorem Fit1.l {sz : Nat} {es : List Sh} {d : D} {n : Nat} (h : Fit1 (.list sz es) d n) : ∃ l m, d = .list false sz l ∧ n = m + 1 ∧ FitLL es l m := by cases h with | list _ _ l m hl => exact ⟨l, m, rfl, rfl, hl⟩
theorem Fit1.lm {α : Type} {sz : Nat} {es : List Sh} {d : D} {n : Nat} (en : α → List D) (wt : α → Nat) (h : Fit1 (.list sz es) d n) (hd : ∀ e n, FitL es e n → ∃ a, e = en a ∧ wt a ≤ n) :
  ∃ xs : List α, d = .list false sz (xs.map en) ∧ (xs.map wt).sum + 1 ≤ n := by
 obtain ⟨l, m, rfl, rfl, h1⟩ := h.l
 obtain ⟨xs, rfl, h2⟩ := fitLL_map en wt hd l m h1
 exact ⟨xs, rfl, by omega⟩
theorem sum_one {α : Type} (l : List α) : (l.map fun _ => 1).sum = l.length := by
 induction l with
 | nil => rfl
 | cons a l ih => simp [ih]; omega
theorem arg_read {m fuel : Nat} {t : TypeId} {shs : List Sh} {v : Value} {d : DataW H} {ps : List MemPlace} (hs : shOf P m t = some shs) (hx : DataW.trod enc P w 0 (fun _ => true) true fuel t v.cells.toList = some (d, ps)) :
  ∃ ds n, CsR w v.cells.toList ds ∧ FitL shs ds n ∧ n ≤ Rows.uptoBulk d := read P m t shs fuel _ _ hs hx
end
end Go.Ab

/-
  What a row reads: numbers, lists, topologies.
-/
namespace Go.Ab
open Go.Proofs Go.Proofs.Ytollegfnkaomeaa Go.ChangeShapes Go.WideShapes Go.ChangeAt Go.RowKit
abbrev shI : Sh := .int .i64
theorem kids : Kids Try.prog (· < Try.prog.types.size) := kids_rows (by kernel_rfl) (by kernel_rfl)
theorem full : ∀ t e, t < Try.prog.types.size → Try.prog.underlying t = some (.slice e) → 0 < Try.prog.cellsOf e := slices_full_of Try.prog (by kernel_rfl)
theorem own : ownKnob Try.prog.godebug = none := by kernel_rfl
end Go.Ab

/-
  Chapter 06: what a row reads.
-/
namespace Go.Ab
open Go.Proofs Go.Proofs.Ytollegfnkaomeaa Go.ChangeShapes Go.WideShapes Go.ChangeAt Go.RowKit
def shRt : List Sh := [.int .u32, shI, shI]
theorem wf_u32 {n : Int} (h : (Lit.int .u32 n).wf = true) : inU n := by
 simp only [Lit.wf, Bool.and_eq_true, decide_eq_true_eq] at h
 obtain ⟨h1, h2⟩ := h
 exact ⟨h1, Int.lt_of_le_of_lt h2 (by decide)⟩
theorem wf_i64 {n : Int} (h : (Lit.int .i64 n).wf = true) : -9223372036854775808 ≤ n ∧ n ≤ 9223372036854775807 := by
 simp only [Lit.wf, Bool.and_eq_true, decide_eq_true_eq] at h
 exact h
abbrev RtR := {x : Rt // inU x.p.addr ∧ (-9223372036854775808 ≤ x.val ∧ x.val ≤ 9223372036854775807)}
def encRR (x : RtR) : List D := encRt x.1
theorem routes_A (l : List RtR) : AV.c (.d (.list false 3 (l.map encRR))) = rtsA (l.map (·.1)) := by rw [rtsA, rtsD, List.map_map]; rfl
theorem routes_in (l : List RtR) : InR (l.map (·.1)) := fun r hr => by
 obtain ⟨y, _, rfl⟩ := List.mem_map.1 hr
 exact y.2
theorem dec_rt : ∀ e n, FitL shRt e n → ∃ a : RtR, e = encRR a ∧ 1 ≤ n := by
 intro e n h
 have hw := h.weight
 simp only [shRt, List.length_cons] at hw
 obtain ⟨d0, ds0, _, _, rfl, rfl, g0, h_0⟩ := h.un
 obtain ⟨addr, rfl, w_addr⟩ := g0.i
 obtain ⟨d1, ds1, _, _, rfl, rfl, g1, h_1⟩ := h_0.un
 obtain ⟨len, rfl, w_len⟩ := g1.i
 obtain ⟨d2, ds2, _, _, rfl, rfl, g2, h_2⟩ := h_1.un
 obtain ⟨val, rfl, w_val⟩ := g2.i
 rw [h_2.end]
 exact ⟨⟨⟨⟨addr, len⟩, val⟩, wf_u32 w_addr, wf_i64 w_val⟩, rfl, by omega⟩
theorem CsR.head {w : World} {v : Value} {d : D} (h : CsR w [v] [d]) : DR (fun b => b < w.heap.size) w v d := h.2 0 _ _ rfl rfl
end Go.Ab

/-
  Chapter 06: law Trie.
-/
namespace Go.Ab
open Go.Proofs
theorem trie_law (P : Program) (hP : P = Try.prog) (l : List Rt) (x : Int) (hu : InR l) (hx : inU x) : Ret P n_law06_CompressTrie [rtsA l, .c (.d (u32D x))] (bA true) := by
 have haw := awake_ok P hP
 have hfw := few_ok P hP l
 by_cases hf : l.length ≤ 20
 ·rw [decide_eq_true hf] at hfw
  have hco := compress_ok P hP l hu (by omega)
  have hvr := rvalidR_ok P hP l fun r hr => (hu r hr).1
  cases hv : validR l with
  | false =>
   rw [hv] at hvr
   clear hco
   refine ret_start (hP ▸ mixed) (hP ▸ fn_law06_CompressTrie) (hP ▸ c_law06_CompressTrie) (Nat.le_of_ble_eq_true rfl) fun Λ Λo K hK => ?_
   clear hP
   simp only [rtsA, rtsD] at *
   generalize l.map encRt = rl at *
   conv => cbv
   repeat' first | refine call_b haw rfl rfl ?_ ?_ | refine call_b hfw rfl rfl ?_ ?_ | refine call_b hvr rfl rfl ?_ ?_ | (intro hc; cases hc; done) | exact gu | exact trivial | refine And.intro ?_ ?_ | (intro hc; exact absurd hc (by decide)) | (intro hc; exfalso; omega) | (intro hc; (first | rw [wrap_small (by omega) (by omega)] at hc | rw [nI_eq] at hc | skip); try (conv => cbv)) | refine CallG.old ?_
   exact hK
  | true =>
   have hte := tbl_le hu hv
   have hti := tbl_in hu hv
   have htv := tbl_valid hu hv
   have hfk := fun r n a b c d e f => (fork_ok (r := r) (n := n) a b c d e f).1
   have hlk := build_look fkP hfk (fun r hr => (hti r hr).1) htv x
   have hln := build_len fkP hfk (fun r hr => (hti r hr).1) htv
   have hw := (build_law fkP hfk (fun r hr => (hti r hr).1) htv).1
   have hwf : ∀ k ≤ (tblS l).length, WfTr (buildT fkP ((tblS l).take k)) := fun k _ => (build_law fkP hfk (fun r hr => (hti r (List.mem_of_mem_take hr)).1) (by
    obtain ⟨v1, v2⟩ := validR_spec.1 htv
    refine validR_spec.2 ⟨fun r hr => v1 r (List.mem_of_mem_take hr), ?_⟩
    rw [List.map_take]
    exact v2.sublist (List.take_sublist _ _))).1
   have hwant := look06_ok P hP l x (fun r hr => (hu r hr).1) hx
   rw [if_pos hv] at hwant
   have heq := tbl_look hu hv hx
   have hv1 := (validR_spec.1 htv).1
   rw [hv, tbl_comp hv] at hco
   rw [hv] at hvr
   have hnew := tnew_ok P hP
   have hput := fun (m : Ar) (k : D) (t : Tri) (r : Rt) => tput_ok P hP am0 m k t r
   have hl := fun m k S h => tlook_ok P hP m k (buildT fkP (tblS l)) S x hw h hx
   have hlen := fun m k S hT hS => tlen_ok P hP (m := m) (k := k) (S := S) (t := buildT fkP (tblS l)) hT hS (by rw [hln]; omega)
   rw [hlk] at hl
   rw [hln] at hlen
   have hz0 : (encO (findR (tblS l) x)).2.2.1 = lookR l x ∧ ((encO (findR (tblS l) x)).2.2.2 = false → lookR l x = 0) := by
    rw [← heq, lookR]
    cases findR (tblS l) x with
    | none => exact ⟨rfl, fun _ => rfl⟩
    | some r => exact ⟨rfl, fun h => by cases h⟩
   have hstep : ∀ (k : Nat) (r : Rt), (tblS l)[k]? = some r → buildT fkP ((tblS l).take (k + 1)) = putT fkP (buildT fkP ((tblS l).take k)) r := fun k r h => by
    rw [take_succ_get h, buildT, List.foldl_append]; rfl
   have h00 : TrS am0 am0 .nilp (buildT fkP ((tblS l).take 0)) := ⟨fun _ => False, rfl, fun _ h => h.elim, fun _ h => h.elim, fun _ _ => rfl⟩
   refine arena_start (hP ▸ mixed) (hP ▸ fn_law06_CompressTrie) (hP ▸ c_law06_CompressTrie) (Nat.le_of_ble_eq_true rfl) fun Λ Λo K hK => ?_
   clear hP
   clear hlk hln hw heq htv hf hv
   generalize hzz : encO (findR (tblS l) x) = z at *
   obtain ⟨ra, rn, rv, rf⟩ := z
   simp only at hz0
   generalize lookR l x = want at *
   obtain ⟨hz0, hz1⟩ := hz0
   subst hz0
   generalize tblS l = T at *
   simp only [rtsA, rtsD, if_true] at *
   generalize l.map encRt = rl at *
   generalize tlh : T.map encRt = tl at *
   have tln : Λ tl = T.length := by rw [Λo, ← tlh]; simp
   conv => cbv
   repeat' first | refine call_b haw rfl rfl ?_ ?_ | refine call_b hfw rfl rfl ?_ ?_ | refine call_b hvr rfl rfl ?_ ?_ | (intro hc; cases hc; done) | (refine call_r hco rfl rfl ?_; conv => cbv) | (refine call_fr [] hnew rfl rfl (by decide) trivial rfl rfl ?_; rintro r hc' ⟨rfl, rfl⟩; (conv => cbv)) | exact gu | exact trivial | refine And.intro ?_ ?_ | (intro hc; exact absurd hc (by decide)) | (intro hc; exfalso; omega) | (intro hc; (first | rw [wrap_small (by omega) (by omega)] at hc | rw [nI_eq] at hc | skip); try (conv => cbv)) | refine CallG.old ?_
   refine loop_upx T.length (fun (s : Int × D × Ar) => [(0, .c (.d (.list false 3 rl))), (1, .c (.d (u32D x))), (5, .c (.d (.list false 3 tl))), (6, iA 0), (7, .c (.ptr 1 0 0 0)), (32, .c (.d (.list false 3 tl))), (33, iA (Λ tl)), (34, iA s.1)]) (fun s => [.am s.2.2, .bx [.d s.2.1]])
    (fun k s => s.1 = k ∧ k ≤ T.length ∧ TrS am0 s.2.2 s.2.1 (buildT fkP (T.take k))) (0, .nilp, am0)
    0 (fun (s : D × Ar) => [(0, .c (.d (.list false 3 rl))), (1, .c (.d (u32D x))), (5, .c (.d (.list false 3 tl))), (6, iA 0), (7, .c (.ptr 1 0 0 0))]) (fun s => [.am s.2, .bx [.d s.1]]) (fun s => TrS am0 s.2 s.1 (buildT fkP T)) (Wk.ca) ⟨rfl, by omega, h00⟩ (fun k s h => h.2.1) ?_ ?_
   ·rintro k ⟨i, kd, m⟩ Q' ⟨hi, hk, hs⟩ norm jn ex rt
    simp only at hi hs
    clear hlen hl hwant
    by_cases hlt : k < T.length
    ·obtain ⟨r, hr⟩ : ∃ r, T[k]? = some r := ⟨_, List.getElem?_eq_getElem hlt⟩
     have hra := elt_at tlh hi hr
     have hp := hput m kd _ r (hwf k hk) (hv1 r (List.mem_of_getElem? hr)).1 (hti r (List.mem_of_getElem? hr)).1 hs
     rw [← hstep k r hr] at hp
     obtain ⟨⟨ra2, rn2⟩, rv2⟩ := r
     simp only [encRt, rtA] at hra hp
     obtain ⟨i1, hi1⟩ : ∃ z : Int, z = ((k + 1 : Nat) : Int) := ⟨_, rfl⟩
     clear jn hput
     conv => cbv
     repeat' first | (refine ex _ _ _ ?_; (conv => cbv)) | (refine rt _ _ ?_; (conv => cbv)) | (intro e he; cases Option.some.inj (he.symm.trans hra); (conv => cbv)) | (left; intro (_ : Unit); (conv => cbv)) | (intro (k : Int) hk; rw [wrap_small (by omega) (by omega)] at hk; refine (fun (hz : i1 = k) => ?_) ?_; rotate_left; omega; subst hz; (conv => cbv)) | (refine call_fr [0, 1] hp rfl rfl (by decide) (by repeat' first | exact trivial | refine And.intro ?_ ?_ | rfl) rfl rfl ?_; rintro r hc' ⟨m', k', rfl, rfl, hs'⟩; (conv => cbv)) | exact gu | exact trivial | refine And.intro ?_ ?_ | (intro hc; exact absurd hc (by decide)) | (intro hc; exfalso; omega) | (intro hc; (first | rw [wrap_small (by omega) (by omega)] at hc | rw [nI_eq] at hc | skip); try (conv => cbv)) | refine CallG.old ?_
     refine norm _ _ (i1, k', m') ⟨hi1, by omega, hs'⟩ (Wk.ca)
    ·obtain rfl : k = T.length := by omega
     rw [List.take_of_length_le (Nat.le_refl _)] at hs
     clear ex
     conv => cbv
     repeat' first | (refine ex _ _ _ ?_; (conv => cbv)) | (refine rt _ _ ?_; (conv => cbv)) | exact gu | exact trivial | refine And.intro ?_ ?_ | (intro hc; exact absurd hc (by decide)) | (intro hc; exfalso; omega) | (intro hc; (first | rw [wrap_small (by omega) (by omega)] at hc | rw [nI_eq] at hc | skip); try (conv => cbv)) | refine CallG.old ?_
     refine jn _ _ (kd, m) hs (Wk.ca)
   ·rintro ⟨kd, m⟩ hs
    obtain ⟨S, t1, t2, t3, t4⟩ := hs
    simp only at t1 t2 t3 t4
    have hl1 := hl m kd S t1 ra rn rv rf rfl
    have hle := hlen m kd S t1 t2
    clear hl hlen hput hnew t1 t2 t3 t4 hwf hstep
    generalize hTl : T.length = tn at *
    obtain ⟨tz, htz⟩ : ∃ z : Int, z = (tn : Int) := ⟨_, rfl⟩
    rw [← htz] at hle tln
    cases rf with
    | true =>
     conv => cbv
     repeat' first | (refine call_r hwant rfl rfl ?_; conv => cbv) | (left; intro (_ : Unit); (conv => cbv)) | (refine call_fr [0, 1] hl1 rfl rfl (by decide) (by repeat' first | exact trivial | refine And.intro ?_ ?_ | rfl) rfl rfl ?_; rintro r hc' ⟨rfl, rfl⟩; (conv => cbv)) | (refine call_fr [0, 1] hle rfl rfl (by decide) (by repeat' first | exact trivial | refine And.intro ?_ ?_ | rfl) rfl rfl ?_; rintro r hc' ⟨rfl, m', rfl⟩; (conv => cbv)) | exact gu | exact trivial | refine And.intro ?_ ?_ | (intro hc; exact absurd hc (by decide)) | (intro hc; exfalso; omega) | (intro hc; (first | rw [wrap_small (by omega) (by omega)] at hc | rw [nI_eq] at hc | skip); try (conv => cbv)) | refine CallG.old ?_
     exact ⟨[bA true], ⟨.c _ _ (.d _ _ (.same _)), trivial⟩, hK⟩
    | false =>
     have hz1 := hz1 rfl
     conv => cbv
     repeat' first | (refine call_r hwant rfl rfl ?_; conv => cbv) | (left; intro (_ : Unit); (conv => cbv)) | (refine call_fr [0, 1] hl1 rfl rfl (by decide) (by repeat' first | exact trivial | refine And.intro ?_ ?_ | rfl) rfl rfl ?_; rintro r hc' ⟨rfl, rfl⟩; (conv => cbv)) | (refine call_fr [0, 1] hle rfl rfl (by decide) (by repeat' first | exact trivial | refine And.intro ?_ ?_ | rfl) rfl rfl ?_; rintro r hc' ⟨rfl, m', rfl⟩; (conv => cbv)) | exact gu | exact trivial | refine And.intro ?_ ?_ | (intro hc; exact absurd hc (by decide)) | (intro hc; exfalso; omega) | (intro hc; (first | rw [wrap_small (by omega) (by omega)] at hc | rw [nI_eq] at hc | skip); try (conv => cbv)) | refine CallG.old ?_
     exact ⟨[bA true], ⟨.c _ _ (.d _ _ (.same _)), trivial⟩, hK⟩
 ·rw [decide_eq_false hf] at hfw
  refine ret_start (hP ▸ mixed) (hP ▸ fn_law06_CompressTrie) (hP ▸ c_law06_CompressTrie) (Nat.le_of_ble_eq_true rfl) fun Λ Λo K hK => ?_
  clear hP
  simp only [rtsA, rtsD] at *
  generalize l.map encRt = rl at *
  conv => cbv
  repeat' first | refine call_b haw rfl rfl ?_ ?_ | refine call_b hfw rfl rfl ?_ ?_ | (intro hc; cases hc; done) | exact gu | exact trivial | refine And.intro ?_ ?_ | (intro hc; exact absurd hc (by decide)) | (intro hc; exfalso; omega) | (intro hc; (first | rw [wrap_small (by omega) (by omega)] at hc | rw [nI_eq] at hc | skip); try (conv => cbv)) | refine CallG.old ?_
  exact hK
theorem trie06R (P : Program) (hP : P = Try.prog) (l : List RtR) (x : Int) (hx : inU x) : Ret P n_law06_CompressTrie [.c (.d (.list false 3 (l.map encRR))), .c (.d (.int .u32 x))] (bA true) := by
 rw [routes_A]; exact trie_law P hP _ x (fun r hr => routes_in l r hr) hx
end Go.Ab

