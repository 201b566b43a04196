/-
  Merged texts, part t.
-/
import Derived.Test.YtlehnbmcbjoebaaZs
import Derived.Test.YtlehnbmcbjoebaaRows
import Derived.WalkKit
import Derived.ProofKit
import Derived.OpenShut
import Derived.JoinedCond
/-
  The closing lemma: what a row reads is data of the machine; a contract 'returns true' over that data is the row's statement.
-/
namespace Go.Ab
open Go.Proofs Go.Proofs.Ytlehnbmcbjoebaa Go.ChangeShapes Go.WideShapes Go.ChangeAt Go.RowKit
inductive Sh where
 | int (k : IntKind)
 | bool
 | str
 | list (sz : Nat) (es : List Sh)
def shFs (P : Program) (sh : TypeId → Option (List Sh)) : Nat → List (Nat × TypeId) → Option (List Sh)
 | _, [] => some []
 | off, f :: fs =>
  if f.1 = off then
   match sh f.2 with
   | some l => if l.length = P.cellsOf f.2 then (shFs P sh (off + l.length) fs).map (l ++ ·) else none
   | none => none
  else none
def shOf (P : Program) : Nat → TypeId → Option (List Sh)
 | 0, _ => none
 | n + 1, t =>
  match P.underlying t with
  | some (.int k) => some [.int k]
  | some .bool => some [.bool]
  | some .string => some [.str]
  | some (.slice e) =>
   match shOf P n e with
   | some l => if l.length = P.cellsOf e ∧ 0 < P.cellsOf e then some [.list (P.cellsOf e) l] else none
   | none => none
  | some (.struct fs) =>
   match shFs P (shOf P n) 0 (fs.toList.map fun f => (f.offset, f.type)) with
   | some l => if l.length = P.cellsOf t then some l else none
   | none => none
  | some (.array k e) =>
   match shFs P (shOf P n) 0 ((List.range k).map fun i => (i * P.cellsOf e, e)) with
   | some l => if l.length = P.cellsOf t then some l else none
   | none => none
  | _ => none
mutual
/-- data of a shape, and how many values it holds -/
inductive Fit1 : Sh → D → Nat → Prop
 | int (k : IntKind) (n : Int) (h : (Lit.int k n).wf = true) : Fit1 (.int k) (.int k n) 1
 | bool (b : Bool) : Fit1 .bool (.bool b) 1
 | str (s : List UInt8) : Fit1 .str (.str s) (s.length + 1)
 | list (sz : Nat) (es : List Sh) (l : List (List D)) (n : Nat) (h : FitLL es l n) : Fit1 (.list sz es) (.list false sz l) (n + 1)
inductive FitL : List Sh → List D → Nat → Prop
 | nil : FitL [] [] 0
 | cons (s : Sh) (ss : List Sh) (d : D) (ds : List D) (n m : Nat) (h : Fit1 s d n) (h' : FitL ss ds m) : FitL (s :: ss) (d :: ds) (n + m)
inductive FitLL : List Sh → List (List D) → Nat → Prop
 | nil (es : List Sh) : FitLL es [] 0
 | cons (es : List Sh) (e : List D) (l : List (List D)) (n m : Nat) (h : FitL es e n) (h' : FitLL es l m) : FitLL es (e :: l) (n + m)
end
theorem FitL.len {ss : List Sh} {ds : List D} {n : Nat} (h : FitL ss ds n) : ds.length = ss.length := by
 induction ss generalizing ds n with
 | nil => cases h; rfl
 | cons s ss ih => cases h with | cons _ _ _ _ _ _ h1 h2 => simp [ih h2]
theorem FitL.append {ss ss' : List Sh} {ds ds' : List D} {n m : Nat} (h : FitL ss ds n) (h' : FitL ss' ds' m) : FitL (ss ++ ss') (ds ++ ds') (n + m) := by
 induction ss generalizing ds n with
 | nil => cases h; simpa using h'
 | cons s ss ih =>
  cases h with
  | cons _ _ d ds1 a b h1 h2 =>
   have := FitL.cons s (ss ++ ss') d (ds1 ++ ds') a (b + m) h1 (ih h2)
   rw [Nat.add_assoc]; exact this
def CsR (w : World) (cs : List Value) (ds : List D) : Prop :=
 cs.length = ds.length ∧ ∀ (i : Nat) (v : Value) (d : D), cs[i]? = some v → ds[i]? = some d → DR (fun b => b < w.heap.size) w v d
theorem CsR.one {w : World} {v : Value} {d : D} (h : DR (fun b => b < w.heap.size) w v d) : CsR w [v] [d] := by
 refine ⟨rfl, fun i v' d' h1 h2 => ?_⟩
 cases i with
 | zero => simp at h1 h2; subst h1 h2; exact h
 | succ i => simp at h1
theorem CsR.append {w : World} {cs cs' : List Value} {ds ds' : List D} (h : CsR w cs ds) (h' : CsR w cs' ds') : CsR w (cs ++ cs') (ds ++ ds') := by
 refine ⟨by simp [h.1, h'.1], fun i v d h1 h2 => ?_⟩
 by_cases hi : i < cs.length
 ·rw [List.getElem?_append_left hi] at h1
  rw [List.getElem?_append_left (by rw [← h.1]; exact hi)] at h2
  exact h.2 i v d h1 h2
 ·rw [List.getElem?_append_right (by omega)] at h1
  rw [List.getElem?_append_right (by rw [← h.1]; omega), ← h.1] at h2
  exact h'.2 _ v d h1 h2
theorem list_of {α : Type} (p : Nat → α → Prop) : ∀ (len : Nat), (∀ i, i < len → ∃ a, p i a) → ∃ l : List α, l.length = len ∧ ∀ i a, l[i]? = some a → p i a := by
 intro len
 induction len with
 | zero => intro _; exact ⟨[], rfl, by intro i a h; simp at h⟩
 | succ n ih =>
  intro h
  obtain ⟨l, hl, hp⟩ := ih fun i hi => h i (by omega)
  obtain ⟨a, ha⟩ := h n (by omega)
  refine ⟨l ++ [a], by simp [hl], fun i x hx => ?_⟩
  rcases get_snoc hx with g | ⟨g, g'⟩
  ·exact hp i x g
  ·subst g g'; rw [hl]; exact ha
theorem fitLL_of {es : List Sh} : ∀ (l : List (List D × Nat)), (∀ (i : Nat) (x : List D × Nat), l[i]? = some x → FitL es x.1 x.2) → FitLL es (l.map (·.1)) (l.map (·.2)).sum := by
 intro l
 induction l with
 | nil => intro _; exact .nil es
 | cons x l ih =>
  intro h
  simp only [List.map_cons, List.sum_cons]
  exact .cons es _ _ _ _ (h 0 x rfl) (ih fun i y hy => h (i + 1) y (by simpa using hy))
theorem sum_le_bulk {H : Type} : ∀ (l : List (List D × Nat)) (xs : List (DataW H)), l.length = xs.length → (∀ (i : Nat) (x : List D × Nat) (y : DataW H), l[i]? = some x → xs[i]? = some y → x.2 ≤ Rows.uptoBulk y) → (l.map (·.2)).sum ≤ Rows.uptoBulkAll xs := by
 intro l
 induction l with
 | nil => intro xs _ _; simp
 | cons x l ih =>
  intro xs hl h
  cases xs with
  | nil => simp at hl
  | cons y xs =>
   have h0 := h 0 x y rfl rfl
   have h1 := ih xs (by simpa using hl) fun i a b ha hb => h (i + 1) a b (by simpa using ha) (by simpa using hb)
   simp only [List.map_cons, List.sum_cons, Rows.uptoBulkAll]
   omega
theorem cell_bound {w : World} {a : Addr} {v : Value} (h : w.cell? a = some v) : a.spot = none ∧ a.block < w.heap.size := by
 unfold World.cell? at h
 cases hb : w.heap[a.block]? with
 | none => rw [hb] at h; cases h
 | some o =>
  rw [hb] at h
  have hlt : a.block < w.heap.size := by
   rcases Nat.lt_or_ge a.block w.heap.size with h' | h'
   ·exact h'
   ·rw [Array.getElem?_eq_none h'] at hb; cases hb
  refine ⟨?_, hlt⟩
  cases o with
  | cells c t fr =>
   simp only at h
   cases hs : a.spot with
   | none => rfl
   | some s => rw [hs] at h; simp at h
  | _ => simp at h
theorem cells_get {w : World} {a : Addr} {n : Nat} {cs : List Value} (h : w.cells? 0 a n = some cs) : cs.length = n ∧ ∀ i, i < n → w.cell? (a.add i) = cs[i]? := by
 unfold World.cells? at h
 rw [if_pos (Nat.zero_le _)] at h
 exact ⟨by simpa using mapM_some_length h, fun i hi => mapM_some_get h i i (by simp [hi])⟩
section
variable {H : Type} {enc : TypeId × Value → H} {P : Program} {w : World}
abbrev Rdg (enc : TypeId × Value → H) (P : Program) (w : World) (fuel : Nat) (t : TypeId) (cs : List Value) (x : DataW H × List MemPlace) : Prop :=
 DataW.trod enc P w 0 (fun _ => true) true fuel t cs = some x
theorem read_parts {sh : TypeId → Option (List Sh)} {fuel : Nat} {cs : List Value}
  (ih : ∀ t shs cs x, sh t = some shs → Rdg enc P w fuel t cs x → ∃ ds n, CsR w cs ds ∧ FitL shs ds n ∧ n ≤ Rows.uptoBulk x.1) :
  ∀ (fs : List (Nat × TypeId)) (off : Nat) (shs : List Sh) (xs : List (DataW H × List MemPlace)), shFs P sh off fs = some shs → cs.length = off + shs.length → xs.length = fs.length →
   (∀ (i : Nat) (f : Nat × TypeId), fs[i]? = some f → DataW.trod enc P w 0 (fun _ => true) true fuel f.2 ((cs.drop f.1).take (P.cellsOf f.2)) = xs[i]?) →
   ∃ ds n, CsR w (cs.drop off) ds ∧ FitL shs ds n ∧ n ≤ Rows.uptoBulkAll (xs.map (·.1)) := by
 intro fs
 induction fs with
 | nil =>
  intro off shs xs hs hl hx _
  simp only [shFs, Option.some.injEq] at hs
  subst hs
  refine ⟨[], 0, ⟨by simp at hl ⊢; omega, fun i v d _ h => by simp at h⟩, .nil, Nat.zero_le _⟩
 | cons f fs ihf =>
  intro off shs xs hs hl hx hr
  obtain ⟨o, t⟩ := f
  cases xs with
  | nil => simp at hx
  | cons x xs =>
   simp only [shFs] at hs
   split at hs
   ·rename_i ho
    subst ho
    split at hs
    ·rename_i l hsl
     split at hs
     ·rename_i hll
      simp only [Option.map_eq_some_iff] at hs
      obtain ⟨r, hs, rfl⟩ := hs
      simp only [List.length_append] at hl
      obtain ⟨ds1, n1, a1, a2, a3⟩ := ih t l _ x hsl (by simpa using hr 0 (o, t) rfl)
      obtain ⟨ds2, n2, b1, b2, b3⟩ := ihf (o + l.length) r xs hs (by omega) (by simpa using hx) fun i f hf => by simpa using hr (i + 1) f (by simpa using hf)
      refine ⟨ds1 ++ ds2, n1 + n2, ?_, a2.append b2, ?_⟩
      ·have e : cs.drop o = (cs.drop o).take (P.cellsOf t) ++ cs.drop (o + l.length) := by
        rw [hll, ← List.drop_drop, List.take_append_drop]
       rw [e]; exact a1.append b1
      ·simp only [List.map_cons, Rows.uptoBulkAll]; omega
     ·cases hs
    ·cases hs
   ·cases hs
theorem DR_slice {b off len cap sz : Nat} {l : List (List D)} (hlen : l.length = len) (hcap : len ≤ cap) (hmax : cap ≤ maxLen) (hpos : 0 < sz) (hsz : ∀ (i : Nat) (e : List D), l[i]? = some e → e.length = sz)
  (h : ∀ (i : Nat) (e : List D), l[i]? = some e → ∃ cs, w.cells? 0 ((⟨b, off, none⟩ : Addr).add (i * sz)) sz = some cs ∧ CsR w cs e) :
  DR (fun b => b < w.heap.size) w (.slice (some ⟨b, off, none⟩) len cap) (.list false sz l) := by
 subst hlen
 have key : ∀ (i : Nat) (e : List D) (j : Nat) (x : D), l[i]? = some e → e[j]? = some x → ∃ v, w.cell? ⟨b, off + i * sz + j, none⟩ = some v ∧ DR (fun b => b < w.heap.size) w v x := by
  intro i e j x he hx
  obtain ⟨cs, h1, h2⟩ := h i e he
  obtain ⟨h3, h4⟩ := cells_get h1
  have hj : j < sz := by rw [← hsz i e he]; exact get_lt hx
  have hv : cs[j]? = some (cs[j]'(by omega)) := List.getElem?_eq_getElem _
  refine ⟨_, ?_, h2.2 j _ x hv hx⟩
  rw [← hv, ← h4 j hj, add_none, add_none]
 refine .sl b off cap sz l (fun i j => (w.cell? ⟨b, off + i * sz + j, none⟩).getD (.bool false)) (fun hne => ?_) hcap (by unfold maxLen at hmax; omega) hsz (fun i e j x he hx => ?_) fun i e j x he hx => ?_
 ·cases l with
  | nil => exact absurd rfl hne
  | cons e l =>
   have he : e.length = sz := hsz 0 e rfl
   cases e with
   | nil => simp at he; omega
   | cons x e =>
    obtain ⟨v, hv, _⟩ := key 0 (x :: e) 0 x rfl rfl
    exact (cell_bound hv).2
 ·obtain ⟨v, hv, _⟩ := key i e j x he hx
  rw [hv]; rfl
 ·obtain ⟨v, hv, hd⟩ := key i e j x he hx
  rw [hv]; exact hd
theorem read (P : Program) : ∀ (m : Nat) (t : TypeId) (shs : List Sh) (fuel : Nat) (cs : List Value) (x : DataW H × List MemPlace), shOf P m t = some shs → Rdg enc P w fuel t cs x →
  ∃ ds n, CsR w cs ds ∧ FitL shs ds n ∧ n ≤ Rows.uptoBulk x.1 := by
 intro m
 induction m with
 | zero => intro t shs fuel cs x hs; simp [shOf] at hs
 | succ m ih =>
  intro t shs fuel cs x hs hx
  unfold shOf at hs
  split at hs
  ·rename_i k hu
   cases hs
   obtain ⟨n, rfl, rfl, hw⟩ := DataW.trod_int hu hx
   exact ⟨_, _, CsR.one (.int k n), .cons _ _ _ _ 1 0 (.int k n hw) .nil, by simp [Rows.uptoBulk]⟩
  ·rename_i hu
   cases hs
   obtain ⟨b, rfl, rfl⟩ := DataW.trod_bool hu hx
   exact ⟨_, _, CsR.one (.bool b), .cons _ _ _ _ 1 0 (.bool b) .nil, by simp [Rows.uptoBulk]⟩
  ·rename_i hu
   cases hs
   obtain ⟨s, rfl, rfl, _⟩ := DataW.trod_string hu hx
   exact ⟨_, _, CsR.one (.str s), .cons _ _ _ _ _ 0 (.str _) .nil, by simp [Rows.uptoBulk]⟩
  ·rename_i e hu
   split at hs
   ·rename_i l hl
    split at hs
    ·rename_i hc
     cases hs
     rcases DataW.trod_slice hu hx with ⟨rfl, rfl⟩ | ⟨a, len, cap, elems, rest, n, rfl, rfl, rfl, _, hlc, hcm, hel, hget, hsp, _⟩
     ·exact ⟨_, _, CsR.one (.nils false _), .cons _ _ _ _ 1 0 (.list _ l [] 0 (.nil l)) .nil, by simp [Rows.uptoBulk]⟩
     ·obtain ⟨hrl, hrest⟩ := hsp rfl
      have each : ∀ i, i < len → ∃ y : List D × Nat, (∃ cs, w.cells? 0 (a.add (i * P.cellsOf e)) (P.cellsOf e) = some cs ∧ CsR w cs y.1) ∧ FitL l y.1 y.2 ∧ ∀ z, elems[i]? = some z → y.2 ≤ Rows.uptoBulk z.1 := by
       intro i hi
       have h1 := hget i hi
       rw [List.getElem?_eq_getElem (by omega)] at h1
       simp only [Option.bind_eq_some_iff] at h1
       obtain ⟨cs, h2, h3⟩ := h1
       obtain ⟨ds, k, g1, g2, g3⟩ := ih e l n cs _ hl h3
       refine ⟨(ds, k), ⟨cs, h2, g1⟩, g2, fun z hz => ?_⟩
       rw [List.getElem?_eq_getElem (by omega)] at hz
       cases hz; exact g3
      obtain ⟨L, hL, hp⟩ := list_of _ len each
      have hfl := fitLL_of L fun i y hy => (hp i y hy).2.1
      have hw := sum_le_bulk L (elems.map (·.1)) (by simp [hL, hel]) fun i y z hy hz => by
       simp only [List.getElem?_map, Option.map_eq_some_iff] at hz
       obtain ⟨u, hu1, rfl⟩ := hz
       exact (hp i y hy).2.2 u hu1
      refine ⟨[.list false (P.cellsOf e) (L.map (·.1))], _, CsR.one ?_, .cons _ _ _ _ _ 0 (.list _ l _ _ hfl) .nil, by simp only [Rows.uptoBulk]; omega⟩
      by_cases hz : cap = 0
      ·have h0 : len = 0 := by omega
       have hLn : L = [] := List.eq_nil_of_length_eq_zero (by omega)
       subst hLn h0 hz
       exact .emp a _
      ·have hspot : a.spot = none := by
        by_cases h0 : 0 < len
        ·obtain ⟨y, ⟨cs, h2, _⟩, _⟩ := each 0 h0
         have := (cells_get h2).2 0 hc.2
         rw [List.getElem?_eq_getElem (by have := (cells_get h2).1; omega)] at this
         simpa [Addr.add] using (cell_bound this).1
        ·have h1 := hrest 0 (by omega)
         rw [List.getElem?_eq_getElem (by omega)] at h1
         simp only [Option.bind_eq_some_iff] at h1
         obtain ⟨cs, h2, _⟩ := h1
         have := (cells_get h2).2 0 hc.2
         rw [List.getElem?_eq_getElem (by have := (cells_get h2).1; omega)] at this
         have h00 : len = 0 := by omega
         simpa [Addr.add, h00] using (cell_bound this).1
       obtain ⟨b, off, spot⟩ := a
       simp only at hspot
       subst hspot
       refine DR_slice (by simp [hL]) hlc hcm hc.2 (fun i ds hi => ?_) fun i ds hi => ?_
       ·simp only [List.getElem?_map, Option.map_eq_some_iff] at hi
        obtain ⟨y, hy, rfl⟩ := hi
        rw [(hp i y hy).2.1.len, hc.1]
       ·simp only [List.getElem?_map, Option.map_eq_some_iff] at hi
        obtain ⟨y, hy, rfl⟩ := hi
        exact (hp i y hy).1
    ·cases hs
   ·cases hs
  ·rename_i fs hu
   split at hs
   ·rename_i l hl
    split at hs
    ·rename_i hc
     cases hs
     obtain ⟨xs, n, rfl, rfl, h1, h2, h3⟩ := DataW.trod_struct hu hx
     obtain ⟨ds, k, g1, g2, g3⟩ := read_parts (fuel := n) (cs := cs) (fun t shs cs x h h' => ih t shs n cs x h h') _ 0 shs xs hl (by omega) (by simp [h2]) fun i f hf => by
      simp only [List.getElem?_map, Option.map_eq_some_iff] at hf
      obtain ⟨f', hf', rfl⟩ := hf
      exact h3 i f' (by simpa using hf')
     exact ⟨ds, k, by simpa using g1, g2, by simp only [Rows.uptoBulk]; omega⟩
    ·cases hs
   ·cases hs
  ·rename_i k e hu
   split at hs
   ·rename_i l hl
    split at hs
    ·rename_i hc
     cases hs
     obtain ⟨xs, n, rfl, rfl, h1, h2, h3⟩ := DataW.trod_array hu hx
     obtain ⟨ds, k', g1, g2, g3⟩ := read_parts (fuel := n) (cs := cs) (fun t shs cs x h h' => ih t shs n cs x h h') _ 0 shs xs hl (by omega) (by simp [h2]) fun i f hf => by
      simp only [List.getElem?_map, Option.map_eq_some_iff] at hf
      obtain ⟨i', hi', rfl⟩ := hf
      have hik : i < k := by have := get_lt hi'; simpa using this
      rw [List.getElem?_range hik] at hi'
      cases hi'
      exact h3 i hik
     exact ⟨ds, k', by simpa using g1, g2, by simp only [Rows.uptoBulk]; omega⟩
    ·cases hs
   ·cases hs
  ·cases hs
theorem kept_of {W W' : World} {may : MemPlace → Prop} (hq : Quiet W W') (hs : ∀ b, b < W.heap.size → W'.heap[b]? = W.heap[b]?) : W.keptBut W' may := by
 refine ⟨hq.1, hq.2.1, fun i hi => ?_⟩
 rw [hs i hi]
 cases W.heap[i]? with
 | none => rfl
 | some o => cases o with
  | cells c t fr => exact ⟨rfl, rfl, rfl, fun _ _ => rfl⟩
  | map es clock => exact .inr ⟨rfl, rfl⟩
  | _ => rfl
theorem sameAt_of {W W' : World} (hs : ∀ b, b < W.heap.size → W'.heap[b]? = W.heap[b]?) (p : MemPlace) (hp : p.block < W.heap.size) : W.sameAt W' p := by
 cases p with
 | cell b off => exact cell_same (hs b hp) off
 | map b => exact hs b hp
theorem trodAll_carry {W W' : World} {T : TypeId → Prop} (K : Kids P T) (hz : ∀ t e, T t → P.underlying t = some (.slice e) → 0 < P.cellsOf e) {sp : Nat → Bool} : ∀ (ts : List TypeId) (vs : List Value) (ds : List (DataW H)) (ps : List MemPlace),
  (∀ t ∈ ts, T t) → DataW.TrodAll enc P W 0 (fun _ => true) true ts vs ds ps → (∀ p ∈ ps, W.sameAt W' p) → (∀ p ∈ ps, sp p.block = true) → DataW.TrodAll enc P W' 0 sp true ts vs ds ps
 | [], [], [], _, _, h, _, _ => h
 | t :: ts, v :: vs, d :: ds, ps, hT, ⟨p, q, ⟨n, h1⟩, h2, e⟩, hs, hp => by
  subst e
  refine ⟨p, q, ⟨n, ?_⟩, trodAll_carry K hz ts vs ds q (fun t ht => hT t (List.mem_cons_of_mem _ ht)) h2 (fun x hx => hs x (List.mem_append_right _ hx)) fun x hx => hp x (List.mem_append_right _ hx), rfl⟩
  exact DataW.trod_stays K (fun a b => hz _ _ a b) (fun h => by cases h) (hT t (List.mem_cons_self ..)) h1 (fun x hx => hs x (List.mem_append_left _ hx)) fun x hx => hp x (List.mem_append_left _ hx)
theorem law_post {f : Func} {s : ChangeSpec} {apart fresh handsOn : Bool} {W W' : World} {args : Array Value} {ds gs : List (DataW H)} {before : List MemPlace} {bt : TypeId}
  (K : Kids P (· < P.types.size)) (hz : ∀ t e, t < P.types.size → P.underlying t = some (.slice e) → 0 < P.cellsOf e) (hT : ∀ t ∈ f.params.toList, t < P.types.size)
  (hvars : s.vars = []) (hres : f.resultTypes = #[bt]) (hbt : P.underlying bt = some .bool)
  (hW : DataW.Whole enc P f.params.toList s.vars apart W args.toList ds gs before) (hfn : (s.fn H (ds ++ gs)).results = [.lit (.bool true)] ∧ (s.fn H (ds ++ gs)).args = ds ∧ (s.fn H (ds ++ gs)).vars = [])
  (hq : Quiet W W') (hs : ∀ b, b < W.heap.size → W'.heap[b]? = W.heap[b]?) : s.post enc P f apart fresh handsOn false W args (.bool true) W' := by
 have hlt := hW.lt
 have hW' := hW
 obtain ⟨p, q, hA, hV, rfl, _, _⟩ := hW'
 rw [hvars] at hV
 obtain ⟨rfl, rfl⟩ := trodVars_none hV
 simp only [List.append_nil] at *
 refine ⟨ds, [], p, [], p, [], hW, ?_, ?_, ?_, kept_of hq hs, fun h => by cases h⟩
 ·simp only [List.append_nil]
  rw [hfn.1, hres]
  exact trodAll_cons_mk (shut_bool hbt _) trodAll_mk0
 ·simp only [List.append_nil]
  rw [hfn.2.1]
  exact trodAll_carry K hz _ _ _ _ hT hA (fun x hx => sameAt_of hs x (hlt x (by simpa using hx))) fun x hx => by simpa using hlt x (by simpa using hx)
 ·simp only [List.append_nil]
  rw [hfn.2.2, hvars]
  rfl
theorem ret_true {f : FuncId} {avs : List AV} {W : World} {vs : List Value} (hf : FnS P f avs [] fun r _ => pureA r = true ∧ r = .c (.d (.bool true))) (hv : VRs (fun b => b < W.heap.size) W [] [] vs avs) :
  Calls P f vs.toArray W fun e W' => e = .returned (.bool true) ∧ Quiet W W' ∧ ∀ b, b < W.heap.size → W'.heap[b]? = W.heap[b]? := by
 refine (hf.out _ [] W vs (HR_nil fun b hb => hb) hv).mono fun e W' ⟨v, r, G', ι', h', he, hr, _, hvr, hx⟩ => ?_
 obtain ⟨_, rfl⟩ := hr
 refine ⟨?_, hx.quiet, fun b hb => hx.frame b hb fun ⟨l, blk, h1, _⟩ => by simp at h1⟩
 cases hvr with
 | c _ _ hc =>
  cases hc with
  | d _ _ hd => cases hd; exact he
theorem VR_agg {w : World} {cs : Array Value} {ds : List D} (h : CsR w cs.toList ds) : VR (fun b => b < w.heap.size) w [] [] (.agg cs) (.agg (ds.map .d)) := by
 refine .agg cs _ (by have := h.1; simpa using this) fun i v x hv hx => ?_
 simp only [List.getElem?_map, Option.map_eq_some_iff] at hx
 obtain ⟨d, hd, rfl⟩ := hx
 exact .d _ _ (h.2 i v d (by simpa using hv) hd)
theorem VR_one {w : World} {v : Value} {d : D} (h : DR (fun b => b < w.heap.size) w v d) : VR (fun b => b < w.heap.size) w [] [] v (.c (.d d)) := .c _ _ (.d _ _ h)
theorem agg_of {v : Value} {n : Nat} (h : v.cells.toList.length = n) (hn : n ≠ 1) : v = .agg v.cells := by
 cases v <;> first | rfl | (exfalso; simp [Value.cells] at h; omega)
theorem VRs_nil {G : Nat → Prop} {w : World} {ι : Io} {h : Hp} : VRs G w ι h [] [] := ⟨rfl, fun i v x h1 => by simp at h1⟩
theorem VRs_cons {G : Nat → Prop} {w : World} {ι : Io} {h : Hp} {v : Value} {x : AV} {vs : List Value} {xs : List AV} (h1 : VR G w ι h v x) (h2 : VRs G w ι h vs xs) : VRs G w ι h (v :: vs) (x :: xs) := by
 refine ⟨by simp [h2.1], fun i a b ha hb => ?_⟩
 cases i with
 | zero => simp at ha hb; subst ha hb; exact h1
 | succ i => exact h2.2 i a b (by simpa using ha) (by simpa using hb)
theorem fitLL_map {α : Type} {es : List Sh} (en : α → List D) (wt : α → Nat) (h : ∀ e n, FitL es e n → ∃ a, e = en a ∧ wt a ≤ n) : ∀ (l : List (List D)) (n : Nat), FitLL es l n → ∃ xs : List α, l = xs.map en ∧ (xs.map wt).sum ≤ n := by
 intro l
 induction l with
 | nil => intro n _; exact ⟨[], rfl, Nat.zero_le _⟩
 | cons e l ih =>
  intro n hl
  cases hl with
  | cons _ _ _ a b h1 h2 =>
   obtain ⟨x, rfl, hx⟩ := h e a h1
   obtain ⟨xs, rfl, hxs⟩ := ih b h2
   exact ⟨x :: xs, rfl, by simp only [List.map_cons, List.sum_cons]; omega⟩
theorem FitL.weight {ss : List Sh} {ds : List D} {n : Nat} (h : FitL ss ds n) : ss.length ≤ n := by
 induction ss generalizing ds n with
 | nil => exact Nat.zero_le _
 | cons s ss ih =>
  cases h with
  | cons _ _ _ _ a b h1 h2 =>
   have h3 := ih h2
   have : 1 ≤ a := by cases h1 <;> omega
   simp only [List.length_cons]; omega
theorem FitL.un {s : Sh} {ss : List Sh} {ds : List D} {n : Nat} (h : FitL (s :: ss) ds n) : ∃ d ds' a b, ds = d :: ds' ∧ n = a + b ∧ Fit1 s d a ∧ FitL ss ds' b := by
 cases h with | cons _ _ d ds a b h1 h2 => exact ⟨d, ds, a, b, rfl, rfl, h1, h2⟩
theorem FitL.end {ds : List D} {n : Nat} (h : FitL [] ds n) : ds = [] := by cases h; rfl
theorem Fit1.i {k : IntKind} {d : D} {n : Nat} (h : Fit1 (.int k) d n) : ∃ z, d = .int k z ∧ (Lit.int k z).wf = true := by cases h with | int _ z hw => exact ⟨z, rfl, hw⟩
theorem Fit1.b {d : D} {n : Nat} (h : Fit1 .bool d n) : ∃ z, d = .bool z := by cases h with | bool z => exact ⟨z, rfl⟩
theorem Fit1.l {sz : Nat} {es : List Sh} {d : D} {n : Nat} (h : Fit1 (.list sz es) d n) : ∃ l m, d = .list false sz l ∧ n = m + 1 ∧ FitLL es l m := by cases h with | list _ _ l m hl => exact ⟨l, m, rfl, rfl, hl⟩
theorem Fit1.lm {α : Type} {sz : Nat} {es : List Sh} {d : D} {n : Nat} (en : α → List D) (wt : α → Nat) (h : Fit1 (.list sz es) d n) (hd : ∀ e n, FitL es e n → ∃ a, e = en a ∧ wt a ≤ n) :
  ∃ xs : List α, d = .list false sz (xs.map en) ∧ (xs.map wt).sum + 1 ≤ n := by
 obtain ⟨l, m, rfl, rfl, h1⟩ := h.l
 obtain ⟨xs, rfl, h2⟩ := fitLL_map en wt hd l m h1
 exact ⟨xs, rfl, by omega⟩
theorem sum_one {α : Type} (l : List α) : (l.map fun _ => 1).sum = l.length := by
 induction l with
 | nil => rfl
 | cons a l ih => simp [ih]; omega
theorem arg_read {m fuel : Nat} {t : TypeId} {shs : List Sh} {v : Value} {d : DataW H} {ps : List MemPlace} (hs : shOf P m t = some shs) (hx : DataW.trod enc P w 0 (fun _ => true) true fuel t v.cells.toList = some (d, ps)) :
  ∃ ds n, CsR w v.cells.toList ds ∧ FitL shs ds n ∧ n ≤ Rows.uptoBulk d := read P m t shs fuel _ _ hs hx
end
end Go.Ab

/-
  What a row reads: numbers, lists, topologies.
-/
namespace Go.Ab
open Go.Proofs Go.Proofs.Ytlehnbmcbjoebaa Go.ChangeShapes Go.WideShapes Go.ChangeAt Go.RowKit
abbrev shI : Sh := .int .i64
def shTop : List Sh := [shI, .list 1 [.bool], .list 7 [shI, shI, shI, shI, shI, shI, shI]]
theorem dec_i : ∀ e n, FitL [shI] e n → ∃ a : Int, e = encI a ∧ 1 ≤ n := by
 intro e n h
 have hw := h.weight
 obtain ⟨d, ds, a, b, rfl, rfl, h1, h2⟩ := h.un
 obtain ⟨z, rfl, _⟩ := h1.i
 rw [h2.end]
 exact ⟨z, rfl, by simpa using hw⟩
theorem dec_b : ∀ e n, FitL [.bool] e n → ∃ a : Bool, e = encB a ∧ 1 ≤ n := by
 intro e n h
 have hw := h.weight
 obtain ⟨d, ds, a, b, rfl, rfl, h1, h2⟩ := h.un
 obtain ⟨z, rfl⟩ := h1.b
 rw [h2.end]
 exact ⟨z, rfl, by simpa using hw⟩
theorem dec_lk : ∀ e n, FitL [shI, shI, shI, shI, shI, shI, shI] e n → ∃ a : Lk, e = encLk a ∧ 1 ≤ n := by
 intro e n h
 have hw := h.weight
 simp only [List.length_cons] at hw
 obtain ⟨d0, ds0, _, _, rfl, rfl, g0, h_0⟩ := h.un
 obtain ⟨z1, rfl, w_z1⟩ := g0.i
 obtain ⟨d1, ds1, _, _, rfl, rfl, g1, h_1⟩ := h_0.un
 obtain ⟨z2, rfl, w_z2⟩ := g1.i
 obtain ⟨d2, ds2, _, _, rfl, rfl, g2, h_2⟩ := h_1.un
 obtain ⟨z3, rfl, w_z3⟩ := g2.i
 obtain ⟨d3, ds3, _, _, rfl, rfl, g3, h_3⟩ := h_2.un
 obtain ⟨z4, rfl, w_z4⟩ := g3.i
 obtain ⟨d4, ds4, _, _, rfl, rfl, g4, h_4⟩ := h_3.un
 obtain ⟨z5, rfl, w_z5⟩ := g4.i
 obtain ⟨d5, ds5, _, _, rfl, rfl, g5, h_5⟩ := h_4.un
 obtain ⟨z6, rfl, w_z6⟩ := g5.i
 obtain ⟨d6, ds6, _, _, rfl, rfl, g6, h_6⟩ := h_5.un
 obtain ⟨z7, rfl, w_z7⟩ := g6.i
 rw [h_6.end]
 exact ⟨⟨z1, z2, z3, z4, z5, z6, z7⟩, rfl, by omega⟩
theorem kids : Kids Try.prog (· < Try.prog.types.size) := kids_rows (by kernel_rfl) (by kernel_rfl)
theorem full : ∀ t e, t < Try.prog.types.size → Try.prog.underlying t = some (.slice e) → 0 < Try.prog.cellsOf e := slices_full_of Try.prog (by kernel_rfl)
theorem own : ownKnob Try.prog.godebug = none := by kernel_rfl
end Go.Ab

/-
  Chapter 47: what a row of a script reads.
-/
namespace Go.Ab
open Go.Proofs Go.Proofs.Ytlehnbmcbjoebaa Go.ChangeShapes Go.WideShapes Go.ChangeAt Go.RowKit
def shRq : List Sh := [shI, .list 1 [shI], shI, shI, shI]
def shStp : List Sh := .bool :: shRq
def i64 (n : Int) : Prop := -9223372036854775808 ≤ n ∧ n ≤ 9223372036854775807
theorem wf_i64 {n : Int} (h : (Lit.int .i64 n).wf = true) : i64 n := by
 simp only [Lit.wf, Bool.and_eq_true, decide_eq_true_eq] at h
 exact h
abbrev StpR := {x : Stp // i64 x.r.id}
def encSR (x : StpR) : List D := encStp x.1
def stpRA (c : StpR) : AV := stpA c.1
theorem script_D (l : List StpR) : (D.list false 6 (l.map encSR)) = stpsD (l.map (·.1)) := by rw [stpsD, List.map_map]; rfl
theorem script_rng (l : List StpR) : ∀ x ∈ l.map (·.1), -9223372036854775808 ≤ x.r.id ∧ x.r.id ≤ 9223372036854775807 := fun x hx => by
 obtain ⟨y, _, rfl⟩ := List.mem_map.1 hx
 exact y.2
theorem dec_stp : ∀ e n, FitL shStp e n → ∃ a : StpR, e = encSR a ∧ 1 ≤ n := by
 intro e n h
 have hw := h.weight
 simp only [shStp, List.length_cons] at hw
 obtain ⟨d0, ds0, _, _, rfl, rfl, g0, h_0⟩ := h.un
 obtain ⟨rel, rfl⟩ := g0.b
 obtain ⟨d1, ds1, _, _, rfl, rfl, g1, h_1⟩ := h_0.un
 obtain ⟨id, rfl, w_id⟩ := g1.i
 obtain ⟨d2, ds2, _, _, rfl, rfl, g2, h_2⟩ := h_1.un
 obtain ⟨arcs, rfl, w_arcs⟩ := g2.lm encI (fun _ => 1) dec_i
 rw [sum_one] at w_arcs
 obtain ⟨d3, ds3, _, _, rfl, rfl, g3, h_3⟩ := h_2.un
 obtain ⟨amt, rfl, w_amt⟩ := g3.i
 obtain ⟨d4, ds4, _, _, rfl, rfl, g4, h_4⟩ := h_3.un
 obtain ⟨setup, rfl, w_setup⟩ := g4.i
 obtain ⟨d5, ds5, _, _, rfl, rfl, g5, h_5⟩ := h_4.un
 obtain ⟨hold, rfl, w_hold⟩ := g5.i
 rw [h_5.end]
 exact ⟨⟨⟨rel, id, arcs, amt, setup, hold⟩, wf_i64 w_id⟩, rfl, by omega⟩
theorem dec_top {ds : List D} {n : Nat} (h : FitL shTop ds n) : ∃ c : Top, topA c = .agg (ds.map .d) ∧ 0 ≤ n := by
 obtain ⟨d0, ds0, _, _, rfl, rfl, g0, h_0⟩ := h.un
 obtain ⟨nodes, rfl, w_nodes⟩ := g0.i
 obtain ⟨d1, ds1, _, _, rfl, rfl, g1, h_1⟩ := h_0.un
 obtain ⟨ov, rfl, w_ov⟩ := g1.lm encB (fun _ => 1) dec_b
 rw [sum_one] at w_ov
 obtain ⟨d2, ds2, _, _, rfl, rfl, g2, h_2⟩ := h_1.un
 obtain ⟨links, rfl, w_links⟩ := g2.lm encLk (fun _ => 1) dec_lk
 rw [sum_one] at w_links
 rw [h_2.end]
 exact ⟨⟨nodes, ov, links⟩, rfl, by omega⟩
theorem dec_more {ds : List D} {n : Nat} (h : FitL shStp ds n) : ∃ c : StpR, stpRA c = .agg (ds.map .d) ∧ 0 ≤ n := by
 obtain ⟨d0, ds0, _, _, rfl, rfl, g0, h_0⟩ := h.un
 obtain ⟨rel, rfl⟩ := g0.b
 obtain ⟨d1, ds1, _, _, rfl, rfl, g1, h_1⟩ := h_0.un
 obtain ⟨id, rfl, w_id⟩ := g1.i
 obtain ⟨d2, ds2, _, _, rfl, rfl, g2, h_2⟩ := h_1.un
 obtain ⟨arcs, rfl, w_arcs⟩ := g2.lm encI (fun _ => 1) dec_i
 rw [sum_one] at w_arcs
 obtain ⟨d3, ds3, _, _, rfl, rfl, g3, h_3⟩ := h_2.un
 obtain ⟨amt, rfl, w_amt⟩ := g3.i
 obtain ⟨d4, ds4, _, _, rfl, rfl, g4, h_4⟩ := h_3.un
 obtain ⟨setup, rfl, w_setup⟩ := g4.i
 obtain ⟨d5, ds5, _, _, rfl, rfl, g5, h_5⟩ := h_4.un
 obtain ⟨hold, rfl, w_hold⟩ := g5.i
 rw [h_5.end]
 exact ⟨⟨⟨rel, id, arcs, amt, setup, hold⟩, wf_i64 w_id⟩, rfl, by omega⟩
theorem CsR.head {w : World} {v : Value} {d : D} (h : CsR w [v] [d]) : DR (fun b => b < w.heap.size) w v d := h.2 0 _ _ rfl rfl
end Go.Ab

/-
  Reservations, part u: the laws Script and Free.
-/
namespace Go.Ab
open Go.Proofs
theorem run_rng {t : Top} {s : List Stp} (h : ∀ x ∈ s, -9223372036854775808 ≤ x.r.id ∧ x.r.id ≤ 9223372036854775807) : Rng (runS t [] s) := fun r hr => by
 rcases mem_run hr with h1 | ⟨y, h1, rfl⟩
 ·simp at h1
 ·exact h y h1
end Go.Ab

/-
  Reservations, part x: the law Priority.
-/
namespace Go.Ab
open Go.Proofs
theorem res_err {t : Top} {l : List Rq} {r : Rq} (he : (resS t l r).2.2 ≠ 0) : (resS t l r).1 = l ∧ (resS t l r).2.1 = [] ∧ ((resS t l r).2.2 = 12 → ∃ a ∈ r.arcs, roomS t l a r.setup < r.amt) := by
 unfold resS at he ⊢
 by_cases hp : PropN (arcsT t) r
 rotate_left
 ·rw [if_pos hp]; exact ⟨rfl, rfl, fun h => absurd h (by simp)⟩
 rw [if_neg (not_not_intro hp)] at he ⊢
 by_cases hid : r.id ∈ l.map (·.id)
 ·rw [if_pos hid]; exact ⟨rfl, rfl, fun h => absurd h (by simp)⟩
 rw [if_neg hid] at he ⊢
 by_cases hfu : fullS t l r = true
 ·rw [if_pos hfu]
  refine ⟨rfl, rfl, fun _ => ?_⟩
  rw [fullS, List.any_eq_true] at hfu
  obtain ⟨a, ha, h⟩ := hfu
  exact ⟨a, ha, of_decide_eq_true h⟩
 rw [if_neg hfu] at he
 exact absurd rfl he
theorem res_suc {t : Top} {l : List Rq} {r : Rq} (he : (resS t l r).2.2 = 0) : PropN (arcsT t) r ∧ r.id ∉ l.map (·.id) ∧ (∀ a ∈ r.arcs, r.amt ≤ roomS t l a r.setup) ∧ (resS t l r).1 = withR r (leftR l (preS t l r)) ∧ (resS t l r).2.1 = preS t l r := by
 unfold resS at he ⊢
 by_cases hp : PropN (arcsT t) r
 rotate_left
 ·rw [if_pos hp] at he; exact absurd he (by simp)
 rw [if_neg (not_not_intro hp)] at he ⊢
 by_cases hid : r.id ∈ l.map (·.id)
 ·rw [if_pos hid] at he; exact absurd he (by simp)
 rw [if_neg hid] at he ⊢
 by_cases hfu : fullS t l r = true
 ·rw [if_pos hfu] at he; exact absurd he (by simp)
 rw [if_neg hfu]
 refine ⟨hp, hid, fun a ha => ?_, rfl, rfl⟩
 rw [fullS, List.any_eq_true] at hfu
 exact Int.not_lt.1 fun h => hfu ⟨a, ha, decide_eq_true h⟩
theorem get_gone {m l : List Rq} (hp : m.Perm l) {i : Int} (h : i ∉ l.map (·.id)) : getS m i = (⟨0, [], 0, 0, 0⟩, false) :=
 getS_no fun h2 => h ((hp.map fun x : Rq => x.id).mem_iff.1 h2)
end Go.Ab

/-
  Reservations, part z: the law Capacity.
-/
namespace Go.Ab
open Go.Proofs
def TbC (t : Top) (l : List Rq) : Prop := ∀ a, 0 ≤ a → a < 2 * (t.links.length : Int) → sumR (fun _ => true) a l ≤ (lkAt t a).cap
theorem sumR_cons (p : Rq → Bool) (a : Int) (x : Rq) (l : List Rq) : sumR p a (x :: l) = wtR p a x + sumR p a l := by simp [sumR]
theorem wtR_nn {p : Rq → Bool} {a : Int} {r : Rq} (h : 0 ≤ r.amt) : 0 ≤ wtR p a r := by unfold wtR; split <;> omega
theorem sumR_sub {p : Rq → Bool} {a : Int} {l' l : List Rq} (hs : l'.Sublist l) : (∀ x ∈ l, 0 ≤ x.amt) → sumR p a l' ≤ sumR p a l := by
 induction hs with
 | slnil => intro _; exact Int.le_refl _
 | cons x _ ih =>
  intro h
  have h1 := ih fun y hy => h y (List.mem_cons_of_mem _ hy)
  have h2 := @wtR_nn p a x (h x (List.mem_cons_self ..))
  rw [sumR_cons]; omega
 | cons_cons x _ ih =>
  intro h
  have h1 := ih fun y hy => h y (List.mem_cons_of_mem _ hy)
  rw [sumR_cons, sumR_cons]; omega
theorem TbI.nn {t : Top} {l : List Rq} (h : TbI t l) : ∀ x ∈ l, 0 ≤ x.amt := fun x hx => by have := (h.prop x hx).2.1; omega
theorem left_sub {l : List Rq} {o1 o2 : List Int} (h : ∀ i ∈ o1, i ∈ o2) : (leftR l o2).Sublist (leftR l o1) := by
 have : leftR l o2 = (leftR l o1).filter fun x => decide (x.id ∉ o2) := by
  rw [leftR, leftR, List.filter_filter]
  refine List.filter_congr fun x _ => ?_
  by_cases h2 : x.id ∈ o2
  ·simp [h2]
  ·have h1 : x.id ∉ o1 := fun h1 => h2 (h _ h1)
   simp [h1, h2]
 rw [this]
 exact List.filter_sublist
theorem fold_grow {t : Top} {l : List Rq} {r : Rq} : ∀ (c : List Rq) (out : List Int), ∀ i ∈ out, i ∈ c.foldl (preStep t l r) out := by
 intro c
 induction c with
 | nil => intro out i h; exact h
 | cons x c ih =>
  intro out i h
  refine ih _ i ?_
  rw [preStep]
  split
  ·exact List.mem_append_left _ h
  ·exact h
theorem fold_all {t : Top} (hv : validT t = true) {l : List Rq} (ht : TbI t l) {r : Rq} {a : Int} (ha : a ∈ r.arcs) (har : 0 ≤ a ∧ a < 2 * (t.links.length : Int)) : ∀ (c : List Rq) (out : List Int),
  (lkAt t a).cap - sumR (fun _ => true) a (leftR l (c.foldl (preStep t l r) out)) < r.amt → ∀ x ∈ c, a ∈ x.arcs → x.id ∈ c.foldl (preStep t l r) out := by
 intro c
 induction c with
 | nil => intro _ _ x hx; simp at hx
 | cons y c ih =>
  intro out h x hx hax
  rw [List.foldl_cons] at h ⊢
  rcases List.mem_cons.1 hx with rfl | hx
  ·refine fold_grow _ _ _ ?_
   have hsub := sumR_sub (p := fun _ => true) (a := a) (left_sub (l := l) (fun i hi => fold_grow (t := t) (l := l) (r := r) c (preStep t l r out x) i (by
    rw [preStep]; split
    ·exact List.mem_append_left _ hi
    ·exact hi))) fun z hz => ht.nn z (List.mem_filter.1 hz).1
   have hi : isR t a := by rw [isR, arcsT_v hv]; exact har
   have hs : shortS t (leftR l out) x r = true := by
    rw [shortS, List.any_eq_true]
    refine ⟨a, ha, ?_⟩
    simp only [shortA, Bool.and_eq_true, decide_eq_true_eq]
    refine ⟨hax, ?_⟩
    rw [useS, if_pos hi]
    omega
   rw [preStep, if_pos hs]
   exact List.mem_append_right _ (List.mem_singleton.2 rfl)
  ·exact ih _ h x hx hax
theorem res_cap {t : Top} (hv : validT t = true) {l : List Rq} (ht : TbI t l) {r : Rq} (he : (resS t l r).2.2 = 0) {a : Int} (ha : a ∈ r.arcs) : sumR (fun _ => true) a (leftR l (preS t l r)) + r.amt ≤ (lkAt t a).cap := by
 obtain ⟨hp, _, hf, _, _⟩ := res_suc he
 rw [arcsT_v hv] at hp
 have har := hp.2.2.2.2.2 a ha
 have hi : isR t a := by rw [isR, arcsT_v hv]; exact har
 have h1 := hf a ha
 rw [roomS, if_pos hi] at h1
 apply Classical.byContradiction
 intro hn
 have hall := fold_all hv ht ha har (cdn l (7 - r.setup).toNat) [] (by show (lkAt t a).cap - sumR (fun _ => true) a (leftR l (preS t l r)) < r.amt; omega)
 have h2 : sumR (fun _ => true) a (leftR l (preS t l r)) = sumR (fun x => decide (x.hold ≤ r.setup)) a (leftR l (preS t l r)) := by
  rw [sumR, sumR]
  congr 1
  refine List.map_congr_left fun x hx => ?_
  obtain ⟨hx1, hx2⟩ := List.mem_filter.1 hx
  by_cases hh : x.hold ≤ r.setup
  ·rw [wtR, wtR, decide_eq_true hh]
  ·have hax : a ∉ x.arcs := fun hax => by
    have := (ht.prop x hx1).2.2
    exact of_decide_eq_true hx2 (hall x (mem_cdn.2 ⟨hx1, by omega, by omega⟩) hax)
   rw [wtR, wtR, if_neg (fun h => hax h.2), if_neg (fun h => hax h.2)]
 have h3 := sumR_sub (p := fun x => decide (x.hold ≤ r.setup)) (a := a) (l' := leftR l (preS t l r)) (l := l) List.filter_sublist ht.nn
 omega
theorem TbC.nil {t : Top} (hv : validT t = true) : TbC t [] := fun a h0 h1 => by
 have := cap_le hv h0 h1
 simp only [sumR, List.map_nil, List.sum_nil]; omega
theorem TbC.step {t : Top} (hv : validT t = true) {l : List Rq} (ht : TbI t l) (hc : TbC t l) (s : Stp) : TbC t (stepS t l s) := by
 intro a h0 h1
 have h2 := hc a h0 h1
 unfold stepS
 split
 ·unfold relS
  split
  ·have := sumR_sub (p := fun _ => true) (a := a) (List.eraseIdx_sublist l ((l.map (·.id)).idxOf s.r.id)) ht.nn
   simp only; omega
  ·exact h2
 ·by_cases he : (resS t l s.r).2.2 = 0
  ·rw [(res_suc he).2.2.2.1, sumR_perm (withR_perm _ _), sumR_cons]
   by_cases ha : a ∈ s.r.arcs
   ·have h3 := res_cap hv ht he ha
    rw [wtR, if_pos ⟨rfl, ha⟩]; omega
   ·rw [wtR, if_neg (fun h => ha h.2)]
    have := sumR_sub (p := fun _ => true) (a := a) (l' := leftR l (preS t l s.r)) (l := l) List.filter_sublist ht.nn
    omega
  ·rw [(res_err he).1]; exact h2
end Go.Ab

/-
  The engine: results that are new memory.
-/
namespace Go.Ab
def scalD : D → Bool
 | .bool _ => true
 | .int _ _ => true
 | .str _ => true
 | _ => false
theorem scalD_move {G G' : Nat → Prop} {w w' : World} {v : Value} {d : D} (hs : scalD d = true) (hd : DR G w v d) : DR G' w' v d := by
 cases hd <;> first | (simp [scalD] at hs; done) | exact .bool _ | exact .int _ _ | exact .str _
theorem new_arr {G : Nat → Prop} {ι : Io} {h : Hp} {w w' : World} {v : Value} {l ver sz n : Nat} {r : Bool} {es : List (List D)} (hr : HR G ι h w') (hv : CR G w' ι h v (.arr l ver 0 n)) (hl : h[l]? = some (.da r ver sz es)) (hn : n = es.length)
  (hnew : ∀ b, owned ι h b → w.heap.size ≤ b) (hsc : ∀ e ∈ es, ∀ d ∈ e, scalD d = true) : DR (fun b => w.heap.size ≤ b ∧ b < w'.heap.size) w' v (.list false sz es) := by
 have hf : frz h (.arr l ver 0 n) = some (.list false sz es, h.set l .dead) := by simp [frz, hl, hn]
 obtain ⟨G', _, hd, _⟩ := frz_sound hr hv hf
 cases hv with
 | arr _ _ _ _ _ blk hb ha hk hk0 =>
  rw [hl] at hb
  cases hb
  cases r with
  | false =>
   obtain ⟨_, _, rfl⟩ := hk0 sz es rfl
   have : es = [] := hr.blk l _ hl
   subst this
   exact .nils false sz
  | true =>
   obtain ⟨b, o, cap, g1, g2, g3, g4, g5⟩ := hk sz es rfl
   have ho : owned ι h b := owned_of g1 hl rfl
   have hb2 := owned_lt hr ho
   have hb1 := hnew b ho
   generalize hx : D.list false sz es = x at hd
   cases hd with
   | bool => cases hx
   | int => cases hx
   | str => cases hx
   | nilp => cases hx
   | nilm => cases hx
   | nilf => cases hx
   | nili => cases hx
   | adr => cases hx
   | slA => cases hx
   | mpf => cases hx
   | nils nl sz' => cases hx; exact .nils _ _
   | emp a sz' => cases hx; exact .emp _ _
   | sl b' off cap' sz' l' g hG hcap hmax hsz hc hr' =>
    cases hx
    refine .sl b' off cap' sz es g (fun hne => ?_) hcap hmax hsz hc fun i e j x he hx => scalD_move (hsc e (List.mem_of_getElem? he) x (List.mem_of_getElem? hx)) (hr' i e j x he hx)
    have hbb : b' = b := by
     rcases g5 with g5 | ⟨g5, _⟩
     ·cases g5; rfl
     ·exact absurd (List.eq_nil_of_length_eq_zero (hn ▸ g5)) hne
    rw [hbb]; exact ⟨hb1, hb2⟩
end Go.Ab

/-
  Reservations, part ta: requests whose arcs are still their owner's.
-/
namespace Go.Ab
open Go.Proofs
abbrev rqO (r : Rq) (b n : Nat) : AV := .agg [.d (iD r.id), .arr b 1 0 n, .d (iD r.amt), .d (iD r.setup), .d (iD r.hold)]
theorem cloneInts_own (P : Program) (hP : P = Try.prog) (ll : List (List D)) (hl : ll.length ≤ 1000000) (h0 : ll ≠ []) : FnS P n_slices_Clone_int_int [.c (.d (.list false 1 ll))] [] fun r h' => ∃ n, n = ll.length ∧ r = .c (.arr 0 1 0 n) ∧ h' = [.da true 1 1 ll] := by
 refine fn_heap (hP ▸ mixed) (hP ▸ fn_slices_Clone_int_int) (hP ▸ c_slices_Clone_int_int) (Nat.le_of_ble_eq_true rfl) fun Λ Λo => ?_
 clear hP
 generalize hK : (fun (r : AV) (h' : Hp) => ∃ n, n = ll.length ∧ r = .c (.arr 0 1 0 n) ∧ h' = [.da true 1 1 ll]) = K
 have k1 : ∀ n rl es, es = ll → rl = true → n = ll.length → K (.c (.arr 0 1 0 n)) [Blk.da rl 1 1 es] := by
  intro n rl es h1 h3 h2; rw [← hK]; subst h1 h3; exact ⟨n, h2, rfl, rfl⟩
 clear hK
 have lln := Λo ll
 conv => cbv
 repeat' first | exact gu | exact trivial | refine And.intro ?_ ?_ | (intro hc; exact absurd hc (by decide)) | (intro hc; exfalso; omega) | (intro hc; (first | rw [wrap_small (by omega) (by omega)] at hc | rw [nI_eq] at hc | skip); try (conv => cbv))
 ·refine k1 _ _ _ ?_ ?_ ?_
  ·rw [hc]; simp
  ·rename_i h1; rw [h1]; rfl
  ·rename_i h1 _; rw [h1]; simp
 ·exact absurd (by assumption) h0
theorem program_own (P : Program) (hP : P = Try.prog) (r : Rq) (hl : r.arcs.length ≤ 1000000) : FnS P n_law47_program [rqA r] [] fun r' h' => ∃ (n : Nat) (rr : Bool), n = r.arcs.length ∧ r' = rqO r 0 n ∧ h' = [.da rr 1 1 (r.arcs.map encI)] := by
 have h1 : FnS P n_law47_program [rqA r] [] fun r' h' => ∃ (n : Nat) (rr : Bool) (b0 b1 : Blk) (h2 : Hp), n = r.arcs.length ∧ r' = rqO r 2 n ∧ h' = [b0, b1, .da rr 1 1 (r.arcs.map encI)] ++ h2 := by
  refine heap_start (hP ▸ mixed) (hP ▸ fn_law47_program) (hP ▸ c_law47_program) (Nat.le_of_ble_eq_true rfl) fun Λ Λo K hK => ?_
  clear hP
  have k1 : ∀ n rr b0 b1 h2 es, n = r.arcs.length → es = r.arcs.map encI → K (rqO r 2 n) ([b0, b1, .da rr 1 1 es] ++ h2) := fun n rr b0 b1 h2 es h e => by subst e; exact hK _ _ ⟨n, rr, b0, b1, h2, h, rfl, rfl⟩
  clear hK
  obtain ⟨id, arcs, amt, setup, hold⟩ := r
  simp only [rqA, rqO, intsD] at *
  generalize alh : List.map encI arcs = al at *
  have aln : Λ al = arcs.length := by rw [Λo, ← alh]; simp
  have all : al.length = arcs.length := by rw [← alh, List.length_map]
  conv => cbv
  repeat' first | (intro (_ : Unit); simp; omega) | exact gu | exact trivial | refine And.intro ?_ ?_ | (intro hc; exact absurd hc (by decide)) | (intro hc; exfalso; omega) | (intro hc; (first | rw [wrap_small (by omega) (by omega)] at hc | rw [nI_eq] at hc | skip); try (conv => cbv))
  rename_i n b y h1 h2
  exact k1 _ _ _ _ [] _ (by rw [h1, ← all]; omega) (by rw [hc]; simp)
 refine FnS.gct h1 _ fun r' h' hR => ?_
 obtain ⟨n, rr, b0, b1, h2, hn, rfl, rfl⟩ := hR
 exact ⟨[2], rqO r 0 n, [.da rr 1 1 (r.arcs.map encI)], ⟨n, rr, hn, rfl, rfl⟩, rfl, by decide, fun l hl => by simp at hl ⊢; omega,
   fun i k hk => by (match i, hk with | 0, hk => cases Option.some.inj hk; rfl), rfl, rfl, rfl, by simp, fun i hi => by simp at hi, fun k hk => by simp at hk; rcases hk with rfl; intro _ _ _ h; cases h⟩
theorem clone_own (P : Program) (hP : P = Try.prog) (r : Rq) (hl : r.arcs.length ≤ 1000000) (h0 : r.arcs ≠ []) : FnS P n_reserve_clone [rqA r] [] fun r' h' => ∃ (n : Nat) (rr : Bool), n = r.arcs.length ∧ r' = rqO r 0 n ∧ h' = [.da rr 1 1 (r.arcs.map encI)] := by
 have h1 : FnS P n_reserve_clone [rqA r] [] fun r' h' => ∃ (n : Nat) (rr : Bool) (b0 b1 : Blk) (h2 : Hp), n = r.arcs.length ∧ r' = rqO r 2 n ∧ h' = [b0, b1, .da rr 1 1 (r.arcs.map encI)] ++ h2 := by
  have hcl := cloneInts_own P hP (r.arcs.map encI) (by simpa using hl) (by simpa using h0)
  refine heap_start (hP ▸ mixed) (hP ▸ fn_reserve_clone) (hP ▸ c_reserve_clone) (Nat.le_of_ble_eq_true rfl) fun Λ Λo K hK => ?_
  clear hP
  have k1 : ∀ n rr b0 b1 h2 es, n = r.arcs.length → es = r.arcs.map encI → K (rqO r 2 n) ([b0, b1, .da rr 1 1 es] ++ h2) := fun n rr b0 b1 h2 es h e => by subst e; exact hK _ _ ⟨n, rr, b0, b1, h2, h, rfl, rfl⟩
  clear hK
  obtain ⟨id, arcs, amt, setup, hold⟩ := r
  simp only [rqA, rqO, intsD] at *
  generalize alh : List.map encI arcs = al at *
  have aln : Λ al = arcs.length := by rw [Λo, ← alh]; simp
  have all : al.length = arcs.length := by rw [← alh, List.length_map]
  conv => cbv
  repeat' first | (refine call_fr [] hcl rfl rfl (by decide) (by repeat' first | exact trivial | refine And.intro ?_ ?_ | rfl) rfl rfl ?_; rintro r hc' ⟨n, hn, rfl, rfl⟩; (conv => cbv)) | exact gu | exact trivial | refine And.intro ?_ ?_ | (intro hc; exact absurd hc (by decide)) | (intro hc; exfalso; omega) | (intro hc; (first | rw [wrap_small (by omega) (by omega)] at hc | rw [nI_eq] at hc | skip); try (conv => cbv))
  exact k1 _ _ _ _ [] _ (by rw [hn, ← all]) rfl
 refine FnS.gct h1 _ fun r' h' hR => ?_
 obtain ⟨n, rr, b0, b1, h2, hn, rfl, rfl⟩ := hR
 exact ⟨[2], rqO r 0 n, [.da rr 1 1 (r.arcs.map encI)], ⟨n, rr, hn, rfl, rfl⟩, rfl, by decide, fun l hl => by simp at hl ⊢; omega,
   fun i k hk => by (match i, hk with | 0, hk => cases Option.some.inj hk; rfl), rfl, rfl, rfl, by simp, fun i hi => by simp at hi, fun k hk => by simp at hk; rcases hk with rfl; intro _ _ _ h; cases h⟩
abbrev rsvO (caps : List Int) (v : Nat) (m : List Rq) (rr : Bool) (r : Rq) : Hp := [.bx [.d (intsD caps), .mp 1], .mp v (m.map encM), .da rr 1 1 (r.arcs.map encI)]
theorem tproper_own (P : Program) (hP : P = Try.prog) (caps : List Int) (v : Nat) (m : List Rq) (r : Rq) (n0 : Nat) (rr : Bool) (hn0 : n0 = r.arcs.length) (hc : caps.length ≤ 1000) :
  FnS P n_reserve_Table_proper [.c (.ptr 0 0 0 0), rqO r 2 n0] (rsvO caps v m rr r) fun r' h' => r' = bA (decide (PropN (2 * caps.length) r)) ∧ h' = rsvO caps v m rr r := by
 have h1 : FnS P n_reserve_Table_proper [.c (.ptr 0 0 0 0), rqO r 2 n0] (rsvO caps v m rr r) fun r' h' => ∃ h2, r' = bA (decide (PropN (2 * caps.length) r)) ∧ h' = rsvO caps v m rr r ++ h2 := by
  have hhas := fun a => thas_ok P hP caps v m a hc
  have hcon := fun l a => contains_ok P hP l a
  refine heap_start (hP ▸ mixed) (hP ▸ fn_reserve_Table_proper) (hP ▸ c_reserve_Table_proper) (Nat.le_of_ble_eq_true rfl) fun Λ Λo K hK => ?_
  clear hP
  have yes : PropN (2 * caps.length) r → ∀ h2, K (bA true) (rsvO caps v m rr r ++ h2) := fun h h2 => hK _ _ ⟨h2, by rw [decide_eq_true h], rfl⟩
  have no : ¬ PropN (2 * caps.length) r → ∀ h2, K (bA false) (rsvO caps v m rr r ++ h2) := fun h h2 => hK _ _ ⟨h2, by rw [decide_eq_false h], rfl⟩
  clear hK
  obtain ⟨id, arcs, amt, setup, hold⟩ := r
  unfold PropN at yes no
  simp only at yes no hn0
  simp only [rsvO, rsvH, rqO, intsA, intsD, List.cons_append, List.nil_append] at *
  generalize caps.map encI = cl at *
  generalize m.map encM = ml at *
  generalize 2 * (caps.length : Int) = n at *
  generalize alh : List.map encI arcs = al at *
  have aln : Λ al = arcs.length := by rw [Λo, ← alh]; simp
  have all : al.length = n0 := by rw [hn0, ← alh, List.length_map]
  conv => cbv
  repeat' first | exact gu | exact trivial | refine And.intro ?_ ?_ | (intro hc; exact absurd hc (by decide)) | (intro hc; exfalso; omega) | (intro hc; (first | rw [wrap_small (by omega) (by omega)] at hc | rw [nI_eq] at hc | skip); try (conv => cbv))
  all_goals try (exact no (by omega) [_])
  refine loop_upx arcs.length (fun z : Int × Int => [(0, .c (.ptr 0 0 0 0)), (3, .c (.ptr 3 0 0 0)), (28, .c (.arr 2 1 0 n0)), (29, iA z.2), (30, iA z.1)])
   (fun _ => [.bx [.d (.list false 1 cl), .mp 1], .mp v ml, .da rr 1 1 al, .bx [.d (iD id), .arr 2 1 0 n0, .d (iD amt), .d (iD setup), .d (iD hold)]])
   (fun k z => z.1 = k ∧ z.2 = arcs.length ∧ k ≤ arcs.length ∧ (arcs.take k).Nodup ∧ ∀ a ∈ arcs.take k, 0 ≤ a ∧ a < n) (0, _) 0
   (fun (_ : Unit) => [(3, .c (.ptr 3 0 0 0))]) (fun _ => [.bx [.d (.list false 1 cl), .mp 1], .mp v ml, .da rr 1 1 al, .bx [.d (iD id), .arr 2 1 0 n0, .d (iD amt), .d (iD setup), .d (iD hold)]])
   (fun _ => arcs.Nodup ∧ ∀ a ∈ arcs, 0 ≤ a ∧ a < n) (Wk.ca) ⟨rfl, by simp only; omega, by omega, by simp, by simp⟩ (fun k s h => h.2.2.1) ?_ ?_
  ·rintro k ⟨i, ln⟩ Q' ⟨hi, hln, hk, hnd, hrg⟩ norm jn ex rt
   simp only at hi hln
   by_cases hlt : k < arcs.length
   ·obtain ⟨x, hx⟩ : ∃ x, arcs[k]? = some x := ⟨_, List.getElem?_eq_getElem hlt⟩
    have hxa := elt_at alh hi hx
    have hhx := hcon (arcs.take k) x
    obtain ⟨kq, hkq⟩ : ∃ kq, kq = k := ⟨_, rfl⟩
    have hxa : al[kq]? = some [iD x] := by rw [hkq]; rw [← alh, List.getElem?_map, hx]; rfl
    rw [List.map_take, alh, show List.take k al = List.take k (List.drop 0 al) by rw [List.drop_zero]] at hhx
    rw [← hkq] at hhx
    have hhs := hhas x
    by_cases hxr : 0 ≤ x ∧ x < n
    rotate_left
    ·rw [decide_eq_false hxr] at hhs
     clear hhx jn norm
     conv => cbv
     repeat' first | (refine ex _ _ _ ?_; (conv => cbv)) | (refine rt _ _ ?_; (conv => cbv)) | (intro (k : Nat) hk; refine (fun (hz : kq = k) => ?_) ?_; rotate_left; omega; subst hz; (conv => cbv)) | (intro e he; cases Option.some.inj (he.symm.trans hxa); (conv => cbv)) | (refine call_fr [0, 1] hhs rfl rfl (by decide) (by repeat' first | exact trivial | refine And.intro ?_ ?_ | rfl) rfl rfl ?_; rintro r hc' ⟨rfl, rfl⟩; (conv => cbv)) | exact gu | exact trivial | refine And.intro ?_ ?_ | (intro hc; exact absurd hc (by decide)) | (intro hc; exfalso; omega) | (intro hc; (first | rw [wrap_small (by omega) (by omega)] at hc | rw [nI_eq] at hc | skip); try (conv => cbv))
     exact no (fun h => hxr (h.2.2.2.2.2 x (List.mem_of_getElem? hx))) [_]
    rw [decide_eq_true hxr] at hhs
    conv => cbv
    repeat' first | (refine ex _ _ _ ?_; (conv => cbv)) | (refine rt _ _ ?_; (conv => cbv)) | (intro (k : Nat) hk; refine (fun (hz : kq = k) => ?_) ?_; rotate_left; omega; subst hz; (conv => cbv)) | (intro e he; cases Option.some.inj (he.symm.trans hxa); (conv => cbv)) | (refine call_fr [0, 1] hhs rfl rfl (by decide) (by repeat' first | exact trivial | refine And.intro ?_ ?_ | rfl) rfl rfl ?_; rintro r hc' ⟨rfl, rfl⟩; (conv => cbv)) | (refine look_b hhx rfl ?_ ?_) | exact gu | exact trivial | refine And.intro ?_ ?_ | (intro hc; exact absurd hc (by decide)) | (intro hc; exfalso; omega) | (intro hc; (first | rw [wrap_small (by omega) (by omega)] at hc | rw [nI_eq] at hc | skip); try (conv => cbv))
    ·subst hkq
     exact no (fun h => nodup_at h.2.2.2.2.1 hx (of_decide_eq_true (by assumption))) [_]
    ·refine norm _ _ (_, _) ?_ (Wk.ca)
     subst hkq
     have hnx : x ∉ arcs.take kq := of_decide_eq_false (by assumption)
     rw [take_succ_get hx]
     refine ⟨by simp only; omega, hln, by omega, ?_, ?_⟩
     ·rw [List.nodup_append]
      exact ⟨hnd, by simp, fun a ha b hb => by simp only [List.mem_singleton] at hb; subst hb; intro e; subst e; exact hnx ha⟩
     ·intro a ha
      rcases List.mem_append.1 ha with ha | ha
      ·exact hrg a ha
      ·simp only [List.mem_singleton] at ha; subst ha; exact hxr
   ·have jn := fun L h => jn L h () (by rw [List.take_of_length_le (by omega)] at hnd hrg; exact ⟨hnd, hrg⟩)
    clear norm
    conv => cbv
    repeat' first | exact gu | exact trivial | refine And.intro ?_ ?_ | (intro hc; exact absurd hc (by decide)) | (intro hc; exfalso; omega) | (intro hc; (first | rw [wrap_small (by omega) (by omega)] at hc | rw [nI_eq] at hc | skip); try (conv => cbv))
    exact jn _ _ (Wk.ca)
  ·rintro - ⟨hnd, hrg⟩
   conv => cbv
   repeat' first | exact gu | exact trivial | refine And.intro ?_ ?_ | (intro hc; exact absurd hc (by decide)) | (intro hc; exfalso; omega) | (intro hc; (first | rw [wrap_small (by omega) (by omega)] at hc | rw [nI_eq] at hc | skip); try (conv => cbv))
   all_goals first | exact yes ⟨by omega, by omega, by omega, by omega, hnd, hrg⟩ [_] | exact no (by omega) [_]
 refine (FnS.cut h1 ?_).mono ?_
 ·rintro r' h' ⟨h2, rfl, rfl⟩
  exact ⟨rfl, rfl⟩
 ·rintro r' h1 ⟨h2, ⟨h3, rfl, e⟩, hl⟩
  exact ⟨rfl, (List.append_inj e hl).1⟩
theorem tyield_own (P : Program) (hP : P = Try.prog) (caps : List Int) (v : Nat) (m : List Rq) (r : Rq) (n0 : Nat) (ro : Bool) (hs : m.length ≤ 1000000) :
  FnS P n_reserve_Table_yielding [.c (.ptr 0 0 0 0), rqO r 2 n0] (rsvO caps v m ro r) fun r' h' => (∃ es, (∃ l', YldL m r.setup l' ∧ es = l'.map encRq) ∧ r' = .c (.d (.list false 5 es))) ∧ h' = rsvO caps v m ro r := by
 refine FnS.frz1 rfl ?_
 have hso : ∀ (l : List Rq) (n : Nat) (es : List (List D)) (rr : Bool) (ve : Nat), l.length ≤ 1000000 → n = l.length → es = l.map encRq →
   FnS P n_slices_SortFunc_reserve_Request_reserve_Request [.c (.arr 0 ve 0 n), .c (.fn false n_reserve_Table_yielding_1 [])] [.da rr ve 5 es] fun r' h' => ∃ es', (r' = .tup [] ∧ ∃ l' : List Rq, l'.Perm l ∧ l'.Pairwise HoldLt ∧ es' = l'.map encRq) ∧ h' = [.da rr ve 5 es'] := by
  rintro l n es rr ve hl rfl rfl
  refine (sortF_fn (hP ▸ sorts_f) (ycmp_lays P hP) l (by omega) rr ve).mono ?_
  rintro r' h' ⟨h1, l', h2, h3, h4⟩
  exact ⟨_, ⟨h1, l', h2, h3, rfl⟩, h4⟩
 refine heap_start (hP ▸ mixed) (hP ▸ fn_reserve_Table_yielding) (hP ▸ c_reserve_Table_yielding) (Nat.le_of_ble_eq_true rfl) fun Λ Λo K hK => ?_
 clear hP
 have k1 : ∀ b2 b3 ve rr n es t2 (l' : List Rq), YldL m r.setup l' → es = l'.map encRq → n = l'.length → K (.c (.arr 5 ve 0 n)) (rsvO caps v m ro r ++ [b2, b3, .da rr ve 5 es] ++ t2) := by
  rintro b2 b3 ve rr n es t2 l' h1 rfl rfl
  refine hK _ _ ⟨5, ve, rr, l'.map encRq, ⟨l', h1, rfl⟩, by rw [List.length_map], rfl, by simp, [b2, b3, .da rr ve 5 (l'.map encRq)] ++ t2, by simp⟩
 clear hK
 obtain ⟨F, hF⟩ : ∃ F : List Rq → List Rq, F = fun l => l.filter fun x => decide (r.setup < x.hold) := ⟨_, rfl⟩
 have hF0 : F [] = [] := by rw [hF]; rfl
 have hFy : ∀ l x, r.setup < x.hold → F (l ++ [x]) = F l ++ [x] := fun l x h => by rw [hF]; simp [List.filter_append, h]
 have hFn : ∀ l x, ¬ r.setup < x.hold → F (l ++ [x]) = F l := fun l x h => by rw [hF]; simp [List.filter_append]; omega
 have hFl : ∀ l, (F l).length ≤ l.length := fun l => by rw [hF]; exact List.length_filter_le _ _
 have k2 : ∀ b2 b3 ve rr n es t2 (dn l' : List Rq), dn.Perm m → l'.Perm (F dn) → l'.Pairwise HoldLt → es = l'.map encRq → n = l'.length → K (.c (.arr 5 ve 0 n)) (rsvO caps v m ro r ++ [b2, b3, .da rr ve 5 es] ++ t2) :=
  fun b2 b3 ve rr n es t2 dn l' h1 h2 h3 h4 h5 => k1 b2 b3 ve rr n es t2 l' ⟨h2.trans (by rw [hF]; exact h1.filter _), h3⟩ h4 h5
 clear hF k1
 obtain ⟨id, arcs, amt, setup, hold⟩ := r
 simp only [rqO, rsvO, intsD, List.cons_append, List.nil_append] at *
 generalize arcs.map encI = al at *
 generalize caps.map encI = cl at *
 generalize mlh : m.map encM = ml at *
 conv => cbv
 repeat' first | exact gu | exact trivial | refine And.intro ?_ ?_ | (intro hc; exact absurd hc (by decide)) | (intro hc; exfalso; omega) | (intro hc; (first | rw [wrap_small (by omega) (by omega)] at hc | rw [nI_eq] at hc | skip); try (conv => cbv))
 refine loop_upx m.length (fun (s : Nat × Bool × Nat × List (List D) × (DV × DV) × List (DV × DV)) => [(3, .c (.ptr 3 0 0 0)), (5, .c (.arr 5 s.1 0 s.2.2.1)), (12, .c (.it 4))])
  (fun s => [.bx [.d (.list false 1 cl), .mp 1], .mp v ml, .da ro 1 1 al, .bx [.d (iD id), .arr 2 1 0 n0, .d (iD amt), .d (iD setup), .d (iD hold)], .mi 1 v (s.2.2.2.2.1 :: s.2.2.2.2.2), .da s.2.1 s.1 5 s.2.2.2.1])
  (fun k s => ∃ dn rs : List Rq, (dn ++ rs).Perm m ∧ s.2.2.2.2.2 = rs.map encM ∧ s.2.2.2.1 = (F dn).map encRq ∧ s.2.2.1 = (F dn).length ∧ dn.length = k) (0, false, 0, [], (.g [], .g []), ml) 0
  (fun (s : Nat × Bool × Nat × List (List D) × Blk) => [(5, .c (.arr 5 s.1 0 s.2.2.1))]) (fun s => [.bx [.d (.list false 1 cl), .mp 1], .mp v ml, .da ro 1 1 al, .bx [.d (iD id), .arr 2 1 0 n0, .d (iD amt), .d (iD setup), .d (iD hold)], s.2.2.2.2, .da s.2.1 s.1 5 s.2.2.2.1])
  (fun s => ∃ dn : List Rq, dn.Perm m ∧ s.2.2.2.1 = (F dn).map encRq ∧ s.2.2.1 = (F dn).length)
  (.trans (.nilS 5 5 rfl) (Wk.ca)) ⟨[], m, by simp, mlh.symm, by rw [hF0]; rfl, by rw [hF0]; rfl, rfl⟩ (fun k s h => by obtain ⟨dn, rs, h1, _, _, _, h2⟩ := h; have := h1.length_eq; simp at this; omega) ?_ ?_
 ·rintro k ⟨ve, rr, n, es, e0, rest⟩ Q' ⟨dn, rs, hpm, hrs, hes, hn, hlen⟩ norm jn ex rt
  simp only at hrs hes hn
  have hml := hpm.length_eq
  rw [List.length_append] at hml
  have hnb : n ≤ 1000000 := by have := hFl dn; omega
  have next : ∀ (j : Nat) (x : Rq) (rest' : List (DV × DV)), rs[j]? = some x → rest' = rest.eraseIdx j → ∃ rs' : List Rq, (dn ++ [x] ++ rs').Perm m ∧ rest' = rs'.map encM ∧ (dn ++ [x]).length = k + 1 := fun j x rest' hx hr => by
   refine ⟨rs.eraseIdx j, ?_, by rw [hr, hrs, map_erase], by simp [hlen]⟩
   rw [List.append_assoc]
   exact ((perm_erase hx).append_left dn).trans hpm
  have lf := fun (e : rest = []) => (show dn.Perm m by
   have : rs = [] := by rw [hrs] at e; simpa using e
   subst this
   rw [List.append_nil] at hpm
   exact hpm)
  obtain ⟨n1, hn1⟩ : ∃ n1, n1 = n + 1 := ⟨_, rfl⟩
  have hel : es.length = n := by rw [hes, hn, List.length_map]
  conv => cbv
  repeat' first | (intro (j : Nat) (kk : DV) (y : DV) (rest' : List (DV × DV)) hj hr'; obtain ⟨⟨xi, xa, xm, xs, xh⟩, hx, e⟩ := map_get' hrs.symm hj; simp only [encM, encRq, intsD, Prod.mk.injEq] at e; obtain ⟨rfl, rfl⟩ := e; have nx := next j _ rest' hx hr'; have hyes := hFy dn ⟨xi, xa, xm, xs, xh⟩; have hno := hFn dn ⟨xi, xa, xm, xs, xh⟩; generalize hxe : xa.map encI = xl at *; obtain ⟨e1, he1⟩ : ∃ e1, e1 = es ++ [[iD xi, .list false 1 xl, iD xm, iD xs, iD xh]] := ⟨_, rfl⟩; (conv => cbv)) | (intro (m : Nat) (r : Bool) (y : List (List D)) hm hr hy; refine (fun (hz : n1 = m) (hz2 : e1 = y) => ?_) (by first | omega | (simp only [List.length_cons, List.length_nil] at hm; omega)) (by first | (rw [hy, List.drop_zero, List.take_of_length_le (by omega)]; exact he1) | (rw [hy]; exact he1)); subst hz; subst hz2; (conv => cbv)) | exact gu | exact trivial | refine And.intro ?_ ?_ | (intro hc; exact absurd hc (by decide)) | (intro hc; exfalso; omega) | (intro hc; (first | rw [wrap_small (by omega) (by omega)] at hc | rw [nI_eq] at hc | skip); try (conv => cbv))
  ·exact jn _ _ (ve, rr, n, es, .mi 1 v (e0 :: rest)) ⟨dn, lf (by assumption), hes, hn⟩ (Wk.ca)
  ·obtain ⟨rs', q1, q2, q3⟩ := nx
   refine norm _ _ (_, _, _, _, _, _) ?_ (Wk.ca)
   have hyes := hyes (by omega)
   exact ⟨_, rs', q1, q2, by simp only; rw [hyes, he1, hes, List.map_append, List.map_singleton, encRq, intsD, hxe], by simp only; rw [hyes]; simp; omega, q3⟩
  ·obtain ⟨rs', q1, q2, q3⟩ := nx
   refine norm _ _ (_, _, _, _, _, _) ?_ (Wk.ca)
   have hno := hno (by omega)
   exact ⟨_, rs', q1, q2, by simp only; rw [hno]; exact hes, by simp only; rw [hno]; exact hn, q3⟩
 ·rintro ⟨ve, rr, n, es, bk⟩ ⟨dn, hpm, hes, hn⟩
  simp only at hes hn
  have hml := hpm.length_eq
  have hfl := hFl dn
  have hsn := hso (F dn) n es rr ve (by omega) hn hes
  conv => cbv
  repeat' first | (refine call_fr [5] hsn rfl rfl (by decide) (by repeat' first | exact trivial | refine And.intro ?_ ?_ | rfl) rfl rfl ?_; rintro r hc' ⟨es', ⟨rfl, l', p1, p2, he'⟩, rfl⟩; (conv => cbv)) | exact gu | exact trivial | refine And.intro ?_ ?_ | (intro hc; exact absurd hc (by decide)) | (intro hc; exfalso; omega) | (intro hc; (first | rw [wrap_small (by omega) (by omega)] at hc | rw [nI_eq] at hc | skip); try (conv => cbv))
  exact k2 _ _ _ _ _ _ [] dn l' hpm p1 p2 he' (by rw [hn]; exact p1.length_eq.symm)
abbrev hanO (caps : List Int) (v : Nat) (m : List Rq) (r : Rq) (n0 : Nat) (ro : Bool) : Hp := [.bx [.d (intsD caps), .mp 1], .mp v (m.map encM), .da ro 1 1 (r.arcs.map encI), .bx [.ptr 0 0 0 0], .bx [.d (iD r.id), .arr 2 1 0 n0, .d (iD r.amt), .d (iD r.setup), .d (iD r.hold)]]
theorem inv_dc {G : Nat → Prop} {w : World} {ι : Io} {h : Hp} {v : Value} {x : D} (hc : CR G w ι h v (.d x)) : DR G w v x := by
 cases hc with
 | d _ _ hd => exact hd
theorem clone_fr (P : Program) (hP : P = Try.prog) (r : Rq) (hl : r.arcs.length ≤ 1000000) (h0 : r.arcs ≠ []) : FrS P n_reserve_clone [rqA r] (rqA r) where
 pure := rfl
 out w vs hv := by
  refine ((clone_own P hP r hl h0).out (below w) [] w vs (HR_nil fun b hb => hb) hv).mono fun e w' ⟨v, r', G', ι', h', he, ⟨n, rr, hn, hr', hh⟩, hr, hvr, hx⟩ => ?_
  subst hr' hh
  have hsame : ∀ b, b < w.heap.size → w'.heap[b]? = w.heap[b]? := fun b hb => hx.frame b hb fun ⟨l, blk, h1, _⟩ => by simp at h1
  have hnew : ∀ b, owned ι' [.da rr 1 1 (r.arcs.map encI)] b → w.heap.size ≤ b := fun b ho => by
   rcases hx.onew b ho with ⟨l, blk, h1, _⟩ | h1
   ·simp at h1
   ·exact h1
  refine ⟨v, he, hx.quiet, hx.size, hsame, ?_⟩
  obtain ⟨cs, rfl, k1, k2⟩ := inv_agg hvr
  have hs : cs.size = 5 := k1
  refine .agg cs _ (by rw [hs]; rfl) fun i u x hu hx => ?_
  match i, hx with
  | 0, hx => cases hx; have := dr_int (inv_dc (k2 0 u _ hu rfl)); rw [this]; exact .d _ _ (.int _ _)
  | 1, hx =>
   cases hx
   have h1 := k2 1 u _ hu rfl
   exact .d _ _ (new_arr hr h1 rfl (by rw [hn]; simp) hnew (fun e he d hd => by
    obtain ⟨z, _, rfl⟩ := List.mem_map.1 he
    simp only [encI, List.mem_singleton] at hd
    subst hd; rfl))
  | 2, hx => cases hx; have := dr_int (inv_dc (k2 2 u _ hu rfl)); rw [this]; exact .d _ _ (.int _ _)
  | 3, hx => cases hx; have := dr_int (inv_dc (k2 3 u _ hu rfl)); rw [this]; exact .d _ _ (.int _ _)
  | 4, hx => cases hx; have := dr_int (inv_dc (k2 4 u _ hu rfl)); rw [this]; exact .d _ _ (.int _ _)
theorem tshort_own (P : Program) (hP : P = Try.prog) (caps : List Int) (v : Nat) (m : List Rq) (r : Rq) (n0 : Nat) (ro : Bool) (hn0 : n0 = r.arcs.length) (a : Int) (hf : FitR caps m r) :
  FnS P n_reserve_Table_Reserve_1 [iA a, .c (.ptr 4 0 0 0), .c (.ptr 3 0 0 0)] (hanO caps v m r n0 ro) fun r' h' => r' = bA (shortP caps m r a) ∧ h' = hanO caps v m r n0 ro := by
 have h1 : FnS P n_reserve_Table_Reserve_1 [iA a, .c (.ptr 4 0 0 0), .c (.ptr 3 0 0 0)] (hanO caps v m r n0 ro) fun r' h' => ∃ h2, r' = bA (shortP caps m r a) ∧ h' = hanO caps v m r n0 ro ++ h2 := by
  have hcon := contains_ok P hP r.arcs a
  have huse := tuse_ok P hP caps v m a hf.sml
  have hbd := sumR_take (p := fun _ => true) (a := a) hf.sml m.length
  rw [List.take_length] at hbd
  refine heap_start (hP ▸ mixed) (hP ▸ fn_reserve_Table_Reserve_1) (hP ▸ c_reserve_Table_Reserve_1) (Nat.le_of_ble_eq_true rfl) fun Λ Λo K hK => ?_
  clear hP
  have leaf : ∀ b h2, b = shortP caps m r a → K (bA b) (hanO caps v m r n0 ro ++ h2) := fun b h2 e => hK _ _ ⟨h2, by rw [e], rfl⟩
  clear hK
  rw [shortP] at leaf
  generalize sumR (fun _ => true) a m = s at *
  by_cases ha : a ∈ r.arcs
  rotate_left
  ·rw [decide_eq_false ha] at hcon leaf
   clear huse
   obtain ⟨id, arcs, amt, setup, hold⟩ := r
   simp only [hanO, intsD, intsA, Bool.false_and] at *
   generalize caps.map encI = cl at *
   generalize alh : arcs.map encI = al at *
   generalize m.map encM = ml at *
   have hvw : List.take n0 (List.drop 0 al) = al := by rw [List.drop_zero, List.take_of_length_le (by rw [← alh, List.length_map, hn0]; exact Nat.le_refl _)]
   rw [← hvw] at hcon
   conv => cbv
   repeat' first | (refine look_b hcon rfl ?_ ?_) | exact gu | exact trivial | refine And.intro ?_ ?_ | (intro hc; exact absurd hc (by decide)) | (intro hc; exfalso; omega) | (intro hc; (first | rw [wrap_small (by omega) (by omega)] at hc | rw [nI_eq] at hc | skip); try (conv => cbv))
   exact leaf _ [] rfl
  have har := hf.arc a ha
  rw [decide_eq_true ha] at hcon leaf
  have hlen := hf.len
  have hcb := hf.cap
  clear hf
  have hq := tdiv2 har.1 (by omega)
  have hlt : (a / 2).toNat < caps.length := by omega
  have hx : caps[(a / 2).toNat]? = some (caps[(a / 2).toNat]) := List.getElem?_eq_getElem hlt
  have hxb := hcb _ (List.mem_of_getElem? hx)
  rw [capAt] at leaf
  generalize caps[(a / 2).toNat] = cx at *
  rw [hx, Option.getD_some] at leaf
  obtain ⟨q, hqe⟩ : ∃ q, a / 2 = q := ⟨_, rfl⟩
  rw [hqe] at hq hx hlt
  have hq0 : 0 ≤ q := by omega
  have hxa : (caps.map encI)[q.toNat]? = some [iD cx] := by rw [List.getElem?_map, hx]; rfl
  obtain ⟨id, arcs, amt, setup, hold⟩ := r
  simp only [hanO, rsvH, intsD, intsA, List.cons_append, List.nil_append, Bool.true_and] at *
  have cln : Λ (caps.map encI) = caps.length := by rw [Λo]; simp
  generalize caps.map encI = cl at *
  generalize alh : arcs.map encI = al at *
  generalize m.map encM = ml at *
  have hvw : List.take n0 (List.drop 0 al) = al := by rw [List.drop_zero, List.take_of_length_le (by rw [← alh, List.length_map, hn0]; exact Nat.le_refl _)]
  rw [← hvw] at hcon
  conv => cbv
  repeat' first | (refine look_b hcon rfl ?_ ?_) | (intro (_ : Unit); decide) | (intro q' hq'; refine (fun (hz : q = q') => ?_) (hq.symm.trans hq'.symm); subst hz; (conv => cbv)) | (intro (e : List D) he; cases Option.some.inj (he.symm.trans hxa); (conv => cbv)) | exact gu | exact trivial | refine And.intro ?_ ?_ | (intro hc; exact absurd hc (by decide)) | (intro hc; exfalso; omega) | (intro hc; (first | rw [wrap_small (by omega) (by omega)] at hc | rw [nI_eq] at hc | skip); try (conv => cbv))
  refine call_ro [0, 1] huse (Nat.succ_pos _) (fun _ => rfl) rfl (by decide) (fun _ => by repeat' first | exact trivial | refine And.intro ?_ ?_ | rfl) rfl rfl (fun _ => rfl) (fun p h1 h2 => ?_) ?_
  ·have q0 : p 0 := h1 (.c (.ptr 0 0 0 0)) (by simp [evsN, evN, lkN])
   have q1 : p 1 := h2 0 _ q0 rfl (.mp 1) (by simp)
   intro l hl
   simp only [List.mem_cons, List.not_mem_nil, or_false] at hl
   rcases hl with rfl | rfl <;> assumption
  conv => cbv
  repeat' first | exact gu | exact trivial | refine And.intro ?_ ?_ | (intro hc; exact absurd hc (by decide)) | (intro hc; exfalso; omega) | (intro hc; (first | rw [wrap_small (by omega) (by omega)] at hc | rw [nI_eq] at hc | skip); try (conv => cbv))
  ·exact leaf _ [] (decide_eq_true (by omega)).symm
  ·exact leaf _ [] (decide_eq_false (by omega)).symm
 refine (FnS.cut h1 ?_).mono ?_
 ·rintro r' h' ⟨h2, rfl, rfl⟩
  exact ⟨rfl, rfl⟩
 ·rintro r' h1 ⟨h2, ⟨h3, rfl, e⟩, hl⟩
  exact ⟨rfl, (List.append_inj e hl).1⟩
theorem tindexf_own (P : Program) (hP : P = Try.prog) (caps : List Int) (v : Nat) (m : List Rq) (r : Rq) (n0 : Nat) (ro : Bool) (hn0 : n0 = r.arcs.length) (l : List Int) (hf : FitR caps m r) (hl : l.length ≤ 1000000) :
  FnS P n_slices_IndexFunc_int_int [intsA l, .c (.fn false n_reserve_Table_Reserve_1 [.ptr 4 0 0 0, .ptr 3 0 0 0])] (hanO caps v m r n0 ro) fun r' h' => (∃ i : Int, r' = iA i ∧ decide (0 ≤ i) = l.any (shortP caps m r)) ∧ h' = hanO caps v m r n0 ro := by
 have hfo : FnOk P n_reserve_Table_Reserve_1 := hP ▸ ⟨_, fn_reserve_Table_Reserve_1, rfl, by decide⟩
 have h1 : FnS P n_slices_IndexFunc_int_int [intsA l, .c (.fn false n_reserve_Table_Reserve_1 [.ptr 4 0 0 0, .ptr 3 0 0 0])] (hanO caps v m r n0 ro) fun r' h' => ∃ h2 i, decide (0 ≤ i) = l.any (shortP caps m r) ∧ r' = iA i ∧ h' = hanO caps v m r n0 ro ++ h2 := by
  have hcl := fun a => tshort_own P hP caps v m r n0 ro hn0 a hf
  refine heap_start (hP ▸ mixed) (hP ▸ fn_slices_IndexFunc_int_int) (hP ▸ c_slices_IndexFunc_int_int) (Nat.le_of_ble_eq_true rfl) fun Λ Λo K hK => ?_
  clear hP hf
  have leaf : ∀ (i : Int) h2, decide (0 ≤ i) = l.any (shortP caps m r) → K (iA i) (hanO caps v m r n0 ro ++ h2) := fun i h2 e => hK _ _ ⟨h2, i, e, rfl, rfl⟩
  clear hK
  generalize shortP caps m r = p at *
  obtain ⟨id, arcs, amt, setup, hold⟩ := r
  simp only [hanO, intsD, intsA, List.cons_append, List.nil_append] at *
  generalize caps.map encI = cl at *
  generalize arcs.map encI = al at *
  generalize m.map encM = ml at *
  generalize llh : List.map encI l = ll at *
  have lln : Λ ll = l.length := by rw [Λo, ← llh]; simp
  conv => cbv
  repeat' first | exact gu | exact trivial | refine And.intro ?_ ?_ | (intro hc; exact absurd hc (by decide)) | (intro hc; exfalso; omega) | (intro hc; (first | rw [wrap_small (by omega) (by omega)] at hc | rw [nI_eq] at hc | skip); try (conv => cbv))
  refine loop_up l.length (fun (i : Int) => [(0, .c (.d (.list false 1 ll))), (1, .c (.fn false 34 [.ptr 4 0 0 0, .ptr 3 0 0 0])), (7, iA (Λ ll)), (8, iA i)])
   (fun _ => [.bx [.d (.list false 1 cl), .mp 1], .mp v ml, .da ro 1 1 al, .bx [.ptr 0 0 0 0], .bx [.d (iD id), .arr 2 1 0 n0, .d (iD amt), .d (iD setup), .d (iD hold)]])
   (fun k i => i = k ∧ k ≤ l.length ∧ ∀ x ∈ l.take k, p x = false) 0 (Wk.ca) ⟨rfl, by omega, by simp⟩ (fun k s h => h.2.1) ?_
  rintro k i Q' ⟨hi, hk, hno⟩ norm ex rt
  by_cases hlt : k < l.length
  ·obtain ⟨x, hx⟩ : ∃ x, l[k]? = some x := ⟨_, List.getElem?_eq_getElem hlt⟩
   have hxa := elt_at llh hi hx
   have hclx := hcl x
   have yes : p x = true → l.any p = true := fun h => List.any_eq_true.2 ⟨x, List.mem_of_getElem? hx, h⟩
   have nxt : p x = false → ∀ y ∈ l.take (k + 1), p y = false := fun h y hy => by
    rw [take_succ_get hx] at hy
    rcases List.mem_append.1 hy with hy | hy
    ·exact hno y hy
    ·simp only [List.mem_singleton] at hy; subst hy; exact h
   generalize p x = b at *
   conv => cbv
   repeat' first | (refine ex _ _ _ ?_; (conv => cbv)) | (refine rt _ _ ?_; (conv => cbv)) | (intro e he; cases Option.some.inj (he.symm.trans hxa); (conv => cbv)) | exact hfo | (refine callv_fr [0, 1, 2, 3, 4] hclx rfl rfl (by decide) (by repeat' first | exact trivial | refine And.intro ?_ ?_ | rfl) rfl rfl ?_; rintro r hc' ⟨rfl, rfl⟩; (conv => cbv)) | exact gu | exact trivial | refine And.intro ?_ ?_ | (intro hc; exact absurd hc (by decide)) | (intro hc; exfalso; omega) | (intro hc; (first | rw [wrap_small (by omega) (by omega)] at hc | rw [nI_eq] at hc | skip); try (conv => cbv))
   cases b with
   | true =>
    repeat' first | (refine ex _ _ _ ?_; (conv => cbv)) | (refine rt _ _ ?_; (conv => cbv)) | exact gu | exact trivial | refine And.intro ?_ ?_ | (intro hc; exact absurd hc (by decide)) | (intro hc; exfalso; omega) | (intro hc; (first | rw [wrap_small (by omega) (by omega)] at hc | rw [nI_eq] at hc | skip); try (conv => cbv))
    refine leaf _ [] ?_
    rw [yes rfl]; exact decide_eq_true (by omega)
   | false =>
    repeat' first | (refine ex _ _ _ ?_; (conv => cbv)) | (refine rt _ _ ?_; (conv => cbv)) | exact gu | exact trivial | refine And.intro ?_ ?_ | (intro hc; exact absurd hc (by decide)) | (intro hc; exfalso; omega) | (intro hc; (first | rw [wrap_small (by omega) (by omega)] at hc | rw [nI_eq] at hc | skip); try (conv => cbv))
    refine norm _ _ _ ?_ (Wk.ca)
    exact ⟨by omega, by omega, nxt rfl⟩
  ·obtain rfl : k = l.length := by omega
   rw [List.take_length] at hno
   conv => cbv
   repeat' first | (refine ex _ _ _ ?_; (conv => cbv)) | (refine rt _ _ ?_; (conv => cbv)) | exact gu | exact trivial | refine And.intro ?_ ?_ | (intro hc; exact absurd hc (by decide)) | (intro hc; exfalso; omega) | (intro hc; (first | rw [wrap_small (by omega) (by omega)] at hc | rw [nI_eq] at hc | skip); try (conv => cbv))
   refine leaf _ [] ?_
   have : l.any p = false := by rw [List.any_eq_false]; intro x hx; rw [hno x hx]; simp
   rw [this]; rfl
 refine (FnS.cut h1 ?_).mono ?_
 ·rintro r' h' ⟨h2, i, _, rfl, rfl⟩
  exact ⟨rfl, rfl⟩
 ·rintro r' h1 ⟨h2, ⟨h3, i, e1, rfl, e⟩, hl⟩
  exact ⟨⟨i, rfl, e1⟩, (List.append_inj e hl).1⟩
theorem tcontf_own (P : Program) (hP : P = Try.prog) (caps : List Int) (v : Nat) (m : List Rq) (r : Rq) (n0 : Nat) (ro : Bool) (hn0 : n0 = r.arcs.length) (l : List Int) (hf : FitR caps m r) (hl : l.length ≤ 1000000) :
  FnS P n_slices_ContainsFunc_int_int [intsA l, .c (.fn false n_reserve_Table_Reserve_1 [.ptr 4 0 0 0, .ptr 3 0 0 0])] (hanO caps v m r n0 ro) fun r' h' => r' = bA (l.any (shortP caps m r)) ∧ h' = hanO caps v m r n0 ro := by
 have hix := tindexf_own P hP caps v m r n0 ro hn0 l hf hl
 refine heap_start (hP ▸ mixed) (hP ▸ fn_slices_ContainsFunc_int_int) (hP ▸ c_slices_ContainsFunc_int_int) (Nat.le_of_ble_eq_true rfl) fun Λ Λo K hK => ?_
 clear hP hf
 have leaf : ∀ b, b = l.any (shortP caps m r) → K (bA b) (hanO caps v m r n0 ro) := fun b e => hK _ _ ⟨by rw [e], rfl⟩
 clear hK
 generalize l.any (shortP caps m r) = t at *
 obtain ⟨id, arcs, amt, setup, hold⟩ := r
 simp only [hanO, intsD, intsA] at *
 generalize caps.map encI = cl at *
 generalize arcs.map encI = al at *
 generalize m.map encM = ml at *
 generalize l.map encI = ll at *
 conv => cbv
 repeat' first | (refine call_fr [0, 1, 2, 3, 4] hix rfl rfl (by decide) (by repeat' first | exact trivial | refine And.intro ?_ ?_ | rfl) rfl rfl ?_; rintro r hc' ⟨⟨i, rfl, hi⟩, rfl⟩; (conv => cbv)) | exact gu | exact trivial | refine And.intro ?_ ?_ | (intro hc; exact absurd hc (by decide)) | (intro hc; exfalso; omega) | (intro hc; (first | rw [wrap_small (by omega) (by omega)] at hc | rw [nI_eq] at hc | skip); try (conv => cbv))
 ·exact leaf _ (by rw [← hi]; exact (decide_eq_true (by omega)).symm)
 ·exact leaf _ (by rw [← hi]; exact (decide_eq_false (by omega)).symm)
end Go.Ab

/-
  Reservations, part tb: the program's Reserve of a request whose arcs are its owner's.
-/
namespace Go.Ab
open Go.Proofs
theorem tres_own (P : Program) (hP : P = Try.prog) (caps : List Int) (v : Nat) (m : List Rq) (r : Rq) (n0 : Nat) (ro : Bool) (hn0 : n0 = r.arcs.length) (hs : Sml m) (hid : Ids m) (hla : ∀ x ∈ m, x.arcs.length ≤ 1000000) (hr : r.arcs.length ≤ 1000000) (hc : caps.length ≤ 1000) (hcb : ∀ c ∈ caps, 0 ≤ c ∧ c ≤ 1048576) :
  FnS P n_reserve_Table_Reserve [.c (.ptr 0 0 0 0), rqO r 2 n0] (rsvO caps v m ro r) fun r' h' => ∃ es x, (∃ m' out e v', ResP caps m r m' out e ∧ es = out.map encI ∧ x = iA e ∧ h' = rsvO caps v' m' ro r) ∧ r' = .tup [.c (.d (.list false 1 es)), x] := by
 refine FnS.frz2 (Q := fun es x h' => ∃ m' out e v', ResP caps m r m' out e ∧ es = out.map encI ∧ x = iA e ∧ h' = rsvO caps v' m' ro r) ?_ ?_
 ·rintro es x h' ⟨m', out, e, v', _, rfl, rfl, rfl⟩
  exact ⟨rfl, rfl, rfl, rfl⟩
 have hpr := tproper_own P hP caps v m r n0 ro hn0 hc
 refine heap_start (hP ▸ mixed) (hP ▸ fn_reserve_Table_Reserve) (hP ▸ c_reserve_Table_Reserve) (Nat.le_of_ble_eq_true rfl) fun Λ Λo K hK => ?_
 have fail : ∀ e h2, ResP caps m r m [] e → K (.tup [.c (.d (.list true 1 [])), iA e]) (rsvO caps v m ro r ++ h2) := fun e h2 h =>
  hK _ _ ⟨[], iA e, rsvO caps v m ro r, ⟨m, [], e, v, h, rfl, rfl, rfl⟩, .inr ⟨rfl, rfl, h2, rfl⟩⟩
 by_cases hp : PropN (2 * caps.length) r
 rotate_left
 ·have k0 := fun h2 => fail 1 h2 (by rw [ResP, if_pos hp]; exact ⟨rfl, rfl, rfl⟩)
  clear hK fail hP
  rw [decide_eq_false hp] at hpr
  obtain ⟨id, arcs, amt, setup, hold⟩ := r
  simp only [rqO, rsvO, rsvH, intsD, List.cons_append, List.nil_append] at *
  generalize caps.map encI = cl at *
  generalize arcs.map encI = al at *
  generalize m.map encM = ml at *
  conv => cbv
  repeat' first | (refine call_fr [0, 1, 2] hpr rfl rfl (by decide) (by repeat' first | exact trivial | refine And.intro ?_ ?_ | rfl) rfl rfl ?_; rintro r hc' ⟨rfl, rfl⟩; (conv => cbv)) | exact gu | exact trivial | refine And.intro ?_ ?_ | (intro hc; exact absurd hc (by decide)) | (intro hc; exfalso; omega) | (intro hc; (first | rw [wrap_small (by omega) (by omega)] at hc | rw [nI_eq] at hc | skip); try (conv => cbv))
  exact k0 _
 rw [decide_eq_true hp] at hpr
 have hcl := clone_fr P hP r hr (fun h => by have := hp.1.1; rw [h] at this; simp at this)
 have hroom := fun a => troom_ok P hP caps v m a r.setup hs hc hcb
 have hyl := tyield_own P hP caps v m r n0 ro (by have := hs.2; omega)
 have harc : ∀ a ∈ r.arcs, 0 ≤ a ∧ a < 2 * (caps.length : Int) := hp.2.2.2.2.2
 have hcon := fun (out : List Int) (v' : Nat) (l : List Int) (hl : l.length ≤ 1000000) => tcontf_own P hP caps v' (leftR m out) r n0 ro hn0 l ⟨hs.left out, hc, hcb, harc, hr⟩ hl
 have k1 : r.id ∈ m.map (·.id) → ∀ h2, K (.tup [.c (.d (.list true 1 [])), iA 9]) (rsvO caps v m ro r ++ h2) := fun h h2 => fail 9 h2 (by rw [ResP, if_neg (not_not_intro hp), if_pos h]; exact ⟨rfl, rfl, rfl⟩)
 have k2 : r.id ∉ m.map (·.id) → ∀ a ∈ r.arcs, roomP caps m a r.setup < r.amt → ∀ h2, K (.tup [.c (.d (.list true 1 [])), iA 12]) (rsvO caps v m ro r ++ h2) := fun h a ha hra h2 => fail 12 h2 (by
  rw [ResP, if_neg (not_not_intro hp), if_neg h, if_pos (List.any_eq_true.2 ⟨a, ha, decide_eq_true hra⟩)]; exact ⟨rfl, rfl, rfl⟩)
 have k3 : r.id ∉ m.map (·.id) → (∀ a ∈ r.arcs, ¬ roomP caps m a r.setup < r.amt) → ∀ l, YldL m r.setup l → ∀ v' ve rr n es b2 b3 h2 ml out, out = l.foldl (stepP caps m r) [] → n = out.length → es = out.map encI → ml = (leftR m out ++ [r]).map encM →
   K (.tup [.c (.arr 5 ve 0 n), iA 0]) ([.bx [.d (intsD caps), .mp 1], .mp v' ml, .da ro 1 1 (r.arcs.map encI), b2, b3, .da rr ve 1 es] ++ h2) := by
  rintro h hno l hl v' ve rr n es b2 b3 h2 ml out hout rfl rfl rfl
  refine hK _ _ ⟨out.map encI, iA 0, rsvO caps v' (leftR m out ++ [r]) ro r, ⟨_, out, 0, v', ?_, rfl, rfl, rfl⟩, .inl ⟨5, ve, rr, [b2, b3, .da rr ve 1 (out.map encI)] ++ h2, by rw [List.length_map], by simp, rfl, by simp⟩⟩
  rw [ResP, if_neg (not_not_intro hp), if_neg h, if_neg (fun h => by obtain ⟨a, ha, hb⟩ := List.any_eq_true.1 h; exact hno a ha (of_decide_eq_true hb))]
  exact ⟨l, hl, hout, rfl, rfl⟩
 clear hK fail hP
 obtain ⟨st, hste⟩ : ∃ st, st = stepP caps m r := ⟨_, rfl⟩
 have hst : ∀ out x, st out x = if x.arcs.any (shortP caps (leftR m out) r) then out ++ [x.id] else out := fun out x => by rw [hste]; rfl
 rw [← hste] at k3
 clear hste
 generalize roomP caps m = rp at *
 obtain ⟨id, arcs, amt, setup, hold⟩ := r
 simp only [rqA, rqO, rsvO, rsvH, hanO, intsA, intsD, List.cons_append, List.nil_append] at *
 generalize caps.map encI = cl at *
 generalize alh : List.map encI arcs = al at *
 have aln : Λ al = arcs.length := by rw [Λo, ← alh]; simp
 have all : al.length = n0 := by rw [hn0, ← alh, List.length_map]
 have hvw : List.take n0 (List.drop 0 al) = al := by rw [List.drop_zero, List.take_of_length_le (by omega)]
 generalize mlh : m.map encM = ml at *
 conv => cbv
 repeat' first | (refine call_fr [0, 1, 2] hpr rfl rfl (by decide) (by repeat' first | exact trivial | refine And.intro ?_ ?_ | rfl) rfl rfl ?_; rintro r hc' ⟨rfl, rfl⟩; (conv => cbv)) | (refine vlkM mlh (fun h0 => ?_) (fun i x hx => ?_); (conv => cbv); rotate_left; obtain ⟨xi, xa, xm, xs, xh⟩ := x; simp only [encRq, intsD, avDV]; generalize xa.map encI = xl; (conv => cbv)) | exact gu | exact trivial | refine And.intro ?_ ?_ | (intro hc; exact absurd hc (by decide)) | (intro hc; exfalso; omega) | (intro hc; (first | rw [wrap_small (by omega) (by omega)] at hc | rw [nI_eq] at hc | skip); try (conv => cbv))
 ·exact k1 hx.idx.1 _
 have hnd := h0
 clear k1 hpr
 refine loop_upx arcs.length (fun (z : Int × Int) => [(2, .c (.ptr 3 0 0 0)), (3, .c (.ptr 4 0 0 0)), (32, .c (.arr 2 1 0 n0)), (33, iA z.2), (34, iA z.1)])
  (fun _ => [.bx [.d (.list false 1 cl), .mp 1], .mp v ml, .da ro 1 1 al, .bx [.ptr 0 0 0 0], .bx [.d (iD id), .arr 2 1 0 n0, .d (iD amt), .d (iD setup), .d (iD hold)]])
  (fun k z => z.1 = k ∧ z.2 = arcs.length ∧ k ≤ arcs.length ∧ ∀ a ∈ arcs.take k, ¬ rp a setup < amt) (0, _) 0
  (fun (_ : Unit) => [(2, .c (.ptr 3 0 0 0)), (3, .c (.ptr 4 0 0 0))]) (fun _ => [.bx [.d (.list false 1 cl), .mp 1], .mp v ml, .da ro 1 1 al, .bx [.ptr 0 0 0 0], .bx [.d (iD id), .arr 2 1 0 n0, .d (iD amt), .d (iD setup), .d (iD hold)]]) (fun _ => ∀ a ∈ arcs, ¬ rp a setup < amt)
  (Wk.ca) ⟨rfl, by simp only; omega, by omega, by simp⟩ (fun k s h => h.2.2.1) ?_ ?_
 ·rintro k ⟨i, ln⟩ Q' ⟨hi, hln, hk, hno⟩ norm jn ex rt
  simp only at hi hln
  by_cases hlt : k < arcs.length
  ·clear jn
   obtain ⟨x, hx⟩ : ∃ x, arcs[k]? = some x := ⟨_, List.getElem?_eq_getElem hlt⟩
   obtain ⟨kq, hkq⟩ : ∃ kq, kq = k := ⟨_, rfl⟩
   have hxa : al[kq]? = some [iD x] := by rw [hkq, ← alh, List.getElem?_map, hx]; rfl
   have hrx := hroom x
   have k2x := k2 hnd x (List.mem_of_getElem? hx)
   have nxt : ¬ rp x setup < amt → ∀ y ∈ arcs.take (k + 1), ¬ rp y setup < amt := fun h y hy => by
    rw [take_succ_get hx] at hy
    rcases List.mem_append.1 hy with hy | hy
    ·exact hno y hy
    ·simp only [List.mem_singleton] at hy; subst hy; exact h
   generalize rp x setup = b at *
   conv => cbv
   repeat' first | (refine ex _ _ _ ?_; (conv => cbv)) | (refine rt _ _ ?_; (conv => cbv)) | (intro (k : Nat) hk; refine (fun (hz : kq = k) => ?_) ?_; rotate_left; omega; subst hz; (conv => cbv)) | (intro e he; cases Option.some.inj (he.symm.trans hxa); (conv => cbv)) | exact gu | exact trivial | refine And.intro ?_ ?_ | (intro hc; exact absurd hc (by decide)) | (intro hc; exfalso; omega) | (intro hc; (first | rw [wrap_small (by omega) (by omega)] at hc | rw [nI_eq] at hc | skip); try (conv => cbv))
   refine call_ro [0, 1] hrx (Nat.succ_pos _) (fun _ => rfl) rfl (by decide) (fun _ => by repeat' first | exact trivial | refine And.intro ?_ ?_ | rfl) rfl rfl (fun _ => rfl) (fun p h1 h2 => ?_) ?_
   ·have q0 : p 0 := h1 (.c (.ptr 0 0 0 0)) (by simp [evsN, evN, lkN])
    have q1 : p 1 := h2 0 _ q0 rfl (.mp 1) (by simp)
    intro l hl
    simp only [List.mem_cons, List.not_mem_nil, or_false] at hl
    rcases hl with rfl | rfl <;> assumption
   conv => cbv
   repeat' first | (refine ex _ _ _ ?_; (conv => cbv)) | (refine rt _ _ ?_; (conv => cbv)) | exact gu | exact trivial | refine And.intro ?_ ?_ | (intro hc; exact absurd hc (by decide)) | (intro hc; exfalso; omega) | (intro hc; (first | rw [wrap_small (by omega) (by omega)] at hc | rw [nI_eq] at hc | skip); try (conv => cbv))
   ·exact k2x (by omega) _
   ·refine norm _ _ (_, _) ?_ (Wk.ca)
    exact ⟨by simp only; omega, hln, by omega, nxt (by omega)⟩
  ·obtain rfl : k = arcs.length := by omega
   rw [List.take_length] at hno
   clear norm
   conv => cbv
   repeat' first | exact gu | exact trivial | refine And.intro ?_ ?_ | (intro hc; exact absurd hc (by decide)) | (intro hc; exfalso; omega) | (intro hc; (first | rw [wrap_small (by omega) (by omega)] at hc | rw [nI_eq] at hc | skip); try (conv => cbv))
   exact jn _ _ () hno (Wk.ca)
 rintro - hno
 have k3 := k3 hnd hno
 clear k2 hroom
 conv => cbv
 repeat' first | (refine call_fr [0, 1, 2] hyl rfl rfl (by decide) (by repeat' first | exact trivial | refine And.intro ?_ ?_ | rfl) rfl rfl ?_; rintro r hc' ⟨⟨ll, ⟨l, hyd, hle⟩, rfl⟩, rfl⟩; (conv => cbv)) | exact gu | exact trivial | refine And.intro ?_ ?_ | (intro hc; exact absurd hc (by decide)) | (intro hc; exfalso; omega) | (intro hc; (first | rw [wrap_small (by omega) (by omega)] at hc | rw [nI_eq] at hc | skip); try (conv => cbv))
 have llh : l.map encRq = ll := hle.symm
 have lln : Λ ll = l.length := by rw [Λo, ← llh]; simp
 have hlm : ∀ x ∈ l, x ∈ m := fun x hx => (List.mem_filter.1 (hyd.1.mem_iff.1 hx)).1
 have hll : l.length ≤ 100000 := by
  have h1 := hyd.1.length_eq
  have h2 := List.length_filter_le (fun x : Rq => decide (setup < x.hold)) m
  have h3 := hs.2
  omega
 have hli : Ids l := by
  have h1 : (m.map fun x : Rq => x.id).Nodup := hid
  have h2 : ((m.filter fun x : Rq => decide (setup < x.hold)).map fun x : Rq => x.id).Nodup := List.Nodup.sublist (List.Sublist.map _ List.filter_sublist) h1
  exact (hyd.1.map fun x : Rq => x.id).nodup_iff.2 h2
 have k3 := k3 l hyd
 clear hyl hyd
 refine loop_up l.length (fun (s : Int × Nat × Bool × Nat × List (List D) × Nat × List (DV × DV)) => [(2, .c (.ptr 3 0 0 0)), (3, .c (.ptr 4 0 0 0)), (10, .c (.arr 5 s.2.1 0 s.2.2.2.1)), (49, .c (.d (.list false 5 ll))), (50, iA (Λ ll)), (51, iA s.1)])
  (fun s => [.bx [.d (.list false 1 cl), .mp 1], .mp s.2.2.2.2.2.1 s.2.2.2.2.2.2, .da ro 1 1 al, .bx [.ptr 0 0 0 0], .bx [.d (iD id), .arr 2 1 0 n0, .d (iD amt), .d (iD setup), .d (iD hold)], .da s.2.2.1 s.2.1 1 s.2.2.2.2.1])
  (fun k s => ∃ out : List Int, s.1 = k ∧ k ≤ l.length ∧ out = (l.take k).foldl st [] ∧ (leftR m out).map encM = s.2.2.2.2.2.2 ∧ s.2.2.2.2.1 = out.map encI ∧ s.2.2.2.1 = out.length ∧ out.length ≤ k ∧ ∀ j ∈ out, ∃ y ∈ l.take k, y.id = j) (0, 0, false, 0, [], v, ml)
  (.trans (.nilS 10 1 rfl) (Wk.ca)) ⟨[], rfl, by omega, rfl, by rw [← mlh, leftR, List.filter_eq_self.2 (by simp)], rfl, rfl, by simp, by simp⟩ (fun k s h => h.choose_spec.2.1) ?_
 rintro k ⟨i, ve, rr, n, es, v', ml'⟩ Q' ⟨out, hi, hk, hout, hml, hes, hn, hol, hof⟩ norm ex rt
 simp only at hi hml hes hn
 by_cases hlt : k < l.length
 ·clear k3 hcl
  have hmem := fun x (hx : l[k]? = some x) => (mem_left (out := out) (hlm x (List.mem_of_getElem? hx)) fun h => by
   obtain ⟨y, hy, e⟩ := hof _ h
   exact hli.at hx hy e)
  have hstk := fun x (hx : l[k]? = some x) => (show (l.take (k + 1)).foldl st [] = st out x by rw [take_succ_get hx, List.foldl_append, ← hout]; rfl)
  have hxl := fun x (hx : l[k]? = some x) => hla x (hlm x (List.mem_of_getElem? hx))
  have hti := fun x (hx : l[k]? = some x) => take_succ_get hx
  have hcx := fun x (hx : l[k]? = some x) => hcon out v' x.arcs (hxl x hx)
  clear hcon hxl
  obtain ⟨⟨xi, xa, xm, xs, xh⟩, hx⟩ : ∃ x, l[k]? = some x := ⟨_, List.getElem?_eq_getElem hlt⟩
  have hxa := elt_at llh hi hx
  simp only [encRq, intsD] at hxa
  generalize hxe : xa.map encI = xl at *
 
  have hmx := hmem _ hx
  have hsx := hstk _ hx
  have htx := hti _ hx
  have hcx := hcx _ hx
  rw [hst] at hsx
  simp only [hxe, hml] at hcx hsx hmx
  clear hmem hstk hti hst
  generalize xa.any (shortP caps (leftR m out) ⟨id, arcs, amt, setup, hold⟩) = b at *
  obtain ⟨n1, hn1⟩ : ∃ n1, n1 = n + 1 := ⟨_, rfl⟩
  obtain ⟨e1, he1⟩ : ∃ e1, e1 = es ++ [[iD xi]] := ⟨_, rfl⟩
  have hel : es.length = n := by rw [hes, hn, List.length_map]
  conv => cbv
  repeat' first | (refine ex _ _ _ ?_; (conv => cbv)) | (refine rt _ _ ?_; (conv => cbv)) | (intro e he; cases Option.some.inj (he.symm.trans hxa); (conv => cbv)) | (refine call_fr [0, 1, 2, 3, 4] hcx rfl rfl (by decide) (by repeat' first | exact trivial | refine And.intro ?_ ?_ | rfl) rfl rfl ?_; rintro r hc' ⟨rfl, rfl⟩; (conv => cbv)) | exact gu | exact trivial | refine And.intro ?_ ?_ | (intro hc; exact absurd hc (by decide)) | (intro hc; exfalso; omega) | (intro hc; (first | rw [wrap_small (by omega) (by omega)] at hc | rw [nI_eq] at hc | skip); try (conv => cbv))
  cases b with
  | true =>
   repeat' first | (refine ex _ _ _ ?_; (conv => cbv)) | (refine rt _ _ ?_; (conv => cbv)) | (refine vdelM hml (fun h0 => absurd hmx h0) (fun i2 x2 hx2 es' he => ?_); (conv => cbv)) | (intro (m : Nat) (r : Bool) (y : List (List D)) hm hr hy; refine (fun (hz : n1 = m) (hz2 : e1 = y) => ?_) (by first | omega | (simp only [List.length_cons, List.length_nil] at hm; omega)) (by first | (rw [hy, List.drop_zero, List.take_of_length_le (by omega)]; exact he1) | (rw [hy]; exact he1)); subst hz; subst hz2; (conv => cbv)) | exact gu | exact trivial | refine And.intro ?_ ?_ | (intro hc; exact absurd hc (by decide)) | (intro hc; exfalso; omega) | (intro hc; (first | rw [wrap_small (by omega) (by omega)] at hc | rw [nI_eq] at hc | skip); try (conv => cbv))
   refine norm _ _ (_, _, _, _, _, _, _) ?_ (Wk.ca)
   rw [if_pos rfl] at hsx
   have hei := erase_left hid out xi
   rw [hx2.idx.2] at hei
   exact ⟨out ++ [xi], by simp only; omega, by omega, hsx.symm, by simp only; rw [he, hei], by simp only; rw [he1, hes]; simp [encI], by simp only; rw [hn1, hn]; simp, by simp; omega, fun j hj => by
    rw [htx]
    rcases List.mem_append.1 hj with hj | hj
    ·obtain ⟨y, hy, e⟩ := hof j hj; exact ⟨y, List.mem_append_left _ hy, e⟩
    ·simp only [List.mem_singleton] at hj; exact ⟨_, List.mem_append_right _ (List.mem_singleton.2 rfl), hj.symm⟩⟩
  | false =>
   repeat' first | (refine ex _ _ _ ?_; (conv => cbv)) | (refine rt _ _ ?_; (conv => cbv)) | exact gu | exact trivial | refine And.intro ?_ ?_ | (intro hc; exact absurd hc (by decide)) | (intro hc; exfalso; omega) | (intro hc; (first | rw [wrap_small (by omega) (by omega)] at hc | rw [nI_eq] at hc | skip); try (conv => cbv))
   refine norm _ _ (_, _, _, _, _, _, _) ?_ (Wk.ca)
   rw [if_neg (by simp)] at hsx
   exact ⟨out, by simp only; omega, by omega, hsx.symm, hml, hes, hn, by omega, fun j hj => by obtain ⟨y, hy, e⟩ := hof j hj; exact ⟨y, by rw [htx]; exact List.mem_append_left _ hy, e⟩⟩
 ·obtain rfl : k = l.length := by omega
  rw [List.take_length] at hout
  clear norm hcon hst
  have hnl : id ∉ (leftR m out).map (·.id) := fun h => by
   obtain ⟨y, hy, e⟩ := List.mem_map.1 h
   exact hnd (List.mem_map.2 ⟨y, (List.mem_filter.1 hy).1, e⟩)
  have hml2 : ∀ es', es' = ml' ++ [(.s (.int .i64 id), .g [iD id, .list false 1 al, iD amt, iD setup, iD hold])] → es' = (leftR m out ++ [(⟨id, arcs, amt, setup, hold⟩ : Rq)]).map encM := fun es' h => by
   rw [h, List.map_append, hml, List.map_singleton, encM, encRq, intsD, alh]
  have hcl : FrS P n_reserve_clone [.agg [.d (iD id), .d (.list false 1 (List.take n0 (List.drop 0 al))), .d (iD amt), .d (iD setup), .d (iD hold)]] (.agg [.d (iD id), .d (.list false 1 al), .d (iD amt), .d (iD setup), .d (iD hold)]) := by rw [hvw]; exact hcl
  conv => cbv
  repeat' first | (refine ex _ _ _ ?_; (conv => cbv)) | (refine rt _ _ ?_; (conv => cbv)) | (refine CallS.pure (.inr ⟨_, rfl, .inr hcl⟩) ?_; (conv => cbv)) | (refine vupM hml hnl (fun es' he => ?_); (conv => cbv)) | exact gu | exact trivial | refine And.intro ?_ ?_ | (intro hc; exact absurd hc (by decide)) | (intro hc; exfalso; omega) | (intro hc; (first | rw [wrap_small (by omega) (by omega)] at hc | rw [nI_eq] at hc | skip); try (conv => cbv))
  exact k3 _ _ _ _ _ _ _ [] _ out hout hn hes (hml2 _ he)
end Go.Ab

/-
  Reservations, part tc: the law Copies.
-/
namespace Go.Ab
open Go.Proofs
theorem tget_own (P : Program) (hP : P = Try.prog) (caps : List Int) (v : Nat) (m : List Rq) (x : Rq) (i : Nat) (hx : AtId m x.id i x) (hl : x.arcs.length ≤ 1000000) (h0 : x.arcs ≠ []) :
  FnS P n_reserve_Table_Get [.c (.ptr 0 0 0 0), iA x.id] (rsvH caps v m) fun r' h' => ∃ (n : Nat) (rr : Bool), n = x.arcs.length ∧ r' = .tup [rqO x 2 n, bA true] ∧ h' = rsvO caps v m rr x := by
 have h1 : FnS P n_reserve_Table_Get [.c (.ptr 0 0 0 0), iA x.id] (rsvH caps v m) fun r' h' => ∃ (n : Nat) (rr : Bool) (b2 b3 : Blk) (h2 : Hp), n = x.arcs.length ∧ r' = .tup [rqO x 4 n, bA true] ∧ h' = rsvH caps v m ++ [b2, b3, .da rr 1 1 (x.arcs.map encI)] ++ h2 := by
  have hcl := clone_own P hP x hl h0
  refine heap_start (hP ▸ mixed) (hP ▸ fn_reserve_Table_Get) (hP ▸ c_reserve_Table_Get) (Nat.le_of_ble_eq_true rfl) fun Λ Λo K hK => ?_
  clear hP
  have k1 : ∀ n rr b2 b3 h2, n = x.arcs.length → K (.tup [rqO x 4 n, bA true]) (rsvH caps v m ++ [b2, b3, .da rr 1 1 (x.arcs.map encI)] ++ h2) := fun n rr b2 b3 h2 h => hK _ _ ⟨n, rr, b2, b3, h2, h, rfl, rfl⟩
  clear hK
  have huq : ∀ i2 x2, AtId m x.id i2 x2 → x2 = x := fun i2 x2 h => by
   have e1 := hx.idx.2
   rw [h.idx.2] at e1
   subst e1
   exact Option.some.inj (h.1.symm.trans hx.1)
  have hin := hx.idx.1
  clear hx
  obtain ⟨xi, xa, xm, xs, xh⟩ := x
  simp only [rsvH, rqA, rqO, intsD, List.cons_append, List.nil_append] at *
  generalize caps.map encI = cl at *
  generalize hxe : xa.map encI = xl at *
  generalize mlh : m.map encM = ml at *
  conv => cbv
  repeat' first | (refine vlkM mlh (fun h0 => absurd hin h0) (fun i x hx => ?_); obtain rfl := huq i x hx; simp only [encRq, intsD, avDV, hxe]; (conv => cbv)) | (refine call_fr [] hcl rfl rfl (by decide) (by repeat' first | exact trivial | refine And.intro ?_ ?_ | rfl) rfl rfl ?_; rintro r hc' ⟨n, rr, hn, rfl, rfl⟩; (conv => cbv)) | exact gu | exact trivial | refine And.intro ?_ ?_ | (intro hc; exact absurd hc (by decide)) | (intro hc; exfalso; omega) | (intro hc; (first | rw [wrap_small (by omega) (by omega)] at hc | rw [nI_eq] at hc | skip); try (conv => cbv))
  exact k1 _ _ _ _ [] hn
 refine FnS.gct h1 _ fun r' h' hR => ?_
 obtain ⟨n, rr, b2, b3, h2, hn, rfl, rfl⟩ := hR
 exact ⟨[0, 1, 4], .tup [rqO x 2 n, bA true], rsvO caps v m rr x, ⟨n, rr, hn, rfl, rfl⟩, rfl, by decide, fun l hl => by simp at hl ⊢; omega,
   fun i k hk => by (match i, hk with | 0, hk => cases Option.some.inj hk; rfl | 1, hk => cases Option.some.inj hk; rfl | 2, hk => cases Option.some.inj hk; rfl), rfl, rfl, rfl, by simp, fun i hi => by (match i, hi with | 0, _ => rfl | 1, _ => rfl), fun k hk => by simp at hk; rcases hk with rfl | rfl | rfl <;> intro _ _ _ h <;> cases h⟩
theorem at_of {m : List Rq} (hd : Ids m) {x : Rq} (hx : x ∈ m) : ∃ i, AtId m x.id i x := by
 obtain ⟨i, hi⟩ := List.getElem?_of_mem hx
 exact ⟨i, hi, rfl, fun h => by
  obtain ⟨y, hy, e⟩ := List.mem_map.1 h
  exact hd.at hi hy e⟩
theorem copies_law (P : Program) (hP : P = Try.prog) (t : Top) (s : List Stp) (s2 : Stp) (hr : ∀ x ∈ s, -9223372036854775808 ≤ x.r.id ∧ x.r.id ≤ 9223372036854775807) (hr2 : -9223372036854775808 ≤ s2.r.id ∧ s2.r.id ≤ 9223372036854775807) :
  Ret P n_law47_ReserveCopies [topA t, .c (.d (stpsD s)), stpA s2] (bA true) := by
 have haw := awake_ok P hP
 have hsm := small_ok P hP t
 have hfw := few_ok47 P hP s
 by_cases h1 : (decide (t.links.length ≤ 10) && validT t) = true
 rotate_left
 ·rw [Bool.not_eq_true] at h1
  rw [h1] at hsm
  clear hfw
  refine ret_start (hP ▸ mixed) (hP ▸ fn_law47_ReserveCopies) (hP ▸ c_law47_ReserveCopies) (Nat.le_of_ble_eq_true rfl) fun Λ Λo K hK => ?_
  clear hP
  obtain ⟨rel, id, arcs, amt, setup, hold⟩ := s2
  simp only [topA, rqA, stpA, boolsD, linksD, stpsD, intsD] at *
  generalize t.ov.map encB = ol at *
  generalize t.links.map encLk = ll at *
  generalize s.map encStp = sl at *
  generalize alh : List.map encI arcs = al at *
  have aln : Λ al = arcs.length := by rw [Λo, ← alh]; simp
  conv => cbv
  repeat' first | refine call_b haw rfl rfl ?_ ?_ | refine call_b hsm rfl rfl ?_ ?_ | exact gu | exact trivial | refine And.intro ?_ ?_ | (intro hc; exact absurd hc (by decide)) | (intro hc; exfalso; omega) | (intro hc; (first | rw [wrap_small (by omega) (by omega)] at hc | rw [nI_eq] at hc | skip); try (conv => cbv))
  all_goals first | exact hK | (exfalso; omega)
 rw [h1] at hsm
 by_cases hf : fewR s = true
 rotate_left
 ·rw [Bool.not_eq_true] at hf
  rw [hf] at hfw
  refine ret_start (hP ▸ mixed) (hP ▸ fn_law47_ReserveCopies) (hP ▸ c_law47_ReserveCopies) (Nat.le_of_ble_eq_true rfl) fun Λ Λo K hK => ?_
  clear hP
  obtain ⟨rel, id, arcs, amt, setup, hold⟩ := s2
  simp only [topA, rqA, stpA, boolsD, linksD, stpsD, intsD] at *
  generalize t.ov.map encB = ol at *
  generalize t.links.map encLk = ll at *
  generalize s.map encStp = sl at *
  generalize alh : List.map encI arcs = al at *
  have aln : Λ al = arcs.length := by rw [Λo, ← alh]; simp
  conv => cbv
  repeat' first | refine call_b haw rfl rfl ?_ ?_ | refine call_b hsm rfl rfl ?_ ?_ | refine call_b hfw rfl rfl ?_ ?_ | exact gu | exact trivial | refine And.intro ?_ ?_ | (intro hc; exact absurd hc (by decide)) | (intro hc; exfalso; omega) | (intro hc; (first | rw [wrap_small (by omega) (by omega)] at hc | rw [nI_eq] at hc | skip); try (conv => cbv))
  all_goals first | exact hK | (exfalso; omega)
 rw [hf] at hfw
 by_cases hr70 : s2.r.arcs.length ≤ 70
 rotate_left
 ·
  refine ret_start (hP ▸ mixed) (hP ▸ fn_law47_ReserveCopies) (hP ▸ c_law47_ReserveCopies) (Nat.le_of_ble_eq_true rfl) fun Λ Λo K hK => ?_
  clear hP
  obtain ⟨rel, id, arcs, amt, setup, hold⟩ := s2
  simp only at hr70
  simp only [topA, rqA, stpA, boolsD, linksD, stpsD, intsD] at *
  generalize t.ov.map encB = ol at *
  generalize t.links.map encLk = ll at *
  generalize s.map encStp = sl at *
  generalize alh : List.map encI arcs = al at *
  have aln : Λ al = arcs.length := by rw [Λo, ← alh]; simp
  conv => cbv
  repeat' first | refine call_b haw rfl rfl ?_ ?_ | refine call_b hsm rfl rfl ?_ ?_ | refine call_b hfw rfl rfl ?_ ?_ | exact gu | exact trivial | refine And.intro ?_ ?_ | (intro hc; exact absurd hc (by decide)) | (intro hc; exfalso; omega) | (intro hc; (first | rw [wrap_small (by omega) (by omega)] at hc | rw [nI_eq] at hc | skip); try (conv => cbv))
  all_goals first | exact hK | (exfalso; omega)
 have hv : validT t = true := (Bool.and_eq_true_iff.1 h1).2
 have hbu := build_ok47 P hP t s hv hf
 have hle : (runS t [] s).length ≤ 25 := by have h1 := run_len t s []; have h2 := (few_spec.1 hf).2; simp at h1; omega
 have hti : TbI t (runS t [] s) := TbI.run hv s (TbI.nil t) (by have := (few_spec.1 hf).2; simp; omega)
 have hrg := run_rng (t := t) hr
 generalize runS t [] s = l at *
 have hti2 := hti.step hv s2 (by omega)
 have hrg2 : Rng (stepS t l s2) := fun x hx => by
  rcases mem_step hx with h | h
  ·exact hrg x h
  ·rw [h]; exact hr2
 have hsx := fun (v : Nat) (m : List Rq) (hp : m.Perm l) => same_ok47 P hP v hv hp hti hrg
 have hsz := fun (v : Nat) (m : List Rq) (hp : m.Perm (stepS t l s2)) => same_ok47 P hP v hv hp hti2 hrg2
 obtain ⟨c1, c2⟩ := capsT_le hv
 have hdm : ∀ m : List Rq, m.Perm l → Ids m := fun m hp => (hp.map fun x : Rq => x.id).nodup_iff.2 hti.ids
 have hcp := fun (v : Nat) (m : List Rq) (hp : m.Perm l) => tcopy_ok P hP (capsT t) v m (hdm m hp) (fun x hx => by have := (hti.prop x (hp.mem_iff.1 hx)).1; omega) (by omega)
 have hstep := fun (v : Nat) (m : List Rq) (hp : m.Perm l) => step_ok47 P hP v s2 hv hp hti (by omega)
 have hpg := program_own P hP s2.r (by omega)
 have hres : ∀ (v : Nat) (m : List Rq) (n0 : Nat) (ro : Bool), m.Perm l → n0 = s2.r.arcs.length → FnS P n_reserve_Table_Reserve [.c (.ptr 0 0 0 0), rqO s2.r 2 n0] (rsvO (capsT t) v m ro s2.r) fun r' h' => ∃ (v' : Nat) (m' : List Rq) (o : List (List D)) (e : Int), m'.Perm (resS t l s2.r).1 ∧ r' = .tup [.c (.d (.list false 1 o)), iA e] ∧ h' = rsvO (capsT t) v' m' ro s2.r := fun v m n0 ro hp hn => by
  refine (tres_own P hP (capsT t) v m s2.r n0 ro hn ⟨fun r hr => hti.sml.1 r (hp.mem_iff.1 hr), by have := hp.length_eq; omega⟩ (hdm m hp) (fun x hx => by have := (hti.prop x (hp.mem_iff.1 hx)).1; omega) (by omega) c1 c2).mono ?_
  rintro r' h' ⟨es, x, ⟨m', out, e, v', h1, rfl, rfl, rfl⟩, rfl⟩
  obtain ⟨rfl, rfl, h2⟩ := res_ref hv hp hti h1
  exact ⟨v', m', _, _, h2, rfl, rfl⟩
 have hti3 := hti.res hv s2.r (by omega)
 have hdm3 : ∀ m : List Rq, m.Perm (resS t l s2.r).1 → Ids m := fun m hp => (hp.map fun x : Rq => x.id).nodup_iff.2 hti3.ids
 have hgo : ∀ x, x ∈ (resS t l s2.r).1 → x.id = s2.r.id → ∀ (v : Nat) (m : List Rq), m.Perm (resS t l s2.r).1 → FnS P n_reserve_Table_Get [.c (.ptr 0 0 0 0), iA s2.r.id] (rsvH (capsT t) v m) fun r' h' => ∃ (n : Nat) (rr : Bool), n = x.arcs.length ∧ r' = .tup [rqO x 2 n, bA true] ∧ h' = rsvO (capsT t) v m rr x := fun x hx e v m hp => by
  obtain ⟨i, hi⟩ := at_of (hdm3 m hp) (hp.mem_iff.2 hx)
  rw [← e]
  have := (hti3.prop x hx).1
  exact tget_own P hP (capsT t) v m x i hi (by omega) (fun h => by rw [h] at this; simp at this)
 have hgn : s2.r.id ∉ (resS t l s2.r).1.map (·.id) → ∀ (v : Nat) (m : List Rq), m.Perm (resS t l s2.r).1 → FnS P n_reserve_Table_Get [.c (.ptr 0 0 0 0), iA s2.r.id] (rsvH (capsT t) v m) fun r' h' => r' = .tup [rqA ⟨0, [], 0, 0, 0⟩, bA false] ∧ h' = rsvH (capsT t) v m := fun hn v m hp => by
  have := tget_ok P hP (capsT t) v m s2.r.id (fun r hr => by have := (hti3.prop r (hp.mem_iff.1 hr)).1; omega)
  rw [get_gone hp hn] at this
  exact this
 have hpx : ∀ x, x ∈ (resS t l s2.r).1 → 1 ≤ x.arcs.length ∧ ∀ a ∈ x.arcs, 0 ≤ a := fun x hx => ⟨(hti3.prop x hx).1.1, fun a ha => ((hti3.prop x hx).2.2.2.2.2 a ha).1⟩
 have hsd : s2.rel = false → stepS t l s2 = (resS t l s2.r).1 := fun h => by rw [stepS, if_neg (by rw [h]; simp)]
 clear hti hti2 hti3 hr hr2 hf hv h1 hrg hrg2 c1 c2 hdm hdm3
 generalize stepS t l s2 = z at *
 generalize (resS t l s2.r).1 = L at *
 obtain ⟨rel, id, arcs, amt, setup, hold⟩ := s2
 simp only at hgo hgn hsd hres hr70
 refine ret_start (hP ▸ mixed) (hP ▸ fn_law47_ReserveCopies) (hP ▸ c_law47_ReserveCopies) (Nat.le_of_ble_eq_true rfl) fun Λ Λo K hK => ?_
 clear hP
 simp only [rsvH, rsvO, rqO, tbA, topA, rqA, stpA, boolsD, linksD, rqsD, stpsD, intsD, List.map_nil, List.cons_append, List.nil_append] at *
 generalize (capsT t).map encI = cl at *
 generalize t.ov.map encB = ol at *
 generalize t.links.map encLk = ll at *
 generalize s.map encStp = sl at *
 generalize rlh : l.map encRq = rl at *
 generalize z.map encRq = zl at *
 generalize t.nodes = nodes at *
 generalize alh : List.map encI arcs = al at *
 have aln : Λ al = arcs.length := by rw [Λo, ← alh]; simp
 have all : al.length = arcs.length := by rw [← alh, List.length_map]
 conv => cbv
 repeat' first | refine call_b haw rfl rfl ?_ ?_ | refine call_b hsm rfl rfl ?_ ?_ | refine call_b hfw rfl rfl ?_ ?_ | (refine call_fr [] hbu rfl rfl (by decide) (by repeat' first | exact trivial | refine And.intro ?_ ?_ | rfl) rfl rfl ?_; rintro r hc' ⟨v', m', hp, rfl, rfl⟩; have hcx := hcp v' m' hp; have hs1 := hsx v' m' hp; generalize hme : List.map encM m' = me at *; clear hcp hsx; (conv => cbv)) | (have := hpc; refine call_fr [2, 3] hcx rfl rfl (by decide) (by repeat' first | exact trivial | refine And.intro ?_ ?_ | rfl) rfl rfl ?_; rintro r hc' ⟨vd, md, hpd, rfl, rfl⟩; have hrd := hres vd md n0 ro (hpd.trans hp) hn0; generalize hmd : List.map encM md = med at *; clear hres; (conv => cbv)) | (refine call_fr [2, 3] hcx rfl rfl (by decide) (by repeat' first | exact trivial | refine And.intro ?_ ?_ | rfl) rfl rfl ?_; rintro r hc' ⟨vc, mc, hpc, rfl, rfl⟩; have hst := hstep vc mc (hpc.trans hp); generalize hmc : List.map encM mc = mec at *; clear hstep; (conv => cbv)) | (refine call_fr [5, 6] hst rfl rfl (by decide) (by repeat' first | exact trivial | refine And.intro ?_ ?_ | rfl) rfl rfl ?_; rintro r hc' ⟨vz, mz, hpz, rfl, rfl⟩; have hs2 := hsz vz mz hpz; generalize hmz : List.map encM mz = mez at *; clear hst; (conv => cbv)) | (refine call_fr [] hpg rfl rfl (by decide) (by repeat' first | exact trivial | refine And.intro ?_ ?_ | rfl) rfl rfl ?_; rintro r hc' ⟨n0, ro, hn0, rfl, rfl⟩; clear hpg; (conv => cbv)) | (refine call_fr [10, 11, 8] hrd rfl rfl (by decide) (by repeat' first | exact trivial | refine And.intro ?_ ?_ | rfl) rfl rfl ?_; rintro r hc' ⟨v4, m4, o4, e4, hp4, rfl, rfl⟩; generalize hm4 : List.map encM m4 = me4 at *; clear hrd; (conv => cbv)) | exact gu | exact trivial | refine And.intro ?_ ?_ | (intro hc; exact absurd hc (by decide)) | (intro hc; exfalso; omega) | (intro hc; (first | rw [wrap_small (by omega) (by omega)] at hc | rw [nI_eq] at hc | skip); try (conv => cbv))
 refine loop_upx n0 (fun (z : Int × List (List D)) => [(5, .c (.ptr 1 0 0 0)), (7, .c (.ptr 2 0 0 0)), (8, .c (.ptr 4 0 0 0)), (10, .c (.ptr 5 0 0 0)), (11, .c (.ptr 7 0 0 0)), (12, bA true), (13, .c (.ptr 9 0 0 0)), (14, .c (.ptr 10 0 0 0)), (15, iA z.1)]) (fun z => [.bx [.d (iD nodes), .d (.list false 1 ol), .d (.list false 7 ll)], .bx [.d (.bool rel), .d (iD id), .d (.list false 1 al), .d (iD amt), .d (iD setup), .d (iD hold)], .bx [.d (.list false 1 cl), .mp 3], .mp v' me, .bx [.d (iD nodes), .d (.list false 1 ol), .d (.list false 7 ll), .d (.list false 5 rl)], .bx [.d (.list false 1 cl), .mp 6], .mp vz mez, .bx [.d (iD nodes), .d (.list false 1 ol), .d (.list false 7 ll), .d (.list false 5 zl)], .da ro 1 1 z.2, .bx [.d (iD id), .arr 8 1 0 n0, .d (iD amt), .d (iD setup), .d (iD hold)], .bx [.d (.list false 1 cl), .mp 11], .mp v4 me4]) (fun k z => z.1 = k ∧ k ≤ n0 ∧ z.2.length = n0) (0, al) 0
  (fun (_ : List (List D)) => [(5, .c (.ptr 1 0 0 0)), (7, .c (.ptr 2 0 0 0)), (8, .c (.ptr 4 0 0 0)), (10, .c (.ptr 5 0 0 0)), (11, .c (.ptr 7 0 0 0)), (12, bA true), (13, .c (.ptr 9 0 0 0)), (14, .c (.ptr 10 0 0 0))]) (fun z => [.bx [.d (iD nodes), .d (.list false 1 ol), .d (.list false 7 ll)], .bx [.d (.bool rel), .d (iD id), .d (.list false 1 al), .d (iD amt), .d (iD setup), .d (iD hold)], .bx [.d (.list false 1 cl), .mp 3], .mp v' me, .bx [.d (iD nodes), .d (.list false 1 ol), .d (.list false 7 ll), .d (.list false 5 rl)], .bx [.d (.list false 1 cl), .mp 6], .mp vz mez, .bx [.d (iD nodes), .d (.list false 1 ol), .d (.list false 7 ll), .d (.list false 5 zl)], .da ro 1 1 z, .bx [.d (iD id), .arr 8 1 0 n0, .d (iD amt), .d (iD setup), .d (iD hold)], .bx [.d (.list false 1 cl), .mp 11], .mp v4 me4]) (fun z => z.length = n0) (Wk.ca) ⟨rfl, by omega, by simp only; omega⟩ (fun k s h => h.2.1) ?_ ?_
 ·rintro k ⟨i, es⟩ Q' ⟨hi, hk, hel⟩ norm jn ex rt
  simp only at hi hel
  obtain ⟨kq, hkq⟩ : ∃ kq, kq = k := ⟨_, rfl⟩
  by_cases hlt : k < n0
  ·clear jn
   conv => cbv
   repeat' first | (refine ex _ _ _ ?_; (conv => cbv)) | (refine rt _ _ ?_; (conv => cbv)) | (intro (k : Nat) hk; refine (fun (hz : kq = k) => ?_) ?_; rotate_left; omega; subst hz; (conv => cbv)) | exact gu | exact trivial | refine And.intro ?_ ?_ | (intro hc; exact absurd hc (by decide)) | (intro hc; exfalso; omega) | (intro hc; (first | rw [wrap_small (by omega) (by omega)] at hc | rw [nI_eq] at hc | skip); try (conv => cbv))
   rename_i y hy j
   refine norm _ _ (_, _) ?_ (Wk.ca)
   exact ⟨by simp only; omega, by omega, by simp only; rw [hy, List.length_set]; exact hel⟩
  ·clear norm
   conv => cbv
   repeat' first | exact gu | exact trivial | refine And.intro ?_ ?_ | (intro hc; exact absurd hc (by decide)) | (intro hc; exfalso; omega) | (intro hc; (first | rw [wrap_small (by omega) (by omega)] at hc | rw [nI_eq] at hc | skip); try (conv => cbv))
   exact jn _ _ es hel (Wk.ca)
 rintro es hel
 by_cases hf : id ∈ L.map (·.id)
 ·obtain ⟨⟨xi, xa, xm, xs, xh⟩, hxL, hxe⟩ := List.mem_map.1 hf
  simp only at hxe
  have hg1 := hgo _ hxL hxe v4 m4 hp4
  have hx1 := hpx _ hxL
  simp only at hx1 hg1
  obtain ⟨a, ha⟩ : ∃ a, xa[0]? = some a := ⟨_, List.getElem?_eq_getElem (by omega)⟩
  have ha0 := hx1.2 a (List.mem_of_getElem? ha)
  have hlen := hx1.1
  obtain ⟨z0, hz0⟩ : ∃ z0 : Nat, z0 = 0 := ⟨_, rfl⟩
  have hxa : (xa.map encI)[z0]? = some [iD a] := by rw [hz0, List.getElem?_map, ha]; rfl
  have hxl : (xa.map encI).length = xa.length := List.length_map _
  rw [hm4] at hg1
  generalize xa.map encI = xl at *
  clear hgo hgn hpx hx1
  cases rel with
  | true =>
   clear hsz hsd
   conv => cbv
   repeat' first | (intro (k : Nat) hk; refine (fun (hz : z0 = k) => ?_) ?_; rotate_left; omega; subst hz; (conv => cbv)) | (intro e he; cases Option.some.inj (he.symm.trans hxa); (conv => cbv)) | (refine call_fr [5, 6] hs2 rfl rfl (by decide) (by repeat' first | exact trivial | refine And.intro ?_ ?_ | rfl) rfl rfl ?_; rintro r hc' ⟨rfl, rfl⟩; (conv => cbv)) | (refine call_fr [2, 3] hs1 rfl rfl (by decide) (by repeat' first | exact trivial | refine And.intro ?_ ?_ | rfl) rfl rfl ?_; rintro r hc' ⟨rfl, rfl⟩; (conv => cbv)) | (have := hg2; refine call_fr [10, 11] hg1 rfl rfl (by decide) (by repeat' first | exact trivial | refine And.intro ?_ ?_ | rfl) rfl rfl ?_; rintro r hc' ⟨n2, r2, hn2, rfl, rfl⟩; (conv => cbv)) | (refine call_fr [10, 11] hg1 rfl rfl (by decide) (by repeat' first | exact trivial | refine And.intro ?_ ?_ | rfl) rfl rfl ?_; rintro r hc' ⟨n1, r1, hn1, rfl, rfl⟩; have hg2 := trivial; (conv => cbv)) | exact gu | exact trivial | refine And.intro ?_ ?_ | (intro hc; exact absurd hc (by decide)) | (intro hc; exfalso; omega) | (intro hc; (first | rw [wrap_small (by omega) (by omega)] at hc | rw [nI_eq] at hc | skip); try (conv => cbv))
   all_goals first | exact hK | (exfalso; omega)
  | false =>
   have hs4 := hsz v4 m4 (by rw [hsd rfl]; exact hp4)
   rw [hm4] at hs4
   clear hsz hsd
   conv => cbv
   repeat' first | (intro (k : Nat) hk; refine (fun (hz : z0 = k) => ?_) ?_; rotate_left; omega; subst hz; (conv => cbv)) | (intro e he; cases Option.some.inj (he.symm.trans hxa); (conv => cbv)) | (refine call_fr [10, 11] hs4 rfl rfl (by decide) (by repeat' first | exact trivial | refine And.intro ?_ ?_ | rfl) rfl rfl ?_; rintro r hc' ⟨rfl, rfl⟩; (conv => cbv)) | (refine call_fr [5, 6] hs2 rfl rfl (by decide) (by repeat' first | exact trivial | refine And.intro ?_ ?_ | rfl) rfl rfl ?_; rintro r hc' ⟨rfl, rfl⟩; (conv => cbv)) | (refine call_fr [2, 3] hs1 rfl rfl (by decide) (by repeat' first | exact trivial | refine And.intro ?_ ?_ | rfl) rfl rfl ?_; rintro r hc' ⟨rfl, rfl⟩; (conv => cbv)) | (have := hg2; refine call_fr [10, 11] hg1 rfl rfl (by decide) (by repeat' first | exact trivial | refine And.intro ?_ ?_ | rfl) rfl rfl ?_; rintro r hc' ⟨n2, r2, hn2, rfl, rfl⟩; (conv => cbv)) | (refine call_fr [10, 11] hg1 rfl rfl (by decide) (by repeat' first | exact trivial | refine And.intro ?_ ?_ | rfl) rfl rfl ?_; rintro r hc' ⟨n1, r1, hn1, rfl, rfl⟩; have hg2 := trivial; (conv => cbv)) | exact gu | exact trivial | refine And.intro ?_ ?_ | (intro hc; exact absurd hc (by decide)) | (intro hc; exfalso; omega) | (intro hc; (first | rw [wrap_small (by omega) (by omega)] at hc | rw [nI_eq] at hc | skip); try (conv => cbv))
   all_goals first | exact hK | (exfalso; omega)
 ·have hg1 := hgn hf v4 m4 hp4
  rw [hm4] at hg1
  clear hgo hgn hpx
  cases rel with
  | true =>
   clear hsz hsd
   conv => cbv
   repeat' first | (refine call_fr [5, 6] hs2 rfl rfl (by decide) (by repeat' first | exact trivial | refine And.intro ?_ ?_ | rfl) rfl rfl ?_; rintro r hc' ⟨rfl, rfl⟩; (conv => cbv)) | (refine call_fr [2, 3] hs1 rfl rfl (by decide) (by repeat' first | exact trivial | refine And.intro ?_ ?_ | rfl) rfl rfl ?_; rintro r hc' ⟨rfl, rfl⟩; (conv => cbv)) | (refine call_fr [10, 11] hg1 rfl rfl (by decide) (by repeat' first | exact trivial | refine And.intro ?_ ?_ | rfl) rfl rfl ?_; rintro r hc' ⟨rfl, rfl⟩; (conv => cbv)) | exact gu | exact trivial | refine And.intro ?_ ?_ | (intro hc; exact absurd hc (by decide)) | (intro hc; exfalso; omega) | (intro hc; (first | rw [wrap_small (by omega) (by omega)] at hc | rw [nI_eq] at hc | skip); try (conv => cbv))
   all_goals first | exact hK | (exfalso; omega)
  | false =>
   have hs4 := hsz v4 m4 (by rw [hsd rfl]; exact hp4)
   rw [hm4] at hs4
   clear hsz hsd
   conv => cbv
   repeat' first | (refine call_fr [10, 11] hs4 rfl rfl (by decide) (by repeat' first | exact trivial | refine And.intro ?_ ?_ | rfl) rfl rfl ?_; rintro r hc' ⟨rfl, rfl⟩; (conv => cbv)) | (refine call_fr [5, 6] hs2 rfl rfl (by decide) (by repeat' first | exact trivial | refine And.intro ?_ ?_ | rfl) rfl rfl ?_; rintro r hc' ⟨rfl, rfl⟩; (conv => cbv)) | (refine call_fr [2, 3] hs1 rfl rfl (by decide) (by repeat' first | exact trivial | refine And.intro ?_ ?_ | rfl) rfl rfl ?_; rintro r hc' ⟨rfl, rfl⟩; (conv => cbv)) | (refine call_fr [10, 11] hg1 rfl rfl (by decide) (by repeat' first | exact trivial | refine And.intro ?_ ?_ | rfl) rfl rfl ?_; rintro r hc' ⟨rfl, rfl⟩; (conv => cbv)) | exact gu | exact trivial | refine And.intro ?_ ?_ | (intro hc; exact absurd hc (by decide)) | (intro hc; exfalso; omega) | (intro hc; (first | rw [wrap_small (by omega) (by omega)] at hc | rw [nI_eq] at hc | skip); try (conv => cbv))
   all_goals first | exact hK | (exfalso; omega)
theorem copies_lawR (P : Program) (hP : P = Try.prog) (t : Top) (s : List StpR) (s2 : StpR) : Ret P n_law47_ReserveCopies [topA t, .c (.d (.list false 6 (s.map encSR))), stpRA s2] (bA true) := by
 rw [script_D]
 exact copies_law P hP t _ s2.1 (script_rng s) s2.2
end Go.Ab

