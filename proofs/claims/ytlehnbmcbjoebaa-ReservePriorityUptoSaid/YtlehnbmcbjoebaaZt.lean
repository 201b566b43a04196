/-
  Merged texts, part t.
-/
import Derived.Test.YtlehnbmcbjoebaaZs
import Derived.Test.YtlehnbmcbjoebaaRows
import Derived.WalkKit
import Derived.ProofKit
import Derived.OpenShut
import Derived.JoinedCond
/-
  The closing lemma: what a row reads is data of the machine; a contract 'returns true' over that data is the row's statement.
-/
namespace Go.Ab
open Go.Proofs Go.Proofs.Ytlehnbmcbjoebaa Go.ChangeShapes Go.WideShapes Go.ChangeAt Go.RowKit
inductive Sh where
 | int (k : IntKind)
 | bool
 | str
 | list (sz : Nat) (es : List Sh)
def shFs (P : Program) (sh : TypeId → Option (List Sh)) : Nat → List (Nat × TypeId) → Option (List Sh)
 | _, [] => some []
 | off, f :: fs =>
  if f.1 = off then
   match sh f.2 with
   | some l => if l.length = P.cellsOf f.2 then (shFs P sh (off + l.length) fs).map (l ++ ·) else none
   | none => none
  else none
def shOf (P : Program) : Nat → TypeId → Option (List Sh)
 | 0, _ => none
 | n + 1, t =>
  match P.underlying t with
  | some (.int k) => some [.int k]
  | some .bool => some [.bool]
  | some .string => some [.str]
  | some (.slice e) =>
   match shOf P n e with
   | some l => if l.length = P.cellsOf e ∧ 0 < P.cellsOf e then some [.list (P.cellsOf e) l] else none
   | none => none
  | some (.struct fs) =>
   match shFs P (shOf P n) 0 (fs.toList.map fun f => (f.offset, f.type)) with
   | some l => if l.length = P.cellsOf t then some l else none
   | none => none
  | some (.array k e) =>
   match shFs P (shOf P n) 0 ((List.range k).map fun i => (i * P.cellsOf e, e)) with
   | some l => if l.length = P.cellsOf t then some l else none
   | none => none
  | _ => none
mutual
/-- data of a shape, and how many values it holds -/
inductive Fit1 : Sh → D → Nat → Prop
 | int (k : IntKind) (n : Int) (h : (Lit.int k n).wf = true) : Fit1 (.int k) (.int k n) 1
 | bool (b : Bool) : Fit1 .bool (.bool b) 1
 | str (s : List UInt8) : Fit1 .str (.str s) (s.length + 1)
 | list (sz : Nat) (es : List Sh) (l : List (List D)) (n : Nat) (h : FitLL es l n) : Fit1 (.list sz es) (.list false sz l) (n + 1)
inductive FitL : List Sh → List D → Nat → Prop
 | nil : FitL [] [] 0
 | cons (s : Sh) (ss : List Sh) (d : D) (ds : List D) (n m : Nat) (h : Fit1 s d n) (h' : FitL ss ds m) : FitL (s :: ss) (d :: ds) (n + m)
inductive FitLL : List Sh → List (List D) → Nat → Prop
 | nil (es : List Sh) : FitLL es [] 0
 | cons (es : List Sh) (e : List D) (l : List (List D)) (n m : Nat) (h : FitL es e n) (h' : FitLL es l m) : FitLL es (e :: l) (n + m)
end
theorem FitL.len {ss : List Sh} {ds : List D} {n : Nat} (h : FitL ss ds n) : ds.length = ss.length := by
 induction ss generalizing ds n with
 | nil => cases h; rfl
 | cons s ss ih => cases h with | cons _ _ _ _ _ _ h1 h2 => simp [ih h2]
theorem FitL.append {ss ss' : List Sh} {ds ds' : List D} {n m : Nat} (h : FitL ss ds n) (h' : FitL ss' ds' m) : FitL (ss ++ ss') (ds ++ ds') (n + m) := by
 induction ss generalizing ds n with
 | nil => cases h; simpa using h'
 | cons s ss ih =>
  cases h with
  | cons _ _ d ds1 a b h1 h2 =>
   have := FitL.cons s (ss ++ ss') d (ds1 ++ ds') a (b + m) h1 (ih h2)
   rw [Nat.add_assoc]; exact this
def CsR (w : World) (cs : List Value) (ds : List D) : Prop :=
 cs.length = ds.length ∧ ∀ (i : Nat) (v : Value) (d : D), cs[i]? = some v → ds[i]? = some d → DR (fun b => b < w.heap.size) w v d
theorem CsR.one {w : World} {v : Value} {d : D} (h : DR (fun b => b < w.heap.size) w v d) : CsR w [v] [d] := by
 refine ⟨rfl, fun i v' d' h1 h2 => ?_⟩
 cases i with
 | zero => simp at h1 h2; subst h1 h2; exact h
 | succ i => simp at h1
theorem CsR.append {w : World} {cs cs' : List Value} {ds ds' : List D} (h : CsR w cs ds) (h' : CsR w cs' ds') : CsR w (cs ++ cs') (ds ++ ds') := by
 refine ⟨by simp [h.1, h'.1], fun i v d h1 h2 => ?_⟩
 by_cases hi : i < cs.length
 ·rw [List.getElem?_append_left hi] at h1
  rw [List.getElem?_append_left (by rw [← h.1]; exact hi)] at h2
  exact h.2 i v d h1 h2
 ·rw [List.getElem?_append_right (by omega)] at h1
  rw [List.getElem?_append_right (by rw [← h.1]; omega), ← h.1] at h2
  exact h'.2 _ v d h1 h2
theorem list_of {α : Type} (p : Nat → α → Prop) : ∀ (len : Nat), (∀ i, i < len → ∃ a, p i a) → ∃ l : List α, l.length = len ∧ ∀ i a, l[i]? = some a → p i a := by
 intro len
 induction len with
 | zero => intro _; exact ⟨[], rfl, by intro i a h; simp at h⟩
 | succ n ih =>
  intro h
  obtain ⟨l, hl, hp⟩ := ih fun i hi => h i (by omega)
  obtain ⟨a, ha⟩ := h n (by omega)
  refine ⟨l ++ [a], by simp [hl], fun i x hx => ?_⟩
  rcases get_snoc hx with g | ⟨g, g'⟩
  ·exact hp i x g
  ·subst g g'; rw [hl]; exact ha
theorem fitLL_of {es : List Sh} : ∀ (l : List (List D × Nat)), (∀ (i : Nat) (x : List D × Nat), l[i]? = some x → FitL es x.1 x.2) → FitLL es (l.map (·.1)) (l.map (·.2)).sum := by
 intro l
 induction l with
 | nil => intro _; exact .nil es
 | cons x l ih =>
  intro h
  simp only [List.map_cons, List.sum_cons]
  exact .cons es _ _ _ _ (h 0 x rfl) (ih fun i y hy => h (i + 1) y (by simpa using hy))
theorem sum_le_bulk {H : Type} : ∀ (l : List (List D × Nat)) (xs : List (DataW H)), l.length = xs.length → (∀ (i : Nat) (x : List D × Nat) (y : DataW H), l[i]? = some x → xs[i]? = some y → x.2 ≤ Rows.uptoBulk y) → (l.map (·.2)).sum ≤ Rows.uptoBulkAll xs := by
 intro l
 induction l with
 | nil => intro xs _ _; simp
 | cons x l ih =>
  intro xs hl h
  cases xs with
  | nil => simp at hl
  | cons y xs =>
   have h0 := h 0 x y rfl rfl
   have h1 := ih xs (by simpa using hl) fun i a b ha hb => h (i + 1) a b (by simpa using ha) (by simpa using hb)
   simp only [List.map_cons, List.sum_cons, Rows.uptoBulkAll]
   omega
theorem cell_bound {w : World} {a : Addr} {v : Value} (h : w.cell? a = some v) : a.spot = none ∧ a.block < w.heap.size := by
 unfold World.cell? at h
 cases hb : w.heap[a.block]? with
 | none => rw [hb] at h; cases h
 | some o =>
  rw [hb] at h
  have hlt : a.block < w.heap.size := by
   rcases Nat.lt_or_ge a.block w.heap.size with h' | h'
   ·exact h'
   ·rw [Array.getElem?_eq_none h'] at hb; cases hb
  refine ⟨?_, hlt⟩
  cases o with
  | cells c t fr =>
   simp only at h
   cases hs : a.spot with
   | none => rfl
   | some s => rw [hs] at h; simp at h
  | _ => simp at h
theorem cells_get {w : World} {a : Addr} {n : Nat} {cs : List Value} (h : w.cells? 0 a n = some cs) : cs.length = n ∧ ∀ i, i < n → w.cell? (a.add i) = cs[i]? := by
 unfold World.cells? at h
 rw [if_pos (Nat.zero_le _)] at h
 exact ⟨by simpa using mapM_some_length h, fun i hi => mapM_some_get h i i (by simp [hi])⟩
section
variable {H : Type} {enc : TypeId × Value → H} {P : Program} {w : World}
abbrev Rdg (enc : TypeId × Value → H) (P : Program) (w : World) (fuel : Nat) (t : TypeId) (cs : List Value) (x : DataW H × List MemPlace) : Prop :=
 DataW.trod enc P w 0 (fun _ => true) true fuel t cs = some x
theorem read_parts {sh : TypeId → Option (List Sh)} {fuel : Nat} {cs : List Value}
  (ih : ∀ t shs cs x, sh t = some shs → Rdg enc P w fuel t cs x → ∃ ds n, CsR w cs ds ∧ FitL shs ds n ∧ n ≤ Rows.uptoBulk x.1) :
  ∀ (fs : List (Nat × TypeId)) (off : Nat) (shs : List Sh) (xs : List (DataW H × List MemPlace)), shFs P sh off fs = some shs → cs.length = off + shs.length → xs.length = fs.length →
   (∀ (i : Nat) (f : Nat × TypeId), fs[i]? = some f → DataW.trod enc P w 0 (fun _ => true) true fuel f.2 ((cs.drop f.1).take (P.cellsOf f.2)) = xs[i]?) →
   ∃ ds n, CsR w (cs.drop off) ds ∧ FitL shs ds n ∧ n ≤ Rows.uptoBulkAll (xs.map (·.1)) := by
 intro fs
 induction fs with
 | nil =>
  intro off shs xs hs hl hx _
  simp only [shFs, Option.some.injEq] at hs
  subst hs
  refine ⟨[], 0, ⟨by simp at hl ⊢; omega, fun i v d _ h => by simp at h⟩, .nil, Nat.zero_le _⟩
 | cons f fs ihf =>
  intro off shs xs hs hl hx hr
  obtain ⟨o, t⟩ := f
  cases xs with
  | nil => simp at hx
  | cons x xs =>
   simp only [shFs] at hs
   split at hs
   ·rename_i ho
    subst ho
    split at hs
    ·rename_i l hsl
     split at hs
     ·rename_i hll
      simp only [Option.map_eq_some_iff] at hs
      obtain ⟨r, hs, rfl⟩ := hs
      simp only [List.length_append] at hl
      obtain ⟨ds1, n1, a1, a2, a3⟩ := ih t l _ x hsl (by simpa using hr 0 (o, t) rfl)
      obtain ⟨ds2, n2, b1, b2, b3⟩ := ihf (o + l.length) r xs hs (by omega) (by simpa using hx) fun i f hf => by simpa using hr (i + 1) f (by simpa using hf)
      refine ⟨ds1 ++ ds2, n1 + n2, ?_, a2.append b2, ?_⟩
      ·have e : cs.drop o = (cs.drop o).take (P.cellsOf t) ++ cs.drop (o + l.length) := by
        rw [hll, ← List.drop_drop, List.take_append_drop]
       rw [e]; exact a1.append b1
      ·simp only [List.map_cons, Rows.uptoBulkAll]; omega
     ·cases hs
    ·cases hs
   ·cases hs
theorem DR_slice {b off len cap sz : Nat} {l : List (List D)} (hlen : l.length = len) (hcap : len ≤ cap) (hmax : cap ≤ maxLen) (hpos : 0 < sz) (hsz : ∀ (i : Nat) (e : List D), l[i]? = some e → e.length = sz)
  (h : ∀ (i : Nat) (e : List D), l[i]? = some e → ∃ cs, w.cells? 0 ((⟨b, off, none⟩ : Addr).add (i * sz)) sz = some cs ∧ CsR w cs e) :
  DR (fun b => b < w.heap.size) w (.slice (some ⟨b, off, none⟩) len cap) (.list false sz l) := by
 subst hlen
 have key : ∀ (i : Nat) (e : List D) (j : Nat) (x : D), l[i]? = some e → e[j]? = some x → ∃ v, w.cell? ⟨b, off + i * sz + j, none⟩ = some v ∧ DR (fun b => b < w.heap.size) w v x := by
  intro i e j x he hx
  obtain ⟨cs, h1, h2⟩ := h i e he
  obtain ⟨h3, h4⟩ := cells_get h1
  have hj : j < sz := by rw [← hsz i e he]; exact get_lt hx
  have hv : cs[j]? = some (cs[j]'(by omega)) := List.getElem?_eq_getElem _
  refine ⟨_, ?_, h2.2 j _ x hv hx⟩
  rw [← hv, ← h4 j hj, add_none, add_none]
 refine .sl b off cap sz l (fun i j => (w.cell? ⟨b, off + i * sz + j, none⟩).getD (.bool false)) (fun hne => ?_) hcap (by unfold maxLen at hmax; omega) hsz (fun i e j x he hx => ?_) fun i e j x he hx => ?_
 ·cases l with
  | nil => exact absurd rfl hne
  | cons e l =>
   have he : e.length = sz := hsz 0 e rfl
   cases e with
   | nil => simp at he; omega
   | cons x e =>
    obtain ⟨v, hv, _⟩ := key 0 (x :: e) 0 x rfl rfl
    exact (cell_bound hv).2
 ·obtain ⟨v, hv, _⟩ := key i e j x he hx
  rw [hv]; rfl
 ·obtain ⟨v, hv, hd⟩ := key i e j x he hx
  rw [hv]; exact hd
theorem read (P : Program) : ∀ (m : Nat) (t : TypeId) (shs : List Sh) (fuel : Nat) (cs : List Value) (x : DataW H × List MemPlace), shOf P m t = some shs → Rdg enc P w fuel t cs x →
  ∃ ds n, CsR w cs ds ∧ FitL shs ds n ∧ n ≤ Rows.uptoBulk x.1 := by
 intro m
 induction m with
 | zero => intro t shs fuel cs x hs; simp [shOf] at hs
 | succ m ih =>
  intro t shs fuel cs x hs hx
  unfold shOf at hs
  split at hs
  ·rename_i k hu
   cases hs
   obtain ⟨n, rfl, rfl, hw⟩ := DataW.trod_int hu hx
   exact ⟨_, _, CsR.one (.int k n), .cons _ _ _ _ 1 0 (.int k n hw) .nil, by simp [Rows.uptoBulk]⟩
  ·rename_i hu
   cases hs
   obtain ⟨b, rfl, rfl⟩ := DataW.trod_bool hu hx
   exact ⟨_, _, CsR.one (.bool b), .cons _ _ _ _ 1 0 (.bool b) .nil, by simp [Rows.uptoBulk]⟩
  ·rename_i hu
   cases hs
   obtain ⟨s, rfl, rfl, _⟩ := DataW.trod_string hu hx
   exact ⟨_, _, CsR.one (.str s), .cons _ _ _ _ _ 0 (.str _) .nil, by simp [Rows.uptoBulk]⟩
  ·rename_i e hu
   split at hs
   ·rename_i l hl
    split at hs
    ·rename_i hc
     cases hs
     rcases DataW.trod_slice hu hx with ⟨rfl, rfl⟩ | ⟨a, len, cap, elems, rest, n, rfl, rfl, rfl, _, hlc, hcm, hel, hget, hsp, _⟩
     ·exact ⟨_, _, CsR.one (.nils false _), .cons _ _ _ _ 1 0 (.list _ l [] 0 (.nil l)) .nil, by simp [Rows.uptoBulk]⟩
     ·obtain ⟨hrl, hrest⟩ := hsp rfl
      have each : ∀ i, i < len → ∃ y : List D × Nat, (∃ cs, w.cells? 0 (a.add (i * P.cellsOf e)) (P.cellsOf e) = some cs ∧ CsR w cs y.1) ∧ FitL l y.1 y.2 ∧ ∀ z, elems[i]? = some z → y.2 ≤ Rows.uptoBulk z.1 := by
       intro i hi
       have h1 := hget i hi
       rw [List.getElem?_eq_getElem (by omega)] at h1
       simp only [Option.bind_eq_some_iff] at h1
       obtain ⟨cs, h2, h3⟩ := h1
       obtain ⟨ds, k, g1, g2, g3⟩ := ih e l n cs _ hl h3
       refine ⟨(ds, k), ⟨cs, h2, g1⟩, g2, fun z hz => ?_⟩
       rw [List.getElem?_eq_getElem (by omega)] at hz
       cases hz; exact g3
      obtain ⟨L, hL, hp⟩ := list_of _ len each
      have hfl := fitLL_of L fun i y hy => (hp i y hy).2.1
      have hw := sum_le_bulk L (elems.map (·.1)) (by simp [hL, hel]) fun i y z hy hz => by
       simp only [List.getElem?_map, Option.map_eq_some_iff] at hz
       obtain ⟨u, hu1, rfl⟩ := hz
       exact (hp i y hy).2.2 u hu1
      refine ⟨[.list false (P.cellsOf e) (L.map (·.1))], _, CsR.one ?_, .cons _ _ _ _ _ 0 (.list _ l _ _ hfl) .nil, by simp only [Rows.uptoBulk]; omega⟩
      by_cases hz : cap = 0
      ·have h0 : len = 0 := by omega
       have hLn : L = [] := List.eq_nil_of_length_eq_zero (by omega)
       subst hLn h0 hz
       exact .emp a _
      ·have hspot : a.spot = none := by
        by_cases h0 : 0 < len
        ·obtain ⟨y, ⟨cs, h2, _⟩, _⟩ := each 0 h0
         have := (cells_get h2).2 0 hc.2
         rw [List.getElem?_eq_getElem (by have := (cells_get h2).1; omega)] at this
         simpa [Addr.add] using (cell_bound this).1
        ·have h1 := hrest 0 (by omega)
         rw [List.getElem?_eq_getElem (by omega)] at h1
         simp only [Option.bind_eq_some_iff] at h1
         obtain ⟨cs, h2, _⟩ := h1
         have := (cells_get h2).2 0 hc.2
         rw [List.getElem?_eq_getElem (by have := (cells_get h2).1; omega)] at this
         have h00 : len = 0 := by omega
         simpa [Addr.add, h00] using (cell_bound this).1
       obtain ⟨b, off, spot⟩ := a
       simp only at hspot
       subst hspot
       refine DR_slice (by simp [hL]) hlc hcm hc.2 (fun i ds hi => ?_) fun i ds hi => ?_
       ·simp only [List.getElem?_map, Option.map_eq_some_iff] at hi
        obtain ⟨y, hy, rfl⟩ := hi
        rw [(hp i y hy).2.1.len, hc.1]
       ·simp only [List.getElem?_map, Option.map_eq_some_iff] at hi
        obtain ⟨y, hy, rfl⟩ := hi
        exact (hp i y hy).1
    ·cases hs
   ·cases hs
  ·rename_i fs hu
   split at hs
   ·rename_i l hl
    split at hs
    ·rename_i hc
     cases hs
     obtain ⟨xs, n, rfl, rfl, h1, h2, h3⟩ := DataW.trod_struct hu hx
     obtain ⟨ds, k, g1, g2, g3⟩ := read_parts (fuel := n) (cs := cs) (fun t shs cs x h h' => ih t shs n cs x h h') _ 0 shs xs hl (by omega) (by simp [h2]) fun i f hf => by
      simp only [List.getElem?_map, Option.map_eq_some_iff] at hf
      obtain ⟨f', hf', rfl⟩ := hf
      exact h3 i f' (by simpa using hf')
     exact ⟨ds, k, by simpa using g1, g2, by simp only [Rows.uptoBulk]; omega⟩
    ·cases hs
   ·cases hs
  ·rename_i k e hu
   split at hs
   ·rename_i l hl
    split at hs
    ·rename_i hc
     cases hs
     obtain ⟨xs, n, rfl, rfl, h1, h2, h3⟩ := DataW.trod_array hu hx
     obtain ⟨ds, k', g1, g2, g3⟩ := read_parts (fuel := n) (cs := cs) (fun t shs cs x h h' => ih t shs n cs x h h') _ 0 shs xs hl (by omega) (by simp [h2]) fun i f hf => by
      simp only [List.getElem?_map, Option.map_eq_some_iff] at hf
      obtain ⟨i', hi', rfl⟩ := hf
      have hik : i < k := by have := get_lt hi'; simpa using this
      rw [List.getElem?_range hik] at hi'
      cases hi'
      exact h3 i hik
     exact ⟨ds, k', by simpa using g1, g2, by simp only [Rows.uptoBulk]; omega⟩
    ·cases hs
   ·cases hs
  ·cases hs
theorem kept_of {W W' : World} {may : MemPlace → Prop} (hq : Quiet W W') (hs : ∀ b, b < W.heap.size → W'.heap[b]? = W.heap[b]?) : W.keptBut W' may := by
 refine ⟨hq.1, hq.2.1, fun i hi => ?_⟩
 rw [hs i hi]
 cases W.heap[i]? with
 | none => rfl
 | some o => cases o with
  | cells c t fr => exact ⟨rfl, rfl, rfl, fun _ _ => rfl⟩
  | map es clock => exact .inr ⟨rfl, rfl⟩
  | _ => rfl
theorem sameAt_of {W W' : World} (hs : ∀ b, b < W.heap.size → W'.heap[b]? = W.heap[b]?) (p : MemPlace) (hp : p.block < W.heap.size) : W.sameAt W' p := by
 cases p with
 | cell b off => exact cell_same (hs b hp) off
 | map b => exact hs b hp
theorem trodAll_carry {W W' : World} {T : TypeId → Prop} (K : Kids P T) (hz : ∀ t e, T t → P.underlying t = some (.slice e) → 0 < P.cellsOf e) {sp : Nat → Bool} : ∀ (ts : List TypeId) (vs : List Value) (ds : List (DataW H)) (ps : List MemPlace),
  (∀ t ∈ ts, T t) → DataW.TrodAll enc P W 0 (fun _ => true) true ts vs ds ps → (∀ p ∈ ps, W.sameAt W' p) → (∀ p ∈ ps, sp p.block = true) → DataW.TrodAll enc P W' 0 sp true ts vs ds ps
 | [], [], [], _, _, h, _, _ => h
 | t :: ts, v :: vs, d :: ds, ps, hT, ⟨p, q, ⟨n, h1⟩, h2, e⟩, hs, hp => by
  subst e
  refine ⟨p, q, ⟨n, ?_⟩, trodAll_carry K hz ts vs ds q (fun t ht => hT t (List.mem_cons_of_mem _ ht)) h2 (fun x hx => hs x (List.mem_append_right _ hx)) fun x hx => hp x (List.mem_append_right _ hx), rfl⟩
  exact DataW.trod_stays K (fun a b => hz _ _ a b) (fun h => by cases h) (hT t (List.mem_cons_self ..)) h1 (fun x hx => hs x (List.mem_append_left _ hx)) fun x hx => hp x (List.mem_append_left _ hx)
theorem law_post {f : Func} {s : ChangeSpec} {apart fresh handsOn : Bool} {W W' : World} {args : Array Value} {ds gs : List (DataW H)} {before : List MemPlace} {bt : TypeId}
  (K : Kids P (· < P.types.size)) (hz : ∀ t e, t < P.types.size → P.underlying t = some (.slice e) → 0 < P.cellsOf e) (hT : ∀ t ∈ f.params.toList, t < P.types.size)
  (hvars : s.vars = []) (hres : f.resultTypes = #[bt]) (hbt : P.underlying bt = some .bool)
  (hW : DataW.Whole enc P f.params.toList s.vars apart W args.toList ds gs before) (hfn : (s.fn H (ds ++ gs)).results = [.lit (.bool true)] ∧ (s.fn H (ds ++ gs)).args = ds ∧ (s.fn H (ds ++ gs)).vars = [])
  (hq : Quiet W W') (hs : ∀ b, b < W.heap.size → W'.heap[b]? = W.heap[b]?) : s.post enc P f apart fresh handsOn false W args (.bool true) W' := by
 have hlt := hW.lt
 have hW' := hW
 obtain ⟨p, q, hA, hV, rfl, _, _⟩ := hW'
 rw [hvars] at hV
 obtain ⟨rfl, rfl⟩ := trodVars_none hV
 simp only [List.append_nil] at *
 refine ⟨ds, [], p, [], p, [], hW, ?_, ?_, ?_, kept_of hq hs, fun h => by cases h⟩
 ·simp only [List.append_nil]
  rw [hfn.1, hres]
  exact trodAll_cons_mk (shut_bool hbt _) trodAll_mk0
 ·simp only [List.append_nil]
  rw [hfn.2.1]
  exact trodAll_carry K hz _ _ _ _ hT hA (fun x hx => sameAt_of hs x (hlt x (by simpa using hx))) fun x hx => by simpa using hlt x (by simpa using hx)
 ·simp only [List.append_nil]
  rw [hfn.2.2, hvars]
  rfl
theorem ret_true {f : FuncId} {avs : List AV} {W : World} {vs : List Value} (hf : FnS P f avs [] fun r _ => pureA r = true ∧ r = .c (.d (.bool true))) (hv : VRs (fun b => b < W.heap.size) W [] [] vs avs) :
  Calls P f vs.toArray W fun e W' => e = .returned (.bool true) ∧ Quiet W W' ∧ ∀ b, b < W.heap.size → W'.heap[b]? = W.heap[b]? := by
 refine (hf.out _ [] W vs (HR_nil fun b hb => hb) hv).mono fun e W' ⟨v, r, G', ι', h', he, hr, _, hvr, hx⟩ => ?_
 obtain ⟨_, rfl⟩ := hr
 refine ⟨?_, hx.quiet, fun b hb => hx.frame b hb fun ⟨l, blk, h1, _⟩ => by simp at h1⟩
 cases hvr with
 | c _ _ hc =>
  cases hc with
  | d _ _ hd => cases hd; exact he
theorem VR_agg {w : World} {cs : Array Value} {ds : List D} (h : CsR w cs.toList ds) : VR (fun b => b < w.heap.size) w [] [] (.agg cs) (.agg (ds.map .d)) := by
 refine .agg cs _ (by have := h.1; simpa using this) fun i v x hv hx => ?_
 simp only [List.getElem?_map, Option.map_eq_some_iff] at hx
 obtain ⟨d, hd, rfl⟩ := hx
 exact .d _ _ (h.2 i v d (by simpa using hv) hd)
theorem VR_one {w : World} {v : Value} {d : D} (h : DR (fun b => b < w.heap.size) w v d) : VR (fun b => b < w.heap.size) w [] [] v (.c (.d d)) := .c _ _ (.d _ _ h)
theorem agg_of {v : Value} {n : Nat} (h : v.cells.toList.length = n) (hn : n ≠ 1) : v = .agg v.cells := by
 cases v <;> first | rfl | (exfalso; simp [Value.cells] at h; omega)
theorem VRs_nil {G : Nat → Prop} {w : World} {ι : Io} {h : Hp} : VRs G w ι h [] [] := ⟨rfl, fun i v x h1 => by simp at h1⟩
theorem VRs_cons {G : Nat → Prop} {w : World} {ι : Io} {h : Hp} {v : Value} {x : AV} {vs : List Value} {xs : List AV} (h1 : VR G w ι h v x) (h2 : VRs G w ι h vs xs) : VRs G w ι h (v :: vs) (x :: xs) := by
 refine ⟨by simp [h2.1], fun i a b ha hb => ?_⟩
 cases i with
 | zero => simp at ha hb; subst ha hb; exact h1
 | succ i => exact h2.2 i a b (by simpa using ha) (by simpa using hb)
theorem fitLL_map {α : Type} {es : List Sh} (en : α → List D) (wt : α → Nat) (h : ∀ e n, FitL es e n → ∃ a, e = en a ∧ wt a ≤ n) : ∀ (l : List (List D)) (n : Nat), FitLL es l n → ∃ xs : List α, l = xs.map en ∧ (xs.map wt).sum ≤ n := by
 intro l
 induction l with
 | nil => intro n _; exact ⟨[], rfl, Nat.zero_le _⟩
 | cons e l ih =>
  intro n hl
  cases hl with
  | cons _ _ _ a b h1 h2 =>
   obtain ⟨x, rfl, hx⟩ := h e a h1
   obtain ⟨xs, rfl, hxs⟩ := ih b h2
   exact ⟨x :: xs, rfl, by simp only [List.map_cons, List.sum_cons]; omega⟩
theorem FitL.weight {ss : List Sh} {ds : List D} {n : Nat} (h : FitL ss ds n) : ss.length ≤ n := by
 induction ss generalizing ds n with
 | nil => exact Nat.zero_le _
 | cons s ss ih =>
  cases h with
  | cons _ _ _ _ a b h1 h2 =>
   have h3 := ih h2
   have : 1 ≤ a := by cases h1 <;> omega
   simp only [List.length_cons]; omega
theorem FitL.un {s : Sh} {ss : List Sh} {ds : List D} {n : Nat} (h : FitL (s :: ss) ds n) : ∃ d ds' a b, ds = d :: ds' ∧ n = a + b ∧ Fit1 s d a ∧ FitL ss ds' b := by
 cases h with | cons _ _ d ds a b h1 h2 => exact ⟨d, ds, a, b, rfl, rfl, h1, h2⟩
theorem FitL.end {ds : List D} {n : Nat} (h : FitL [] ds n) : ds = [] := by cases h; rfl
theorem Fit1.i {k : IntKind} {d : D} {n : Nat} (h : Fit1 (.int k) d n) : ∃ z, d = .int k z ∧ (Lit.int k z).wf = true := by cases h with | int _ z hw => exact ⟨z, rfl, hw⟩
theorem Fit1.b {d : D} {n : Nat} (h : Fit1 .bool d n) : ∃ z, d = .bool z := by cases h with | bool z => exact ⟨z, rfl⟩
theorem Fit1.l {sz : Nat} {es : List Sh} {d : D} {n : Nat} (h : Fit1 (.list sz es) d n) : ∃ l m, d = .list false sz l ∧ n = m + 1 ∧ FitLL es l m := by cases h with | list _ _ l m hl => exact ⟨l, m, rfl, rfl, hl⟩
theorem Fit1.lm {α : Type} {sz : Nat} {es : List Sh} {d : D} {n : Nat} (en : α → List D) (wt : α → Nat) (h : Fit1 (.list sz es) d n) (hd : ∀ e n, FitL es e n → ∃ a, e = en a ∧ wt a ≤ n) :
  ∃ xs : List α, d = .list false sz (xs.map en) ∧ (xs.map wt).sum + 1 ≤ n := by
 obtain ⟨l, m, rfl, rfl, h1⟩ := h.l
 obtain ⟨xs, rfl, h2⟩ := fitLL_map en wt hd l m h1
 exact ⟨xs, rfl, by omega⟩
theorem sum_one {α : Type} (l : List α) : (l.map fun _ => 1).sum = l.length := by
 induction l with
 | nil => rfl
 | cons a l ih => simp [ih]; omega
theorem arg_read {m fuel : Nat} {t : TypeId} {shs : List Sh} {v : Value} {d : DataW H} {ps : List MemPlace} (hs : shOf P m t = some shs) (hx : DataW.trod enc P w 0 (fun _ => true) true fuel t v.cells.toList = some (d, ps)) :
  ∃ ds n, CsR w v.cells.toList ds ∧ FitL shs ds n ∧ n ≤ Rows.uptoBulk d := read P m t shs fuel _ _ hs hx
end
end Go.Ab

/-
  What a row reads: numbers, lists, topologies.
-/
namespace Go.Ab
open Go.Proofs Go.Proofs.Ytlehnbmcbjoebaa Go.ChangeShapes Go.WideShapes Go.ChangeAt Go.RowKit
abbrev shI : Sh := .int .i64
def shTop : List Sh := [shI, .list 1 [.bool], .list 7 [shI, shI, shI, shI, shI, shI, shI]]
theorem dec_i : ∀ e n, FitL [shI] e n → ∃ a : Int, e = encI a ∧ 1 ≤ n := by
 intro e n h
 have hw := h.weight
 obtain ⟨d, ds, a, b, rfl, rfl, h1, h2⟩ := h.un
 obtain ⟨z, rfl, _⟩ := h1.i
 rw [h2.end]
 exact ⟨z, rfl, by simpa using hw⟩
theorem dec_b : ∀ e n, FitL [.bool] e n → ∃ a : Bool, e = encB a ∧ 1 ≤ n := by
 intro e n h
 have hw := h.weight
 obtain ⟨d, ds, a, b, rfl, rfl, h1, h2⟩ := h.un
 obtain ⟨z, rfl⟩ := h1.b
 rw [h2.end]
 exact ⟨z, rfl, by simpa using hw⟩
theorem dec_lk : ∀ e n, FitL [shI, shI, shI, shI, shI, shI, shI] e n → ∃ a : Lk, e = encLk a ∧ 1 ≤ n := by
 intro e n h
 have hw := h.weight
 simp only [List.length_cons] at hw
 obtain ⟨d0, ds0, _, _, rfl, rfl, g0, h_0⟩ := h.un
 obtain ⟨z1, rfl, w_z1⟩ := g0.i
 obtain ⟨d1, ds1, _, _, rfl, rfl, g1, h_1⟩ := h_0.un
 obtain ⟨z2, rfl, w_z2⟩ := g1.i
 obtain ⟨d2, ds2, _, _, rfl, rfl, g2, h_2⟩ := h_1.un
 obtain ⟨z3, rfl, w_z3⟩ := g2.i
 obtain ⟨d3, ds3, _, _, rfl, rfl, g3, h_3⟩ := h_2.un
 obtain ⟨z4, rfl, w_z4⟩ := g3.i
 obtain ⟨d4, ds4, _, _, rfl, rfl, g4, h_4⟩ := h_3.un
 obtain ⟨z5, rfl, w_z5⟩ := g4.i
 obtain ⟨d5, ds5, _, _, rfl, rfl, g5, h_5⟩ := h_4.un
 obtain ⟨z6, rfl, w_z6⟩ := g5.i
 obtain ⟨d6, ds6, _, _, rfl, rfl, g6, h_6⟩ := h_5.un
 obtain ⟨z7, rfl, w_z7⟩ := g6.i
 rw [h_6.end]
 exact ⟨⟨z1, z2, z3, z4, z5, z6, z7⟩, rfl, by omega⟩
theorem kids : Kids Try.prog (· < Try.prog.types.size) := kids_rows (by kernel_rfl) (by kernel_rfl)
theorem full : ∀ t e, t < Try.prog.types.size → Try.prog.underlying t = some (.slice e) → 0 < Try.prog.cellsOf e := slices_full_of Try.prog (by kernel_rfl)
theorem own : ownKnob Try.prog.godebug = none := by kernel_rfl
end Go.Ab

/-
  Chapter 47: what a row of a script reads.
-/
namespace Go.Ab
open Go.Proofs Go.Proofs.Ytlehnbmcbjoebaa Go.ChangeShapes Go.WideShapes Go.ChangeAt Go.RowKit
def shRq : List Sh := [shI, .list 1 [shI], shI, shI, shI]
def shStp : List Sh := .bool :: shRq
def i64 (n : Int) : Prop := -9223372036854775808 ≤ n ∧ n ≤ 9223372036854775807
theorem wf_i64 {n : Int} (h : (Lit.int .i64 n).wf = true) : i64 n := by
 simp only [Lit.wf, Bool.and_eq_true, decide_eq_true_eq] at h
 exact h
abbrev StpR := {x : Stp // i64 x.r.id}
abbrev RqR := {x : Rq // i64 x.id}
def encSR (x : StpR) : List D := encStp x.1
def rqRA (c : RqR) : AV := rqA c.1
theorem script_D (l : List StpR) : (D.list false 6 (l.map encSR)) = stpsD (l.map (·.1)) := by rw [stpsD, List.map_map]; rfl
theorem script_rng (l : List StpR) : ∀ x ∈ l.map (·.1), -9223372036854775808 ≤ x.r.id ∧ x.r.id ≤ 9223372036854775807 := fun x hx => by
 obtain ⟨y, _, rfl⟩ := List.mem_map.1 hx
 exact y.2
theorem dec_stp : ∀ e n, FitL shStp e n → ∃ a : StpR, e = encSR a ∧ 1 ≤ n := by
 intro e n h
 have hw := h.weight
 simp only [shStp, List.length_cons] at hw
 obtain ⟨d0, ds0, _, _, rfl, rfl, g0, h_0⟩ := h.un
 obtain ⟨rel, rfl⟩ := g0.b
 obtain ⟨d1, ds1, _, _, rfl, rfl, g1, h_1⟩ := h_0.un
 obtain ⟨id, rfl, w_id⟩ := g1.i
 obtain ⟨d2, ds2, _, _, rfl, rfl, g2, h_2⟩ := h_1.un
 obtain ⟨arcs, rfl, w_arcs⟩ := g2.lm encI (fun _ => 1) dec_i
 rw [sum_one] at w_arcs
 obtain ⟨d3, ds3, _, _, rfl, rfl, g3, h_3⟩ := h_2.un
 obtain ⟨amt, rfl, w_amt⟩ := g3.i
 obtain ⟨d4, ds4, _, _, rfl, rfl, g4, h_4⟩ := h_3.un
 obtain ⟨setup, rfl, w_setup⟩ := g4.i
 obtain ⟨d5, ds5, _, _, rfl, rfl, g5, h_5⟩ := h_4.un
 obtain ⟨hold, rfl, w_hold⟩ := g5.i
 rw [h_5.end]
 exact ⟨⟨⟨rel, id, arcs, amt, setup, hold⟩, wf_i64 w_id⟩, rfl, by omega⟩
theorem dec_top {ds : List D} {n : Nat} (h : FitL shTop ds n) : ∃ c : Top, topA c = .agg (ds.map .d) ∧ 0 ≤ n := by
 obtain ⟨d0, ds0, _, _, rfl, rfl, g0, h_0⟩ := h.un
 obtain ⟨nodes, rfl, w_nodes⟩ := g0.i
 obtain ⟨d1, ds1, _, _, rfl, rfl, g1, h_1⟩ := h_0.un
 obtain ⟨ov, rfl, w_ov⟩ := g1.lm encB (fun _ => 1) dec_b
 rw [sum_one] at w_ov
 obtain ⟨d2, ds2, _, _, rfl, rfl, g2, h_2⟩ := h_1.un
 obtain ⟨links, rfl, w_links⟩ := g2.lm encLk (fun _ => 1) dec_lk
 rw [sum_one] at w_links
 rw [h_2.end]
 exact ⟨⟨nodes, ov, links⟩, rfl, by omega⟩
theorem dec_rq {ds : List D} {n : Nat} (h : FitL shRq ds n) : ∃ c : RqR, rqRA c = .agg (ds.map .d) ∧ 0 ≤ n := by
 obtain ⟨d0, ds0, _, _, rfl, rfl, g0, h_0⟩ := h.un
 obtain ⟨id, rfl, w_id⟩ := g0.i
 obtain ⟨d1, ds1, _, _, rfl, rfl, g1, h_1⟩ := h_0.un
 obtain ⟨arcs, rfl, w_arcs⟩ := g1.lm encI (fun _ => 1) dec_i
 rw [sum_one] at w_arcs
 obtain ⟨d2, ds2, _, _, rfl, rfl, g2, h_2⟩ := h_1.un
 obtain ⟨amt, rfl, w_amt⟩ := g2.i
 obtain ⟨d3, ds3, _, _, rfl, rfl, g3, h_3⟩ := h_2.un
 obtain ⟨setup, rfl, w_setup⟩ := g3.i
 obtain ⟨d4, ds4, _, _, rfl, rfl, g4, h_4⟩ := h_3.un
 obtain ⟨hold, rfl, w_hold⟩ := g4.i
 rw [h_4.end]
 exact ⟨⟨⟨id, arcs, amt, setup, hold⟩, wf_i64 w_id⟩, rfl, by omega⟩
theorem CsR.head {w : World} {v : Value} {d : D} (h : CsR w [v] [d]) : DR (fun b => b < w.heap.size) w v d := h.2 0 _ _ rfl rfl
end Go.Ab

/-
  Reservations, part u: the laws Script and Free.
-/
namespace Go.Ab
open Go.Proofs
theorem run_rng {t : Top} {s : List Stp} (h : ∀ x ∈ s, -9223372036854775808 ≤ x.r.id ∧ x.r.id ≤ 9223372036854775807) : Rng (runS t [] s) := fun r hr => by
 rcases mem_run hr with h1 | ⟨y, h1, rfl⟩
 ·simp at h1
 ·exact h y h1
end Go.Ab

/-
  Reservations, part x: the law Priority.
-/
namespace Go.Ab
open Go.Proofs
theorem res_err {t : Top} {l : List Rq} {r : Rq} (he : (resS t l r).2.2 ≠ 0) : (resS t l r).1 = l ∧ (resS t l r).2.1 = [] ∧ ((resS t l r).2.2 = 12 → ∃ a ∈ r.arcs, roomS t l a r.setup < r.amt) := by
 unfold resS at he ⊢
 by_cases hp : PropN (arcsT t) r
 rotate_left
 ·rw [if_pos hp]; exact ⟨rfl, rfl, fun h => absurd h (by simp)⟩
 rw [if_neg (not_not_intro hp)] at he ⊢
 by_cases hid : r.id ∈ l.map (·.id)
 ·rw [if_pos hid]; exact ⟨rfl, rfl, fun h => absurd h (by simp)⟩
 rw [if_neg hid] at he ⊢
 by_cases hfu : fullS t l r = true
 ·rw [if_pos hfu]
  refine ⟨rfl, rfl, fun _ => ?_⟩
  rw [fullS, List.any_eq_true] at hfu
  obtain ⟨a, ha, h⟩ := hfu
  exact ⟨a, ha, of_decide_eq_true h⟩
 rw [if_neg hfu] at he
 exact absurd rfl he
theorem res_suc {t : Top} {l : List Rq} {r : Rq} (he : (resS t l r).2.2 = 0) : PropN (arcsT t) r ∧ r.id ∉ l.map (·.id) ∧ (∀ a ∈ r.arcs, r.amt ≤ roomS t l a r.setup) ∧ (resS t l r).1 = withR r (leftR l (preS t l r)) ∧ (resS t l r).2.1 = preS t l r := by
 unfold resS at he ⊢
 by_cases hp : PropN (arcsT t) r
 rotate_left
 ·rw [if_pos hp] at he; exact absurd he (by simp)
 rw [if_neg (not_not_intro hp)] at he ⊢
 by_cases hid : r.id ∈ l.map (·.id)
 ·rw [if_pos hid] at he; exact absurd he (by simp)
 rw [if_neg hid] at he ⊢
 by_cases hfu : fullS t l r = true
 ·rw [if_pos hfu] at he; exact absurd he (by simp)
 rw [if_neg hfu]
 refine ⟨hp, hid, fun a ha => ?_, rfl, rfl⟩
 rw [fullS, List.any_eq_true] at hfu
 exact Int.not_lt.1 fun h => hfu ⟨a, ha, decide_eq_true h⟩
theorem pre_mem {t : Top} {l : List Rq} {r : Rq} {i : Int} (h : i ∈ preS t l r) : ∃ x ∈ l, x.id = i ∧ r.setup < x.hold ∧ ∃ a ∈ x.arcs, a ∈ r.arcs := by
 rw [preS] at h
 have hc : ∀ x ∈ cdn l (7 - r.setup).toNat, x ∈ l ∧ r.setup < x.hold := fun x hx => by
  have := mem_cdn.1 hx
  exact ⟨this.1, by omega⟩
 have key : ∀ (c : List Rq) (out : List Int), (∀ x ∈ c, x ∈ l ∧ r.setup < x.hold) → i ∈ c.foldl (preStep t l r) out → i ∈ out ∨ ∃ x ∈ l, x.id = i ∧ r.setup < x.hold ∧ ∃ a ∈ x.arcs, a ∈ r.arcs := by
  intro c
  induction c with
  | nil => intro out _ h; exact .inl h
  | cons x c ih =>
   intro out hx h
   rcases ih _ (fun y hy => hx y (List.mem_cons_of_mem _ hy)) h with h | h
   ·rw [preStep] at h
    split at h
    ·next hs =>
     rcases List.mem_append.1 h with h | h
     ·exact .inl h
     ·simp only [List.mem_singleton] at h
      obtain ⟨h1, h2⟩ := hx x (List.mem_cons_self ..)
      rw [shortS, List.any_eq_true] at hs
      obtain ⟨a, ha, hsa⟩ := hs
      simp only [shortA, Bool.and_eq_true, decide_eq_true_eq] at hsa
      exact .inr ⟨x, h1, h.symm, h2, a, hsa.1, ha⟩
    ·exact .inl h
   ·exact .inr h
 rcases key _ _ hc h with h | h
 ·simp at h
 ·exact h
theorem get_gone {m l : List Rq} (hp : m.Perm l) {i : Int} (h : i ∉ l.map (·.id)) : getS m i = (⟨0, [], 0, 0, 0⟩, false) :=
 getS_no fun h2 => h ((hp.map fun x : Rq => x.id).mem_iff.1 h2)
theorem get_after {t : Top} {l m : List Rq} {r : Rq} (hv : validT t = true) (ht : TbI t l) (hl : l.length < 1000) (he : (resS t l r).2.2 = 0) (hp : m.Perm (resS t l r).1) {x : Rq} (hx : x ∈ l) : (getS m x.id).2 = !decide (x.id ∈ (resS t l r).2.1) := by
 obtain ⟨_, hid, _, h1, h2⟩ := res_suc he
 have hti := ht.res hv r hl
 rw [h1] at hp hti
 rw [h2]
 by_cases h : x.id ∈ preS t l r
 ·rw [decide_eq_true h, get_gone hp]
  ·rfl
  ·intro hm
   obtain ⟨y, hy, e⟩ := List.mem_map.1 hm
   rcases withR_mem.1 hy with rfl | hy
   ·exact hid (List.mem_map.2 ⟨x, hx, e.symm⟩)
   ·have := of_decide_eq_true (List.mem_filter.1 hy).2
    exact this (by rw [e]; exact h)
 ·rw [decide_eq_false h, get_ref hp hti.ids (withR_mem.2 (.inr (List.mem_filter.2 ⟨hx, decide_eq_true h⟩)))]; rfl
theorem prio_law (P : Program) (hP : P = Try.prog) (t : Top) (s : List Stp) (r : Rq) (hr : ∀ x ∈ s, -9223372036854775808 ≤ x.r.id ∧ x.r.id ≤ 9223372036854775807) :
  Ret P n_law47_ReservePriority [topA t, .c (.d (stpsD s)), rqA r] (bA true) := by
 have haw := awake_ok P hP
 have hsm := small_ok P hP t
 have hfw := few_ok47 P hP s
 by_cases h1 : (decide (t.links.length ≤ 10) && validT t) = true
 rotate_left
 ·rw [Bool.not_eq_true] at h1
  rw [h1] at hsm
  clear hfw
  refine ret_start (hP ▸ mixed) (hP ▸ fn_law47_ReservePriority) (hP ▸ c_law47_ReservePriority) (Nat.le_of_ble_eq_true rfl) fun Λ Λo K hK => ?_
  clear hP
  obtain ⟨id, arcs, amt, setup, hold⟩ := r
  simp only [topA, rqA, stpA, boolsD, linksD, stpsD, intsD] at *
  generalize t.ov.map encB = ol at *
  generalize t.links.map encLk = ll at *
  generalize s.map encStp = sl at *
  generalize alh : List.map encI arcs = al at *
  have aln : Λ al = arcs.length := by rw [Λo, ← alh]; simp
  conv => cbv
  repeat' first | refine call_b haw rfl rfl ?_ ?_ | refine call_b hsm rfl rfl ?_ ?_ | exact gu | exact trivial | refine And.intro ?_ ?_ | (intro hc; exact absurd hc (by decide)) | (intro hc; exfalso; omega) | (intro hc; (first | rw [wrap_small (by omega) (by omega)] at hc | rw [nI_eq] at hc | skip); try (conv => cbv))
  all_goals first | exact hK | (exfalso; omega)
 rw [h1] at hsm
 by_cases hf : fewR s = true
 rotate_left
 ·rw [Bool.not_eq_true] at hf
  rw [hf] at hfw
  refine ret_start (hP ▸ mixed) (hP ▸ fn_law47_ReservePriority) (hP ▸ c_law47_ReservePriority) (Nat.le_of_ble_eq_true rfl) fun Λ Λo K hK => ?_
  clear hP
  obtain ⟨id, arcs, amt, setup, hold⟩ := r
  simp only [topA, rqA, stpA, boolsD, linksD, stpsD, intsD] at *
  generalize t.ov.map encB = ol at *
  generalize t.links.map encLk = ll at *
  generalize s.map encStp = sl at *
  generalize alh : List.map encI arcs = al at *
  have aln : Λ al = arcs.length := by rw [Λo, ← alh]; simp
  conv => cbv
  repeat' first | refine call_b haw rfl rfl ?_ ?_ | refine call_b hsm rfl rfl ?_ ?_ | refine call_b hfw rfl rfl ?_ ?_ | exact gu | exact trivial | refine And.intro ?_ ?_ | (intro hc; exact absurd hc (by decide)) | (intro hc; exfalso; omega) | (intro hc; (first | rw [wrap_small (by omega) (by omega)] at hc | rw [nI_eq] at hc | skip); try (conv => cbv))
  all_goals first | exact hK | (exfalso; omega)
 rw [hf] at hfw
 by_cases hr70 : r.arcs.length ≤ 70
 rotate_left
 ·
  refine ret_start (hP ▸ mixed) (hP ▸ fn_law47_ReservePriority) (hP ▸ c_law47_ReservePriority) (Nat.le_of_ble_eq_true rfl) fun Λ Λo K hK => ?_
  clear hP
  obtain ⟨id, arcs, amt, setup, hold⟩ := r
  simp only at hr70
  simp only [topA, rqA, stpA, boolsD, linksD, stpsD, intsD] at *
  generalize t.ov.map encB = ol at *
  generalize t.links.map encLk = ll at *
  generalize s.map encStp = sl at *
  generalize alh : List.map encI arcs = al at *
  have aln : Λ al = arcs.length := by rw [Λo, ← alh]; simp
  conv => cbv
  repeat' first | refine call_b haw rfl rfl ?_ ?_ | refine call_b hsm rfl rfl ?_ ?_ | refine call_b hfw rfl rfl ?_ ?_ | exact gu | exact trivial | refine And.intro ?_ ?_ | (intro hc; exact absurd hc (by decide)) | (intro hc; exfalso; omega) | (intro hc; (first | rw [wrap_small (by omega) (by omega)] at hc | rw [nI_eq] at hc | skip); try (conv => cbv))
  all_goals first | exact hK | (exfalso; omega)
 have hv : validT t = true := (Bool.and_eq_true_iff.1 h1).2
 have hbu := build_ok47 P hP t s hv hf
 have hle : (runS t [] s).length ≤ 25 := by have h1 := run_len t s []; have h2 := (few_spec.1 hf).2; simp at h1; omega
 have hti : TbI t (runS t [] s) := TbI.run hv s (TbI.nil t) (by have := (few_spec.1 hf).2; simp; omega)
 have hrg := run_rng (t := t) hr
 generalize runS t [] s = l at *
 have hsa := fun (v : Nat) (m : List Rq) (hp : m.Perm l) => same_ok47 P hP v hv hp hti hrg
 obtain ⟨c1, c2⟩ := capsT_le hv
 have hroom : ∀ (v : Nat) (m : List Rq) (hp : m.Perm l) (a : Int), FnS P n_reserve_Table_Room [.c (.ptr 0 0 0 0), iA a, iA r.setup] (rsvH (capsT t) v m) fun r' h' => r' = iA (roomS t l a r.setup) ∧ h' = rsvH (capsT t) v m := fun v m hp a => by
  have := troom_ok P hP (capsT t) v m a r.setup ⟨fun r hr => hti.sml.1 r (hp.mem_iff.1 hr), by have := hp.length_eq; omega⟩ c1 c2
  rw [room_ref hv hp] at this
  exact this
 have hpg := program_ok P hP r (by omega)
 have hres := fun (v : Nat) (m : List Rq) (hp : m.Perm l) => tres_ref P hP v r hv hp hti (by omega)
 have herr := @res_err t l r
 have hsuc : (resS t l r).2.2 = 0 → ∀ a ∈ r.arcs, r.amt ≤ roomS t l a r.setup := fun h => (res_suc h).2.2.1
 have hti2 := hti.res hv r (by omega)
 have hget : ∀ (v : Nat) (m : List Rq) (hp : m.Perm (resS t l r).1), (resS t l r).2.2 = 0 → ∀ x ∈ l, ∃ q, FnS P n_reserve_Table_Get [.c (.ptr 0 0 0 0), iA x.id] (rsvH (capsT t) v m) fun r' h' => r' = .tup [rqA q, bA (!decide (x.id ∈ (resS t l r).2.1))] ∧ h' = rsvH (capsT t) v m := fun v m hp he x hx => by
  have := tget_ok P hP (capsT t) v m x.id (fun r hr => by have := (hti2.prop r (hp.mem_iff.1 hr)).1; omega)
  rw [get_after hv hti (by omega) he hp hx] at this
  exact ⟨_, this⟩
 have hpm : (resS t l r).2.2 = 0 → ∀ x ∈ l, x.id ∈ (resS t l r).2.1 → r.setup < x.hold ∧ ∃ a ∈ x.arcs, a ∈ r.arcs := fun he x hx hm => by
  rw [(res_suc he).2.2.2.2] at hm
  obtain ⟨y, hy, e, h1, h2⟩ := pre_mem hm
  have := hti.ids.inj hy hx e
  subst this
  exact ⟨h1, h2⟩
 have hhas := fun a => has_ok P hP r.arcs a
 have hhas2 := fun a => has_ok P hP (resS t l r).2.1 a
 clear hti hr hf hv h1 hrg c1 c2 hti2
 generalize (resS t l r).1 = l1 at *
 generalize (resS t l r).2.1 = o1 at *
 generalize (resS t l r).2.2 = e1 at *
 generalize roomS t l = rs at *
 refine ret_start (hP ▸ mixed) (hP ▸ fn_law47_ReservePriority) (hP ▸ c_law47_ReservePriority) (Nat.le_of_ble_eq_true rfl) fun Λ Λo K hK => ?_
 clear hP
 obtain ⟨id, arcs, amt, setup, hold⟩ := r
 simp only [rsvH, tbA, topA, intsA, rqA, boolsD, linksD, rqsD, stpsD, intsD] at *
 generalize (capsT t).map encI = cl at *
 generalize t.ov.map encB = ol at *
 generalize t.links.map encLk = ll at *
 generalize s.map encStp = sl at *
 generalize rlh : l.map encRq = rl at *
 have rln : Λ rl = l.length := by rw [Λo, ← rlh]; simp
 generalize t.nodes = nodes at *
 generalize alh : List.map encI arcs = al at *
 have aln : Λ al = arcs.length := by rw [Λo, ← alh]; simp
 generalize glh : List.map encI o1 = gl at *
 have gln : Λ gl = o1.length := by rw [Λo, ← glh]; simp
 conv => cbv
 repeat' first | refine call_b haw rfl rfl ?_ ?_ | refine call_b hsm rfl rfl ?_ ?_ | refine call_b hfw rfl rfl ?_ ?_ | (refine call_fr [] hbu rfl rfl (by decide) (by repeat' first | exact trivial | refine And.intro ?_ ?_ | rfl) rfl rfl ?_; rintro r hc' ⟨v', m', hp, rfl, rfl⟩; have hro := hroom v' m' hp; have hre := hres v' m' hp; generalize hme : List.map encM m' = me at *; clear hroom hres; (conv => cbv)) | exact gu | exact trivial | refine And.intro ?_ ?_ | (intro hc; exact absurd hc (by decide)) | (intro hc; exfalso; omega) | (intro hc; (first | rw [wrap_small (by omega) (by omega)] at hc | rw [nI_eq] at hc | skip); try (conv => cbv))
 refine loop_upx arcs.length (fun (z : Int × Bool) => [(5, .c (.ptr 1 0 0 0)), (7, .c (.ptr 2 0 0 0)), (8, .c (.ptr 4 0 0 0)), (10, bA z.2), (11, iA z.1)])
  (fun _ => [.bx [.d (iD nodes), .d (.list false 1 ol), .d (.list false 7 ll)], .bx [.d (iD id), .d (.list false 1 al), .d (iD amt), .d (iD setup), .d (iD hold)], .bx [.d (.list false 1 cl), .mp 3], .mp v' me, .bx [.d (iD nodes), .d (.list false 1 ol), .d (.list false 7 ll), .d (.list false 5 rl)]])
  (fun k z => z.1 = k ∧ k ≤ arcs.length ∧ (z.2 = true → ∀ a ∈ arcs.take k, amt ≤ rs a setup) ∧ (z.2 = false → ∃ a ∈ arcs, rs a setup < amt)) (0, true) 0
  (fun (b : Bool) => [(5, .c (.ptr 1 0 0 0)), (7, .c (.ptr 2 0 0 0)), (8, .c (.ptr 4 0 0 0)), (10, bA b)]) (fun _ => [.bx [.d (iD nodes), .d (.list false 1 ol), .d (.list false 7 ll)], .bx [.d (iD id), .d (.list false 1 al), .d (iD amt), .d (iD setup), .d (iD hold)], .bx [.d (.list false 1 cl), .mp 3], .mp v' me, .bx [.d (iD nodes), .d (.list false 1 ol), .d (.list false 7 ll), .d (.list false 5 rl)]]) (fun b => (b = true → ∀ a ∈ arcs, amt ≤ rs a setup) ∧ (b = false → ∃ a ∈ arcs, rs a setup < amt))
  (Wk.ca) ⟨rfl, by omega, by simp, by simp⟩ (fun k s h => h.2.1) ?_ ?_
 ·rintro k ⟨i, fr⟩ Q' ⟨hi, hk, hall, hex⟩ norm jn ex rt
  simp only at hi hall hex
  by_cases hlt : k < arcs.length
  ·clear jn hre hget hpm hhas hhas2 herr hsuc hsa
   obtain ⟨x, hx⟩ : ∃ x, arcs[k]? = some x := ⟨_, List.getElem?_eq_getElem hlt⟩
   have hxa := elt_at alh hi hx
   have hrx := hro x
   have nxt : fr = true → amt ≤ rs x setup → ∀ y ∈ arcs.take (k + 1), amt ≤ rs y setup := fun h h2 y hy => by
    rw [take_succ_get hx] at hy
    rcases List.mem_append.1 hy with hy | hy
    ·exact hall h y hy
    ·simp only [List.mem_singleton] at hy; subst hy; exact h2
   have bad : rs x setup < amt → ∃ a ∈ arcs, rs a setup < amt := fun h => ⟨x, List.mem_of_getElem? hx, h⟩
   generalize rs x setup = b at *
   cases fr with
   | false =>
    conv => cbv
    repeat' first | (refine ex _ _ _ ?_; (conv => cbv)) | (refine rt _ _ ?_; (conv => cbv)) | exact gu | exact trivial | refine And.intro ?_ ?_ | (intro hc; exact absurd hc (by decide)) | (intro hc; exfalso; omega) | (intro hc; (first | rw [wrap_small (by omega) (by omega)] at hc | rw [nI_eq] at hc | skip); try (conv => cbv))
    refine norm _ _ (_, _) ?_ (Wk.ca)
    exact ⟨by simp only; omega, by omega, (fun h => nomatch h), fun _ => hex rfl⟩
   | true =>
    conv => cbv
    repeat' first | (refine ex _ _ _ ?_; (conv => cbv)) | (refine rt _ _ ?_; (conv => cbv)) | (intro e he; cases Option.some.inj (he.symm.trans hxa); (conv => cbv)) | exact gu | exact trivial | refine And.intro ?_ ?_ | (intro hc; exact absurd hc (by decide)) | (intro hc; exfalso; omega) | (intro hc; (first | rw [wrap_small (by omega) (by omega)] at hc | rw [nI_eq] at hc | skip); try (conv => cbv))
    refine call_ro [2, 3] hrx (Nat.succ_pos _) (fun _ => rfl) rfl (by decide) (fun _ => by repeat' first | exact trivial | refine And.intro ?_ ?_ | rfl) rfl rfl (fun _ => rfl) (fun p h1 h2 => ?_) ?_
    ·have q0 : p 2 := h1 (.c (.ptr 2 0 0 0)) (by simp [evsN, evN, lkN])
     have q1 : p 3 := h2 2 _ q0 rfl (.mp 3) (by simp)
     intro l hl
     simp only [List.mem_cons, List.not_mem_nil, or_false] at hl
     rcases hl with rfl | rfl <;> assumption
    conv => cbv
    repeat' first | (refine ex _ _ _ ?_; (conv => cbv)) | (refine rt _ _ ?_; (conv => cbv)) | exact gu | exact trivial | refine And.intro ?_ ?_ | (intro hc; exact absurd hc (by decide)) | (intro hc; exfalso; omega) | (intro hc; (first | rw [wrap_small (by omega) (by omega)] at hc | rw [nI_eq] at hc | skip); try (conv => cbv))
    ·refine norm _ _ (_, _) ?_ (Wk.ca)
     exact ⟨by simp only; omega, by omega, fun _ => nxt rfl (by omega), fun h => nomatch h⟩
    ·refine norm _ _ (_, _) ?_ (Wk.ca)
     exact ⟨by simp only; omega, by omega, (fun h => nomatch h), fun _ => bad (by omega)⟩
  ·obtain rfl : k = arcs.length := by omega
   rw [List.take_length] at hall
   clear norm
   conv => cbv
   repeat' first | exact gu | exact trivial | refine And.intro ?_ ?_ | (intro hc; exact absurd hc (by decide)) | (intro hc; exfalso; omega) | (intro hc; (first | rw [wrap_small (by omega) (by omega)] at hc | rw [nI_eq] at hc | skip); try (conv => cbv))
   exact jn _ _ fr ⟨hall, hex⟩ (Wk.ca)
 rintro fr ⟨hall, hex⟩
 clear hro
 by_cases he : e1 = 0
 ·have hfr : fr = true := by
   cases fr with
   | true => rfl
   | false =>
    obtain ⟨a, ha, h⟩ := hex rfl
    have := hsuc he a ha
    omega
  subst hfr
  have hget2 := fun v m hp => hget v m hp he
  have hpm2 := hpm he
  subst he
  clear herr hsuc hall hex hsa hget hpm
  conv => cbv
  repeat' first | (refine call_r hpg rfl rfl ?_; conv => cbv) | (refine call_fr [2, 3] hre rfl rfl (by decide) (by repeat' first | exact trivial | refine And.intro ?_ ?_ | rfl) rfl rfl ?_; rintro r hc' ⟨v2, m2, hp2, rfl, rfl⟩; have hg2 := hget2 v2 m2 hp2; generalize hme2 : List.map encM m2 = me2 at *; clear hre hget2; (conv => cbv)) | exact gu | exact trivial | refine And.intro ?_ ?_ | (intro hc; exact absurd hc (by decide)) | (intro hc; exfalso; omega) | (intro hc; (first | rw [wrap_small (by omega) (by omega)] at hc | rw [nI_eq] at hc | skip); try (conv => cbv))
  refine loop_up l.length (fun (i : Int) => [(5, .c (.ptr 1 0 0 0)), (7, .c (.ptr 2 0 0 0)), (8, .c (.ptr 4 0 0 0)), (10, bA true), (12, .c (.d (.list false 1 gl))), (14, iA i)]) (fun _ => [.bx [.d (iD nodes), .d (.list false 1 ol), .d (.list false 7 ll)], .bx [.d (iD id), .d (.list false 1 al), .d (iD amt), .d (iD setup), .d (iD hold)], .bx [.d (.list false 1 cl), .mp 3], .mp v2 me2, .bx [.d (iD nodes), .d (.list false 1 ol), .d (.list false 7 ll), .d (.list false 5 rl)]])
   (fun k i => i = k ∧ k ≤ l.length) 0 (Wk.ca) ⟨rfl, by omega⟩ (fun k s h => h.2) ?_
  rintro k i Q' ⟨hi, hk⟩ norm ex rt
  by_cases hlt : k < l.length
  ·have hmx := fun x (hx : l[k]? = some x) => List.mem_of_getElem? hx
   obtain ⟨⟨xi, xa, xm, xs, xh⟩, hx⟩ : ∃ x, l[k]? = some x := ⟨_, List.getElem?_eq_getElem hlt⟩
   have hxa := elt_at rlh hi hx
   simp only [encRq, intsD] at hxa
   generalize hxe : xa.map encI = xl at *
 
   have xxn : Λ xl = xa.length := by rw [Λo, ← hxe]; simp
   obtain ⟨⟨qi, qa, qm, qs, qh⟩, hgx⟩ := hg2 _ (hmx _ hx)
   have hpx := hpm2 _ (hmx _ hx)
   have hhx := hhas2 xi
   simp only at hgx hpx
   generalize qa.map encI = ql at hgx
   clear hg2 hpm2 hhas2 hmx
   by_cases hdd : xi ∈ o1
   ·rw [decide_eq_true hdd] at hgx hhx
    simp only [Bool.not_true] at hgx
    conv => cbv
    repeat' first | (refine ex _ _ _ ?_; (conv => cbv)) | (refine rt _ _ ?_; (conv => cbv)) | (intro e he; cases Option.some.inj (he.symm.trans hxa); (conv => cbv)) | refine call_b hhx rfl rfl ?_ ?_ | (refine call_fr [2, 3] hgx rfl rfl (by decide) (by repeat' first | exact trivial | refine And.intro ?_ ?_ | rfl) rfl rfl ?_; rintro r hc' ⟨rfl, rfl⟩; (conv => cbv)) | exact gu | exact trivial | refine And.intro ?_ ?_ | (intro hc; exact absurd hc (by decide)) | (intro hc; exfalso; omega) | (intro hc; (first | rw [wrap_small (by omega) (by omega)] at hc | rw [nI_eq] at hc | skip); try (conv => cbv))
    refine loop_up xa.length (fun (z : Int × Bool) => [(5, .c (.ptr 1 0 0 0)), (7, .c (.ptr 2 0 0 0)), (8, .c (.ptr 4 0 0 0)), (10, bA true), (12, .c (.d (.list false 1 gl))), (14, iA i), (15, .c (.ptr 5 0 0 0)), (17, bA false), (18, bA z.2), (19, iA z.1)])
     (fun _ => [.bx [.d (iD nodes), .d (.list false 1 ol), .d (.list false 7 ll)], .bx [.d (iD id), .d (.list false 1 al), .d (iD amt), .d (iD setup), .d (iD hold)], .bx [.d (.list false 1 cl), .mp 3], .mp v2 me2, .bx [.d (iD nodes), .d (.list false 1 ol), .d (.list false 7 ll), .d (.list false 5 rl)], .bx [.d (iD xi), .d (.list false 1 xl), .d (iD xm), .d (iD xs), .d (iD xh)]])
     (fun k2 z => z.1 = k2 ∧ k2 ≤ xa.length ∧ ((∃ a ∈ xa.take k2, a ∈ arcs) → z.2 = true)) (0, false) (Wk.ca) ⟨rfl, by omega, fun h => by obtain ⟨a, ha, _⟩ := h; simp at ha⟩ (fun k s h => h.2.1) ?_
    rintro k2 ⟨j, sh⟩ Q2 ⟨hj, hk2, hsh⟩ norm2 ex rt
    simp only at hj hsh
    by_cases hlt2 : k2 < xa.length
    ·obtain ⟨y, hy⟩ : ∃ y, xa[k2]? = some y := ⟨_, List.getElem?_eq_getElem hlt2⟩
     have hya := elt_at hxe hj hy
     have hhy := hhas y
     have hst : (∃ a ∈ xa.take (k2 + 1), a ∈ arcs) → (∃ a ∈ xa.take k2, a ∈ arcs) ∨ y ∈ arcs := fun ⟨a, ha, h⟩ => by
      rw [take_succ_get hy] at ha
      rcases List.mem_append.1 ha with ha | ha
      ·exact .inl ⟨a, ha, h⟩
      ·simp only [List.mem_singleton] at ha; subst ha; exact .inr h
     by_cases hya2 : y ∈ arcs
     ·rw [decide_eq_true hya2] at hhy
      cases sh
      all_goals conv => cbv
      all_goals repeat' first | (refine ex _ _ _ ?_; (conv => cbv)) | (refine rt _ _ ?_; (conv => cbv)) | (intro e he; cases Option.some.inj (he.symm.trans hya); (conv => cbv)) | refine call_b hhy rfl rfl ?_ ?_ | exact gu | exact trivial | refine And.intro ?_ ?_ | (intro hc; exact absurd hc (by decide)) | (intro hc; exfalso; omega) | (intro hc; (first | rw [wrap_small (by omega) (by omega)] at hc | rw [nI_eq] at hc | skip); try (conv => cbv))
      all_goals refine norm2 _ _ (_, _) ?_ (Wk.ca)
      all_goals exact ⟨by simp only; omega, by omega, fun _ => rfl⟩
     ·rw [decide_eq_false hya2] at hhy
      cases sh
      ·conv => cbv
       repeat' first | (refine ex _ _ _ ?_; (conv => cbv)) | (refine rt _ _ ?_; (conv => cbv)) | (intro e he; cases Option.some.inj (he.symm.trans hya); (conv => cbv)) | refine call_b hhy rfl rfl ?_ ?_ | exact gu | exact trivial | refine And.intro ?_ ?_ | (intro hc; exact absurd hc (by decide)) | (intro hc; exfalso; omega) | (intro hc; (first | rw [wrap_small (by omega) (by omega)] at hc | rw [nI_eq] at hc | skip); try (conv => cbv))
       refine norm2 _ _ (_, _) ?_ (Wk.ca)
       exact ⟨by simp only; omega, by omega, fun h => by rcases hst h with h | h; exact hsh h; exact absurd h hya2⟩
      ·conv => cbv
       repeat' first | (refine ex _ _ _ ?_; (conv => cbv)) | (refine rt _ _ ?_; (conv => cbv)) | (intro e he; cases Option.some.inj (he.symm.trans hya); (conv => cbv)) | refine call_b hhy rfl rfl ?_ ?_ | exact gu | exact trivial | refine And.intro ?_ ?_ | (intro hc; exact absurd hc (by decide)) | (intro hc; exfalso; omega) | (intro hc; (first | rw [wrap_small (by omega) (by omega)] at hc | rw [nI_eq] at hc | skip); try (conv => cbv))
       refine norm2 _ _ (_, _) ?_ (Wk.ca)
       exact ⟨by simp only; omega, by omega, fun _ => rfl⟩
    ·obtain rfl : k2 = xa.length := by omega
     rw [List.take_length] at hsh
     obtain ⟨hp1, hp2⟩ := hpx hdd
     obtain rfl := hsh hp2
     conv => cbv
     repeat' first | (refine ex _ _ _ ?_; (conv => cbv)) | (refine rt _ _ ?_; (conv => cbv)) | exact gu | exact trivial | refine And.intro ?_ ?_ | (intro hc; exact absurd hc (by decide)) | (intro hc; exfalso; omega) | (intro hc; (first | rw [wrap_small (by omega) (by omega)] at hc | rw [nI_eq] at hc | skip); try (conv => cbv))
     refine norm _ _ _ ?_ (Wk.ca)
     exact ⟨by omega, by omega⟩
   ·rw [decide_eq_false hdd] at hgx hhx
    simp only [Bool.not_false] at hgx
    conv => cbv
    repeat' first | (refine ex _ _ _ ?_; (conv => cbv)) | (refine rt _ _ ?_; (conv => cbv)) | (intro e he; cases Option.some.inj (he.symm.trans hxa); (conv => cbv)) | refine call_b hhx rfl rfl ?_ ?_ | (refine call_fr [2, 3] hgx rfl rfl (by decide) (by repeat' first | exact trivial | refine And.intro ?_ ?_ | rfl) rfl rfl ?_; rintro r hc' ⟨rfl, rfl⟩; (conv => cbv)) | exact gu | exact trivial | refine And.intro ?_ ?_ | (intro hc; exact absurd hc (by decide)) | (intro hc; exfalso; omega) | (intro hc; (first | rw [wrap_small (by omega) (by omega)] at hc | rw [nI_eq] at hc | skip); try (conv => cbv))
    refine loop_up xa.length (fun (z : Int × Bool) => [(5, .c (.ptr 1 0 0 0)), (7, .c (.ptr 2 0 0 0)), (8, .c (.ptr 4 0 0 0)), (10, bA true), (12, .c (.d (.list false 1 gl))), (14, iA i), (15, .c (.ptr 5 0 0 0)), (17, bA true), (18, bA z.2), (19, iA z.1)])
     (fun _ => [.bx [.d (iD nodes), .d (.list false 1 ol), .d (.list false 7 ll)], .bx [.d (iD id), .d (.list false 1 al), .d (iD amt), .d (iD setup), .d (iD hold)], .bx [.d (.list false 1 cl), .mp 3], .mp v2 me2, .bx [.d (iD nodes), .d (.list false 1 ol), .d (.list false 7 ll), .d (.list false 5 rl)], .bx [.d (iD xi), .d (.list false 1 xl), .d (iD xm), .d (iD xs), .d (iD xh)]])
     (fun k2 z => z.1 = k2 ∧ k2 ≤ xa.length ∧ ((∃ a ∈ xa.take k2, a ∈ arcs) → z.2 = true)) (0, false) (Wk.ca) ⟨rfl, by omega, fun h => by obtain ⟨a, ha, _⟩ := h; simp at ha⟩ (fun k s h => h.2.1) ?_
    rintro k2 ⟨j, sh⟩ Q2 ⟨hj, hk2, hsh⟩ norm2 ex rt
    simp only at hj hsh
    by_cases hlt2 : k2 < xa.length
    ·obtain ⟨y, hy⟩ : ∃ y, xa[k2]? = some y := ⟨_, List.getElem?_eq_getElem hlt2⟩
     have hya := elt_at hxe hj hy
     have hhy := hhas y
     have hst : (∃ a ∈ xa.take (k2 + 1), a ∈ arcs) → (∃ a ∈ xa.take k2, a ∈ arcs) ∨ y ∈ arcs := fun ⟨a, ha, h⟩ => by
      rw [take_succ_get hy] at ha
      rcases List.mem_append.1 ha with ha | ha
      ·exact .inl ⟨a, ha, h⟩
      ·simp only [List.mem_singleton] at ha; subst ha; exact .inr h
     by_cases hya2 : y ∈ arcs
     ·rw [decide_eq_true hya2] at hhy
      cases sh
      all_goals conv => cbv
      all_goals repeat' first | (refine ex _ _ _ ?_; (conv => cbv)) | (refine rt _ _ ?_; (conv => cbv)) | (intro e he; cases Option.some.inj (he.symm.trans hya); (conv => cbv)) | refine call_b hhy rfl rfl ?_ ?_ | exact gu | exact trivial | refine And.intro ?_ ?_ | (intro hc; exact absurd hc (by decide)) | (intro hc; exfalso; omega) | (intro hc; (first | rw [wrap_small (by omega) (by omega)] at hc | rw [nI_eq] at hc | skip); try (conv => cbv))
      all_goals refine norm2 _ _ (_, _) ?_ (Wk.ca)
      all_goals exact ⟨by simp only; omega, by omega, fun _ => rfl⟩
     ·rw [decide_eq_false hya2] at hhy
      cases sh
      ·conv => cbv
       repeat' first | (refine ex _ _ _ ?_; (conv => cbv)) | (refine rt _ _ ?_; (conv => cbv)) | (intro e he; cases Option.some.inj (he.symm.trans hya); (conv => cbv)) | refine call_b hhy rfl rfl ?_ ?_ | exact gu | exact trivial | refine And.intro ?_ ?_ | (intro hc; exact absurd hc (by decide)) | (intro hc; exfalso; omega) | (intro hc; (first | rw [wrap_small (by omega) (by omega)] at hc | rw [nI_eq] at hc | skip); try (conv => cbv))
       refine norm2 _ _ (_, _) ?_ (Wk.ca)
       exact ⟨by simp only; omega, by omega, fun h => by rcases hst h with h | h; exact hsh h; exact absurd h hya2⟩
      ·conv => cbv
       repeat' first | (refine ex _ _ _ ?_; (conv => cbv)) | (refine rt _ _ ?_; (conv => cbv)) | (intro e he; cases Option.some.inj (he.symm.trans hya); (conv => cbv)) | refine call_b hhy rfl rfl ?_ ?_ | exact gu | exact trivial | refine And.intro ?_ ?_ | (intro hc; exact absurd hc (by decide)) | (intro hc; exfalso; omega) | (intro hc; (first | rw [wrap_small (by omega) (by omega)] at hc | rw [nI_eq] at hc | skip); try (conv => cbv))
       refine norm2 _ _ (_, _) ?_ (Wk.ca)
       exact ⟨by simp only; omega, by omega, fun _ => rfl⟩
    ·obtain rfl : k2 = xa.length := by omega
     rw [List.take_length] at hsh
     cases sh
     all_goals conv => cbv
     all_goals repeat' first | (refine ex _ _ _ ?_; (conv => cbv)) | (refine rt _ _ ?_; (conv => cbv)) | exact gu | exact trivial | refine And.intro ?_ ?_ | (intro hc; exact absurd hc (by decide)) | (intro hc; exfalso; omega) | (intro hc; (first | rw [wrap_small (by omega) (by omega)] at hc | rw [nI_eq] at hc | skip); try (conv => cbv))
     all_goals refine norm _ _ _ ?_ (Wk.ca)
     all_goals exact ⟨by omega, by omega⟩
  ·obtain rfl : k = l.length := by omega
   conv => cbv
   repeat' first | (refine ex _ _ _ ?_; (conv => cbv)) | (refine rt _ _ ?_; (conv => cbv)) | exact gu | exact trivial | refine And.intro ?_ ?_ | (intro hc; exact absurd hc (by decide)) | (intro hc; exfalso; omega) | (intro hc; (first | rw [wrap_small (by omega) (by omega)] at hc | rw [nI_eq] at hc | skip); try (conv => cbv))
   exact hK
 ·obtain ⟨rfl, rfl, h12⟩ := herr he
  have h12 : fr = true → e1 ≠ 12 := fun h h2 => by
   obtain ⟨a, ha, h3⟩ := h12 h2
   have := hall h a ha
   omega
  have l0 : Λ gl = 0 := by rw [gln]; rfl
  clear herr hsuc hget hpm hall hex hhas hhas2
  cases fr with
  | false =>
   conv => cbv
   repeat' first | (refine call_r hpg rfl rfl ?_; conv => cbv) | (refine call_fr [2, 3] hre rfl rfl (by decide) (by repeat' first | exact trivial | refine And.intro ?_ ?_ | rfl) rfl rfl ?_; rintro r hc' ⟨v2, m2, hp2, rfl, rfl⟩; have hs2 := hsa v2 m2 hp2; generalize hme2 : List.map encM m2 = me2 at *; clear hre; (conv => cbv)) | (refine call_fr [2, 3] hs2 rfl rfl (by decide) (by repeat' first | exact trivial | refine And.intro ?_ ?_ | rfl) rfl rfl ?_; rintro r hc' ⟨rfl, rfl⟩; (conv => cbv)) | exact gu | exact trivial | refine And.intro ?_ ?_ | (intro hc; exact absurd hc (by decide)) | (intro hc; exfalso; omega) | (intro hc; (first | rw [wrap_small (by omega) (by omega)] at hc | rw [nI_eq] at hc | skip); try (conv => cbv))
   all_goals first | exact hK | (exfalso; omega)
  | true =>
   have h12 := h12 rfl
   conv => cbv
   repeat' first | (refine call_r hpg rfl rfl ?_; conv => cbv) | (refine call_fr [2, 3] hre rfl rfl (by decide) (by repeat' first | exact trivial | refine And.intro ?_ ?_ | rfl) rfl rfl ?_; rintro r hc' ⟨v2, m2, hp2, rfl, rfl⟩; have hs2 := hsa v2 m2 hp2; generalize hme2 : List.map encM m2 = me2 at *; clear hre; (conv => cbv)) | (refine call_fr [2, 3] hs2 rfl rfl (by decide) (by repeat' first | exact trivial | refine And.intro ?_ ?_ | rfl) rfl rfl ?_; rintro r hc' ⟨rfl, rfl⟩; (conv => cbv)) | exact gu | exact trivial | refine And.intro ?_ ?_ | (intro hc; exact absurd hc (by decide)) | (intro hc; exfalso; omega) | (intro hc; (first | rw [wrap_small (by omega) (by omega)] at hc | rw [nI_eq] at hc | skip); try (conv => cbv))
   all_goals first | exact hK | (exfalso; omega)
theorem prio_lawR (P : Program) (hP : P = Try.prog) (t : Top) (s : List StpR) (r : RqR) : Ret P n_law47_ReservePriority [topA t, .c (.d (.list false 6 (s.map encSR))), rqRA r] (bA true) := by
 rw [script_D]
 exact prio_law P hP t _ r.1 (script_rng s)
end Go.Ab

