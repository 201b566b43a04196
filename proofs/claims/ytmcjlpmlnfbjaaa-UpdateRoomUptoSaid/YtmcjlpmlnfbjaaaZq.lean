/-
  Merged texts, part q.
-/
import Derived.Test.YtmcjlpmlnfbjaaaZp
import Derived.Sort.Grow
/-
  Sorting: the library's contract, as a contract of the machine.
-/
namespace Go.Ab
open Go.Proofs Go.Sort
def SortsI (P : Program) (f : Nat) : Prop :=
 (∀ (blk off cap : Nat) (zs : List Int) (w : World), Holds (Value.int .i64) w blk off zs.toArray → blk < w.heap.size → zs.length < 4611686018427387904 →
  Calls P f #[.slice (some ⟨blk, off, none⟩) zs.length cap] w fun e w' => e = .returned (.tuple #[]) ∧ ∃ n os, w' = grow (putRow (Value.int .i64) (Sort.ahead w n) blk off (zs.mergeSort fun x y => decide (x ≤ y)).toArray) os) ∧
 ∀ (p : Option Addr) (cap : Nat) (w : World), Calls P f #[.slice p 0 cap] w fun e w' => e = .returned (.tuple #[]) ∧ w' = w
end Go.Ab

/-
  Sort of numbers at this program.
-/
namespace Go.Ab
open Go.Proofs Go.Sort
theorem sorts_int : SortsI Try.prog n_slices_Sort_int_int := ⟨fun blk off cap zs w hH hb hz => Any.slices_Sort_int Try.lays189 blk off cap zs w hH hb hz, fun p cap w => Any.slices_Sort_int_none Try.lays189 p cap w⟩
end Go.Ab

/-
  Updates, part l: the keys of a map in order: the library's contracts.
-/
namespace Go.Proofs
open Go.RowKit Go.Maps Go.Sort Go.Shelf
theorem Try.sortsM (m : Nat) : AnyZI.SortsIn Try.prog Try.sortedM_ren Fence.wide m :=
  ⟨fun blk off cap ss W hH hblk hsz => callsIn_wide.2 (Go.Ab.sorts_int.1 blk off cap ss W hH hblk hsz),
   fun p cap W => callsIn_wide.2 (Go.Ab.sorts_int.2 p cap W)⟩
theorem keys_walk {H : Type} (Bm b nn : Nat) (D0 : DataW H) (R : Value → Option (DataW H × List MemPlace)) (w : World) (hB : Bm < w.heap.size) (hc : w.cell? ⟨Bm, 0, none⟩ = some (.map (some b)))
  (hown : w.ownsMap Try.prog 3 R b nn D0) (hmax : Maps.size D0 ≤ maxLen) (hbytes : Maps.size D0 * 8 ≤ 140737488355328) :
  Calls Try.prog 50 #[.func (.func 68) #[] #[.pointer (some ⟨Bm, 0, none⟩)]] w fun e w' => ∃ (v : Value) (ss : List Int), e = .returned v ∧ ss.Perm (intKeys D0) ∧
   w'.ownsRow w.heap.size 3 1 v ss.length ((ss.mergeSort (fun x y => decide (x ≤ y))).map encZ) ∧ (v = .slice none 0 0 ↔ ss = []) ∧ Below w.heap.size w w' := by
 have hseq : SeqGives Fence.wide 2 Try.prog 68 #[.pointer (some ⟨Bm, 0, none⟩)] encZ (fun ss => ss.Perm (intKeys D0)) (Maps.size D0) w :=
  AnyZI.keys_gives (ρ := Try.keysM_ren) { Try.keysM with } Fence.wide _ trivial rfl (by omega) Bm b nn D0 _ hB hc hown
 exact (callsIn_wide (n := 5)).1 (AnyZI.sorted_in Try.sortedM Fence.wide 5 trivial trivial trivial trivial rfl (by omega) (Try.sortsM _) (enters_of Try.func67 (by kernel_rfl) rfl) 68 #[.pointer (some ⟨Bm, 0, none⟩)] trivial (enters_of Try.func68 (by kernel_rfl) rfl) _ _ hmax hbytes _ hseq)
end Go.Proofs
namespace Go.Ab
open Go.Proofs Go.Sort Go.Maps
theorem ints_new {G : Nat → Prop} {w' : World} {base : Nat} {t : TypeId} {v : Value} {l : List Int} (h : w'.ownsRow base t 1 v l.length (l.map (Value.int .i64))) (hG : ∀ b, base ≤ b → b < w'.heap.size → G b) :
  DR G w' v (.list false 1 (l.map encI)) := by
 rcases h.2 with ⟨rfl, hl⟩ | ⟨g, cap, cur, rfl, hb, hg, h1, h2, h3, h4⟩
 ·cases List.eq_nil_of_length_eq_zero hl
  exact .nils _ _
 ·have hlt : g < w'.heap.size := (Array.getElem?_eq_some_iff.1 hg).1
  have hc : ∀ (i : Nat) (x : Int), l[i]? = some x → w'.cell? ⟨g, 0 + i * 1 + 0, none⟩ = some (.int .i64 x) := by
   intro i x hx
   have hi := get_lt hx
   have h5 : (cur.toList.take (l.length * 1))[i]? = some (.int .i64 x) := by rw [h4, List.getElem?_map, hx]; rfl
   rw [List.getElem?_take_of_lt (by omega)] at h5
   rw [show 0 + i * 1 + 0 = i by omega, cell_of hg, ← Array.getElem?_toList]
   exact h5
  have hlen : (l.map encI).length = l.length := List.length_map _
  have := DR.sl (G := G) (w := w') g 0 cap 1 (l.map encI) (fun i j => .int .i64 (l[i]?.getD 0)) (fun _ => hG g hb hlt) (by rw [hlen]; exact h1) (by rw [hlen]; exact Nat.le_trans h1 h2) (fun i e he => by
   rw [List.getElem?_map, Option.map_eq_some_iff] at he
   obtain ⟨x, _, rfl⟩ := he; rfl) (fun i e j x he hx => by
   rw [List.getElem?_map, Option.map_eq_some_iff] at he
   obtain ⟨z, hz, rfl⟩ := he
   have hj : j = 0 := by have := get_lt hx; simpa [encI] using this
   subst hj
   rw [hc i z hz, hz]; rfl) (fun i e j x he hx => by
   rw [List.getElem?_map, Option.map_eq_some_iff] at he
   obtain ⟨z, hz, rfl⟩ := he
   have hj : j = 0 := by have := get_lt hx; simpa [encI] using this
   subst hj
   simp only [encI, List.getElem?_cons_zero, Option.some.injEq] at hx
   subst hx
   rw [hz]; exact .int _ _)
  rw [hlen] at this
  exact this
theorem fresh_ext {G : Nat → Prop} {ι : Io} {h : Hp} {w w' : World} (hr : HR G ι h w) (hb : RowKit.Below w.heap.size w w') (hu : Up w w') :
    Ext G ι h w (fun b => G b ∨ ((w.heap.size ≤ b ∧ b < w'.heap.size) ∧ w.heap.size ≤ b)) ι h w' ∧ HR (fun b => G b ∨ ((w.heap.size ≤ b ∧ b < w'.heap.size) ∧ w.heap.size ≤ b)) ι h w' := by
  have hnew : HR (fun b => w.heap.size ≤ b ∧ b < w'.heap.size) [] [] w' := HR_nil fun b hb => hb.2
  have hext : Ext (fun _ => False) [] [] w (fun b => w.heap.size ≤ b ∧ b < w'.heap.size) [] [] w' :=
    { size := hb.size
      quiet := ⟨hb.os, hb.output, hu.1, hu.2⟩
      frame := fun b h1 _ => hb.block b h1
      gmono := fun _ hb => hb.elim
      gnew := fun b hb => .inr (.inl hb.1)
      onew := fun b ⟨l, blk, h1, _⟩ => by simp at h1
      keep := fun l k hk => by simp at hk }
  exact Ext.of_pure hr hext hnew
theorem sortedK : SortedK Try.prog := by
 intro v m hn hrg hl
 refine ⟨fun G ι w vs hr hv => ?_⟩
 obtain ⟨v0, hvs⟩ : ∃ v0, vs = [v0] := by
  have := hv.1
  match vs, this with
  | [x], _ => exact ⟨x, rfl⟩
 subst hvs
 have hv0 : VR G w ι [.mp v (setI m), .bx [.mp 0]] v0 (.c (.fn false n_maps_Keys_map_int_bool_int_bool_1 [.ptr 1 0 0 0])) := hv.2 0 _ _ rfl rfl
 cases inv_c hv0 with
 | fn _ _ _ us _ hv1 hn1 hc1 =>
  subst hv1
  obtain ⟨u, hus⟩ : ∃ u, us = #[u] := by
   have h1 : us.toList.length = 1 := by rw [Array.length_toList]; exact hn1
   match hl : us.toList, h1 with
   | [x], _ => exact ⟨x, by rw [← Array.toArray_toList (xs := us), hl]⟩
  subst hus
  cases hc1 0 u _ rfl rfl with
  | ptr _ _ _ _ _ blk hb ha hk =>
   cases hb
   obtain ⟨b0, o0, hi0, rfl⟩ := hk 0 rfl
   obtain ⟨b0', o0', c, t, fr, p1, p2, p3, p4, p5⟩ := hr.blk 1 _ rfl
   rw [hi0] at p1; cases p1
   obtain ⟨p3, rfl⟩ := p3
   obtain ⟨y, hy, hcy⟩ := p5 0 _ rfl
   cases hcy with
   | mp _ _ blk hb hk =>
    cases hb
    obtain ⟨mb, om, hi1, rfl⟩ := hk v _ rfl
    obtain ⟨mb', om', ces, clock, q1, q2, q3, q4⟩ := hr.blk 0 _ rfl
    rw [hi1] at q1; cases q1
    have hlen : ces.toList.length = m.length := by rw [q4.1, setI, List.length_map]
    have hkey : ∀ (i : Nat) (ce : MapEntry), ces.toList[i]? = some ce → ∃ r, m[i]? = some r ∧ ce.key = .int .i64 r := by
     intro i ce hce
     have hi := get_lt hce
     have hm : m[i]? = some (m[i]'(by omega)) := List.getElem?_eq_getElem (by omega)
     have := (q4.2 i ce (.s (iD (m[i]'(by omega))), .s (.bool true)) hce (by rw [setI, List.getElem?_map, hm]; rfl)).1
     refine ⟨_, hm, ?_⟩
     generalize ce.key = kv at this
     cases this with
     | s _ _ hd => cases hd; rfl
    have hkeys : ces.toList.map (·.key) = m.map fun r => Value.int .i64 r := by
     apply List.ext_getElem?
     intro i
     rw [List.getElem?_map, List.getElem?_map]
     cases hce : ces.toList[i]? with
     | none =>
      have : m[i]? = none := by rw [List.getElem?_eq_none_iff] at hce ⊢; omega
      rw [this]; rfl
     | some ce =>
      obtain ⟨r, h1, h2⟩ := hkey i ce hce
      rw [h1]; simp [h2]
    let R : Value → Option (DataW Unit × List MemPlace) := fun _ => some (.nil, [])
    have hread : ∀ x ∈ ces.toList, ∃ r ∈ m, x.key = .int .i64 r ∧ WideElems.rd (H := Unit) Try.prog 3 R x = some (.int .i64 r, .nil) := by
     intro x hx
     obtain ⟨i, hi⟩ := List.getElem?_of_mem hx
     obtain ⟨r, h1, h2⟩ := hkey i x hi
     have hm := List.mem_of_getElem? h1
     refine ⟨r, hm, h2, ?_⟩
     have := hrg r hm
     simp [WideElems.rd, h2, keyOf, Try.underlying3, mapKey, Lit.wf, R]
     rw [if_pos ⟨this.1, this.2⟩]; rfl
    have hown : w.ownsMap Try.prog 3 R mb m.length (.map ((ces.toList.map (WideElems.rg Try.prog 3 R)).foldr DataW.insert [])) := by
     refine ⟨ces, clock, q2, ⟨?_, ⟨q3.1, q3.2, ?_⟩, fun x hx => ?_⟩, ?_, rfl⟩
     ·rw [← Array.length_toList, hlen]; unfold maxLen; omega
     ·rw [hkeys]
      exact List.Pairwise.map (S := fun x y => x ≠ y) (fun r => Value.int .i64 r) (fun a b h e => h (by simpa using e)) hn
     ·obtain ⟨r, _, _, h⟩ := hread x hx
      exact ⟨_, h⟩
     ·rw [← Array.length_toList, hlen]; exact Nat.le_refl _
    have hperm : (intKeys (H := Unit) (.map ((ces.toList.map (WideElems.rg Try.prog 3 R)).foldr DataW.insert []))).Perm m := by
     have h1 : (ces.toList.map (WideElems.rg Try.prog 3 R)).map (fun p => intOf p.1) = m := by
      rw [List.map_map]
      apply List.ext_getElem?
      intro i
      rw [List.getElem?_map]
      cases hce : ces.toList[i]? with
      | none =>
       have : m[i]? = none := by rw [List.getElem?_eq_none_iff] at hce ⊢; omega
       rw [this]; rfl
      | some ce =>
       obtain ⟨r, h1, h2⟩ := hkey i ce hce
       obtain ⟨r', _, h3, h4⟩ := hread ce (List.mem_of_getElem? hce)
       rw [h2] at h3
       have h3 : r = r' := by simpa using h3
       rw [h1]
       simp [WideElems.rg, h4, intOf, h3]
     have h2 : (intKeys (H := Unit) (.map ((ces.toList.map (WideElems.rg Try.prog 3 R)).foldr DataW.insert []))).Perm ((ces.toList.map (WideElems.rg Try.prog 3 R)).map fun p => intOf p.1) := (WideShapes.sorted_perm _).map _
     rw [h1] at h2; exact h2
    have hsz : Maps.size (H := Unit) (.map ((ces.toList.map (WideElems.rg Try.prog 3 R)).foldr DataW.insert [])) = m.length := by
     have := hperm.length_eq
     simp only [intKeys, List.length_map] at this
     exact this
    refine (calls_up (keys_walk b0 mb m.length _ R w (Array.getElem?_eq_some_iff.1 p2).1 ?_ hown ?_ ?_)).mono ?_
    ·rw [cell_of p2]; exact hy
    ·rw [hsz]; unfold maxLen; omega
    ·rw [hsz]; omega
    ·rintro e w' ⟨⟨v', ss, he, hss, hrow, _, hbelow⟩, hup⟩
     obtain ⟨k1, k2⟩ := fresh_ext hr hbelow (hup v' he)
     have hms : (ss.mergeSort fun x y => decide (x ≤ y)) = sortU m := mergeSort_of_perm_i (hss.trans hperm)
     have hlm : (sortU m).length = ss.length := by rw [← hms]; exact List.length_mergeSort _
     rw [hms, ← hlm] at hrow
     exact ⟨v', _, _, ι, _, he, ⟨rfl, rfl⟩, k2, .c _ _ (.d _ _ (ints_new hrow fun b h1 h2 => .inr ⟨⟨h1, h2⟩, h1⟩)), k1⟩
end Go.Ab

/-
  Updates, part m: the rates of tunnels are written into a table.
-/
namespace Go.Ab
open Go.Proofs
def rowsF (n w : Nat) (f : Nat → Nat → Int) : List (List (List D)) := (List.range n).map fun i => arrS w (f i)
theorem rowsF_len (n w : Nat) (f : Nat → Nat → Int) : (rowsF n w f).length = n := by simp [rowsF]
theorem rowsF_at {n w i : Nat} {f : Nat → Nat → Int} (h : i < n) : (rowsF n w f)[i]? = some (arrS w (f i)) := by simp [rowsF, h]
theorem rowsF_ext {n w : Nat} {f g : Nat → Nat → Int} (h : ∀ i, i < n → ∀ e, e < w → f i e = g i e) : rowsF n w f = rowsF n w g := by
 rw [rowsF, rowsF]
 exact List.map_congr_left fun i hi => arrS_ext fun e he => h i (List.mem_range.1 hi) e he
theorem idx_inj {l : List Int} (h : l.Nodup) {i j : Nat} {x : Int} (hi : l[i]? = some x) (hj : l[j]? = some x) : i = j := by
 rw [← nodup_idx h hi, ← nodup_idx h hj]
theorem rowsF_zero (n w : Nat) : List.replicate n (zrow w) = rowsF n w fun _ _ => 0 := by
 refine List.ext_getElem? fun i => ?_
 rw [List.getElem?_replicate]
 by_cases h : i < n
 ·rw [if_pos h, rowsF_at h, zrow, arrS_rep]
 ·rw [if_neg h, List.getElem?_eq_none (by rw [rowsF_len]; omega)]
theorem rowsF_set {n w i : Nat} {f : Nat → Nat → Int} (h : i < n) (g : Nat → Int) : (rowsF n w f).set i (arrS w g) = rowsF n w fun j e => if j = i then g e else f j e := by
 refine List.ext_getElem? fun j => ?_
 rw [List.getElem?_set, rowsF_len]
 by_cases e : i = j
 ·subst e; rw [if_pos rfl, if_pos h, rowsF_at h]; simp
 ·rw [if_neg e]
  by_cases h2 : j < n
  ·rw [rowsF_at h2, rowsF_at h2]
   exact congrArg some (arrS_ext fun x _ => by rw [if_neg (Ne.symm e)])
  ·rw [List.getElem?_eq_none (by rw [rowsF_len]; omega), List.getElem?_eq_none (by rw [rowsF_len]; omega)]
theorem flat1_set {x : D} : ∀ {l : List (List D)} {a : Nat}, (∀ e ∈ l, e.length = 1) → a < l.length → (l.set a [x]).flatten = l.flatten.take a ++ ([x] ++ l.flatten.drop (a + [x].length)) := by
 intro l
 induction l with
 | nil => intro a _ h; simp at h
 | cons y l ih =>
  intro a h1 h2
  obtain ⟨z, rfl⟩ : ∃ z, y = [z] := by
   have := h1 y (by simp)
   match y, this with
   | [z], _ => exact ⟨z, rfl⟩
  cases a with
  | zero => simp
  | succ a =>
   have := ih (a := a) (fun e he => h1 e (by simp [he])) (by simpa using h2)
   simp only [List.set_cons_succ, List.flatten_cons, this, List.cons_append, List.nil_append, List.take_succ_cons, List.length_cons, List.length_nil]
   rfl
theorem flat1_len : ∀ {l : List (List D)}, (∀ e ∈ l, e.length = 1) → l.flatten.length = l.length := by
 intro l
 induction l with
 | nil => intro _; rfl
 | cons y l ih =>
  intro h
  rw [List.flatten_cons, List.length_append, h y (by simp), ih fun e he => h e (by simp [he]), List.length_cons]; omega
theorem RowsR.write {m : Ar} {es : List (List D)} {rows : List (List (List D))} (h : RowsR 1 m es rows) {j b wr cap N a : Nat} {row : List (List D)} {x : D} (he : es[j]? = some [.sl b 0 1 wr cap]) (hw : wr = row.length) (hm : m b = some (.cs N row.flatten)) (hs : ∀ e ∈ row, e.length = 1) (hc : wr ≤ cap) (hN : cap * 1 ≤ N) (ha : a < wr) :
  RowsR 1 (mup m b (.cs N (row.flatten.take a ++ ([x] ++ row.flatten.drop (a + [x].length))))) es (rows.set j (row.set a [x])) := by
 have h1 := h.put (m' := mup m b (.cs N (row.flatten.take a ++ ([x] ++ row.flatten.drop (a + [x].length))))) (j := j) (b' := b) (N' := N) (cap' := cap) (l' := row.set a [x]) (by rw [mup_at, flat1_set hs (by omega)]) (fun e he => by
  rcases List.mem_or_eq_of_mem_set he with h | h
  ·exact hs e h
  ·rw [h]; rfl) (by rw [List.length_set]; omega) hN (fun i o n c hi h2 => hi (h.dis i j b o n c _ _ _ h2 he)) (fun i b2 o n c hi h2 => mup_ne fun e => by subst e; exact hi (h.dis i j _ _ _ _ _ _ _ h2 he))
 rw [List.length_set, ← hw] at h1
 have h2 : es.set j [.sl b 0 1 wr cap] = es := by
  refine List.ext_getElem? fun i => ?_
  rw [List.getElem?_set]
  split
  ·rename_i e; subst e
   split
   ·exact he.symm
   ·rename_i hn; exact absurd (get_lt he) hn
  ·rfl
 rw [h2] at h1; exact h1
def OffR (es : List (List D)) (b : Nat) : Prop := ∀ (i o n c : Nat), es[i]? ≠ some [.sl b o 1 n c]
abbrev addH (m : Ar) (v w : Nat) (ids : List Int) (sl : List (List D)) (t : Top) (n v1 v2 : Nat) (es1 es2 : List (List D)) : Hp :=
 [.am m, .bx [.ptr 2 0 0 0], .bx [.d (iD t.nodes), .d (boolsD t.ov), .d (linksD t.links), .d (intsD ids), .arr 3 v 0 w, .arr 4 v1 0 n, .arr 5 v2 0 n], .da true v 1 sl, .da true v1 1 es1, .da true v2 1 es2]
def stayP (l : List Tn) (ch : List Int) (e : Int) : Int := (l.map fun x => if x.id ∈ ch then 0 else if e ∈ x.arcs then x.rate else 0).sum
def tabP (l : List Tn) (ch : List Int) (i e : Nat) : Int := rateS l (ch.getD i 0) e
theorem stay_snoc (l : List Tn) (x : Tn) (ch : List Int) (e : Int) : stayP (l ++ [x]) ch e = stayP l ch e + (if x.id ∈ ch then 0 else if e ∈ x.arcs then x.rate else 0) := by simp [stayP]
theorem rate_snoc {l : List Tn} {x : Tn} (hn : ((l ++ [x]).map (·.id)).Nodup) (id e : Int) : rateS (l ++ [x]) id e = if x.id = id then (if e ∈ x.arcs then x.rate else 0) else rateS l id e := by
 rw [rateS, findS, List.find?_append]
 by_cases h : x.id = id
 ·rw [if_pos h]
  have hno : findS l id = none := by
   rw [findS_none]
   intro hm
   rw [List.map_append, List.nodup_append] at hn
   exact hn.2.2 id hm x.id (by simp) h.symm
  rw [findS] at hno
  rw [hno]
  simp [h]
 ·rw [if_neg h]
  have : List.find? (fun x => decide (x.id = id)) [x] = none := by simp [h]
  rw [this, Option.or_none]; rfl
def tabQ (l : List Tn) (ids : List Int) (j : Nat) (xa : List Int) (xr : Int) (m i e : Nat) : Int := if i = j then (if (e : Int) ∈ xa.take m then xr else 0) else tabP l ids i e
theorem tab_start {l : List Tn} {x : Tn} {ids : List Int} {j n w : Nat} (hinc : ids.Pairwise (· < ·)) (hn : ((l ++ [x]).map (·.id)).Nodup) (hj : ids[j]? = some x.id) : rowsF n w (tabP l ids) = rowsF n w (tabQ l ids j x.arcs x.rate 0) := by
 refine rowsF_ext fun i hi e he => ?_
 rw [tabQ]
 split
 ·rename_i h
  subst h
  rw [tabP, List.getD_eq_getElem?_getD, hj, Option.getD_some, rateS]
  have hno : findS l x.id = none := by
   rw [findS_none]
   intro hm
   rw [List.map_append, List.nodup_append] at hn
   exact hn.2.2 x.id hm x.id (by simp) rfl
  rw [hno]; simp
 ·rfl
theorem tab_end {l : List Tn} {x : Tn} {ids : List Int} {j n w : Nat} (hinc : ids.Pairwise (· < ·)) (hn : ((l ++ [x]).map (·.id)).Nodup) (hj : ids[j]? = some x.id) (hl : ids.length = n) : rowsF n w (tabQ l ids j x.arcs x.rate x.arcs.length) = rowsF n w (tabP (l ++ [x]) ids) := by
 refine rowsF_ext fun i hi e he => ?_
 have hx : ids[i]? = some (ids[i]) := List.getElem?_eq_getElem (by omega)
 rw [tabQ, tabP, tabP, rate_snoc hn, List.take_length, List.getD_eq_getElem?_getD, hx, Option.getD_some]
 by_cases h : i = j
 ·subst h
  rw [hj] at hx
  rw [if_pos rfl, if_pos (Option.some.inj hx)]
 ·rw [if_neg h, if_neg]
  intro e1
  exact h (idx_inj (lt_nodup hinc) (hx.trans (congrArg some e1.symm)) hj)
theorem tab_step {l : List Tn} {ids xa : List Int} {j n w m a : Nat} {xr y : Int} (hj : j < n) (hy : xa[m]? = some y) (ha : y = a) : (rowsF n w (tabQ l ids j xa xr m)).set j ((arrS w (tabQ l ids j xa xr m j)).set a [iD xr]) = rowsF n w (tabQ l ids j xa xr (m + 1)) := by
 rw [arrS_set, rowsF_set hj]
 refine rowsF_ext fun i hi e he => ?_
 simp only [tabQ]
 by_cases h : i = j
 ·rw [if_pos h, if_pos h]
  simp only [if_true]
  by_cases h2 : e = a
  ·rw [if_pos h2, if_pos]
   rw [take_succ_get hy, ha, h2]; simp
  ·rw [if_neg h2, take_succ_get hy]
   have : ((e : Int) ∈ xa.take m ++ [y]) ↔ (e : Int) ∈ xa.take m := by
    rw [List.mem_append, List.mem_singleton]
    exact ⟨fun h => h.elim id fun h => by omega, .inl⟩
   simp only [this]
 ·rw [if_neg h, if_neg h, if_neg h]
theorem stay_bd {l : List Tn} (h : ∀ x ∈ l, 0 ≤ x.rate ∧ x.rate ≤ 1048576) (ch : List Int) (e : Int) : 0 ≤ stayP l ch e ∧ stayP l ch e ≤ 1048576 * (l.length : Int) := by
 induction l with
 | nil => simp [stayP]
 | cons x l ih =>
  have h1 := ih fun y hy => h y (by simp [hy])
  have h2 := h x (by simp)
  simp only [stayP, List.map_cons, List.sum_cons, List.length_cons] at *
  split
  ·omega
  ·split <;> omega
theorem padd1_ok (P : Program) (hP : P = Try.prog) (t : Top) (ht : t.links.length ≤ 256) (m : Ar) (v w n v1 v2 : Nat) (ids : List Int) (hi : ids.length = n) (hn : n ≤ 1000) (hinc : ids.Pairwise (· < ·)) (sl es1 es2 : List (List D)) (hw : w = 2 * t.links.length)
  (hsl : sl = arrS w fun _ => 0) (hr : RowsR 1 m es1 (rowsF n w fun _ _ => 0)) (l : List Tn) (hl : (l.map (·.id)).Nodup ∧ l.length ≤ 12) (hok : ∀ x ∈ l, okTn (2 * (t.links.length : Int)) x) :
  FnS P n_update_prepare_2 [tnsA l, .c (.arr 4 v1 0 n), bA true, .c (.ptr 1 0 0 0)] (addH m v w ids sl t n v1 v2 es1 es2) fun r h' => ∃ m' sl', r = .tup [] ∧ h' = addH m' v w ids sl' t n v1 v2 es1 es2 ∧ RowsR 1 m' es1 (rowsF n w (tabP l ids)) ∧ (∀ b, OffR es1 b → m' b = m b) ∧ sl' = arrS w fun e => stayP l ids e := by
 have h0 : FnS P n_update_prepare_2 [tnsA l, .c (.arr 4 v1 0 n), bA true, .c (.ptr 1 0 0 0)] (addH m v w ids sl t n v1 v2 es1 es2) fun r h' => ∃ h2 m' sl', r = .tup [] ∧ h' = addH m' v w ids sl' t n v1 v2 es1 es2 ++ h2 ∧ RowsR 1 m' es1 (rowsF n w (tabP l ids)) ∧ (∀ b, OffR es1 b → m' b = m b) ∧ sl' = arrS w fun e => stayP l ids e := by
  have hsr := fun x => search_ok P hP ids x (by omega) hinc
  refine heap_start (hP ▸ mixed) (hP ▸ fn_update_prepare_2) (hP ▸ c_update_prepare_2) (Nat.le_of_ble_eq_true rfl) fun Λ Λo K hK => ?_
  clear hP
  have leaf : ∀ h2 m' sl', RowsR 1 m' es1 (rowsF n w (tabP l ids)) → (∀ b, OffR es1 b → m' b = m b) → (sl' = arrS w fun e => stayP l ids e) → K (.tup []) (addH m' v w ids sl' t n v1 v2 es1 es2 ++ h2) := fun h2 m' sl' h1 h3 h4 => hK _ _ ⟨h2, m', sl', rfl, rfl, h1, h3, h4⟩
  clear hK
  rw [← show (w : Int) = 2 * (t.links.length : Int) by omega] at hok
  simp only [addH, intsD, intsA, tnsA, tnsD, boolsD, linksD, List.cons_append, List.nil_append] at *
  have hcl : ids.map encI = ids.map encI := rfl
  generalize ilh : ids.map encI = il at *
  generalize llh : l.map encTn = ll at *
  have lln : Λ ll = l.length := by rw [Λo, ← llh]; simp
  obtain ⟨nodes, ov, links⟩ := t
  simp only at *
  generalize ov.map encB = ol at *
  generalize links.map encLk = kl at *
  conv => cbv
  repeat' first | exact gu | exact trivial | refine And.intro ?_ ?_ | (intro hc; exact absurd hc (by decide)) | (intro hc; exfalso; omega) | (intro hc; (first | rw [wrap_small (by omega) (by omega)] at hc | rw [nI_eq] at hc | skip); try (conv => cbv))
  refine loop_up l.length (fun s : Int × Ar × List (List D) => [(1, .c (.arr 4 v1 0 n)), (2, bA true), (3, .c (.ptr 1 0 0 0)), (13, .c (.d (.list false 3 ll))), (14, iA (Λ ll)), (15, iA s.1)])
   (fun s => [.am s.2.1, .bx [.ptr 2 0 0 0], .bx [.d (iD nodes), .d (.list false 1 ol), .d (.list false 7 kl), .d (.list false 1 il), .arr 3 v 0 w, .arr 4 v1 0 n, .arr 5 v2 0 n], .da true v 1 s.2.2, .da true v1 1 es1, .da true v2 1 es2])
   (fun k s => s.1 = k ∧ k ≤ l.length ∧ RowsR 1 s.2.1 es1 (rowsF n w (tabP (l.take k) ids)) ∧ (∀ b, OffR es1 b → s.2.1 b = m b) ∧ s.2.2 = arrS w fun e => stayP (l.take k) ids e) (0, m, sl) (Wk.ca) ⟨rfl, by omega, hr, fun _ _ => rfl, hsl⟩ (fun k s h => h.2.1) ?_
  rintro k ⟨i, m2, sl2⟩ Q' ⟨hik, hk, hrow, hoff, hst⟩ norm ex rt
  simp only at hik hrow hoff hst
  by_cases hlt : k < l.length
  rotate_left
  ·rw [List.take_of_length_le (by omega)] at hrow hst
   have lf := leaf [] m2 sl2 hrow hoff hst
   conv => cbv
   repeat' first | (refine ex _ _ _ ?_; (conv => cbv)) | (refine rt _ _ ?_; (conv => cbv)) | exact gu | exact trivial | refine And.intro ?_ ?_ | (intro hc; exact absurd hc (by decide)) | (intro hc; exfalso; omega) | (intro hc; (first | rw [wrap_small (by omega) (by omega)] at hc | rw [nI_eq] at hc | skip); try (conv => cbv))
   exact lf
  clear leaf
  obtain ⟨x, hx⟩ : ∃ x, l[k]? = some x := ⟨_, List.getElem?_eq_getElem hlt⟩
  have hxa := elt_at llh hik hx
  have hxok := hok x (List.mem_of_getElem? hx)
  have htk := take_succ_get hx
  have hnk : ((l.take k ++ [x]).map (·.id)).Nodup := by rw [← htk, List.map_take]; exact hl.1.sublist (List.take_sublist _ _)
  have hsx := hsr x.id
  by_cases hxc : x.id ∈ ids
  ·rw [decide_eq_true hxc] at hsx
   obtain ⟨xi, xa, xr⟩ := x
   simp only [encTn, intsD] at hxa
   have hjx := idx_get hxc
   have hpx := posS_idx hinc hxc
   simp only at hjx hpx
   rw [hpx] at hsx
   generalize ids.idxOf xi = jx at hjx hsx
   have hjn : jx < n := by have := get_lt hjx; omega
   have hqs := tab_start (n := n) (w := w) hinc hnk hjx
   have hqe := tab_end (w := w) hinc hnk hjx hi
   rw [← htk] at hqe
   rw [hqs] at hrow
   obtain ⟨qi, hqi⟩ : ∃ qi : Int, qi = jx := ⟨_, rfl⟩
   rw [← hqi] at hsx
   generalize xlh : xa.map encI = xl at *
   have xln : Λ xl = xa.length := by rw [Λo, ← xlh]; simp
   conv => cbv
   repeat' first | (refine ex _ _ _ ?_; (conv => cbv)) | (refine rt _ _ ?_; (conv => cbv)) | (intro e he; cases Option.some.inj (he.symm.trans hxa); (conv => cbv)) | (left; intro (_ : Unit); (conv => cbv)) | (refine call_r hsx rfl rfl ?_; conv => cbv) | exact gu | exact trivial | refine And.intro ?_ ?_ | (intro hc; exact absurd hc (by decide)) | (intro hc; exfalso; omega) | (intro hc; (first | rw [wrap_small (by omega) (by omega)] at hc | rw [nI_eq] at hc | skip); try (conv => cbv))
   refine loop_upx xa.length (fun s : Int × Ar => [(1, .c (.arr 4 v1 0 n)), (2, bA true), (3, .c (.ptr 1 0 0 0)), (8, .c (.ptr 6 0 0 0)), (9, iA qi), (10, bA true), (13, .c (.d (.list false 3 ll))), (14, iA (Λ ll)), (15, iA i), (30, .c (.d (.list false 1 xl))), (31, iA (Λ xl)), (32, iA s.1)])
    (fun s => [.am s.2, .bx [.ptr 2 0 0 0], .bx [.d (iD nodes), .d (.list false 1 ol), .d (.list false 7 kl), .d (.list false 1 il), .arr 3 v 0 w, .arr 4 v1 0 n, .arr 5 v2 0 n], .da true v 1 sl2, .da true v1 1 es1, .da true v2 1 es2, .bx [.d (iD xi), .d (.list false 1 xl), .d (iD xr)]])
    (fun mm s => s.1 = mm ∧ mm ≤ xa.length ∧ RowsR 1 s.2 es1 (rowsF n w (tabQ (l.take k) ids jx xa xr mm)) ∧ ∀ b, OffR es1 b → s.2 b = m b) (0, m2) 2
    (fun s : Ar => [(1, .c (.arr 4 v1 0 n)), (2, bA true), (3, .c (.ptr 1 0 0 0)), (13, .c (.d (.list false 3 ll))), (14, iA (Λ ll)), (15, iA i)])
    (fun s => [.am s, .bx [.ptr 2 0 0 0], .bx [.d (iD nodes), .d (.list false 1 ol), .d (.list false 7 kl), .d (.list false 1 il), .arr 3 v 0 w, .arr 4 v1 0 n, .arr 5 v2 0 n], .da true v 1 sl2, .da true v1 1 es1, .da true v2 1 es2])
    (fun s => RowsR 1 s es1 (rowsF n w (tabP (l.take (k + 1)) ids)) ∧ ∀ b, OffR es1 b → s b = m b) (Wk.ca) ⟨rfl, by omega, hrow, hoff⟩ (fun k s h => h.2.1) ?_ ?_
   ·rintro mm ⟨j2, m3⟩ Q2 ⟨hj2, hmm, hrow3, hoff3⟩ norm2 jn2 ex2 rt2
    simp only at hj2 hrow3 hoff3
    by_cases hml : mm < xa.length
    ·clear jn2 norm
     obtain ⟨y, hy⟩ : ∃ y, xa[mm]? = some y := ⟨_, List.getElem?_eq_getElem hml⟩
     have hya := elt_at xlh hj2 hy
     have hyr := hxok.2.2.2.2 y (List.mem_of_getElem? hy)
     obtain ⟨a, hay⟩ : ∃ a : Nat, y = a := ⟨y.toNat, by omega⟩
     have hstp := tab_step (l := l.take k) (ids := ids) (xr := xr) (w := w) hjn hy hay
     have hej : es1[jx]? = some (es1[jx]'(by rw [hrow3.len, rowsF_len]; exact hjn)) := List.getElem?_eq_getElem _
     have es1l : es1.length = n := by rw [hrow3.len, rowsF_len]
     obtain ⟨d, hd⟩ := hrow3.one jx _ hej
     rw [hd] at hej
     have hrj := hrow3.row jx d _ hej (rowsF_at hjn)
     rcases hrj with ⟨_, hnil⟩ | ⟨b, N, cap, rfl, hmb, hs, hc1, hc2⟩
     ·have : (arrS w (tabQ (l.take k) ids jx xa xr mm jx)).length = w := arrS_len _ _
      rw [hnil] at this; simp at this; omega
     have hll : (arrS w (tabQ (l.take k) ids jx xa xr mm jx)).length = w := arrS_len _ _
     generalize arrS w (tabQ (l.take k) ids jx xa xr mm jx) = row at *
     obtain ⟨wr, hwr⟩ : ∃ wr, wr = row.length := ⟨_, rfl⟩
     obtain ⟨fl, hfl⟩ : ∃ fl, fl = row.flatten := ⟨_, rfl⟩
     have hfll : fl.length = wr := by rw [hfl, hwr]; exact flat1_len hs
     have hwrt := fun m' (hm' : m' = mup m3 b (.cs N (fl.take a ++ ([D.int .i64 xr] ++ fl.drop (a + [D.int .i64 xr].length))))) => (show RowsR 1 m' es1 (rowsF n w (tabQ (l.take k) ids jx xa xr (mm + 1))) from by
      rw [hm', hfl, ← hstp]
      exact hrow3.write (by rw [← hwr] at hej; exact hej) hwr hmb hs (by rw [hwr]; exact hc1) hc2 (by omega))
     rw [← hwr] at hej hc1 hll
     rw [← hfl] at hmb
     clear hstp
     conv => cbv
     repeat' first | (refine ex _ _ _ ?_; (conv => cbv)) | (refine rt _ _ ?_; (conv => cbv)) | (intro e he; cases Option.some.inj (he.symm.trans hya); (conv => cbv)) | (intro (k : Nat) hk; refine (fun (hz : jx = k) => ?_) ?_; rotate_left; omega; subst hz; (conv => cbv)) | (intro (e : List D) he; cases Option.some.inj (he.symm.trans hej); (conv => cbv)) | (intro (q : Nat) hq; refine (fun (hz : a = q) => ?_) (by omega); subst hz; (conv => cbv)) | (refine ⟨N, fl, hmb, (by rw [hfll]; simp only [List.length_cons, List.length_nil]; omega), ?_⟩; intro (m' : Ar) hm'; (conv => cbv)) | exact gu | exact trivial | refine And.intro ?_ ?_ | (intro hc; exact absurd hc (by decide)) | (intro hc; exfalso; omega) | (intro hc; (first | rw [wrap_small (by omega) (by omega)] at hc | rw [nI_eq] at hc | skip); try (conv => cbv))
     refine norm2 _ _ (_, m') ?_ (Wk.ca)
     refine ⟨by simp only; omega, by omega, hwrt m' hm', fun b2 hb2 => ?_⟩
     simp only
     rw [hm', mup_ne (fun e => by subst e; exact hb2 jx 0 _ _ hej)]
     exact hoff3 b2 hb2
    ·obtain rfl : mm = xa.length := by omega
     rw [hqe] at hrow3
     clear norm2 norm
     conv => cbv
     repeat' first | exact gu | exact trivial | refine And.intro ?_ ?_ | (intro hc; exact absurd hc (by decide)) | (intro hc; exfalso; omega) | (intro hc; (first | rw [wrap_small (by omega) (by omega)] at hc | rw [nI_eq] at hc | skip); try (conv => cbv))
     exact jn2 _ _ m3 ⟨hrow3, hoff3⟩ (Wk.ca)
   ·rintro m3 ⟨hrow3, hoff3⟩
    conv => cbv
    repeat' first | (refine ex _ _ _ ?_; (conv => cbv)) | (refine rt _ _ ?_; (conv => cbv)) | exact gu | exact trivial | refine And.intro ?_ ?_ | (intro hc; exact absurd hc (by decide)) | (intro hc; exfalso; omega) | (intro hc; (first | rw [wrap_small (by omega) (by omega)] at hc | rw [nI_eq] at hc | skip); try (conv => cbv))
    refine norm _ _ (_, m3, sl2) ?_ (Wk.ca)
    refine ⟨by simp only; omega, by omega, hrow3, hoff3, ?_⟩
    simp only
    rw [hst, htk]
    exact arrS_ext fun e _ => by rw [stay_snoc, if_pos hxc]; omega
  ·rw [decide_eq_false hxc] at hsx
   have hbd := fun e => stay_bd (l := l.take k) (fun y hy => by have := (hok y (List.mem_of_mem_take hy)).2.2.1; omega) ids e
   have hlk : (l.take k).length ≤ 12 := by rw [List.length_take]; omega
   have hqe : rowsF n w (tabP (l.take k) ids) = rowsF n w (tabP (l.take (k + 1)) ids) := rowsF_ext fun i2 hi2 e _ => by
    rw [htk, tabP, tabP, rate_snoc hnk, if_neg]
    intro e1
    refine hxc ?_
    rw [e1, List.getD_eq_getElem?_getD, List.getElem?_eq_getElem (by omega), Option.getD_some]
    exact List.getElem_mem _
   rw [hqe] at hrow
   obtain ⟨xi, xa, xr⟩ := x
   simp only [encTn, intsD] at hxa hxok
   simp only at hsx
   have hxr : 1 ≤ xr ∧ xr ≤ 1048576 := hxok.2.2.1
   have hnd : xa.Nodup := hxok.2.2.2.1
   obtain ⟨qi, hqi⟩ : ∃ qi : Int, qi = posS ids xi := ⟨_, rfl⟩
   rw [← hqi] at hsx
   obtain ⟨SP, hSP⟩ : ∃ SP : Nat → Int, SP = fun (e : Nat) => stayP (l.take k) ids (e : Int) := ⟨_, rfl⟩
   have hend : (fun e : Nat => stayP (l.take (k + 1)) ids e) = fun (e : Nat) => SP e + if (e : Int) ∈ xa then xr else 0 := by
    funext e; rw [htk, stay_snoc, if_neg hxc, hSP]
   have hbd := fun e : Nat => hbd e
   have hst0 : sl2 = arrS w fun e => SP e := by rw [hst, hSP]
   rw [show (fun e : Nat => stayP (l.take k) ids e) = SP from hSP.symm] at hst
   have hbd2 : ∀ e : Nat, 0 ≤ SP e ∧ SP e ≤ 12582912 := fun e => by rw [hSP]; have := hbd e; simp only; omega
   clear hbd hSP hst
   generalize xlh : xa.map encI = xl at *
   have xln : Λ xl = xa.length := by rw [Λo, ← xlh]; simp
   conv => cbv
   repeat' first | (refine ex _ _ _ ?_; (conv => cbv)) | (refine rt _ _ ?_; (conv => cbv)) | (intro e he; cases Option.some.inj (he.symm.trans hxa); (conv => cbv)) | (left; intro (_ : Unit); (conv => cbv)) | (refine call_r hsx rfl rfl ?_; conv => cbv) | exact gu | exact trivial | refine And.intro ?_ ?_ | (intro hc; exact absurd hc (by decide)) | (intro hc; exfalso; omega) | (intro hc; (first | rw [wrap_small (by omega) (by omega)] at hc | rw [nI_eq] at hc | skip); try (conv => cbv))
   refine loop_upx xa.length (fun s : Int × List (List D) => [(1, .c (.arr 4 v1 0 n)), (2, bA true), (3, .c (.ptr 1 0 0 0)), (8, .c (.ptr 6 0 0 0)), (10, bA false), (13, .c (.d (.list false 3 ll))), (14, iA (Λ ll)), (15, iA i), (30, .c (.d (.list false 1 xl))), (31, iA (Λ xl)), (32, iA s.1)])
    (fun s => [.am m2, .bx [.ptr 2 0 0 0], .bx [.d (iD nodes), .d (.list false 1 ol), .d (.list false 7 kl), .d (.list false 1 il), .arr 3 v 0 w, .arr 4 v1 0 n, .arr 5 v2 0 n], .da true v 1 s.2, .da true v1 1 es1, .da true v2 1 es2, .bx [.d (iD xi), .d (.list false 1 xl), .d (iD xr)]])
    (fun mm s => s.1 = mm ∧ mm ≤ xa.length ∧ s.2 = arrS w fun e => SP e + if (e : Int) ∈ xa.take mm then xr else 0) (0, sl2) 2
    (fun s : List (List D) => [(1, .c (.arr 4 v1 0 n)), (2, bA true), (3, .c (.ptr 1 0 0 0)), (13, .c (.d (.list false 3 ll))), (14, iA (Λ ll)), (15, iA i)])
    (fun s => [.am m2, .bx [.ptr 2 0 0 0], .bx [.d (iD nodes), .d (.list false 1 ol), .d (.list false 7 kl), .d (.list false 1 il), .arr 3 v 0 w, .arr 4 v1 0 n, .arr 5 v2 0 n], .da true v 1 s, .da true v1 1 es1, .da true v2 1 es2])
    (fun s => s = arrS w fun e => SP e + if (e : Int) ∈ xa then xr else 0) (Wk.ca) ⟨rfl, by omega, by simp only; rw [hst0]; exact arrS_ext fun e _ => by simp⟩ (fun k s h => h.2.1) ?_ ?_
   ·rintro mm ⟨j2, sl3⟩ Q2 ⟨hj2, hmm, hsl3⟩ norm2 jn2 ex2 rt2
    simp only at hj2 hsl3
    by_cases hml : mm < xa.length
    ·clear jn2 norm
     obtain ⟨y, hy⟩ : ∃ y, xa[mm]? = some y := ⟨_, List.getElem?_eq_getElem hml⟩
     have hya := elt_at xlh hj2 hy
     have hyr := hxok.2.2.2.2 y (List.mem_of_getElem? hy)
     obtain ⟨a, hay⟩ : ∃ a : Nat, y = a := ⟨y.toNat, by omega⟩
     have hyn : ¬ (a : Int) ∈ xa.take mm := by rw [← hay]; exact nodup_atU hnd hy
     have hsl3l : sl3.length = w := by rw [hsl3, arrS_len]
     have hqn : sl3[a]? = some [iD (SP a)] := by rw [hsl3, arrS_get (by omega), if_neg hyn, Int.add_zero]
     have hsp := hbd2 a
     have hset : ∀ z, z = SP a + xr → sl3.set a [iD z] = arrS w fun e => SP e + if (e : Int) ∈ xa.take (mm + 1) then xr else 0 := fun z hz => by
      rw [hsl3, arrS_set, hz]
      refine arrS_ext fun e _ => ?_
      rw [take_succ_get hy]
      by_cases h1 : e = a
      ·subst h1; rw [if_pos rfl, if_pos (by rw [hay]; simp)]
      ·rw [if_neg h1]
       have : ((e : Int) ∈ xa.take mm ++ [y]) ↔ (e : Int) ∈ xa.take mm := by
        rw [List.mem_append, List.mem_singleton]
        exact ⟨fun h => h.elim id fun h => by omega, .inl⟩
       simp only [this]
     generalize SP a = spa at *
     clear hsl3
     conv => cbv
     repeat' first | (intro e he; cases Option.some.inj (he.symm.trans hya); (conv => cbv)) | (intro (k : Nat) hk; refine (fun (hz : a = k) => ?_) ?_; rotate_left; omega; subst hz; (conv => cbv)) | (intro (e : List D) he; cases Option.some.inj (he.symm.trans hqn); (conv => cbv)) | exact gu | exact trivial | refine And.intro ?_ ?_ | (intro hc; exact absurd hc (by decide)) | (intro hc; exfalso; omega) | (intro hc; (first | rw [wrap_small (by omega) (by omega)] at hc | rw [nI_eq] at hc | skip); try (conv => cbv))
     refine norm2 _ _ (_, _) ?_ (Wk.ca)
     refine ⟨by simp only; omega, by omega, ?_⟩
     simp only
     refine Eq.trans (by assumption) (hset _ (by omega))
    ·obtain rfl : mm = xa.length := by omega
     rw [List.take_length] at hsl3
     clear norm2 norm
     conv => cbv
     repeat' first | exact gu | exact trivial | refine And.intro ?_ ?_ | (intro hc; exact absurd hc (by decide)) | (intro hc; exfalso; omega) | (intro hc; (first | rw [wrap_small (by omega) (by omega)] at hc | rw [nI_eq] at hc | skip); try (conv => cbv))
     exact jn2 _ _ sl3 hsl3 (Wk.ca)
   ·rintro sl3 hsl3
    conv => cbv
    repeat' first | (refine ex _ _ _ ?_; (conv => cbv)) | (refine rt _ _ ?_; (conv => cbv)) | exact gu | exact trivial | refine And.intro ?_ ?_ | (intro hc; exact absurd hc (by decide)) | (intro hc; exfalso; omega) | (intro hc; (first | rw [wrap_small (by omega) (by omega)] at hc | rw [nI_eq] at hc | skip); try (conv => cbv))
    refine norm _ _ (_, m2, sl3) ?_ (Wk.ca)
    refine ⟨by simp only; omega, by omega, hrow, hoff, ?_⟩
    simp only
    rw [hsl3, hend]
 refine (FnS.cut h0 ?_).mono ?_
 ·rintro r' h' ⟨h2, m', sl', rfl, rfl, h⟩
  exact ⟨rfl, rfl⟩
 ·rintro r' h1 ⟨h2, ⟨h3, m', sl', rfl, e, h⟩, hl⟩
  exact ⟨m', sl', rfl, (List.append_inj e hl).1, h⟩
theorem padd2_ok (P : Program) (hP : P = Try.prog) (t : Top) (ht : t.links.length ≤ 256) (m : Ar) (v w n v1 v2 : Nat) (ids : List Int) (hi : ids.length = n) (hn : n ≤ 1000) (hinc : ids.Pairwise (· < ·)) (sl es1 es2 : List (List D)) (hw : w = 2 * t.links.length)
  (hr : RowsR 1 m es2 (rowsF n w fun _ _ => 0)) (l : List Tn) (hl : (l.map (·.id)).Nodup ∧ l.length ≤ 12) (hok : ∀ x ∈ l, okTn (2 * (t.links.length : Int)) x) :
  FnS P n_update_prepare_2 [tnsA l, .c (.arr 5 v2 0 n), bA false, .c (.ptr 1 0 0 0)] (addH m v w ids sl t n v1 v2 es1 es2) fun r h' => ∃ m' sl', r = .tup [] ∧ h' = addH m' v w ids sl' t n v1 v2 es1 es2 ∧ RowsR 1 m' es2 (rowsF n w (tabP l ids)) ∧ (∀ b, OffR es2 b → m' b = m b) ∧ sl' = sl := by
 have h0 : FnS P n_update_prepare_2 [tnsA l, .c (.arr 5 v2 0 n), bA false, .c (.ptr 1 0 0 0)] (addH m v w ids sl t n v1 v2 es1 es2) fun r h' => ∃ h2 m' sl', r = .tup [] ∧ h' = addH m' v w ids sl' t n v1 v2 es1 es2 ++ h2 ∧ RowsR 1 m' es2 (rowsF n w (tabP l ids)) ∧ (∀ b, OffR es2 b → m' b = m b) ∧ sl' = sl := by
  have hsr := fun x => search_ok P hP ids x (by omega) hinc
  refine heap_start (hP ▸ mixed) (hP ▸ fn_update_prepare_2) (hP ▸ c_update_prepare_2) (Nat.le_of_ble_eq_true rfl) fun Λ Λo K hK => ?_
  clear hP
  have leaf : ∀ h2 m' sl', RowsR 1 m' es2 (rowsF n w (tabP l ids)) → (∀ b, OffR es2 b → m' b = m b) → (sl' = sl) → K (.tup []) (addH m' v w ids sl' t n v1 v2 es1 es2 ++ h2) := fun h2 m' sl' h1 h3 h4 => hK _ _ ⟨h2, m', sl', rfl, rfl, h1, h3, h4⟩
  clear hK
  rw [← show (w : Int) = 2 * (t.links.length : Int) by omega] at hok
  simp only [addH, intsD, intsA, tnsA, tnsD, boolsD, linksD, List.cons_append, List.nil_append] at *
  have hcl : ids.map encI = ids.map encI := rfl
  generalize ilh : ids.map encI = il at *
  generalize llh : l.map encTn = ll at *
  have lln : Λ ll = l.length := by rw [Λo, ← llh]; simp
  obtain ⟨nodes, ov, links⟩ := t
  simp only at *
  generalize ov.map encB = ol at *
  generalize links.map encLk = kl at *
  conv => cbv
  repeat' first | exact gu | exact trivial | refine And.intro ?_ ?_ | (intro hc; exact absurd hc (by decide)) | (intro hc; exfalso; omega) | (intro hc; (first | rw [wrap_small (by omega) (by omega)] at hc | rw [nI_eq] at hc | skip); try (conv => cbv))
  refine loop_up l.length (fun s : Int × Ar × List (List D) => [(1, .c (.arr 5 v2 0 n)), (2, bA false), (3, .c (.ptr 1 0 0 0)), (13, .c (.d (.list false 3 ll))), (14, iA (Λ ll)), (15, iA s.1)])
   (fun s => [.am s.2.1, .bx [.ptr 2 0 0 0], .bx [.d (iD nodes), .d (.list false 1 ol), .d (.list false 7 kl), .d (.list false 1 il), .arr 3 v 0 w, .arr 4 v1 0 n, .arr 5 v2 0 n], .da true v 1 s.2.2, .da true v1 1 es1, .da true v2 1 es2])
   (fun k s => s.1 = k ∧ k ≤ l.length ∧ RowsR 1 s.2.1 es2 (rowsF n w (tabP (l.take k) ids)) ∧ (∀ b, OffR es2 b → s.2.1 b = m b) ∧ s.2.2 = sl) (0, m, sl) (Wk.ca) ⟨rfl, by omega, hr, fun _ _ => rfl, rfl⟩ (fun k s h => h.2.1) ?_
  rintro k ⟨i, m2, sl2⟩ Q' ⟨hik, hk, hrow, hoff, hst⟩ norm ex rt
  simp only at hik hrow hoff hst
  by_cases hlt : k < l.length
  rotate_left
  ·rw [List.take_of_length_le (by omega)] at hrow
   have lf := leaf [] m2 sl2 hrow hoff hst
   conv => cbv
   repeat' first | (refine ex _ _ _ ?_; (conv => cbv)) | (refine rt _ _ ?_; (conv => cbv)) | exact gu | exact trivial | refine And.intro ?_ ?_ | (intro hc; exact absurd hc (by decide)) | (intro hc; exfalso; omega) | (intro hc; (first | rw [wrap_small (by omega) (by omega)] at hc | rw [nI_eq] at hc | skip); try (conv => cbv))
   exact lf
  clear leaf
  obtain ⟨x, hx⟩ : ∃ x, l[k]? = some x := ⟨_, List.getElem?_eq_getElem hlt⟩
  have hxa := elt_at llh hik hx
  have hxok := hok x (List.mem_of_getElem? hx)
  have htk := take_succ_get hx
  have hnk : ((l.take k ++ [x]).map (·.id)).Nodup := by rw [← htk, List.map_take]; exact hl.1.sublist (List.take_sublist _ _)
  have hsx := hsr x.id
  by_cases hxc : x.id ∈ ids
  ·rw [decide_eq_true hxc] at hsx
   obtain ⟨xi, xa, xr⟩ := x
   simp only [encTn, intsD] at hxa
   have hjx := idx_get hxc
   have hpx := posS_idx hinc hxc
   simp only at hjx hpx
   rw [hpx] at hsx
   generalize ids.idxOf xi = jx at hjx hsx
   have hjn : jx < n := by have := get_lt hjx; omega
   have hqs := tab_start (n := n) (w := w) hinc hnk hjx
   have hqe := tab_end (w := w) hinc hnk hjx hi
   rw [← htk] at hqe
   rw [hqs] at hrow
   obtain ⟨qi, hqi⟩ : ∃ qi : Int, qi = jx := ⟨_, rfl⟩
   rw [← hqi] at hsx
   generalize xlh : xa.map encI = xl at *
   have xln : Λ xl = xa.length := by rw [Λo, ← xlh]; simp
   conv => cbv
   repeat' first | (refine ex _ _ _ ?_; (conv => cbv)) | (refine rt _ _ ?_; (conv => cbv)) | (intro e he; cases Option.some.inj (he.symm.trans hxa); (conv => cbv)) | (left; intro (_ : Unit); (conv => cbv)) | (refine call_r hsx rfl rfl ?_; conv => cbv) | exact gu | exact trivial | refine And.intro ?_ ?_ | (intro hc; exact absurd hc (by decide)) | (intro hc; exfalso; omega) | (intro hc; (first | rw [wrap_small (by omega) (by omega)] at hc | rw [nI_eq] at hc | skip); try (conv => cbv))
   refine loop_upx xa.length (fun s : Int × Ar => [(1, .c (.arr 5 v2 0 n)), (2, bA false), (3, .c (.ptr 1 0 0 0)), (8, .c (.ptr 6 0 0 0)), (9, iA qi), (10, bA true), (13, .c (.d (.list false 3 ll))), (14, iA (Λ ll)), (15, iA i), (30, .c (.d (.list false 1 xl))), (31, iA (Λ xl)), (32, iA s.1)])
    (fun s => [.am s.2, .bx [.ptr 2 0 0 0], .bx [.d (iD nodes), .d (.list false 1 ol), .d (.list false 7 kl), .d (.list false 1 il), .arr 3 v 0 w, .arr 4 v1 0 n, .arr 5 v2 0 n], .da true v 1 sl2, .da true v1 1 es1, .da true v2 1 es2, .bx [.d (iD xi), .d (.list false 1 xl), .d (iD xr)]])
    (fun mm s => s.1 = mm ∧ mm ≤ xa.length ∧ RowsR 1 s.2 es2 (rowsF n w (tabQ (l.take k) ids jx xa xr mm)) ∧ ∀ b, OffR es2 b → s.2 b = m b) (0, m2) 2
    (fun s : Ar => [(1, .c (.arr 5 v2 0 n)), (2, bA false), (3, .c (.ptr 1 0 0 0)), (13, .c (.d (.list false 3 ll))), (14, iA (Λ ll)), (15, iA i)])
    (fun s => [.am s, .bx [.ptr 2 0 0 0], .bx [.d (iD nodes), .d (.list false 1 ol), .d (.list false 7 kl), .d (.list false 1 il), .arr 3 v 0 w, .arr 4 v1 0 n, .arr 5 v2 0 n], .da true v 1 sl2, .da true v1 1 es1, .da true v2 1 es2])
    (fun s => RowsR 1 s es2 (rowsF n w (tabP (l.take (k + 1)) ids)) ∧ ∀ b, OffR es2 b → s b = m b) (Wk.ca) ⟨rfl, by omega, hrow, hoff⟩ (fun k s h => h.2.1) ?_ ?_
   ·rintro mm ⟨j2, m3⟩ Q2 ⟨hj2, hmm, hrow3, hoff3⟩ norm2 jn2 ex2 rt2
    simp only at hj2 hrow3 hoff3
    by_cases hml : mm < xa.length
    ·clear jn2 norm
     obtain ⟨y, hy⟩ : ∃ y, xa[mm]? = some y := ⟨_, List.getElem?_eq_getElem hml⟩
     have hya := elt_at xlh hj2 hy
     have hyr := hxok.2.2.2.2 y (List.mem_of_getElem? hy)
     obtain ⟨a, hay⟩ : ∃ a : Nat, y = a := ⟨y.toNat, by omega⟩
     have hstp := tab_step (l := l.take k) (ids := ids) (xr := xr) (w := w) hjn hy hay
     have hej : es2[jx]? = some (es2[jx]'(by rw [hrow3.len, rowsF_len]; exact hjn)) := List.getElem?_eq_getElem _
     have es1l : es2.length = n := by rw [hrow3.len, rowsF_len]
     obtain ⟨d, hd⟩ := hrow3.one jx _ hej
     rw [hd] at hej
     have hrj := hrow3.row jx d _ hej (rowsF_at hjn)
     rcases hrj with ⟨_, hnil⟩ | ⟨b, N, cap, rfl, hmb, hs, hc1, hc2⟩
     ·have : (arrS w (tabQ (l.take k) ids jx xa xr mm jx)).length = w := arrS_len _ _
      rw [hnil] at this; simp at this; omega
     have hll : (arrS w (tabQ (l.take k) ids jx xa xr mm jx)).length = w := arrS_len _ _
     generalize arrS w (tabQ (l.take k) ids jx xa xr mm jx) = row at *
     obtain ⟨wr, hwr⟩ : ∃ wr, wr = row.length := ⟨_, rfl⟩
     obtain ⟨fl, hfl⟩ : ∃ fl, fl = row.flatten := ⟨_, rfl⟩
     have hfll : fl.length = wr := by rw [hfl, hwr]; exact flat1_len hs
     have hwrt := fun m' (hm' : m' = mup m3 b (.cs N (fl.take a ++ ([D.int .i64 xr] ++ fl.drop (a + [D.int .i64 xr].length))))) => (show RowsR 1 m' es2 (rowsF n w (tabQ (l.take k) ids jx xa xr (mm + 1))) from by
      rw [hm', hfl, ← hstp]
      exact hrow3.write (by rw [← hwr] at hej; exact hej) hwr hmb hs (by rw [hwr]; exact hc1) hc2 (by omega))
     rw [← hwr] at hej hc1 hll
     rw [← hfl] at hmb
     clear hstp
     conv => cbv
     repeat' first | (refine ex _ _ _ ?_; (conv => cbv)) | (refine rt _ _ ?_; (conv => cbv)) | (intro e he; cases Option.some.inj (he.symm.trans hya); (conv => cbv)) | (intro (k : Nat) hk; refine (fun (hz : jx = k) => ?_) ?_; rotate_left; omega; subst hz; (conv => cbv)) | (intro (e : List D) he; cases Option.some.inj (he.symm.trans hej); (conv => cbv)) | (intro (q : Nat) hq; refine (fun (hz : a = q) => ?_) (by omega); subst hz; (conv => cbv)) | (refine ⟨N, fl, hmb, (by rw [hfll]; simp only [List.length_cons, List.length_nil]; omega), ?_⟩; intro (m' : Ar) hm'; (conv => cbv)) | exact gu | exact trivial | refine And.intro ?_ ?_ | (intro hc; exact absurd hc (by decide)) | (intro hc; exfalso; omega) | (intro hc; (first | rw [wrap_small (by omega) (by omega)] at hc | rw [nI_eq] at hc | skip); try (conv => cbv))
     refine norm2 _ _ (_, m') ?_ (Wk.ca)
     refine ⟨by simp only; omega, by omega, hwrt m' hm', fun b2 hb2 => ?_⟩
     simp only
     rw [hm', mup_ne (fun e => by subst e; exact hb2 jx 0 _ _ hej)]
     exact hoff3 b2 hb2
    ·obtain rfl : mm = xa.length := by omega
     rw [hqe] at hrow3
     clear norm2 norm
     conv => cbv
     repeat' first | exact gu | exact trivial | refine And.intro ?_ ?_ | (intro hc; exact absurd hc (by decide)) | (intro hc; exfalso; omega) | (intro hc; (first | rw [wrap_small (by omega) (by omega)] at hc | rw [nI_eq] at hc | skip); try (conv => cbv))
     exact jn2 _ _ m3 ⟨hrow3, hoff3⟩ (Wk.ca)
   ·rintro m3 ⟨hrow3, hoff3⟩
    conv => cbv
    repeat' first | (refine ex _ _ _ ?_; (conv => cbv)) | (refine rt _ _ ?_; (conv => cbv)) | exact gu | exact trivial | refine And.intro ?_ ?_ | (intro hc; exact absurd hc (by decide)) | (intro hc; exfalso; omega) | (intro hc; (first | rw [wrap_small (by omega) (by omega)] at hc | rw [nI_eq] at hc | skip); try (conv => cbv))
    refine norm _ _ (_, m3, sl2) ?_ (Wk.ca)
    exact ⟨by simp only; omega, by omega, hrow3, hoff3, hst⟩
  ·rw [decide_eq_false hxc] at hsx
   have hqe : rowsF n w (tabP (l.take k) ids) = rowsF n w (tabP (l.take (k + 1)) ids) := rowsF_ext fun i2 hi2 e _ => by
    rw [htk, tabP, tabP, rate_snoc hnk, if_neg]
    intro e1
    refine hxc ?_
    rw [e1, List.getD_eq_getElem?_getD, List.getElem?_eq_getElem (by omega), Option.getD_some]
    exact List.getElem_mem _
   rw [hqe] at hrow
   obtain ⟨xi, xa, xr⟩ := x
   simp only [encTn, intsD] at hxa hxok
   simp only at hsx
   obtain ⟨qi, hqi⟩ : ∃ qi : Int, qi = posS ids xi := ⟨_, rfl⟩
   rw [← hqi] at hsx
   generalize xlh : xa.map encI = xl at *
   have xln : Λ xl = xa.length := by rw [Λo, ← xlh]; simp
   conv => cbv
   repeat' first | (refine ex _ _ _ ?_; (conv => cbv)) | (refine rt _ _ ?_; (conv => cbv)) | (intro e he; cases Option.some.inj (he.symm.trans hxa); (conv => cbv)) | (left; intro (_ : Unit); (conv => cbv)) | (refine call_r hsx rfl rfl ?_; conv => cbv) | exact gu | exact trivial | refine And.intro ?_ ?_ | (intro hc; exact absurd hc (by decide)) | (intro hc; exfalso; omega) | (intro hc; (first | rw [wrap_small (by omega) (by omega)] at hc | rw [nI_eq] at hc | skip); try (conv => cbv))
   refine loop_upx xa.length (fun s : Int => [(1, .c (.arr 5 v2 0 n)), (2, bA false), (3, .c (.ptr 1 0 0 0)), (8, .c (.ptr 6 0 0 0)), (10, bA false), (13, .c (.d (.list false 3 ll))), (14, iA (Λ ll)), (15, iA i), (30, .c (.d (.list false 1 xl))), (31, iA (Λ xl)), (32, iA s)])
    (fun s => [.am m2, .bx [.ptr 2 0 0 0], .bx [.d (iD nodes), .d (.list false 1 ol), .d (.list false 7 kl), .d (.list false 1 il), .arr 3 v 0 w, .arr 4 v1 0 n, .arr 5 v2 0 n], .da true v 1 sl2, .da true v1 1 es1, .da true v2 1 es2, .bx [.d (iD xi), .d (.list false 1 xl), .d (iD xr)]])
    (fun mm s => s = mm ∧ mm ≤ xa.length) 0 2
    (fun _ : Unit => [(1, .c (.arr 5 v2 0 n)), (2, bA false), (3, .c (.ptr 1 0 0 0)), (13, .c (.d (.list false 3 ll))), (14, iA (Λ ll)), (15, iA i)])
    (fun _ => [.am m2, .bx [.ptr 2 0 0 0], .bx [.d (iD nodes), .d (.list false 1 ol), .d (.list false 7 kl), .d (.list false 1 il), .arr 3 v 0 w, .arr 4 v1 0 n, .arr 5 v2 0 n], .da true v 1 sl2, .da true v1 1 es1, .da true v2 1 es2])
    (fun _ => True) (Wk.ca) ⟨rfl, by omega⟩ (fun k s h => h.2) ?_ ?_
   ·rintro mm j2 Q2 ⟨hj2, hmm⟩ norm2 jn2 ex2 rt2
    by_cases hml : mm < xa.length
    ·clear jn2 norm
     obtain ⟨y, hy⟩ : ∃ y, xa[mm]? = some y := ⟨_, List.getElem?_eq_getElem hml⟩
     have hya := elt_at xlh hj2 hy
     conv => cbv
     repeat' first | (intro e he; cases Option.some.inj (he.symm.trans hya); (conv => cbv)) | exact gu | exact trivial | refine And.intro ?_ ?_ | (intro hc; exact absurd hc (by decide)) | (intro hc; exfalso; omega) | (intro hc; (first | rw [wrap_small (by omega) (by omega)] at hc | rw [nI_eq] at hc | skip); try (conv => cbv))
     refine norm2 _ _ _ ?_ (Wk.ca)
     exact ⟨by omega, by omega⟩
    ·clear norm2 norm
     conv => cbv
     repeat' first | exact gu | exact trivial | refine And.intro ?_ ?_ | (intro hc; exact absurd hc (by decide)) | (intro hc; exfalso; omega) | (intro hc; (first | rw [wrap_small (by omega) (by omega)] at hc | rw [nI_eq] at hc | skip); try (conv => cbv))
     exact jn2 _ _ () trivial (Wk.ca)
   ·rintro - -
    conv => cbv
    repeat' first | (refine ex _ _ _ ?_; (conv => cbv)) | (refine rt _ _ ?_; (conv => cbv)) | exact gu | exact trivial | refine And.intro ?_ ?_ | (intro hc; exact absurd hc (by decide)) | (intro hc; exfalso; omega) | (intro hc; (first | rw [wrap_small (by omega) (by omega)] at hc | rw [nI_eq] at hc | skip); try (conv => cbv))
    refine norm _ _ (_, m2, sl2) ?_ (Wk.ca)
    exact ⟨by simp only; omega, by omega, hrow, hoff, hst⟩
 refine (FnS.cut h0 ?_).mono ?_
 ·rintro r' h' ⟨h2, m', sl', rfl, rfl, h⟩
  exact ⟨rfl, rfl⟩
 ·rintro r' h1 ⟨h2, ⟨h3, m', sl', rfl, e, h⟩, hl⟩
  exact ⟨m', sl', rfl, (List.append_inj e hl).1, h⟩
end Go.Ab

/-
  Updates, part f: the reference's answers: loads, checks, orders.
-/
namespace Go.Ab
open Go.Proofs
theorem proper_sml {t : Top} {l : List Tn} (h : properS t l = true) : SmlT l ∧ l.length ≤ 12 := by
 have h1 := properS_spec.1 h
 exact ⟨fun x hx => by have := (h1.2.2 x hx).2.2.1; omega, h1.2.1.2⟩
theorem proper_valid {t : Top} {l : List Tn} (h : properS t l = true) : validT t = true := (properS_spec.1 h).1
/-! checks -/
end Go.Ab

/-
  Updates, part n: the program's job.
-/
namespace Go.Ab
open Go.Proofs
def tabD (n w : Nat) (f : Nat → Nat → Int) : D := .list false 1 ((rowsF n w f).map fun l => [.list false 1 l])
def jobC (t : Top) (ch : List Int) (a b : List Tn) : CV := .rp [iD t.nodes, boolsD t.ov, linksD t.links, intsD ch, .list false 1 (arrS (2 * t.links.length) fun e => stayP a ch e), tabD ch.length (2 * t.links.length) (tabP a ch), tabD ch.length (2 * t.links.length) (tabP b ch)]
theorem RowsR.same {sz : Nat} {m m' : Ar} {es : List (List D)} {rows : List (List (List D))} (h : RowsR sz m es rows) (hs : ∀ (i b o n c : Nat), es[i]? = some [.sl b o sz n c] → m' b = m b) : RowsR sz m' es rows where
 len := h.len
 one := h.one
 row j d l h1 h2 := by
  rcases h.row j d l h1 h2 with hr | ⟨b, N, cap, rfl, r2, r3⟩
  ·exact .inl hr
  ·exact .inr ⟨b, N, cap, rfl, by rw [hs j b _ _ _ h1]; exact r2, r3⟩
 dis := h.dis
theorem w1_fr {P : Program} {h : Hp} {f : Nat} {args' : List AV} {K : AV → Hp → Prop} {args : List AV} {hc : Hp} {R : AV → Hp → Prop} (σ : List Nat) (hf : FnS P f args hc R) (ha : args' = rnAs (rho σ h.length) args) (hlen : σ.length = hc.length) (hnd : σ.Nodup)
  (hh : frOk h (rho σ h.length) 0 hc) (hcl : refsH hc.length hc = true) (hca : args.all (refsA hc.length) = true) (k : ∀ r hc', R r hc' → K (rnA (rho σ h.length) r) (backH h σ hc')) : ∃ R', FnS P f args' h R' ∧ ∀ r h', R' r h' → K r h' := by
 refine ⟨K, ?_, fun _ _ h => h⟩
 rw [ha]
 refine (hf.frame σ h hlen hnd (fun i b hb => by have := frOk_get hh i b hb; rw [Nat.zero_add] at this; exact this) hcl fun x hx => List.all_eq_true.1 hca x hx).mono ?_
 rintro r h' ⟨r0, hc', h1, rfl, rfl⟩
 exact k r0 hc' h1
theorem ch_len24 {t : Top} {a b : List Tn} (h1 : properS t a = true) (h2 : properS t b = true) : (changedS a b).length ≤ 24 := by
 have l1 := (proper_sml h1).2
 have l2 := (proper_sml h2).2
 rw [changed_eq h1 h2, chS]
 have := fold_len (p := fun i => eqS a b i) ((a ++ b).map (·.id)) []
 simp only [List.length_map, List.length_append, List.length_nil] at this
 omega
theorem prepare_no (P : Program) (hP : P = Try.prog) (t : Top) (a b : List Tn) (h : ¬ (properS t a = true ∧ properS t b = true)) : Ret P n_update_prepare [topA t, tnsA a, tnsA b] (.tup [.c (.d .nilp), iA 1]) := by
 have hpa := pproper_ok P hP t a
 have hpb := pproper_ok P hP t b
 refine arena_start (hP ▸ mixed) (hP ▸ fn_update_prepare) (hP ▸ c_update_prepare) (Nat.le_of_ble_eq_true rfl) fun Λ Λo K hK => ?_
 clear hP
 generalize properS t a = x at *
 generalize properS t b = y at *
 simp only [tnsA, tnsD, intsA, intsD] at *
 generalize a.map encTn = al at *
 generalize b.map encTn = bl at *
 obtain ⟨nodes, ov, links⟩ := t
 simp only [topA, boolsD, linksD] at *
 generalize hol : ov.map encB = ol at *
 generalize hll : links.map encLk = ll at *
 have hlo : Λ ol = ov.length := by rw [Λo, ← hol]; simp
 have hls : Λ ll = links.length := by rw [Λo, ← hll]; simp
 cases x
 ·conv => cbv
  repeat' first | (left; intro (_ : Unit); (conv => cbv)) | refine call_b hpa rfl rfl ?_ ?_ | exact gu | exact trivial | refine And.intro ?_ ?_ | (intro hc; exact absurd hc (by decide)) | (intro hc; exfalso; omega) | (intro hc; (first | rw [wrap_small (by omega) (by omega)] at hc | rw [nI_eq] at hc | skip); try (conv => cbv))
  exact ⟨[.c (.d .nilp), iA 1], ⟨.c _ _ (.d _ _ (.fg _)), .c _ _ (.d _ _ (.fg _)), trivial⟩, hK⟩
 ·cases y
  ·conv => cbv
   repeat' first | (left; intro (_ : Unit); (conv => cbv)) | refine call_b hpa rfl rfl ?_ ?_ | refine call_b hpb rfl rfl ?_ ?_ | exact gu | exact trivial | refine And.intro ?_ ?_ | (intro hc; exact absurd hc (by decide)) | (intro hc; exfalso; omega) | (intro hc; (first | rw [wrap_small (by omega) (by omega)] at hc | rw [nI_eq] at hc | skip); try (conv => cbv))
   exact ⟨[.c (.d .nilp), iA 1], ⟨.c _ _ (.d _ _ (.fg _)), .c _ _ (.d _ _ (.fg _)), trivial⟩, hK⟩
  ·exact absurd ⟨rfl, rfl⟩ h
theorem prepare_yes (P : Program) (hP : P = Try.prog) (t : Top) (a b : List Tn) (ra : idOk a) (rb : idOk b) (p1 : properS t a = true) (p2 : properS t b = true) : Ret P n_update_prepare [topA t, tnsA a, tnsA b] (.tup [.c (jobC t (changedS a b) a b), iA 0]) := by
 have hpa := pproper_ok P hP t a
 have hpb := pproper_ok P hP t b
 rw [p1] at hpa
 rw [p2] at hpb
 have hch := pchanged_ok P hP (hP ▸ sortedK) a b ra rb
 have a1 := properS_spec.1 p1
 have b1 := properS_spec.1 p2
 have h256 := (validT_spec.1 a1.1).2.2.1
 have har := garcs_ok P hP t h256
 have hcl := ch_len24 p1 p2
 have hinc := changed_inc a b
 have hem := fun m v sl hsl => pempty_ok P hP t (by omega) m v (2 * t.links.length) (changedS a b) (by omega) sl rfl hsl
 have ha1 := fun m v v1 v2 sl es1 es2 hsl hr => padd1_ok P hP t (by omega) m v (2 * t.links.length) (changedS a b).length v1 v2 (changedS a b) rfl (by omega) hinc sl es1 es2 rfl hsl hr a a1.2.1 a1.2.2
 have ha2 := fun m v v1 v2 sl es1 es2 hr => padd2_ok P hP t (by omega) m v (2 * t.links.length) (changedS a b).length v1 v2 (changedS a b) rfl (by omega) hinc sl es1 es2 rfl hr b b1.2.1 b1.2.2
 have f57 : FnOk P n_update_prepare_1 := hP ▸ ⟨_, fn_update_prepare_1, rfl, by decide⟩
 have f58 : FnOk P n_update_prepare_2 := hP ▸ ⟨_, fn_update_prepare_2, rfl, by decide⟩
 refine arena_start (hP ▸ mixed) (hP ▸ fn_update_prepare) (hP ▸ c_update_prepare) (Nat.le_of_ble_eq_true rfl) fun Λ Λo K hK => ?_
 clear hP p1 p2 a1 b1
 obtain ⟨w, hw⟩ : ∃ w : Nat, w = 2 * t.links.length := ⟨_, rfl⟩
 rw [show (2 * (t.links.length : Int)) = (w : Int) by omega] at har
 rw [jobC, ← hw] at hK
 rw [← hw] at hem ha1 ha2
 simp only [jobH, addH] at hem ha1 ha2
 generalize changedS a b = ch at *
 simp only [tnsA, tnsD, intsA, intsD] at *
 generalize clh : List.map encI ch = cl at *
 have cln : Λ cl = ch.length := by rw [Λo, ← clh]; simp
 obtain ⟨n, hn⟩ : ∃ n, n = ch.length := ⟨_, rfl⟩
 rw [← hn] at hem ha1 ha2 hK cln hcl
 generalize tabP a ch = fa at *
 generalize tabP b ch = fb at *
 generalize stayP a ch = sp at *
 generalize a.map encTn = al at *
 generalize b.map encTn = bl at *
 obtain ⟨nodes, ov, links⟩ := t
 simp only [topA, boolsD, linksD, List.cons_append, List.nil_append] at *
 generalize hol : ov.map encB = ol at *
 generalize hll : links.map encLk = ll at *
 obtain ⟨wi, hwi⟩ : ∃ wi : Int, wi = w := ⟨_, rfl⟩
 rw [← hwi] at har
 conv => cbv
 repeat' first | (left; intro (_ : Unit); (conv => cbv)) | refine call_b hpa rfl rfl ?_ ?_ | refine call_b hpb rfl rfl ?_ ?_ | (refine call_r hch rfl rfl ?_; conv => cbv) | (refine call_r har rfl rfl ?_; conv => cbv) | exact f57 | exact f58 | (intro (k : Nat) (z : List (List D)) hk hz; refine (fun (hq : w = k) => ?_) (by omega); subst hq; rw [show wi.toNat = w by omega, arrS_rep] at hz; (conv => cbv)) | exact gu | exact trivial | refine And.intro ?_ ?_ | (intro hc; exact absurd hc (by decide)) | (intro hc; exfalso; omega) | (intro hc; (first | rw [wrap_small (by omega) (by omega)] at hc | rw [nI_eq] at hc | skip); try (conv => cbv))
 have hzl : z.length = w := by rw [hz, arrS_len]
 refine w1_fr [0, 4, 3, 2, 1] (hem am0 0 z hzl) rfl rfl (by decide) (by repeat' first | exact trivial | refine And.intro ?_ ?_ | rfl) rfl rfl ?_
 rintro r hc' ⟨m1, ve1, es1, rfl, rfl, hr1, hg1, hn1⟩
 conv => cbv
 refine ⟨f57, ?_⟩
 have hem2 := hem m1 0 z hzl
 refine w1_fr [0, 4, 3, 2, 1] hem2 rfl rfl (by decide) (by repeat' first | exact trivial | refine And.intro ?_ ?_ | rfl) rfl rfl ?_
 rintro r hc' ⟨m2, ve2, es2, rfl, rfl, hr2, hg2, hn2⟩
 rw [rowsF_zero] at hr1 hr2
 have hd12 : ∀ (i j b o n c o' n' c' : Nat), es1[i]? = some [.sl b o 1 n c] → es2[j]? = some [.sl b o' 1 n' c'] → False := fun i j b o n c o' n' c' h1 h2 => by
  obtain ⟨x, hx⟩ := hr1.key h1
  rw [hn2 j b o' n' c' h2] at hx; cases hx
 have hA1 := ha1 m2 0 ve1 ve2 z es1 es2 hz (hr1.grown hg2)
 conv => cbv
 repeat' first | exact f58 | (refine callv_fr [0, 4, 3, 2, 5, 6] hA1 rfl rfl (by decide) (by repeat' first | exact trivial | refine And.intro ?_ ?_ | rfl) rfl rfl ?_; rintro r hc' ⟨m3, sl3, rfl, rfl, hra, hoff1, hsl3⟩; (conv => cbv)) | exact gu | exact trivial | refine And.intro ?_ ?_ | (intro hc; exact absurd hc (by decide)) | (intro hc; exfalso; omega) | (intro hc; (first | rw [wrap_small (by omega) (by omega)] at hc | rw [nI_eq] at hc | skip); try (conv => cbv))
 have hA2 := ha2 m3 0 ve1 ve2 sl3 es1 es2 (hr2.same fun i b o n c he => hoff1 b fun i2 o2 n2 c2 he2 => hd12 i2 i b o2 n2 c2 o n c he2 he)
 repeat' first | exact f58 | (refine callv_fr [0, 4, 3, 2, 5, 6] hA2 rfl rfl (by decide) (by repeat' first | exact trivial | refine And.intro ?_ ?_ | rfl) rfl rfl ?_; rintro r hc' ⟨m4, sl4, rfl, rfl, hrb, hoff2, hsl4⟩; (conv => cbv)) | exact gu | exact trivial | refine And.intro ?_ ?_ | (intro hc; exact absurd hc (by decide)) | (intro hc; exfalso; omega) | (intro hc; (first | rw [wrap_small (by omega) (by omega)] at hc | rw [nI_eq] at hc | skip); try (conv => cbv))
 have hra2 := hra.same (m' := m4) fun i b o n c he => hoff2 b fun i2 o2 n2 c2 he2 => hd12 i i2 b o n c o2 n2 c2 he he2
 rename_i s4 hs4 e1 he1 e2
 have he2 := hc
 have q1 : s4 = arrS w fun e => sp e := by rw [hs4, hsl4, hsl3, List.drop_zero, List.take_of_length_le (by rw [arrS_len]; omega)]
 have q2 : e1 = es1 := by rw [he1, List.drop_zero, List.take_of_length_le (by rw [hra.len, rowsF_len]; omega)]
 have q3 : e2 = es2 := by rw [he2, List.drop_zero, List.take_of_length_le (by rw [hrb.len, rowsF_len]; omega)]
 have hbl : ∀ f : Nat → Nat → Int, ∀ l ∈ rowsF n w f, l.length ≤ 9223372036854775807 := fun f l hl => by
  simp only [rowsF, List.mem_map] at hl
  obtain ⟨_, _, rfl⟩ := hl
  rw [arrS_len]; omega
 rw [q1, q2, q3]
 exact ⟨[.c (.rp [iD nodes, D.list false 1 ol, D.list false 7 ll, D.list false 1 cl, D.list false 1 (arrS w fun e => sp e), tabD n w fa, tabD n w fb]), iA 0],
  ⟨.c _ _ (.rp _ _ ⟨.fg _, .fg _, .fg _, .fg _, .same _, hra2.thaw (hbl fa), hrb.thaw (hbl fb), trivial⟩), .c _ _ (.d _ _ (.fg _)), trivial⟩, hK⟩
end Go.Ab

/-
  Comparing the versions of blocks.
-/
namespace Go.Ab
open Go.Proofs
theorem bq_self (n : Nat) : Nat.beq n n = true := Nat.beq_refl n
theorem bq_old (n : Nat) : Nat.beq n n.succ = false := by
 rw [Bool.eq_false_iff]; intro h; have := Nat.eq_of_beq_eq_true h; omega
theorem bq_lit (a b : Nat) : Nat.beq a b = decide (a = b) := by
 by_cases h : a = b
 ·subst h; simp
 ·rw [decide_eq_false h, Bool.eq_false_iff]; exact fun h' => h (Nat.eq_of_beq_eq_true h')
end Go.Ab

/-
  Updates, part g: the reference's search of an order.
-/
namespace Go.Ab
open Go.Proofs
theorem look_fr {P : Program} {m : Nat} {d : Bool} {L : Lv} {h : Hp} {f : Nat} {xs : List X} {vargs : List AV} {K : Lv → AV → Hp → Prop} {r : AV} (hf : FrS P f vargs r) (ha : viewAs h (evsN L xs) = some vargs)
  (k : K L r h) : CallS P m d L h f xs K :=
 CallS.pure (r := r) (Or.inr ⟨vargs, ha, .inr hf⟩) k
def fewS (l : List Tn) (most : Int) : Bool := decide (∀ x ∈ l, x.arcs.length ≤ 70) && decide ((l.length : Int) ≤ most)
theorem rfew_ok (P : Program) (hP : P = Try.prog) (l : List Tn) (most : Int) : Ret P n_ref48_Few [tnsA l, iA most] (bA (fewS l most)) := by
 refine ret_start (hP ▸ mixed) (hP ▸ fn_ref48_Few) (hP ▸ c_ref48_Few) (Nat.le_of_ble_eq_true rfl) fun Λ Λo K hK => ?_
 clear hP
 have no : ∀ x ∈ l, ¬ x.arcs.length ≤ 70 → K (bA false) := fun x hx h => by
  rw [fewS, decide_eq_false (fun h1 => h (h1 x hx))] at hK; exact hK
 have yes : (∀ x ∈ l, x.arcs.length ≤ 70) → ∀ b, b = decide ((l.length : Int) ≤ most) → K (bA b) := fun h1 b hb => by
  rw [fewS, decide_eq_true h1, Bool.true_and, ← hb] at hK; exact hK
 clear hK
 simp only [tnsA, tnsD] at *
 generalize llh : l.map encTn = ll at *
 have lln : Λ ll = l.length := by rw [Λo, ← llh]; simp
 conv => cbv
 repeat' first | exact gu | exact trivial | refine And.intro ?_ ?_ | (intro hc; exact absurd hc (by decide)) | (intro hc; exfalso; omega) | (intro hc; (first | rw [wrap_small (by omega) (by omega)] at hc | rw [nI_eq] at hc | skip); try (conv => cbv))
 refine loop_up l.length (fun i : Int => [(0, .c (.d (.list false 3 ll))), (1, iA most), (5, iA i)]) (fun _ => []) (fun k i => i = k ∧ k ≤ l.length ∧ ∀ x ∈ l.take k, x.arcs.length ≤ 70) 0 (Wk.cw) ⟨rfl, by omega, by simp⟩ (fun k s h => h.2.1) ?_
 rintro k i Q' ⟨hi, hk, hok⟩ norm ex rt
 by_cases hlt : k < l.length
 ·obtain ⟨x, hx⟩ : ∃ x, l[k]? = some x := ⟨_, List.getElem?_eq_getElem hlt⟩
  have hxa := elt_at llh hi hx
  have no2 := no x (List.mem_of_getElem? hx)
  have nxt : x.arcs.length ≤ 70 → ∀ y ∈ l.take (k + 1), y.arcs.length ≤ 70 := fun h y hy => by
   rw [take_succ_get hx] at hy
   rcases List.mem_append.1 hy with hy | hy
   ·exact hok y hy
   ·simp only [List.mem_singleton] at hy; subst hy; exact h
  clear no yes
  obtain ⟨xi, xa, xr⟩ := x
  simp only [encTn, intsD] at hxa no2 nxt
  generalize xlh : xa.map encI = xl at *
  have xln : Λ xl = xa.length := by rw [Λo, ← xlh]; simp
  conv => cbv
  repeat' first | (refine ex _ _ _ ?_; (conv => cbv)) | (refine rt _ _ ?_; (conv => cbv)) | (intro e he; cases Option.some.inj (he.symm.trans hxa); (conv => cbv)) | exact gu | exact trivial | refine And.intro ?_ ?_ | (intro hc; exact absurd hc (by decide)) | (intro hc; exfalso; omega) | (intro hc; (first | rw [wrap_small (by omega) (by omega)] at hc | rw [nI_eq] at hc | skip); try (conv => cbv))
  ·exact no2 (by omega)
  ·refine norm _ _ _ ?_ (Wk.cw)
   exact ⟨by omega, by omega, nxt (by omega)⟩
 ·rw [List.take_of_length_le (by omega)] at hok
  conv => cbv
  repeat' first | (refine ex _ _ _ ?_; (conv => cbv)) | (refine rt _ _ ?_; (conv => cbv)) | exact gu | exact trivial | refine And.intro ?_ ?_ | (intro hc; exact absurd hc (by decide)) | (intro hc; exfalso; omega) | (intro hc; (first | rw [wrap_small (by omega) (by omega)] at hc | rw [nI_eq] at hc | skip); try (conv => cbv))
  all_goals exact yes hok _ (by simp; omega)
end Go.Ab

/-
  Updates, part o: the loads of a job.
-/
namespace Go.Ab
open Go.Proofs
def jobJ (t : Top) (ids : List Int) (J : Stps) : CV := .rp [iD t.nodes, boolsD t.ov, linksD t.links, intsD ids, .list false 1 (arrS J.w J.S), tabD J.n J.w J.B, tabD J.n J.w J.A]
theorem jobC_J (t : Top) (a b : List Tn) : jobC t (changedS a b) a b = jobJ t (changedS a b) (stepsT t a b) := rfl
structure SmlJ (J : Stps) : Prop where
 n : J.n ≤ 24
 w : J.w ≤ 512
 B : ∀ i e, 0 ≤ J.B i e ∧ J.B i e ≤ 1048576
 A : ∀ i e, 0 ≤ J.A i e ∧ J.A i e ≤ 1048576
 S : ∀ e, 0 ≤ J.S e ∧ J.S e ≤ 12582912
theorem sumN_bd {f : Nat → Int} (h : ∀ i, 0 ≤ f i ∧ f i ≤ 1048576) : ∀ n, 0 ≤ sumN f n ∧ sumN f n ≤ 1048576 * (n : Int) := by
 intro n
 induction n with
 | zero => simp [sumN]
 | succ n ih =>
  have := h n
  simp only [sumN]; omega
theorem cloneU_new (P : Program) (hP : P = Try.prog) (ll : List (List D)) (hl : ll.length ≤ 1000000) (h0 : ll ≠ []) : FnS P n_slices_Clone_int_int [.c (.d (.list false 1 ll))] [] fun r h' => ∃ n, n = ll.length ∧ r = .c (.arr 0 1 0 n) ∧ h' = [.da true 1 1 ll] := by
 refine fn_heap (hP ▸ mixed) (hP ▸ fn_slices_Clone_int_int) (hP ▸ c_slices_Clone_int_int) (Nat.le_of_ble_eq_true rfl) fun Λ Λo => ?_
 clear hP
 generalize hK : (fun (r : AV) (h' : Hp) => ∃ n, n = ll.length ∧ r = .c (.arr 0 1 0 n) ∧ h' = [.da true 1 1 ll]) = K
 have k1 : ∀ n rl es, es = ll → rl = true → n = ll.length → K (.c (.arr 0 1 0 n)) [Blk.da rl 1 1 es] := by
  intro n rl es h1 h3 h2; rw [← hK]; subst h1 h3; exact ⟨n, h2, rfl, rfl⟩
 clear hK
 have lln := Λo ll
 conv => cbv
 repeat' first | exact gu | exact trivial | refine And.intro ?_ ?_ | (intro hc; exact absurd hc (by decide)) | (intro hc; exfalso; omega) | (intro hc; (first | rw [wrap_small (by omega) (by omega)] at hc | rw [nI_eq] at hc | skip); try (conv => cbv))
 ·refine k1 _ _ _ ?_ ?_ ?_
  ·rw [hc]; simp
  ·rename_i h1; rw [h1]; rfl
  ·rename_i h1 _; rw [h1]; simp
 ·exact absurd (by assumption) h0
theorem tmJ_bd {J : Stps} (hs : SmlJ J) (m : Nat) (mv : Int) (e i : Nat) : 0 ≤ J.tm m mv e i ∧ J.tm m mv e i ≤ 1048576 := by
 have h1 := hs.B i e
 have h2 := hs.A i e
 unfold Stps.tm
 split
 ·omega
 ·split <;> omega
theorem pjloads_ok (P : Program) (hP : P = Try.prog) (t : Top) (ids : List Int) (J : Stps) (hn : ids.length = J.n) (hs : SmlJ J) (m : Nat) (hm : m < 4294967296) (mi : Int) :
  Ret P n_update_job_loads [.c (jobJ t ids J), .c (.d (.int .u32 m)), iA mi] (.c (.d (.list false 1 (arrS J.w fun e => J.load m mi e)))) := by
 obtain ⟨mz, hmz⟩ : ∃ mz : Int, mz = m := ⟨_, rfl⟩
 rw [← hmz]
 obtain ⟨w, hw⟩ : ∃ w, w = J.w := ⟨_, rfl⟩
 obtain ⟨n, hnn⟩ : ∃ n, n = J.n := ⟨_, rfl⟩
 have hn24 := hs.n
 have hw512 := hs.w
 by_cases hw0 : J.w = 0
 ·have hcl := cloneInts_raw P hP [] (by simp)
  refine ret_start (hP ▸ mixed) (hP ▸ fn_update_job_loads) (hP ▸ c_update_job_loads) (Nat.le_of_ble_eq_true rfl) fun Λ Λo K hK => ?_
  clear hP
  rw [show arrS J.w (fun e => J.load m mi e) = [] from by rw [hw0]; rfl] at hK
  rw [jobJ, show arrS J.w J.S = [] from by rw [hw0]; rfl]
  simp only [tabD, intsD, boolsD, linksD] at *
  generalize ilh : List.map encI ids = il at *
  have iln : Λ il = ids.length := by rw [Λo, ← ilh]; simp
  generalize t.ov.map encB = ol at *
  generalize t.links.map encLk = ll at *
  generalize t.nodes = nodes at *
  generalize (rowsF J.n J.w J.B).map (fun l => [D.list false 1 l]) = rb at *
  generalize (rowsF J.n J.w J.A).map (fun l => [D.list false 1 l]) = ra at *
  have l0 : Λ [] = 0 := Λo []
  conv => cbv
  repeat' first | (refine call_r hcl rfl rfl ?_; conv => cbv) | exact gu | exact trivial | refine And.intro ?_ ?_ | (intro hc; exact absurd hc (by decide)) | (intro hc; exfalso; omega) | (intro hc; (first | rw [wrap_small (by omega) (by omega)] at hc | rw [nI_eq] at hc | skip); try (conv => cbv))
  refine loop_up J.n (fun i : Int => [(0, .c (.rp [iD nodes, .list false 1 ol, .list false 7 ll, .list false 1 il, .list false 1 [], .list false 1 rb, .list false 1 ra])), (1, .c (.d (.int .u32 mz))), (2, iA mi), (7, .c (.d (.list false 1 []))), (19, iA (Λ il)), (20, iA i)]) (fun _ => [])
   (fun k i => i = k ∧ k ≤ J.n) 0 (Wk.cw) ⟨rfl, by omega⟩ (fun k s h => h.2) ?_
  rintro k i Q' ⟨hi, hk⟩ norm ex rt
  by_cases hlt : k < J.n
  ·conv => cbv
   repeat' first | (refine ex _ _ _ ?_; (conv => cbv)) | (refine rt _ _ ?_; (conv => cbv)) | exact gu | exact trivial | refine And.intro ?_ ?_ | (intro hc; exact absurd hc (by decide)) | (intro hc; exfalso; omega) | (intro hc; (first | rw [wrap_small (by omega) (by omega)] at hc | rw [nI_eq] at hc | skip); try (conv => cbv))
   refine loop_upx 0 (fun q : Int => [(0, .c (.rp [iD nodes, .list false 1 ol, .list false 7 ll, .list false 1 il, .list false 1 [], .list false 1 rb, .list false 1 ra])), (1, .c (.d (.int .u32 mz))), (2, iA mi), (7, .c (.d (.list false 1 []))), (19, iA (Λ il)), (20, iA i), (24, iA (Λ [])), (25, iA q)]) (fun _ => [])
    (fun k q => k = 0 ∧ q = 0) 0 2 (fun _ : Unit => [(0, .c (.rp [iD nodes, .list false 1 ol, .list false 7 ll, .list false 1 il, .list false 1 [], .list false 1 rb, .list false 1 ra])), (1, .c (.d (.int .u32 mz))), (2, iA mi), (7, .c (.d (.list false 1 []))), (19, iA (Λ il)), (20, iA i)]) (fun _ => []) (fun _ => True) (Wk.cw) ⟨rfl, rfl⟩ (fun k s h => by omega) ?_ ?_
   ·rintro k2 q Q2 ⟨-, rfl⟩ norm2 jn2 ex2 rt2
    clear norm norm2
    conv => cbv
    repeat' first | exact gu | exact trivial | refine And.intro ?_ ?_ | (intro hc; exact absurd hc (by decide)) | (intro hc; exfalso; omega) | (intro hc; (first | rw [wrap_small (by omega) (by omega)] at hc | rw [nI_eq] at hc | skip); try (conv => cbv))
    exact jn2 _ _ () trivial (Wk.cw)
   ·rintro - -
    conv => cbv
    repeat' first | (refine ex _ _ _ ?_; (conv => cbv)) | (refine rt _ _ ?_; (conv => cbv)) | exact gu | exact trivial | refine And.intro ?_ ?_ | (intro hc; exact absurd hc (by decide)) | (intro hc; exfalso; omega) | (intro hc; (first | rw [wrap_small (by omega) (by omega)] at hc | rw [nI_eq] at hc | skip); try (conv => cbv))
    refine norm _ _ _ ?_ (Wk.cw)
    exact ⟨by omega, by omega⟩
  ·conv => cbv
   repeat' first | (refine ex _ _ _ ?_; (conv => cbv)) | (refine rt _ _ ?_; (conv => cbv)) | exact gu | exact trivial | refine And.intro ?_ ?_ | (intro hc; exact absurd hc (by decide)) | (intro hc; exfalso; omega) | (intro hc; (first | rw [wrap_small (by omega) (by omega)] at hc | rw [nI_eq] at hc | skip); try (conv => cbv))
   exact hK
 ·have hcl := cloneU_new P hP (arrS J.w J.S) (by rw [arrS_len]; omega) (by intro h; have := arrS_len J.w J.S; rw [h] at this; simp at this; omega)
  rw [arrS_len] at hcl
  have htb := tmJ_bd hs m mi
  have hsb := hs.S
  have hB := hs.B
  have hA := hs.A
  refine ret_start (hP ▸ mixed) (hP ▸ fn_update_job_loads) (hP ▸ c_update_job_loads) (Nat.le_of_ble_eq_true rfl) fun Λ Λo K hK => ?_
  clear hP hs
  rw [jobJ]
  have leaf : ∀ r, (r = arrS w fun e => J.load m mi e) → K (.c (.d (.list false 1 r))) := fun r h => by rw [h, hw]; exact hK
  clear hK
  unfold Stps.load at leaf
  rw [← hw] at hcl hw0 hw512
  rw [← hnn] at hn24 hn leaf
  rw [← hw, ← hnn]
  clear hw hnn
  have htm : ∀ e i, J.tm m mi e i = if (i : Int) = mi then max (J.B i e) (J.A i e) else if m.testBit i = true then J.A i e else J.B i e := fun _ _ => rfl
  generalize J.tm m mi = tm at *
  generalize J.B = B at *
  generalize J.A = A at *
  generalize J.S = S at *
  clear J
  have hrb : ∀ k, k < n → ((rowsF n w B).map fun l => [D.list false 1 l])[k]? = some [.list false 1 (arrS w (B k))] := fun k hk => by rw [List.getElem?_map, rowsF_at hk]; rfl
  have lrb : Λ ((rowsF n w B).map fun l => [D.list false 1 l]) = n := by rw [Λo, List.length_map, rowsF_len]
  have lra : Λ ((rowsF n w A).map fun l => [D.list false 1 l]) = n := by rw [Λo, List.length_map, rowsF_len]
  have hra : ∀ k, k < n → ((rowsF n w A).map fun l => [D.list false 1 l])[k]? = some [.list false 1 (arrS w (A k))] := fun k hk => by rw [List.getElem?_map, rowsF_at hk]; rfl
  simp only [tabD, intsD, boolsD, linksD] at *
  generalize ilh : List.map encI ids = il at *
  have iln : Λ il = ids.length := by rw [Λo, ← ilh]; simp
  rw [hn] at iln
  generalize t.ov.map encB = ol at *
  generalize t.links.map encLk = ll at *
  generalize t.nodes = nodes at *
  generalize (rowsF n w B).map (fun l => [D.list false 1 l]) = rb at *
  generalize (rowsF n w A).map (fun l => [D.list false 1 l]) = ra at *
  obtain ⟨sl, hsl⟩ : ∃ sl, sl = arrS w S := ⟨_, rfl⟩
  rw [← hsl] at hcl
  rw [← hsl]
  conv => cbv
  repeat' first | (refine call_fr [] hcl rfl rfl (by decide) (by repeat' first | exact trivial | refine And.intro ?_ ?_ | rfl) rfl rfl ?_; rintro r hc' ⟨w2, hw2, rfl, rfl⟩; (conv => cbv)) | exact gu | exact trivial | refine And.intro ?_ ?_ | (intro hc; exact absurd hc (by decide)) | (intro hc; exfalso; omega) | (intro hc; (first | rw [wrap_small (by omega) (by omega)] at hc | rw [nI_eq] at hc | skip); try (conv => cbv))
  subst hw2
  refine loop_up n (fun s : Int × List (List D) => [(0, .c (.rp [iD nodes, .list false 1 ol, .list false 7 ll, .list false 1 il, .list false 1 sl, .list false 1 rb, .list false 1 ra])), (1, .c (.d (.int .u32 mz))), (2, iA mi), (7, .c (.arr 0 1 0 w2)), (19, iA (Λ il)), (20, iA s.1)]) (fun s => [.da true 1 1 s.2])
   (fun k s => s.1 = k ∧ k ≤ n ∧ s.2 = arrS w2 fun e => S e + sumN (tm e) k) (0, sl) (Wk.cw) ⟨rfl, by omega, by simp only; rw [hsl]; exact arrS_ext fun e _ => by simp [sumN]⟩ (fun k s h => h.2.1) ?_
  rintro k ⟨i, es⟩ Q' ⟨hi, hk, hes⟩ norm ex rt
  simp only at hi hes
  by_cases hlt : k < n
  ·clear leaf
   have hrbk := hrb k hlt
   have hrak := hra k hlt
   obtain ⟨kk, hkk⟩ : ∃ kk, kk = k := ⟨_, rfl⟩
   have hik : i = (kk : Int) := by omega
   have ikt : i.toNat = kk := by omega
   rw [← hkk, ← ikt] at hrbk hrak
   rw [ikt] at hrbk hrak
   obtain ⟨tz, htz⟩ : ∃ tz : Int, tz = ((m / 2 ^ kk &&& 1 : Nat) : Int) := ⟨_, rfl⟩
   have htbit : tz = 1 ↔ m.testBit kk = true := by
    rw [htz, ← tb_div]
    constructor <;> intro h <;> omega
   have hdv : m / 2 ^ kk < 4294967296 := Nat.lt_of_le_of_lt (Nat.div_le_self _ _) hm
   conv => cbv
   repeat' first | (refine ex _ _ _ ?_; (conv => cbv)) | (refine rt _ _ ?_; (conv => cbv)) | exact gu | exact trivial | refine And.intro ?_ ?_ | (intro hc; exact absurd hc (by decide)) | (intro hc; exfalso; omega) | (intro hc; (first | rw [wrap_small (by omega) (by omega)] at hc | rw [nI_eq] at hc | skip); try (conv => cbv))
   rename_i w2z hw2z
   refine loop_upx w2 (fun s : Int × List (List D) => [(0, .c (.rp [iD nodes, .list false 1 ol, .list false 7 ll, .list false 1 il, .list false 1 sl, .list false 1 rb, .list false 1 ra])), (1, .c (.d (.int .u32 mz))), (2, iA mi), (7, .c (.arr 0 1 0 w2)), (8, iA i), (19, iA (Λ il)), (20, iA i), (24, iA w2z), (25, iA s.1)]) (fun s => [.da true 1 1 s.2])
    (fun q s => s.1 = q ∧ q ≤ w2 ∧ s.2 = arrS w2 fun e => S e + sumN (tm e) (if e < q then k + 1 else k)) (0, es) 2
    (fun s : List (List D) => [(0, .c (.rp [iD nodes, .list false 1 ol, .list false 7 ll, .list false 1 il, .list false 1 sl, .list false 1 rb, .list false 1 ra])), (1, .c (.d (.int .u32 mz))), (2, iA mi), (7, .c (.arr 0 1 0 w2)), (19, iA (Λ il)), (20, iA i)]) (fun s => [.da true 1 1 s])
    (fun s => s = arrS w2 fun e => S e + sumN (tm e) (k + 1)) (Wk.cw) ⟨rfl, by omega, by simp only; rw [hes]; exact arrS_ext fun e _ => by simp⟩ (fun k s h => h.2.1) ?_ ?_
   ·rintro q ⟨j, es2⟩ Q2 ⟨hj, hq, hes2⟩ norm2 jn2 ex2 rt2
    simp only at hj hes2
    by_cases hqw : q < w2
    ·clear jn2 norm
     obtain ⟨qq, hqq⟩ : ∃ qq, qq = q := ⟨_, rfl⟩
     have he2l : es2.length = w2 := by rw [hes2, arrS_len]
     have jqt : j.toNat = qq := by omega
     have hcB : (arrS w2 (B kk))[j.toNat]? = some [iD (B kk qq)] := by rw [jqt]; exact arrS_get (by omega)
     have hcA : (arrS w2 (A kk))[j.toNat]? = some [iD (A kk qq)] := by rw [jqt]; exact arrS_get (by omega)
     have lB : Λ (arrS w2 (B kk)) = w2 := by rw [Λo, arrS_len]
     have lA : Λ (arrS w2 (A kk)) = w2 := by rw [Λo, arrS_len]
     have hrbk2 : rb[i.toNat]? = some [D.list false 1 (arrS w2 (B kk))] := by rw [ikt]; exact hrbk
     have hrak2 : ra[i.toNat]? = some [D.list false 1 (arrS w2 (A kk))] := by rw [ikt]; exact hrak
     have hcE : es2[qq]? = some [iD (S qq + sumN (tm qq) kk)] := by rw [hes2, arrS_get (by omega), if_neg (by omega), hkk]
     have hsbq := hsb qq
     have hBq := hB kk qq
     have hAq := hA kk qq
     have hsm := sumN_bd (htb qq) kk
     have htmq := htm qq kk
     have hset : ∀ z, z = S qq + sumN (tm qq) kk + tm qq kk → es2.set qq [iD z] = arrS w2 fun e => S e + sumN (tm e) (if e < q + 1 then k + 1 else k) := fun z hz => by
      rw [hes2, arrS_set, hz]
      refine arrS_ext fun e _ => ?_
      by_cases h1 : e = qq
      ·rw [if_pos h1, if_pos (by omega), h1, ← hkk, sumN]; omega
      ·by_cases h2 : e < q
       ·rw [if_neg h1, if_pos h2, if_pos (by omega)]
       ·rw [if_neg h1, if_neg h2, if_neg (by omega)]
     rw [htmq] at hset
     generalize B kk qq = bq at *
     generalize A kk qq = aq at *
     generalize S qq = sq at *
     generalize sumN (tm qq) kk = uq at *
     obtain ⟨vq, hvq⟩ : ∃ vq, vq = sq + uq := ⟨_, rfl⟩
     rw [← hvq] at hcE hset
     generalize arrS w2 (B kk) = rowB at *
     generalize arrS w2 (A kk) = rowA at *
     clear hes hes2 hrb hra hrbk hrak hsb htb hB hA htm htmq
     conv => cbv
     repeat' first | (refine ex _ _ _ ?_; (conv => cbv)) | (refine rt _ _ ?_; (conv => cbv)) | (intro (k : Nat) hk; refine (fun (hz : kk = k) => ?_) ?_; rotate_left; omega; subst hz; (conv => cbv)) | (intro (k : Nat) hk; refine (fun (hz : qq = k) => ?_) ?_; rotate_left; omega; subst hz; (conv => cbv)) | (intro (e : List D) he; cases Option.some.inj (he.symm.trans hrbk2); (conv => cbv)) | (intro (e : List D) he; cases Option.some.inj (he.symm.trans hrak2); (conv => cbv)) | (intro (e : List D) he; cases Option.some.inj (he.symm.trans hcB); (conv => cbv)) | (intro (e : List D) he; cases Option.some.inj (he.symm.trans hcA); (conv => cbv)) | (intro (e : List D) he; cases Option.some.inj (he.symm.trans hcE); (conv => cbv)) | (refine ⟨.int .u32 tz, andU (shrU hmz hik (by omega) (by assumption)) (n := 1) rfl hdv (by decide) htz, ?_⟩; intro d' hd; subst hd; (conv => cbv)) | exact gu | exact trivial | refine And.intro ?_ ?_ | (intro hc; exact absurd hc (by decide)) | (intro hc; exfalso; omega) | (intro hc; (first | rw [wrap_small (by omega) (by omega)] at hc | rw [nI_eq] at hc | skip); try (conv => cbv))
     all_goals
      refine norm2 _ _ (_, _) ?_ (Wk.cw)
      refine ⟨by simp only; omega, by omega, ?_⟩
      simp only
      refine Eq.trans (by assumption) (hset _ ?_)
     ·rw [if_pos (by omega)]; omega
     ·rw [if_neg (by omega), if_pos (htbit.1 (by assumption))]; omega
     ·rw [if_neg (by omega), if_neg (fun h => absurd (htbit.2 h) (by assumption))]; omega
    ·obtain rfl : q = w2 := by omega
     have hend : es2 = arrS q fun e => S e + sumN (tm e) (k + 1) := by rw [hes2]; exact arrS_ext fun e he => by rw [if_pos he]
     clear norm2
     conv => cbv
     repeat' first | exact gu | exact trivial | refine And.intro ?_ ?_ | (intro hc; exact absurd hc (by decide)) | (intro hc; exfalso; omega) | (intro hc; (first | rw [wrap_small (by omega) (by omega)] at hc | rw [nI_eq] at hc | skip); try (conv => cbv))
     exact jn2 _ _ _ hend (Wk.cw)
   ·rintro es2 hes2
    conv => cbv
    repeat' first | (refine ex _ _ _ ?_; (conv => cbv)) | (refine rt _ _ ?_; (conv => cbv)) | exact gu | exact trivial | refine And.intro ?_ ?_ | (intro hc; exact absurd hc (by decide)) | (intro hc; exfalso; omega) | (intro hc; (first | rw [wrap_small (by omega) (by omega)] at hc | rw [nI_eq] at hc | skip); try (conv => cbv))
    refine norm _ _ (_, es2) ?_ (Wk.cw)
    exact ⟨by simp only; omega, by omega, hes2⟩
  ·obtain rfl : k = n := by omega
   have esl : es.length = w2 := by rw [hes, arrS_len]
   have lf : ∀ y, y = List.take w2 (List.drop 0 es) → K (.c (.d (.list false 1 y))) := fun y hy => leaf y (by rw [hy, List.drop_zero, List.take_of_length_le (by omega), hes])
   conv => cbv
   repeat' first | (refine ex _ _ _ ?_; (conv => cbv)) | (refine rt _ _ ?_; (conv => cbv)) | exact gu | exact trivial | refine And.intro ?_ ?_ | (intro hc; exact absurd hc (by decide)) | (intro hc; exfalso; omega) | (intro hc; (first | rw [wrap_small (by omega) (by omega)] at hc | rw [nI_eq] at hc | skip); try (conv => cbv))
   exact lf _ (by assumption)
theorem pjfits_ok (P : Program) (hP : P = Try.prog) (t : Top) (ids : List Int) (J : Stps) (hn : ids.length = J.n) (hs : SmlJ J) (hw : J.w = 2 * t.links.length) (hC : ∀ e : Nat, J.C e = (lkAt t e).cap) (m : Nat) (hm : m < 4294967296) (mi : Int) :
  Ret P n_update_job_fits [.c (jobJ t ids J), .c (.d (.int .u32 m)), iA mi] (bA (decide (J.Fit m mi))) := by
 have hld := pjloads_ok P hP t ids J hn hs m hm mi
 obtain ⟨mz, hmz⟩ : ∃ mz : Int, mz = m := ⟨_, rfl⟩
 rw [← hmz] at hld ⊢
 have hw512 := hs.w
 refine ret_start (hP ▸ mixed) (hP ▸ fn_update_job_fits) (hP ▸ c_update_job_fits) (Nat.le_of_ble_eq_true rfl) fun Λ Λo K hK => ?_
 clear hP
 have yes : (∀ e : Nat, e < J.w → J.load m mi e ≤ J.C e) → K (bA true) := fun h => by rw [decide_eq_true (show J.Fit m mi from h)] at hK; exact hK
 have no : ∀ e : Nat, e < J.w → J.C e < J.load m mi e → K (bA false) := fun e he h => by
  rw [decide_eq_false (fun h1 : J.Fit m mi => by have := h1 e he; omega)] at hK; exact hK
 clear hK
 rw [jobJ] at hld ⊢
 have hcap : ∀ e : Nat, e / 2 < t.links.length → ∃ x, t.links[e / 2]? = some x ∧ J.C e = x.cap := fun e he => by
  have h1 : t.links[e / 2]? = some (t.links[e / 2]) := List.getElem?_eq_getElem he
  exact ⟨_, h1, by rw [hC, lkAt, show ((e : Int) / 2).toNat = e / 2 by omega, h1]; rfl⟩
 have hat : ∀ e : Nat, e < J.w → (arrS J.w fun e => J.load m mi e)[e]? = some [iD (J.load m mi e)] := fun e he => arrS_get he
 have hal : Λ (arrS J.w fun e => J.load m mi e) = J.w := by rw [Λo, arrS_len]
 simp only [tabD, intsD, boolsD, linksD] at *
 generalize (arrS J.w fun e => J.load m mi e) = al at *
 generalize J.load m mi = ld at *
 generalize J.C = C at *
 generalize arrS J.w J.S = sl at *
 generalize (rowsF J.n J.w J.B).map (fun l => [D.list false 1 l]) = rb at *
 generalize (rowsF J.n J.w J.A).map (fun l => [D.list false 1 l]) = ra at *
 generalize J.w = w at *
 generalize ids.map encI = il at *
 obtain ⟨nodes, ov, links⟩ := t
 simp only at *
 generalize ov.map encB = ol at *
 generalize hll : links.map encLk = ll at *
 have lll : Λ ll = links.length := by rw [Λo, ← hll]; simp
 conv => cbv
 repeat' first | (refine call_r hld rfl rfl ?_; conv => cbv) | exact gu | exact trivial | refine And.intro ?_ ?_ | (intro hc; exact absurd hc (by decide)) | (intro hc; exfalso; omega) | (intro hc; (first | rw [wrap_small (by omega) (by omega)] at hc | rw [nI_eq] at hc | skip); try (conv => cbv))
 refine loop_up w (fun i : Int => [(0, .c (.rp [iD nodes, .list false 1 ol, .list false 7 ll, .list false 1 il, .list false 1 sl, .list false 1 rb, .list false 1 ra])), (12, .c (.d (.list false 1 al))), (13, iA (Λ al)), (14, iA i)]) (fun _ => []) (fun k i => i = k ∧ k ≤ w ∧ ∀ e : Nat, e < k → ld e ≤ C e) 0 (Wk.cw) ⟨rfl, by omega, fun e he => by omega⟩ (fun k s h => h.2.1) ?_
 rintro k i Q' ⟨hi, hk, hok⟩ norm ex rt
 by_cases hlt : k < w
 ·have hxa := hat k hlt
  have hii : i.toNat = k := by omega
  rw [← hii] at hxa
  obtain ⟨⟨ca, cb, cc, cd, ce, cf, cg⟩, hc1, hc2⟩ := hcap k (by omega)
  have hq := tdiv2 (x := i) (by omega) (by omega)
  obtain ⟨q, hqe⟩ : ∃ q, i / 2 = q := ⟨_, rfl⟩
  rw [hqe] at hq
  have hca := elt_at hll (i := q) (k := k / 2) (by omega) hc1
  simp only [encLk] at hca hc2
  have no := no k hlt
  have next : ld k ≤ ce → ∀ e : Nat, e < k + 1 → ld e ≤ C e := fun h e he => by
   by_cases h1 : e = k
   ·subst h1; rw [hc2]; exact h
   ·exact hok e (by omega)
  rw [hc2] at no
  rw [hii] at hxa
  generalize ld k = lv at *
  have hxb : al[i.toNat]? = some [iD lv] := by rw [hii]; exact hxa
  clear hok hat hcap hc2
  conv => cbv
  repeat' first | (refine ex _ _ _ ?_; (conv => cbv)) | (refine rt _ _ ?_; (conv => cbv)) | (intro (_ : Unit); decide) | (intro q' hq'; refine (fun (hz : q = q') => ?_) (hq.symm.trans hq'.symm); subst hz; (conv => cbv)) | (intro (e : List D) he; cases Option.some.inj (he.symm.trans hxb); (conv => cbv)) | (intro (e : List D) he; cases Option.some.inj (he.symm.trans hca); (conv => cbv)) | exact gu | exact trivial | refine And.intro ?_ ?_ | (intro hc; exact absurd hc (by decide)) | (intro hc; exfalso; omega) | (intro hc; (first | rw [wrap_small (by omega) (by omega)] at hc | rw [nI_eq] at hc | skip); try (conv => cbv))
  ·exact no (by omega)
  ·refine norm _ _ _ ?_ (Wk.cw)
   exact ⟨by omega, by omega, next (by omega)⟩
 ·conv => cbv
  repeat' first | (refine ex _ _ _ ?_; (conv => cbv)) | (refine rt _ _ ?_; (conv => cbv)) | exact gu | exact trivial | refine And.intro ?_ ?_ | (intro hc; exact absurd hc (by decide)) | (intro hc; exfalso; omega) | (intro hc; (first | rw [wrap_small (by omega) (by omega)] at hc | rw [nI_eq] at hc | skip); try (conv => cbv))
  exact yes fun e he => hok e (by omega)
end Go.Ab

/-
  Updates, part p: the program's loads and checks.
-/
namespace Go.Ab
open Go.Proofs
theorem sml_steps {t : Top} {a b : List Tn} (h1 : properS t a = true) (h2 : properS t b = true) : SmlJ (stepsT t a b) where
 n := ch_len24 h1 h2
 w := by
  have := (validT_spec.1 (proper_valid h1)).2.2.1
  show 2 * t.links.length ≤ 512
  omega
 B i e := rate_bd (proper_sml h1).1 _ _
 A i e := rate_bd (proper_sml h2).1 _ _
 S e := by
  have h3 := stay_bd (l := a) (fun x hx => (by have := (properS_spec.1 h1).2.2 x hx; have := this.2.2.1; omega)) (changedS a b) (e : Int)
  have h4 := (proper_sml h1).2
  show 0 ≤ stayP a (changedS a b) e ∧ stayP a (changedS a b) e ≤ 12582912
  omega
end Go.Ab

/-
  Updates, part q: the program's search of an order: what a step does, and failed sets.
-/
namespace Go.Ab
open Go.Proofs
theorem patmost_ok (P : Program) (hP : P = Try.prog) (w : Nat) (f g : Nat → Int) : Ret P n_update_Order_1 [.c (.d (.list false 1 (arrS w f))), .c (.d (.list false 1 (arrS w g)))] (bA (decide (∀ e, e < w → f e ≤ g e))) := by
 refine ret_start (hP ▸ mixed) (hP ▸ fn_update_Order_1) (hP ▸ c_update_Order_1) (Nat.le_of_ble_eq_true rfl) fun Λ Λo K hK => ?_
 clear hP
 have yes := yes_of hK
 have no := no_of hK
 clear hK
 have hf : ∀ e, e < w → (arrS w f)[e]? = some [iD (f e)] := fun e he => arrS_get he
 have hg : ∀ e, e < w → (arrS w g)[e]? = some [iD (g e)] := fun e he => arrS_get he
 have lf : Λ (arrS w f) = w := by rw [Λo, arrS_len]
 have lg : Λ (arrS w g) = w := by rw [Λo, arrS_len]
 generalize arrS w f = fl at *
 generalize arrS w g = gl at *
 conv => cbv
 repeat' first | exact gu | exact trivial | refine And.intro ?_ ?_ | (intro hc; exact absurd hc (by decide)) | (intro hc; exfalso; omega) | (intro hc; (first | rw [wrap_small (by omega) (by omega)] at hc | rw [nI_eq] at hc | skip); try (conv => cbv))
 refine loop_up w (fun i : Int => [(1, .c (.d (.list false 1 gl))), (7, .c (.d (.list false 1 fl))), (8, iA (Λ fl)), (9, iA i)]) (fun _ => []) (fun k i => i = k ∧ k ≤ w ∧ ∀ e, e < k → f e ≤ g e) 0 (Wk.cw) ⟨rfl, by omega, fun e he => by omega⟩ (fun k s h => h.2.1) ?_
 rintro k i Q' ⟨hi, hk, hok⟩ norm ex rt
 by_cases hlt : k < w
 ·have ik : i.toNat = k := by omega
  have hfk : fl[i.toNat]? = some [iD (f k)] := by rw [ik]; exact hf k hlt
  have hgk : gl[i.toNat]? = some [iD (g k)] := by rw [ik]; exact hg k hlt
  have nn : g k < f k → K (bA false) := fun h => no fun h2 => by have := h2 k hlt; omega
  have nx : f k ≤ g k → ∀ e, e < k + 1 → f e ≤ g e := fun h e he => by
   by_cases e1 : e = k
   ·subst e1; exact h
   ·exact hok e (by omega)
  generalize f k = fk at *
  generalize g k = gk at *
  conv => cbv
  repeat' first | (refine ex _ _ _ ?_; (conv => cbv)) | (refine rt _ _ ?_; (conv => cbv)) | (intro (e : List D) he; cases Option.some.inj (he.symm.trans hfk); (conv => cbv)) | (intro (e : List D) he; cases Option.some.inj (he.symm.trans hgk); (conv => cbv)) | exact gu | exact trivial | refine And.intro ?_ ?_ | (intro hc; exact absurd hc (by decide)) | (intro hc; exfalso; omega) | (intro hc; (first | rw [wrap_small (by omega) (by omega)] at hc | rw [nI_eq] at hc | skip); try (conv => cbv))
  ·exact nn (by omega)
  ·refine norm _ _ _ ?_ (Wk.cw)
   exact ⟨by omega, by omega, nx (by omega)⟩
 ·conv => cbv
  repeat' first | (refine ex _ _ _ ?_; (conv => cbv)) | (refine rt _ _ ?_; (conv => cbv)) | exact gu | exact trivial | refine And.intro ?_ ?_ | (intro hc; exact absurd hc (by decide)) | (intro hc; exfalso; omega) | (intro hc; (first | rw [wrap_small (by omega) (by omega)] at hc | rw [nI_eq] at hc | skip); try (conv => cbv))
  exact yes fun e he => hok e (by omega)
instance (J : Stps) (i : Nat) : Decidable (J.shr i) := by unfold Stps.shr; infer_instance
instance (J : Stps) (i : Nat) : Decidable (J.gro i) := by unfold Stps.gro; infer_instance
abbrev stepH (t : Top) (ids : List Int) (J : Stps) : Hp := [.bx [.fn false n_update_Order_1 []], .bx [jobJ t ids J]]
theorem pshr_ok (P : Program) (hP : P = Try.prog) (t : Top) (ids : List Int) (J : Stps) (i : Nat) (hi : i < J.n) (hn : J.n ≤ 24) : FnS P n_update_Order_2 [iA i, .c (.ptr 0 0 0 0), .c (.ptr 1 0 0 0)] (stepH t ids J) fun r h' => r = bA (decide (J.shr i)) ∧ h' = stepH t ids J := by
 have hat := patmost_ok P hP J.w (J.A i) (J.B i)
 have hfo : FnOk P n_update_Order_1 := hP ▸ ⟨_, fn_update_Order_1, rfl, by decide⟩
 refine heap_start (hP ▸ mixed) (hP ▸ fn_update_Order_2) (hP ▸ c_update_Order_2) (Nat.le_of_ble_eq_true rfl) fun Λ Λo K hK => ?_
 clear hP
 have leaf : ∀ b, b = decide (∀ e, e < J.w → J.A i e ≤ J.B i e) → K (bA b) (stepH t ids J) := fun b e => hK _ _ ⟨by rw [e]; rfl, rfl⟩
 clear hK
 obtain ⟨iz, hiz⟩ : ∃ iz : Int, iz = i := ⟨_, rfl⟩
 rw [← hiz]
 have izt : iz.toNat = i := by omega
 have hra : ((rowsF J.n J.w J.A).map fun l => [D.list false 1 l])[iz.toNat]? = some [.list false 1 (arrS J.w (J.A i))] := by rw [izt, List.getElem?_map, rowsF_at hi]; rfl
 have hrb : ((rowsF J.n J.w J.B).map fun l => [D.list false 1 l])[iz.toNat]? = some [.list false 1 (arrS J.w (J.B i))] := by rw [izt, List.getElem?_map, rowsF_at hi]; rfl
 have lra : Λ ((rowsF J.n J.w J.A).map fun l => [D.list false 1 l]) = J.n := by rw [Λo, List.length_map, rowsF_len]
 have lrb : Λ ((rowsF J.n J.w J.B).map fun l => [D.list false 1 l]) = J.n := by rw [Λo, List.length_map, rowsF_len]
 generalize decide (∀ e, e < J.w → J.A i e ≤ J.B i e) = b at *
 simp only [stepH, jobJ, tabD, intsD, boolsD, linksD] at *
 generalize t.ov.map encB = ol at *
 generalize t.links.map encLk = kl at *
 generalize t.nodes = nodes at *
 generalize arrS J.w J.S = sl at *
 generalize arrS J.w (J.A i) = rowA at *
 generalize arrS J.w (J.B i) = rowB at *
 generalize (rowsF J.n J.w J.B).map (fun l => [D.list false 1 l]) = rb at *
 generalize (rowsF J.n J.w J.A).map (fun l => [D.list false 1 l]) = ra at *
 generalize ids.map encI = cl at *
 conv => cbv
 repeat' first | (intro (e : List D) he; cases Option.some.inj (he.symm.trans hra); (conv => cbv)) | (intro (e : List D) he; cases Option.some.inj (he.symm.trans hrb); (conv => cbv)) | exact hfo | (refine callv_r hat rfl rfl ?_; (conv => cbv)) | exact gu | exact trivial | refine And.intro ?_ ?_ | (intro hc; exact absurd hc (by decide)) | (intro hc; exfalso; omega) | (intro hc; (first | rw [wrap_small (by omega) (by omega)] at hc | rw [nI_eq] at hc | skip); try (conv => cbv))
 exact leaf b rfl
theorem pgro_ok (P : Program) (hP : P = Try.prog) (t : Top) (ids : List Int) (J : Stps) (i : Nat) (hi : i < J.n) (hn : J.n ≤ 24) : FnS P n_update_Order_3 [iA i, .c (.ptr 0 0 0 0), .c (.ptr 1 0 0 0)] (stepH t ids J) fun r h' => r = bA (decide (J.gro i)) ∧ h' = stepH t ids J := by
 have hat := patmost_ok P hP J.w (J.B i) (J.A i)
 have hfo : FnOk P n_update_Order_1 := hP ▸ ⟨_, fn_update_Order_1, rfl, by decide⟩
 refine heap_start (hP ▸ mixed) (hP ▸ fn_update_Order_3) (hP ▸ c_update_Order_3) (Nat.le_of_ble_eq_true rfl) fun Λ Λo K hK => ?_
 clear hP
 have leaf : ∀ b, b = decide (∀ e, e < J.w → J.B i e ≤ J.A i e) → K (bA b) (stepH t ids J) := fun b e => hK _ _ ⟨by rw [e]; rfl, rfl⟩
 clear hK
 obtain ⟨iz, hiz⟩ : ∃ iz : Int, iz = i := ⟨_, rfl⟩
 rw [← hiz]
 have izt : iz.toNat = i := by omega
 have hra : ((rowsF J.n J.w J.A).map fun l => [D.list false 1 l])[iz.toNat]? = some [.list false 1 (arrS J.w (J.A i))] := by rw [izt, List.getElem?_map, rowsF_at hi]; rfl
 have hrb : ((rowsF J.n J.w J.B).map fun l => [D.list false 1 l])[iz.toNat]? = some [.list false 1 (arrS J.w (J.B i))] := by rw [izt, List.getElem?_map, rowsF_at hi]; rfl
 have lra : Λ ((rowsF J.n J.w J.A).map fun l => [D.list false 1 l]) = J.n := by rw [Λo, List.length_map, rowsF_len]
 have lrb : Λ ((rowsF J.n J.w J.B).map fun l => [D.list false 1 l]) = J.n := by rw [Λo, List.length_map, rowsF_len]
 generalize decide (∀ e, e < J.w → J.B i e ≤ J.A i e) = b at *
 simp only [stepH, jobJ, tabD, intsD, boolsD, linksD] at *
 generalize t.ov.map encB = ol at *
 generalize t.links.map encLk = kl at *
 generalize t.nodes = nodes at *
 generalize arrS J.w J.S = sl at *
 generalize arrS J.w (J.A i) = rowA at *
 generalize arrS J.w (J.B i) = rowB at *
 generalize (rowsF J.n J.w J.B).map (fun l => [D.list false 1 l]) = rb at *
 generalize (rowsF J.n J.w J.A).map (fun l => [D.list false 1 l]) = ra at *
 generalize ids.map encI = cl at *
 conv => cbv
 repeat' first | (intro (e : List D) he; cases Option.some.inj (he.symm.trans hra); (conv => cbv)) | (intro (e : List D) he; cases Option.some.inj (he.symm.trans hrb); (conv => cbv)) | exact hfo | (refine callv_r hat rfl rfl ?_; (conv => cbv)) | exact gu | exact trivial | refine And.intro ?_ ?_ | (intro hc; exact absurd hc (by decide)) | (intro hc; exfalso; omega) | (intro hc; (first | rw [wrap_small (by omega) (by omega)] at hc | rw [nI_eq] at hc | skip); try (conv => cbv))
 exact leaf b rfl
/-! maps whose keys are sets -/
def setU (l : List Nat) : List (DV × DV) := l.map fun (i : Nat) => (.s (.int .u32 i), .s (.bool true))
def ufind (a : Nat) : List Nat → Nat → Option (Nat × DV)
 | [], _ => none
 | x :: r, i => if a = x then some (i, .s (.bool true)) else ufind a r (i + 1)
theorem eqc_u (a x : Nat) : eqc [.d (.int .u32 a)] [.d (.int .u32 x)] [(0, 0)] = some (decide (a = x)) := by
 have e : eqc [.d (.int .u32 a)] [.d (.int .u32 x)] [(0, 0)] = some (((a : Int) == (x : Int)) && true) := rfl
 rw [e]
 by_cases h1 : a = x
 ·simp [h1]
 ·have : ¬ (a : Int) = x := by omega
  simp [h1, this]
theorem mfind_setU (a : Nat) : ∀ (m : List Nat) (i : Nat), mfind true 1 [(0, 0)] (.s (.int .u32 a)) (setU m) i = some (ufind a m i) := by
 intro m
 induction m with
 | nil => intro i; rfl
 | cons x r ih =>
  intro i
  have e1 : mfind true 1 [(0, 0)] (.s (.int .u32 a)) (setU (x :: r)) i =
    (match eqc [.d (.int .u32 a)] [.d (.int .u32 x)] [(0, 0)] with
    | some true => some (some (i, .s (.bool true)))
    | some false => mfind true 1 [(0, 0)] (.s (.int .u32 a)) (setU r) (i + 1)
    | none => none) := rfl
  rw [e1, eqc_u]
  simp only [ufind]
  by_cases h : a = x
  ·rw [decide_eq_true h, if_pos h]
  ·rw [decide_eq_false h, if_neg h]; exact ih (i + 1)
theorem ufind_none {a : Nat} {m : List Nat} : ∀ {i : Nat}, ufind a m i = none ↔ a ∉ m := by
 induction m with
 | nil => intro i; simp [ufind]
 | cons x r ih =>
  intro i
  simp only [ufind, List.mem_cons, not_or]
  split
  ·rename_i h; simp [h]
  ·rename_i h; rw [ih]; simp [h]
theorem ufind_some {a : Nat} {m : List Nat} {v : DV} : ∀ {i j : Nat}, ufind a m i = some (j, v) → i ≤ j ∧ m[j - i]? = some a ∧ v = .s (.bool true) := by
 induction m with
 | nil => intro i j h; simp [ufind] at h
 | cons x r ih =>
  intro i j h
  simp only [ufind] at h
  split at h
  ·rename_i hk
   cases h
   exact ⟨Nat.le_refl _, by rw [hk]; simp, rfl⟩
  ·obtain ⟨h1, h2, h3⟩ := ih h
   refine ⟨by omega, ?_, h3⟩
   rw [show j - i = (j - (i + 1)) + 1 by omega]; simpa using h2
theorem vlk_setU {z : Int} {a : Nat} {l : List Nat} {ml : List (DV × DV)} {d : AV} {K : AV → Prop} (hz : z = a) (mlh : setU l = ml) (h0 : a ∉ l → K d) (h1 : a ∈ l → K (bA true)) :
  ∀ r, mfind true 1 [(0, 0)] (.s (.int .u32 z)) ml 0 = r → vLk false d K r := by
 intro r hr
 rw [hz, ← mlh, mfind_setU] at hr
 subst hr
 cases hp : ufind a l 0 with
 | none => exact h0 (ufind_none.1 hp)
 | some p =>
  obtain ⟨_, h2, h3⟩ := ufind_some (j := p.1) (v := p.2) hp
  obtain ⟨j, v⟩ := p
  simp only at h3
  subst h3
  exact h1 (List.mem_of_getElem? h2)
theorem vup_setU {z : Int} {a : Nat} {l : List Nat} {ml : List (DV × DV)} {K : List (DV × DV) → Prop} (hz : z = a) (mlh : setU l = ml) (h0 : a ∉ l → ∀ es', setU (l ++ [a]) = es' → K es') (h1 : a ∈ l → K ml) :
  ∀ r, mfind true 1 [(0, 0)] (.s (.int .u32 z)) ml 0 = r → vUp ml (.s (.int .u32 z)) (.s (.bool true)) K r := by
 intro r hr
 rw [hz, ← mlh, mfind_setU] at hr
 subst hr
 cases hp : ufind a l 0 with
 | none =>
  intro es' he
  refine h0 (ufind_none.1 hp) es' ?_
  rw [he, ← mlh, setU, hz, List.map_append]; rfl
 | some p =>
  obtain ⟨j, v⟩ := p
  obtain ⟨_, h2, h3⟩ := ufind_some hp
  intro es' he
  have e : es' = ml := by
   rw [he, ← mlh, hz, setU]
   refine List.ext_getElem? fun i => ?_
   rw [List.getElem?_set]
   split
   ·rename_i e; subst e
    rw [Nat.sub_zero] at h2
    rw [List.getElem?_map, h2]
    split
    ·rfl
    ·rename_i hn; exact absurd (by rw [List.length_map]; exact get_lt h2) hn
   ·rfl
  rw [e]; exact h1 (List.mem_of_getElem? h2)
end Go.Ab

/-
  Updates, part r: whether the steps can be completed.
-/
namespace Go.Ab
open Go.Proofs
def HitC (J : Stps) (mx m i : Nat) : Prop := mx.testBit i = true ∧ m.testBit i = false ∧ J.Fit m i ∧ CM J mx (cnt J.n (bitS m i)) (bitS m i)
theorem cm_done {J : Stps} {mx m : Nat} (h : ∀ i, mx.testBit i = true → m.testBit i = true) : CM J mx (cnt J.n m) m := by
 cases cnt J.n m with
 | zero => trivial
 | succ k => exact .inl h
theorem cm_hit {J : Stps} {mx m i : Nat} (hi : i < J.n) (h : HitC J mx m i) : CM J mx (cnt J.n m) m := by
 have hc := cnt_set h.2.1 hi
 rw [← hc]
 exact .inr ⟨i, hi, h.1, h.2.1, h.2.2.1, h.2.2.2⟩
theorem cm_no {J : Stps} {mx m : Nat} (hx : ∀ i, mx.testBit i = true → i < J.n) (h1 : ¬ ∀ i, mx.testBit i = true → m.testBit i = true) (h2 : ∀ i, i < J.n → ¬ HitC J mx m i) : ¬ CM J mx (cnt J.n m) m := by
 intro h
 obtain ⟨i, hi⟩ := Classical.not_forall.1 h1
 obtain ⟨hi1, hi2⟩ := Classical.not_imp.1 hi
 have hi2 : m.testBit i = false := by simpa using hi2
 have hc := cnt_set hi2 (hx i hi1)
 rw [← hc] at h
 rcases h with h | ⟨j, hj, q1, q2, q3, q4⟩
 ·exact h1 h
 ·have hc2 := cnt_set q2 hj
  have : cnt J.n (bitS m i) = cnt J.n (bitS m j) := by omega
  rw [this] at q4
  exact h2 j hj ⟨q1, q2, q3, q4⟩
theorem or_sub {m sh : Nat} : (m ||| sh) ||| sh = m ||| sh := by rw [Nat.or_assoc, Nat.or_self]
theorem bit_sub {m sh i : Nat} (h : m ||| sh = m) : bitS m i ||| sh = bitS m i := by
 rw [bitS, Nat.or_assoc, Nat.or_comm (2 ^ i) sh, ← Nat.or_assoc, h]
abbrev srchA (t : Top) (ids : List Int) (J : Stps) (sh mx : Nat) : AV := .agg [.d (iD J.n), .fn true n_update_job_fits [jobJ t ids J], .fn false n_update_Order_2 [.ptr 0 0 0 0, .ptr 1 0 0 0], .fn false n_update_Order_3 [.ptr 0 0 0 0, .ptr 1 0 0 0], .d (.int .u32 sh), .d (.int .u32 mx), .mp 2]
abbrev srchH (t : Top) (ids : List Int) (J : Stps) (v : Nat) (es : List (DV × DV)) : Hp := [.bx [.fn false n_update_Order_1 []], .bx [jobJ t ids J], .mp v es]
theorem pcomplete_ok (P : Program) (hP : P = Try.prog) (t : Top) (ids : List Int) (J : Stps) (hn : ids.length = J.n) (hs : SmlJ J) (hw : J.w = 2 * t.links.length) (hC : ∀ e : Nat, J.C e = (lkAt t e).cap)
  (sh mx : Nat) (hsh : sh < 4294967296) (hmx : mx < 4294967296) (hxn : ∀ i, mx.testBit i = true → i < J.n) : ∀ (k m : Nat), m < 4294967296 → cnt J.n (m ||| sh) < k → ∀ (v : Nat) (es : List (DV × DV)) (l : List Nat), setU l = es → (∀ x ∈ l, ¬ CM J mx (cnt J.n x) x) →
  FnS P n_sequence_search_complete [srchA t ids J sh mx, .c (.d (.int .u32 m))] (srchH t ids J v es) fun r h' => ∃ v' es' l' b, r = bA b ∧ (b = true ↔ CM J mx (cnt J.n (m ||| sh)) (m ||| sh)) ∧ h' = srchH t ids J v' es' ∧ setU l' = es' ∧ ∀ x ∈ l', ¬ CM J mx (cnt J.n x) x := by
 have hfo : FnOk P n_update_job_fits := hP ▸ ⟨_, fn_update_job_fits, rfl, by decide⟩
 have hft := fun m hm (mi : Int) => pjfits_ok P hP t ids J hn hs hw hC m hm mi
 intro k
 induction k with
 | zero => intro m _ h; omega
 | succ k ih =>
  intro m hm hk v es l hes hbad
  have h0 : FnS P n_sequence_search_complete [srchA t ids J sh mx, .c (.d (.int .u32 m))] (srchH t ids J v es) fun r h' => ∃ h2 v' es' l' b, r = bA b ∧ (b = true ↔ CM J mx (cnt J.n (m ||| sh)) (m ||| sh)) ∧ h' = srchH t ids J v' es' ++ h2 ∧ setU l' = es' ∧ ∀ x ∈ l', ¬ CM J mx (cnt J.n x) x := by
   refine heap_start (hP ▸ mixed) (hP ▸ fn_sequence_search_complete) (hP ▸ c_sequence_search_complete) (Nat.le_of_ble_eq_true rfl) fun Λ Λo K hK => ?_
   clear hP
   have leaf : ∀ h2 v' es' l' b, (b = true ↔ CM J mx (cnt J.n (m ||| sh)) (m ||| sh)) → setU l' = es' → (∀ x ∈ l', ¬ CM J mx (cnt J.n x) x) → K (bA b) (srchH t ids J v' es' ++ h2) := fun h2 v' es' l' b q1 q2 q3 => hK _ _ ⟨h2, v', es', l', b, rfl, q1, rfl, q2, q3⟩
   clear hK
   have hrec : ∀ i, i < J.n → (m ||| sh).testBit i = false → ∀ (v : Nat) (es : List (DV × DV)) (l : List Nat), setU l = es → (∀ x ∈ l, ¬ CM J mx (cnt J.n x) x) →
     FnS P n_sequence_search_complete [srchA t ids J sh mx, .c (.d (.int .u32 (bitS (m ||| sh) i : Nat)))] (srchH t ids J v es) fun r h' => ∃ v' es' l' b, r = bA b ∧ (b = true ↔ CM J mx (cnt J.n (bitS (m ||| sh) i)) (bitS (m ||| sh) i)) ∧ h' = srchH t ids J v' es' ∧ setU l' = es' ∧ ∀ x ∈ l', ¬ CM J mx (cnt J.n x) x := fun i hi hb v es l h1 h2 => by
    have hc := cnt_set hb hi
    have e := bit_sub (i := i) (or_sub (m := m) (sh := sh))
    have := ih (bitS (m ||| sh) i) (bitS_lt (or_lt hm hsh) (by have := hs.n; omega)) (by rw [e]; omega) v es l h1 h2
    rw [e] at this; exact this
   have hm1 := or_lt hm hsh
   have hcd := cm_done (J := J) (mx := mx) (m := m ||| sh)
   have hch := fun i => cm_hit (J := J) (mx := mx) (m := m ||| sh) (i := i)
   have hcn := cm_no (J := J) (mx := mx) (m := m ||| sh) hxn
   obtain ⟨m1z, hm1z⟩ : ∃ m1z : Int, m1z = ((m ||| sh : Nat) : Int) := ⟨_, rfl⟩
   obtain ⟨mz, hmz⟩ : ∃ mz : Int, mz = (m : Int) := ⟨_, rfl⟩
   obtain ⟨shz, hshz⟩ : ∃ shz : Int, shz = (sh : Int) := ⟨_, rfl⟩
   obtain ⟨mxz, hmxz⟩ : ∃ mxz : Int, mxz = (mx : Int) := ⟨_, rfl⟩
   have horU := orU hmz hshz hm hsh hm1z
   have hn24 := hs.n
   obtain ⟨nz, hnz⟩ : ∃ nz : Int, nz = (J.n : Int) := ⟨_, rfl⟩
   simp only [srchA, srchH, List.cons_append, List.nil_append] at *
   rw [← hmz, ← hshz, ← hmxz]
   rw [← hshz, ← hmxz] at hrec
   rw [← hnz] at hrec ⊢
   clear ih hmz hk
   generalize m ||| sh = m1 at *
   have hft := fun (i : Nat) => hft m1 hm1 i
   rw [← hm1z] at hft
   obtain ⟨c, hc1, hc2⟩ := andNotU hmxz hm1z hmx hm1
   generalize hHit : HitC J mx m1 = Hit at *
   have hHd : ∀ i, Hit i ↔ mx.testBit i = true ∧ m1.testBit i = false ∧ J.Fit m1 i ∧ CM J mx (cnt J.n (bitS m1 i)) (bitS m1 i) := fun i => by rw [← hHit]; rfl
   clear hHit
   simp only [jobJ, tabD, intsD, boolsD, linksD] at *
   generalize t.ov.map encB = ol at *
   generalize t.links.map encLk = kl at *
   generalize t.nodes = nodes at *
   generalize arrS J.w J.S = sl at *
   generalize (rowsF J.n J.w J.B).map (fun l => [D.list false 1 l]) = rb at *
   generalize (rowsF J.n J.w J.A).map (fun l => [D.list false 1 l]) = ra at *
   generalize ids.map encI = cl at *
   conv => cbv
   repeat' first | (refine ⟨.int .u32 m1z, horU, ?_⟩; intro d' hd; subst hd; (conv => cbv)) | (refine ⟨.int .u32 c, hc1, ?_⟩; intro d' hd; subst hd; (conv => cbv)) | (refine vlk_setU hm1z hes (fun hin0 => ?_) (fun hin1 => ?_) <;> (conv => cbv)) | exact gu | exact trivial | refine And.intro ?_ ?_ | (intro hc; exact absurd hc (by decide)) | (intro hc; exfalso; omega) | (intro hc; (first | rw [wrap_small (by omega) (by omega)] at hc | rw [nI_eq] at hc | skip); try (conv => cbv))
   ·exact leaf [_] v es l true ⟨fun _ => hcd (hc2.1 (by assumption)), fun _ => rfl⟩ hes hbad
   rotate_left
   ·exact leaf [_] v es l false ⟨fun h => (by cases h), fun h => absurd h (hbad m1 hin1)⟩ hes hbad
   have hnd : ¬ ∀ i, mx.testBit i = true → m1.testBit i = true := fun h => absurd (hc2.2 h) (by assumption)
   refine loop_upx J.n (fun s : Int × Nat × List (DV × DV) => [(1, .c (.d (.int .u32 m1z))), (2, .c (.ptr 3 0 0 0)), (22, iA nz), (23, iA s.1)]) (fun s => [.bx [.fn false n_update_Order_1 []], .bx [.rp [iD nodes, .list false 1 ol, .list false 7 kl, .list false 1 cl, .list false 1 sl, .list false 1 rb, .list false 1 ra]], .mp s.2.1 s.2.2, .bx [.d (iD nz), .fn true n_update_job_fits [.rp [iD nodes, .list false 1 ol, .list false 7 kl, .list false 1 cl, .list false 1 sl, .list false 1 rb, .list false 1 ra]], .fn false n_update_Order_2 [.ptr 0 0 0 0, .ptr 1 0 0 0], .fn false n_update_Order_3 [.ptr 0 0 0 0, .ptr 1 0 0 0], .d (.int .u32 shz), .d (.int .u32 mxz), .mp 2]])
    (fun k s => s.1 = k ∧ k ≤ J.n ∧ ∃ l', setU l' = s.2.2 ∧ (∀ x ∈ l', ¬ CM J mx (cnt J.n x) x) ∧ ∀ j, j < k → ¬ Hit j) (0, v, es) 0
    (fun s : Nat × List (DV × DV) => [(1, .c (.d (.int .u32 m1z))), (2, .c (.ptr 3 0 0 0))]) (fun s => [.bx [.fn false n_update_Order_1 []], .bx [.rp [iD nodes, .list false 1 ol, .list false 7 kl, .list false 1 cl, .list false 1 sl, .list false 1 rb, .list false 1 ra]], .mp s.1 s.2, .bx [.d (iD nz), .fn true n_update_job_fits [.rp [iD nodes, .list false 1 ol, .list false 7 kl, .list false 1 cl, .list false 1 sl, .list false 1 rb, .list false 1 ra]], .fn false n_update_Order_2 [.ptr 0 0 0 0, .ptr 1 0 0 0], .fn false n_update_Order_3 [.ptr 0 0 0 0, .ptr 1 0 0 0], .d (.int .u32 shz), .d (.int .u32 mxz), .mp 2]])
    (fun s => ∃ l', setU l' = s.2 ∧ (∀ x ∈ l', ¬ CM J mx (cnt J.n x) x) ∧ ∀ j, j < J.n → ¬ Hit j) (Wk.ca) ⟨rfl, by omega, l, hes, hbad, fun j hj => by omega⟩ (fun k s h => h.2.1) ?_ ?_
   ·rintro k2 ⟨i, v2, es2⟩ Q' ⟨hi, hk2, l2, hes2, hbad2, hno⟩ norm jn ex rt
    simp only at hi hes2
    by_cases hlt : k2 < J.n
    rotate_left
    ·obtain rfl : k2 = J.n := by omega
     clear norm leaf
     conv => cbv
     repeat' first | exact gu | exact trivial | refine And.intro ?_ ?_ | (intro hc; exact absurd hc (by decide)) | (intro hc; exfalso; omega) | (intro hc; (first | rw [wrap_small (by omega) (by omega)] at hc | rw [nI_eq] at hc | skip); try (conv => cbv))
     exact jn _ _ (v2, es2) ⟨l2, hes2, hbad2, hno⟩ (Wk.ca)
    clear jn
    obtain ⟨kk, hkk⟩ : ∃ kk, kk = k2 := ⟨_, rfl⟩
    have hik : i = (kk : Int) := by omega
    have hfk := hft kk
    obtain ⟨F, hF⟩ : ∃ F, F = decide (J.Fit m1 kk) := ⟨_, rfl⟩
    rw [← hF, ← hik] at hfk
    have hHk := hHd kk
    have nx : ¬ Hit kk → ∀ j, j < k2 + 1 → ¬ Hit j := fun h j hj => by
     by_cases e : j = k2
     ·rw [e, ← hkk]; exact h
     ·exact hno j (by omega)
    have yes := hch kk (by omega)
    have hrk := hrec kk (by omega)
    obtain ⟨z1, hz1⟩ : ∃ z1 : Int, z1 = ((mx &&& 2 ^ kk : Nat) : Int) := ⟨_, rfl⟩
    obtain ⟨z2, hz2⟩ : ∃ z2 : Int, z2 = ((m1 &&& 2 ^ kk : Nat) : Int) := ⟨_, rfl⟩
    obtain ⟨nz2, hnz2⟩ : ∃ nz2 : Int, nz2 = ((m1 ||| 2 ^ kk : Nat) : Int) := ⟨_, rfl⟩
    have hb1 : z1 = 0 ↔ mx.testBit kk = false := by
     rw [hz1, ← tb_and]; constructor <;> intro h <;> omega
    have hb2 : z2 = 0 ↔ m1.testBit kk = false := by
     rw [hz2, ← tb_and]; constructor <;> intro h <;> omega
    have hnb : ((bitS m1 kk : Nat) : Int) = nz2 := by rw [hnz2]; rfl
    rw [hnb] at hrk
    have hFi : F = true ↔ J.Fit m1 kk := by rw [hF]; exact decide_eq_true_iff
    clear hF hrec hch hno hHd hnb
    cases hm1b : mx.testBit kk with
    | false =>
     have hz : z1 = 0 := hb1.2 hm1b
     have hnk : ¬ Hit kk := fun h => by have := (hHk.1 h).1; rw [hm1b] at this; cases this
     clear leaf hrk yes
     conv => cbv
     repeat' first | (refine ex _ _ _ ?_; (conv => cbv)) | (refine rt _ _ ?_; (conv => cbv)) | (refine ⟨.int .u32 z1, andU hmxz (shlU hik (by omega) (by assumption)) hmx (pow_lt32 (by omega)) hz1, ?_⟩; intro d' hd; subst hd; (conv => cbv)) | (refine ⟨.int .u32 z2, andU hm1z (shlU hik (by omega) (by assumption)) hm1 (pow_lt32 (by omega)) hz2, ?_⟩; intro d' hd; subst hd; (conv => cbv)) | (refine ⟨.int .u32 nz2, orU hm1z (shlU hik (by omega) (by assumption)) hm1 (pow_lt32 (by omega)) hnz2, ?_⟩; intro d' hd; subst hd; (conv => cbv)) | exact hfo | (refine callv_r hfk rfl rfl ?_; (conv => cbv)) | exact gu | exact trivial | refine And.intro ?_ ?_ | (intro hc; exact absurd hc (by decide)) | (intro hc; exfalso; omega) | (intro hc; (first | rw [wrap_small (by omega) (by omega)] at hc | rw [nI_eq] at hc | skip); try (conv => cbv))
     all_goals
      refine norm _ _ (_, v2, es2) ?_ (Wk.ca)
      exact ⟨by simp only; omega, by omega, l2, hes2, hbad2, nx hnk⟩
    | true =>
     have hz : z1 ≠ 0 := fun h => by rw [hb1.1 h] at hm1b; cases hm1b
     cases hm2b : m1.testBit kk with
     | true =>
      have hzz : z2 ≠ 0 := fun h => by rw [hb2.1 h] at hm2b; cases hm2b
      have hnk : ¬ Hit kk := fun h => by have := (hHk.1 h).2.1; rw [hm2b] at this; cases this
      clear leaf hrk yes
      conv => cbv
      repeat' first | (refine ex _ _ _ ?_; (conv => cbv)) | (refine rt _ _ ?_; (conv => cbv)) | (refine ⟨.int .u32 z1, andU hmxz (shlU hik (by omega) (by assumption)) hmx (pow_lt32 (by omega)) hz1, ?_⟩; intro d' hd; subst hd; (conv => cbv)) | (refine ⟨.int .u32 z2, andU hm1z (shlU hik (by omega) (by assumption)) hm1 (pow_lt32 (by omega)) hz2, ?_⟩; intro d' hd; subst hd; (conv => cbv)) | (refine ⟨.int .u32 nz2, orU hm1z (shlU hik (by omega) (by assumption)) hm1 (pow_lt32 (by omega)) hnz2, ?_⟩; intro d' hd; subst hd; (conv => cbv)) | exact hfo | (refine callv_r hfk rfl rfl ?_; (conv => cbv)) | exact gu | exact trivial | refine And.intro ?_ ?_ | (intro hc; exact absurd hc (by decide)) | (intro hc; exfalso; omega) | (intro hc; (first | rw [wrap_small (by omega) (by omega)] at hc | rw [nI_eq] at hc | skip); try (conv => cbv))
      all_goals
       refine norm _ _ (_, v2, es2) ?_ (Wk.ca)
       exact ⟨by simp only; omega, by omega, l2, hes2, hbad2, nx hnk⟩
     | false =>
      have hzz : z2 = 0 := hb2.2 hm2b
      cases F with
      | false =>
       have hnk : ¬ Hit kk := fun h => by have := hFi.2 (hHk.1 h).2.2.1; cases this
       clear leaf hrk yes
       conv => cbv
       repeat' first | (refine ex _ _ _ ?_; (conv => cbv)) | (refine rt _ _ ?_; (conv => cbv)) | (refine ⟨.int .u32 z1, andU hmxz (shlU hik (by omega) (by assumption)) hmx (pow_lt32 (by omega)) hz1, ?_⟩; intro d' hd; subst hd; (conv => cbv)) | (refine ⟨.int .u32 z2, andU hm1z (shlU hik (by omega) (by assumption)) hm1 (pow_lt32 (by omega)) hz2, ?_⟩; intro d' hd; subst hd; (conv => cbv)) | (refine ⟨.int .u32 nz2, orU hm1z (shlU hik (by omega) (by assumption)) hm1 (pow_lt32 (by omega)) hnz2, ?_⟩; intro d' hd; subst hd; (conv => cbv)) | exact hfo | (refine callv_r hfk rfl rfl ?_; (conv => cbv)) | exact gu | exact trivial | refine And.intro ?_ ?_ | (intro hc; exact absurd hc (by decide)) | (intro hc; exfalso; omega) | (intro hc; (first | rw [wrap_small (by omega) (by omega)] at hc | rw [nI_eq] at hc | skip); try (conv => cbv))
       all_goals
        refine norm _ _ (_, v2, es2) ?_ (Wk.ca)
        exact ⟨by simp only; omega, by omega, l2, hes2, hbad2, nx hnk⟩
      | true =>
       have hcl := hrk hm2b v2 es2 l2 hes2 hbad2
       conv => cbv
       repeat' first | (refine ex _ _ _ ?_; (conv => cbv)) | (refine rt _ _ ?_; (conv => cbv)) | (refine ⟨.int .u32 z1, andU hmxz (shlU hik (by omega) (by assumption)) hmx (pow_lt32 (by omega)) hz1, ?_⟩; intro d' hd; subst hd; (conv => cbv)) | (refine ⟨.int .u32 z2, andU hm1z (shlU hik (by omega) (by assumption)) hm1 (pow_lt32 (by omega)) hz2, ?_⟩; intro d' hd; subst hd; (conv => cbv)) | (refine ⟨.int .u32 nz2, orU hm1z (shlU hik (by omega) (by assumption)) hm1 (pow_lt32 (by omega)) hnz2, ?_⟩; intro d' hd; subst hd; (conv => cbv)) | exact hfo | (refine callv_r hfk rfl rfl ?_; (conv => cbv)) | (refine call_fr [0, 1, 2] hcl rfl rfl (by decide) (by repeat' first | exact trivial | refine And.intro ?_ ?_ | rfl) rfl rfl ?_; rintro r hc' ⟨v3, es3, l3, b3, rfl, hb3, rfl, hes3, hbad3⟩; (conv => cbv)) | exact gu | exact trivial | refine And.intro ?_ ?_ | (intro hc; exact absurd hc (by decide)) | (intro hc; exfalso; omega) | (intro hc; (first | rw [wrap_small (by omega) (by omega)] at hc | rw [nI_eq] at hc | skip); try (conv => cbv))
       cases b3 with
       | true =>
        repeat' first | (refine ex _ _ _ ?_; (conv => cbv)) | (refine rt _ _ ?_; (conv => cbv)) | exact gu | exact trivial | refine And.intro ?_ ?_ | (intro hc; exact absurd hc (by decide)) | (intro hc; exfalso; omega) | (intro hc; (first | rw [wrap_small (by omega) (by omega)] at hc | rw [nI_eq] at hc | skip); try (conv => cbv))
        exact leaf [_] v3 es3 l3 true ⟨fun _ => yes (hHk.2 ⟨hm1b, hm2b, hFi.1 rfl, hb3.1 rfl⟩), fun _ => rfl⟩ hes3 hbad3
       | false =>
        have hnk : ¬ Hit kk := fun h => by have := hb3.2 (hHk.1 h).2.2.2; cases this
        repeat' first | (refine ex _ _ _ ?_; (conv => cbv)) | (refine rt _ _ ?_; (conv => cbv)) | exact gu | exact trivial | refine And.intro ?_ ?_ | (intro hc; exact absurd hc (by decide)) | (intro hc; exfalso; omega) | (intro hc; (first | rw [wrap_small (by omega) (by omega)] at hc | rw [nI_eq] at hc | skip); try (conv => cbv))
        refine norm _ _ (_, v3, es3) ?_ (Wk.ca)
        exact ⟨by simp only; omega, by omega, l3, hes3, hbad3, nx hnk⟩
   ·rintro ⟨v2, es2⟩ ⟨l2, hes2, hbad2, hno⟩
    simp only at hes2
    have hcm := hcn hnd hno
    conv => cbv
    repeat' first | (refine vup_setU hm1z hes2 (fun hn0 es' he' => ?_) (fun hn1 => ?_) <;> (conv => cbv)) | exact gu | exact trivial | refine And.intro ?_ ?_ | (intro hc; exact absurd hc (by decide)) | (intro hc; exfalso; omega) | (intro hc; (first | rw [wrap_small (by omega) (by omega)] at hc | rw [nI_eq] at hc | skip); try (conv => cbv))
    ·refine leaf [_] _ es' (l2 ++ [m1]) false ⟨fun h => (by cases h), fun h => absurd h hcm⟩ he' fun x hx => ?_
     rcases List.mem_append.1 hx with hx | hx
     ·exact hbad2 x hx
     ·simp only [List.mem_singleton] at hx; subst hx; exact hcm
    ·exact leaf [_] _ es2 l2 false ⟨fun h => (by cases h), fun h => absurd h hcm⟩ hes2 hbad2
  refine (FnS.cut h0 ?_).mono ?_
  ·rintro r' h' ⟨h2, v', es', l', b, rfl, q1, rfl, q2, q3⟩
   exact ⟨rfl, rfl⟩
  ·rintro r' h1 ⟨h2, ⟨h3, v', es', l', b, rfl, q1, e, q2, q3⟩, hl⟩
   exact ⟨v', es', l', b, rfl, q1, (List.append_inj e hl).1, q2, q3⟩
end Go.Ab

/-
  Updates, part s: the first order, as the program finds it.
-/
namespace Go.Ab
open Go.Proofs
abbrev fnsA (t : Top) (ids : List Int) (J : Stps) : List CV := [.fn true n_update_job_fits [jobJ t ids J], .fn false n_update_Order_2 [.ptr 0 0 0 0, .ptr 1 0 0 0], .fn false n_update_Order_3 [.ptr 0 0 0 0, .ptr 1 0 0 0]]
abbrev frstH (t : Top) (ids : List Int) (J : Stps) (sh mx : Int) (v : Nat) (es : List (DV × DV)) (rl : Bool) (ve : Nat) (el : List (List D)) : Hp :=
 [.bx [.fn false n_update_Order_1 []], .bx [jobJ t ids J], .bx (.d (iD J.n) :: fnsA t ids J), .mp v es, .bx (.d (iD J.n) :: fnsA t ids J ++ [.d (.int .u32 sh), .d (.int .u32 mx), .mp 3]), .da rl ve 1 el]
def encN (i : Nat) : List D := [iD i]
theorem kinds_hit {J : Stps} {sh mx c m i : Nat} (hk : Kinds J sh mx) (hfu : J.Fit (fullM J.n) (-1)) (hc : cnt J.n m = c + 1) (hi : i < J.n) (hb : m.testBit i = false) (hf : J.Fit m i) :
  CM J mx (cnt J.n (bitS m i ||| sh)) (bitS m i ||| sh) ↔ Can J c (bitS m i) := by
 have h1 := cnt_set hb hi
 rw [complete_spec hk (fu := fullM J.n) (fun j hj => full_tb.2 hj) hfu (fit_after hb hf)]
 rw [show cnt J.n (bitS m i) = c by omega]
theorem pfirst_ok (P : Program) (hP : P = Try.prog) (t : Top) (ids : List Int) (J : Stps) (hn : ids.length = J.n) (hs : SmlJ J) (hw : J.w = 2 * t.links.length) (hC : ∀ e : Nat, J.C e = (lkAt t e).cap) (hf0 : J.Fit 0 (-1)) (hfu : J.Fit (fullM J.n) (-1)) :
  FnS P n_sequence_First [.agg (.d (iD J.n) :: fnsA t ids J)] (stepH t ids J) fun r h' => ∃ sh mx v es rl ve el, h' = frstH t ids J sh mx v es rl ve el ∧
   match dfs J J.n 0 [] with
   | none => r = .tup [.c (.d (.list true 1 [])), bA false]
   | some o => r = .tup [.c (.arr 5 ve 0 o.length), bA true] ∧ el = o.map encN := by
 have hfo : FnOk P n_update_job_fits := hP ▸ ⟨_, fn_update_job_fits, rfl, by decide⟩
 have hf2 : FnOk P n_update_Order_2 := hP ▸ ⟨_, fn_update_Order_2, rfl, by decide⟩
 have hf3 : FnOk P n_update_Order_3 := hP ▸ ⟨_, fn_update_Order_3, rfl, by decide⟩
 have hft := fun m hm (mi : Int) => pjfits_ok P hP t ids J hn hs hw hC m hm mi
 have hcm := fun sh mx h1 h2 h3 m h4 => pcomplete_ok P hP t ids J hn hs hw hC sh mx h1 h2 h3 _ m h4 (Nat.lt_succ_self _)
 have hshr := fun i hi => pshr_ok P hP t ids J i hi hs.n
 have hgro := fun i hi => pgro_ok P hP t ids J i hi hs.n
 have hn24 := hs.n
 refine heap_start (hP ▸ mixed) (hP ▸ fn_sequence_First) (hP ▸ c_sequence_First) (Nat.le_of_ble_eq_true rfl) fun Λ Λo K hK => ?_
 clear hP hs hw hC
 have none_ : dfs J J.n 0 [] = none → ∀ sh mx v es rl ve el, K (.tup [.c (.d (.list true 1 [])), bA false]) (frstH t ids J sh mx v es rl ve el) := fun h sh mx v es rl ve el => hK _ _ ⟨sh, mx, v, es, rl, ve, el, rfl, by rw [h]⟩
 have some_ : ∀ o, dfs J J.n 0 [] = some o → ∀ sh mx v es rl ve el no, no = o.length → el = o.map encN → K (.tup [.c (.arr 5 ve 0 no), bA true]) (frstH t ids J sh mx v es rl ve el) := fun o h sh mx v es rl ve el no h1 h2 => hK _ _ ⟨sh, mx, v, es, rl, ve, el, rfl, by rw [h]; simp only; rw [h1]; exact ⟨rfl, h2⟩⟩
 clear hK
 obtain ⟨D0, hD0⟩ : ∃ D0, D0 = dfs J J.n 0 [] := ⟨_, rfl⟩
 rw [← hD0] at none_ some_
 obtain ⟨nz, hnz⟩ : ∃ nz : Int, nz = (J.n : Int) := ⟨_, rfl⟩
 simp only [stepH, frstH, fnsA, srchA, srchH, jobJ, tabD, intsD, boolsD, linksD, List.cons_append, List.nil_append] at *
 rw [← hnz] at none_ some_ hcm ⊢
 generalize t.ov.map encB = ol at *
 generalize t.links.map encLk = kl at *
 generalize t.nodes = nodes at *
 generalize arrS J.w J.S = sl at *
 generalize (rowsF J.n J.w J.B).map (fun l => [D.list false 1 l]) = rb at *
 generalize (rowsF J.n J.w J.A).map (fun l => [D.list false 1 l]) = ra at *
 generalize ids.map encI = cl at *
 obtain ⟨jb, hjb⟩ : ∃ jb : List D, jb = [iD nodes, .list false 1 ol, .list false 7 kl, .list false 1 cl, .list false 1 sl, .list false 1 rb, .list false 1 ra] := ⟨_, rfl⟩
 simp only [← hjb] at hft hcm hshr hgro none_ some_ ⊢
 clear hjb
 conv => cbv
 repeat' first | exact gu | exact trivial | refine And.intro ?_ ?_ | (intro hc; exact absurd hc (by decide)) | (intro hc; exfalso; omega) | (intro hc; (first | rw [wrap_small (by omega) (by omega)] at hc | rw [nI_eq] at hc | skip); try (conv => cbv))
 refine loop_upx J.n (fun s : Int × Int × Int => [(1, .c (.ptr 2 0 0 0)), (4, .c (.ptr 4 0 0 0)), (14, iA nz), (15, iA s.1)]) (fun s => [.bx [.fn false n_update_Order_1 []], .bx [.rp jb], .bx [.d (iD nz), .fn true n_update_job_fits [.rp jb], .fn false n_update_Order_2 [.ptr 0 0 0 0, .ptr 1 0 0 0], .fn false n_update_Order_3 [.ptr 0 0 0 0, .ptr 1 0 0 0]], .mp 0 [], .bx [.d (iD nz), .fn true n_update_job_fits [.rp jb], .fn false n_update_Order_2 [.ptr 0 0 0 0, .ptr 1 0 0 0], .fn false n_update_Order_3 [.ptr 0 0 0 0, .ptr 1 0 0 0], .d (.int .u32 s.2.1), .d (.int .u32 s.2.2), .mp 3]])
  (fun k s => s.1 = k ∧ k ≤ J.n ∧ ∃ sh mx : Nat, s.2.1 = sh ∧ s.2.2 = mx ∧ sh < 4294967296 ∧ mx < 4294967296 ∧ (∀ j, sh.testBit j = true ↔ j < k ∧ J.shr j) ∧ ∀ j, mx.testBit j = true ↔ j < k ∧ ¬ J.shr j ∧ ¬ J.gro j) (0, 0, 0) 0
  (fun s : Int × Int => [(1, .c (.ptr 2 0 0 0)), (4, .c (.ptr 4 0 0 0))]) (fun s => [.bx [.fn false n_update_Order_1 []], .bx [.rp jb], .bx [.d (iD nz), .fn true n_update_job_fits [.rp jb], .fn false n_update_Order_2 [.ptr 0 0 0 0, .ptr 1 0 0 0], .fn false n_update_Order_3 [.ptr 0 0 0 0, .ptr 1 0 0 0]], .mp 0 [], .bx [.d (iD nz), .fn true n_update_job_fits [.rp jb], .fn false n_update_Order_2 [.ptr 0 0 0 0, .ptr 1 0 0 0], .fn false n_update_Order_3 [.ptr 0 0 0 0, .ptr 1 0 0 0], .d (.int .u32 s.1), .d (.int .u32 s.2), .mp 3]])
  (fun s => ∃ sh mx : Nat, s.1 = sh ∧ s.2 = mx ∧ sh < 4294967296 ∧ mx < 4294967296 ∧ Kinds J sh mx)
  (Wk.ca) ⟨rfl, by omega, 0, 0, rfl, rfl, by decide, by decide, fun j => by simp, fun j => by simp⟩ (fun k s h => h.2.1) ?_ ?_
 ·rintro k ⟨i, shz, mxz⟩ Q' ⟨hi, hk, sh, mx, hshz, hmxz, hsl, hml, hsb, hmb⟩ norm jn ex rt
  simp only at hi hshz hmxz
  by_cases hlt : k < J.n
  rotate_left
  ·obtain rfl : k = J.n := by omega
   clear norm none_ some_
   conv => cbv
   repeat' first | exact gu | exact trivial | refine And.intro ?_ ?_ | (intro hc; exact absurd hc (by decide)) | (intro hc; exfalso; omega) | (intro hc; (first | rw [wrap_small (by omega) (by omega)] at hc | rw [nI_eq] at hc | skip); try (conv => cbv))
   exact jn _ _ (shz, mxz) ⟨sh, mx, hshz, hmxz, hsl, hml, ⟨hsb, hmb⟩⟩ (Wk.ca)
  clear jn none_ some_
  obtain ⟨kk, hkk⟩ : ∃ kk, kk = k := ⟨_, rfl⟩
  have hik : i = (kk : Int) := by omega
  have hsk := hshr kk (by omega)
  have hgk := hgro kk (by omega)
  obtain ⟨S, hS⟩ : ∃ S, S = decide (J.shr kk) := ⟨_, rfl⟩
  obtain ⟨G, hG⟩ : ∃ G, G = decide (J.gro kk) := ⟨_, rfl⟩
  rw [← hS, ← hik] at hsk
  rw [← hG, ← hik] at hgk
  obtain ⟨n1, hn1⟩ : ∃ n1 : Int, n1 = ((sh ||| 2 ^ kk : Nat) : Int) := ⟨_, rfl⟩
  obtain ⟨n2, hn2⟩ : ∃ n2 : Int, n2 = ((mx ||| 2 ^ kk : Nat) : Int) := ⟨_, rfl⟩
  have b1 : n1 = (bitS sh kk : Nat) := hn1
  have b2 : n2 = (bitS mx kk : Nat) := hn2
  have l1 := bitS_lt (i := kk) hsl (by omega)
  have l2 := bitS_lt (i := kk) hml (by omega)
  clear hft hcm hshr hgro
  cases S with
  | true =>
   have hS2 : J.shr kk := of_decide_eq_true hS.symm
   conv => cbv
   repeat' first | (refine ex _ _ _ ?_; (conv => cbv)) | (refine rt _ _ ?_; (conv => cbv)) | exact hf2 | (refine callv_fr [0, 1] hsk rfl rfl (by decide) (by repeat' first | exact trivial | refine And.intro ?_ ?_ | rfl) rfl rfl ?_; rintro r hc' ⟨rfl, rfl⟩; (conv => cbv)) | (refine ⟨.int .u32 n1, orU hshz (shlU hik (by omega) (by assumption)) hsl (pow_lt32 (by omega)) hn1, ?_⟩; intro d' hd; subst hd; (conv => cbv)) | exact gu | exact trivial | refine And.intro ?_ ?_ | (intro hc; exact absurd hc (by decide)) | (intro hc; exfalso; omega) | (intro hc; (first | rw [wrap_small (by omega) (by omega)] at hc | rw [nI_eq] at hc | skip); try (conv => cbv))
   refine norm _ _ (_, n1, mxz) ?_ (Wk.ca)
   refine ⟨by simp only; omega, by omega, bitS sh kk, mx, b1, hmxz, l1, hml, fun j => ?_, fun j => ?_⟩
   ·rw [tb_set, Bool.or_eq_true, hsb, decide_eq_true_eq]
    constructor
    ·rintro (h | h)
     ·exact ⟨by omega, h.2⟩
     ·subst h; exact ⟨by omega, hS2⟩
    ·rintro ⟨h1, h2⟩
     by_cases e : j = k
     ·exact .inr (by omega)
     ·exact .inl ⟨by omega, h2⟩
   ·rw [hmb]
    constructor
    ·rintro ⟨h1, h2⟩; exact ⟨by omega, h2⟩
    ·rintro ⟨h1, h2⟩
     by_cases e : j = k
     ·have : j = kk := by omega
      subst this; exact absurd hS2 h2.1
     ·exact ⟨by omega, h2⟩
  | false =>
   have hS2 : ¬ J.shr kk := of_decide_eq_false hS.symm
   have hsb2 : ∀ j, sh.testBit j = true ↔ j < k + 1 ∧ J.shr j := fun j => by
    rw [hsb]
    constructor
    ·rintro ⟨h1, h2⟩; exact ⟨by omega, h2⟩
    ·rintro ⟨h1, h2⟩
     by_cases e : j = k
     ·have : j = kk := by omega
      subst this; exact absurd h2 hS2
     ·exact ⟨by omega, h2⟩
   cases G with
   | true =>
    have hG2 : J.gro kk := of_decide_eq_true hG.symm
    conv => cbv
    repeat' first | (refine ex _ _ _ ?_; (conv => cbv)) | (refine rt _ _ ?_; (conv => cbv)) | exact hf2 | exact hf3 | (refine callv_fr [0, 1] hsk rfl rfl (by decide) (by repeat' first | exact trivial | refine And.intro ?_ ?_ | rfl) rfl rfl ?_; rintro r hc' ⟨rfl, rfl⟩; (conv => cbv)) | (refine callv_fr [0, 1] hgk rfl rfl (by decide) (by repeat' first | exact trivial | refine And.intro ?_ ?_ | rfl) rfl rfl ?_; rintro r hc' ⟨rfl, rfl⟩; (conv => cbv)) | exact gu | exact trivial | refine And.intro ?_ ?_ | (intro hc; exact absurd hc (by decide)) | (intro hc; exfalso; omega) | (intro hc; (first | rw [wrap_small (by omega) (by omega)] at hc | rw [nI_eq] at hc | skip); try (conv => cbv))
    refine norm _ _ (_, shz, mxz) ?_ (Wk.ca)
    refine ⟨by simp only; omega, by omega, sh, mx, hshz, hmxz, hsl, hml, hsb2, fun j => ?_⟩
    rw [hmb]
    constructor
    ·rintro ⟨h1, h2⟩; exact ⟨by omega, h2⟩
    ·rintro ⟨h1, h2⟩
     by_cases e : j = k
     ·have : j = kk := by omega
      subst this; exact absurd hG2 h2.2
     ·exact ⟨by omega, h2⟩
   | false =>
    have hG2 : ¬ J.gro kk := of_decide_eq_false hG.symm
    conv => cbv
    repeat' first | (refine ex _ _ _ ?_; (conv => cbv)) | (refine rt _ _ ?_; (conv => cbv)) | exact hf2 | exact hf3 | (refine callv_fr [0, 1] hsk rfl rfl (by decide) (by repeat' first | exact trivial | refine And.intro ?_ ?_ | rfl) rfl rfl ?_; rintro r hc' ⟨rfl, rfl⟩; (conv => cbv)) | (refine callv_fr [0, 1] hgk rfl rfl (by decide) (by repeat' first | exact trivial | refine And.intro ?_ ?_ | rfl) rfl rfl ?_; rintro r hc' ⟨rfl, rfl⟩; (conv => cbv)) | (refine ⟨.int .u32 n2, orU hmxz (shlU hik (by omega) (by assumption)) hml (pow_lt32 (by omega)) hn2, ?_⟩; intro d' hd; subst hd; (conv => cbv)) | exact gu | exact trivial | refine And.intro ?_ ?_ | (intro hc; exact absurd hc (by decide)) | (intro hc; exfalso; omega) | (intro hc; (first | rw [wrap_small (by omega) (by omega)] at hc | rw [nI_eq] at hc | skip); try (conv => cbv))
    refine norm _ _ (_, shz, n2) ?_ (Wk.ca)
    refine ⟨by simp only; omega, by omega, sh, bitS mx kk, hshz, b2, hsl, l2, hsb2, fun j => ?_⟩
    rw [tb_set, Bool.or_eq_true, hmb, decide_eq_true_eq]
    constructor
    ·rintro (h | h)
     ·exact ⟨by omega, h.2⟩
     ·subst h; exact ⟨by omega, hS2, hG2⟩
    ·rintro ⟨h1, h2⟩
     by_cases e : j = k
     ·exact .inr (by omega)
     ·exact .inl ⟨by omega, h2⟩
 rintro ⟨shz, mxz⟩ ⟨sh, mx, hshz, hmxz, hsl, hml, hkd⟩
 simp only at hshz hmxz
 have hcm := hcm sh mx hsl hml fun i hi => ((hkd.mx i).1 hi).1
 rw [← hshz, ← hmxz] at hcm
 clear hshr hgro
 have hgd := fun c m i => @kinds_hit J sh mx c m i hkd hfu
 have hmz0 : (0 : Int) = ((0 : Nat) : Int) := rfl
 conv => cbv
 repeat' first | exact gu | exact trivial | refine And.intro ?_ ?_ | (intro hc; exact absurd hc (by decide)) | (intro hc; exfalso; omega) | (intro hc; (first | rw [wrap_small (by omega) (by omega)] at hc | rw [nI_eq] at hc | skip); try (conv => cbv))
 refine loop_upx J.n (fun s : Int × (Nat × List (DV × DV)) × Nat × Nat × Bool × List (List D) => [(1, .c (.ptr 2 0 0 0)), (4, .c (.ptr 4 0 0 0)), (6, .c (.arr 5 s.2.2.1 0 s.2.2.2.1)), (7, .c (.d (.int .u32 s.1)))]) (fun s => [.bx [.fn false n_update_Order_1 []], .bx [.rp jb], .bx [.d (iD nz), .fn true n_update_job_fits [.rp jb], .fn false n_update_Order_2 [.ptr 0 0 0 0, .ptr 1 0 0 0], .fn false n_update_Order_3 [.ptr 0 0 0 0, .ptr 1 0 0 0]], .mp s.2.1.1 s.2.1.2, .bx [.d (iD nz), .fn true n_update_job_fits [.rp jb], .fn false n_update_Order_2 [.ptr 0 0 0 0, .ptr 1 0 0 0], .fn false n_update_Order_3 [.ptr 0 0 0 0, .ptr 1 0 0 0], .d (.int .u32 shz), .d (.int .u32 mxz), .mp 3], .da s.2.2.2.2.1 s.2.2.1 1 s.2.2.2.2.2])
  (fun k s => k ≤ J.n ∧ ∃ (m : Nat) (acc l : List Nat), s.1 = m ∧ m < 4294967296 ∧ s.2.2.2.1 = acc.length ∧ acc.length = k ∧ s.2.2.2.2.2 = acc.map encN ∧ cnt J.n m + k = J.n ∧ J.Fit m (-1) ∧ D0 = dfs J (cnt J.n m) m acc ∧ setU l = s.2.1.2 ∧ ∀ x ∈ l, ¬ CM J mx (cnt J.n x) x) (0, (0, []), 0, 0, false, []) 3
  (fun s : (Nat × List (DV × DV)) × Nat × Nat × Bool × List (List D) => [(6, .c (.arr 5 s.2.1 0 s.2.2.1))]) (fun s => [.bx [.fn false n_update_Order_1 []], .bx [.rp jb], .bx [.d (iD nz), .fn true n_update_job_fits [.rp jb], .fn false n_update_Order_2 [.ptr 0 0 0 0, .ptr 1 0 0 0], .fn false n_update_Order_3 [.ptr 0 0 0 0, .ptr 1 0 0 0]], .mp s.1.1 s.1.2, .bx [.d (iD nz), .fn true n_update_job_fits [.rp jb], .fn false n_update_Order_2 [.ptr 0 0 0 0, .ptr 1 0 0 0], .fn false n_update_Order_3 [.ptr 0 0 0 0, .ptr 1 0 0 0], .d (.int .u32 shz), .d (.int .u32 mxz), .mp 3], .da s.2.2.2.1 s.2.1 1 s.2.2.2.2])
  (fun s => ∃ acc, D0 = some acc ∧ s.2.2.1 = acc.length ∧ s.2.2.2.2 = acc.map encN)
  (.trans (.nilS 6 1 rfl) (Wk.ca)) ⟨by omega, 0, [], [], rfl, by decide, rfl, rfl, rfl, cnt_none, hf0, by rw [hD0, cnt_none], rfl, by simp⟩ (fun k s h => h.1) ?_ ?_
 ·rintro k ⟨dz, ⟨v, es⟩, ve, no, r, el⟩ Q' ⟨hk, m, acc, l, hdz, hml2, hno, hacc, hel, hcnt, hfm, hD, hes, hbad⟩ norm jn ex rt
  simp only at hdz hno hel hes
  have hell : el.length = no := by rw [hel, List.length_map, hno]
  by_cases hlt : k < J.n
  rotate_left
  ·have hc0 : cnt J.n m = 0 := by omega
   rw [hc0] at hD
   have hkn : no = J.n := by omega
   clear norm none_ some_ hcm hft
   conv => cbv
   repeat' first | exact gu | exact trivial | refine And.intro ?_ ?_ | (intro hc; exact absurd hc (by decide)) | (intro hc; exfalso; omega) | (intro hc; (first | rw [wrap_small (by omega) (by omega)] at hc | rw [nI_eq] at hc | skip); try (conv => cbv))
   exact jn _ _ ((v, es), ve, no, r, el) ⟨acc, hD, hno, hel⟩ (Wk.ca)
  clear jn
  obtain ⟨c, hcq⟩ : ∃ c, cnt J.n m = c + 1 := ⟨cnt J.n m - 1, by omega⟩
  rw [hcq] at hD hcnt
  conv => cbv
  repeat' first | exact gu | exact trivial | refine And.intro ?_ ?_ | (intro hc; exact absurd hc (by decide)) | (intro hc; exfalso; omega) | (intro hc; (first | rw [wrap_small (by omega) (by omega)] at hc | rw [nI_eq] at hc | skip); try (conv => cbv))
  refine loop_upx J.n (fun s : Int × Nat × List (DV × DV) => [(1, .c (.ptr 2 0 0 0)), (4, .c (.ptr 4 0 0 0)), (6, .c (.arr 5 ve 0 no)), (7, .c (.d (.int .u32 dz))), (48, iA nz), (49, iA s.1)]) (fun s => [.bx [.fn false n_update_Order_1 []], .bx [.rp jb], .bx [.d (iD nz), .fn true n_update_job_fits [.rp jb], .fn false n_update_Order_2 [.ptr 0 0 0 0, .ptr 1 0 0 0], .fn false n_update_Order_3 [.ptr 0 0 0 0, .ptr 1 0 0 0]], .mp s.2.1 s.2.2, .bx [.d (iD nz), .fn true n_update_job_fits [.rp jb], .fn false n_update_Order_2 [.ptr 0 0 0 0, .ptr 1 0 0 0], .fn false n_update_Order_3 [.ptr 0 0 0 0, .ptr 1 0 0 0], .d (.int .u32 shz), .d (.int .u32 mxz), .mp 3], .da r ve 1 el])
   (fun k s => s.1 = k ∧ k ≤ J.n ∧ ∃ l, setU l = s.2.2 ∧ (∀ x ∈ l, ¬ CM J mx (cnt J.n x) x) ∧ ∀ j, j < k → ¬ Good J c m j) (0, v, es) 5
   (fun s : Nat × List (DV × DV) => []) (fun s => [.bx [.fn false n_update_Order_1 []], .bx [.rp jb], .bx [.d (iD nz), .fn true n_update_job_fits [.rp jb], .fn false n_update_Order_2 [.ptr 0 0 0 0, .ptr 1 0 0 0], .fn false n_update_Order_3 [.ptr 0 0 0 0, .ptr 1 0 0 0]], .mp s.1 s.2, .bx [.d (iD nz), .fn true n_update_job_fits [.rp jb], .fn false n_update_Order_2 [.ptr 0 0 0 0, .ptr 1 0 0 0], .fn false n_update_Order_3 [.ptr 0 0 0 0, .ptr 1 0 0 0], .d (.int .u32 shz), .d (.int .u32 mxz), .mp 3], .da r ve 1 el])
   (fun s => ∀ j, j < J.n → ¬ Good J c m j) (Wk.ca) ⟨rfl, by omega, l, hes, hbad, fun j hj => by omega⟩ (fun k s h => h.2.1) ?_ ?_
  ·rintro k2 ⟨i, v2, es2⟩ Q2 ⟨hi, hk2, l2, hes2, hbad2, hng⟩ norm2 jn2 ex2 rt2
   simp only at hi hes2
   by_cases hlt2 : k2 < J.n
   rotate_left
   ·obtain rfl : k2 = J.n := by omega
    clear norm norm2 none_ some_ hcm hft
    conv => cbv
    repeat' first | exact gu | exact trivial | refine And.intro ?_ ?_ | (intro hc; exact absurd hc (by decide)) | (intro hc; exfalso; omega) | (intro hc; (first | rw [wrap_small (by omega) (by omega)] at hc | rw [nI_eq] at hc | skip); try (conv => cbv))
    exact jn2 _ _ (v2, es2) hng (Wk.ca)
   clear jn2
   obtain ⟨kk, hkk⟩ : ∃ kk, kk = k2 := ⟨_, rfl⟩
   have hik : i = (kk : Int) := by omega
   have hfk := hft m hml2 (kk : Int)
   obtain ⟨F, hF⟩ : ∃ F, F = decide (J.Fit m kk) := ⟨_, rfl⟩
   rw [← hF, ← hik, ← hdz] at hfk
   have nx : ¬ Good J c m kk → ∀ j, j < k2 + 1 → ¬ Good J c m j := fun h j hj => by
    by_cases e : j = k2
    ·rw [e, ← hkk]; exact h
    ·exact hng j (by omega)
   obtain ⟨z2, hz2⟩ : ∃ z2 : Int, z2 = ((m &&& 2 ^ kk : Nat) : Int) := ⟨_, rfl⟩
   obtain ⟨nb, hnb⟩ : ∃ nb : Int, nb = ((m ||| 2 ^ kk : Nat) : Int) := ⟨_, rfl⟩
   have hb2 : z2 = 0 ↔ m.testBit kk = false := by
    rw [hz2, ← tb_and]; constructor <;> intro h <;> omega
   have hnb2 : nb = ((bitS m kk : Nat) : Int) := hnb
   have hbl := bitS_lt (i := kk) hml2 (by omega)
   have hck := hcm (bitS m kk) hbl v2 es2 l2 hes2 hbad2
   rw [← hnb2] at hck
   have hgk := hgd c m kk hcq (by omega)
   clear hft hcm hgd
   cases hm2b : m.testBit kk with
   | true =>
    have hz : z2 ≠ 0 := fun h => by rw [hb2.1 h] at hm2b; cases hm2b
    have hnk : ¬ Good J c m kk := fun h => by have := h.1; rw [hm2b] at this; cases this
    clear hck hgk norm none_ some_
    conv => cbv
    repeat' first | (refine ex _ _ _ ?_; (conv => cbv)) | (refine rt _ _ ?_; (conv => cbv)) | (refine ⟨.int .u32 z2, andU hdz (shlU hik (by omega) (by assumption)) hml2 (pow_lt32 (by omega)) hz2, ?_⟩; intro d' hd; subst hd; (conv => cbv)) | exact hfo | (refine callv_r hfk rfl rfl ?_; (conv => cbv)) | exact gu | exact trivial | refine And.intro ?_ ?_ | (intro hc; exact absurd hc (by decide)) | (intro hc; exfalso; omega) | (intro hc; (first | rw [wrap_small (by omega) (by omega)] at hc | rw [nI_eq] at hc | skip); try (conv => cbv))
    refine norm2 _ _ (_, v2, es2) ?_ (Wk.ca)
    exact ⟨by simp only; omega, by omega, l2, hes2, hbad2, nx hnk⟩
   | false =>
    have hz : z2 = 0 := hb2.2 hm2b
    cases F with
    | false =>
     have hnk : ¬ Good J c m kk := fun h => of_decide_eq_false hF.symm h.2.1
     clear hck hgk norm none_ some_
     conv => cbv
     repeat' first | (refine ex _ _ _ ?_; (conv => cbv)) | (refine rt _ _ ?_; (conv => cbv)) | (refine ⟨.int .u32 z2, andU hdz (shlU hik (by omega) (by assumption)) hml2 (pow_lt32 (by omega)) hz2, ?_⟩; intro d' hd; subst hd; (conv => cbv)) | exact hfo | (refine callv_r hfk rfl rfl ?_; (conv => cbv)) | exact gu | exact trivial | refine And.intro ?_ ?_ | (intro hc; exact absurd hc (by decide)) | (intro hc; exfalso; omega) | (intro hc; (first | rw [wrap_small (by omega) (by omega)] at hc | rw [nI_eq] at hc | skip); try (conv => cbv))
     refine norm2 _ _ (_, v2, es2) ?_ (Wk.ca)
     exact ⟨by simp only; omega, by omega, l2, hes2, hbad2, nx hnk⟩
    | true =>
     have hfit : J.Fit m kk := of_decide_eq_true hF.symm
     have hgk := hgk hm2b hfit
     conv => cbv
     repeat' first | (refine ex _ _ _ ?_; (conv => cbv)) | (refine rt _ _ ?_; (conv => cbv)) | (refine ⟨.int .u32 z2, andU hdz (shlU hik (by omega) (by assumption)) hml2 (pow_lt32 (by omega)) hz2, ?_⟩; intro d' hd; subst hd; (conv => cbv)) | (refine ⟨.int .u32 nb, orU hdz (shlU hik (by omega) (by assumption)) hml2 (pow_lt32 (by omega)) hnb, ?_⟩; intro d' hd; subst hd; (conv => cbv)) | exact hfo | (refine callv_r hfk rfl rfl ?_; (conv => cbv)) | (refine call_fr [0, 1, 3] hck rfl rfl (by decide) (by repeat' first | exact trivial | refine And.intro ?_ ?_ | rfl) rfl rfl ?_; rintro r' hc' ⟨v3, es3, l3, b3, rfl, hb3, rfl, hes3, hbad3⟩; (conv => cbv)) | exact gu | exact trivial | refine And.intro ?_ ?_ | (intro hc; exact absurd hc (by decide)) | (intro hc; exfalso; omega) | (intro hc; (first | rw [wrap_small (by omega) (by omega)] at hc | rw [nI_eq] at hc | skip); try (conv => cbv))
     cases b3 with
     | true =>
      have hgood : Good J c m kk := ⟨hm2b, hfit, hgk.1 (hb3.1 rfl)⟩
      have hst := dfs_step (acc := acc) (by omega) hgood (fun j hj => hng j (by omega))
      rw [← hD] at hst
      have hcs := cnt_set hm2b (show kk < J.n by omega)
      repeat' first | (refine ex _ _ _ ?_; (conv => cbv)) | (refine rt _ _ ?_; (conv => cbv)) | (refine ⟨.int .u32 nb, orU hdz (shlU hik (by omega) (by assumption)) hml2 (pow_lt32 (by omega)) hnb, ?_⟩; intro d' hd; subst hd; (conv => cbv)) | decide | (intro (_ : Unit); simp only [List.length_append, List.length_take, List.length_drop, List.length_set, List.length_replicate, List.length_cons, List.length_nil]; omega) | (intro (_ : Unit); refine ⟨rfl, ?_⟩; simp only [List.length_append, List.length_take, List.length_drop, List.length_set, List.length_replicate, List.length_cons, List.length_nil]; omega) | (refine ex2 _ _ _ ?_; (conv => cbv)) | exact gu | exact trivial | refine And.intro ?_ ?_ | (intro hc; exact absurd hc (by decide)) | (intro hc; exfalso; omega) | (intro hc; (first | rw [wrap_small (by omega) (by omega)] at hc | rw [nI_eq] at hc | skip); try (conv => cbv))
      rename_i n2 r2 y hn2 hr2
      have hy : y = el ++ [[iD i]] := by rw [hc, List.drop_zero, List.take_of_length_le (by omega)]; rfl
      have hn3 : n2 = no + 1 := by rw [hn2]; simp
      have hcc : cnt J.n (bitS m kk) = c := by omega
      refine norm _ _ (nb, (v3, es3), ve.succ, n2, r2, y) ?_ (Wk.ca)
      refine ⟨by omega, bitS m kk, acc ++ [kk], l3, hnb2, hbl, by simp only [List.length_append, List.length_cons, List.length_nil]; omega, by simp only [List.length_append, List.length_cons, List.length_nil]; omega, ?_, by omega, fit_after hm2b hfit, by rw [hcc]; exact hst, hes3, hbad3⟩
      simp only
      rw [hy, hel, List.map_append, hik]; rfl
     | false =>
      have hnk : ¬ Good J c m kk := fun h => by have := hb3.2 (hgk.2 h.2.2); cases this
      clear norm none_ some_
      repeat' first | (refine ex _ _ _ ?_; (conv => cbv)) | (refine rt _ _ ?_; (conv => cbv)) | exact gu | exact trivial | refine And.intro ?_ ?_ | (intro hc; exact absurd hc (by decide)) | (intro hc; exfalso; omega) | (intro hc; (first | rw [wrap_small (by omega) (by omega)] at hc | rw [nI_eq] at hc | skip); try (conv => cbv))
      refine norm2 _ _ (_, v3, es3) ?_ (Wk.ca)
      exact ⟨by simp only; omega, by omega, l3, hes3, hbad3, nx hnk⟩
  ·rintro ⟨v2, es2⟩ hng
   have hDn : D0 = none := by rw [hD]; exact dfs_none hng
   have kn := none_ hDn shz mxz v2 es2 r ve el
   clear norm none_ some_ hcm hft
   conv => cbv
   repeat' first | (refine rt _ _ ?_; (conv => cbv)) | exact gu | exact trivial | refine And.intro ?_ ?_ | (intro hc; exact absurd hc (by decide)) | (intro hc; exfalso; omega) | (intro hc; (first | rw [wrap_small (by omega) (by omega)] at hc | rw [nI_eq] at hc | skip); try (conv => cbv))
   exact kn
 ·rintro ⟨⟨v, es⟩, ve, no, r, el⟩ ⟨acc, hD, hno, hel⟩
  simp only at hno hel
  have ks := some_ acc hD shz mxz v es r ve el no hno hel
  clear none_ some_ hcm hft
  conv => cbv
  repeat' first | exact gu | exact trivial | refine And.intro ?_ ?_ | (intro hc; exact absurd hc (by decide)) | (intro hc; exfalso; omega) | (intro hc; (first | rw [wrap_small (by omega) (by omega)] at hc | rw [nI_eq] at hc | skip); try (conv => cbv))
  exact ks
end Go.Ab

