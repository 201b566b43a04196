/-
  Merged texts, part r.
-/
import Derived.Test.YtlehnbmcbjoebaaZq
import Derived.Shelf.SlGeneric
import Derived.Shelf.SlIterI.Sorted
import Derived.Shelf.SlIterI.Keys
import Derived.Ground.GgzProg
import Derived.Test.YtlehnbmcbjoebaaProg
/-
  The contracts of maps.Keys and slices.Sorted at this program (written by the kit's lay-plain tool).
-/
namespace Go.Proofs
open Go.Shelf
def Try.keysM_ren : Go.Shelf.Ren := ⟨fun | 7 => 43 | 10 => 62 | n => n, fun | 23 => 70 | 26 => 3 | 3 => 44 | 28 => 83 | 0 => 0 | 27 => 82 | 33 => 77 | 4 => 4 | n => n, fun | n => n⟩
theorem Try.keysM : Go.Proofs.SlLaysZI.n7 Try.prog Try.keysM_ren := {
  mixed := by kernel_rfl
  f7 := ⟨Try.f43.name, by decide, Try.func43.trans (congrArg some (by kernel_rfl))⟩
  f10 := ⟨Try.f62.name, by decide, Try.func62.trans (congrArg some (by kernel_rfl))⟩
  t0 := Try.underlying0
  a0 := Try.isAgg0
  z0 := Try.sizeOf0
  v0 := Try.zeroValue0
  t4 := Try.underlying4
  a4 := Try.isAgg4
  z4 := Try.sizeOf4
  v4 := Try.zeroValue4
  t23 := Try.underlying70
  a23 := Try.isAgg70
  z23 := Try.sizeOf70
  v23 := Try.zeroValue70
  t26 := Try.underlying3
  a26 := Try.isAgg3
  z26 := Try.sizeOf3
  v26 := Try.zeroValue3
  t27 := Try.underlying82
  a27 := Try.isAgg82
  z27 := Try.sizeOf82
  v27 := Try.zeroValue82
  t28 := Try.underlying83
  a28 := Try.isAgg83
  z28 := Try.sizeOf83
  v28 := Try.zeroValue83
  t33 := Try.underlying77
  a33 := Try.isAgg77
  z33 := Try.sizeOf77
  v33 := Try.zeroValue77 }
def Try.sortedM_ren : Go.Shelf.Ren := ⟨fun | 6 => 42 | 8 => 60 | 9 => 61 | 11 => 71 | 13 => 69 | 12 => 72 | 23 => 81 | 24 => 82 | 14 => 83 | 15 => 84 | 16 => 85 | 17 => 86 | 18 => 87 | 19 => 88 | 20 => 89 | 21 => 90 | 22 => 91 | 25 => 97 | 26 => 93 | 27 => 94 | 28 => 98 | 29 => 99 | 30 => 70 | 31 => 101 | n => n, fun | 26 => 3 | 28 => 83 | 24 => 27 | 0 => 0 | 3 => 3 | 37 => 103 | 48 => 115 | 50 => 117 | 4 => 4 | 40 => 108 | 39 => 107 | 45 => 112 | 5 => 5 | 9 => 9 | 51 => 124 | 55 => 128 | 57 => 132 | 58 => 133 | 33 => 77 | n => n, fun | n => n⟩
theorem Try.sortedM : Go.Proofs.SlLaysZI.n6 Try.prog Try.sortedM_ren := {
  mixed := by kernel_rfl
  f6 := ⟨Try.f42.name, by decide, Try.func42.trans (congrArg some (by kernel_rfl))⟩
  f8 := ⟨Try.f60.name, by decide, Try.func60.trans (congrArg some (by kernel_rfl))⟩
  f11 := ⟨Try.f71.name, by decide, Try.func71.trans (congrArg some (by kernel_rfl))⟩
  t0 := Try.underlying0
  a0 := Try.isAgg0
  z0 := Try.sizeOf0
  v0 := Try.zeroValue0
  t24 := Try.underlying27
  a24 := Try.isAgg27
  z24 := Try.sizeOf27
  v24 := Try.zeroValue27
  t26 := Try.underlying3
  a26 := Try.isAgg3
  z26 := Try.sizeOf3
  v26 := Try.zeroValue3
  t28 := Try.underlying83
  a28 := Try.isAgg83
  z28 := Try.sizeOf83
  v28 := Try.zeroValue83
  i26 := by kernel_rfl }
end Go.Proofs

/-
  Sort of numbers at this program.
-/
namespace Go.Ab
open Go.Proofs Go.Sort
theorem sorts_int : SortsI Try.prog n_slices_Sort_int_int := ⟨fun blk off cap zs w hH hb hz => Any.slices_Sort_int Try.lays189 blk off cap zs w hH hb hz, fun p cap w => Any.slices_Sort_int_none Try.lays189 p cap w⟩
end Go.Ab

/-
  Reservations, part k: the IDs of a table, in order: the library's contracts over the table's map.
-/
namespace Go.Proofs
open Go.RowKit Go.Maps Go.Sort Go.Shelf
theorem Try.sortsM (m : Nat) : AnyZI.SortsIn Try.prog Try.sortedM_ren Fence.wide m :=
  ⟨fun blk off cap ss W hH hblk hsz => callsIn_wide.2 (Go.Ab.sorts_int.1 blk off cap ss W hH hblk hsz),
   fun p cap W => callsIn_wide.2 (Go.Ab.sorts_int.2 p cap W)⟩
set_option maxHeartbeats 1000000 in
theorem ids_walk {H : Type} (b0 o0 b nn : Nat) (D0 : DataW H) (R : Value → Option (DataW H × List MemPlace)) (w : World) (hc : w.cell? ⟨b0, o0 + 1, none⟩ = some (.map (some b)))
  (hown : w.ownsMap Try.prog 3 R b nn D0) (hmax : Maps.size D0 ≤ maxLen) (hbytes : Maps.size D0 * 8 ≤ 140737488355328) :
  Calls Try.prog 20 #[.pointer (some ⟨b0, o0, none⟩)] w fun e w' => ∃ (v : Value) (ss : List Int), e = .returned v ∧ ss.Perm (intKeys D0) ∧
   w'.ownsRow w.heap.size 3 1 v ss.length ((ss.mergeSort (fun x y => decide (x ≤ y))).map encZ) ∧ (v = .slice none 0 0 ↔ ss = []) ∧ Below w.heap.size w w' := by
 refine (callsIn_wide (n := 6)).1 ?_
 have hbl := hown.lt
 have hseq : SeqGives Fence.wide 2 Try.prog 62 #[.pointer (some ⟨w.heap.size, 0, none⟩)] encZ (fun ss => ss.Perm (intKeys D0)) (Maps.size D0) (w.alloc (.cells #[.map (some b)] 70)) :=
  AnyZI.keys_gives (ρ := Try.keysM_ren) { Try.keysM with } Fence.wide _ trivial rfl (by omega) w.heap.size b nn D0 _ (by simp) (by simp) (by
   obtain ⟨es, clock, hb, Ft, hs, hD⟩ := hown
   exact ⟨es, clock, (Below.heap_alloc _ _ b hbl).trans hb, Ft, hs, hD⟩)
 have cK : ∀ mb W, CallsIn Fence.wide 5 Try.prog 43 #[.map mb] W fun e w' => e = .returned (.func (.func 62) #[] #[.pointer (some ⟨W.heap.size, 0, none⟩)]) ∧ w' = W.alloc (.cells #[.map mb] 70) := fun mb W => AnyZI.keys_in Try.keysM Fence.wide 5 trivial rfl mb W
 have cS := AnyZI.sorted_in Try.sortedM Fence.wide 5 trivial trivial trivial trivial rfl (by omega) (Try.sortsM _) (enters_of Try.func61 (by kernel_rfl) rfl) 62 #[.pointer (some ⟨w.heap.size, 0, none⟩)] trivial (enters_of Try.func62 (by kernel_rfl) rfl) _ _ hmax hbytes _ hseq
 change CallsIn _ _ Try.prog 42 _ _ _ at cS
 have hfK : Fence.wide.fn 43 := trivial
 have hfS : Fence.wide.fn 42 := trivial
 refine callsIn_of_wp Try.func20 rfl trivial ?_ rfl
 simp only [Try.ntmps20, List.size_toArray, List.length_cons, List.length_nil, Nat.reduceAdd, Nat.reduceSub, Array.replicate_succ, Array.replicate_zero, List.push_toArray, List.append_toArray, List.nil_append, List.cons_append]
 gi_wp2_with (first
  | (gi_at_call 43; refine (cK _ _).mono ?_; rintro e w' ⟨rfl, rfl⟩)
  | (gi_at_call 42; refine cS.mono ?_; rintro e w' ⟨v, ss, rfl, hS, hrow, hnil, hb⟩))
 go_ret
 exact ⟨v, ss, rfl, hS, ownsRow_base_a hrow (by simp), hnil, ((Below.refl _ w).alloc (Nat.le_refl _) _).trans (hb.mono (by simp))⟩
end Go.Proofs
namespace Go.Ab
open Go.Proofs Go.Sort Go.Maps
def idsM (m : List Rq) : List Int := (m.map (·.id)).mergeSort fun x y => decide (x ≤ y)
theorem ints_new {G : Nat → Prop} {w' : World} {base : Nat} {t : TypeId} {v : Value} {l : List Int} (h : w'.ownsRow base t 1 v l.length (l.map (Value.int .i64))) (hG : ∀ b, base ≤ b → b < w'.heap.size → G b) :
  DR G w' v (.list false 1 (l.map encI)) := by
 rcases h.2 with ⟨rfl, hl⟩ | ⟨g, cap, cur, rfl, hb, hg, h1, h2, h3, h4⟩
 ·cases List.eq_nil_of_length_eq_zero hl
  exact .nils _ _
 ·have hlt : g < w'.heap.size := (Array.getElem?_eq_some_iff.1 hg).1
  have hc : ∀ (i : Nat) (x : Int), l[i]? = some x → w'.cell? ⟨g, 0 + i * 1 + 0, none⟩ = some (.int .i64 x) := by
   intro i x hx
   have hi := get_lt hx
   have h5 : (cur.toList.take (l.length * 1))[i]? = some (.int .i64 x) := by rw [h4, List.getElem?_map, hx]; rfl
   rw [List.getElem?_take_of_lt (by omega)] at h5
   rw [show 0 + i * 1 + 0 = i by omega, cell_of hg, ← Array.getElem?_toList]
   exact h5
  have hlen : (l.map encI).length = l.length := List.length_map _
  have := DR.sl (G := G) (w := w') g 0 cap 1 (l.map encI) (fun i j => .int .i64 (l[i]?.getD 0)) (fun _ => hG g hb hlt) (by rw [hlen]; exact h1) (by rw [hlen]; exact Nat.le_trans h1 h2) (fun i e he => by
   rw [List.getElem?_map, Option.map_eq_some_iff] at he
   obtain ⟨x, _, rfl⟩ := he; rfl) (fun i e j x he hx => by
   rw [List.getElem?_map, Option.map_eq_some_iff] at he
   obtain ⟨z, hz, rfl⟩ := he
   have hj : j = 0 := by have := get_lt hx; simpa [encI] using this
   subst hj
   rw [hc i z hz, hz]; rfl) (fun i e j x he hx => by
   rw [List.getElem?_map, Option.map_eq_some_iff] at he
   obtain ⟨z, hz, rfl⟩ := he
   have hj : j = 0 := by have := get_lt hx; simpa [encI] using this
   subst hj
   simp only [encI, List.getElem?_cons_zero, Option.some.injEq] at hx
   subst hx
   rw [hz]; exact .int _ _)
  rw [hlen] at this
  exact this
theorem fresh_ext {G : Nat → Prop} {ι : Io} {h : Hp} {w w' : World} (hr : HR G ι h w) (hb : RowKit.Below w.heap.size w w') (hu : Up w w') :
    Ext G ι h w (fun b => G b ∨ ((w.heap.size ≤ b ∧ b < w'.heap.size) ∧ w.heap.size ≤ b)) ι h w' ∧ HR (fun b => G b ∨ ((w.heap.size ≤ b ∧ b < w'.heap.size) ∧ w.heap.size ≤ b)) ι h w' := by
  have hnew : HR (fun b => w.heap.size ≤ b ∧ b < w'.heap.size) [] [] w' := HR_nil fun b hb => hb.2
  have hext : Ext (fun _ => False) [] [] w (fun b => w.heap.size ≤ b ∧ b < w'.heap.size) [] [] w' :=
    { size := hb.size
      quiet := ⟨hb.os, hb.output, hu.1, hu.2⟩
      frame := fun b h1 _ => hb.block b h1
      gmono := fun _ hb => hb.elim
      gnew := fun b hb => .inr (.inl hb.1)
      onew := fun b ⟨l, blk, h1, _⟩ => by simp at h1
      keep := fun l k hk => by simp at hk }
  exact Ext.of_pure hr hext hnew
theorem tids_ok (P : Program) (hP : P = Try.prog) (caps : List Int) (v : Nat) (m : List Rq) (hn : (m.map (·.id)).Nodup) (hrg : ∀ r ∈ m, -9223372036854775808 ≤ r.id ∧ r.id ≤ 9223372036854775807) (hl : m.length ≤ 1000000) :
  FnS P n_reserve_Table_IDs [.c (.ptr 0 0 0 0)] (rsvH caps v m) fun r' h' => r' = .c (.d (.list false 1 ((idsM m).map encI))) ∧ h' = rsvH caps v m := by
 subst hP
 refine ⟨fun G ι w vs hr hv => ?_⟩
 obtain ⟨v0, hvs⟩ : ∃ v0, vs = [v0] := by
  have := hv.1
  match vs, this with
  | [x], _ => exact ⟨x, rfl⟩
 subst hvs
 have hv0 : VR G w ι (rsvH caps v m) v0 (.c (.ptr 0 0 0 0)) := hv.2 0 _ _ rfl rfl
 cases inv_c hv0 with
 | ptr _ _ _ _ _ blk hb ha hk =>
  cases hb
  obtain ⟨b0, o0, hi0, rfl⟩ := hk 0 rfl
  obtain ⟨b0', o0', c, t, fr, p1, p2, p3, p4, p5⟩ := hr.blk 0 _ rfl
  rw [hi0] at p1; cases p1
  obtain ⟨y, hy, hcy⟩ := p5 1 _ rfl
  cases hcy with
  | mp _ _ blk hb hk =>
   cases hb
   obtain ⟨mb, om, hi1, rfl⟩ := hk v _ rfl
   obtain ⟨mb', om', ces, clock, q1, q2, q3, q4⟩ := hr.blk 1 _ rfl
   rw [hi1] at q1; cases q1
   have hlen : ces.toList.length = m.length := by rw [q4.1, List.length_map]
   have hkey : ∀ (i : Nat) (ce : MapEntry), ces.toList[i]? = some ce → ∃ r, m[i]? = some r ∧ ce.key = .int .i64 r.id := by
    intro i ce hce
    have hi := get_lt hce
    have hm : m[i]? = some (m[i]'(by omega)) := List.getElem?_eq_getElem (by omega)
    have := (q4.2 i ce (encM (m[i]'(by omega))) hce (by rw [List.getElem?_map, hm]; rfl)).1
    refine ⟨_, hm, ?_⟩
    generalize ce.key = kv at this
    cases this with
    | s _ _ hd => cases hd; rfl
   have hkeys : ces.toList.map (·.key) = m.map fun r => Value.int .i64 r.id := by
    apply List.ext_getElem?
    intro i
    rw [List.getElem?_map, List.getElem?_map]
    cases hce : ces.toList[i]? with
    | none =>
     have : m[i]? = none := by rw [List.getElem?_eq_none_iff] at hce ⊢; omega
     rw [this]; rfl
    | some ce =>
     obtain ⟨r, h1, h2⟩ := hkey i ce hce
     rw [h1]; simp [h2]
   let R : Value → Option (DataW Unit × List MemPlace) := fun _ => some (.nil, [])
   have hread : ∀ x ∈ ces.toList, ∃ r ∈ m, x.key = .int .i64 r.id ∧ WideElems.rd (H := Unit) Try.prog 3 R x = some (.int .i64 r.id, .nil) := by
    intro x hx
    obtain ⟨i, hi⟩ := List.getElem?_of_mem hx
    obtain ⟨r, h1, h2⟩ := hkey i x hi
    have hm := List.mem_of_getElem? h1
    refine ⟨r, hm, h2, ?_⟩
    have := hrg r hm
    simp [WideElems.rd, h2, keyOf, Try.underlying3, mapKey, Lit.wf, R]
    rw [if_pos ⟨this.1, this.2⟩]; rfl
   have hown : w.ownsMap Try.prog 3 R mb m.length (.map ((ces.toList.map (WideElems.rg Try.prog 3 R)).foldr DataW.insert [])) := by
    refine ⟨ces, clock, q2, ⟨?_, ⟨q3.1, q3.2, ?_⟩, fun x hx => ?_⟩, ?_, rfl⟩
    ·rw [← Array.length_toList, hlen]; unfold maxLen; omega
    ·rw [hkeys]
     have := List.Pairwise.map (S := fun x y => x ≠ y) (fun r => Value.int .i64 r) (fun a b h e => h (by simpa using e)) hn
     rw [List.map_map] at this
     exact this
    ·obtain ⟨r, _, _, h⟩ := hread x hx
     exact ⟨_, h⟩
    ·rw [← Array.length_toList, hlen]; exact Nat.le_refl _
   have hperm : (intKeys (H := Unit) (.map ((ces.toList.map (WideElems.rg Try.prog 3 R)).foldr DataW.insert []))).Perm (m.map (·.id)) := by
    have h1 : (ces.toList.map (WideElems.rg Try.prog 3 R)).map (fun p => intOf p.1) = m.map (·.id) := by
     rw [List.map_map]
     apply List.ext_getElem?
     intro i
     rw [List.getElem?_map, List.getElem?_map]
     cases hce : ces.toList[i]? with
     | none =>
      have : m[i]? = none := by rw [List.getElem?_eq_none_iff] at hce ⊢; omega
      rw [this]; rfl
     | some ce =>
      obtain ⟨r, h1, h2⟩ := hkey i ce hce
      obtain ⟨r', _, h3, h4⟩ := hread ce (List.mem_of_getElem? hce)
      rw [h2] at h3
      have h3 : r.id = r'.id := by simpa using h3
      rw [h1]
      simp [WideElems.rg, h4, intOf, h3]
    rw [← h1]
    exact (WideShapes.sorted_perm _).map _
   have hsz : Maps.size (H := Unit) (.map ((ces.toList.map (WideElems.rg Try.prog 3 R)).foldr DataW.insert [])) = m.length := by
    have := hperm.length_eq
    simp only [intKeys, List.length_map] at this
    exact this
   refine (calls_up (ids_walk b0 o0 mb m.length _ R w ?_ hown ?_ ?_)).mono ?_
   ·rw [cell_of p2]; exact hy
   ·rw [hsz]; unfold maxLen; omega
   ·rw [hsz]; omega
   ·rintro e w' ⟨⟨v', ss, he, hss, hrow, _, hbelow⟩, hup⟩
    obtain ⟨k1, k2⟩ := fresh_ext hr hbelow (hup v' he)
    have hms : (ss.mergeSort fun x y => decide (x ≤ y)) = idsM m := mergeSort_of_perm_i (hss.trans hperm)
    have hlm : (idsM m).length = ss.length := by rw [← hms]; exact List.length_mergeSort _
    rw [hms, ← hlm] at hrow
    exact ⟨v', _, _, ι, _, he, ⟨rfl, rfl⟩, k2, .c _ _ (.d _ _ (ints_new hrow fun b h1 h2 => .inr ⟨⟨h1, h2⟩, h1⟩)), k1⟩
end Go.Ab

