/-
  Merged texts, part p.
-/
import Derived.Test.YtollegfnkaomeaaZo
import Derived.Shelf.SlGeneric
import Derived.Shelf.SlIterI.Collect
import Derived.Shelf.SlIterI.Keys
import Derived.Ground.GgzProg
import Derived.Test.YtollegfnkaomeaaProg
/-
  The contracts of maps.Keys and slices.Collect at this program (written by the kit's lay-plain tool).
-/
namespace Go.Proofs
open Go.Shelf
def Try.keysM_ren : Go.Shelf.Ren := ⟨fun | 7 => 55 | 10 => 80 | n => n, fun | 23 => 86 | 26 => 3 | 3 => 4 | 28 => 96 | 0 => 0 | 27 => 95 | 33 => 115 | 4 => 4 | n => n, fun | n => n⟩
theorem Try.keysM : Go.Proofs.SlLaysZI.n7 Try.prog Try.keysM_ren := {
  mixed := by kernel_rfl
  f7 := ⟨Try.f55.name, by decide, Try.func55.trans (congrArg some (by kernel_rfl))⟩
  f10 := ⟨Try.f80.name, by decide, Try.func80.trans (congrArg some (by kernel_rfl))⟩
  t0 := Try.underlying0
  a0 := Try.isAgg0
  z0 := Try.sizeOf0
  v0 := Try.zeroValue0
  t4 := Try.underlying4
  a4 := Try.isAgg4
  z4 := Try.sizeOf4
  v4 := Try.zeroValue4
  t23 := Try.underlying86
  a23 := Try.isAgg86
  z23 := Try.sizeOf86
  v23 := Try.zeroValue86
  t26 := Try.underlying3
  a26 := Try.isAgg3
  z26 := Try.sizeOf3
  v26 := Try.zeroValue3
  t27 := Try.underlying95
  a27 := Try.isAgg95
  z27 := Try.sizeOf95
  v27 := Try.zeroValue95
  t28 := Try.underlying96
  a28 := Try.isAgg96
  z28 := Try.sizeOf96
  v28 := Try.zeroValue96
  t33 := Try.underlying115
  a33 := Try.isAgg115
  z33 := Try.sizeOf115
  v33 := Try.zeroValue115 }
def Try.collectM_ren : Go.Shelf.Ren := ⟨fun | 8 => 54 | 11 => 79 | n => n, fun | 26 => 3 | 28 => 96 | 24 => 58 | 0 => 0 | 33 => 115 | 4 => 4 | n => n, fun | n => n⟩
theorem Try.collectM : Go.Proofs.SlLaysZI.n8 Try.prog Try.collectM_ren := {
  mixed := by kernel_rfl
  f8 := ⟨Try.f54.name, by decide, Try.func54.trans (congrArg some (by kernel_rfl))⟩
  f11 := ⟨Try.f79.name, by decide, Try.func79.trans (congrArg some (by kernel_rfl))⟩
  t0 := Try.underlying0
  a0 := Try.isAgg0
  z0 := Try.sizeOf0
  v0 := Try.zeroValue0
  t24 := Try.underlying58
  a24 := Try.isAgg58
  z24 := Try.sizeOf58
  v24 := Try.zeroValue58
  t26 := Try.underlying3
  a26 := Try.isAgg3
  z26 := Try.sizeOf3
  v26 := Try.zeroValue3
  t28 := Try.underlying96
  a28 := Try.isAgg96
  z28 := Try.sizeOf96
  v28 := Try.zeroValue96
  i26 := by kernel_rfl }
end Go.Proofs

/-
  Compressing, part f: the keys of a set.
-/
namespace Go.Proofs
open Go.RowKit Go.Maps Go.Sort Go.Shelf
theorem collect_walk {H : Type} (Bm b nn : Nat) (D0 : DataW H) (R : Value → Option (DataW H × List MemPlace)) (w : World) (hB : Bm < w.heap.size) (hc : w.cell? ⟨Bm, 0, none⟩ = some (.map (some b)))
  (hown : w.ownsMap Try.prog 3 R b nn D0) (hmax : Maps.size D0 ≤ maxLen) (hbytes : Maps.size D0 * 8 ≤ 140737488355328) :
  Calls Try.prog 54 #[.func (.func 80) #[] #[.pointer (some ⟨Bm, 0, none⟩)]] w fun e w' => ∃ (v : Value) (ss : List Int), e = .returned v ∧ ss.Perm (intKeys D0) ∧
   w'.ownsRow w.heap.size 3 1 v ss.length (ss.map encZ) ∧ (v = .slice none 0 0 ↔ ss = []) ∧ Below w.heap.size w w' := by
 have hseq : SeqGives Fence.wide 2 Try.prog 80 #[.pointer (some ⟨Bm, 0, none⟩)] encZ (fun ss => ss.Perm (intKeys D0)) (Maps.size D0) w :=
  AnyZI.keys_gives (ρ := Try.keysM_ren) { Try.keysM with } Fence.wide _ trivial rfl (by omega) Bm b nn D0 _ hB hc hown
 exact (callsIn_wide (n := 4)).1 (AnyZI.collect_in Try.collectM Fence.wide 4 trivial trivial rfl (by omega) 80 #[.pointer (some ⟨Bm, 0, none⟩)] trivial (enters_of Try.func80 (by kernel_rfl) rfl) _ _ hmax hbytes _ hseq)
end Go.Proofs
namespace Go.Ab
open Go.Proofs Go.Sort Go.Maps
theorem ints_new {G : Nat → Prop} {w' : World} {base : Nat} {t : TypeId} {v : Value} {l : List Int} (h : w'.ownsRow base t 1 v l.length (l.map (Value.int .i64))) (hG : ∀ b, base ≤ b → b < w'.heap.size → G b) :
  DR G w' v (.list false 1 (l.map encI)) := by
 rcases h.2 with ⟨rfl, hl⟩ | ⟨g, cap, cur, rfl, hb, hg, h1, h2, h3, h4⟩
 ·cases List.eq_nil_of_length_eq_zero hl
  exact .nils _ _
 ·have hlt : g < w'.heap.size := (Array.getElem?_eq_some_iff.1 hg).1
  have hc : ∀ (i : Nat) (x : Int), l[i]? = some x → w'.cell? ⟨g, 0 + i * 1 + 0, none⟩ = some (.int .i64 x) := by
   intro i x hx
   have hi := get_lt hx
   have h5 : (cur.toList.take (l.length * 1))[i]? = some (.int .i64 x) := by rw [h4, List.getElem?_map, hx]; rfl
   rw [List.getElem?_take_of_lt (by omega)] at h5
   rw [show 0 + i * 1 + 0 = i by omega, cell_of hg, ← Array.getElem?_toList]
   exact h5
  have hlen : (l.map encI).length = l.length := List.length_map _
  have := DR.sl (G := G) (w := w') g 0 cap 1 (l.map encI) (fun i j => .int .i64 (l[i]?.getD 0)) (fun _ => hG g hb hlt) (by rw [hlen]; exact h1) (by rw [hlen]; exact Nat.le_trans h1 h2) (fun i e he => by
   rw [List.getElem?_map, Option.map_eq_some_iff] at he
   obtain ⟨x, _, rfl⟩ := he; rfl) (fun i e j x he hx => by
   rw [List.getElem?_map, Option.map_eq_some_iff] at he
   obtain ⟨z, hz, rfl⟩ := he
   have hj : j = 0 := by have := get_lt hx; simpa [encI] using this
   subst hj
   rw [hc i z hz, hz]; rfl) (fun i e j x he hx => by
   rw [List.getElem?_map, Option.map_eq_some_iff] at he
   obtain ⟨z, hz, rfl⟩ := he
   have hj : j = 0 := by have := get_lt hx; simpa [encI] using this
   subst hj
   simp only [encI, List.getElem?_cons_zero, Option.some.injEq] at hx
   subst hx
   rw [hz]; exact .int _ _)
  rw [hlen] at this
  exact this
theorem fresh_ext {G : Nat → Prop} {ι : Io} {h : Hp} {w w' : World} (hr : HR G ι h w) (hb : RowKit.Below w.heap.size w w') (hu : Up w w') :
    Ext G ι h w (fun b => G b ∨ ((w.heap.size ≤ b ∧ b < w'.heap.size) ∧ w.heap.size ≤ b)) ι h w' ∧ HR (fun b => G b ∨ ((w.heap.size ≤ b ∧ b < w'.heap.size) ∧ w.heap.size ≤ b)) ι h w' := by
  have hnew : HR (fun b => w.heap.size ≤ b ∧ b < w'.heap.size) [] [] w' := HR_nil fun b hb => hb.2
  have hext : Ext (fun _ => False) [] [] w (fun b => w.heap.size ≤ b ∧ b < w'.heap.size) [] [] w' :=
    { size := hb.size
      quiet := ⟨hb.os, hb.output, hu.1, hu.2⟩
      frame := fun b h1 _ => hb.block b h1
      gmono := fun _ hb => hb.elim
      gnew := fun b hb => .inr (.inl hb.1)
      onew := fun b ⟨l, blk, h1, _⟩ => by simp at h1
      keep := fun l k hk => by simp at hk }
  exact Ext.of_pure hr hext hnew
theorem keys_fn06 (P : Program) (hP : P = Try.prog) (es : List (D × D)) : FnS P n_maps_Keys_map_int_bool_int_bool [.c (.d (.mpf es))] [] fun r h' => r = .c (.fn false n_maps_Keys_map_int_bool_int_bool_1 [.ptr 0 0 0 0]) ∧ h' = [.bx [.d (.mpf es)]] := by
 refine heap_start (hP ▸ mixed) (hP ▸ fn_maps_Keys_map_int_bool_int_bool) (hP ▸ c_maps_Keys_map_int_bool_int_bool) (Nat.le_of_ble_eq_true rfl) fun Λ Λo K hK => ?_
 have hfo : FnOk P n_maps_Keys_map_int_bool_int_bool_1 := hP ▸ ⟨_, fn_maps_Keys_map_int_bool_int_bool_1, rfl, by decide⟩
 clear hP
 conv => cbv
 repeat' first | exact hfo | exact gu | exact trivial | refine And.intro ?_ ?_ | (intro hc; exact absurd hc (by decide)) | (intro hc; exfalso; omega) | (intro hc; (first | rw [wrap_small (by omega) (by omega)] at hc | rw [nI_eq] at hc | skip); try (conv => cbv)) | refine CallG.old ?_
 exact hK _ _ ⟨rfl, rfl⟩
theorem collectK (m : List Int) (hn : m.Nodup) (hrg : ∀ x ∈ m, -9223372036854775808 ≤ x ∧ x ≤ 9223372036854775807) (hl : m.length ≤ 1000000) :
  FnS Try.prog n_slices_Collect_int [.c (.fn false n_maps_Keys_map_int_bool_int_bool_1 [.ptr 0 0 0 0])] [.bx [.d (.mpf (setF m))]] fun r h' => ∃ ss : List Int, ss.Perm m ∧ r = .c (.d (.list false 1 (ss.map encI))) ∧ h' = [.bx [.d (.mpf (setF m))]] := by
 refine ⟨fun G ι w vs hr hv => ?_⟩
 obtain ⟨v0, hvs⟩ : ∃ v0, vs = [v0] := by
  have := hv.1
  match vs, this with
  | [x], _ => exact ⟨x, rfl⟩
 subst hvs
 refine CallsF.of fn_slices_Collect_int ?_
 have hv0 : VR G w ι [.bx [.d (.mpf (setF m))]] v0 (.c (.fn false n_maps_Keys_map_int_bool_int_bool_1 [.ptr 0 0 0 0])) := hv.2 0 _ _ rfl rfl
 cases inv_c hv0 with
 | fn _ _ _ us _ hv1 hn1 hc1 =>
  subst hv1
  obtain ⟨u, hus⟩ : ∃ u, us = #[u] := by
   have h1 : us.toList.length = 1 := by rw [Array.length_toList]; exact hn1
   match hl : us.toList, h1 with
   | [x], _ => exact ⟨x, by rw [← Array.toArray_toList (xs := us), hl]⟩
  subst hus
  cases hc1 0 u _ rfl rfl with
  | ptr _ _ _ _ _ blk hb ha hk =>
   cases hb
   obtain ⟨b0, o0, hi0, rfl⟩ := hk 0 rfl
   obtain ⟨b0', o0', c, t, fr, p1, p2, p3, p4, p5⟩ := hr.blk 0 _ rfl
   rw [hi0] at p1; cases p1
   obtain ⟨p3, rfl⟩ := p3
   obtain ⟨y, hy, hcy⟩ := p5 0 _ rfl
   cases hcy with
   | d _ _ hdy =>
    obtain ⟨mb, clock, ces, xa, rfl, hpa, gmb, q2, q3, q4⟩ := inv_mpf hdy
    obtain ⟨m', hm', rfl⟩ := perm_setF hpa
    rw [setF_I] at q4
    have hn' : m'.Nodup := hm'.nodup_iff.2 hn
    have hrg' : ∀ x ∈ m', -9223372036854775808 ≤ x ∧ x ≤ 9223372036854775807 := fun x hx => hrg x (hm'.mem_iff.1 hx)
    have hl' : m'.length ≤ 1000000 := by rw [hm'.length_eq]; exact hl
    have hlen : ces.toList.length = m'.length := by rw [q4.1, setI, List.length_map]
    have hkey : ∀ (i : Nat) (ce : MapEntry), ces.toList[i]? = some ce → ∃ r, m'[i]? = some r ∧ ce.key = .int .i64 r := by
     intro i ce hce
     have hi := get_lt hce
     have hm : m'[i]? = some (m'[i]'(by omega)) := List.getElem?_eq_getElem (by omega)
     have := (q4.2 i ce (.s (iD (m'[i]'(by omega))), .s (.bool true)) hce (by rw [setI, List.getElem?_map, hm]; rfl)).1
     refine ⟨_, hm, ?_⟩
     generalize ce.key = kv at this
     cases this with
     | s _ _ hd => cases hd; rfl
    have hkeys : ces.toList.map (·.key) = m'.map fun r => Value.int .i64 r := by
     apply List.ext_getElem?
     intro i
     rw [List.getElem?_map, List.getElem?_map]
     cases hce : ces.toList[i]? with
     | none =>
      have : m'[i]? = none := by rw [List.getElem?_eq_none_iff] at hce ⊢; omega
      rw [this]; rfl
     | some ce =>
      obtain ⟨r, h1, h2⟩ := hkey i ce hce
      rw [h1]; simp [h2]
    let R : Value → Option (DataW Unit × List MemPlace) := fun _ => some (.nil, [])
    have hread : ∀ x ∈ ces.toList, ∃ r ∈ m', x.key = .int .i64 r ∧ WideElems.rd (H := Unit) Try.prog 3 R x = some (.int .i64 r, .nil) := by
     intro x hx
     obtain ⟨i, hi⟩ := List.getElem?_of_mem hx
     obtain ⟨r, h1, h2⟩ := hkey i x hi
     have hm := List.mem_of_getElem? h1
     refine ⟨r, hm, h2, ?_⟩
     have := hrg' r hm
     simp [WideElems.rd, h2, keyOf, Try.underlying3, mapKey, Lit.wf, R]
     rw [if_pos ⟨this.1, this.2⟩]; rfl
    have hown : w.ownsMap Try.prog 3 R mb m'.length (.map ((ces.toList.map (WideElems.rg Try.prog 3 R)).foldr DataW.insert [])) := by
     refine ⟨ces, clock, q2, ⟨?_, ⟨q3.1, q3.2, ?_⟩, fun x hx => ?_⟩, ?_, rfl⟩
     ·rw [← Array.length_toList, hlen]; unfold maxLen; omega
     ·rw [hkeys]
      exact List.Pairwise.map (S := fun x y => x ≠ y) (fun r => Value.int .i64 r) (fun a b h e => h (by simpa using e)) hn'
     ·obtain ⟨r, _, _, h⟩ := hread x hx
      exact ⟨_, h⟩
     ·rw [← Array.length_toList, hlen]; exact Nat.le_refl _
    have hperm : (intKeys (H := Unit) (.map ((ces.toList.map (WideElems.rg Try.prog 3 R)).foldr DataW.insert []))).Perm m' := by
     have h1 : (ces.toList.map (WideElems.rg Try.prog 3 R)).map (fun p => intOf p.1) = m' := by
      rw [List.map_map]
      apply List.ext_getElem?
      intro i
      rw [List.getElem?_map]
      cases hce : ces.toList[i]? with
      | none =>
       have : m'[i]? = none := by rw [List.getElem?_eq_none_iff] at hce ⊢; omega
       rw [this]; rfl
      | some ce =>
       obtain ⟨r, h1, h2⟩ := hkey i ce hce
       obtain ⟨r', _, h3, h4⟩ := hread ce (List.mem_of_getElem? hce)
       rw [h2] at h3
       have h3 : r = r' := by simpa using h3
       rw [h1]
       simp [WideElems.rg, h4, intOf, h3]
     have h2 : (intKeys (H := Unit) (.map ((ces.toList.map (WideElems.rg Try.prog 3 R)).foldr DataW.insert []))).Perm ((ces.toList.map (WideElems.rg Try.prog 3 R)).map fun p => intOf p.1) := (WideShapes.sorted_perm _).map _
     rw [h1] at h2; exact h2
    have hsz : Maps.size (H := Unit) (.map ((ces.toList.map (WideElems.rg Try.prog 3 R)).foldr DataW.insert [])) = m'.length := by
     have := hperm.length_eq
     simp only [intKeys, List.length_map] at this
     exact this
    refine (calls_up (collect_walk b0 mb m'.length _ R w (Array.getElem?_eq_some_iff.1 p2).1 ?_ hown ?_ ?_)).mono ?_
    ·rw [cell_of p2]; exact hy
    ·rw [hsz]; unfold maxLen; omega
    ·rw [hsz]; omega
    ·rintro e w' ⟨⟨v', ss, he, hss, hrow, _, hbelow⟩, hup⟩
     obtain ⟨k1, k2⟩ := fresh_ext hr hbelow (hup v' he)
     exact ⟨v', _, _, ι, _, he, ⟨ss, (hss.trans hperm).trans hm', rfl, rfl⟩, k2, .c _ _ (.d _ _ (ints_new hrow fun b h1 h2 => .inr ⟨⟨h1, h2⟩, h1⟩)), k1⟩
def minL : List Int → Int
 | [] => 0
 | x :: l => l.foldl min x
theorem minL_spec {l : List Int} (h : l ≠ []) : minL l ∈ l ∧ ∀ x ∈ l, minL l ≤ x := by
 have key : ∀ (l : List Int) (a : Int), (l.foldl min a = a ∨ l.foldl min a ∈ l) ∧ l.foldl min a ≤ a ∧ ∀ x ∈ l, l.foldl min a ≤ x := by
  intro l
  induction l with
  | nil => intro a; exact ⟨.inl rfl, Int.le_refl _, by simp⟩
  | cons y l ih =>
   intro a
   obtain ⟨h1, h2, h3⟩ := ih (min a y)
   rw [List.foldl_cons]
   refine ⟨?_, by omega, fun x hx => ?_⟩
   ·rcases h1 with h1 | h1
    ·rw [h1]
     by_cases h : a ≤ y
     ·exact .inl (by omega)
     ·exact .inr (by rw [show min a y = y by omega]; simp)
    ·exact .inr (by simp [h1])
   ·rcases List.mem_cons.1 hx with rfl | hx
    ·omega
    ·exact h3 x hx
 cases l with
 | nil => exact absurd rfl h
 | cons x l =>
  obtain ⟨h1, h2, h3⟩ := key l x
  refine ⟨?_, fun y hy => ?_⟩
  ·rcases h1 with h1 | h1
   ·rw [minL, h1]; simp
   ·rw [minL]; simp [h1]
  ·rcases List.mem_cons.1 hy with rfl | hy
   ·exact h2
   ·exact h3 y hy
theorem minL_perm {a b : List Int} (h : a.Perm b) : minL a = minL b := by
 by_cases hb : b = []
 ·subst hb; rw [h.eq_nil]
 ·have ha : a ≠ [] := fun e => hb (by subst e; exact h.symm.eq_nil)
  obtain ⟨h1, h2⟩ := minL_spec ha
  obtain ⟨h3, h4⟩ := minL_spec hb
  have := h2 _ (h.mem_iff.2 h3)
  have := h4 _ (h.mem_iff.1 h1)
  omega
theorem minL_snoc {l : List Int} (h : l ≠ []) (x : Int) : minL (l ++ [x]) = min (minL l) x := by
 cases l with
 | nil => exact absurd rfl h
 | cons y l => simp [minL, List.foldl_append]
theorem smin_ok (P : Program) (hP : P = Try.prog) (l : List Int) (h0 : l ≠ []) : Ret P n_slices_Min_int_int [intsA l] (iA (minL l)) := by
 refine ret_start (hP ▸ mixed) (hP ▸ fn_slices_Min_int_int) (hP ▸ c_slices_Min_int_int) (Nat.le_of_ble_eq_true rfl) fun Λ Λo K hK => ?_
 clear hP
 have hpos := List.length_pos_iff.2 h0
 obtain ⟨M, hM⟩ : ∃ M : Nat → Int, M = fun k => minL (l.take k) := ⟨_, rfl⟩
 have hM1 : ∀ x, l[0]? = some x → M 1 = x := fun x hx => by
  rw [hM]
  cases l with
  | nil => cases hx
  | cons y l => cases hx; rfl
 have hMs : ∀ k x, 1 ≤ k → l[k]? = some x → M (k + 1) = min (M k) x := fun k x hk hx => by
  rw [hM]
  simp only
  rw [take_succ_get hx]
  refine minL_snoc (fun e => ?_) x
  have := congrArg List.length e
  rw [List.length_take] at this
  have := get_lt hx
  simp only [List.length_nil] at *
  omega
 have hMl : M l.length = minL l := by rw [hM]; simp only; rw [List.take_length]
 rw [← hMl] at hK
 clear hM hMl
 simp only [intsA, intsD] at *
 generalize llh : List.map encI l = ll at *
 have lln : Λ ll = l.length := by rw [Λo, ← llh]; simp
 obtain ⟨x0, hx0⟩ : ∃ x, l[0]? = some x := ⟨_, List.getElem?_eq_getElem hpos⟩
 have hxa0 := elt_at llh (i := 0) (k := 0) rfl hx0
 have hm1 := hM1 x0 hx0
 conv => cbv
 repeat' first | (intro (e : List D) he; cases Option.some.inj (he.symm.trans hxa0); (conv => cbv)) | exact gu | exact trivial | refine And.intro ?_ ?_ | (intro hc; exact absurd hc (by decide)) | (intro hc; exfalso; omega) | (intro hc; (first | rw [wrap_small (by omega) (by omega)] at hc | rw [nI_eq] at hc | skip); try (conv => cbv)) | refine CallG.old ?_
 refine loop_up l.length (fun s : Int × Int => [(0, .c (.d (.list false 1 ll))), (3, iA s.2), (4, iA s.1)]) (fun _ => []) (fun k s => s.1 = ((k + 1 : Nat) : Int) ∧ k + 1 ≤ l.length ∧ s.2 = M (k + 1)) (1, x0) (Wk.cw) ⟨rfl, by omega, hm1.symm⟩ (fun k s h => by omega) ?_
 rintro k ⟨i, y⟩ Q' ⟨hi, hk, hy⟩ norm ex rt
 simp only at hi hy
 by_cases hlt : k + 1 < l.length
 ·obtain ⟨x, hx⟩ : ∃ x, l[k + 1]? = some x := ⟨_, List.getElem?_eq_getElem hlt⟩
  have hxa := elt_at llh hi hx
  have hst := hMs (k + 1) x (by omega) hx
  rw [← hy] at hst
  conv => cbv
  repeat' first | (refine ex _ _ _ ?_; (conv => cbv)) | (refine rt _ _ ?_; (conv => cbv)) | (intro e he; cases Option.some.inj (he.symm.trans hxa); (conv => cbv)) | exact gu | exact trivial | refine And.intro ?_ ?_ | (intro hc; exact absurd hc (by decide)) | (intro hc; exfalso; omega) | (intro hc; (first | rw [wrap_small (by omega) (by omega)] at hc | rw [nI_eq] at hc | skip); try (conv => cbv)) | refine CallG.old ?_
  rename_i z hz i2
  refine norm _ _ (i2, z) ?_ (Wk.cw)
  exact ⟨by simp only; omega, by omega, by simp only; omega⟩
 ·have e : k + 1 = l.length := by omega
  rw [e] at hy
  rw [← hy] at hK
  conv => cbv
  repeat' first | (refine ex _ _ _ ?_; (conv => cbv)) | (refine rt _ _ ?_; (conv => cbv)) | exact gu | exact trivial | refine And.intro ?_ ?_ | (intro hc; exact absurd hc (by decide)) | (intro hc; exfalso; omega) | (intro hc; (first | rw [wrap_small (by omega) (by omega)] at hc | rw [nI_eq] at hc | skip); try (conv => cbv)) | refine CallG.old ?_
  exact hK
end Go.Ab

/-
  Compressing, part g: (*part).choose (written by r06/cho.py).
-/
namespace Go.Ab
open Go.Proofs
def chooseS : Prt → Int → List Rt
 | .leaf p w, v => (if v ∈ [w] then [] else [⟨p, minL [w]⟩]) ++ []
 | .node p a b, v => (if v ∈ combineS a.best b.best then [] else [⟨p, minL (combineS a.best b.best)⟩]) ++ (chooseS a (if v ∈ combineS a.best b.best then v else minL (combineS a.best b.best)) ++ chooseS b (if v ∈ combineS a.best b.best then v else minL (combineS a.best b.best)))
theorem setOk_set (l : List Int) : setOk (setF l) = true := setOk_mem.2 fun e he => by
 obtain ⟨v, _, rfl⟩ := List.mem_map.1 he
 rfl
theorem hasK_set (v : Int) : ∀ l : List Int, hasK true 1 [(0, 0)] (.s (iD v)) (setF l) = some (decide (v ∈ l)) := by
 intro l
 induction l with
 | nil => rfl
 | cons x l ih =>
  have e1 : cmpK true 1 [(0, 0)] (.s (iD v)) (iD x) = some (decide (v = x)) := eqc_int v x
  show orO (cmpK true 1 [(0, 0)] (.s (iD v)) (iD x)) (hasK true 1 [(0, 0)] (.s (iD v)) (setF l)) = _
  rw [e1, ih]
  simp only [orO, Option.some.injEq]
  by_cases h1 : v = x <;> by_cases h2 : v ∈ l <;> simp [h1, h2]
def rngT : Prt → Prop
 | .leaf _ w => -9223372036854775808 ≤ w ∧ w ≤ 9223372036854775807
 | .node _ a b => rngT a ∧ rngT b
theorem combine_sub {a b : List Int} (ha : a.Pairwise (· < ·)) {z : Int} (h : z ∈ combineS a b) : z ∈ a ∨ z ∈ b := by
 rw [combine_mem ha] at h
 split at h
 ·exact .inl h.1
 ·exact h
theorem rngT_best : ∀ t : Prt, rngT t → ∀ x ∈ t.best, -9223372036854775808 ≤ x ∧ x ≤ 9223372036854775807
 |.leaf _ w, h, x, hx => by
  rw [Prt.best, List.mem_singleton] at hx
  subst hx; exact h
 |.node _ a b, h, x, hx => by
  rcases combine_sub (best_inc a) hx with h1 | h1
  ·exact rngT_best a h.1 x h1
  ·exact rngT_best b h.2 x h1
def leaves : Prt → Nat
 | .leaf _ _ => 1
 | .node _ a b => leaves a + leaves b
theorem nodup_le {a : List Int} : ∀ {b : List Int}, a.Nodup → (∀ x ∈ a, x ∈ b) → a.length ≤ b.length := by
 induction a with
 | nil => intro b _ _; simp
 | cons x a ih =>
  intro b hn hs
  obtain ⟨h1, h2⟩ := List.nodup_cons.1 hn
  have hx : x ∈ b := hs x (by simp)
  have := ih (b := b.erase x) h2 fun y hy => (List.mem_erase_of_ne (fun e : y = x => h1 (by rw [← e]; exact hy))).2 (hs y (by simp [hy]))
  rw [List.length_erase_of_mem hx] at this
  have := List.length_pos_of_mem hx
  simp only [List.length_cons]; omega
theorem best_len : ∀ t : Prt, t.best.length ≤ leaves t
 | .leaf _ _ => Nat.le_refl _
 |.node p a b => by
  have h1 := best_len a
  have h2 := best_len b
  have h3 := nodup_le (b := a.best ++ b.best) (lt_nodup (best_inc (.node p a b))) fun x hx => List.mem_append.2 (combine_sub (best_inc a) hx)
  rw [List.length_append] at h3
  rw [leaves]; omega
theorem combine_ne {a b : List Int} (ha : a.Pairwise (· < ·)) (h : a ≠ []) : combineS a b ≠ [] := by
 intro e
 rw [combineS] at e
 split at e
 ·obtain ⟨x, l, rfl⟩ := List.exists_cons_of_ne_nil h
  have : x ∈ uniS (x :: l) b := (uniS_mem ha).2 (.inl (by simp))
  rw [e] at this; cases this
 ·contradiction
theorem best_ne : ∀ t : Prt, t.best ≠ []
 | .leaf _ _ => by simp [Prt.best]
 | .node _ a _ => combine_ne (best_inc a) (best_ne a)
set_option maxHeartbeats 2000000 in
theorem choose_ok (P : Program) (hP : P = Try.prog) : ∀ (t : Prt) (v : Int) (ver n : Nat) (r0 : Bool) (e0 : List (List D)), n = e0.length → e0.length + (chooseS t v).length ≤ 1000000 → rngT t → leaves t ≤ 1000000 →
  FnS P n_compress_part_choose [.c (.rp (treeCs t)), iA v, .c (.arr 0 ver 0 n)] [.da r0 ver 3 e0] fun r h' => ∃ (ve2 no2 : Nat) (rr2 : Bool), r = .c (.arr 0 ve2 0 no2) ∧ h' = [.da rr2 ve2 3 (e0 ++ (chooseS t v).map encRt)] ∧ no2 = (e0 ++ (chooseS t v).map encRt).length := by
 have hky := keys_fn06 P hP
 have hmin := fun l h => smin_ok P hP l h
 intro t
 induction t with
 | leaf p w =>
  intro v ver n r0 e0 hn hbd hrg hlv
  obtain ⟨addr, len⟩ := p
  have hky := hky (setF [w])
  have hcol := hP.symm ▸ collectK [w] (by simp) (fun x hx => by rw [List.mem_singleton] at hx; subst hx; exact hrg) (by simp)
  have hbs : [w] ≠ [] := by simp
  have h1 : FnS P n_compress_part_choose [.c (.rp (treeCs (.leaf ⟨addr, len⟩ w))), iA v, .c (.arr 0 ver 0 n)] [.da r0 ver 3 e0] fun r h' => ∃ (ve2 no2 : Nat) (rr2 : Bool), r = .c (.arr 0 ve2 0 no2) ∧ h' = [.da rr2 ve2 3 (e0 ++ (chooseS (.leaf ⟨addr, len⟩ w) v).map encRt)] ∧ no2 = (e0 ++ (chooseS (.leaf ⟨addr, len⟩ w) v).map encRt).length := by
   refine heap_start (hP ▸ mixed) (hP ▸ fn_compress_part_choose) (hP ▸ c_compress_part_choose) (Nat.le_of_ble_eq_true rfl) fun Λ Λo K hK => ?_
   clear hP
   rw [chooseS] at hbd hK
   simp only [treeCs, Prt.best, Prt.pf] at *
   obtain ⟨bs, hbse⟩ : ∃ bs, bs = [w] := ⟨_, rfl⟩
   rw [← hbse] at hky hcol hbs hbd hK ⊢
   have hso := setOk_set bs
   generalize hsb : setF bs = sb at *
   clear hbse
   by_cases hv : v ∈ bs
   ·have hhk : hasK true 1 [(0, 0)] (.s (iD v)) sb = some true := by rw [← hsb, hasK_set, decide_eq_true hv]
    simp only [if_pos hv, List.nil_append, List.append_nil, List.map_append, List.map_nil, List.map_cons, encRt, List.length_append, List.length_map, List.length_nil, List.length_cons] at hK hbd
    skip
    conv => cbv
    repeat' first | (have hso2 := hso; unfold setOk at hso2; exact hso2) | (intro (r' : Option Bool) hr'; cases hhk.symm.trans hr'; (conv => cbv)) | exact gu | exact trivial | refine And.intro ?_ ?_ | (intro hc; exact absurd hc (by decide)) | (intro hc; exfalso; omega) | (intro hc; (first | rw [wrap_small (by omega) (by omega)] at hc | rw [nI_eq] at hc | skip); try (conv => cbv)) | refine CallG.old ?_
    refine loop_up 2 (fun s : Int × Nat × Nat × Bool × List (List D) => [(1, iA v), (2, .c (.arr 0 s.2.1 0 s.2.2.1)), (35, .agg [.d .nilp, .d .nilp]), (36, iA s.1)])
     (fun s => [.da s.2.2.2.1 s.2.1 3 s.2.2.2.2])
     (fun k s => s.1 = k ∧ k ≤ 2 ∧ s.2.2.1 = s.2.2.2.2.length ∧ s.2.2.2.2 = e0) (0, ver, n, r0, e0) (Wk.ca) ⟨rfl, by omega, hn, rfl⟩ (fun k s h => h.2.1) ?_
    rintro k ⟨i, ve, no, rr, es⟩ Q' ⟨hi, hk, hno, hA⟩ norm ex rt
    simp only at hi hno hA
    match k, hk with
    | 0, _ =>
     obtain rfl : i = 0 := hi
     clear hK
     conv => cbv
     repeat' first | (refine ex _ _ _ ?_; (conv => cbv)) | (refine rt _ _ ?_; (conv => cbv)) | (intro hcz; rw [nI_eq] at hcz; exact absurd hcz (by decide)) | exact gu | exact trivial | refine And.intro ?_ ?_ | (intro hc; exact absurd hc (by decide)) | (intro hc; exfalso; omega) | (intro hc; (first | rw [wrap_small (by omega) (by omega)] at hc | rw [nI_eq] at hc | skip); try (conv => cbv)) | refine CallG.old ?_
     rename_i i2
     refine norm _ _ (i2, ve, no, rr, es) ?_ (Wk.ca)
     exact ⟨by simp only; omega, by omega, hno, hA⟩
    | 1, _ =>
     obtain rfl : i = 1 := hi
     clear hK
     conv => cbv
     repeat' first | (refine ex _ _ _ ?_; (conv => cbv)) | (refine rt _ _ ?_; (conv => cbv)) | (intro hcz; rw [nI_eq] at hcz; exact absurd hcz (by decide)) | exact gu | exact trivial | refine And.intro ?_ ?_ | (intro hc; exact absurd hc (by decide)) | (intro hc; exfalso; omega) | (intro hc; (first | rw [wrap_small (by omega) (by omega)] at hc | rw [nI_eq] at hc | skip); try (conv => cbv)) | refine CallG.old ?_
     rename_i i2
     refine norm _ _ (i2, ve, no, rr, es) ?_ (Wk.ca)
     exact ⟨by simp only; omega, by omega, hno, hA⟩
    | 2, _ =>
     have h0 := hA
     conv => cbv
     repeat' first | (refine ex _ _ _ ?_; (conv => cbv)) | (refine rt _ _ ?_; (conv => cbv)) | exact gu | exact trivial | refine And.intro ?_ ?_ | (intro hc; exact absurd hc (by decide)) | (intro hc; exfalso; omega) | (intro hc; (first | rw [wrap_small (by omega) (by omega)] at hc | rw [nI_eq] at hc | skip); try (conv => cbv)) | refine CallG.old ?_
     exact hK _ _ ⟨ve, no, rr, rfl, by rw [h0], by simp [hno, h0]⟩
   ·have hhk : hasK true 1 [(0, 0)] (.s (iD v)) sb = some false := by rw [← hsb, hasK_set, decide_eq_false hv]
    simp only [if_neg hv, List.nil_append, List.append_nil, List.map_append, List.map_nil, List.map_cons, encRt, List.length_append, List.length_map, List.length_nil, List.length_cons] at hK hbd
    obtain ⟨ss0, hss0⟩ : ∃ x, x = minL bs := ⟨_, rfl⟩
    rw [← hss0] at hK
    skip
    conv => cbv
    repeat' first | (have hso2 := hso; unfold setOk at hso2; exact hso2) | (intro (r' : Option Bool) hr'; cases hhk.symm.trans hr'; (conv => cbv)) | (refine call_fr [] hky rfl rfl (by decide) (by repeat' first | exact trivial | refine And.intro ?_ ?_ | rfl) rfl rfl ?_; rintro r hc' ⟨rfl, rfl⟩; (conv => cbv)) | (refine call_fr [1] hcol rfl rfl (by decide) (by repeat' first | exact trivial | refine And.intro ?_ ?_ | rfl) rfl rfl ?_; rintro r hc' ⟨ss, hss, rfl, rfl⟩; have hsm := hmin ss (fun e => hbs (by subst e; exact hss.symm.eq_nil)); rw [minL_perm hss, ← hss0] at hsm; simp only [intsA, intsD] at hsm; generalize ss.map encI = sl at *; (conv => cbv)) | (refine call_r hsm rfl rfl ?_; conv => cbv) | exact gu | exact trivial | refine And.intro ?_ ?_ | (intro hc; exact absurd hc (by decide)) | (intro hc; exfalso; omega) | (intro hc; (first | rw [wrap_small (by omega) (by omega)] at hc | rw [nI_eq] at hc | skip); try (conv => cbv)) | refine CallG.old ?_
    rename_i n1 r1 e1 hn1 hr1
    have he1 : e1 = e0 ++ [[u32D addr, iD len, iD ss0]] := by rw [hc, List.drop_zero, List.take_of_length_le (by omega)]
    have hn1f : n1 = e1.length := by rw [he1, List.length_append, hn1, hn]
    refine loop_up 2 (fun s : Int × Nat × Nat × Bool × List (List D) => [(1, iA ss0), (2, .c (.arr 0 s.2.1 0 s.2.2.1)), (35, .agg [.d .nilp, .d .nilp]), (36, iA s.1)])
     (fun s => [.da s.2.2.2.1 s.2.1 3 s.2.2.2.2])
     (fun k s => s.1 = k ∧ k ≤ 2 ∧ s.2.2.1 = s.2.2.2.2.length ∧ s.2.2.2.2 = (e0 ++ [[u32D addr, iD len, iD ss0]])) (0, ver.succ, n1, r1, e1) (Wk.ca) ⟨rfl, by omega, hn1f, he1⟩ (fun k s h => h.2.1) ?_
    rintro k ⟨i, ve, no, rr, es⟩ Q' ⟨hi, hk, hno, hA⟩ norm ex rt
    simp only at hi hno hA
    match k, hk with
    | 0, _ =>
     obtain rfl : i = 0 := hi
     clear hK
     conv => cbv
     repeat' first | (refine ex _ _ _ ?_; (conv => cbv)) | (refine rt _ _ ?_; (conv => cbv)) | (intro hcz; rw [nI_eq] at hcz; exact absurd hcz (by decide)) | exact gu | exact trivial | refine And.intro ?_ ?_ | (intro hc; exact absurd hc (by decide)) | (intro hc; exfalso; omega) | (intro hc; (first | rw [wrap_small (by omega) (by omega)] at hc | rw [nI_eq] at hc | skip); try (conv => cbv)) | refine CallG.old ?_
     rename_i i2
     refine norm _ _ (i2, ve, no, rr, es) ?_ (Wk.ca)
     exact ⟨by simp only; omega, by omega, hno, hA⟩
    | 1, _ =>
     obtain rfl : i = 1 := hi
     clear hK
     conv => cbv
     repeat' first | (refine ex _ _ _ ?_; (conv => cbv)) | (refine rt _ _ ?_; (conv => cbv)) | (intro hcz; rw [nI_eq] at hcz; exact absurd hcz (by decide)) | exact gu | exact trivial | refine And.intro ?_ ?_ | (intro hc; exact absurd hc (by decide)) | (intro hc; exfalso; omega) | (intro hc; (first | rw [wrap_small (by omega) (by omega)] at hc | rw [nI_eq] at hc | skip); try (conv => cbv)) | refine CallG.old ?_
     rename_i i2
     refine norm _ _ (i2, ve, no, rr, es) ?_ (Wk.ca)
     exact ⟨by simp only; omega, by omega, hno, hA⟩
    | 2, _ =>
     have h0 := hA
     conv => cbv
     repeat' first | (refine ex _ _ _ ?_; (conv => cbv)) | (refine rt _ _ ?_; (conv => cbv)) | exact gu | exact trivial | refine And.intro ?_ ?_ | (intro hc; exact absurd hc (by decide)) | (intro hc; exfalso; omega) | (intro hc; (first | rw [wrap_small (by omega) (by omega)] at hc | rw [nI_eq] at hc | skip); try (conv => cbv)) | refine CallG.old ?_
     exact hK _ _ ⟨ve, no, rr, rfl, by rw [h0], by simp [hno, h0]⟩
  exact h1
 | node p a b iha ihb =>
  intro v ver n r0 e0 hn hbd hrg hlv
  obtain ⟨addr, len⟩ := p
  have hl1 : leaves a ≤ 1000000 := by rw [leaves] at hlv; omega
  have hl2 : leaves b ≤ 1000000 := by rw [leaves] at hlv; omega
  have iha := fun v ver n r0 e0 h1 h2 => iha v ver n r0 e0 h1 h2 hrg.1 hl1
  have ihb := fun v ver n r0 e0 h1 h2 => ihb v ver n r0 e0 h1 h2 hrg.2 hl2
  have hrc := rngT_best (.node ⟨addr, len⟩ a b) hrg
  have hbl := best_len (.node ⟨addr, len⟩ a b)
  have hbs := best_ne (.node ⟨addr, len⟩ a b)
  have hnd := lt_nodup (best_inc (.node ⟨addr, len⟩ a b))
  rw [Prt.best] at hrc hbl hbs hnd
  have hky := hky (setF (combineS a.best b.best))
  have hcol := hP.symm ▸ collectK (combineS a.best b.best) hnd hrc (by omega)
  refine heap_start (hP ▸ mixed) (hP ▸ fn_compress_part_choose) (hP ▸ c_compress_part_choose) (Nat.le_of_ble_eq_true rfl) fun Λ Λo K hK => ?_
  clear hP
  rw [chooseS] at hbd hK
  simp only [treeCs, Prt.best, Prt.pf] at *
  generalize combineS a.best b.best = bs at *
  generalize treeCs a = ca at *
  generalize treeCs b = cb at *
  have hso := setOk_set bs
  generalize hsb : setF bs = sb at *
  by_cases hv : v ∈ bs
  ·have hhk : hasK true 1 [(0, 0)] (.s (iD v)) sb = some true := by rw [← hsb, hasK_set, decide_eq_true hv]
   simp only [if_pos hv, List.nil_append, List.append_nil, List.map_append, List.map_nil, List.map_cons, encRt, List.length_append, List.length_map, List.length_nil, List.length_cons] at hK hbd
   obtain ⟨oa, hoa⟩ : ∃ oa, List.map encRt (chooseS a v) = oa := ⟨_, rfl⟩
   obtain ⟨ob, hob⟩ : ∃ ob, List.map encRt (chooseS b v) = ob := ⟨_, rfl⟩
   have hla : oa.length = (chooseS a v).length := by rw [← hoa]; simp
   have hlb : ob.length = (chooseS b v).length := by rw [← hob]; simp
   rw [hoa, hob] at hK
   conv => cbv
   repeat' first | (have hso2 := hso; unfold setOk at hso2; exact hso2) | (intro (r' : Option Bool) hr'; cases hhk.symm.trans hr'; (conv => cbv)) | exact gu | exact trivial | refine And.intro ?_ ?_ | (intro hc; exact absurd hc (by decide)) | (intro hc; exfalso; omega) | (intro hc; (first | rw [wrap_small (by omega) (by omega)] at hc | rw [nI_eq] at hc | skip); try (conv => cbv)) | refine CallG.old ?_
   refine loop_up 2 (fun s : Int × Nat × Nat × Bool × List (List D) => [(1, iA v), (2, .c (.arr 0 s.2.1 0 s.2.2.1)), (35, .agg [.rp ca, .rp cb]), (36, iA s.1)])
    (fun s => [.da s.2.2.2.1 s.2.1 3 s.2.2.2.2])
    (fun k s => s.1 = k ∧ k ≤ 2 ∧ s.2.2.1 = s.2.2.2.2.length ∧ (k = 0 → s.2.2.2.2 = e0) ∧ (k = 1 → s.2.2.2.2 = e0 ++ oa) ∧ (k = 2 → s.2.2.2.2 = e0 ++ oa ++ ob)) (0, ver, n, r0, e0) (Wk.ca) ⟨rfl, by omega, hn, fun _ => rfl, by omega, by omega⟩ (fun k s h => h.2.1) ?_
   rintro k ⟨i, ve, no, rr, es⟩ Q' ⟨hi, hk, hno, hA, hB, hC⟩ norm ex rt
   simp only at hi hno hA hB hC
   match k, hk with
   | 0, _ =>
    obtain rfl : i = 0 := hi
    clear hK
    have h0 := hA rfl
    have hcal := iha v ve no rr es hno (by have := hbd; have := congrArg List.length h0; omega)
    rw [hoa] at hcal
    obtain ⟨en, hen⟩ : ∃ en, en = es ++ oa := ⟨_, rfl⟩
    rw [← hen] at hcal
    clear iha ihb
    conv => cbv
    repeat' first | (refine ex _ _ _ ?_; (conv => cbv)) | (refine rt _ _ ?_; (conv => cbv)) | (intro hcz; rw [nI_eq] at hcz; exact absurd hcz (by decide)) | (refine call_fr [0] hcal rfl rfl (by decide) (by repeat' first | exact trivial | refine And.intro ?_ ?_ | rfl) rfl rfl ?_; rintro r hc' ⟨ve2, no2, rr2, rfl, rfl, hno2⟩; (conv => cbv)) | exact gu | exact trivial | refine And.intro ?_ ?_ | (intro hc; exact absurd hc (by decide)) | (intro hc; exfalso; omega) | (intro hc; (first | rw [wrap_small (by omega) (by omega)] at hc | rw [nI_eq] at hc | skip); try (conv => cbv)) | refine CallG.old ?_
    rename_i i2
    refine norm _ _ (i2, ve2, no2, rr2, en) ?_ (Wk.ca)
    exact ⟨by simp only; omega, by omega, hno2, by omega, fun _ => by simp only; rw [hen, h0], by omega⟩
   | 1, _ =>
    obtain rfl : i = 1 := hi
    clear hK
    have h0 := hB rfl
    have hcal := ihb v ve no rr es hno (by have := hbd; have := congrArg List.length h0; simp only [List.length_append] at this; omega)
    rw [hob] at hcal
    obtain ⟨en, hen⟩ : ∃ en, en = es ++ ob := ⟨_, rfl⟩
    rw [← hen] at hcal
    clear iha ihb
    conv => cbv
    repeat' first | (refine ex _ _ _ ?_; (conv => cbv)) | (refine rt _ _ ?_; (conv => cbv)) | (intro hcz; rw [nI_eq] at hcz; exact absurd hcz (by decide)) | (refine call_fr [0] hcal rfl rfl (by decide) (by repeat' first | exact trivial | refine And.intro ?_ ?_ | rfl) rfl rfl ?_; rintro r hc' ⟨ve2, no2, rr2, rfl, rfl, hno2⟩; (conv => cbv)) | exact gu | exact trivial | refine And.intro ?_ ?_ | (intro hc; exact absurd hc (by decide)) | (intro hc; exfalso; omega) | (intro hc; (first | rw [wrap_small (by omega) (by omega)] at hc | rw [nI_eq] at hc | skip); try (conv => cbv)) | refine CallG.old ?_
    rename_i i2
    refine norm _ _ (i2, ve2, no2, rr2, en) ?_ (Wk.ca)
    exact ⟨by simp only; omega, by omega, hno2, by omega, by omega, fun _ => by simp only; rw [hen, h0]⟩
   | 2, _ =>
    have h0 := hC rfl
    conv => cbv
    repeat' first | (refine ex _ _ _ ?_; (conv => cbv)) | (refine rt _ _ ?_; (conv => cbv)) | exact gu | exact trivial | refine And.intro ?_ ?_ | (intro hc; exact absurd hc (by decide)) | (intro hc; exfalso; omega) | (intro hc; (first | rw [wrap_small (by omega) (by omega)] at hc | rw [nI_eq] at hc | skip); try (conv => cbv)) | refine CallG.old ?_
    exact hK _ _ ⟨ve, no, rr, rfl, by rw [h0]; simp only [List.append_assoc], by simp [hno, h0]; try omega⟩
  ·have hhk : hasK true 1 [(0, 0)] (.s (iD v)) sb = some false := by rw [← hsb, hasK_set, decide_eq_false hv]
   simp only [if_neg hv, List.nil_append, List.append_nil, List.map_append, List.map_nil, List.map_cons, encRt, List.length_append, List.length_map, List.length_nil, List.length_cons] at hK hbd
   obtain ⟨ss0, hss0⟩ : ∃ x, x = minL bs := ⟨_, rfl⟩
   rw [← hss0] at hK
   rw [← hss0] at hbd
   obtain ⟨oa, hoa⟩ : ∃ oa, List.map encRt (chooseS a ss0) = oa := ⟨_, rfl⟩
   obtain ⟨ob, hob⟩ : ∃ ob, List.map encRt (chooseS b ss0) = ob := ⟨_, rfl⟩
   have hla : oa.length = (chooseS a ss0).length := by rw [← hoa]; simp
   have hlb : ob.length = (chooseS b ss0).length := by rw [← hob]; simp
   rw [hoa, hob] at hK
   conv => cbv
   repeat' first | (have hso2 := hso; unfold setOk at hso2; exact hso2) | (intro (r' : Option Bool) hr'; cases hhk.symm.trans hr'; (conv => cbv)) | (refine call_fr [] hky rfl rfl (by decide) (by repeat' first | exact trivial | refine And.intro ?_ ?_ | rfl) rfl rfl ?_; rintro r hc' ⟨rfl, rfl⟩; (conv => cbv)) | (refine call_fr [1] hcol rfl rfl (by decide) (by repeat' first | exact trivial | refine And.intro ?_ ?_ | rfl) rfl rfl ?_; rintro r hc' ⟨ss, hss, rfl, rfl⟩; have hsm := hmin ss (fun e => hbs (by subst e; exact hss.symm.eq_nil)); rw [minL_perm hss, ← hss0] at hsm; simp only [intsA, intsD] at hsm; generalize ss.map encI = sl at *; (conv => cbv)) | (refine call_r hsm rfl rfl ?_; conv => cbv) | exact gu | exact trivial | refine And.intro ?_ ?_ | (intro hc; exact absurd hc (by decide)) | (intro hc; exfalso; omega) | (intro hc; (first | rw [wrap_small (by omega) (by omega)] at hc | rw [nI_eq] at hc | skip); try (conv => cbv)) | refine CallG.old ?_
   rename_i n1 r1 e1 hn1 hr1
   have he1 : e1 = e0 ++ [[u32D addr, iD len, iD ss0]] := by rw [hc, List.drop_zero, List.take_of_length_le (by omega)]
   have hn1f : n1 = e1.length := by rw [he1, List.length_append, hn1, hn]
   refine loop_up 2 (fun s : Int × Nat × Nat × Bool × List (List D) => [(1, iA ss0), (2, .c (.arr 0 s.2.1 0 s.2.2.1)), (35, .agg [.rp ca, .rp cb]), (36, iA s.1)])
    (fun s => [.da s.2.2.2.1 s.2.1 3 s.2.2.2.2])
    (fun k s => s.1 = k ∧ k ≤ 2 ∧ s.2.2.1 = s.2.2.2.2.length ∧ (k = 0 → s.2.2.2.2 = (e0 ++ [[u32D addr, iD len, iD ss0]])) ∧ (k = 1 → s.2.2.2.2 = (e0 ++ [[u32D addr, iD len, iD ss0]]) ++ oa) ∧ (k = 2 → s.2.2.2.2 = (e0 ++ [[u32D addr, iD len, iD ss0]]) ++ oa ++ ob)) (0, ver.succ, n1, r1, e1) (Wk.ca) ⟨rfl, by omega, hn1f, fun _ => he1, by omega, by omega⟩ (fun k s h => h.2.1) ?_
   rintro k ⟨i, ve, no, rr, es⟩ Q' ⟨hi, hk, hno, hA, hB, hC⟩ norm ex rt
   simp only at hi hno hA hB hC
   match k, hk with
   | 0, _ =>
    obtain rfl : i = 0 := hi
    clear hK
    have h0 := hA rfl
    have hcal := iha ss0 ve no rr es hno (by have := hbd; have := congrArg List.length h0; simp only [List.length_append, List.length_cons, List.length_nil] at this; omega)
    rw [hoa] at hcal
    obtain ⟨en, hen⟩ : ∃ en, en = es ++ oa := ⟨_, rfl⟩
    rw [← hen] at hcal
    clear iha ihb
    conv => cbv
    repeat' first | (refine ex _ _ _ ?_; (conv => cbv)) | (refine rt _ _ ?_; (conv => cbv)) | (intro hcz; rw [nI_eq] at hcz; exact absurd hcz (by decide)) | (refine call_fr [0] hcal rfl rfl (by decide) (by repeat' first | exact trivial | refine And.intro ?_ ?_ | rfl) rfl rfl ?_; rintro r hc' ⟨ve2, no2, rr2, rfl, rfl, hno2⟩; (conv => cbv)) | exact gu | exact trivial | refine And.intro ?_ ?_ | (intro hc; exact absurd hc (by decide)) | (intro hc; exfalso; omega) | (intro hc; (first | rw [wrap_small (by omega) (by omega)] at hc | rw [nI_eq] at hc | skip); try (conv => cbv)) | refine CallG.old ?_
    rename_i i2
    refine norm _ _ (i2, ve2, no2, rr2, en) ?_ (Wk.ca)
    exact ⟨by simp only; omega, by omega, hno2, by omega, fun _ => by simp only; rw [hen, h0], by omega⟩
   | 1, _ =>
    obtain rfl : i = 1 := hi
    clear hK
    have h0 := hB rfl
    have hcal := ihb ss0 ve no rr es hno (by have := hbd; have := congrArg List.length h0; simp only [List.length_append, List.length_cons, List.length_nil] at this; omega)
    rw [hob] at hcal
    obtain ⟨en, hen⟩ : ∃ en, en = es ++ ob := ⟨_, rfl⟩
    rw [← hen] at hcal
    clear iha ihb
    conv => cbv
    repeat' first | (refine ex _ _ _ ?_; (conv => cbv)) | (refine rt _ _ ?_; (conv => cbv)) | (intro hcz; rw [nI_eq] at hcz; exact absurd hcz (by decide)) | (refine call_fr [0] hcal rfl rfl (by decide) (by repeat' first | exact trivial | refine And.intro ?_ ?_ | rfl) rfl rfl ?_; rintro r hc' ⟨ve2, no2, rr2, rfl, rfl, hno2⟩; (conv => cbv)) | exact gu | exact trivial | refine And.intro ?_ ?_ | (intro hc; exact absurd hc (by decide)) | (intro hc; exfalso; omega) | (intro hc; (first | rw [wrap_small (by omega) (by omega)] at hc | rw [nI_eq] at hc | skip); try (conv => cbv)) | refine CallG.old ?_
    rename_i i2
    refine norm _ _ (i2, ve2, no2, rr2, en) ?_ (Wk.ca)
    exact ⟨by simp only; omega, by omega, hno2, by omega, by omega, fun _ => by simp only; rw [hen, h0]⟩
   | 2, _ =>
    have h0 := hC rfl
    conv => cbv
    repeat' first | (refine ex _ _ _ ?_; (conv => cbv)) | (refine rt _ _ ?_; (conv => cbv)) | exact gu | exact trivial | refine And.intro ?_ ?_ | (intro hc; exact absurd hc (by decide)) | (intro hc; exfalso; omega) | (intro hc; (first | rw [wrap_small (by omega) (by omega)] at hc | rw [nI_eq] at hc | skip); try (conv => cbv)) | refine CallG.old ?_
    exact hK _ _ ⟨ve, no, rr, rfl, by rw [h0]; simp only [List.append_assoc], by simp [hno, h0]; try omega⟩
end Go.Ab

/-
  Compressing, part j: copies, nil lists.
-/
namespace Go.Ab
open Go.Proofs
theorem FnS.nilA {P : Program} {f : Nat} {pre : List AV} {sz : Nat} {h : Hp} {R : AV → Hp → Prop} (hf : FnS P f (pre ++ [.c (.arr h.length 0 0 0)]) (h ++ [.da false 0 sz []]) R) : FnS P f (pre ++ [.c (.d (.list true sz []))]) h R := by
 refine ⟨fun G ι w vs hr hv => ?_⟩
 obtain ⟨q1, q2, q3⟩ := new_nil (sz := sz) hr
 refine (hf.out G _ w vs q1 ⟨by have := hv.1; simpa using this, fun i v u h1 h2 => ?_⟩).mono fun e w' ⟨v, r, G', ι', h', a1, a2, a3, a4, a5⟩ => ⟨v, r, G', ι', h', a1, a2, a3, a4, q3.trans a5⟩
 rcases Nat.lt_or_ge i pre.length with hi | hi
 ·rw [List.getElem?_append_left hi] at h2
  exact (hv.2 i v u h1 (by rw [List.getElem?_append_left hi]; exact h2)).ext q3 hr
 ·have hl := hv.1
  have hi2 := get_lt h1
  rw [hl, List.length_append, List.length_singleton] at hi2
  obtain rfl : i = pre.length := by omega
  rw [List.getElem?_append_right (by omega)] at h2
  simp at h2
  subst h2
  have hd := inv_d (hv.2 pre.length v _ h1 (by rw [List.getElem?_append_right (by omega)]; simp; rfl))
  rw [nil_value hd]
  exact q2
theorem FnS.nilR {P : Program} {f : Nat} {args : List AV} {sz : Nat} {h : Hp} {Q0 : Hp → Prop} {Q : AV → Hp → Prop} (hf : FnS P f args h fun r h' => (r = .c (.d (.list true sz [])) ∧ Q0 h') ∨ Q r h') :
  FnS P f args h fun r h' => (∃ h1, Q0 h1 ∧ r = .c (.arr h1.length 0 0 0) ∧ h' = h1 ++ [.da false 0 sz []]) ∨ Q r h' := by
 refine ⟨fun G ι w vs hr hv => (hf.out G ι w vs hr hv).mono fun e w' ⟨v, r, G', ι', h', a1, a2, a3, a4, a5⟩ => ?_⟩
 rcases a2 with ⟨rfl, h2⟩ | h2
 ·obtain ⟨q1, q2, q3⟩ := new_nil (sz := sz) a3
  rw [nil_value (inv_d a4)] at a1
  exact ⟨_, _, G', _, _, a1, .inl ⟨h', h2, rfl, rfl⟩, q1, q2, a5.trans q3⟩
 ·exact ⟨v, r, G', ι', h', a1, .inr h2, a3, a4, a5⟩
theorem FnS.retA {P : Program} {f : Nat} {args : List AV} {sz : Nat} {E : List (List D)} {x : AV} (hx : pureA x = true)
  (hf : FnS P f args [] fun r h' => (∃ k ve rr n, n = E.length ∧ r = .tup [.c (.arr k ve 0 n), x] ∧ h'[k]? = some (.da rr ve sz E)) ∨ (E = [] ∧ r = .tup [.c (.d (.list true sz [])), x])) :
  Ret P f args (.tup [.c (.d (.list false sz E)), x]) := by
 refine ⟨fun G ι w vs hr hv => (hf.out G ι w vs hr hv).mono fun e w2 ⟨u, r, G2, ι2, h', he, hc, hr2, hvr, hxt⟩ => ?_⟩
 have hp : pureA (.tup [.c (.d (.list false sz E)), x]) = true := by simp [pureA, pureA.pureAs, pureC, hx]
 rcases hc with ⟨k, ve, rr, n, rfl, rfl, hk⟩ | ⟨rfl, rfl⟩
 ·cases hvr with
  | tup cs _ hn hcs =>
   have hn : cs.size = 2 := hn
   have h0 := hcs 0 _ _ (Array.getElem?_eq_getElem (by omega)) rfl
   have hc := inv_c h0
   have hfz : frz h' (.arr k ve 0 E.length) = some (.list false sz E, h'.set k Blk.dead) := by
    simp [frz, hk]
   obtain ⟨G', q1, q2, q3⟩ := frz_sound hr2 hc hfz
   refine ⟨.tuple cs, _, G', ι2, _, he, ⟨hp, rfl⟩, q1, .tup cs _ hn (fun i y z hu hy => ?_), hxt.trans q3⟩
   match i, hy with
   | 0, hy =>
    cases hy
    rw [Array.getElem?_eq_getElem (by omega)] at hu
    cases hu
    exact .c _ _ (.d _ _ q2)
   | 1, hy => cases hy; exact (hcs 1 y _ hu rfl).ext q3 hr2
 ·cases hvr with
  | tup cs _ hn hcs =>
   refine ⟨.tuple cs, _, G2, ι2, _, he, ⟨hp, rfl⟩, hr2, .tup cs _ hn (fun i y z hu hy => ?_), hxt⟩
   match i, hy with
   | 0, hy =>
    cases hy
    have hd := inv_d (hcs 0 y _ hu rfl)
    generalize hg : D.list true sz [] = g at hd
    cases hd <;> first | (cases hg; done) | skip
    cases hg
    exact .c _ _ (.d _ _ (.nils _ _))
   | 1, hy => cases hy; exact hcs 1 y _ hu rfl
theorem cloneR_ok (P : Program) (hP : P = Try.prog) (l : List Rt) (hl : l.length ≤ 1000000) : FnS P n_slices_Clone_api_Route_api_Route [rtsA l] [] fun r h' => ∃ n rr ve, n = l.length ∧ r = .c (.arr 0 ve 0 n) ∧ h' = [.da rr ve 3 (l.map encRt)] := by
 have h1 : FnS P n_slices_Clone_api_Route_api_Route [rtsA l] [] fun r h' => (r = .c (.d (.list true 3 [])) ∧ (l = [] ∧ h' = [])) ∨ ∃ n rr ve, n = l.length ∧ r = .c (.arr 0 ve 0 n) ∧ h' = [.da rr ve 3 (l.map encRt)] := by
  refine heap_start (hP ▸ mixed) (hP ▸ fn_slices_Clone_api_Route_api_Route) (hP ▸ c_slices_Clone_api_Route_api_Route) (Nat.le_of_ble_eq_true rfl) fun Λ Λo K hK => ?_
  clear hP
  simp only [rtsA, rtsD] at *
  have lln : (l.map encRt).length = l.length := by simp
  have l0 : l.map encRt = [] → l = [] := fun h => by simpa using h
  generalize l.map encRt = ll at *
  have k1 : ∀ n rr ve es, es = ll → n = ll.length → K (.c (.arr 0 ve 0 n)) [Blk.da rr ve 3 es] := by
   intro n rr ve es h1 h2; subst h1; exact hK _ _ (.inr ⟨n, rr, ve, by omega, rfl, rfl⟩)
  have k0 : l = [] → K (.c (.d (.list true 3 []))) [] := fun h => hK _ _ (.inl ⟨rfl, h, rfl⟩)
  clear hK
  have lln2 := Λo ll
  conv => cbv
  repeat' first | exact gu | exact trivial | refine And.intro ?_ ?_ | (intro hc; exact absurd hc (by decide)) | (intro hc; exfalso; omega) | (intro hc; (first | rw [wrap_small (by omega) (by omega)] at hc | rw [nI_eq] at hc | skip); try (conv => cbv)) | refine CallG.old ?_
  all_goals first
   | exact k0 (l0 (by assumption))
   | exact k1 _ _ _ _ (by rw [hc]; simp) (by omega)
 refine (FnS.nilR h1).mono ?_
 rintro r h' (⟨h1, ⟨rfl, rfl⟩, rfl, rfl⟩ | h)
 ·exact ⟨0, false, 0, rfl, rfl, rfl⟩
 ·exact h
end Go.Ab

/-
  Comparing the versions of blocks.
-/
namespace Go.Ab
open Go.Proofs
theorem bq_self (n : Nat) : Nat.beq n n = true := Nat.beq_refl n
theorem bq_old (n : Nat) : Nat.beq n n.succ = false := by
 rw [Bool.eq_false_iff]; intro h; have := Nat.eq_of_beq_eq_true h; omega
theorem bq_lit (a b : Nat) : Nat.beq a b = decide (a = b) := by
 by_cases h : a = b
 ·subst h; simp
 ·rw [decide_eq_false h, Bool.eq_false_iff]; exact fun h' => h (Nat.eq_of_beq_eq_true h')
end Go.Ab

/-
  Compressing, part k: Compress.
-/
namespace Go.Ab
open Go.Proofs
instance (p q : Pfx) : Decidable (ltP p q) := inferInstanceAs (Decidable (_ ∨ _))
theorem ltP_trans {p q r : Pfx} (h1 : ltP p q) (h2 : ltP q r) : ltP p r := by unfold ltP at *; omega
theorem ltP_irrefl (p : Pfx) : ¬ ltP p p := by unfold ltP; omega
theorem ltP_tri {p q : Pfx} (h : p ≠ q) : ltP p q ∨ ltP q p := by
 unfold ltP
 have : ¬ (p.addr = q.addr ∧ p.len = q.len) := fun e => h (Pfx.ext' e.1 e.2)
 omega
def insR (x : Rt) : List Rt → List Rt
 | [] => [x]
 | y :: r => if ltP x.p y.p then x :: y :: r else y :: insR x r
def sortR (l : List Rt) : List Rt := l.foldr insR []
theorem insR_perm (x : Rt) : ∀ l : List Rt, (insR x l).Perm (x :: l)
 | [] => .refl _
 |y :: r => by
  rw [insR]
  split
  ·exact .refl _
  ·exact ((insR_perm x r).cons y).trans (.swap x y r)
theorem sortR_perm : ∀ l : List Rt, (sortR l).Perm l
 | [] => .refl _
 | x :: r => (insR_perm x (sortR r)).trans ((sortR_perm r).cons x)
theorem insR_srt {x : Rt} : ∀ {l : List Rt}, SrtR l → (∀ r ∈ l, r.p ≠ x.p) → SrtR (insR x l)
 | [], _, _ => List.pairwise_singleton _ _
 |y :: r, h, hn => by
  obtain ⟨h1, h2⟩ := List.pairwise_cons.1 h
  rw [insR]
  split
  ·rename_i hx
   exact List.pairwise_cons.2 ⟨fun z hz => by
    rcases List.mem_cons.1 hz with rfl | hz
    ·exact hx
    ·exact ltP_trans hx (h1 z hz), h⟩
  ·rename_i hx
   refine List.pairwise_cons.2 ⟨fun z hz => ?_, insR_srt h2 fun r hr => hn r (List.mem_cons_of_mem _ hr)⟩
   rcases List.mem_cons.1 ((insR_perm x r).mem_iff.1 hz) with rfl | hz
   ·exact (ltP_tri (hn y (by simp))).resolve_right hx
   ·exact h1 z hz
theorem sortR_srt : ∀ {l : List Rt}, (l.map (·.p)).Nodup → SrtR (sortR l)
 | [], _ => List.Pairwise.nil
 |x :: r, h => by
  rw [List.map_cons, List.nodup_cons] at h
  refine insR_srt (sortR_srt h.2) fun y hy e => h.1 ?_
  exact List.mem_map.2 ⟨y, (sortR_perm r).mem_iff.1 hy, e⟩
theorem srt_eq : ∀ {a b : List Rt}, SrtR a → SrtR b → a.Perm b → a = b
 | [], b, _, _, h => by rw [h.symm.eq_nil]
 | x :: a, [], _, _, h => absurd h.eq_nil (by simp)
 |x :: a, y :: b, ha, hb, h => by
  obtain ⟨a1, a2⟩ := List.pairwise_cons.1 ha
  obtain ⟨b1, b2⟩ := List.pairwise_cons.1 hb
  have e : x = y := by
   rcases List.mem_cons.1 (h.mem_iff.1 (List.mem_cons_self)) with e | h1
   ·exact e
   ·rcases List.mem_cons.1 (h.mem_iff.2 (List.mem_cons_self)) with e | h2
    ·exact e.symm
    ·exact absurd (ltP_trans (a1 y h2) (b1 x h1)) (ltP_irrefl _)
  subst e
  rw [srt_eq a2 b2 ((List.perm_cons x).1 h)]
theorem sort_uniq {l s : List Rt} (hn : (l.map (·.p)).Nodup) (hp : s.Perm l) (hw : s.Pairwise fun a b => ¬ cmpP b.p a.p < 0) : s = sortR l := by
 refine srt_eq ?_ (sortR_srt hn) (hp.trans (sortR_perm l).symm)
 have hns : (s.map (·.p)).Nodup := (hp.map _).nodup_iff.2 hn
 have h2 : s.Pairwise fun a b => a.p ≠ b.p := List.pairwise_map.1 hns
 refine (hw.and h2).imp fun ⟨q1, q2⟩ => ?_
 exact (ltP_tri q2).resolve_right fun h3 => q1 (cmpP_lt.2 h3)
def root : Pfx := ⟨0, 0⟩
def tblS (l : List Rt) : List Rt := chooseS (divS 32 root 0 (sortR l)) 0
def compS (l : List Rt) : List Rt := if validR l then tblS l else []
theorem leaves_le : ∀ (k : Nat) (p : Pfx) (v : Int) (l : List Rt), leaves (divS k p v l) ≤ 1 + k * l.length := by
 intro k
 induction k with
 | zero => intro p v l; simp [divS, leaves]
 | succ k ih =>
  intro p v l
  rw [divS]
  split
  ·simp [leaves]
  ·rename_i hne
   have h1 := ih (loP p) (headV p v l) ((dropH p l).take (cntP (loP p) (dropH p l)))
   have h2 := ih (hiP p) (headV p v l) ((dropH p l).drop (cntP (loP p) (dropH p l)))
   have h3 : (dropH p l).length ≤ l.length := by
    cases l with
    | nil => simp [dropH]
    | cons r l => rw [dropH]; split <;> simp
   have h4 : 1 ≤ (dropH p l).length := List.length_pos_iff.2 hne
   rw [leaves]
   rw [List.length_take] at h1
   rw [List.length_drop] at h2
   generalize cntP (loP p) (dropH p l) = c at *
   generalize (dropH p l).length = m at *
   have h5 : k * min c m + k * (m - c) = k * m := by rw [← Nat.mul_add]; congr 1; omega
   have h6 : k * m ≤ k * l.length := Nat.mul_le_mul_left k h3
   rw [Nat.succ_mul]
   omega
theorem choose_len : ∀ (t : Prt) (v : Int), (chooseS t v).length + 1 ≤ 2 * leaves t
 | .leaf p w, v => by rw [chooseS, leaves]; split <;> simp
 |.node p a b, v => by
  have h1 := choose_len a
  have h2 := choose_len b
  rw [chooseS, leaves, List.length_append, List.length_append]
  have := h1 (if v ∈ combineS a.best b.best then v else minL (combineS a.best b.best))
  have := h2 (if v ∈ combineS a.best b.best then v else minL (combineS a.best b.best))
  have e : (if v ∈ combineS a.best b.best then [] else [(⟨p, minL (combineS a.best b.best)⟩ : Rt)]).length ≤ 1 := by split <;> simp
  omega
theorem rng_div : ∀ (k : Nat) (p : Pfx) (v : Int) (l : List Rt), (-9223372036854775808 ≤ v ∧ v ≤ 9223372036854775807) → (∀ r ∈ l, -9223372036854775808 ≤ r.val ∧ r.val ≤ 9223372036854775807) → rngT (divS k p v l) := by
 have hh : ∀ (p : Pfx) (v : Int) (l : List Rt), (-9223372036854775808 ≤ v ∧ v ≤ 9223372036854775807) → (∀ r ∈ l, -9223372036854775808 ≤ r.val ∧ r.val ≤ 9223372036854775807) → (-9223372036854775808 ≤ headV p v l ∧ headV p v l ≤ 9223372036854775807) := by
  intro p v l h1 h2
  cases l with
  | nil => exact h1
  | cons r l =>
   rw [headV]
   split
   ·exact h2 r (by simp)
   ·exact h1
 have hd : ∀ (p : Pfx) (l : List Rt) (r : Rt), r ∈ dropH p l → r ∈ l := by
  intro p l r hr
  cases l with
  | nil => exact hr
  | cons x l =>
   rw [dropH] at hr
   split at hr
   ·exact List.mem_cons_of_mem _ hr
   ·exact hr
 intro k
 induction k with
 | zero => intro p v l h1 h2; exact hh p v l h1 h2
 | succ k ih =>
  intro p v l h1 h2
  rw [divS]
  split
  ·exact hh p v l h1 h2
  ·exact ⟨ih _ _ _ (hh p v l h1 h2) fun r hr => h2 r (hd p l r (List.mem_of_mem_take hr)), ih _ _ _ (hh p v l h1 h2) fun r hr => h2 r (hd p l r (List.mem_of_mem_drop hr))⟩
def InR (l : List Rt) : Prop := ∀ r ∈ l, inU r.p.addr ∧ (-9223372036854775808 ≤ r.val ∧ r.val ≤ 9223372036854775807)
theorem cov_root {p : Pfx} (hu : inU p.addr) (hv : validP p = true) : covP root p = true := by
 refine cov_spec.2 ⟨hv, by decide, ?_, (valid_spec.1 hv).1⟩
 obtain ⟨h1, h2⟩ := hu
 have e : szP root.len = 4294967296 := rfl
 rw [e]
 exact ⟨h1, by simp only [root]; omega⟩
theorem pre_root {l : List Rt} (hu : InR l) (hv : validR l = true) : PreD root (sortR l) := by
 obtain ⟨h1, h2⟩ := validR_spec.1 hv
 refine ⟨⟨Int.le_refl _, by decide⟩, by decide, fun r hr => ?_, sortR_srt h2⟩
 have hm := (sortR_perm l).mem_iff.1 hr
 exact ⟨(hu r hm).1, cov_root (hu r hm).1 (h1 r hm).1⟩
theorem choose0_ok (P : Program) (hP : P = Try.prog) (t : Prt) (hb : (chooseS t 0).length ≤ 1000000) (hr : rngT t) (hl : leaves t ≤ 1000000) :
  FnS P n_compress_part_choose [.c (.rp (treeCs t)), iA 0, .c (.d (.list true 3 []))] [] fun r h' => ∃ (ve2 no2 : Nat) (rr2 : Bool), no2 = (chooseS t 0).length ∧ r = .c (.arr 0 ve2 0 no2) ∧ h' = [.da rr2 ve2 3 ((chooseS t 0).map encRt)] := by
 refine (FnS.nilA (pre := [.c (.rp (treeCs t)), iA 0]) (h := []) (choose_ok P hP t 0 0 0 false [] rfl (by simpa using hb) hr hl)).mono ?_
 rintro r h' ⟨ve2, no2, rr2, h1, h2, h3⟩
 exact ⟨ve2, no2, rr2, by rw [h3]; simp, h1, by rw [h2]; simp⟩
set_option maxHeartbeats 1000000 in
theorem compress_ok (P : Program) (hP : P = Try.prog) (l : List Rt) (hu : InR l) (hl : l.length ≤ 10000) : Ret P n_compress_Compress [rtsA l] (.tup [rtsA (compS l), iA (if validR l then 0 else 1)]) := by
 refine FnS.retA (x := iA (if validR l then 0 else 1)) rfl ?_
 have hva := cvalid_ok P hP l fun r hr => (hu r hr).1
 have hcl := cloneR_ok P hP l (by omega)
 have hso : ∀ (n : Nat) (rr : Bool) (ve : Nat) (es : List (List D)), validR l = true → n = l.length → es = l.map encRt →
   FnS P n_slices_SortFunc_api_Route_api_Route [.c (.arr 0 ve 0 n), .c (.fn false n_compress_Compress_1 [])] [.da rr ve 3 es] fun r' h' => ∃ es', es' = (sortR l).map encRt ∧ r' = .tup [] ∧ h' = [.da rr ve 3 es'] := by
  rintro n rr ve es hv rfl rfl
  refine (sortF_fn (hP ▸ fn_slices_SortFunc_api_Route_api_Route) rfl (hP ▸ sorts_f) (ccmp_lays P hP) l (by omega) rr ve).mono ?_
  rintro r' h' ⟨h1, l', h2, h3, h4⟩
  exact ⟨_, rfl, h1, by rw [h4, sort_uniq (validR_spec.1 hv).2 h2 h3]⟩
 have hsl : (sortR l).length = l.length := (sortR_perm l).length_eq
 have hdv := fun hv => divide_ok P hP 32 root 0 (sortR l) (pre_root hu hv) rfl (by omega)
 have hlv : leaves (divS 32 root 0 (sortR l)) ≤ 400000 := by have := leaves_le 32 root 0 (sortR l); omega
 have hch := choose0_ok P hP (divS 32 root 0 (sortR l)) (by have := choose_len (divS 32 root 0 (sortR l)) 0; omega) (rng_div _ _ _ _ (by omega) fun r hr => (hu r ((sortR_perm l).mem_iff.1 hr)).2) (by omega)
 have hcs : validR l = true → compS l = chooseS (divS 32 root 0 (sortR l)) 0 := fun h => by rw [compS, if_pos h]; rfl
 have hcn : validR l = false → compS l = [] := fun h => by rw [compS, if_neg (by rw [h]; decide)]
 refine heap_start (hP ▸ mixed) (hP ▸ fn_compress_Compress) (hP ▸ c_compress_Compress) (Nat.le_of_ble_eq_true rfl) fun Λ Λo K hK => ?_
 clear hP
 have hno : validR l = false → K (.tup [.c (.d (.list true 3 [])), iA 1]) [] := fun h => hK _ _ (.inr ⟨by rw [hcn h]; rfl, by rw [if_neg (by rw [h]; decide)]⟩)
 have hyes : ∀ n rr ve b es, validR l = true → n = (chooseS (divS 32 root 0 (sortR l)) 0).length → es = (chooseS (divS 32 root 0 (sortR l)) 0).map encRt → K (.tup [.c (.arr 1 ve 0 n), iA 0]) [b, .da rr ve 3 es] := by
  intro n rr ve b es h h1 h2
  subst h2
  exact hK _ _ (.inl ⟨1, ve, rr, n, by rw [hcs h, List.length_map]; exact h1, by rw [if_pos h], by rw [hcs h]; rfl⟩)
 clear hK hcs hcn
 simp only [rtsA, rtsD] at *
 generalize chooseS (divS 32 root 0 (sortR l)) 0 = C at *
 generalize cle : C.map encRt = cl at *
 generalize treeCs (divS 32 root 0 (sortR l)) = T at *
 generalize sle : (sortR l).map encRt = sl at *
 have sll : sl.length = l.length := by rw [← sle, List.length_map, hsl]
 have lle : (l.map encRt).length = l.length := List.length_map _
 generalize llh : l.map encRt = ll at *
 generalize validR l = vl at *
 conv => cbv
 repeat' first | refine call_b hva rfl rfl ?_ ?_ | (refine call_fr [] hcl rfl rfl (by decide) (by repeat' first | exact trivial | refine And.intro ?_ ?_ | rfl) rfl rfl ?_; rintro r hc' ⟨n, rr, ve, hn, rfl, rfl⟩; (conv => cbv)) | (refine call_fr [0] (hso _ _ _ _ (by assumption) hn rfl) rfl rfl (by decide) (by repeat' first | exact trivial | refine And.intro ?_ ?_ | rfl) rfl rfl ?_; rintro r hc' ⟨es', hes', rfl, rfl⟩; subst hes'; (conv => cbv)) | ((refine call_z 0 (ve) 3 n rfl (by rw [hn]; omega) (by simp [okL, okA, okCs, okC, bq_lit]) (by first | (simp [okH, okB, okCs, okC]; done) | simp [okH, okB, okCs, okC, bq_lit]) ?_; simp only [zL, zA, zCs, zC, zH, zB, bq_self, bq_old]; conv => cbv); refine call_r (hdv (by assumption)) rfl rfl ?_; (conv => cbv)) | (refine call_fr [] hch rfl rfl (by decide) (by repeat' first | exact trivial | refine And.intro ?_ ?_ | rfl) rfl rfl ?_; rintro r hc' ⟨ve2, no2, rr2, hno2, rfl, rfl⟩; (conv => cbv)) | exact gu | exact trivial | refine And.intro ?_ ?_ | (intro hc; exact absurd hc (by decide)) | (intro hc; exfalso; omega) | (intro hc; (first | rw [wrap_small (by omega) (by omega)] at hc | rw [nI_eq] at hc | skip); try (conv => cbv)) | refine CallG.old ?_
 ·exact hyes _ _ _ _ _ (by assumption) hno2 rfl
 ·exact hno (by assumption)
end Go.Ab

/-
  Compressing, part l: the reference's tables.
-/
namespace Go.Ab
open Go.Proofs
set_option maxHeartbeats 4000000 in
theorem rvalidR_ok (P : Program) (hP : P = Try.prog) (l : List Rt) (hu : ∀ r ∈ l, inU r.p.addr) : Ret P n_ref06_Valid [rtsA l] (bA (validR l)) := by
 have hva := fun p h => rvalid04_ok P hP p h
 refine ret_start (hP ▸ mixed) (hP ▸ fn_ref06_Valid) (hP ▸ c_ref06_Valid) (Nat.le_of_ble_eq_true rfl) fun Λ Λo K hK => ?_
 clear hP
 have yes : (∀ r ∈ l, validP r.p = true ∧ 0 ≤ r.val) → (l.map (·.p)).Nodup → K (bA true) := fun h1 h2 => by rw [validR_spec.2 ⟨h1, h2⟩] at hK; exact hK
 have no : ¬ ((∀ r ∈ l, validP r.p = true ∧ 0 ≤ r.val) ∧ (l.map (·.p)).Nodup) → K (bA false) := fun h => by
  rw [show validR l = false from Bool.eq_false_iff.2 fun h' => h (validR_spec.1 h')] at hK; exact hK
 clear hK
 have no1 : ∀ p ∈ l, ¬ (validP p.p = true ∧ 0 ≤ p.val) → K (bA false) := fun p hp h => no fun h' => h (h'.1 p hp)
 have no2 : ¬ (l.map (·.p)).Nodup → K (bA false) := fun h => no fun h' => h h'.2
 clear no
 simp only [rtsA, rtsD] at *
 generalize rlh : l.map encRt = rl at *
 have rln : Λ rl = l.length := by rw [Λo, ← rlh]; simp
 generalize validP = pv at *
 conv => cbv
 repeat' first | exact gu | exact trivial | refine And.intro ?_ ?_ | (intro hc; exact absurd hc (by decide)) | (intro hc; exfalso; omega) | (intro hc; (first | rw [wrap_small (by omega) (by omega)] at hc | rw [nI_eq] at hc | skip); try (conv => cbv)) | refine CallG.old ?_
 refine loop_up l.length (fun (i : Int) => [(0, .c (.d (.list false 3 rl))), (3, iA i)]) (fun _ => [])
  (fun k i => i = k ∧ k ≤ l.length ∧ (∀ r ∈ l.take k, pv r.p = true ∧ 0 ≤ r.val) ∧ ((l.take k).map (·.p)).Nodup) 0 (Wk.cw) ⟨rfl, by omega, by simp, by simp⟩ (fun k s h => h.2.1) ?_
 rintro k i Q' ⟨hi, hk, hok, hnd⟩ norm ex rt
 by_cases hlt : k < l.length
 ·obtain ⟨x, hx⟩ : ∃ x, l[k]? = some x := ⟨_, List.getElem?_eq_getElem hlt⟩
  have hxa := elt_at rlh hi hx
  have hxm := List.mem_of_getElem? hx
  have hdup : x.p ∈ (l.take k).map (·.p) → K (bA false) := fun h => no2 (dupR_no hx h)
  have hbad := no1 x hxm
  have hnds := (nodup_takeR hx).2
  have htk := take_succ_get hx
  have hvx := hva x.p (hu x hxm)
  obtain ⟨⟨addr, len⟩, val⟩ := x
  simp only [encRt] at hxa
  simp only [pfA] at hvx
  simp only at hdup hnds hbad
  conv => cbv
  repeat' first | (refine ex _ _ _ ?_; (conv => cbv)) | (refine rt _ _ ?_; (conv => cbv)) | (intro e he; cases Option.some.inj (he.symm.trans hxa); (conv => cbv)) | refine call_b hvx rfl rfl ?_ ?_ | exact gu | exact trivial | refine And.intro ?_ ?_ | (intro hc; exact absurd hc (by decide)) | (intro hc; exfalso; omega) | (intro hc; (first | rw [wrap_small (by omega) (by omega)] at hc | rw [nI_eq] at hc | skip); try (conv => cbv)) | refine CallG.old ?_
  all_goals try first
   | (refine hbad ?_; intro hb; omega)
   | (refine hbad ?_; intro hb; exact absurd hb.1 (by rw [‹pv _ = false›]; decide))
  have hvt : pv ⟨addr, len⟩ = true := by assumption
  have h0v : 0 ≤ val := by omega
  clear hbad hvx hva
  have norm0 := norm
  have rt0 := rt
  have ex0 := ex
  clear norm rt ex
  refine loop_up k (fun (j : Int) => [(0, .c (.d (.list false 3 rl))), (3, iA i), (4, iA j)]) (fun _ => [])
   (fun m j => j = m ∧ m ≤ k ∧ ∀ r ∈ l.take m, r.p ≠ ⟨addr, len⟩) 0 (Wk.cw) ⟨rfl, by omega, by simp⟩ (fun k s h => h.2.1) ?_
  rintro m j Q2 ⟨hj, hm, hne⟩ norm ex rt
  by_cases hlm : m < k
  ·obtain ⟨y, hy⟩ : ∃ y, l[m]? = some y := ⟨_, List.getElem?_eq_getElem (by omega)⟩
   have hya := elt_at rlh hj hy
   have hym : y ∈ l.take k := List.mem_iff_getElem?.2 ⟨m, by rw [List.getElem?_take_of_lt hlm]; exact hy⟩
   have hyd : y.p = ⟨addr, len⟩ → K (bA false) := fun e => hdup (List.mem_map.2 ⟨y, hym, e⟩)
   have htm := take_succ_get hy
   have hyp : ∀ p : Pfx, y.p ≠ p → ∀ r ∈ l.take (m + 1), (∀ r ∈ l.take m, r.p ≠ p) → r.p ≠ p := fun p hn r hr h => by
    rw [htm, List.mem_append, List.mem_singleton] at hr
    rcases hr with h1 | rfl
    ·exact h r h1
    ·exact hn
   have heq := eqc_pfx y.p ⟨addr, len⟩
   obtain ⟨⟨ya, yl⟩, yv⟩ := y
   simp only [encRt] at hya
   simp only at hyd hyp heq
   conv => cbv
   repeat' first | (refine ex _ _ _ ?_; (conv => cbv)) | (refine rt _ _ ?_; (conv => cbv)) | (intro e he; cases Option.some.inj (he.symm.trans hxa); (conv => cbv)) | (intro e he; cases Option.some.inj (he.symm.trans hya); (conv => cbv)) | exact gu | exact trivial | refine And.intro ?_ ?_ | (intro hc; exact absurd hc (by decide)) | (intro hc; exfalso; omega) | (intro hc; (first | rw [wrap_small (by omega) (by omega)] at hc | rw [nI_eq] at hc | skip); try (conv => cbv)) | refine CallG.old ?_
   ·refine rt0 _ _ ?_
    conv => cbv
    have hc2 : ya = addr ∧ yl = len ∧ True := by assumption
    exact hyd (by rw [hc2.1, hc2.2.1])
   ·refine norm _ _ _ ?_ (Wk.cw)
    have hc2 : ¬ (ya = addr ∧ yl = len ∧ True) := by assumption
    exact ⟨by omega, by omega, fun r hr => hyp _ (fun e => hc2 (by injection e with e1 e2; exact ⟨e1, e2, trivial⟩)) r hr hne⟩
  ·conv => cbv
   repeat' first | (refine ex _ _ _ ?_; (conv => cbv)) | (refine rt _ _ ?_; (conv => cbv)) | exact gu | exact trivial | refine And.intro ?_ ?_ | (intro hc; exact absurd hc (by decide)) | (intro hc; exfalso; omega) | (intro hc; (first | rw [wrap_small (by omega) (by omega)] at hc | rw [nI_eq] at hc | skip); try (conv => cbv)) | refine CallG.old ?_
   refine norm0 _ _ _ ?_ (Wk.cw)
   obtain rfl : m = k := by omega
   refine ⟨by omega, by omega, fun p hp => ?_, hnds ⟨hnd, fun h => ?_⟩⟩
   ·rcases (show p ∈ l.take m ∨ p = ⟨⟨addr, len⟩, val⟩ by rw [htk] at hp; simpa using hp) with h | h
    ·exact hok p h
    ·rw [h]; exact ⟨hvt, h0v⟩
   ·obtain ⟨r, hr, e⟩ := List.mem_map.1 h
    exact hne r hr e
 ·conv => cbv
  repeat' first | (refine ex _ _ _ ?_; (conv => cbv)) | (refine rt _ _ ?_; (conv => cbv)) | exact gu | exact trivial | refine And.intro ?_ ?_ | (intro hc; exact absurd hc (by decide)) | (intro hc; exfalso; omega) | (intro hc; (first | rw [wrap_small (by omega) (by omega)] at hc | rw [nI_eq] at hc | skip); try (conv => cbv)) | refine CallG.old ?_
  have ht : l.take k = l := List.take_of_length_le (by omega)
  rw [ht] at hok hnd
  exact yes hok hnd
end Go.Ab

/-
  Compressing, part m: the reference's lookups.
-/
namespace Go.Ab
open Go.Proofs
def bet : Option Rt → Rt → Bool
 | none, _ => true
 | some b, r => decide (b.p.len < r.p.len)
def stepF (x : Int) (o : Option Rt) (r : Rt) : Option Rt := if contP r.p x && bet o r then some r else o
def findR (l : List Rt) (x : Int) : Option Rt := l.foldl (stepF x) none
def valO : Option Rt → Int
 | none => 0
 | some r => r.val
def lookR (l : List Rt) (x : Int) : Int := valO (findR l x)
def encO : Option Rt → Int × Int × Int × Bool
 | none => (0, 0, 0, false)
 | some r => (r.p.addr, r.p.len, r.val, true)
theorem findR_succ {l : List Rt} {k : Nat} {r : Rt} (x : Int) (h : l[k]? = some r) : findR (l.take (k + 1)) x = stepF x (findR (l.take k) x) r := by
 rw [findR, take_succ_get h, List.foldl_append]; rfl
theorem stepF_y {x : Int} {o : Option Rt} {r : Rt} (h : contP r.p x = true) (h2 : bet o r = true) : stepF x o r = some r := by rw [stepF, h, h2]; rfl
theorem stepF_n {x : Int} {o : Option Rt} {r : Rt} (h : contP r.p x = false) : stepF x o r = o := by rw [stepF, h]; rfl
theorem stepF_m {x : Int} {o : Option Rt} {r : Rt} (h2 : bet o r = false) : stepF x o r = o := by rw [stepF, h2, Bool.and_false]; rfl
set_option maxHeartbeats 4000000 in
theorem look05_ok (P : Program) (hP : P = Try.prog) (l : List Rt) (x : Int) (hu : ∀ r ∈ l, inU r.p.addr) (hx : inU x) :
  Ret P n_ref05_Table_Lookup [rtsA l, .c (.d (u32D x))] (.tup [.agg [.d (u32D (encO (findR l x)).1), .d (iD (encO (findR l x)).2.1), .d (iD (encO (findR l x)).2.2.1)], bA (encO (findR l x)).2.2.2]) := by
 have hct := fun p h => rcont_ok P hP p x h hx
 refine ret_start (hP ▸ mixed) (hP ▸ fn_ref05_Table_Lookup) (hP ▸ c_ref05_Table_Lookup) (Nat.le_of_ble_eq_true rfl) fun Λ Λo K hK => ?_
 clear hP
 have fin : ∀ a b c f, (a, b, c, f) = encO (findR l x) → K (.tup [.agg [.d (u32D a), .d (iD b), .d (iD c)], bA f]) := by
  intro a b c f e; rw [← e] at hK; exact hK
 clear hK
 simp only [rtsA, rtsD] at *
 generalize rlh : l.map encRt = rl at *
 have rln : Λ rl = l.length := by rw [Λo, ← rlh]; simp
 have hsu := fun k r => @findR_succ l k r x
 obtain ⟨F, hF⟩ : ∃ F : List Rt → Option Rt, F = fun l => findR l x := ⟨_, rfl⟩
 have hF0 : F (l.take 0) = none := by rw [hF]; rfl
 have hFl : F l = findR l x := by rw [hF]
 have hFs : ∀ k r, l[k]? = some r → F (l.take (k + 1)) = stepF x (F (l.take k)) r := fun k r h => by rw [hF]; exact hsu k r h
 rw [← hFl] at fin
 clear hsu hF hFl
 generalize hcp : (fun p => contP p x) = cp at *
 have hcp2 : ∀ p, contP p x = cp p := fun p => by rw [← hcp]
 conv => cbv
 repeat' first | exact gu | exact trivial | refine And.intro ?_ ?_ | (intro hc; exact absurd hc (by decide)) | (intro hc; exfalso; omega) | (intro hc; (first | rw [wrap_small (by omega) (by omega)] at hc | rw [nI_eq] at hc | skip); try (conv => cbv)) | refine CallG.old ?_
 refine loop_up l.length (fun (s : Int × Int × Int × Int × Bool) => [(0, .c (.d (.list false 3 rl))), (1, .c (.d (.int .u32 x))), (4, .c (.ptr 0 0 0 0)), (6, .c (.ptr 1 0 0 0)), (7, bA s.2.2.2.2), (8, iA s.1)]) (fun s => [.bx [.d (u32D 0), .d (iD 0), .d (iD 0)], .bx [.d (u32D s.2.1), .d (iD s.2.2.1), .d (iD s.2.2.2.1)]])
  (fun k s => s.1 = k ∧ k ≤ l.length ∧ s.2 = encO (F (l.take k))) (0, 0, 0, 0, false) (Wk.cw) ⟨rfl, by omega, by rw [hF0]; rfl⟩ (fun k s h => h.2.1) ?_
 rintro k ⟨i, a, b, c, f⟩ Q' ⟨hi, hk, ho⟩ norm ex rt
 simp only at hi ho
 by_cases hlt : k < l.length
 ·obtain ⟨r, hr⟩ : ∃ r, l[k]? = some r := ⟨_, List.getElem?_eq_getElem hlt⟩
  have hra := elt_at rlh hi hr
  have hrm := List.mem_of_getElem? hr
  have hvx := hct r.p (hu r hrm)
  have hs := hFs k r hr
  rw [hcp2] at hvx
  have hsy := fun o => @stepF_y x o r
  have hsn := fun o => @stepF_n x o r
  have hsm := fun o => @stepF_m x o r
  rw [hcp2] at hsy hsn
  obtain ⟨⟨addr, len⟩, val⟩ := r
  simp only [encRt] at hra
  simp only [pfA] at hvx
  cases hFk : F (l.take k) with
  | none =>
   rw [hFk] at ho hs
   simp only [encO, Prod.mk.injEq] at ho
   obtain ⟨rfl, rfl, rfl, rfl⟩ := ho
   have hsy := fun h => hs.trans (hsy _ h rfl)
   have hsn := fun h => hs.trans (hsn _ h)
   clear hs
   conv => cbv
   repeat' first | (refine ex _ _ _ ?_; (conv => cbv)) | (refine rt _ _ ?_; (conv => cbv)) | (intro e he; cases Option.some.inj (he.symm.trans hra); (conv => cbv)) | refine call_b hvx rfl rfl ?_ ?_ | exact gu | exact trivial | refine And.intro ?_ ?_ | (intro hc; exact absurd hc (by decide)) | (intro hc; exfalso; omega) | (intro hc; (first | rw [wrap_small (by omega) (by omega)] at hc | rw [nI_eq] at hc | skip); try (conv => cbv)) | refine CallG.old ?_
   ·refine norm _ _ (_, _, _, _, _) ?_ (Wk.cw)
    exact ⟨by simp only; omega, by omega, by rw [hsy (by assumption)]; rfl⟩
   ·refine norm _ _ (_, _, _, _, _) ?_ (Wk.cw)
    exact ⟨by simp only; omega, by omega, by rw [hsn (by assumption)]; rfl⟩
  | some q =>
   rw [hFk] at ho hs
   obtain ⟨⟨qa, ql⟩, qv⟩ := q
   simp only [encO, Prod.mk.injEq] at ho
   obtain ⟨rfl, rfl, rfl, rfl⟩ := ho
   have hsy := fun h h2 => hs.trans (hsy _ h (decide_eq_true h2))
   have hsm := fun h2 => hs.trans (hsm _ (decide_eq_false h2))
   have hsn := fun h => hs.trans (hsn _ h)
   clear hs
   simp only at hsy hsm
   conv => cbv
   repeat' first | (refine ex _ _ _ ?_; (conv => cbv)) | (refine rt _ _ ?_; (conv => cbv)) | (intro e he; cases Option.some.inj (he.symm.trans hra); (conv => cbv)) | refine call_b hvx rfl rfl ?_ ?_ | exact gu | exact trivial | refine And.intro ?_ ?_ | (intro hc; exact absurd hc (by decide)) | (intro hc; exfalso; omega) | (intro hc; (first | rw [wrap_small (by omega) (by omega)] at hc | rw [nI_eq] at hc | skip); try (conv => cbv)) | refine CallG.old ?_
   ·refine norm _ _ (_, _, _, _, _) ?_ (Wk.cw)
    exact ⟨by simp only; omega, by omega, by rw [hsy (by assumption) (by omega)]; rfl⟩
   ·refine norm _ _ (_, _, _, _, _) ?_ (Wk.cw)
    exact ⟨by simp only; omega, by omega, by rw [hsm (by omega)]; rfl⟩
   ·refine norm _ _ (_, _, _, _, _) ?_ (Wk.cw)
    exact ⟨by simp only; omega, by omega, by rw [hsn (by assumption)]; rfl⟩
 ·conv => cbv
  repeat' first | (refine ex _ _ _ ?_; (conv => cbv)) | (refine rt _ _ ?_; (conv => cbv)) | exact gu | exact trivial | refine And.intro ?_ ?_ | (intro hc; exact absurd hc (by decide)) | (intro hc; exfalso; omega) | (intro hc; (first | rw [wrap_small (by omega) (by omega)] at hc | rw [nI_eq] at hc | skip); try (conv => cbv)) | refine CallG.old ?_
  have ht : l.take k = l := List.take_of_length_le (by omega)
  rw [ht] at ho
  exact fin _ _ _ _ ho
theorem look06_ok (P : Program) (hP : P = Try.prog) (l : List Rt) (x : Int) (hu : ∀ r ∈ l, inU r.p.addr) (hx : inU x) :
  Ret P n_ref06_Lookup [rtsA l, .c (.d (u32D x))] (iA (if validR l then lookR l x else 0)) := by
 have hva := rvalidR_ok P hP l hu
 have hlk := look05_ok P hP l x hu hx
 have hv : lookR l x = if (encO (findR l x)).2.2.2 then (encO (findR l x)).2.2.1 else 0 := by rw [lookR]; cases findR l x <;> rfl
 rw [hv]
 refine ret_start (hP ▸ mixed) (hP ▸ fn_ref06_Lookup) (hP ▸ c_ref06_Lookup) (Nat.le_of_ble_eq_true rfl) fun Λ Λo K hK => ?_
 clear hP hv
 generalize encO (findR l x) = z at *
 obtain ⟨a, b, c, f⟩ := z
 simp only [rtsA, rtsD] at *
 generalize l.map encRt = rl at *
 have no : validR l = false → K (iA 0) := fun h => by rw [h] at hK; exact hK
 have no2 : validR l = true → f = false → K (iA 0) := fun h h2 => by rw [h, h2] at hK; exact hK
 have yes : validR l = true → f = true → K (iA c) := fun h h2 => by rw [h, h2] at hK; exact hK
 clear hK
 generalize validR l = v at *
 cases f <;> conv => cbv
 all_goals repeat' first | refine call_b hva rfl rfl ?_ ?_ | (refine call_r hlk rfl rfl ?_; conv => cbv) | exact gu | exact trivial | refine And.intro ?_ ?_ | (intro hc; exact absurd hc (by decide)) | (intro hc; exfalso; omega) | (intro hc; (first | rw [wrap_small (by omega) (by omega)] at hc | rw [nI_eq] at hc | skip); try (conv => cbv)) | refine CallG.old ?_
 all_goals first
  | exact no (by assumption)
  | exact no2 (by assumption) rfl
  | exact yes (by assumption) rfl
end Go.Ab

/-
  Compressing, part r: the plain law: values, costs.
-/
namespace Go.Ab
open Go.Proofs
def inP (p : Pfx) (x : Int) : Prop := p.addr ≤ x ∧ x < p.addr + szP p.len
theorem cont_spec {p : Pfx} {x : Int} : contP p x = true ↔ validP p = true ∧ inP p x := by
 simp only [contP, inP, Bool.and_eq_true, decide_eq_true_eq]
theorem nest {p q : Pfx} {x : Int} (hp : contP p x = true) (hq : contP q x = true) (hl : p.len ≤ q.len) : p.addr ≤ q.addr ∧ q.addr + szP q.len ≤ p.addr + szP p.len := by
 obtain ⟨p1, p2, p3⟩ := cont_spec.1 hp
 obtain ⟨q1, q2, q3⟩ := cont_spec.1 hq
 have hpa := (valid_spec.1 p1).2.2
 have hqa := (valid_spec.1 q1).2.2
 have hs : (0 : Int) < szP q.len := by have := szP_pos q.len; omega
 obtain ⟨c, hc⟩ : (szP q.len : Int) ∣ szP p.len := Int.natCast_dvd_natCast.2 (szP_dvd hl)
 obtain ⟨a, ha⟩ := Int.dvd_of_emod_eq_zero hpa
 obtain ⟨b, hb⟩ := Int.dvd_of_emod_eq_zero hqa
 rw [hc, Int.mul_assoc] at ha
 generalize hS : (szP q.len : Int) = s at *
 rw [hc] at p3 ⊢
 rw [ha] at p2 p3 ⊢
 rw [hb] at q2 q3 ⊢
 have h1 : c * a < b + 1 := Int.lt_of_mul_lt_mul_left (a := s) (by rw [Int.mul_add]; omega) (by omega)
 have h2 : b < c * a + c := Int.lt_of_mul_lt_mul_left (a := s) (by rw [Int.mul_add]; omega) (by omega)
 have h3 := Int.mul_le_mul_of_nonneg_left (show c * a ≤ b by omega) (show 0 ≤ s by omega)
 have h4 := Int.mul_le_mul_of_nonneg_left (show b + 1 ≤ c * a + c by omega) (show 0 ≤ s by omega)
 rw [Int.mul_add, Int.mul_add, Int.mul_one] at h4
 exact ⟨h3, h4⟩
theorem same_len {p q : Pfx} {x : Int} (hp : contP p x = true) (hq : contP q x = true) (h : p.len = q.len) : p = q := by
 have h1 := nest hp hq (by omega)
 have h2 := nest hq hp (by omega)
 exact Pfx.ext' (by omega) h
theorem cont_lt {p q : Pfx} {x : Int} (hp : contP p x = true) (hq : contP q x = true) (h : ltP p q) : p.len < q.len := by
 apply Classical.byContradiction
 intro hn
 have := nest hq hp (by omega)
 unfold ltP at h
 omega
/-! the value of an address -/
def stepE (x : Int) (a : Int) (r : Rt) : Int := if contP r.p x then r.val else a
def evE (v : Int) (l : List Rt) (x : Int) : Int := l.foldl (stepE x) v
def valD (v : Int) : Option Rt → Int
 | none => v
 | some r => r.val
theorem valO_D (o : Option Rt) : valO o = valD 0 o := by cases o <;> rfl
theorem find_ev {x v : Int} : ∀ {s : List Rt} {o : Option Rt}, SrtR s → (∀ b, o = some b → contP b.p x = true ∧ ∀ r ∈ s, ltP b.p r.p) → valD v (s.foldl (stepF x) o) = s.foldl (stepE x) (valD v o)
 | [], _, _, _ => rfl
 |r :: s, o, hs, ho => by
  obtain ⟨h1, h2⟩ := List.pairwise_cons.1 hs
  rw [List.foldl_cons, List.foldl_cons]
  cases hc : contP r.p x with
  | false =>
   rw [stepF_n hc, show stepE x (valD v o) r = valD v o by rw [stepE, hc]; rfl]
   exact find_ev h2 fun b hb => ⟨(ho b hb).1, fun q hq => (ho b hb).2 q (List.mem_cons_of_mem _ hq)⟩
  | true =>
   have hb : bet o r = true := by
    cases o with
    | none => rfl
    | some b => exact decide_eq_true (cont_lt (ho b rfl).1 hc ((ho b rfl).2 r (by simp)))
   rw [stepF_y hc hb, show stepE x (valD v o) r = valD v (some r) by rw [stepE, hc]; rfl]
   exact find_ev h2 fun b hb => by cases hb; exact ⟨hc, h1⟩
def IsB (l : List Rt) (x : Int) : Option Rt → Prop
 | none => ∀ s ∈ l, contP s.p x = false
 | some r => r ∈ l ∧ contP r.p x = true ∧ ∀ s ∈ l, contP s.p x = true → s.p.len ≤ r.p.len
theorem isB_fold {x : Int} : ∀ (l m : List Rt) (o : Option Rt), IsB m x o → IsB (m ++ l) x (l.foldl (stepF x) o)
 | [], m, o, h => by rw [List.append_nil]; exact h
 |r :: l, m, o, h => by
  rw [List.foldl_cons, show m ++ r :: l = (m ++ [r]) ++ l by simp]
  refine isB_fold l (m ++ [r]) _ ?_
  have hmem : ∀ s ∈ m ++ [r], s ∈ m ∨ s = r := fun s hs => by simpa using hs
  cases hc : contP r.p x with
  | false =>
   rw [stepF_n hc]
   cases o with
   | none =>
    intro s hs
    rcases hmem s hs with h1 | rfl
    ·exact h s h1
    ·exact hc
   | some b =>
    refine ⟨by simp [h.1], h.2.1, fun s hs hx => ?_⟩
    rcases hmem s hs with h1 | rfl
    ·exact h.2.2 s h1 hx
    ·rw [hc] at hx; cases hx
  | true =>
   cases hb : bet o r with
   | true =>
    rw [stepF_y hc hb]
    refine ⟨by simp, hc, fun s hs hx => ?_⟩
    rcases hmem s hs with h1 | rfl
    ·cases o with
     | none => rw [h s h1] at hx; cases hx
     | some b => have := h.2.2 s h1 hx; have := of_decide_eq_true hb; omega
    ·exact Int.le_refl _
   | false =>
    rw [stepF_m hb]
    cases o with
    | none => cases hb
    | some b =>
     refine ⟨by simp [h.1], h.2.1, fun s hs hx => ?_⟩
     rcases hmem s hs with h1 | rfl
     ·exact h.2.2 s h1 hx
     ·have := of_decide_eq_false hb; omega
theorem isB_find (l : List Rt) (x : Int) : IsB l x (findR l x) := by
 have := isB_fold l [] none (x := x) (by intro s hs; cases hs)
 simpa [findR] using this
theorem nodup_inj {l : List Rt} (h : (l.map (·.p)).Nodup) : ∀ r ∈ l, ∀ s ∈ l, r.p = s.p → r = s := by
 induction l with
 | nil => intro r hr; cases hr
 | cons a l ih =>
  rw [List.map_cons, List.nodup_cons] at h
  intro r hr s hs e
  rcases List.mem_cons.1 hr with rfl | hr1
  ·rcases List.mem_cons.1 hs with rfl | hs1
   ·rfl
   ·exact absurd (List.mem_map.2 ⟨s, hs1, e.symm⟩) h.1
  ·rcases List.mem_cons.1 hs with rfl | hs1
   ·exact absurd (List.mem_map.2 ⟨r, hr1, e⟩) h.1
   ·exact ih h.2 r hr1 s hs1 e
theorem isB_uniq {a b : List Rt} {x : Int} (hp : ∀ r, r ∈ a ↔ r ∈ b) (hn : (a.map (·.p)).Nodup) {o o' : Option Rt} (h1 : IsB a x o) (h2 : IsB b x o') : o = o' := by
 cases o with
 | none =>
  cases o' with
  | none => rfl
  | some r => have := h1 r ((hp r).2 h2.1); rw [h2.2.1] at this; cases this
 | some q =>
  cases o' with
  | none => have := h2 q ((hp q).1 h1.1); rw [h1.2.1] at this; cases this
  | some r =>
   have e1 := h1.2.2 r ((hp r).2 h2.1) h2.2.1
   have e2 := h2.2.2 q ((hp q).1 h1.1) h1.2.1
   rw [nodup_inj hn q h1.1 r ((hp r).2 h2.1) (same_len h1.2.1 h2.2.1 (by omega))]
theorem look_perm {a b : List Rt} (hp : a.Perm b) (hn : (a.map (·.p)).Nodup) (x : Int) : lookR a x = lookR b x := by
 rw [lookR, lookR, isB_uniq (fun r => hp.mem_iff) hn (isB_find a x) (isB_find b x)]
theorem look_srt {s : List Rt} (h : SrtR s) (x : Int) : lookR s x = evE 0 s x := by
 rw [lookR, valO_D, findR, find_ev h (fun b hb => by cases hb)]; rfl
theorem look_sort {l : List Rt} (hn : (l.map (·.p)).Nodup) (x : Int) : lookR l x = evE 0 (sortR l) x := by
 rw [look_perm (sortR_perm l).symm hn, look_srt (sortR_srt hn)]
/-! costs -/
def hit (a b : List Int) : Int := if a.any (fun v => decide (v ∈ b)) then 0 else 1
def ind (u : Int) (a : List Int) : Int := if u ∈ a then 0 else 1
theorem hit_spec {a b : List Int} : ((∃ v, v ∈ a ∧ v ∈ b) ∧ hit a b = 0) ∨ (¬ (∃ v, v ∈ a ∧ v ∈ b) ∧ hit a b = 1) := by
 rw [hit]
 by_cases h : ∃ v, v ∈ a ∧ v ∈ b
 ·refine .inl ⟨h, if_pos ?_⟩
  obtain ⟨v, h1, h2⟩ := h
  exact List.any_eq_true.2 ⟨v, h1, decide_eq_true h2⟩
 ·refine .inr ⟨h, if_neg fun h2 => h ?_⟩
  obtain ⟨v, h1, h3⟩ := List.any_eq_true.1 h2
  exact ⟨v, h1, of_decide_eq_true h3⟩
theorem ind_spec (u : Int) (a : List Int) : (u ∈ a ∧ ind u a = 0) ∨ (u ∉ a ∧ ind u a = 1) := by
 rw [ind]
 by_cases h : u ∈ a
 ·exact .inl ⟨h, if_pos h⟩
 ·exact .inr ⟨h, if_neg h⟩
theorem comb_ind {a b : List Int} (ha : a.Pairwise (· < ·)) (u : Int) : (u ∈ combineS a b → ind u a + ind u b = hit a b) ∧ min (ind u a + ind u b) (hit a b + 1) = hit a b + ind u (combineS a b) := by
 have hm := combine_mem ha (b := b) (z := u)
 rcases @hit_spec a b with ⟨h1, h2⟩ | ⟨h1, h2⟩
 ·rw [if_pos h1] at hm
  rcases ind_spec u a with ⟨p1, p2⟩ | ⟨p1, p2⟩ <;> rcases ind_spec u b with ⟨q1, q2⟩ | ⟨q1, q2⟩ <;> rcases ind_spec u (combineS a b) with ⟨r1, r2⟩ | ⟨r1, r2⟩ <;> simp_all <;> omega
 ·rw [if_neg h1] at hm
  have hx : ¬ (u ∈ a ∧ u ∈ b) := fun h => h1 ⟨u, h⟩
  rcases ind_spec u a with ⟨p1, p2⟩ | ⟨p1, p2⟩ <;> rcases ind_spec u b with ⟨q1, q2⟩ | ⟨q1, q2⟩ <;> rcases ind_spec u (combineS a b) with ⟨r1, r2⟩ | ⟨r1, r2⟩ <;> simp_all <;> omega
theorem in_lo {p : Pfx} {x : Int} (h0 : 0 ≤ p.len) (h1 : p.len < 32) (h : inP (loP p) x) : inP p x ∧ x < (hiP p).addr := by
 have := szP_split h0 h1
 obtain ⟨h2, h3⟩ := h
 simp only [loP, hiP, inP] at *
 omega
theorem in_hi {p : Pfx} {x : Int} (h0 : 0 ≤ p.len) (h1 : p.len < 32) (h : inP (hiP p) x) : inP p x ∧ (hiP p).addr ≤ x := by
 have := szP_split h0 h1
 obtain ⟨h2, h3⟩ := h
 simp only [hiP, inP] at *
 omega
theorem in_split {p : Pfx} {x : Int} (h0 : 0 ≤ p.len) (h1 : p.len < 32) (h : inP p x) : (x < (hiP p).addr → inP (loP p) x) ∧ ((hiP p).addr ≤ x → inP (hiP p) x) := by
 have := szP_split h0 h1
 obtain ⟨h2, h3⟩ := h
 simp only [loP, hiP, inP] at *
 omega
/-! the reference's costs -/
end Go.Ab

/-
  Compressing, part s: the plain law: the table that is chosen.
-/
namespace Go.Ab
open Go.Proofs
/-! the tree -/
def mT : Prt → Int
 | .leaf _ _ => 0
 | .node _ a b => mT a + mT b + hit a.best b.best
theorem evE_out {v x : Int} {l : List Rt} (h : ∀ r ∈ l, contP r.p x = false) : evE v l x = v := by
 induction l with
 | nil => rfl
 | cons r l ih =>
  rw [evE, List.foldl_cons, show stepE x v r = v by rw [stepE, h r (by simp)]; rfl]
  exact ih fun s hs => h s (by simp [hs])
theorem evE_app (v x : Int) (a b : List Rt) : evE v (a ++ b) x = evE (evE v a x) b x := by rw [evE, List.foldl_append]; rfl
theorem cov_cont {p q : Pfx} {x : Int} (h : covP p q = true) (hx : contP q x = true) : inP p x := by
 obtain ⟨h1, h2, h3, h4⟩ := cov_spec.1 h
 have hs := szP_pos q.len
 have pa : contP p q.addr = true := cont_spec.2 ⟨h2, h3⟩
 have qa : contP q q.addr = true := cont_spec.2 ⟨h1, Int.le_refl _, by omega⟩
 have := nest pa qa h4
 obtain ⟨_, h5, h6⟩ := cont_spec.1 hx
 exact ⟨by omega, by omega⟩
theorem ev_head {p : Pfx} {v x : Int} {s : List Rt} (hv : validP p = true) (hx : inP p x) : evE v s x = evE (headV p v s) (dropH p s) x := by
 cases s with
 | nil => rfl
 | cons r s =>
  rw [headV, dropH]
  by_cases h : r.p = p
  ·rw [if_pos h, if_pos h, evE, List.foldl_cons, show stepE x v r = r.val by rw [stepE, h, cont_spec.2 ⟨hv, hx⟩]; rfl]; rfl
  ·rw [if_neg h, if_neg h]
theorem ev_halves {p : Pfx} {v x : Int} {s : List Rt} (hp : PreD p s) (h32 : p.len ≠ 32) :
  (inP (loP p) x → evE v s x = evE (headV p v s) ((dropH p s).take (cntP (loP p) (dropH p s))) x) ∧ (inP (hiP p) x → evE v s x = evE (headV p v s) ((dropH p s).drop (cntP (loP p) (dropH p s))) x) := by
 have h0 := valid_spec.1 hp.v
 have hl := pre_lo hp h32
 have hh := pre_hi hp h32
 have hsp : dropH p s = (dropH p s).take (cntP (loP p) (dropH p s)) ++ (dropH p s).drop (cntP (loP p) (dropH p s)) := (List.take_append_drop _ _).symm
 constructor
 ·intro hx
  obtain ⟨h1, h2⟩ := in_lo h0.1 (by omega) hx
  rw [ev_head hp.v h1, hsp, evE_app, ← hsp]
  refine evE_out fun r hr => Bool.eq_false_iff.2 fun hc => ?_
  have := (in_hi h0.1 (by omega) (cov_cont (hh.all r hr).2 hc)).2
  omega
 ·intro hx
  obtain ⟨h1, h2⟩ := in_hi h0.1 (by omega) hx
  rw [ev_head hp.v h1, hsp, evE_app, ← hsp]
  congr 1
  refine evE_out fun r hr => Bool.eq_false_iff.2 fun hc => ?_
  have := (in_lo h0.1 (by omega) (cov_cont (hl.all r hr).2 hc)).2
  omega
theorem drop_32 {p : Pfx} {s : List Rt} (hp : PreD p s) (h32 : p.len = 32) : dropH p s = [] := by
 cases h : dropH p s with
 | nil => rfl
 | cons r t =>
  have hr : r ∈ dropH p s := by rw [h]; simp
  exact absurd (cov_full (hp.all r (drop_sub r hr)).2 h32) (drop_ne hp r hr)
/-! what is chosen -/
theorem choose_node (p : Pfx) (a b : Prt) (v : Int) : ∃ z, z ∈ combineS a.best b.best ∧ (v ∈ combineS a.best b.best → z = v) ∧
  chooseS (.node p a b) v = (if v ∈ combineS a.best b.best then [] else [⟨p, z⟩]) ++ (chooseS a z ++ chooseS b z) := by
 have hne : combineS a.best b.best ≠ [] := best_ne (.node p a b)
 rw [chooseS]
 by_cases h : v ∈ combineS a.best b.best
 ·exact ⟨v, h, fun _ => rfl, by rw [if_pos h, if_pos h, if_pos h]⟩
 ·exact ⟨minL (combineS a.best b.best), (minL_spec hne).1, fun h2 => absurd h2 h, by simp only [if_neg h]⟩
theorem choose_leaf (p : Pfx) (w v : Int) : chooseS (.leaf p w) v = if v = w then [] else [⟨p, w⟩] := by
 rw [chooseS]
 have : minL [w] = w := by have := (minL_spec (l := [w]) (by simp)).1; simpa using this
 rw [this]
 simp
theorem choose_cost : ∀ (t : Prt) (v : Int), ((chooseS t v).length : Int) = mT t + ind v t.best
 |.leaf p w, v => by
  rw [choose_leaf, mT, Prt.best, ind]
  simp only [List.mem_singleton]
  split <;> simp
 |.node p a b, v => by
  obtain ⟨z, hz, hv, e⟩ := choose_node p a b v
  have h1 := choose_cost a z
  have h2 := choose_cost b z
  have h3 := (comb_ind (best_inc a) (b := b.best) z).1 hz
  rw [e, mT, Prt.best, ind, List.length_append, List.length_append]
  split <;> simp only [List.length_nil, List.length_singleton] <;> omega
def WfT : Prt → Prop
 | .leaf p w => validP p = true ∧ inU p.addr ∧ 0 ≤ w
 | .node p a b => validP p = true ∧ inU p.addr ∧ p.len ≠ 32 ∧ a.pf = loP p ∧ b.pf = hiP p ∧ WfT a ∧ WfT b
theorem div_wf : ∀ (k : Nat) (p : Pfx) (v : Int) (s : List Rt), k ≤ 32 → PreD p s → p.len = 32 - k → 0 ≤ v → (∀ r ∈ s, 0 ≤ r.val) → WfT (divS k p v s) ∧ (divS k p v s).pf = p := by
 have hh : ∀ (p : Pfx) (v : Int) (s : List Rt), 0 ≤ v → (∀ r ∈ s, 0 ≤ r.val) → 0 ≤ headV p v s := by
  intro p v s h1 h2
  cases s with
  | nil => exact h1
  | cons r s =>
   rw [headV]
   split
   ·exact h2 r (by simp)
   ·exact h1
 intro k
 induction k with
 | zero => intro p v s _ hp hl h0 hv; exact ⟨⟨hp.v, hp.u, hh p v s h0 hv⟩, rfl⟩
 | succ k ih =>
  intro p v s hk hp hl h0 hv
  rw [divS]
  split
  ·exact ⟨⟨hp.v, hp.u, hh p v s h0 hv⟩, rfl⟩
  ·have h32 : p.len ≠ 32 := by omega
   obtain ⟨a1, a2⟩ := ih (loP p) (headV p v s) _ (by omega) (pre_lo hp h32) (by simp only [loP]; omega) (hh p v s h0 hv) fun r hr => hv r (drop_sub r (List.mem_of_mem_take hr))
   obtain ⟨b1, b2⟩ := ih (hiP p) (headV p v s) _ (by omega) (pre_hi hp h32) (by simp only [hiP]; omega) (hh p v s h0 hv) fun r hr => hv r (drop_sub r (List.mem_of_mem_drop hr))
   exact ⟨⟨hp.v, hp.u, h32, a2, b2, a1, b1⟩, rfl⟩
theorem best_nn : ∀ {t : Prt}, WfT t → ∀ x ∈ t.best, 0 ≤ x
 | .leaf _ w, h, x, hx => by rw [Prt.best, List.mem_singleton] at hx; rw [hx]; exact h.2.2
 |.node _ a b, h, x, hx => by
  rcases combine_sub (best_inc a) hx with h1 | h1
  ·exact best_nn h.2.2.2.2.2.1 x h1
  ·exact best_nn h.2.2.2.2.2.2 x h1
theorem cov_trans {p q r : Pfx} (h1 : covP p q = true) (h2 : covP q r = true) : covP p r = true := by
 obtain ⟨a1, a2, a3, a4⟩ := cov_spec.1 h1
 obtain ⟨b1, b2, b3, b4⟩ := cov_spec.1 h2
 have hs := szP_pos r.len
 have := cov_cont h1 (cont_spec.2 ⟨b2, b3⟩)
 exact cov_spec.2 ⟨b1, a2, this, by omega⟩
theorem cov_self {p : Pfx} (h : validP p = true) : covP p p = true := cov_spec.2 ⟨h, h, ⟨Int.le_refl _, by have := szP_pos p.len; omega⟩, Int.le_refl _⟩
theorem cov_lo {p : Pfx} (h : validP p = true) (h32 : p.len ≠ 32) : covP p (loP p) = true := by
 have := szP_pos p.len
 exact cov_spec.2 ⟨lo_valid h h32, h, by simp only [loP]; omega, by simp only [loP]; omega⟩
theorem cov_hi {p : Pfx} (h : validP p = true) (h32 : p.len ≠ 32) : covP p (hiP p) = true := by
 have h0 := valid_spec.1 h
 have := szP_split h0.1 (by omega)
 have := szP_pos (p.len + 1)
 exact cov_spec.2 ⟨hi_valid h h32, h, by simp only [hiP]; omega, by simp only [hiP]; omega⟩
theorem choose_cov : ∀ {t : Prt} {v : Int}, WfT t → ∀ r ∈ chooseS t v, covP t.pf r.p = true ∧ inU r.p.addr ∧ 0 ≤ r.val
 |.leaf p w, v, h, r, hr => by
  rw [choose_leaf] at hr
  split at hr
  ·cases hr
  ·rw [List.mem_singleton] at hr
   subst hr
   exact ⟨cov_self h.1, h.2.1, h.2.2⟩
 |.node p a b, v, h, r, hr => by
  obtain ⟨z, hz, hv, e⟩ := choose_node p a b v
  have h' := h
  obtain ⟨h1, h2, h3, h4, h5, h6, h7⟩ := h
  rw [e, List.mem_append, List.mem_append] at hr
  rcases hr with hr | hr | hr
  ·split at hr
   ·cases hr
   ·rw [List.mem_singleton] at hr
    subst hr
    exact ⟨cov_self h1, h2, best_nn h' z hz⟩
  ·obtain ⟨q1, q2⟩ := choose_cov h6 r hr
   rw [h4] at q1
   exact ⟨cov_trans (cov_lo h1 h3) q1, q2⟩
  ·obtain ⟨q1, q2⟩ := choose_cov h7 r hr
   rw [h5] at q1
   exact ⟨cov_trans (cov_hi h1 h3) q1, q2⟩
theorem cov_lt {p q : Pfx} (h : covP p q = true) (hne : q ≠ p) : ltP p q := by
 obtain ⟨h1, h2, h3, h4⟩ := cov_spec.1 h
 unfold ltP
 by_cases e : p.addr = q.addr
 ·refine .inr ⟨e, ?_⟩
  have : p.len ≠ q.len := fun e2 => hne (Pfx.ext' e.symm e2.symm)
  omega
 ·left; omega
theorem choose_srt : ∀ {t : Prt} {v : Int}, WfT t → SrtR (chooseS t v)
 |.leaf p w, v, h => by
  rw [choose_leaf]
  split
  ·exact List.Pairwise.nil
  ·exact List.pairwise_singleton _ _
 |.node p a b, v, h => by
  obtain ⟨z, hz, hv, e⟩ := choose_node p a b v
  obtain ⟨h1, h2, h3, h4, h5, h6, h7⟩ := h
  have h0 := valid_spec.1 h1
  have hs := szP_split h0.1 (by omega)
  have hs1 := szP_pos (p.len + 1)
  have ca := fun r hr => (choose_cov (v := z) h6 r hr).1
  have cb := fun r hr => (choose_cov (v := z) h7 r hr).1
  rw [h4] at ca
  rw [h5] at cb
  have hab : SrtR (chooseS a z ++ chooseS b z) := by
   refine List.pairwise_append.2 ⟨choose_srt h6, choose_srt h7, fun r hr q hq => ?_⟩
   obtain ⟨_, _, r3, _⟩ := cov_spec.1 (ca r hr)
   obtain ⟨_, _, q3, _⟩ := cov_spec.1 (cb q hq)
   simp only [loP, hiP] at r3 q3
   unfold ltP
   left; omega
  rw [e]
  split
  ·exact hab
  ·show SrtR (⟨p, z⟩ :: (chooseS a z ++ chooseS b z))
   refine List.pairwise_cons.2 ⟨fun r hr => ?_, hab⟩
   simp only
   rcases List.mem_append.1 hr with hr | hr
   ·refine cov_lt (cov_trans (cov_lo h1 h3) (ca r hr)) fun e2 => ?_
    obtain ⟨_, _, _, r4⟩ := cov_spec.1 (ca r hr)
    rw [e2] at r4
    simp only [loP] at r4
    omega
   ·refine cov_lt (cov_trans (cov_hi h1 h3) (cb r hr)) fun e2 => ?_
    obtain ⟨_, _, _, r4⟩ := cov_spec.1 (cb r hr)
    rw [e2] at r4
    simp only [hiP] at r4
    omega
def evT : Prt → Int → Int
 | .leaf _ w, _ => w
 | .node p a b, x => if x < (hiP p).addr then evT a x else evT b x
theorem div_ev : ∀ (k : Nat) (p : Pfx) (v : Int) (s : List Rt) (x : Int), k ≤ 32 → PreD p s → p.len = 32 - k → inP p x → evT (divS k p v s) x = evE v s x := by
 have base : ∀ (p : Pfx) (v : Int) (s : List Rt) (x : Int), PreD p s → inP p x → dropH p s = [] → headV p v s = evE v s x := by
  intro p v s x hp hx hd
  rw [ev_head hp.v hx, hd]
  rfl
 intro k
 induction k with
 | zero => intro p v s x _ hp hl hx; exact base p v s x hp hx (drop_32 hp (by omega))
 | succ k ih =>
  intro p v s x hk hp hl hx
  rw [divS]
  split
  ·rename_i hd; exact base p v s x hp hx hd
  ·have h32 : p.len ≠ 32 := by omega
   have h0 := valid_spec.1 hp.v
   obtain ⟨s1, s2⟩ := in_split h0.1 (by omega) hx
   rw [evT]
   split
   ·rw [ih _ _ _ x (by omega) (pre_lo hp h32) (by simp only [loP]; omega) (s1 (by assumption))]; exact ((ev_halves hp h32).1 (s1 (by assumption))).symm
   ·rw [ih _ _ _ x (by omega) (pre_hi hp h32) (by simp only [hiP]; omega) (s2 (by omega))]; exact ((ev_halves hp h32).2 (s2 (by omega))).symm
theorem choose_ev : ∀ {t : Prt} {v x : Int}, WfT t → inP t.pf x → evE v (chooseS t v) x = evT t x
 |.leaf p w, v, x, h, hx => by
  rw [choose_leaf, evT]
  split
  ·assumption
  ·rw [evE, List.foldl_cons, List.foldl_nil, stepE, cont_spec.2 ⟨h.1, hx⟩]; rfl
 |.node p a b, v, x, h, hx => by
  obtain ⟨z, hz, hv, e⟩ := choose_node p a b v
  obtain ⟨h1, h2, h3, h4, h5, h6, h7⟩ := h
  have h0 := valid_spec.1 h1
  have hx : inP p x := hx
  obtain ⟨s1, s2⟩ := in_split h0.1 (by omega) hx
  have ca := fun r hr => (choose_cov (v := z) h6 r hr).1
  have cb := fun r hr => (choose_cov (v := z) h7 r hr).1
  rw [h4] at ca
  rw [h5] at cb
  have e1 : evE v (if v ∈ combineS a.best b.best then [] else [⟨p, z⟩]) x = z := by
   split
   ·rename_i hh; exact (hv hh).symm
   ·rw [evE, List.foldl_cons, List.foldl_nil, stepE, cont_spec.2 ⟨h1, hx⟩]; rfl
  rw [e, evE_app, evE_app, e1, evT]
  split
  ·rename_i hlt
   rw [choose_ev h6 (by rw [h4]; exact s1 hlt)]
   refine evE_out fun r hr => Bool.eq_false_iff.2 fun hc => ?_
   have := (in_hi h0.1 (by omega) (cov_cont (cb r hr) hc)).2
   omega
  ·rename_i hlt
   rw [evE_out (l := chooseS a z) fun r hr => Bool.eq_false_iff.2 fun hc => ?_]
   ·exact choose_ev h7 (by rw [h5]; exact s2 (by omega))
   ·have := (in_lo h0.1 (by omega) (cov_cont (ca r hr) hc)).2
    omega
/-! the table of a list -/
theorem in_root {x : Int} : inP root x ↔ inU x := by
 have e : szP root.len = 4294967296 := rfl
 unfold inP inU
 rw [e]
 simp only [root]
 omega
theorem val_nn {l : List Rt} (hv : validR l = true) : ∀ r ∈ sortR l, 0 ≤ r.val := fun r hr => ((validR_spec.1 hv).1 r ((sortR_perm l).mem_iff.1 hr)).2
theorem tbl_wf {l : List Rt} (hu : InR l) (hv : validR l = true) : WfT (divS 32 root 0 (sortR l)) := (div_wf 32 root 0 (sortR l) (by omega) (pre_root hu hv) rfl (Int.le_refl _) (val_nn hv)).1
theorem tbl_pf {l : List Rt} (hu : InR l) (hv : validR l = true) : (divS 32 root 0 (sortR l)).pf = root := (div_wf 32 root 0 (sortR l) (by omega) (pre_root hu hv) rfl (Int.le_refl _) (val_nn hv)).2
theorem tbl_srt {l : List Rt} (hu : InR l) (hv : validR l = true) : SrtR (tblS l) := choose_srt (tbl_wf hu hv)
theorem tbl_look {l : List Rt} (hu : InR l) (hv : validR l = true) {x : Int} (hx : inU x) : lookR (tblS l) x = lookR l x := by
 rw [look_srt (tbl_srt hu hv), look_sort (validR_spec.1 hv).2, tblS, choose_ev (tbl_wf hu hv) (by rw [tbl_pf hu hv]; exact in_root.2 hx), div_ev 32 root 0 (sortR l) x (by omega) (pre_root hu hv) rfl (in_root.2 hx)]
theorem srt_nodup {l : List Rt} (h : SrtR l) : (l.map (·.p)).Nodup := by
 rw [List.nodup_iff_pairwise_ne, List.pairwise_map]
 have hi : ∀ {a b : Rt}, ltP a.p b.p → a.p ≠ b.p := fun {a b} h1 e => by rw [e] at h1; exact ltP_irrefl _ h1
 exact List.Pairwise.imp hi h
theorem tbl_valid {l : List Rt} (hu : InR l) (hv : validR l = true) : validR (tblS l) = true := by
 refine validR_spec.2 ⟨fun r hr => ?_, srt_nodup (tbl_srt hu hv)⟩
 obtain ⟨h1, h2, h3⟩ := choose_cov (tbl_wf hu hv) r hr
 exact ⟨(cov_spec.1 h1).1, h3⟩
theorem best_val : ∀ {t : Prt}, rngT t → ∀ {v : Int}, ∀ r ∈ chooseS t v, -9223372036854775808 ≤ r.val ∧ r.val ≤ 9223372036854775807
 |.leaf p w, h, v, r, hr => by
  rw [choose_leaf] at hr
  split at hr
  ·cases hr
  ·rw [List.mem_singleton] at hr; subst hr; exact h
 |.node p a b, h, v, r, hr => by
  obtain ⟨z, hz, hv, e⟩ := choose_node p a b v
  rw [e, List.mem_append, List.mem_append] at hr
  rcases hr with hr | hr | hr
  ·split at hr
   ·cases hr
   ·rw [List.mem_singleton] at hr; subst hr; exact rngT_best (.node p a b) h z hz
  ·exact best_val h.1 r hr
  ·exact best_val h.2 r hr
theorem tbl_in {l : List Rt} (hu : InR l) (hv : validR l = true) : InR (tblS l) := fun r hr =>
 ⟨(choose_cov (tbl_wf hu hv) r hr).2.1, best_val (rng_div 32 root 0 (sortR l) (by omega) fun q hq => (hu q ((sortR_perm l).mem_iff.1 hq)).2) r hr⟩
/-! no table is smaller -/
theorem ind_nn (u : Int) (a : List Int) : 0 ≤ ind u a ∧ ind u a ≤ 1 := by rcases ind_spec u a with ⟨_, h⟩ | ⟨_, h⟩ <;> omega
theorem cost_le : ∀ (k : Nat) (p : Pfx) (v : Int) (s : List Rt), k ≤ 32 → PreD p s → p.len = 32 - k → mT (divS k p v s) + ind v (divS k p v s).best ≤ s.length := by
 have base : ∀ (p : Pfx) (v : Int) (s : List Rt), dropH p s = [] → mT (.leaf p (headV p v s)) + ind v (Prt.best (.leaf p (headV p v s))) ≤ s.length := by
  intro p v s hd
  rw [mT, Prt.best]
  have h1 := ind_nn v [headV p v s]
  cases s with
  | nil => simp [headV, ind]
  | cons r s => simp only [List.length_cons]; omega
 intro k
 induction k with
 | zero => intro p v s _ hp hl; rw [divS]; exact base p v s (drop_32 hp (by omega))
 | succ k ih =>
  intro p v s hk hp hl
  rw [divS]
  split
  ·rename_i hd; exact base p v s hd
  ·have h32 : p.len ≠ 32 := by omega
   have i1 := ih (loP p) (headV p v s) _ (by omega) (pre_lo hp h32) (by simp only [loP]; omega)
   have i2 := ih (hiP p) (headV p v s) _ (by omega) (pre_hi hp h32) (by simp only [hiP]; omega)
   have hlen : (((dropH p s).take (cntP (loP p) (dropH p s))).length : Int) + ((dropH p s).drop (cntP (loP p) (dropH p s))).length = (dropH p s).length := by
    rw [List.length_take, List.length_drop]; omega
   have hd : (headV p v s = v ∧ (dropH p s).length = s.length) ∨ (dropH p s).length + 1 = s.length := by
    cases s with
    | nil => exact .inl ⟨rfl, rfl⟩
    | cons r s =>
     rw [headV, dropH]
     split
     ·exact .inr rfl
     ·exact .inl ⟨rfl, rfl⟩
   generalize divS k (loP p) (headV p v s) ((dropH p s).take (cntP (loP p) (dropH p s))) = A at *
   generalize divS k (hiP p) (headV p v s) ((dropH p s).drop (cntP (loP p) (dropH p s))) = B at *
   have c1 := (comb_ind (best_inc A) (b := B.best) (headV p v s)).2
   have c2 := ind_nn (headV p v s) (combineS A.best B.best)
   have c3 := ind_nn v (combineS A.best B.best)
   rw [mT, Prt.best]
   rcases hd with ⟨e, h⟩ | h
   ·rw [e] at c1 c2 i1 i2; omega
   ·omega
theorem tbl_le {l : List Rt} (hu : InR l) (hv : validR l = true) : (tblS l).length ≤ l.length := by
 have h := cost_le 32 root 0 (sortR l) (by omega) (pre_root hu hv) rfl
 have e := choose_cost (divS 32 root 0 (sortR l)) 0
 have hl := (sortR_perm l).length_eq
 rw [tblS]
 omega
/-! equal tables -/
end Go.Ab

/-
  Compressing, part w: tries, in plain terms.
-/
namespace Go.Ab
open Go.Proofs
inductive Tri where
 | nil
 | node (p : Pfx) (v : Int) (h : Bool) (a b : Tri)
def bitA (x n : Int) : Int := x / szP (n + 1) % 2
structure ForkP (r n q : Pfx) : Prop where
 v : validP q = true
 u : inU q.addr
 ra : inP q r.addr
 na : inP q n.addr
 l : q.len < r.len ∧ q.len < n.len
 b : bitA r.addr q.len ≠ bitA n.addr q.len
def routesT : Tri → List Rt
 | .nil => []
 | .node p v h a b => (if h then [⟨p, v⟩] else []) ++ (routesT a ++ routesT b)
def undT (p : Pfx) : Tri → Prop
 | .nil => True
 | .node q _ _ _ _ => covP p q = true
def WfTr : Tri → Prop
 | .nil => True
 | .node p _ _ a b => validP p = true ∧ inU p.addr ∧ undT (loP p) a ∧ undT (hiP p) b ∧ WfTr a ∧ WfTr b
def lookT (x : Int) : Tri → Option Rt → Option Rt
 | .nil, o => o
 | .node p v h a b, o => if contP p x then (if p.len = 32 then (if h then some ⟨p, v⟩ else o) else if bitA x p.len = 0 then lookT x a (if h then some ⟨p, v⟩ else o) else lookT x b (if h then some ⟨p, v⟩ else o)) else o
theorem half_bit {p : Pfx} {x : Int} (hv : validP p = true) (h32 : p.len ≠ 32) (hx : inP p x) : (bitA x p.len = 0 ∧ inP (loP p) x) ∨ (bitA x p.len = 1 ∧ inP (hiP p) x) := by
 obtain ⟨h0, h1, h2⟩ := valid_spec.1 hv
 have hs := szP_split h0 (by omega)
 have hp := szP_pos (p.len + 1)
 obtain ⟨c, hc⟩ := Int.dvd_of_emod_eq_zero h2
 obtain ⟨x1, x2⟩ := hx
 simp only [inP, loP, hiP, bitA]
 rw [hs] at hc x2
 generalize hS : szP (p.len + 1) = s at *
 have e : ((2 * s : Nat) : Int) = 2 * s := by omega
 rw [e] at hc x2
 rw [Int.mul_assoc] at hc
 rw [Int.mul_left_comm] at hc
 have hpa : p.addr = s * (2 * c) := hc
 by_cases hlt : x < p.addr + s
 ·left
  have hd : x / s = 2 * c := by
   have := Int.ediv_emod_unique (a := x) (b := s) (r := x - p.addr) (q := 2 * c) (by omega)
   exact (this.2 ⟨by rw [hpa]; omega, by omega, by omega⟩).1
  rw [hd]
  exact ⟨by omega, by omega, by omega⟩
 ·right
  have hd : x / s = 2 * c + 1 := by
   have := Int.ediv_emod_unique (a := x) (b := s) (r := x - p.addr - s) (q := 2 * c + 1) (by omega)
   exact (this.2 ⟨by rw [hpa, Int.mul_add]; omega, by omega, by omega⟩).1
  rw [hd]
  exact ⟨by omega, by omega, by omega⟩
theorem cov_inv {p q : Pfx} (h : covP p q = true) : validP p = true ∧ validP q = true ∧ inP p q.addr ∧ p.len ≤ q.len := by
 obtain ⟨h1, h2, h3, h4⟩ := cov_spec.1 h
 exact ⟨h2, h1, h3, h4⟩
theorem len33 {p q : Pfx} (h32 : p.len = 32) : covP (loP p) q = false ∧ covP (hiP p) q = false := by
 constructor <;> refine Bool.eq_false_iff.2 fun h => ?_
 ·have := valid_spec.1 (cov_inv h).1
  simp only [loP] at this; omega
 ·have := valid_spec.1 (cov_inv h).1
  simp only [hiP] at this; omega
theorem und_len {p : Pfx} {t : Tri} (h32 : p.len = 32) : (undT (loP p) t → t = .nil) ∧ (undT (hiP p) t → t = .nil) := by
 cases t with
 | nil => exact ⟨fun _ => rfl, fun _ => rfl⟩
 | node q v h a b => exact ⟨fun hh => absurd (show covP (loP p) q = true from hh) (by rw [(len33 h32).1]; decide), fun hh => absurd (show covP (hiP p) q = true from hh) (by rw [(len33 h32).2]; decide)⟩
theorem und_up {p q : Pfx} {t : Tri} (h : covP p q = true) (ht : undT q t) : undT p t := by
 cases t with
 | nil => trivial
 | node => exact cov_trans h ht
theorem routes_cov : ∀ {t : Tri} {p : Pfx}, WfTr t → undT p t → ∀ r ∈ routesT t, covP p r.p = true
 | .nil, _, _, _, r, hr => by cases hr
 |.node q v h a b, p, ⟨h1, h2, h3, h4, h5, h6⟩, hp, r, hr => by
  by_cases h32 : q.len = 32
  ·obtain rfl := (und_len h32).1 h3
   obtain rfl := (und_len h32).2 h4
   simp only [routesT, List.append_nil] at hr
   split at hr
   ·rw [List.mem_singleton] at hr; rw [hr]; exact hp
   ·cases hr
  ·rw [routesT, List.mem_append, List.mem_append] at hr
   rcases hr with hr | hr | hr
   ·split at hr
    ·rw [List.mem_singleton] at hr; rw [hr]; exact hp
    ·cases hr
   ·exact routes_cov h5 (und_up (cov_trans hp (cov_lo h1 h32)) h3) r hr
   ·exact routes_cov h6 (und_up (cov_trans hp (cov_hi h1 h32)) h4) r hr
theorem node_cov {p : Pfx} {v : Int} {h : Bool} {a b : Tri} (hw : WfTr (.node p v h a b)) : (∀ r ∈ routesT a, covP (loP p) r.p = true) ∧ ∀ r ∈ routesT b, covP (hiP p) r.p = true :=
 ⟨routes_cov hw.2.2.2.2.1 hw.2.2.1, routes_cov hw.2.2.2.2.2 hw.2.2.2.1⟩
theorem out_half {p : Pfx} {x : Int} (hv : validP p = true) (h32 : p.len ≠ 32) : (inP (loP p) x → ∀ r : Rt, covP (hiP p) r.p = true → contP r.p x = false) ∧ (inP (hiP p) x → ∀ r : Rt, covP (loP p) r.p = true → contP r.p x = false) := by
 have h0 := valid_spec.1 hv
 constructor
 ·intro hx r hr
  refine Bool.eq_false_iff.2 fun hc => ?_
  have h1 := in_lo h0.1 (by omega) hx
  have h2 := in_hi h0.1 (by omega) (cov_cont hr hc)
  omega
 ·intro hx r hr
  refine Bool.eq_false_iff.2 fun hc => ?_
  have h1 := in_hi h0.1 (by omega) hx
  have h2 := in_lo h0.1 (by omega) (cov_cont hr hc)
  omega
def Fnd (t : Tri) (x : Int) (o res : Option Rt) : Prop := (∃ r, res = some r ∧ r ∈ routesT t ∧ contP r.p x = true ∧ ∀ s ∈ routesT t, contP s.p x = true → s.p.len ≤ r.p.len) ∨ (res = o ∧ ∀ s ∈ routesT t, contP s.p x = false)
theorem look_fnd {x : Int} : ∀ {t : Tri} {o : Option Rt}, WfTr t → Fnd t x o (lookT x t o)
 | .nil, o, _ => .inr ⟨rfl, fun s hs => by cases hs⟩
 |.node p v h a b, o, hw => by
  obtain ⟨ca, cb⟩ := node_cov hw
  have hall : ∀ s ∈ routesT (.node p v h a b), covP p s.p = true := routes_cov hw (cov_self hw.1)
  obtain ⟨h1, h2, h3, h4, h5, h6⟩ := hw
  have hmem : ∀ s, s ∈ routesT (.node p v h a b) ↔ (h = true ∧ s = ⟨p, v⟩) ∨ s ∈ routesT a ∨ s ∈ routesT b := by
   intro s
   rw [routesT, List.mem_append, List.mem_append]
   cases h <;> simp
  rw [lookT]
  cases hc : contP p x with
  | false =>
   rw [if_neg (by decide)]
   refine .inr ⟨rfl, fun s hs => Bool.eq_false_iff.2 fun hx => ?_⟩
   rw [cont_spec.2 ⟨h1, cov_cont (hall s hs) hx⟩] at hc
   cases hc
  | true =>
   rw [if_pos rfl]
   have hx := (cont_spec.1 hc).2
   -- what the node itself gives, where its kids have nothing
   have self : (∀ s, s ∈ routesT a ∨ s ∈ routesT b → contP s.p x = false) → Fnd (.node p v h a b) x o (if h then some ⟨p, v⟩ else o) := by
    intro hno
    cases h with
    | true =>
     refine .inl ⟨⟨p, v⟩, rfl, (hmem _).2 (.inl ⟨rfl, rfl⟩), hc, fun s hs hsx => ?_⟩
     rcases (hmem s).1 hs with ⟨_, rfl⟩ | hk
     ·exact Int.le_refl _
     ·rw [hno s hk] at hsx; cases hsx
    | false =>
     refine .inr ⟨rfl, fun s hs => ?_⟩
     rcases (hmem s).1 hs with ⟨h, _⟩ | hk
     ·cases h
     ·exact hno s hk
   by_cases h32 : p.len = 32
   ·rw [if_pos h32]
    obtain rfl := (und_len h32).1 h3
    obtain rfl := (und_len h32).2 h4
    exact self fun s hs => by rcases hs with hs | hs <;> cases hs
   ·rw [if_neg h32]
    have step : ∀ (k k' : Tri) (o' res : Option Rt), (∀ s, s ∈ routesT a ∨ s ∈ routesT b ↔ s ∈ routesT k ∨ s ∈ routesT k') → (∀ s ∈ routesT k', contP s.p x = false) → o' = (if h then some ⟨p, v⟩ else o) → Fnd k x o' res → Fnd (.node p v h a b) x o res := by
     intro k k' o' res hkk hk' ho' hf
     rcases hf with ⟨r, e, hr, hrx, hbest⟩ | ⟨e, hno⟩
     ·refine .inl ⟨r, e, (hmem r).2 (.inr ((hkk r).2 (.inl hr))), hrx, fun s hs hsx => ?_⟩
      rcases (hmem s).1 hs with ⟨_, rfl⟩ | hk
      ·exact (cov_inv (hall r ((hmem r).2 (.inr ((hkk r).2 (.inl hr)))))).2.2.2
      ·rcases (hkk s).1 hk with hk | hk
       ·exact hbest s hk hsx
       ·rw [hk' s hk] at hsx; cases hsx
     ·rw [e, ho']
      refine self fun s hs => ?_
      rcases (hkk s).1 hs with hk | hk
      ·exact hno s hk
      ·exact hk' s hk
    rcases half_bit h1 h32 hx with ⟨hb, hlo⟩ | ⟨hb, hhi⟩
    ·rw [if_pos hb]
     exact step a b _ _ (fun s => Iff.rfl) (fun s hs => (out_half h1 h32).1 hlo s (cb s hs)) rfl (look_fnd h5)
    ·rw [if_neg (by omega)]
     exact step b a _ _ (fun s => Or.comm) (fun s hs => (out_half h1 h32).2 hhi s (ca s hs)) rfl (look_fnd h6)
theorem look_is {t : Tri} (hw : WfTr t) (x : Int) : IsB (routesT t) x (lookT x t none) := by
 rcases look_fnd (x := x) (o := none) hw with ⟨r, e, h1, h2, h3⟩ | ⟨e, h⟩
 ·rw [e]; exact ⟨h1, h2, h3⟩
 ·rw [e]; exact h
end Go.Ab

/-
  Compressing: putting a route into a trie, in plain terms.
-/
namespace Go.Ab
open Go.Proofs
def putT (fk : Pfx → Pfx → Pfx) : Tri → Rt → Tri
 | .nil, r => .node r.p r.val true .nil .nil
 | .node p v h a b, r =>
  if p = r.p then .node p r.val true a b
  else if covP p r.p then (if bitA r.p.addr p.len = 0 then .node p v h (putT fk a r) b else .node p v h a (putT fk b r))
  else if covP r.p p then (if bitA p.addr r.p.len = 0 then .node r.p r.val true (.node p v h a b) .nil else .node r.p r.val true .nil (.node p v h a b))
  else if bitA r.p.addr (fk r.p p).len = 0 then .node (fk r.p p) 0 false (.node r.p r.val true .nil .nil) (.node p v h a b)
  else .node (fk r.p p) 0 false (.node p v h a b) (.node r.p r.val true .nil .nil)
theorem half_cov {p q : Pfx} (hu : inU p.addr) (h : covP p q = true) (hne : p ≠ q) : p.len ≠ 32 ∧ ((bitA q.addr p.len = 0 ∧ covP (loP p) q = true) ∨ (bitA q.addr p.len = 1 ∧ covP (hiP p) q = true)) := by
 obtain ⟨h1, h2, h3⟩ := cov_half hu h (fun e => hne e.symm)
 have hi := cov_inv h
 have h0 := valid_spec.1 hi.1
 refine ⟨h1, ?_⟩
 rcases half_bit hi.1 h1 hi.2.2.1 with ⟨hb, hx⟩ | ⟨hb, hx⟩
 ·exact .inl ⟨hb, h2.2 (in_lo h0.1 (by omega) hx).2⟩
 ·exact .inr ⟨hb, h3.2 (in_hi h0.1 (by omega) hx).2⟩
theorem half_ne {p q : Pfx} : (covP (loP p) q = true → q ≠ p) ∧ (covP (hiP p) q = true → q ≠ p) := by
 constructor <;> intro h e <;> have := (cov_inv h).2.2.2 <;> rw [e] at this <;> simp only [loP, hiP] at this <;> omega
theorem lo_hi {p q s : Pfx} (h1 : covP (loP p) q = true) (h2 : covP (hiP p) s = true) : q ≠ s := by
 intro e
 have a := (cov_inv h1).2.2.1
 have b := (cov_inv h2).2.2.1
 rw [e] at a
 obtain ⟨a1, a2⟩ := a
 obtain ⟨b1, b2⟩ := b
 simp only [loP, hiP] at a2 b1
 omega
theorem put_law (fk : Pfx → Pfx → Pfx) (hfk : ∀ r n : Pfx, validP r = true → inU r.addr → validP n = true → inU n.addr → covP r n = false → covP n r = false → ForkP r n (fk r n)) :
  ∀ {t : Tri} {r : Rt}, WfTr t → validP r.p = true → inU r.p.addr → WfTr (putT fk t r) ∧ (∀ p, undT p t → covP p r.p = true → undT p (putT fk t r)) ∧ ∀ q, q ∈ routesT (putT fk t r) ↔ q = r ∨ (q ∈ routesT t ∧ q.p ≠ r.p)
 |.nil, r, _, hv, hu => by
  refine ⟨⟨hv, hu, trivial, trivial, trivial, trivial⟩, fun p _ h => h, fun q => ?_⟩
  simp [putT, routesT]
 |.node p v h a b, r, hw, hv, hu => by
  have hall : ∀ s ∈ routesT (.node p v h a b), covP p s.p = true := routes_cov hw (cov_self hw.1)
  obtain ⟨ca, cb⟩ := node_cov hw
  have hw0 := hw
  obtain ⟨h1, h2, h3, h4, h5, h6⟩ := hw
  have hmem : ∀ s, s ∈ routesT (.node p v h a b) ↔ (h = true ∧ s = ⟨p, v⟩) ∨ s ∈ routesT a ∨ s ∈ routesT b := by
   intro s
   rw [routesT, List.mem_append, List.mem_append]
   cases h <;> simp
  have hleaf : ∀ s, s ∈ routesT (.node r.p r.val true .nil .nil) ↔ s = r := fun s => by simp [routesT]
  have hnode : ∀ (p : Pfx) (v : Int) (h : Bool) (a b : Tri) (s : Rt), s ∈ routesT (.node p v h a b) ↔ (h = true ∧ s = ⟨p, v⟩) ∨ s ∈ routesT a ∨ s ∈ routesT b := by
   intro p v h a b s
   rw [routesT, List.mem_append, List.mem_append]
   cases h <;> simp
  rw [putT]
  by_cases he : p = r.p
  ·rw [if_pos he]
   refine ⟨⟨h1, h2, h3, h4, h5, h6⟩, fun q hq _ => hq, fun q => ?_⟩
   rw [hnode, hmem]
   have hk : q ∈ routesT a ∨ q ∈ routesT b → q.p ≠ r.p := by
    rintro (hq | hq) <;> rw [← he]
    ·exact half_ne.1 (ca q hq)
    ·exact half_ne.2 (cb q hq)
   have hr : q = ⟨p, r.val⟩ ↔ q = r := by rw [he]
   constructor
   ·rintro (⟨_, e⟩ | hq)
    ·exact .inl (hr.1 e)
    ·exact .inr ⟨.inr hq, hk hq⟩
   ·rintro (e | ⟨⟨_, e⟩ | hq, hne⟩)
    ·exact .inl ⟨rfl, hr.2 e⟩
    ·exact absurd (by rw [e]; exact he) hne
    ·exact .inr hq
  ·rw [if_neg he]
   by_cases hc : covP p r.p = true
   ·rw [if_pos hc]
    obtain ⟨h32, hh⟩ := half_cov h2 hc he
    rcases hh with ⟨hb, hl⟩ | ⟨hb, hl⟩
    ·rw [if_pos hb]
     obtain ⟨i1, i2, i3⟩ := put_law fk hfk h5 hv hu
     refine ⟨⟨h1, h2, i2 _ h3 hl, h4, i1, h6⟩, fun q hq _ => hq, fun q => ?_⟩
     rw [hnode, hmem, i3]
     have hq0 : q = ⟨p, v⟩ → q.p ≠ r.p := fun e => by rw [e]; exact he
     have hqb : q ∈ routesT b → q.p ≠ r.p := fun hq e => lo_hi hl (cb q hq) e.symm
     constructor
     ·rintro (hq | (e | ⟨hq, hne⟩) | hq)
      ·exact .inr ⟨.inl hq, hq0 hq.2⟩
      ·exact .inl e
      ·exact .inr ⟨.inr (.inl hq), hne⟩
      ·exact .inr ⟨.inr (.inr hq), hqb hq⟩
     ·rintro (e | ⟨hq | hq | hq, hne⟩)
      ·exact .inr (.inl (.inl e))
      ·exact .inl hq
      ·exact .inr (.inl (.inr ⟨hq, hne⟩))
      ·exact .inr (.inr hq)
    ·rw [if_neg (by omega)]
     obtain ⟨i1, i2, i3⟩ := put_law fk hfk h6 hv hu
     refine ⟨⟨h1, h2, h3, i2 _ h4 hl, h5, i1⟩, fun q hq _ => hq, fun q => ?_⟩
     rw [hnode, hmem, i3]
     have hq0 : q = ⟨p, v⟩ → q.p ≠ r.p := fun e => by rw [e]; exact he
     have hqa : q ∈ routesT a → q.p ≠ r.p := fun hq e => lo_hi (ca q hq) hl e
     constructor
     ·rintro (hq | hq | (e | ⟨hq, hne⟩))
      ·exact .inr ⟨.inl hq, hq0 hq.2⟩
      ·exact .inr ⟨.inr (.inl hq), hqa hq⟩
      ·exact .inl e
      ·exact .inr ⟨.inr (.inr hq), hne⟩
     ·rintro (e | ⟨hq | hq | hq, hne⟩)
      ·exact .inr (.inr (.inl e))
      ·exact .inl hq
      ·exact .inr (.inl hq)
      ·exact .inr (.inr (.inr ⟨hq, hne⟩))
   ·rw [if_neg hc]
    -- no route of the trie has the prefix
    have hnone : ∀ q ∈ routesT (.node p v h a b), q.p ≠ r.p := fun q hq e => hc (by rw [← e]; exact hall q hq)
    by_cases hd : covP r.p p = true
    ·rw [if_pos hd]
     obtain ⟨h32, hh⟩ := half_cov hu hd (fun e => he e.symm)
     rcases hh with ⟨hb, hl⟩ | ⟨hb, hl⟩
     ·rw [if_pos hb]
      refine ⟨⟨hv, hu, hl, trivial, hw0, trivial⟩, fun q _ hq => hq, fun q => ?_⟩
      rw [hnode]
      constructor
      ·rintro (⟨_, e⟩ | hq | hq)
       ·exact .inl e
       ·exact .inr ⟨hq, hnone q hq⟩
       ·cases hq
      ·rintro (e | ⟨hq, _⟩)
       ·exact .inl ⟨rfl, e⟩
       ·exact .inr (.inl hq)
     ·rw [if_neg (by omega)]
      refine ⟨⟨hv, hu, trivial, hl, trivial, hw0⟩, fun q _ hq => hq, fun q => ?_⟩
      rw [hnode]
      constructor
      ·rintro (⟨_, e⟩ | hq | hq)
       ·exact .inl e
       ·cases hq
       ·exact .inr ⟨hq, hnone q hq⟩
      ·rintro (e | ⟨hq, _⟩)
       ·exact .inl ⟨rfl, e⟩
       ·exact .inr (.inr hq)
    ·rw [if_neg hd]
     obtain ⟨f1, f2, f3, f4, f5, f6⟩ := hfk r.p p hv hu h1 h2 (by simpa using hd) (by simpa using hc)
     generalize fk r.p p = q0 at *
     have c1 : covP q0 r.p = true := cov_spec.2 ⟨hv, f1, f3, by omega⟩
     have c2 : covP q0 p = true := cov_spec.2 ⟨h1, f1, f4, by omega⟩
     have n1 : q0 ≠ r.p := fun e => by have := f5.1; rw [e] at this; omega
     have n2 : q0 ≠ p := fun e => by have := f5.2; rw [e] at this; omega
     obtain ⟨_, g1⟩ := half_cov f2 c1 n1
     obtain ⟨_, g2⟩ := half_cov f2 c2 n2
     have hund : ∀ k, undT k (.node p v h a b) → covP k r.p = true → covP k q0 = true := by
      intro k hk hkr
      obtain ⟨k1, k2, k3, k4⟩ := cov_inv hk
      obtain ⟨_, _, k5, k6⟩ := cov_inv hkr
      -- the prefix covers both, so it is not longer than what they share
      by_cases hkl : k.len ≤ q0.len
      ·have kr : contP k r.p.addr = true := cont_spec.2 ⟨k1, k5⟩
       have qr : contP q0 r.p.addr = true := cont_spec.2 ⟨f1, f3⟩
       have hn := nest kr qr hkl
       have := szP_pos q0.len
       exact cov_spec.2 ⟨f1, k1, by omega, hkl⟩
      ·exfalso
       have h32 : q0.len ≠ 32 := by have := (valid_spec.1 k1).2.1; omega
       have kr : contP k r.p.addr = true := cont_spec.2 ⟨k1, k5⟩
       have kn : contP k p.addr = true := cont_spec.2 ⟨k1, k3⟩
       have v1 := lo_valid f1 h32
       have v2 := hi_valid f1 h32
       have z0 := valid_spec.1 f1
       rcases half_bit f1 h32 f3 with ⟨e1, x1⟩ | ⟨e1, x1⟩ <;> rcases half_bit f1 h32 f4 with ⟨e2, x2⟩ | ⟨e2, x2⟩
       ·omega
       ·have y1 := nest (cont_spec.2 ⟨v1, x1⟩) kr (by simp only [loP]; omega)
        have y2 := nest (cont_spec.2 ⟨v2, x2⟩) kn (by simp only [hiP]; omega)
        have := szP_pos k.len
        simp only [loP, hiP] at y1 y2
        omega
       ·have y1 := nest (cont_spec.2 ⟨v2, x1⟩) kr (by simp only [hiP]; omega)
        have y2 := nest (cont_spec.2 ⟨v1, x2⟩) kn (by simp only [loP]; omega)
        have := szP_pos k.len
        simp only [loP, hiP] at y1 y2
        omega
       ·omega
     rcases g1 with ⟨b1, l1⟩ | ⟨b1, l1⟩
     ·rw [if_pos b1]
      rcases g2 with ⟨b2, l2⟩ | ⟨b2, l2⟩
      ·omega
      refine ⟨⟨f1, f2, l1, l2, ⟨hv, hu, trivial, trivial, trivial, trivial⟩, hw0⟩, hund, fun q => ?_⟩
      rw [hnode, hleaf]
      constructor
      ·rintro (⟨e, _⟩ | e | hq)
       ·cases e
       ·exact .inl e
       ·exact .inr ⟨hq, hnone q hq⟩
      ·rintro (e | ⟨hq, _⟩)
       ·exact .inr (.inl e)
       ·exact .inr (.inr hq)
     ·rw [if_neg (by omega)]
      rcases g2 with ⟨b2, l2⟩ | ⟨b2, l2⟩
      ·refine ⟨⟨f1, f2, l2, l1, hw0, ⟨hv, hu, trivial, trivial, trivial, trivial⟩⟩, hund, fun q => ?_⟩
       rw [hnode, hleaf]
       constructor
       ·rintro (⟨e, _⟩ | hq | e)
        ·cases e
        ·exact .inr ⟨hq, hnone q hq⟩
        ·exact .inl e
       ·rintro (e | ⟨hq, _⟩)
        ·exact .inr (.inr e)
        ·exact .inr (.inl hq)
      ·omega
def buildT (fk : Pfx → Pfx → Pfx) (l : List Rt) : Tri := l.foldl (putT fk) .nil
theorem build_law (fk : Pfx → Pfx → Pfx) (hfk : ∀ r n : Pfx, validP r = true → inU r.addr → validP n = true → inU n.addr → covP r n = false → covP n r = false → ForkP r n (fk r n)) {l : List Rt}
  (hu : ∀ r ∈ l, inU r.p.addr) (hv : validR l = true) : WfTr (buildT fk l) ∧ ∀ q, q ∈ routesT (buildT fk l) ↔ q ∈ l := by
 obtain ⟨v1, v2⟩ := validR_spec.1 hv
 have : ∀ (l m : List Rt) (t : Tri), WfTr t → (∀ q, q ∈ routesT t ↔ q ∈ m) → (∀ r ∈ l, validP r.p = true ∧ inU r.p.addr) → ((m ++ l).map (·.p)).Nodup → WfTr (l.foldl (putT fk) t) ∧ ∀ q, q ∈ routesT (l.foldl (putT fk) t) ↔ q ∈ m ++ l := by
  intro l
  induction l with
  | nil => intro m t h1 h2 _ _; exact ⟨h1, fun q => by rw [List.append_nil]; exact h2 q⟩
  | cons r l ih =>
   intro m t h1 h2 h3 h4
   obtain ⟨w1, _, w3⟩ := put_law fk hfk h1 (h3 r (by simp)).1 (h3 r (by simp)).2
   have hm : ∀ q ∈ m, q.p ≠ r.p := fun q hq e => by
    rw [List.map_append, List.nodup_append] at h4
    exact h4.2.2 _ (List.mem_map.2 ⟨q, hq, rfl⟩) _ (List.mem_map.2 ⟨r, by simp, rfl⟩) e
   have := ih (m ++ [r]) (putT fk t r) w1 (fun q => by
    rw [w3, h2, List.mem_append, List.mem_singleton]
    constructor
    ·rintro (e | ⟨hq, _⟩)
     ·exact .inr e
     ·exact .inl hq
    ·rintro (hq | e)
     ·exact .inr ⟨hq, hm q hq⟩
     ·exact .inl e) (fun s hs => h3 s (by simp [hs])) (by rw [List.append_assoc]; exact h4)
   rw [List.append_assoc] at this
   exact this
 exact this l [] .nil trivial (fun q => by simp [routesT]) (fun r hr => ⟨(v1 r hr).1, hu r hr⟩) (by simpa using v2)
theorem build_look (fk : Pfx → Pfx → Pfx) (hfk : ∀ r n : Pfx, validP r = true → inU r.addr → validP n = true → inU n.addr → covP r n = false → covP n r = false → ForkP r n (fk r n)) {l : List Rt}
  (hu : ∀ r ∈ l, inU r.p.addr) (hv : validR l = true) (x : Int) : lookT x (buildT fk l) none = findR l x := by
 obtain ⟨h1, h2⟩ := build_law fk hfk hu hv
 exact (isB_uniq (fun r => (h2 r).symm) (validR_spec.1 hv).2 (isB_find l x) (look_is h1 x)).symm
end Go.Ab

/-
  Compressing: bits of addresses.
-/
namespace Go.Ab
open Go.Proofs
theorem bit_and {x n b c : Int} (hx : inU x) (h0 : 0 ≤ n) (h1 : n < 32) (hb : b = 31 - n) (hc : c = x.fdiv (2 ^ (min b.toNat (IntKind.bits .u32)))) : binD .and (.int .u32 c) (.int .u32 1) = some (.int .u32 (bitA x n)) := by
 obtain ⟨u0, u1⟩ := hx
 have hm : x = ((x.toNat : Nat) : Int) := by omega
 have hcm := shrU (m := x.toNat) (i := (31 - n).toNat) hm (show b = (((31 - n).toNat : Nat) : Int) by omega) (by omega) hc
 have hlt : x.toNat / 2 ^ (31 - n).toNat < 4294967296 := Nat.lt_of_le_of_lt (Nat.div_le_self _ _) (by omega)
 refine andU hcm (n := 1) rfl hlt (by decide) ?_
 rw [Nat.and_one_is_mod, bitA, szP, show 32 - (n + 1).toNat = (31 - n).toNat by omega]
 generalize (31 - n).toNat = e
 have hp : 0 < 2 ^ e := Nat.two_pow_pos e
 rw [hm]
 simp only [Int.toNat_natCast]
 generalize x.toNat = m
 rw [← Int.natCast_ediv]
 omega
theorem bit_01 (x n : Int) : 0 ≤ bitA x n ∧ bitA x n ≤ 1 := by
 rw [bitA]
 generalize x / (szP (n + 1) : Int) = q
 omega
theorem branch_ok (P : Program) (hP : P = Try.prog) (x n : Int) (hx : inU x) (h0 : 0 ≤ n) (h1 : n < 32) : Ret P n_trie_branch [.c (.d (u32D x)), iA n] (iA (bitA x n)) := by
 have hz := fun b c => @bit_and x n b c hx h0 h1
 have hb := bit_01 x n
 refine ret_start (hP ▸ mixed) (hP ▸ fn_trie_branch) (hP ▸ c_trie_branch) (Nat.le_of_ble_eq_true rfl) fun Λ Λo K hK => ?_
 clear hP
 generalize bitA x n = z at *
 conv => cbv
 repeat' first | (refine ⟨.int .u32 z, hz _ _ (by assumption) (by assumption), ?_⟩; intro d' hd; subst hd; (conv => cbv)) | (intro (k : Int) (hk : k = IntKind.i64.wrap z); rw [wrap_small (by omega) (by omega)] at hk; subst hk; (conv => cbv)) | exact gu | exact trivial | refine And.intro ?_ ?_ | (intro hc; exact absurd hc (by decide)) | (intro hc; exfalso; omega) | (intro hc; (first | rw [wrap_small (by omega) (by omega)] at hc | rw [nI_eq] at hc | skip); try (conv => cbv)) | refine CallG.old ?_
 exact hK
end Go.Ab

/-
  Compressing: tries in an arena.
-/
namespace Go.Ab
open Go.Proofs
def nodeD (p : Pfx) (v : Int) (h : Bool) (ka kb : D) : List D := [u32D p.addr, iD p.len, iD v, .bool h, ka, kb]
abbrev rtA (r : Rt) : AV := .agg [.d (u32D r.p.addr), .d (iD r.p.len), .d (iD r.val)]
def TrA (m : Ar) : D → Tri → (Nat → Prop) → Prop
 | k, .nil, _ => k = .nilp
 | k, .node p v h a b, S => ∃ bl N ka kb Sa Sb, k = .adr bl 0 ∧ m bl = some (.cs N (nodeD p v h ka kb)) ∧ TrA m ka a Sa ∧ TrA m kb b Sb ∧ S bl ∧ ¬ Sa bl ∧ ¬ Sb bl ∧ (∀ i, Sa i → S i) ∧ (∀ i, Sb i → S i) ∧ ∀ i, Sa i → ¬ Sb i
theorem TrA.frame {m m' : Ar} : ∀ {t : Tri} {k : D} {S : Nat → Prop}, (∀ i, S i → m' i = m i) → TrA m k t S → TrA m' k t S
 | .nil, _, _, _, h => h
 | .node _ _ _ _ _, _, _, hm, ⟨bl, N, ka, kb, Sa, Sb, h1, h2, h3, h4, h5, h6, h7, h8, h9, h10⟩ =>
  ⟨bl, N, ka, kb, Sa, Sb, h1, (hm bl h5).trans h2, h3.frame fun i hi => hm i (h8 i hi), h4.frame fun i hi => hm i (h9 i hi), h5, h6, h7, h8, h9, h10⟩
def PutR (m : Ar) (S : Nat → Prop) (t : Tri) (r' : AV) (m' : Ar) : Prop := ∃ k' S', r' = .c (.d k') ∧ TrA m' k' t S' ∧ (∀ i, S' i → m' i ≠ none) ∧ (∀ i, S' i → S i ∨ m i = none) ∧ (∀ i, m i ≠ none → ¬ S i → m' i = m i) ∧ ∀ i, m i ≠ none → m' i ≠ none
theorem put_nil (P : Program) (hP : P = Try.prog) (fk : Pfx → Pfx → Pfx) (m : Ar) (S : Nat → Prop) (r : Rt) :
  FnS P n_trie_node_put [.c (.d .nilp), rtA r] [.am m] fun r' h' => ∃ m' tl, h' = .am m' :: tl ∧ PutR m S (putT fk .nil r) r' m' := by
 refine heap_start (hP ▸ mixed) (hP ▸ fn_trie_node_put) (hP ▸ c_trie_node_put) (Nat.le_of_ble_eq_true rfl) fun Λ Λo K hK => ?_
 clear hP
 obtain ⟨⟨pa, pl⟩, v⟩ := r
 have fin : ∀ b N m' tl, m b = none → m' = mup m b (.cs N [u32D pa, iD pl, iD v, .bool true, .nilp, .nilp]) → K (.c (.d (.adr b 0))) (.am m' :: tl) := by
  rintro b N m' tl hb rfl
  refine hK _ _ ⟨_, tl, rfl, _, fun i => i = b, rfl, ⟨b, N, .nilp, .nilp, fun _ => False, fun _ => False, rfl, mup_at _ _ _, rfl, rfl, rfl, fun h => h, fun h => h, fun _ h => h.elim, fun _ h => h.elim, fun _ h => h.elim⟩, ?_, ?_, ?_, ?_⟩
  ·rintro i rfl; rw [mup_at]; simp
  ·rintro i rfl; exact .inr hb
  ·intro i hi _
   exact mup_ne fun e => hi (by rw [e]; exact hb)
  ·intro i hi
   rw [mup_ne fun e => hi (by rw [e]; exact hb)]; exact hi
 clear hK
 conv => cbv
 repeat' first | exact gu | exact trivial | refine And.intro ?_ ?_ | (intro hc; exact absurd hc (by decide)) | (intro hc; exfalso; omega) | (intro hc; (first | rw [wrap_small (by omega) (by omega)] at hc | rw [nI_eq] at hc | skip); try (conv => cbv)) | refine CallG.old ?_
 left
 intro (_ : Unit)
 conv => cbv
 repeat' first | (right; intro (_ : Unit); conv => cbv) | exact gu | exact trivial | refine And.intro ?_ ?_ | (intro hc; exact absurd hc (by decide)) | (intro hc; exfalso; omega) | (intro hc; (first | rw [wrap_small (by omega) (by omega)] at hc | rw [nI_eq] at hc | skip); try (conv => cbv)) | refine CallG.old ?_
 exact fin _ _ _ _ (by assumption) hc
end Go.Ab

/-
  Compressing: what a call of put leaves, in plain terms.
-/
namespace Go.Ab
open Go.Proofs
theorem putR_same {m m2 : Ar} {S : Nat → Prop} {bl N : Nat} {p : Pfx} {w : Int} {a b : Tri} {ka kb : D} {Sa Sb : Nat → Prop} (ha : TrA m ka a Sa) (hb : TrA m kb b Sb) (hbl : S bl) (na : ¬ Sa bl) (nb : ¬ Sb bl) (sa : ∀ i, Sa i → S i) (sb : ∀ i, Sb i → S i) (sd : ∀ i, Sa i → ¬ Sb i) (hS : ∀ i, S i → m i ≠ none)
  (h2 : m2 bl = some (.cs N (nodeD p w true ka kb))) (h3 : ∀ i, i ≠ bl → m2 i = m i) : PutR m S (.node p w true a b) (.c (.d (.adr bl 0))) m2 := by
 have ne : ∀ i, Sa i ∨ Sb i → i ≠ bl := fun i hi e => by subst e; exact hi.elim na nb
 refine ⟨_, S, rfl, ⟨bl, N, ka, kb, Sa, Sb, rfl, h2, ha.frame fun i hi => h3 i (ne i (.inl hi)), hb.frame fun i hi => h3 i (ne i (.inr hi)), hbl, na, nb, sa, sb, sd⟩, fun i hi => ?_, fun i hi => .inl hi, fun i hi hn => h3 i fun e => hn (e ▸ hbl), fun i hi => ?_⟩
 ·by_cases e : i = bl
  ·subst e; rw [h2]; simp
  ·rw [h3 i e]; exact hS i hi
 ·by_cases e : i = bl
  ·subst e; rw [h2]; simp
  ·rw [h3 i e]; exact hi
theorem putR_kid0 {m m1 m2 : Ar} {S : Nat → Prop} {bl N : Nat} {p : Pfx} {v : Int} {h : Bool} {b ta : Tri} {kb k1 : D} {Sa Sb : Nat → Prop} (h1 : m bl ≠ none) (hb : TrA m kb b Sb) (hbl : S bl) (na : ¬ Sa bl) (nb : ¬ Sb bl) (sa : ∀ i, Sa i → S i) (sb : ∀ i, Sb i → S i) (sd : ∀ i, Sa i → ¬ Sb i) (hS : ∀ i, S i → m i ≠ none)
  (hp : PutR m Sa ta (.c (.d k1)) m1) (h2 : m2 bl = some (.cs N (nodeD p v h k1 kb))) (h3 : ∀ i, i ≠ bl → m2 i = m1 i) : PutR m S (.node p v h ta b) (.c (.d (.adr bl 0))) m2 := by
 obtain ⟨k', Sa', e, t1, l1, l2, l3, l4⟩ := hp
 cases e
 have na' : ¬ Sa' bl := fun hi => (l2 bl hi).elim na h1
 have nea : ∀ i, Sa' i → i ≠ bl := fun i hi e => by subst e; exact na' hi
 have neb : ∀ i, Sb i → i ≠ bl := fun i hi e => by subst e; exact nb hi
 have fb : ∀ i, Sb i → m2 i = m i := fun i hi => by rw [h3 i (neb i hi)]; exact l3 i (hS i (sb i hi)) fun ha => sd i ha hi
 have d' : ∀ i, Sa' i → ¬ Sb i := fun i hi hb' => (l2 i hi).elim (fun ha => sd i ha hb') fun hn => hS i (sb i hb') hn
 refine ⟨_, fun i => i = bl ∨ Sa' i ∨ Sb i, rfl, ⟨bl, N, k1, kb, Sa', Sb, rfl, h2, t1.frame fun i hi => h3 i (nea i hi), hb.frame fb, .inl rfl, na', nb, fun i hi => .inr (.inl hi), fun i hi => .inr (.inr hi), d'⟩, ?_, ?_, ?_, ?_⟩
 ·rintro i (rfl | hi | hi)
  ·rw [h2]; simp
  ·rw [h3 i (nea i hi)]; exact l1 i hi
  ·rw [fb i hi]; exact hS i (sb i hi)
 ·rintro i (rfl | hi | hi)
  ·exact .inl hbl
  ·exact (l2 i hi).imp (sa i) fun h => h
  ·exact .inl (sb i hi)
 ·intro i hi hn
  rw [h3 i fun e => hn (e ▸ hbl)]
  exact l3 i hi fun ha => hn (sa i ha)
 ·intro i hi
  by_cases e : i = bl
  ·subst e; rw [h2]; simp
  ·rw [h3 i e]; exact l4 i hi
theorem putR_kid1 {m m1 m2 : Ar} {S : Nat → Prop} {bl N : Nat} {p : Pfx} {v : Int} {h : Bool} {a tb : Tri} {ka k1 : D} {Sa Sb : Nat → Prop} (h1 : m bl ≠ none) (ha : TrA m ka a Sa) (hbl : S bl) (na : ¬ Sa bl) (nb : ¬ Sb bl) (sa : ∀ i, Sa i → S i) (sb : ∀ i, Sb i → S i) (sd : ∀ i, Sa i → ¬ Sb i) (hS : ∀ i, S i → m i ≠ none)
  (hp : PutR m Sb tb (.c (.d k1)) m1) (h2 : m2 bl = some (.cs N (nodeD p v h ka k1))) (h3 : ∀ i, i ≠ bl → m2 i = m1 i) : PutR m S (.node p v h a tb) (.c (.d (.adr bl 0))) m2 := by
 obtain ⟨k', Sb', e, t1, l1, l2, l3, l4⟩ := hp
 cases e
 have nb' : ¬ Sb' bl := fun hi => (l2 bl hi).elim nb h1
 have neb : ∀ i, Sb' i → i ≠ bl := fun i hi e => by subst e; exact nb' hi
 have nea : ∀ i, Sa i → i ≠ bl := fun i hi e => by subst e; exact na hi
 have fa : ∀ i, Sa i → m2 i = m i := fun i hi => by rw [h3 i (nea i hi)]; exact l3 i (hS i (sa i hi)) fun hb => sd i hi hb
 have d' : ∀ i, Sa i → ¬ Sb' i := fun i ha' hi => (l2 i hi).elim (fun hb => sd i ha' hb) fun hn => hS i (sa i ha') hn
 refine ⟨_, fun i => i = bl ∨ Sa i ∨ Sb' i, rfl, ⟨bl, N, ka, k1, Sa, Sb', rfl, h2, ha.frame fa, t1.frame fun i hi => h3 i (neb i hi), .inl rfl, na, nb', fun i hi => .inr (.inl hi), fun i hi => .inr (.inr hi), d'⟩, ?_, ?_, ?_, ?_⟩
 ·rintro i (rfl | hi | hi)
  ·rw [h2]; simp
  ·rw [fa i hi]; exact hS i (sa i hi)
  ·rw [h3 i (neb i hi)]; exact l1 i hi
 ·rintro i (rfl | hi | hi)
  ·exact .inl hbl
  ·exact .inl (sa i hi)
  ·exact (l2 i hi).imp (sb i) fun h => h
 ·intro i hi hn
  rw [h3 i fun e => hn (e ▸ hbl)]
  exact l3 i hi fun hb => hn (sb i hb)
 ·intro i hi
  by_cases e : i = bl
  ·subst e; rw [h2]; simp
  ·rw [h3 i e]; exact l4 i hi
theorem putR_up {m m2 : Ar} {S : Nat → Prop} {b N : Nat} {p : Pfx} {v : Int} {h : Bool} {t : Tri} {k : D} (first : Bool) (ht : TrA m k t S) (hS : ∀ i, S i → m i ≠ none) (hb : m b = none)
  (h2 : m2 b = some (.cs N (nodeD p v h (if first then k else .nilp) (if first then .nilp else k)))) (h3 : ∀ i, i ≠ b → m2 i = m i) : PutR m S (.node p v h (if first then t else .nil) (if first then .nil else t)) (.c (.d (.adr b 0))) m2 := by
 have nb : ¬ S b := fun hi => hS b hi hb
 have ne : ∀ i, S i → i ≠ b := fun i hi e => by subst e; exact nb hi
 have tt := ht.frame (m' := m2) fun i hi => h3 i (ne i hi)
 refine ⟨_, fun i => i = b ∨ S i, rfl, ?_, ?_, ?_, ?_, ?_⟩
 ·cases first with
  | true => exact ⟨b, N, _, _, S, fun _ => False, rfl, h2, tt, rfl, .inl rfl, nb, fun h => h, fun i hi => .inr hi, fun i hi => hi.elim, fun i _ h => h⟩
  | false => exact ⟨b, N, _, _, fun _ => False, S, rfl, h2, rfl, tt, .inl rfl, fun h => h, nb, fun i hi => hi.elim, fun i hi => .inr hi, fun i h => h.elim⟩
 ·rintro i (rfl | hi)
  ·rw [h2]; simp
  ·rw [h3 i (ne i hi)]; exact hS i hi
 ·rintro i (rfl | hi)
  ·exact .inr hb
  ·exact .inl hi
 ·intro i hi hn
  exact h3 i fun e => hi (by rw [e]; exact hb)
 ·intro i hi
  rw [h3 i fun e => hi (by rw [e]; exact hb)]; exact hi
theorem putR_fork {m m2 : Ar} {S : Nat → Prop} {b c N M : Nat} {p q : Pfx} {v : Int} {t : Tri} {k : D} (first : Bool) (ht : TrA m k t S) (hS : ∀ i, S i → m i ≠ none) (hb : m b = none) (hc : m c = none) (hbc : c ≠ b)
  (h1 : m2 b = some (.cs N (nodeD p v true .nilp .nilp))) (h2 : m2 c = some (.cs M (nodeD q 0 false (if first then .adr b 0 else k) (if first then k else .adr b 0)))) (h3 : ∀ i, i ≠ b → i ≠ c → m2 i = m i) :
  PutR m S (.node q 0 false (if first then .node p v true .nil .nil else t) (if first then t else .node p v true .nil .nil)) (.c (.d (.adr c 0))) m2 := by
 have nb : ¬ S b := fun hi => hS b hi hb
 have nc : ¬ S c := fun hi => hS c hi hc
 have ne : ∀ i, S i → i ≠ b ∧ i ≠ c := fun i hi => ⟨fun e => by subst e; exact nb hi, fun e => by subst e; exact nc hi⟩
 have tt := ht.frame (m' := m2) fun i hi => h3 i (ne i hi).1 (ne i hi).2
 have leaf : TrA m2 (.adr b 0) (.node p v true .nil .nil) (fun i => i = b) := ⟨b, N, _, _, fun _ => False, fun _ => False, rfl, h1, rfl, rfl, rfl, fun h => h, fun h => h, fun _ h => h.elim, fun _ h => h.elim, fun _ h => h.elim⟩
 refine ⟨_, fun i => i = c ∨ i = b ∨ S i, rfl, ?_, ?_, ?_, ?_, ?_⟩
 ·cases first with
  | true => exact ⟨c, M, _, _, fun i => i = b, S, rfl, h2, leaf, tt, .inl rfl, hbc, nc, fun i hi => .inr (.inl hi), fun i hi => .inr (.inr hi), fun i e hi => by subst e; exact nb hi⟩
  | false => exact ⟨c, M, _, _, S, fun i => i = b, rfl, h2, tt, leaf, .inl rfl, nc, hbc, fun i hi => .inr (.inr hi), fun i hi => .inr (.inl hi), fun i hi e => by subst e; exact nb hi⟩
 ·rintro i (rfl | rfl | hi)
  ·rw [h2]; simp
  ·rw [h1]; simp
  ·rw [h3 i (ne i hi).1 (ne i hi).2]; exact hS i hi
 ·rintro i (rfl | rfl | hi)
  ·exact .inr hc
  ·exact .inr hb
  ·exact .inl hi
 ·intro i hi hn
  exact h3 i (fun e => hi (by rw [e]; exact hb)) fun e => hi (by rw [e]; exact hc)
 ·intro i hi
  rw [h3 i (fun e => hi (by rw [e]; exact hb)) fun e => hi (by rw [e]; exact hc)]; exact hi
end Go.Ab

/-
  Compressing: the length of a number in bits.
-/
namespace Go.Ab
open Go.Proofs
def lenU (x : Nat) : Nat := if x = 0 then 0 else Nat.log2 x + 1
theorem lenU_lt (x : Nat) : x < 2 ^ lenU x := by
 unfold lenU
 split
 ·omega
 ·exact Nat.lt_log2_self
theorem lenU_le {x : Nat} (h : x ≠ 0) : 2 ^ (lenU x - 1) ≤ x ∧ 0 < lenU x := by
 unfold lenU
 rw [if_neg h, Nat.add_sub_cancel]
 exact ⟨Nat.log2_self_le h, by omega⟩
theorem lenU_uniq {x k : Nat} (h1 : x < 2 ^ (k + 1)) (h2 : 2 ^ k ≤ x) : lenU x = k + 1 := by
 have h0 : x ≠ 0 := by have := Nat.two_pow_pos k; omega
 unfold lenU
 rw [if_neg h0, (Nat.log2_eq_iff h0).2 ⟨h2, h1⟩]
theorem lenU_shift {x k : Nat} (h : 2 ^ k ≤ x) : lenU x = lenU (x / 2 ^ k) + k := by
 have hp := Nat.two_pow_pos k
 have h0 : x / 2 ^ k ≠ 0 := by
  have := Nat.div_pos h hp
  omega
 obtain ⟨a1, a2⟩ := lenU_le h0
 have a3 := lenU_lt (x / 2 ^ k)
 have e : lenU (x / 2 ^ k) - 1 + 1 = lenU (x / 2 ^ k) := by omega
 have := lenU_uniq (x := x) (k := lenU (x / 2 ^ k) - 1 + k) (by
  rw [show lenU (x / 2 ^ k) - 1 + k + 1 = lenU (x / 2 ^ k) + k by omega, Nat.pow_add]
  exact (Nat.div_lt_iff_lt_mul hp).1 a3) (by
  rw [Nat.pow_add]
  exact (Nat.le_div_iff_mul_le hp).1 a1)
 rw [this]; omega
theorem lenU_32 {x : Nat} (h : x < 4294967296) : lenU x ≤ 32 := by
 by_cases h0 : x = 0
 ·subst h0; decide
 ·obtain ⟨a1, a2⟩ := lenU_le h0
  have : 2 ^ (lenU x - 1) < 2 ^ 32 := by omega
  have := (Nat.pow_lt_pow_iff_right (a := 2) (by omega)).1 this
  omega
def tabL : List UInt8 := [0, 1, 2, 2, 3, 3, 3, 3, 4, 4, 4, 4, 4, 4, 4, 4, 5, 5, 5, 5, 5, 5, 5, 5, 5, 5, 5, 5, 5, 5, 5, 5, 6, 6, 6, 6, 6, 6, 6, 6, 6, 6, 6, 6, 6, 6, 6, 6, 6, 6, 6, 6, 6, 6, 6, 6, 6, 6, 6, 6, 6, 6, 6, 6, 7, 7, 7, 7, 7, 7, 7, 7, 7, 7, 7, 7, 7, 7, 7, 7, 7, 7, 7, 7, 7, 7, 7, 7, 7, 7, 7, 7, 7, 7, 7, 7, 7, 7, 7, 7, 7, 7, 7, 7, 7, 7, 7, 7, 7, 7, 7, 7, 7, 7, 7, 7, 7, 7, 7, 7, 7, 7, 7, 7, 7, 7, 7, 7, 8, 8, 8, 8, 8, 8, 8, 8, 8, 8, 8, 8, 8, 8, 8, 8, 8, 8, 8, 8, 8, 8, 8, 8, 8, 8, 8, 8, 8, 8, 8, 8, 8, 8, 8, 8, 8, 8, 8, 8, 8, 8, 8, 8, 8, 8, 8, 8, 8, 8, 8, 8, 8, 8, 8, 8, 8, 8, 8, 8, 8, 8, 8, 8, 8, 8, 8, 8, 8, 8, 8, 8, 8, 8, 8, 8, 8, 8, 8, 8, 8, 8, 8, 8, 8, 8, 8, 8, 8, 8, 8, 8, 8, 8, 8, 8, 8, 8, 8, 8, 8, 8, 8, 8, 8, 8, 8, 8, 8, 8, 8, 8, 8, 8, 8, 8, 8, 8, 8, 8, 8, 8, 8, 8, 8, 8, 8, 8]
def afLen (tb : List UInt8) : AF := (AF.mk 19 [(2, .none)] (.seq (.reg .false [(AO.mk (.some 2) (.mv (.k (.c (.d (.int .i64 0))))) .none)]) (.seq (.seq (.reg .false [(AO.mk (.some 3) (.mv (.t 0)) .none), (AO.mk (.some 4) (.bin .geq (.t 3) (.k (.c (.d (.int .u32 65536))))) .none)]) (.cond (.t 4) (.seq (.reg .false [(AO.mk (.some 5) (.mv (.t 0)) .none), (AO.mk (.some 6) (.bin .shr (.t 5) (.k (.c (.d (.int .u64 16))))) .none), (AO.mk (.some 0) (.mv (.t 6)) .none)]) (.reg .false [(AO.mk (.some 2) (.mv (.k (.c (.d (.int .i64 16))))) .none)])) .skip)) (.seq (.seq (.reg .false [(AO.mk (.some 7) (.mv (.t 0)) .none), (AO.mk (.some 8) (.bin .geq (.t 7) (.k (.c (.d (.int .u32 256))))) .none)]) (.cond (.t 8) (.seq (.reg .false [(AO.mk (.some 9) (.mv (.t 0)) .none), (AO.mk (.some 10) (.bin .shr (.t 9) (.k (.c (.d (.int .u64 8))))) .none), (AO.mk (.some 0) (.mv (.t 10)) .none)]) (.reg .false [(AO.mk (.some 11) (.mv (.t 2)) .none), (AO.mk (.some 12) (.bin .add (.t 11) (.k (.c (.d (.int .i64 8))))) .none), (AO.mk (.some 2) (.mv (.t 12)) .none)])) .skip)) (.seq (.reg .false [(AO.mk (.some 13) (.mv (.t 2)) .none), (AO.mk (.some 14) (.mv (.t 0)) .none), (AO.mk (.some 15) (.cvi .u8 (.t 14)) .none), (AO.mk (.some 16) (.ixs (.k (.c (.d (.str tb)))) (.t 15)) .none), (AO.mk (.some 17) (.cvi .i64 (.t 16)) .none), (AO.mk (.some 18) (.bin .add (.t 13) (.t 17)) .none), (AO.mk (.some 2) (.mv (.t 18)) .none)]) .ret)))))
set_option maxRecDepth 20000 in
theorem afLen_eq : af_math_bits_Len32 = afLen tabL := rfl
theorem vcOps_ixs {P : Program} {Λ : Len} {m : Nat} {s i : X} {L : Lv} {h : Hp} {K : Lv → Hp → Prop} {r : List AO} {dst : Option Nat} {st : List UInt8} {kd : IntKind} {k : Int} {b : UInt8} (hs : evN L s = .c (.d (.str st))) (hi : evN L i = .c (.d (.int kd k))) (h0 : 0 ≤ k) (hb : st[k.toNat]? = some b)
  (hk : vcOps P Λ m false r (putL L dst (.c (.d (.int .u8 b.toNat)))) h K) : vcOps P Λ m false (⟨dst, .ixs s i, none⟩ :: r) L h K := by
 rw [evN_eq] at hs hi
 simp only [vcOps, vcOp, arOp, vcOp0, lkN_fun, astep, hs, hi, if_pos h0, hb, Option.map_some]
 exact hk
theorem tab_ok : ((List.range 256).all fun k => match tabL[k]? with
  | some b => Nat.beq b.toNat (lenU k)
  | none => false) = true := by kernel_rfl
theorem u8w {n : Int} (h0 : 0 ≤ n) (h1 : n < 256) : IntKind.u8.wrap n = n := by
 simp [IntKind.wrap, IntKind.bits, IntKind.signed]
 omega
theorem shr_nat {x c : Int} {k : Nat} (h0 : 0 ≤ x) (hk : k < 32) (hc : c = x.fdiv (2 ^ (min (Int.toNat k) IntKind.u32.bits))) : c = ((x.toNat / 2 ^ k : Nat) : Int) :=
 shrU (b := (k : Int)) (show x = ((x.toNat : Nat) : Int) by omega) rfl hk hc
theorem len32_ok (P : Program) (hP : P = Try.prog) (x : Int) (hx : inU x) : Ret P n_math_bits_Len32 [.c (.d (u32D x))] (iA (lenU x.toNat)) := by
 obtain ⟨h0, h1⟩ := hx
 refine ret_start (hP ▸ mixed) (hP ▸ fn_math_bits_Len32) (hP ▸ c_math_bits_Len32) (Nat.le_of_ble_eq_true rfl) fun Λ Λo K hK => ?_
 clear hP
 rw [afLen_eq]
 have htab : ∀ y : Int, 0 ≤ y → y < 256 → ∃ b : UInt8, tabL[y.toNat]? = some b ∧ (b.toNat : Int) = lenU y.toNat := by
  intro y y0 y1
  have := List.all_eq_true.1 tab_ok y.toNat (List.mem_range.2 (by omega))
  split at this
  ·rename_i b hb
   exact ⟨b, hb, by rw [Nat.eq_of_beq_eq_true this]⟩
  ·cases this
 have lle : lenU x.toNat ≤ 32 := lenU_32 (by omega)
 have lsh : ∀ (k : Nat) (y : Int), 2 ^ k ≤ x.toNat → y = ((x.toNat / 2 ^ k : Nat) : Int) → (lenU x.toNat : Int) = lenU y.toNat + k := by
  intro k y hk hy
  rw [lenU_shift hk, hy, Int.toNat_natCast]; simp
 have lsh2 : ∀ (k : Nat) (y z : Int), 0 ≤ y → 2 ^ k ≤ y.toNat → z = ((y.toNat / 2 ^ k : Nat) : Int) → (lenU y.toNat : Int) = lenU z.toNat + k := by
  intro k y z hy hk hz
  rw [lenU_shift hk, hz, Int.toNat_natCast]; simp
 have fin : ∀ c : Int, c = lenU x.toNat → K (.c (.d (.int .i64 c))) := fun c hc => by rw [hc]; exact hK
 clear hK
 generalize tabL = tb at *
 generalize hL : (lenU x.toNat : Int) = Lx at *
 have hl32 : Lx ≤ 32 := by omega
 have hl0 : 0 ≤ Lx := by omega
 clear lle
 have e16 : (2 : Nat) ^ 16 = 65536 := by decide
 have e8 : (2 : Nat) ^ 8 = 256 := by decide
 conv => cbv
 refine And.intro ?_ ?_
 ·intro h2
  conv => cbv
  refine And.intro (fun _ => by omega) ?_
  intro y hy
  have hy2 := shr_nat (k := 16) h0 (by omega) hy
  have hy3 := lsh 16 y (by omega) hy2
  rw [e16] at hy2
  have hy4 : y < 65536 := by omega
  have hy5 : 0 ≤ y := by omega
  conv => cbv
  refine And.intro ?_ ?_
  ·intro h3
   conv => cbv
   refine And.intro (fun _ => by omega) ?_
   intro z hz
   have hz2 := shr_nat (k := 8) hy5 (by omega) hz
   have hz3 := lsh2 8 y z hy5 (by omega) hz2
   rw [e8] at hz2
   conv => cbv
   intro c hc
   rw [wrap_small (by omega) (by omega)] at hc
   subst hc
   conv => cbv
   intro c hc
   obtain ⟨b, hb, hbl⟩ := htab z (by omega) (by omega)
   rw [u8w (by omega) (by omega)] at hc
   subst hc
   refine vcOps_ixs rfl rfl (by omega) hb ?_
   generalize (b.toNat : Int) = z at *
   conv => cbv
   intro c hc
   rw [wrap_small (by omega) (by omega)] at hc
   subst hc
   conv => cbv
   intro c hc
   rw [wrap_small (by omega) (by omega)] at hc
   exact fin c (by omega)
  ·intro h3
   conv => cbv
   intro c hc
   obtain ⟨b, hb, hbl⟩ := htab y (by omega) (by omega)
   rw [u8w (by omega) (by omega)] at hc
   subst hc
   refine vcOps_ixs rfl rfl (by omega) hb ?_
   generalize (b.toNat : Int) = z at *
   conv => cbv
   intro c hc
   rw [wrap_small (by omega) (by omega)] at hc
   subst hc
   conv => cbv
   intro c hc
   rw [wrap_small (by omega) (by omega)] at hc
   exact fin c (by omega)
 ·intro h2
  conv => cbv
  refine And.intro ?_ ?_
  ·intro h3
   conv => cbv
   refine And.intro (fun _ => by omega) ?_
   intro z hz
   have hz2 := shr_nat (k := 8) h0 (by omega) hz
   have hz3 := lsh 8 z (by omega) hz2
   rw [e8] at hz2
   conv => cbv
   intro c hc
   rw [wrap_small (by omega) (by omega)] at hc
   subst hc
   conv => cbv
   intro c hc
   obtain ⟨b, hb, hbl⟩ := htab z (by omega) (by omega)
   rw [u8w (by omega) (by omega)] at hc
   subst hc
   refine vcOps_ixs rfl rfl (by omega) hb ?_
   generalize (b.toNat : Int) = z at *
   conv => cbv
   intro c hc
   rw [wrap_small (by omega) (by omega)] at hc
   subst hc
   conv => cbv
   intro c hc
   rw [wrap_small (by omega) (by omega)] at hc
   exact fin c (by omega)
  ·intro h3
   conv => cbv
   intro c hc
   obtain ⟨b, hb, hbl⟩ := htab x (by omega) (by omega)
   rw [u8w (by omega) (by omega)] at hc
   subst hc
   refine vcOps_ixs rfl rfl (by omega) hb ?_
   generalize (b.toNat : Int) = z at *
   conv => cbv
   intro c hc
   rw [wrap_small (by omega) (by omega)] at hc
   subst hc
   conv => cbv
   intro c hc
   rw [wrap_small (by omega) (by omega)] at hc
   exact fin c (by omega)
end Go.Ab

