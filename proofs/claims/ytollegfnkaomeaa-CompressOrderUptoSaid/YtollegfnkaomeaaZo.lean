/-
  Merged texts, part o.
-/
import Derived.Test.YtollegfnkaomeaaZn
import Derived.Shelf.SlGeneric
import Derived.Shelf.SlIterI.Collect
import Derived.Shelf.SlIterI.Keys
import Derived.Ground.GgzProg
import Derived.Test.YtollegfnkaomeaaProg
/-
  The contracts of maps.Keys and slices.Collect at this program (written by the kit's lay-plain tool).
-/
namespace Go.Proofs
open Go.Shelf
def Try.keysM_ren : Go.Shelf.Ren := ⟨fun | 7 => 55 | 10 => 80 | n => n, fun | 23 => 86 | 26 => 3 | 3 => 4 | 28 => 96 | 0 => 0 | 27 => 95 | 33 => 115 | 4 => 4 | n => n, fun | n => n⟩
theorem Try.keysM : Go.Proofs.SlLaysZI.n7 Try.prog Try.keysM_ren := {
  mixed := by kernel_rfl
  f7 := ⟨Try.f55.name, by decide, Try.func55.trans (congrArg some (by kernel_rfl))⟩
  f10 := ⟨Try.f80.name, by decide, Try.func80.trans (congrArg some (by kernel_rfl))⟩
  t0 := Try.underlying0
  a0 := Try.isAgg0
  z0 := Try.sizeOf0
  v0 := Try.zeroValue0
  t4 := Try.underlying4
  a4 := Try.isAgg4
  z4 := Try.sizeOf4
  v4 := Try.zeroValue4
  t23 := Try.underlying86
  a23 := Try.isAgg86
  z23 := Try.sizeOf86
  v23 := Try.zeroValue86
  t26 := Try.underlying3
  a26 := Try.isAgg3
  z26 := Try.sizeOf3
  v26 := Try.zeroValue3
  t27 := Try.underlying95
  a27 := Try.isAgg95
  z27 := Try.sizeOf95
  v27 := Try.zeroValue95
  t28 := Try.underlying96
  a28 := Try.isAgg96
  z28 := Try.sizeOf96
  v28 := Try.zeroValue96
  t33 := Try.underlying115
  a33 := Try.isAgg115
  z33 := Try.sizeOf115
  v33 := Try.zeroValue115 }
def Try.collectM_ren : Go.Shelf.Ren := ⟨fun | 8 => 54 | 11 => 79 | n => n, fun | 26 => 3 | 28 => 96 | 24 => 58 | 0 => 0 | 33 => 115 | 4 => 4 | n => n, fun | n => n⟩
theorem Try.collectM : Go.Proofs.SlLaysZI.n8 Try.prog Try.collectM_ren := {
  mixed := by kernel_rfl
  f8 := ⟨Try.f54.name, by decide, Try.func54.trans (congrArg some (by kernel_rfl))⟩
  f11 := ⟨Try.f79.name, by decide, Try.func79.trans (congrArg some (by kernel_rfl))⟩
  t0 := Try.underlying0
  a0 := Try.isAgg0
  z0 := Try.sizeOf0
  v0 := Try.zeroValue0
  t24 := Try.underlying58
  a24 := Try.isAgg58
  z24 := Try.sizeOf58
  v24 := Try.zeroValue58
  t26 := Try.underlying3
  a26 := Try.isAgg3
  z26 := Try.sizeOf3
  v26 := Try.zeroValue3
  t28 := Try.underlying96
  a28 := Try.isAgg96
  z28 := Try.sizeOf96
  v28 := Try.zeroValue96
  i26 := by kernel_rfl }
end Go.Proofs

/-
  Compressing, part f: the keys of a set.
-/
namespace Go.Proofs
open Go.RowKit Go.Maps Go.Sort Go.Shelf
theorem collect_walk {H : Type} (Bm b nn : Nat) (D0 : DataW H) (R : Value → Option (DataW H × List MemPlace)) (w : World) (hB : Bm < w.heap.size) (hc : w.cell? ⟨Bm, 0, none⟩ = some (.map (some b)))
  (hown : w.ownsMap Try.prog 3 R b nn D0) (hmax : Maps.size D0 ≤ maxLen) (hbytes : Maps.size D0 * 8 ≤ 140737488355328) :
  Calls Try.prog 54 #[.func (.func 80) #[] #[.pointer (some ⟨Bm, 0, none⟩)]] w fun e w' => ∃ (v : Value) (ss : List Int), e = .returned v ∧ ss.Perm (intKeys D0) ∧
   w'.ownsRow w.heap.size 3 1 v ss.length (ss.map encZ) ∧ (v = .slice none 0 0 ↔ ss = []) ∧ Below w.heap.size w w' := by
 have hseq : SeqGives Fence.wide 2 Try.prog 80 #[.pointer (some ⟨Bm, 0, none⟩)] encZ (fun ss => ss.Perm (intKeys D0)) (Maps.size D0) w :=
  AnyZI.keys_gives (ρ := Try.keysM_ren) { Try.keysM with } Fence.wide _ trivial rfl (by omega) Bm b nn D0 _ hB hc hown
 exact (callsIn_wide (n := 4)).1 (AnyZI.collect_in Try.collectM Fence.wide 4 trivial trivial rfl (by omega) 80 #[.pointer (some ⟨Bm, 0, none⟩)] trivial (enters_of Try.func80 (by kernel_rfl) rfl) _ _ hmax hbytes _ hseq)
end Go.Proofs
namespace Go.Ab
open Go.Proofs Go.Sort Go.Maps
theorem ints_new {G : Nat → Prop} {w' : World} {base : Nat} {t : TypeId} {v : Value} {l : List Int} (h : w'.ownsRow base t 1 v l.length (l.map (Value.int .i64))) (hG : ∀ b, base ≤ b → b < w'.heap.size → G b) :
  DR G w' v (.list false 1 (l.map encI)) := by
 rcases h.2 with ⟨rfl, hl⟩ | ⟨g, cap, cur, rfl, hb, hg, h1, h2, h3, h4⟩
 ·cases List.eq_nil_of_length_eq_zero hl
  exact .nils _ _
 ·have hlt : g < w'.heap.size := (Array.getElem?_eq_some_iff.1 hg).1
  have hc : ∀ (i : Nat) (x : Int), l[i]? = some x → w'.cell? ⟨g, 0 + i * 1 + 0, none⟩ = some (.int .i64 x) := by
   intro i x hx
   have hi := get_lt hx
   have h5 : (cur.toList.take (l.length * 1))[i]? = some (.int .i64 x) := by rw [h4, List.getElem?_map, hx]; rfl
   rw [List.getElem?_take_of_lt (by omega)] at h5
   rw [show 0 + i * 1 + 0 = i by omega, cell_of hg, ← Array.getElem?_toList]
   exact h5
  have hlen : (l.map encI).length = l.length := List.length_map _
  have := DR.sl (G := G) (w := w') g 0 cap 1 (l.map encI) (fun i j => .int .i64 (l[i]?.getD 0)) (fun _ => hG g hb hlt) (by rw [hlen]; exact h1) (by rw [hlen]; exact Nat.le_trans h1 h2) (fun i e he => by
   rw [List.getElem?_map, Option.map_eq_some_iff] at he
   obtain ⟨x, _, rfl⟩ := he; rfl) (fun i e j x he hx => by
   rw [List.getElem?_map, Option.map_eq_some_iff] at he
   obtain ⟨z, hz, rfl⟩ := he
   have hj : j = 0 := by have := get_lt hx; simpa [encI] using this
   subst hj
   rw [hc i z hz, hz]; rfl) (fun i e j x he hx => by
   rw [List.getElem?_map, Option.map_eq_some_iff] at he
   obtain ⟨z, hz, rfl⟩ := he
   have hj : j = 0 := by have := get_lt hx; simpa [encI] using this
   subst hj
   simp only [encI, List.getElem?_cons_zero, Option.some.injEq] at hx
   subst hx
   rw [hz]; exact .int _ _)
  rw [hlen] at this
  exact this
theorem fresh_ext {G : Nat → Prop} {ι : Io} {h : Hp} {w w' : World} (hr : HR G ι h w) (hb : RowKit.Below w.heap.size w w') (hu : Up w w') :
    Ext G ι h w (fun b => G b ∨ ((w.heap.size ≤ b ∧ b < w'.heap.size) ∧ w.heap.size ≤ b)) ι h w' ∧ HR (fun b => G b ∨ ((w.heap.size ≤ b ∧ b < w'.heap.size) ∧ w.heap.size ≤ b)) ι h w' := by
  have hnew : HR (fun b => w.heap.size ≤ b ∧ b < w'.heap.size) [] [] w' := HR_nil fun b hb => hb.2
  have hext : Ext (fun _ => False) [] [] w (fun b => w.heap.size ≤ b ∧ b < w'.heap.size) [] [] w' :=
    { size := hb.size
      quiet := ⟨hb.os, hb.output, hu.1, hu.2⟩
      frame := fun b h1 _ => hb.block b h1
      gmono := fun _ hb => hb.elim
      gnew := fun b hb => .inr (.inl hb.1)
      onew := fun b ⟨l, blk, h1, _⟩ => by simp at h1
      keep := fun l k hk => by simp at hk }
  exact Ext.of_pure hr hext hnew
theorem keys_fn06 (P : Program) (hP : P = Try.prog) (es : List (D × D)) : FnS P n_maps_Keys_map_int_bool_int_bool [.c (.d (.mpf es))] [] fun r h' => r = .c (.fn false n_maps_Keys_map_int_bool_int_bool_1 [.ptr 0 0 0 0]) ∧ h' = [.bx [.d (.mpf es)]] := by
 refine heap_start (hP ▸ mixed) (hP ▸ fn_maps_Keys_map_int_bool_int_bool) (hP ▸ c_maps_Keys_map_int_bool_int_bool) (Nat.le_of_ble_eq_true rfl) fun Λ Λo K hK => ?_
 have hfo : FnOk P n_maps_Keys_map_int_bool_int_bool_1 := hP ▸ ⟨_, fn_maps_Keys_map_int_bool_int_bool_1, rfl, by decide⟩
 clear hP
 conv => cbv
 repeat' first | exact hfo | exact gu | exact trivial | refine And.intro ?_ ?_ | (intro hc; exact absurd hc (by decide)) | (intro hc; exfalso; omega) | (intro hc; (first | rw [wrap_small (by omega) (by omega)] at hc | rw [nI_eq] at hc | skip); try (conv => cbv))
 exact hK _ _ ⟨rfl, rfl⟩
theorem collectK (m : List Int) (hn : m.Nodup) (hrg : ∀ x ∈ m, -9223372036854775808 ≤ x ∧ x ≤ 9223372036854775807) (hl : m.length ≤ 1000000) :
  FnS Try.prog n_slices_Collect_int [.c (.fn false n_maps_Keys_map_int_bool_int_bool_1 [.ptr 0 0 0 0])] [.bx [.d (.mpf (setF m))]] fun r h' => ∃ ss : List Int, ss.Perm m ∧ r = .c (.d (.list false 1 (ss.map encI))) ∧ h' = [.bx [.d (.mpf (setF m))]] := by
 refine ⟨fun G ι w vs hr hv => ?_⟩
 obtain ⟨v0, hvs⟩ : ∃ v0, vs = [v0] := by
  have := hv.1
  match vs, this with
  | [x], _ => exact ⟨x, rfl⟩
 subst hvs
 have hv0 : VR G w ι [.bx [.d (.mpf (setF m))]] v0 (.c (.fn false n_maps_Keys_map_int_bool_int_bool_1 [.ptr 0 0 0 0])) := hv.2 0 _ _ rfl rfl
 cases inv_c hv0 with
 | fn _ _ _ us _ hv1 hn1 hc1 =>
  subst hv1
  obtain ⟨u, hus⟩ : ∃ u, us = #[u] := by
   have h1 : us.toList.length = 1 := by rw [Array.length_toList]; exact hn1
   match hl : us.toList, h1 with
   | [x], _ => exact ⟨x, by rw [← Array.toArray_toList (xs := us), hl]⟩
  subst hus
  cases hc1 0 u _ rfl rfl with
  | ptr _ _ _ _ _ blk hb ha hk =>
   cases hb
   obtain ⟨b0, o0, hi0, rfl⟩ := hk 0 rfl
   obtain ⟨b0', o0', c, t, fr, p1, p2, p3, p4, p5⟩ := hr.blk 0 _ rfl
   rw [hi0] at p1; cases p1
   obtain ⟨p3, rfl⟩ := p3
   obtain ⟨y, hy, hcy⟩ := p5 0 _ rfl
   cases hcy with
   | d _ _ hdy =>
    obtain ⟨mb, clock, ces, xa, rfl, hpa, gmb, q2, q3, q4⟩ := inv_mpf hdy
    obtain ⟨m', hm', rfl⟩ := perm_setF hpa
    rw [setF_I] at q4
    have hn' : m'.Nodup := hm'.nodup_iff.2 hn
    have hrg' : ∀ x ∈ m', -9223372036854775808 ≤ x ∧ x ≤ 9223372036854775807 := fun x hx => hrg x (hm'.mem_iff.1 hx)
    have hl' : m'.length ≤ 1000000 := by rw [hm'.length_eq]; exact hl
    have hlen : ces.toList.length = m'.length := by rw [q4.1, setI, List.length_map]
    have hkey : ∀ (i : Nat) (ce : MapEntry), ces.toList[i]? = some ce → ∃ r, m'[i]? = some r ∧ ce.key = .int .i64 r := by
     intro i ce hce
     have hi := get_lt hce
     have hm : m'[i]? = some (m'[i]'(by omega)) := List.getElem?_eq_getElem (by omega)
     have := (q4.2 i ce (.s (iD (m'[i]'(by omega))), .s (.bool true)) hce (by rw [setI, List.getElem?_map, hm]; rfl)).1
     refine ⟨_, hm, ?_⟩
     generalize ce.key = kv at this
     cases this with
     | s _ _ hd => cases hd; rfl
    have hkeys : ces.toList.map (·.key) = m'.map fun r => Value.int .i64 r := by
     apply List.ext_getElem?
     intro i
     rw [List.getElem?_map, List.getElem?_map]
     cases hce : ces.toList[i]? with
     | none =>
      have : m'[i]? = none := by rw [List.getElem?_eq_none_iff] at hce ⊢; omega
      rw [this]; rfl
     | some ce =>
      obtain ⟨r, h1, h2⟩ := hkey i ce hce
      rw [h1]; simp [h2]
    let R : Value → Option (DataW Unit × List MemPlace) := fun _ => some (.nil, [])
    have hread : ∀ x ∈ ces.toList, ∃ r ∈ m', x.key = .int .i64 r ∧ WideElems.rd (H := Unit) Try.prog 3 R x = some (.int .i64 r, .nil) := by
     intro x hx
     obtain ⟨i, hi⟩ := List.getElem?_of_mem hx
     obtain ⟨r, h1, h2⟩ := hkey i x hi
     have hm := List.mem_of_getElem? h1
     refine ⟨r, hm, h2, ?_⟩
     have := hrg' r hm
     simp [WideElems.rd, h2, keyOf, Try.underlying3, mapKey, Lit.wf, R]
     rw [if_pos ⟨this.1, this.2⟩]; rfl
    have hown : w.ownsMap Try.prog 3 R mb m'.length (.map ((ces.toList.map (WideElems.rg Try.prog 3 R)).foldr DataW.insert [])) := by
     refine ⟨ces, clock, q2, ⟨?_, ⟨q3.1, q3.2, ?_⟩, fun x hx => ?_⟩, ?_, rfl⟩
     ·rw [← Array.length_toList, hlen]; unfold maxLen; omega
     ·rw [hkeys]
      exact List.Pairwise.map (S := fun x y => x ≠ y) (fun r => Value.int .i64 r) (fun a b h e => h (by simpa using e)) hn'
     ·obtain ⟨r, _, _, h⟩ := hread x hx
      exact ⟨_, h⟩
     ·rw [← Array.length_toList, hlen]; exact Nat.le_refl _
    have hperm : (intKeys (H := Unit) (.map ((ces.toList.map (WideElems.rg Try.prog 3 R)).foldr DataW.insert []))).Perm m' := by
     have h1 : (ces.toList.map (WideElems.rg Try.prog 3 R)).map (fun p => intOf p.1) = m' := by
      rw [List.map_map]
      apply List.ext_getElem?
      intro i
      rw [List.getElem?_map]
      cases hce : ces.toList[i]? with
      | none =>
       have : m'[i]? = none := by rw [List.getElem?_eq_none_iff] at hce ⊢; omega
       rw [this]; rfl
      | some ce =>
       obtain ⟨r, h1, h2⟩ := hkey i ce hce
       obtain ⟨r', _, h3, h4⟩ := hread ce (List.mem_of_getElem? hce)
       rw [h2] at h3
       have h3 : r = r' := by simpa using h3
       rw [h1]
       simp [WideElems.rg, h4, intOf, h3]
     have h2 : (intKeys (H := Unit) (.map ((ces.toList.map (WideElems.rg Try.prog 3 R)).foldr DataW.insert []))).Perm ((ces.toList.map (WideElems.rg Try.prog 3 R)).map fun p => intOf p.1) := (WideShapes.sorted_perm _).map _
     rw [h1] at h2; exact h2
    have hsz : Maps.size (H := Unit) (.map ((ces.toList.map (WideElems.rg Try.prog 3 R)).foldr DataW.insert [])) = m'.length := by
     have := hperm.length_eq
     simp only [intKeys, List.length_map] at this
     exact this
    refine (calls_up (collect_walk b0 mb m'.length _ R w (Array.getElem?_eq_some_iff.1 p2).1 ?_ hown ?_ ?_)).mono ?_
    ·rw [cell_of p2]; exact hy
    ·rw [hsz]; unfold maxLen; omega
    ·rw [hsz]; omega
    ·rintro e w' ⟨⟨v', ss, he, hss, hrow, _, hbelow⟩, hup⟩
     obtain ⟨k1, k2⟩ := fresh_ext hr hbelow (hup v' he)
     exact ⟨v', _, _, ι, _, he, ⟨ss, (hss.trans hperm).trans hm', rfl, rfl⟩, k2, .c _ _ (.d _ _ (ints_new hrow fun b h1 h2 => .inr ⟨⟨h1, h2⟩, h1⟩)), k1⟩
def minL : List Int → Int
 | [] => 0
 | x :: l => l.foldl min x
theorem minL_spec {l : List Int} (h : l ≠ []) : minL l ∈ l ∧ ∀ x ∈ l, minL l ≤ x := by
 have key : ∀ (l : List Int) (a : Int), (l.foldl min a = a ∨ l.foldl min a ∈ l) ∧ l.foldl min a ≤ a ∧ ∀ x ∈ l, l.foldl min a ≤ x := by
  intro l
  induction l with
  | nil => intro a; exact ⟨.inl rfl, Int.le_refl _, by simp⟩
  | cons y l ih =>
   intro a
   obtain ⟨h1, h2, h3⟩ := ih (min a y)
   rw [List.foldl_cons]
   refine ⟨?_, by omega, fun x hx => ?_⟩
   ·rcases h1 with h1 | h1
    ·rw [h1]
     by_cases h : a ≤ y
     ·exact .inl (by omega)
     ·exact .inr (by rw [show min a y = y by omega]; simp)
    ·exact .inr (by simp [h1])
   ·rcases List.mem_cons.1 hx with rfl | hx
    ·omega
    ·exact h3 x hx
 cases l with
 | nil => exact absurd rfl h
 | cons x l =>
  obtain ⟨h1, h2, h3⟩ := key l x
  refine ⟨?_, fun y hy => ?_⟩
  ·rcases h1 with h1 | h1
   ·rw [minL, h1]; simp
   ·rw [minL]; simp [h1]
  ·rcases List.mem_cons.1 hy with rfl | hy
   ·exact h2
   ·exact h3 y hy
theorem minL_perm {a b : List Int} (h : a.Perm b) : minL a = minL b := by
 by_cases hb : b = []
 ·subst hb; rw [h.eq_nil]
 ·have ha : a ≠ [] := fun e => hb (by subst e; exact h.symm.eq_nil)
  obtain ⟨h1, h2⟩ := minL_spec ha
  obtain ⟨h3, h4⟩ := minL_spec hb
  have := h2 _ (h.mem_iff.2 h3)
  have := h4 _ (h.mem_iff.1 h1)
  omega
theorem minL_snoc {l : List Int} (h : l ≠ []) (x : Int) : minL (l ++ [x]) = min (minL l) x := by
 cases l with
 | nil => exact absurd rfl h
 | cons y l => simp [minL, List.foldl_append]
theorem smin_ok (P : Program) (hP : P = Try.prog) (l : List Int) (h0 : l ≠ []) : Ret P n_slices_Min_int_int [intsA l] (iA (minL l)) := by
 refine ret_start (hP ▸ mixed) (hP ▸ fn_slices_Min_int_int) (hP ▸ c_slices_Min_int_int) (Nat.le_of_ble_eq_true rfl) fun Λ Λo K hK => ?_
 clear hP
 have hpos := List.length_pos_iff.2 h0
 obtain ⟨M, hM⟩ : ∃ M : Nat → Int, M = fun k => minL (l.take k) := ⟨_, rfl⟩
 have hM1 : ∀ x, l[0]? = some x → M 1 = x := fun x hx => by
  rw [hM]
  cases l with
  | nil => cases hx
  | cons y l => cases hx; rfl
 have hMs : ∀ k x, 1 ≤ k → l[k]? = some x → M (k + 1) = min (M k) x := fun k x hk hx => by
  rw [hM]
  simp only
  rw [take_succ_get hx]
  refine minL_snoc (fun e => ?_) x
  have := congrArg List.length e
  rw [List.length_take] at this
  have := get_lt hx
  simp only [List.length_nil] at *
  omega
 have hMl : M l.length = minL l := by rw [hM]; simp only; rw [List.take_length]
 rw [← hMl] at hK
 clear hM hMl
 simp only [intsA, intsD] at *
 generalize llh : List.map encI l = ll at *
 have lln : Λ ll = l.length := by rw [Λo, ← llh]; simp
 obtain ⟨x0, hx0⟩ : ∃ x, l[0]? = some x := ⟨_, List.getElem?_eq_getElem hpos⟩
 have hxa0 := elt_at llh (i := 0) (k := 0) rfl hx0
 have hm1 := hM1 x0 hx0
 conv => cbv
 repeat' first | (intro (e : List D) he; cases Option.some.inj (he.symm.trans hxa0); (conv => cbv)) | exact gu | exact trivial | refine And.intro ?_ ?_ | (intro hc; exact absurd hc (by decide)) | (intro hc; exfalso; omega) | (intro hc; (first | rw [wrap_small (by omega) (by omega)] at hc | rw [nI_eq] at hc | skip); try (conv => cbv))
 refine loop_up l.length (fun s : Int × Int => [(0, .c (.d (.list false 1 ll))), (3, iA s.2), (4, iA s.1)]) (fun _ => []) (fun k s => s.1 = ((k + 1 : Nat) : Int) ∧ k + 1 ≤ l.length ∧ s.2 = M (k + 1)) (1, x0) (Wk.cw) ⟨rfl, by omega, hm1.symm⟩ (fun k s h => by omega) ?_
 rintro k ⟨i, y⟩ Q' ⟨hi, hk, hy⟩ norm ex rt
 simp only at hi hy
 by_cases hlt : k + 1 < l.length
 ·obtain ⟨x, hx⟩ : ∃ x, l[k + 1]? = some x := ⟨_, List.getElem?_eq_getElem hlt⟩
  have hxa := elt_at llh hi hx
  have hst := hMs (k + 1) x (by omega) hx
  rw [← hy] at hst
  conv => cbv
  repeat' first | (refine ex _ _ _ ?_; (conv => cbv)) | (refine rt _ _ ?_; (conv => cbv)) | (intro e he; cases Option.some.inj (he.symm.trans hxa); (conv => cbv)) | exact gu | exact trivial | refine And.intro ?_ ?_ | (intro hc; exact absurd hc (by decide)) | (intro hc; exfalso; omega) | (intro hc; (first | rw [wrap_small (by omega) (by omega)] at hc | rw [nI_eq] at hc | skip); try (conv => cbv))
  rename_i z hz i2
  refine norm _ _ (i2, z) ?_ (Wk.cw)
  exact ⟨by simp only; omega, by omega, by simp only; omega⟩
 ·have e : k + 1 = l.length := by omega
  rw [e] at hy
  rw [← hy] at hK
  conv => cbv
  repeat' first | (refine ex _ _ _ ?_; (conv => cbv)) | (refine rt _ _ ?_; (conv => cbv)) | exact gu | exact trivial | refine And.intro ?_ ?_ | (intro hc; exact absurd hc (by decide)) | (intro hc; exfalso; omega) | (intro hc; (first | rw [wrap_small (by omega) (by omega)] at hc | rw [nI_eq] at hc | skip); try (conv => cbv))
  exact hK
end Go.Ab

/-
  Compressing, part g: (*part).choose (written by r06/cho.py).
-/
namespace Go.Ab
open Go.Proofs
def chooseS : Prt → Int → List Rt
 | .leaf p w, v => (if v ∈ [w] then [] else [⟨p, minL [w]⟩]) ++ []
 | .node p a b, v => (if v ∈ combineS a.best b.best then [] else [⟨p, minL (combineS a.best b.best)⟩]) ++ (chooseS a (if v ∈ combineS a.best b.best then v else minL (combineS a.best b.best)) ++ chooseS b (if v ∈ combineS a.best b.best then v else minL (combineS a.best b.best)))
theorem setOk_set (l : List Int) : setOk (setF l) = true := setOk_mem.2 fun e he => by
 obtain ⟨v, _, rfl⟩ := List.mem_map.1 he
 rfl
theorem hasK_set (v : Int) : ∀ l : List Int, hasK true 1 [(0, 0)] (.s (iD v)) (setF l) = some (decide (v ∈ l)) := by
 intro l
 induction l with
 | nil => rfl
 | cons x l ih =>
  have e1 : cmpK true 1 [(0, 0)] (.s (iD v)) (iD x) = some (decide (v = x)) := eqc_int v x
  show orO (cmpK true 1 [(0, 0)] (.s (iD v)) (iD x)) (hasK true 1 [(0, 0)] (.s (iD v)) (setF l)) = _
  rw [e1, ih]
  simp only [orO, Option.some.injEq]
  by_cases h1 : v = x <;> by_cases h2 : v ∈ l <;> simp [h1, h2]
def rngT : Prt → Prop
 | .leaf _ w => -9223372036854775808 ≤ w ∧ w ≤ 9223372036854775807
 | .node _ a b => rngT a ∧ rngT b
theorem combine_sub {a b : List Int} (ha : a.Pairwise (· < ·)) {z : Int} (h : z ∈ combineS a b) : z ∈ a ∨ z ∈ b := by
 rw [combine_mem ha] at h
 split at h
 ·exact .inl h.1
 ·exact h
theorem rngT_best : ∀ t : Prt, rngT t → ∀ x ∈ t.best, -9223372036854775808 ≤ x ∧ x ≤ 9223372036854775807
 | .leaf _ w, h, x, hx => by
  rw [Prt.best, List.mem_singleton] at hx
  subst hx; exact h
 | .node _ a b, h, x, hx => by
  rcases combine_sub (best_inc a) hx with h1 | h1
  ·exact rngT_best a h.1 x h1
  ·exact rngT_best b h.2 x h1
def leaves : Prt → Nat
 | .leaf _ _ => 1
 | .node _ a b => leaves a + leaves b
theorem nodup_le {a : List Int} : ∀ {b : List Int}, a.Nodup → (∀ x ∈ a, x ∈ b) → a.length ≤ b.length := by
 induction a with
 | nil => intro b _ _; simp
 | cons x a ih =>
  intro b hn hs
  obtain ⟨h1, h2⟩ := List.nodup_cons.1 hn
  have hx : x ∈ b := hs x (by simp)
  have := ih (b := b.erase x) h2 fun y hy => (List.mem_erase_of_ne (fun e : y = x => h1 (by rw [← e]; exact hy))).2 (hs y (by simp [hy]))
  rw [List.length_erase_of_mem hx] at this
  have := List.length_pos_of_mem hx
  simp only [List.length_cons]; omega
theorem best_len : ∀ t : Prt, t.best.length ≤ leaves t
 | .leaf _ _ => Nat.le_refl _
 | .node p a b => by
  have h1 := best_len a
  have h2 := best_len b
  have h3 := nodup_le (b := a.best ++ b.best) (lt_nodup (best_inc (.node p a b))) fun x hx => List.mem_append.2 (combine_sub (best_inc a) hx)
  rw [List.length_append] at h3
  rw [leaves]; omega
theorem combine_ne {a b : List Int} (ha : a.Pairwise (· < ·)) (h : a ≠ []) : combineS a b ≠ [] := by
 intro e
 rw [combineS] at e
 split at e
 ·obtain ⟨x, l, rfl⟩ := List.exists_cons_of_ne_nil h
  have : x ∈ uniS (x :: l) b := (uniS_mem ha).2 (.inl (by simp))
  rw [e] at this; cases this
 ·contradiction
theorem best_ne : ∀ t : Prt, t.best ≠ []
 | .leaf _ _ => by simp [Prt.best]
 | .node _ a _ => combine_ne (best_inc a) (best_ne a)
set_option maxHeartbeats 2000000 in
theorem choose_ok (P : Program) (hP : P = Try.prog) : ∀ (t : Prt) (v : Int) (ver n : Nat) (r0 : Bool) (e0 : List (List D)), n = e0.length → e0.length + (chooseS t v).length ≤ 1000000 → rngT t → leaves t ≤ 1000000 →
  FnS P n_compress_part_choose [.c (.rp (treeCs t)), iA v, .c (.arr 0 ver 0 n)] [.da r0 ver 3 e0] fun r h' => ∃ (ve2 no2 : Nat) (rr2 : Bool), r = .c (.arr 0 ve2 0 no2) ∧ h' = [.da rr2 ve2 3 (e0 ++ (chooseS t v).map encRt)] ∧ no2 = (e0 ++ (chooseS t v).map encRt).length := by
 have hky := keys_fn06 P hP
 have hmin := fun l h => smin_ok P hP l h
 intro t
 induction t with
 | leaf p w =>
  intro v ver n r0 e0 hn hbd hrg hlv
  obtain ⟨addr, len⟩ := p
  have hky := hky (setF [w])
  have hcol := hP.symm ▸ collectK [w] (by simp) (fun x hx => by rw [List.mem_singleton] at hx; subst hx; exact hrg) (by simp)
  have hbs : [w] ≠ [] := by simp
  have h1 : FnS P n_compress_part_choose [.c (.rp (treeCs (.leaf ⟨addr, len⟩ w))), iA v, .c (.arr 0 ver 0 n)] [.da r0 ver 3 e0] fun r h' => ∃ (ve2 no2 : Nat) (rr2 : Bool), r = .c (.arr 0 ve2 0 no2) ∧ h' = [.da rr2 ve2 3 (e0 ++ (chooseS (.leaf ⟨addr, len⟩ w) v).map encRt)] ∧ no2 = (e0 ++ (chooseS (.leaf ⟨addr, len⟩ w) v).map encRt).length := by
   refine heap_start (hP ▸ mixed) (hP ▸ fn_compress_part_choose) (hP ▸ c_compress_part_choose) (Nat.le_of_ble_eq_true rfl) fun Λ Λo K hK => ?_
   clear hP
   rw [chooseS] at hbd hK
   simp only [treeCs, Prt.best, Prt.pf] at *
   obtain ⟨bs, hbse⟩ : ∃ bs, bs = [w] := ⟨_, rfl⟩
   rw [← hbse] at hky hcol hbs hbd hK ⊢
   have hso := setOk_set bs
   generalize hsb : setF bs = sb at *
   clear hbse
   by_cases hv : v ∈ bs
   ·have hhk : hasK true 1 [(0, 0)] (.s (iD v)) sb = some true := by rw [← hsb, hasK_set, decide_eq_true hv]
    simp only [if_pos hv, List.nil_append, List.append_nil, List.map_append, List.map_nil, List.map_cons, encRt, List.length_append, List.length_map, List.length_nil, List.length_cons] at hK hbd
    skip
    conv => cbv
    repeat' first | (have hso2 := hso; unfold setOk at hso2; exact hso2) | (intro (r' : Option Bool) hr'; cases hhk.symm.trans hr'; (conv => cbv)) | exact gu | exact trivial | refine And.intro ?_ ?_ | (intro hc; exact absurd hc (by decide)) | (intro hc; exfalso; omega) | (intro hc; (first | rw [wrap_small (by omega) (by omega)] at hc | rw [nI_eq] at hc | skip); try (conv => cbv))
    refine loop_up 2 (fun s : Int × Nat × Nat × Bool × List (List D) => [(1, iA v), (2, .c (.arr 0 s.2.1 0 s.2.2.1)), (35, .agg [.d .nilp, .d .nilp]), (36, iA s.1)])
     (fun s => [.da s.2.2.2.1 s.2.1 3 s.2.2.2.2])
     (fun k s => s.1 = k ∧ k ≤ 2 ∧ s.2.2.1 = s.2.2.2.2.length ∧ s.2.2.2.2 = e0) (0, ver, n, r0, e0) (Wk.ca) ⟨rfl, by omega, hn, rfl⟩ (fun k s h => h.2.1) ?_
    rintro k ⟨i, ve, no, rr, es⟩ Q' ⟨hi, hk, hno, hA⟩ norm ex rt
    simp only at hi hno hA
    match k, hk with
    | 0, _ =>
     obtain rfl : i = 0 := hi
     clear hK
     conv => cbv
     repeat' first | (refine ex _ _ _ ?_; (conv => cbv)) | (refine rt _ _ ?_; (conv => cbv)) | (intro hcz; rw [nI_eq] at hcz; exact absurd hcz (by decide)) | exact gu | exact trivial | refine And.intro ?_ ?_ | (intro hc; exact absurd hc (by decide)) | (intro hc; exfalso; omega) | (intro hc; (first | rw [wrap_small (by omega) (by omega)] at hc | rw [nI_eq] at hc | skip); try (conv => cbv))
     rename_i i2
     refine norm _ _ (i2, ve, no, rr, es) ?_ (Wk.ca)
     exact ⟨by simp only; omega, by omega, hno, hA⟩
    | 1, _ =>
     obtain rfl : i = 1 := hi
     clear hK
     conv => cbv
     repeat' first | (refine ex _ _ _ ?_; (conv => cbv)) | (refine rt _ _ ?_; (conv => cbv)) | (intro hcz; rw [nI_eq] at hcz; exact absurd hcz (by decide)) | exact gu | exact trivial | refine And.intro ?_ ?_ | (intro hc; exact absurd hc (by decide)) | (intro hc; exfalso; omega) | (intro hc; (first | rw [wrap_small (by omega) (by omega)] at hc | rw [nI_eq] at hc | skip); try (conv => cbv))
     rename_i i2
     refine norm _ _ (i2, ve, no, rr, es) ?_ (Wk.ca)
     exact ⟨by simp only; omega, by omega, hno, hA⟩
    | 2, _ =>
     have h0 := hA
     conv => cbv
     repeat' first | (refine ex _ _ _ ?_; (conv => cbv)) | (refine rt _ _ ?_; (conv => cbv)) | exact gu | exact trivial | refine And.intro ?_ ?_ | (intro hc; exact absurd hc (by decide)) | (intro hc; exfalso; omega) | (intro hc; (first | rw [wrap_small (by omega) (by omega)] at hc | rw [nI_eq] at hc | skip); try (conv => cbv))
     exact hK _ _ ⟨ve, no, rr, rfl, by rw [h0], by simp [hno, h0]⟩
   ·have hhk : hasK true 1 [(0, 0)] (.s (iD v)) sb = some false := by rw [← hsb, hasK_set, decide_eq_false hv]
    simp only [if_neg hv, List.nil_append, List.append_nil, List.map_append, List.map_nil, List.map_cons, encRt, List.length_append, List.length_map, List.length_nil, List.length_cons] at hK hbd
    obtain ⟨ss0, hss0⟩ : ∃ x, x = minL bs := ⟨_, rfl⟩
    rw [← hss0] at hK
    skip
    conv => cbv
    repeat' first | (have hso2 := hso; unfold setOk at hso2; exact hso2) | (intro (r' : Option Bool) hr'; cases hhk.symm.trans hr'; (conv => cbv)) | (refine call_fr [] hky rfl rfl (by decide) (by repeat' first | exact trivial | refine And.intro ?_ ?_ | rfl) rfl rfl ?_; rintro r hc' ⟨rfl, rfl⟩; (conv => cbv)) | (refine call_fr [1] hcol rfl rfl (by decide) (by repeat' first | exact trivial | refine And.intro ?_ ?_ | rfl) rfl rfl ?_; rintro r hc' ⟨ss, hss, rfl, rfl⟩; have hsm := hmin ss (fun e => hbs (by subst e; exact hss.symm.eq_nil)); rw [minL_perm hss, ← hss0] at hsm; simp only [intsA, intsD] at hsm; generalize ss.map encI = sl at *; (conv => cbv)) | (refine call_r hsm rfl rfl ?_; conv => cbv) | exact gu | exact trivial | refine And.intro ?_ ?_ | (intro hc; exact absurd hc (by decide)) | (intro hc; exfalso; omega) | (intro hc; (first | rw [wrap_small (by omega) (by omega)] at hc | rw [nI_eq] at hc | skip); try (conv => cbv))
    rename_i n1 r1 e1 hn1 hr1
    have he1 : e1 = e0 ++ [[u32D addr, iD len, iD ss0]] := by rw [hc, List.drop_zero, List.take_of_length_le (by omega)]
    have hn1f : n1 = e1.length := by rw [he1, List.length_append, hn1, hn]
    refine loop_up 2 (fun s : Int × Nat × Nat × Bool × List (List D) => [(1, iA ss0), (2, .c (.arr 0 s.2.1 0 s.2.2.1)), (35, .agg [.d .nilp, .d .nilp]), (36, iA s.1)])
     (fun s => [.da s.2.2.2.1 s.2.1 3 s.2.2.2.2])
     (fun k s => s.1 = k ∧ k ≤ 2 ∧ s.2.2.1 = s.2.2.2.2.length ∧ s.2.2.2.2 = (e0 ++ [[u32D addr, iD len, iD ss0]])) (0, ver.succ, n1, r1, e1) (Wk.ca) ⟨rfl, by omega, hn1f, he1⟩ (fun k s h => h.2.1) ?_
    rintro k ⟨i, ve, no, rr, es⟩ Q' ⟨hi, hk, hno, hA⟩ norm ex rt
    simp only at hi hno hA
    match k, hk with
    | 0, _ =>
     obtain rfl : i = 0 := hi
     clear hK
     conv => cbv
     repeat' first | (refine ex _ _ _ ?_; (conv => cbv)) | (refine rt _ _ ?_; (conv => cbv)) | (intro hcz; rw [nI_eq] at hcz; exact absurd hcz (by decide)) | exact gu | exact trivial | refine And.intro ?_ ?_ | (intro hc; exact absurd hc (by decide)) | (intro hc; exfalso; omega) | (intro hc; (first | rw [wrap_small (by omega) (by omega)] at hc | rw [nI_eq] at hc | skip); try (conv => cbv))
     rename_i i2
     refine norm _ _ (i2, ve, no, rr, es) ?_ (Wk.ca)
     exact ⟨by simp only; omega, by omega, hno, hA⟩
    | 1, _ =>
     obtain rfl : i = 1 := hi
     clear hK
     conv => cbv
     repeat' first | (refine ex _ _ _ ?_; (conv => cbv)) | (refine rt _ _ ?_; (conv => cbv)) | (intro hcz; rw [nI_eq] at hcz; exact absurd hcz (by decide)) | exact gu | exact trivial | refine And.intro ?_ ?_ | (intro hc; exact absurd hc (by decide)) | (intro hc; exfalso; omega) | (intro hc; (first | rw [wrap_small (by omega) (by omega)] at hc | rw [nI_eq] at hc | skip); try (conv => cbv))
     rename_i i2
     refine norm _ _ (i2, ve, no, rr, es) ?_ (Wk.ca)
     exact ⟨by simp only; omega, by omega, hno, hA⟩
    | 2, _ =>
     have h0 := hA
     conv => cbv
     repeat' first | (refine ex _ _ _ ?_; (conv => cbv)) | (refine rt _ _ ?_; (conv => cbv)) | exact gu | exact trivial | refine And.intro ?_ ?_ | (intro hc; exact absurd hc (by decide)) | (intro hc; exfalso; omega) | (intro hc; (first | rw [wrap_small (by omega) (by omega)] at hc | rw [nI_eq] at hc | skip); try (conv => cbv))
     exact hK _ _ ⟨ve, no, rr, rfl, by rw [h0], by simp [hno, h0]⟩
  exact h1
 | node p a b iha ihb =>
  intro v ver n r0 e0 hn hbd hrg hlv
  obtain ⟨addr, len⟩ := p
  have hl1 : leaves a ≤ 1000000 := by rw [leaves] at hlv; omega
  have hl2 : leaves b ≤ 1000000 := by rw [leaves] at hlv; omega
  have iha := fun v ver n r0 e0 h1 h2 => iha v ver n r0 e0 h1 h2 hrg.1 hl1
  have ihb := fun v ver n r0 e0 h1 h2 => ihb v ver n r0 e0 h1 h2 hrg.2 hl2
  have hrc := rngT_best (.node ⟨addr, len⟩ a b) hrg
  have hbl := best_len (.node ⟨addr, len⟩ a b)
  have hbs := best_ne (.node ⟨addr, len⟩ a b)
  have hnd := lt_nodup (best_inc (.node ⟨addr, len⟩ a b))
  rw [Prt.best] at hrc hbl hbs hnd
  have hky := hky (setF (combineS a.best b.best))
  have hcol := hP.symm ▸ collectK (combineS a.best b.best) hnd hrc (by omega)
  refine heap_start (hP ▸ mixed) (hP ▸ fn_compress_part_choose) (hP ▸ c_compress_part_choose) (Nat.le_of_ble_eq_true rfl) fun Λ Λo K hK => ?_
  clear hP
  rw [chooseS] at hbd hK
  simp only [treeCs, Prt.best, Prt.pf] at *
  generalize combineS a.best b.best = bs at *
  generalize treeCs a = ca at *
  generalize treeCs b = cb at *
  have hso := setOk_set bs
  generalize hsb : setF bs = sb at *
  by_cases hv : v ∈ bs
  ·have hhk : hasK true 1 [(0, 0)] (.s (iD v)) sb = some true := by rw [← hsb, hasK_set, decide_eq_true hv]
   simp only [if_pos hv, List.nil_append, List.append_nil, List.map_append, List.map_nil, List.map_cons, encRt, List.length_append, List.length_map, List.length_nil, List.length_cons] at hK hbd
   obtain ⟨oa, hoa⟩ : ∃ oa, List.map encRt (chooseS a v) = oa := ⟨_, rfl⟩
   obtain ⟨ob, hob⟩ : ∃ ob, List.map encRt (chooseS b v) = ob := ⟨_, rfl⟩
   have hla : oa.length = (chooseS a v).length := by rw [← hoa]; simp
   have hlb : ob.length = (chooseS b v).length := by rw [← hob]; simp
   rw [hoa, hob] at hK
   conv => cbv
   repeat' first | (have hso2 := hso; unfold setOk at hso2; exact hso2) | (intro (r' : Option Bool) hr'; cases hhk.symm.trans hr'; (conv => cbv)) | exact gu | exact trivial | refine And.intro ?_ ?_ | (intro hc; exact absurd hc (by decide)) | (intro hc; exfalso; omega) | (intro hc; (first | rw [wrap_small (by omega) (by omega)] at hc | rw [nI_eq] at hc | skip); try (conv => cbv))
   refine loop_up 2 (fun s : Int × Nat × Nat × Bool × List (List D) => [(1, iA v), (2, .c (.arr 0 s.2.1 0 s.2.2.1)), (35, .agg [.rp ca, .rp cb]), (36, iA s.1)])
    (fun s => [.da s.2.2.2.1 s.2.1 3 s.2.2.2.2])
    (fun k s => s.1 = k ∧ k ≤ 2 ∧ s.2.2.1 = s.2.2.2.2.length ∧ (k = 0 → s.2.2.2.2 = e0) ∧ (k = 1 → s.2.2.2.2 = e0 ++ oa) ∧ (k = 2 → s.2.2.2.2 = e0 ++ oa ++ ob)) (0, ver, n, r0, e0) (Wk.ca) ⟨rfl, by omega, hn, fun _ => rfl, by omega, by omega⟩ (fun k s h => h.2.1) ?_
   rintro k ⟨i, ve, no, rr, es⟩ Q' ⟨hi, hk, hno, hA, hB, hC⟩ norm ex rt
   simp only at hi hno hA hB hC
   match k, hk with
   | 0, _ =>
    obtain rfl : i = 0 := hi
    clear hK
    have h0 := hA rfl
    have hcal := iha v ve no rr es hno (by have := hbd; have := congrArg List.length h0; omega)
    rw [hoa] at hcal
    obtain ⟨en, hen⟩ : ∃ en, en = es ++ oa := ⟨_, rfl⟩
    rw [← hen] at hcal
    clear iha ihb
    conv => cbv
    repeat' first | (refine ex _ _ _ ?_; (conv => cbv)) | (refine rt _ _ ?_; (conv => cbv)) | (intro hcz; rw [nI_eq] at hcz; exact absurd hcz (by decide)) | (refine call_fr [0] hcal rfl rfl (by decide) (by repeat' first | exact trivial | refine And.intro ?_ ?_ | rfl) rfl rfl ?_; rintro r hc' ⟨ve2, no2, rr2, rfl, rfl, hno2⟩; (conv => cbv)) | exact gu | exact trivial | refine And.intro ?_ ?_ | (intro hc; exact absurd hc (by decide)) | (intro hc; exfalso; omega) | (intro hc; (first | rw [wrap_small (by omega) (by omega)] at hc | rw [nI_eq] at hc | skip); try (conv => cbv))
    rename_i i2
    refine norm _ _ (i2, ve2, no2, rr2, en) ?_ (Wk.ca)
    exact ⟨by simp only; omega, by omega, hno2, by omega, fun _ => by simp only; rw [hen, h0], by omega⟩
   | 1, _ =>
    obtain rfl : i = 1 := hi
    clear hK
    have h0 := hB rfl
    have hcal := ihb v ve no rr es hno (by have := hbd; have := congrArg List.length h0; simp only [List.length_append] at this; omega)
    rw [hob] at hcal
    obtain ⟨en, hen⟩ : ∃ en, en = es ++ ob := ⟨_, rfl⟩
    rw [← hen] at hcal
    clear iha ihb
    conv => cbv
    repeat' first | (refine ex _ _ _ ?_; (conv => cbv)) | (refine rt _ _ ?_; (conv => cbv)) | (intro hcz; rw [nI_eq] at hcz; exact absurd hcz (by decide)) | (refine call_fr [0] hcal rfl rfl (by decide) (by repeat' first | exact trivial | refine And.intro ?_ ?_ | rfl) rfl rfl ?_; rintro r hc' ⟨ve2, no2, rr2, rfl, rfl, hno2⟩; (conv => cbv)) | exact gu | exact trivial | refine And.intro ?_ ?_ | (intro hc; exact absurd hc (by decide)) | (intro hc; exfalso; omega) | (intro hc; (first | rw [wrap_small (by omega) (by omega)] at hc | rw [nI_eq] at hc | skip); try (conv => cbv))
    rename_i i2
    refine norm _ _ (i2, ve2, no2, rr2, en) ?_ (Wk.ca)
    exact ⟨by simp only; omega, by omega, hno2, by omega, by omega, fun _ => by simp only; rw [hen, h0]⟩
   | 2, _ =>
    have h0 := hC rfl
    conv => cbv
    repeat' first | (refine ex _ _ _ ?_; (conv => cbv)) | (refine rt _ _ ?_; (conv => cbv)) | exact gu | exact trivial | refine And.intro ?_ ?_ | (intro hc; exact absurd hc (by decide)) | (intro hc; exfalso; omega) | (intro hc; (first | rw [wrap_small (by omega) (by omega)] at hc | rw [nI_eq] at hc | skip); try (conv => cbv))
    exact hK _ _ ⟨ve, no, rr, rfl, by rw [h0]; simp only [List.append_assoc], by simp [hno, h0]; try omega⟩
  ·have hhk : hasK true 1 [(0, 0)] (.s (iD v)) sb = some false := by rw [← hsb, hasK_set, decide_eq_false hv]
   simp only [if_neg hv, List.nil_append, List.append_nil, List.map_append, List.map_nil, List.map_cons, encRt, List.length_append, List.length_map, List.length_nil, List.length_cons] at hK hbd
   obtain ⟨ss0, hss0⟩ : ∃ x, x = minL bs := ⟨_, rfl⟩
   rw [← hss0] at hK
   rw [← hss0] at hbd
   obtain ⟨oa, hoa⟩ : ∃ oa, List.map encRt (chooseS a ss0) = oa := ⟨_, rfl⟩
   obtain ⟨ob, hob⟩ : ∃ ob, List.map encRt (chooseS b ss0) = ob := ⟨_, rfl⟩
   have hla : oa.length = (chooseS a ss0).length := by rw [← hoa]; simp
   have hlb : ob.length = (chooseS b ss0).length := by rw [← hob]; simp
   rw [hoa, hob] at hK
   conv => cbv
   repeat' first | (have hso2 := hso; unfold setOk at hso2; exact hso2) | (intro (r' : Option Bool) hr'; cases hhk.symm.trans hr'; (conv => cbv)) | (refine call_fr [] hky rfl rfl (by decide) (by repeat' first | exact trivial | refine And.intro ?_ ?_ | rfl) rfl rfl ?_; rintro r hc' ⟨rfl, rfl⟩; (conv => cbv)) | (refine call_fr [1] hcol rfl rfl (by decide) (by repeat' first | exact trivial | refine And.intro ?_ ?_ | rfl) rfl rfl ?_; rintro r hc' ⟨ss, hss, rfl, rfl⟩; have hsm := hmin ss (fun e => hbs (by subst e; exact hss.symm.eq_nil)); rw [minL_perm hss, ← hss0] at hsm; simp only [intsA, intsD] at hsm; generalize ss.map encI = sl at *; (conv => cbv)) | (refine call_r hsm rfl rfl ?_; conv => cbv) | exact gu | exact trivial | refine And.intro ?_ ?_ | (intro hc; exact absurd hc (by decide)) | (intro hc; exfalso; omega) | (intro hc; (first | rw [wrap_small (by omega) (by omega)] at hc | rw [nI_eq] at hc | skip); try (conv => cbv))
   rename_i n1 r1 e1 hn1 hr1
   have he1 : e1 = e0 ++ [[u32D addr, iD len, iD ss0]] := by rw [hc, List.drop_zero, List.take_of_length_le (by omega)]
   have hn1f : n1 = e1.length := by rw [he1, List.length_append, hn1, hn]
   refine loop_up 2 (fun s : Int × Nat × Nat × Bool × List (List D) => [(1, iA ss0), (2, .c (.arr 0 s.2.1 0 s.2.2.1)), (35, .agg [.rp ca, .rp cb]), (36, iA s.1)])
    (fun s => [.da s.2.2.2.1 s.2.1 3 s.2.2.2.2])
    (fun k s => s.1 = k ∧ k ≤ 2 ∧ s.2.2.1 = s.2.2.2.2.length ∧ (k = 0 → s.2.2.2.2 = (e0 ++ [[u32D addr, iD len, iD ss0]])) ∧ (k = 1 → s.2.2.2.2 = (e0 ++ [[u32D addr, iD len, iD ss0]]) ++ oa) ∧ (k = 2 → s.2.2.2.2 = (e0 ++ [[u32D addr, iD len, iD ss0]]) ++ oa ++ ob)) (0, ver.succ, n1, r1, e1) (Wk.ca) ⟨rfl, by omega, hn1f, fun _ => he1, by omega, by omega⟩ (fun k s h => h.2.1) ?_
   rintro k ⟨i, ve, no, rr, es⟩ Q' ⟨hi, hk, hno, hA, hB, hC⟩ norm ex rt
   simp only at hi hno hA hB hC
   match k, hk with
   | 0, _ =>
    obtain rfl : i = 0 := hi
    clear hK
    have h0 := hA rfl
    have hcal := iha ss0 ve no rr es hno (by have := hbd; have := congrArg List.length h0; simp only [List.length_append, List.length_cons, List.length_nil] at this; omega)
    rw [hoa] at hcal
    obtain ⟨en, hen⟩ : ∃ en, en = es ++ oa := ⟨_, rfl⟩
    rw [← hen] at hcal
    clear iha ihb
    conv => cbv
    repeat' first | (refine ex _ _ _ ?_; (conv => cbv)) | (refine rt _ _ ?_; (conv => cbv)) | (intro hcz; rw [nI_eq] at hcz; exact absurd hcz (by decide)) | (refine call_fr [0] hcal rfl rfl (by decide) (by repeat' first | exact trivial | refine And.intro ?_ ?_ | rfl) rfl rfl ?_; rintro r hc' ⟨ve2, no2, rr2, rfl, rfl, hno2⟩; (conv => cbv)) | exact gu | exact trivial | refine And.intro ?_ ?_ | (intro hc; exact absurd hc (by decide)) | (intro hc; exfalso; omega) | (intro hc; (first | rw [wrap_small (by omega) (by omega)] at hc | rw [nI_eq] at hc | skip); try (conv => cbv))
    rename_i i2
    refine norm _ _ (i2, ve2, no2, rr2, en) ?_ (Wk.ca)
    exact ⟨by simp only; omega, by omega, hno2, by omega, fun _ => by simp only; rw [hen, h0], by omega⟩
   | 1, _ =>
    obtain rfl : i = 1 := hi
    clear hK
    have h0 := hB rfl
    have hcal := ihb ss0 ve no rr es hno (by have := hbd; have := congrArg List.length h0; simp only [List.length_append, List.length_cons, List.length_nil] at this; omega)
    rw [hob] at hcal
    obtain ⟨en, hen⟩ : ∃ en, en = es ++ ob := ⟨_, rfl⟩
    rw [← hen] at hcal
    clear iha ihb
    conv => cbv
    repeat' first | (refine ex _ _ _ ?_; (conv => cbv)) | (refine rt _ _ ?_; (conv => cbv)) | (intro hcz; rw [nI_eq] at hcz; exact absurd hcz (by decide)) | (refine call_fr [0] hcal rfl rfl (by decide) (by repeat' first | exact trivial | refine And.intro ?_ ?_ | rfl) rfl rfl ?_; rintro r hc' ⟨ve2, no2, rr2, rfl, rfl, hno2⟩; (conv => cbv)) | exact gu | exact trivial | refine And.intro ?_ ?_ | (intro hc; exact absurd hc (by decide)) | (intro hc; exfalso; omega) | (intro hc; (first | rw [wrap_small (by omega) (by omega)] at hc | rw [nI_eq] at hc | skip); try (conv => cbv))
    rename_i i2
    refine norm _ _ (i2, ve2, no2, rr2, en) ?_ (Wk.ca)
    exact ⟨by simp only; omega, by omega, hno2, by omega, by omega, fun _ => by simp only; rw [hen, h0]⟩
   | 2, _ =>
    have h0 := hC rfl
    conv => cbv
    repeat' first | (refine ex _ _ _ ?_; (conv => cbv)) | (refine rt _ _ ?_; (conv => cbv)) | exact gu | exact trivial | refine And.intro ?_ ?_ | (intro hc; exact absurd hc (by decide)) | (intro hc; exfalso; omega) | (intro hc; (first | rw [wrap_small (by omega) (by omega)] at hc | rw [nI_eq] at hc | skip); try (conv => cbv))
    exact hK _ _ ⟨ve, no, rr, rfl, by rw [h0]; simp only [List.append_assoc], by simp [hno, h0]; try omega⟩
end Go.Ab

/-
  Compressing, part j: copies, nil lists.
-/
namespace Go.Ab
open Go.Proofs
theorem FnS.nilA {P : Program} {f : Nat} {pre : List AV} {sz : Nat} {h : Hp} {R : AV → Hp → Prop} (hf : FnS P f (pre ++ [.c (.arr h.length 0 0 0)]) (h ++ [.da false 0 sz []]) R) : FnS P f (pre ++ [.c (.d (.list true sz []))]) h R := by
 refine ⟨fun G ι w vs hr hv => ?_⟩
 obtain ⟨q1, q2, q3⟩ := new_nil (sz := sz) hr
 refine (hf.out G _ w vs q1 ⟨by have := hv.1; simpa using this, fun i v u h1 h2 => ?_⟩).mono fun e w' ⟨v, r, G', ι', h', a1, a2, a3, a4, a5⟩ => ⟨v, r, G', ι', h', a1, a2, a3, a4, q3.trans a5⟩
 rcases Nat.lt_or_ge i pre.length with hi | hi
 ·rw [List.getElem?_append_left hi] at h2
  exact (hv.2 i v u h1 (by rw [List.getElem?_append_left hi]; exact h2)).ext q3 hr
 ·have hl := hv.1
  have hi2 := get_lt h1
  rw [hl, List.length_append, List.length_singleton] at hi2
  obtain rfl : i = pre.length := by omega
  rw [List.getElem?_append_right (by omega)] at h2
  simp at h2
  subst h2
  have hd := inv_d (hv.2 pre.length v _ h1 (by rw [List.getElem?_append_right (by omega)]; simp; rfl))
  rw [nil_value hd]
  exact q2
theorem FnS.nilR {P : Program} {f : Nat} {args : List AV} {sz : Nat} {h : Hp} {Q0 : Hp → Prop} {Q : AV → Hp → Prop} (hf : FnS P f args h fun r h' => (r = .c (.d (.list true sz [])) ∧ Q0 h') ∨ Q r h') :
  FnS P f args h fun r h' => (∃ h1, Q0 h1 ∧ r = .c (.arr h1.length 0 0 0) ∧ h' = h1 ++ [.da false 0 sz []]) ∨ Q r h' := by
 refine ⟨fun G ι w vs hr hv => (hf.out G ι w vs hr hv).mono fun e w' ⟨v, r, G', ι', h', a1, a2, a3, a4, a5⟩ => ?_⟩
 rcases a2 with ⟨rfl, h2⟩ | h2
 ·obtain ⟨q1, q2, q3⟩ := new_nil (sz := sz) a3
  rw [nil_value (inv_d a4)] at a1
  exact ⟨_, _, G', _, _, a1, .inl ⟨h', h2, rfl, rfl⟩, q1, q2, a5.trans q3⟩
 ·exact ⟨v, r, G', ι', h', a1, .inr h2, a3, a4, a5⟩
theorem FnS.retA {P : Program} {f : Nat} {args : List AV} {sz : Nat} {E : List (List D)} {x : AV} (hx : pureA x = true)
  (hf : FnS P f args [] fun r h' => (∃ k ve rr n, n = E.length ∧ r = .tup [.c (.arr k ve 0 n), x] ∧ h'[k]? = some (.da rr ve sz E)) ∨ (E = [] ∧ r = .tup [.c (.d (.list true sz [])), x])) :
  Ret P f args (.tup [.c (.d (.list false sz E)), x]) := by
 refine ⟨fun G ι w vs hr hv => (hf.out G ι w vs hr hv).mono fun e w2 ⟨u, r, G2, ι2, h', he, hc, hr2, hvr, hxt⟩ => ?_⟩
 have hp : pureA (.tup [.c (.d (.list false sz E)), x]) = true := by simp [pureA, pureA.pureAs, pureC, hx]
 rcases hc with ⟨k, ve, rr, n, rfl, rfl, hk⟩ | ⟨rfl, rfl⟩
 ·cases hvr with
  | tup cs _ hn hcs =>
   have hn : cs.size = 2 := hn
   have h0 := hcs 0 _ _ (Array.getElem?_eq_getElem (by omega)) rfl
   have hc := inv_c h0
   have hfz : frz h' (.arr k ve 0 E.length) = some (.list false sz E, h'.set k Blk.dead) := by
    simp [frz, hk]
   obtain ⟨G', q1, q2, q3⟩ := frz_sound hr2 hc hfz
   refine ⟨.tuple cs, _, G', ι2, _, he, ⟨hp, rfl⟩, q1, .tup cs _ hn (fun i y z hu hy => ?_), hxt.trans q3⟩
   match i, hy with
   | 0, hy =>
    cases hy
    rw [Array.getElem?_eq_getElem (by omega)] at hu
    cases hu
    exact .c _ _ (.d _ _ q2)
   | 1, hy => cases hy; exact (hcs 1 y _ hu rfl).ext q3 hr2
 ·cases hvr with
  | tup cs _ hn hcs =>
   refine ⟨.tuple cs, _, G2, ι2, _, he, ⟨hp, rfl⟩, hr2, .tup cs _ hn (fun i y z hu hy => ?_), hxt⟩
   match i, hy with
   | 0, hy =>
    cases hy
    have hd := inv_d (hcs 0 y _ hu rfl)
    generalize hg : D.list true sz [] = g at hd
    cases hd <;> first | (cases hg; done) | skip
    cases hg
    exact .c _ _ (.d _ _ (.nils _ _))
   | 1, hy => cases hy; exact hcs 1 y _ hu rfl
theorem cloneR_ok (P : Program) (hP : P = Try.prog) (l : List Rt) (hl : l.length ≤ 1000000) : FnS P n_slices_Clone_api_Route_api_Route [rtsA l] [] fun r h' => ∃ n rr ve, n = l.length ∧ r = .c (.arr 0 ve 0 n) ∧ h' = [.da rr ve 3 (l.map encRt)] := by
 have h1 : FnS P n_slices_Clone_api_Route_api_Route [rtsA l] [] fun r h' => (r = .c (.d (.list true 3 [])) ∧ (l = [] ∧ h' = [])) ∨ ∃ n rr ve, n = l.length ∧ r = .c (.arr 0 ve 0 n) ∧ h' = [.da rr ve 3 (l.map encRt)] := by
  refine heap_start (hP ▸ mixed) (hP ▸ fn_slices_Clone_api_Route_api_Route) (hP ▸ c_slices_Clone_api_Route_api_Route) (Nat.le_of_ble_eq_true rfl) fun Λ Λo K hK => ?_
  clear hP
  simp only [rtsA, rtsD] at *
  have lln : (l.map encRt).length = l.length := by simp
  have l0 : l.map encRt = [] → l = [] := fun h => by simpa using h
  generalize l.map encRt = ll at *
  have k1 : ∀ n rr ve es, es = ll → n = ll.length → K (.c (.arr 0 ve 0 n)) [Blk.da rr ve 3 es] := by
   intro n rr ve es h1 h2; subst h1; exact hK _ _ (.inr ⟨n, rr, ve, by omega, rfl, rfl⟩)
  have k0 : l = [] → K (.c (.d (.list true 3 []))) [] := fun h => hK _ _ (.inl ⟨rfl, h, rfl⟩)
  clear hK
  have lln2 := Λo ll
  conv => cbv
  repeat' first | exact gu | exact trivial | refine And.intro ?_ ?_ | (intro hc; exact absurd hc (by decide)) | (intro hc; exfalso; omega) | (intro hc; (first | rw [wrap_small (by omega) (by omega)] at hc | rw [nI_eq] at hc | skip); try (conv => cbv))
  all_goals first
   | exact k0 (l0 (by assumption))
   | exact k1 _ _ _ _ (by rw [hc]; simp) (by omega)
 refine (FnS.nilR h1).mono ?_
 rintro r h' (⟨h1, ⟨rfl, rfl⟩, rfl, rfl⟩ | h)
 ·exact ⟨0, false, 0, rfl, rfl, rfl⟩
 ·exact h
end Go.Ab

/-
  Comparing the versions of blocks.
-/
namespace Go.Ab
open Go.Proofs
theorem bq_self (n : Nat) : Nat.beq n n = true := Nat.beq_refl n
theorem bq_old (n : Nat) : Nat.beq n n.succ = false := by
 rw [Bool.eq_false_iff]; intro h; have := Nat.eq_of_beq_eq_true h; omega
theorem bq_lit (a b : Nat) : Nat.beq a b = decide (a = b) := by
 by_cases h : a = b
 ·subst h; simp
 ·rw [decide_eq_false h, Bool.eq_false_iff]; exact fun h' => h (Nat.eq_of_beq_eq_true h')
end Go.Ab

/-
  Compressing, part k: Compress.
-/
namespace Go.Ab
open Go.Proofs
instance (p q : Pfx) : Decidable (ltP p q) := inferInstanceAs (Decidable (_ ∨ _))
theorem ltP_trans {p q r : Pfx} (h1 : ltP p q) (h2 : ltP q r) : ltP p r := by unfold ltP at *; omega
theorem ltP_irrefl (p : Pfx) : ¬ ltP p p := by unfold ltP; omega
theorem ltP_tri {p q : Pfx} (h : p ≠ q) : ltP p q ∨ ltP q p := by
 unfold ltP
 have : ¬ (p.addr = q.addr ∧ p.len = q.len) := fun e => h (Pfx.ext' e.1 e.2)
 omega
def insR (x : Rt) : List Rt → List Rt
 | [] => [x]
 | y :: r => if ltP x.p y.p then x :: y :: r else y :: insR x r
def sortR (l : List Rt) : List Rt := l.foldr insR []
theorem insR_perm (x : Rt) : ∀ l : List Rt, (insR x l).Perm (x :: l)
 | [] => .refl _
 | y :: r => by
  rw [insR]
  split
  ·exact .refl _
  ·exact ((insR_perm x r).cons y).trans (.swap x y r)
theorem sortR_perm : ∀ l : List Rt, (sortR l).Perm l
 | [] => .refl _
 | x :: r => (insR_perm x (sortR r)).trans ((sortR_perm r).cons x)
theorem insR_srt {x : Rt} : ∀ {l : List Rt}, SrtR l → (∀ r ∈ l, r.p ≠ x.p) → SrtR (insR x l)
 | [], _, _ => List.pairwise_singleton _ _
 | y :: r, h, hn => by
  obtain ⟨h1, h2⟩ := List.pairwise_cons.1 h
  rw [insR]
  split
  ·rename_i hx
   exact List.pairwise_cons.2 ⟨fun z hz => by
    rcases List.mem_cons.1 hz with rfl | hz
    ·exact hx
    ·exact ltP_trans hx (h1 z hz), h⟩
  ·rename_i hx
   refine List.pairwise_cons.2 ⟨fun z hz => ?_, insR_srt h2 fun r hr => hn r (List.mem_cons_of_mem _ hr)⟩
   rcases List.mem_cons.1 ((insR_perm x r).mem_iff.1 hz) with rfl | hz
   ·exact (ltP_tri (hn y (by simp))).resolve_right hx
   ·exact h1 z hz
theorem sortR_srt : ∀ {l : List Rt}, (l.map (·.p)).Nodup → SrtR (sortR l)
 | [], _ => List.Pairwise.nil
 | x :: r, h => by
  rw [List.map_cons, List.nodup_cons] at h
  refine insR_srt (sortR_srt h.2) fun y hy e => h.1 ?_
  exact List.mem_map.2 ⟨y, (sortR_perm r).mem_iff.1 hy, e⟩
theorem srt_eq : ∀ {a b : List Rt}, SrtR a → SrtR b → a.Perm b → a = b
 | [], b, _, _, h => by rw [h.symm.eq_nil]
 | x :: a, [], _, _, h => absurd h.eq_nil (by simp)
 | x :: a, y :: b, ha, hb, h => by
  obtain ⟨a1, a2⟩ := List.pairwise_cons.1 ha
  obtain ⟨b1, b2⟩ := List.pairwise_cons.1 hb
  have e : x = y := by
   rcases List.mem_cons.1 (h.mem_iff.1 (List.mem_cons_self)) with e | h1
   ·exact e
   ·rcases List.mem_cons.1 (h.mem_iff.2 (List.mem_cons_self)) with e | h2
    ·exact e.symm
    ·exact absurd (ltP_trans (a1 y h2) (b1 x h1)) (ltP_irrefl _)
  subst e
  rw [srt_eq a2 b2 ((List.perm_cons x).1 h)]
theorem sort_uniq {l s : List Rt} (hn : (l.map (·.p)).Nodup) (hp : s.Perm l) (hw : s.Pairwise fun a b => ¬ cmpP b.p a.p < 0) : s = sortR l := by
 refine srt_eq ?_ (sortR_srt hn) (hp.trans (sortR_perm l).symm)
 have hns : (s.map (·.p)).Nodup := (hp.map _).nodup_iff.2 hn
 have h2 : s.Pairwise fun a b => a.p ≠ b.p := List.pairwise_map.1 hns
 refine (hw.and h2).imp fun ⟨q1, q2⟩ => ?_
 exact (ltP_tri q2).resolve_right fun h3 => q1 (cmpP_lt.2 h3)
def root : Pfx := ⟨0, 0⟩
def tblS (l : List Rt) : List Rt := chooseS (divS 32 root 0 (sortR l)) 0
def compS (l : List Rt) : List Rt := if validR l then tblS l else []
theorem leaves_le : ∀ (k : Nat) (p : Pfx) (v : Int) (l : List Rt), leaves (divS k p v l) ≤ 1 + k * l.length := by
 intro k
 induction k with
 | zero => intro p v l; simp [divS, leaves]
 | succ k ih =>
  intro p v l
  rw [divS]
  split
  ·simp [leaves]
  ·rename_i hne
   have h1 := ih (loP p) (headV p v l) ((dropH p l).take (cntP (loP p) (dropH p l)))
   have h2 := ih (hiP p) (headV p v l) ((dropH p l).drop (cntP (loP p) (dropH p l)))
   have h3 : (dropH p l).length ≤ l.length := by
    cases l with
    | nil => simp [dropH]
    | cons r l => rw [dropH]; split <;> simp
   have h4 : 1 ≤ (dropH p l).length := List.length_pos_iff.2 hne
   rw [leaves]
   rw [List.length_take] at h1
   rw [List.length_drop] at h2
   generalize cntP (loP p) (dropH p l) = c at *
   generalize (dropH p l).length = m at *
   have h5 : k * min c m + k * (m - c) = k * m := by rw [← Nat.mul_add]; congr 1; omega
   have h6 : k * m ≤ k * l.length := Nat.mul_le_mul_left k h3
   rw [Nat.succ_mul]
   omega
theorem choose_len : ∀ (t : Prt) (v : Int), (chooseS t v).length + 1 ≤ 2 * leaves t
 | .leaf p w, v => by rw [chooseS, leaves]; split <;> simp
 | .node p a b, v => by
  have h1 := choose_len a
  have h2 := choose_len b
  rw [chooseS, leaves, List.length_append, List.length_append]
  have := h1 (if v ∈ combineS a.best b.best then v else minL (combineS a.best b.best))
  have := h2 (if v ∈ combineS a.best b.best then v else minL (combineS a.best b.best))
  have e : (if v ∈ combineS a.best b.best then [] else [(⟨p, minL (combineS a.best b.best)⟩ : Rt)]).length ≤ 1 := by split <;> simp
  omega
theorem rng_div : ∀ (k : Nat) (p : Pfx) (v : Int) (l : List Rt), (-9223372036854775808 ≤ v ∧ v ≤ 9223372036854775807) → (∀ r ∈ l, -9223372036854775808 ≤ r.val ∧ r.val ≤ 9223372036854775807) → rngT (divS k p v l) := by
 have hh : ∀ (p : Pfx) (v : Int) (l : List Rt), (-9223372036854775808 ≤ v ∧ v ≤ 9223372036854775807) → (∀ r ∈ l, -9223372036854775808 ≤ r.val ∧ r.val ≤ 9223372036854775807) → (-9223372036854775808 ≤ headV p v l ∧ headV p v l ≤ 9223372036854775807) := by
  intro p v l h1 h2
  cases l with
  | nil => exact h1
  | cons r l =>
   rw [headV]
   split
   ·exact h2 r (by simp)
   ·exact h1
 have hd : ∀ (p : Pfx) (l : List Rt) (r : Rt), r ∈ dropH p l → r ∈ l := by
  intro p l r hr
  cases l with
  | nil => exact hr
  | cons x l =>
   rw [dropH] at hr
   split at hr
   ·exact List.mem_cons_of_mem _ hr
   ·exact hr
 intro k
 induction k with
 | zero => intro p v l h1 h2; exact hh p v l h1 h2
 | succ k ih =>
  intro p v l h1 h2
  rw [divS]
  split
  ·exact hh p v l h1 h2
  ·exact ⟨ih _ _ _ (hh p v l h1 h2) fun r hr => h2 r (hd p l r (List.mem_of_mem_take hr)), ih _ _ _ (hh p v l h1 h2) fun r hr => h2 r (hd p l r (List.mem_of_mem_drop hr))⟩
def InR (l : List Rt) : Prop := ∀ r ∈ l, inU r.p.addr ∧ (-9223372036854775808 ≤ r.val ∧ r.val ≤ 9223372036854775807)
theorem cov_root {p : Pfx} (hu : inU p.addr) (hv : validP p = true) : covP root p = true := by
 refine cov_spec.2 ⟨hv, by decide, ?_, (valid_spec.1 hv).1⟩
 obtain ⟨h1, h2⟩ := hu
 have e : szP root.len = 4294967296 := rfl
 rw [e]
 exact ⟨h1, by simp only [root]; omega⟩
theorem pre_root {l : List Rt} (hu : InR l) (hv : validR l = true) : PreD root (sortR l) := by
 obtain ⟨h1, h2⟩ := validR_spec.1 hv
 refine ⟨⟨Int.le_refl _, by decide⟩, by decide, fun r hr => ?_, sortR_srt h2⟩
 have hm := (sortR_perm l).mem_iff.1 hr
 exact ⟨(hu r hm).1, cov_root (hu r hm).1 (h1 r hm).1⟩
theorem choose0_ok (P : Program) (hP : P = Try.prog) (t : Prt) (hb : (chooseS t 0).length ≤ 1000000) (hr : rngT t) (hl : leaves t ≤ 1000000) :
  FnS P n_compress_part_choose [.c (.rp (treeCs t)), iA 0, .c (.d (.list true 3 []))] [] fun r h' => ∃ (ve2 no2 : Nat) (rr2 : Bool), no2 = (chooseS t 0).length ∧ r = .c (.arr 0 ve2 0 no2) ∧ h' = [.da rr2 ve2 3 ((chooseS t 0).map encRt)] := by
 refine (FnS.nilA (pre := [.c (.rp (treeCs t)), iA 0]) (h := []) (choose_ok P hP t 0 0 0 false [] rfl (by simpa using hb) hr hl)).mono ?_
 rintro r h' ⟨ve2, no2, rr2, h1, h2, h3⟩
 exact ⟨ve2, no2, rr2, by rw [h3]; simp, h1, by rw [h2]; simp⟩
set_option maxHeartbeats 1000000 in
theorem compress_ok (P : Program) (hP : P = Try.prog) (l : List Rt) (hu : InR l) (hl : l.length ≤ 10000) : Ret P n_compress_Compress [rtsA l] (.tup [rtsA (compS l), iA (if validR l then 0 else 1)]) := by
 refine FnS.retA (x := iA (if validR l then 0 else 1)) rfl ?_
 have hva := cvalid_ok P hP l fun r hr => (hu r hr).1
 have hcl := cloneR_ok P hP l (by omega)
 have hso : ∀ (n : Nat) (rr : Bool) (ve : Nat) (es : List (List D)), validR l = true → n = l.length → es = l.map encRt →
   FnS P n_slices_SortFunc_api_Route_api_Route [.c (.arr 0 ve 0 n), .c (.fn false n_compress_Compress_1 [])] [.da rr ve 3 es] fun r' h' => ∃ es', es' = (sortR l).map encRt ∧ r' = .tup [] ∧ h' = [.da rr ve 3 es'] := by
  rintro n rr ve es hv rfl rfl
  refine (sortF_fn (hP ▸ sorts_f) (ccmp_lays P hP) l (by omega) rr ve).mono ?_
  rintro r' h' ⟨h1, l', h2, h3, h4⟩
  exact ⟨_, rfl, h1, by rw [h4, sort_uniq (validR_spec.1 hv).2 h2 h3]⟩
 have hsl : (sortR l).length = l.length := (sortR_perm l).length_eq
 have hdv := fun hv => divide_ok P hP 32 root 0 (sortR l) (pre_root hu hv) rfl (by omega)
 have hlv : leaves (divS 32 root 0 (sortR l)) ≤ 400000 := by have := leaves_le 32 root 0 (sortR l); omega
 have hch := choose0_ok P hP (divS 32 root 0 (sortR l)) (by have := choose_len (divS 32 root 0 (sortR l)) 0; omega) (rng_div _ _ _ _ (by omega) fun r hr => (hu r ((sortR_perm l).mem_iff.1 hr)).2) (by omega)
 have hcs : validR l = true → compS l = chooseS (divS 32 root 0 (sortR l)) 0 := fun h => by rw [compS, if_pos h]; rfl
 have hcn : validR l = false → compS l = [] := fun h => by rw [compS, if_neg (by rw [h]; decide)]
 refine heap_start (hP ▸ mixed) (hP ▸ fn_compress_Compress) (hP ▸ c_compress_Compress) (Nat.le_of_ble_eq_true rfl) fun Λ Λo K hK => ?_
 clear hP
 have hno : validR l = false → K (.tup [.c (.d (.list true 3 [])), iA 1]) [] := fun h => hK _ _ (.inr ⟨by rw [hcn h]; rfl, by rw [if_neg (by rw [h]; decide)]⟩)
 have hyes : ∀ n rr ve b es, validR l = true → n = (chooseS (divS 32 root 0 (sortR l)) 0).length → es = (chooseS (divS 32 root 0 (sortR l)) 0).map encRt → K (.tup [.c (.arr 1 ve 0 n), iA 0]) [b, .da rr ve 3 es] := by
  intro n rr ve b es h h1 h2
  subst h2
  exact hK _ _ (.inl ⟨1, ve, rr, n, by rw [hcs h, List.length_map]; exact h1, by rw [if_pos h], by rw [hcs h]; rfl⟩)
 clear hK hcs hcn
 simp only [rtsA, rtsD] at *
 generalize chooseS (divS 32 root 0 (sortR l)) 0 = C at *
 generalize cle : C.map encRt = cl at *
 generalize treeCs (divS 32 root 0 (sortR l)) = T at *
 generalize sle : (sortR l).map encRt = sl at *
 have sll : sl.length = l.length := by rw [← sle, List.length_map, hsl]
 have lle : (l.map encRt).length = l.length := List.length_map _
 generalize llh : l.map encRt = ll at *
 generalize validR l = vl at *
 conv => cbv
 repeat' first | refine call_b hva rfl rfl ?_ ?_ | (refine call_fr [] hcl rfl rfl (by decide) (by repeat' first | exact trivial | refine And.intro ?_ ?_ | rfl) rfl rfl ?_; rintro r hc' ⟨n, rr, ve, hn, rfl, rfl⟩; (conv => cbv)) | (refine call_fr [0] (hso _ _ _ _ (by assumption) hn rfl) rfl rfl (by decide) (by repeat' first | exact trivial | refine And.intro ?_ ?_ | rfl) rfl rfl ?_; rintro r hc' ⟨es', hes', rfl, rfl⟩; subst hes'; (conv => cbv)) | ((refine call_z 0 (ve) 3 n rfl (by rw [hn]; omega) (by simp [okL, okA, okCs, okC, bq_lit]) (by first | (simp [okH, okB, okCs, okC]; done) | simp [okH, okB, okCs, okC, bq_lit]) ?_; simp only [zL, zA, zCs, zC, zH, zB, bq_self, bq_old]; conv => cbv); refine call_r (hdv (by assumption)) rfl rfl ?_; (conv => cbv)) | (refine call_fr [] hch rfl rfl (by decide) (by repeat' first | exact trivial | refine And.intro ?_ ?_ | rfl) rfl rfl ?_; rintro r hc' ⟨ve2, no2, rr2, hno2, rfl, rfl⟩; (conv => cbv)) | exact gu | exact trivial | refine And.intro ?_ ?_ | (intro hc; exact absurd hc (by decide)) | (intro hc; exfalso; omega) | (intro hc; (first | rw [wrap_small (by omega) (by omega)] at hc | rw [nI_eq] at hc | skip); try (conv => cbv))
 ·exact hyes _ _ _ _ _ (by assumption) hno2 rfl
 ·exact hno (by assumption)
end Go.Ab

/-
  Compressing, part l: the reference's tables.
-/
namespace Go.Ab
open Go.Proofs
set_option maxHeartbeats 4000000 in
theorem rvalidR_ok (P : Program) (hP : P = Try.prog) (l : List Rt) (hu : ∀ r ∈ l, inU r.p.addr) : Ret P n_ref06_Valid [rtsA l] (bA (validR l)) := by
 have hva := fun p h => rvalid04_ok P hP p h
 refine ret_start (hP ▸ mixed) (hP ▸ fn_ref06_Valid) (hP ▸ c_ref06_Valid) (Nat.le_of_ble_eq_true rfl) fun Λ Λo K hK => ?_
 clear hP
 have yes : (∀ r ∈ l, validP r.p = true ∧ 0 ≤ r.val) → (l.map (·.p)).Nodup → K (bA true) := fun h1 h2 => by rw [validR_spec.2 ⟨h1, h2⟩] at hK; exact hK
 have no : ¬ ((∀ r ∈ l, validP r.p = true ∧ 0 ≤ r.val) ∧ (l.map (·.p)).Nodup) → K (bA false) := fun h => by
  rw [show validR l = false from Bool.eq_false_iff.2 fun h' => h (validR_spec.1 h')] at hK; exact hK
 clear hK
 have no1 : ∀ p ∈ l, ¬ (validP p.p = true ∧ 0 ≤ p.val) → K (bA false) := fun p hp h => no fun h' => h (h'.1 p hp)
 have no2 : ¬ (l.map (·.p)).Nodup → K (bA false) := fun h => no fun h' => h h'.2
 clear no
 simp only [rtsA, rtsD] at *
 generalize rlh : l.map encRt = rl at *
 have rln : Λ rl = l.length := by rw [Λo, ← rlh]; simp
 generalize validP = pv at *
 conv => cbv
 repeat' first | exact gu | exact trivial | refine And.intro ?_ ?_ | (intro hc; exact absurd hc (by decide)) | (intro hc; exfalso; omega) | (intro hc; (first | rw [wrap_small (by omega) (by omega)] at hc | rw [nI_eq] at hc | skip); try (conv => cbv))
 refine loop_up l.length (fun (i : Int) => [(0, .c (.d (.list false 3 rl))), (3, iA i)]) (fun _ => [])
  (fun k i => i = k ∧ k ≤ l.length ∧ (∀ r ∈ l.take k, pv r.p = true ∧ 0 ≤ r.val) ∧ ((l.take k).map (·.p)).Nodup) 0 (Wk.cw) ⟨rfl, by omega, by simp, by simp⟩ (fun k s h => h.2.1) ?_
 rintro k i Q' ⟨hi, hk, hok, hnd⟩ norm ex rt
 by_cases hlt : k < l.length
 ·obtain ⟨x, hx⟩ : ∃ x, l[k]? = some x := ⟨_, List.getElem?_eq_getElem hlt⟩
  have hxa := elt_at rlh hi hx
  have hxm := List.mem_of_getElem? hx
  have hdup : x.p ∈ (l.take k).map (·.p) → K (bA false) := fun h => no2 (dupR_no hx h)
  have hbad := no1 x hxm
  have hnds := (nodup_takeR hx).2
  have htk := take_succ_get hx
  have hvx := hva x.p (hu x hxm)
  obtain ⟨⟨addr, len⟩, val⟩ := x
  simp only [encRt] at hxa
  simp only [pfA] at hvx
  simp only at hdup hnds hbad
  conv => cbv
  repeat' first | (refine ex _ _ _ ?_; (conv => cbv)) | (refine rt _ _ ?_; (conv => cbv)) | (intro e he; cases Option.some.inj (he.symm.trans hxa); (conv => cbv)) | refine call_b hvx rfl rfl ?_ ?_ | exact gu | exact trivial | refine And.intro ?_ ?_ | (intro hc; exact absurd hc (by decide)) | (intro hc; exfalso; omega) | (intro hc; (first | rw [wrap_small (by omega) (by omega)] at hc | rw [nI_eq] at hc | skip); try (conv => cbv))
  all_goals try first
   | (refine hbad ?_; intro hb; omega)
   | (refine hbad ?_; intro hb; exact absurd hb.1 (by rw [‹pv _ = false›]; decide))
  have hvt : pv ⟨addr, len⟩ = true := by assumption
  have h0v : 0 ≤ val := by omega
  clear hbad hvx hva
  have norm0 := norm
  have rt0 := rt
  have ex0 := ex
  clear norm rt ex
  refine loop_up k (fun (j : Int) => [(0, .c (.d (.list false 3 rl))), (3, iA i), (4, iA j)]) (fun _ => [])
   (fun m j => j = m ∧ m ≤ k ∧ ∀ r ∈ l.take m, r.p ≠ ⟨addr, len⟩) 0 (Wk.cw) ⟨rfl, by omega, by simp⟩ (fun k s h => h.2.1) ?_
  rintro m j Q2 ⟨hj, hm, hne⟩ norm ex rt
  by_cases hlm : m < k
  ·obtain ⟨y, hy⟩ : ∃ y, l[m]? = some y := ⟨_, List.getElem?_eq_getElem (by omega)⟩
   have hya := elt_at rlh hj hy
   have hym : y ∈ l.take k := List.mem_iff_getElem?.2 ⟨m, by rw [List.getElem?_take_of_lt hlm]; exact hy⟩
   have hyd : y.p = ⟨addr, len⟩ → K (bA false) := fun e => hdup (List.mem_map.2 ⟨y, hym, e⟩)
   have htm := take_succ_get hy
   have hyp : ∀ p : Pfx, y.p ≠ p → ∀ r ∈ l.take (m + 1), (∀ r ∈ l.take m, r.p ≠ p) → r.p ≠ p := fun p hn r hr h => by
    rw [htm, List.mem_append, List.mem_singleton] at hr
    rcases hr with h1 | rfl
    ·exact h r h1
    ·exact hn
   have heq := eqc_pfx y.p ⟨addr, len⟩
   obtain ⟨⟨ya, yl⟩, yv⟩ := y
   simp only [encRt] at hya
   simp only at hyd hyp heq
   conv => cbv
   repeat' first | (refine ex _ _ _ ?_; (conv => cbv)) | (refine rt _ _ ?_; (conv => cbv)) | (intro e he; cases Option.some.inj (he.symm.trans hxa); (conv => cbv)) | (intro e he; cases Option.some.inj (he.symm.trans hya); (conv => cbv)) | exact gu | exact trivial | refine And.intro ?_ ?_ | (intro hc; exact absurd hc (by decide)) | (intro hc; exfalso; omega) | (intro hc; (first | rw [wrap_small (by omega) (by omega)] at hc | rw [nI_eq] at hc | skip); try (conv => cbv))
   ·refine rt0 _ _ ?_
    conv => cbv
    have hc2 : ya = addr ∧ yl = len ∧ True := by assumption
    exact hyd (by rw [hc2.1, hc2.2.1])
   ·refine norm _ _ _ ?_ (Wk.cw)
    have hc2 : ¬ (ya = addr ∧ yl = len ∧ True) := by assumption
    exact ⟨by omega, by omega, fun r hr => hyp _ (fun e => hc2 (by injection e with e1 e2; exact ⟨e1, e2, trivial⟩)) r hr hne⟩
  ·conv => cbv
   repeat' first | (refine ex _ _ _ ?_; (conv => cbv)) | (refine rt _ _ ?_; (conv => cbv)) | exact gu | exact trivial | refine And.intro ?_ ?_ | (intro hc; exact absurd hc (by decide)) | (intro hc; exfalso; omega) | (intro hc; (first | rw [wrap_small (by omega) (by omega)] at hc | rw [nI_eq] at hc | skip); try (conv => cbv))
   refine norm0 _ _ _ ?_ (Wk.cw)
   obtain rfl : m = k := by omega
   refine ⟨by omega, by omega, fun p hp => ?_, hnds ⟨hnd, fun h => ?_⟩⟩
   ·rcases (show p ∈ l.take m ∨ p = ⟨⟨addr, len⟩, val⟩ by rw [htk] at hp; simpa using hp) with h | h
    ·exact hok p h
    ·rw [h]; exact ⟨hvt, h0v⟩
   ·obtain ⟨r, hr, e⟩ := List.mem_map.1 h
    exact hne r hr e
 ·conv => cbv
  repeat' first | (refine ex _ _ _ ?_; (conv => cbv)) | (refine rt _ _ ?_; (conv => cbv)) | exact gu | exact trivial | refine And.intro ?_ ?_ | (intro hc; exact absurd hc (by decide)) | (intro hc; exfalso; omega) | (intro hc; (first | rw [wrap_small (by omega) (by omega)] at hc | rw [nI_eq] at hc | skip); try (conv => cbv))
  have ht : l.take k = l := List.take_of_length_le (by omega)
  rw [ht] at hok hnd
  exact yes hok hnd
end Go.Ab

/-
  Compressing, part r: the plain law: values, costs.
-/
namespace Go.Ab
open Go.Proofs
/-! the value of an address -/
/-! costs -/
def hit (a b : List Int) : Int := if a.any (fun v => decide (v ∈ b)) then 0 else 1
/-! the reference's costs -/
end Go.Ab

/-
  Compressing, part s: the plain law: the table that is chosen.
-/
namespace Go.Ab
open Go.Proofs
/-! the tree -/
/-! what is chosen -/
/-! the table of a list -/
/-! no table is smaller -/
/-! equal tables -/
theorem tbl_perm {a b : List Rt} (hp : a.Perm b) (hv : validR a = true) : validR b = true ∧ tblS a = tblS b := by
 obtain ⟨h1, h2⟩ := validR_spec.1 hv
 have hn : (b.map (·.p)).Nodup := (hp.map _).nodup_iff.1 h2
 refine ⟨validR_spec.2 ⟨fun r hr => h1 r (hp.mem_iff.2 hr), hn⟩, ?_⟩
 rw [tblS, tblS, srt_eq (sortR_srt h2) (sortR_srt hn) ((sortR_perm a).trans (hp.trans (sortR_perm b).symm))]
end Go.Ab

