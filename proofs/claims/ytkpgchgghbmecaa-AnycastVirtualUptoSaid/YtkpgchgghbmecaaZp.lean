/-
  Merged texts, part p.
-/
import Derived.Test.YtkpgchgghbmecaaZo
import Derived.Shelf.Sort.Plain
import Derived.Shelf.Slices.In.SortNone
import Derived.Ground.NamesProg
import Derived.Ground.Names2Prog
import Derived.Test.YtkpgchgghbmecaaProg
/-
  The contract of slices.Sort at this program (written by the kit's lay-plain tool).
-/
namespace Go.Proofs
open Go.Shelf
def Try.lays189_ren : Go.Shelf.Ren := ⟨fun | 189 => 36 | 125 => 52 | 257 => 51 | 128 => 75 | 129 => 76 | 294 => 66 | 295 => 67 | 296 => 68 | 297 => 69 | 298 => 70 | 299 => 71 | 216 => 72 | 300 => 73 | 301 => 74 | 328 => 82 | 329 => 83 | 330 => 84 | 331 => 85 | 332 => 86 | 215 => 87 | 343 => 90 | n => n, fun | 28 => 26 | 3 => 3 | 46 => 69 | 0 => 0 | 51 => 89 | 53 => 91 | 4 => 4 | 183 => 81 | 182 => 80 | 131 => 86 | 5 => 5 | 9 => 9 | 218 => 99 | 222 => 103 | 228 => 109 | 229 => 110 | n => n, fun | n => n⟩
theorem Try.lays189 : Go.Proofs.Lays.n189 Try.prog Try.lays189_ren := {
  mixed := by kernel_rfl
  f125 := Try.func52.trans (congrArg some (by kernel_rfl))
  f128 := Try.func75.trans (congrArg some (by kernel_rfl))
  f129 := Try.func76.trans (congrArg some (by kernel_rfl))
  f189 := Try.func36.trans (congrArg some (by kernel_rfl))
  f215 := Try.func87.trans (congrArg some (by kernel_rfl))
  f216 := Try.func72.trans (congrArg some (by kernel_rfl))
  f257 := Try.func51.trans (congrArg some (by kernel_rfl))
  f294 := Try.func66.trans (congrArg some (by kernel_rfl))
  f295 := Try.func67.trans (congrArg some (by kernel_rfl))
  f296 := Try.func68.trans (congrArg some (by kernel_rfl))
  f297 := Try.func69.trans (congrArg some (by kernel_rfl))
  f298 := Try.func70.trans (congrArg some (by kernel_rfl))
  f299 := Try.func71.trans (congrArg some (by kernel_rfl))
  f300 := Try.func73.trans (congrArg some (by kernel_rfl))
  f301 := Try.func74.trans (congrArg some (by kernel_rfl))
  f328 := Try.func82.trans (congrArg some (by kernel_rfl))
  f329 := Try.func83.trans (congrArg some (by kernel_rfl))
  f330 := Try.func84.trans (congrArg some (by kernel_rfl))
  f331 := Try.func85.trans (congrArg some (by kernel_rfl))
  f332 := Try.func86.trans (congrArg some (by kernel_rfl))
  f343 := Try.func90.trans (congrArg some (by kernel_rfl))
  t0 := Try.underlying0
  a0 := Try.isAgg0
  z0 := Try.sizeOf0
  v0 := Try.zeroValue0
  t3 := Try.underlying3
  a3 := Try.isAgg3
  z3 := Try.sizeOf3
  v3 := Try.zeroValue3
  t4 := Try.underlying4
  a4 := Try.isAgg4
  z4 := Try.sizeOf4
  v4 := Try.zeroValue4
  t5 := Try.underlying5
  a5 := Try.isAgg5
  z5 := Try.sizeOf5
  v5 := Try.zeroValue5
  t9 := Try.underlying9
  a9 := Try.isAgg9
  z9 := Try.sizeOf9
  v9 := Try.zeroValue9
  t28 := Try.underlying26
  a28 := Try.isAgg26
  z28 := Try.sizeOf26
  v28 := Try.zeroValue26
  t46 := Try.underlying69
  a46 := Try.isAgg69
  z46 := Try.sizeOf69
  v46 := Try.zeroValue69
  t51 := Try.underlying89
  a51 := Try.isAgg89
  z51 := Try.sizeOf89
  v51 := Try.zeroValue89
  t53 := Try.underlying91
  a53 := Try.isAgg91
  z53 := Try.sizeOf91
  v53 := Try.zeroValue91
  t131 := Try.underlying86
  a131 := Try.isAgg86
  z131 := Try.sizeOf86
  v131 := Try.zeroValue86
  t182 := Try.underlying80
  a182 := Try.isAgg80
  z182 := Try.sizeOf80
  v182 := Try.zeroValue80
  t183 := Try.underlying81
  a183 := Try.isAgg81
  z183 := Try.sizeOf81
  v183 := Try.zeroValue81
  t218 := Try.underlying99
  a218 := Try.isAgg99
  z218 := Try.sizeOf99
  v218 := Try.zeroValue99
  t222 := Try.underlying103
  a222 := Try.isAgg103
  z222 := Try.sizeOf103
  v222 := Try.zeroValue103
  t228 := Try.underlying109
  a228 := Try.isAgg109
  z228 := Try.sizeOf109
  v228 := Try.zeroValue109
  t229 := Try.underlying110
  a229 := Try.isAgg110
  z229 := Try.sizeOf110
  v229 := Try.zeroValue110 }
end Go.Proofs

/-
  Sort of numbers at this program.
-/
namespace Go.Ab
open Go.Proofs Go.Sort
theorem sorts_int : SortsI Try.prog n_slices_Sort_int_int := ⟨fun blk off cap zs w hH hb hz => Any.slices_Sort_int Try.lays189 blk off cap zs w hH hb hz, fun p cap w => Any.slices_Sort_int_none Try.lays189 p cap w⟩
end Go.Ab

/-
  Compact of numbers.
-/
namespace Go.Ab
open Go.Proofs
theorem compL_snoc : ∀ (l : List Int) (x y : Int), compL (l ++ [x, y]) = if x = y then compL (l ++ [x]) else compL (l ++ [x]) ++ [y]
 | [], x, y => by
  simp only [List.nil_append, compL]
  split
  ·rename_i e; rw [e]
  ·rfl
 | [a], x, y => by
  have ih := compL_snoc [] x y
  simp only [List.nil_append] at ih
  simp only [List.cons_append, List.nil_append]
  rw [show compL [a, x, y] = if a = x then compL [x, y] else a :: compL [x, y] from rfl, show compL [a, x] = if a = x then compL [x] else a :: compL [x] from rfl, ih]
  split <;> split <;> rfl
 | a :: b :: l, x, y => by
  have ih := compL_snoc (b :: l) x y
  simp only [List.cons_append] at ih ⊢
  rw [show compL (a :: b :: (l ++ [x, y])) = if a = b then compL (b :: (l ++ [x, y])) else a :: compL (b :: (l ++ [x, y])) from rfl, show compL (a :: b :: (l ++ [x])) = if a = b then compL (b :: (l ++ [x])) else a :: compL (b :: (l ++ [x])) from rfl, ih]
  split <;> split <;> rfl
theorem compL_take {zs : List Int} {k : Nat} {x y : Int} (hk : 1 ≤ k) (hx : zs[k - 1]? = some x) (hy : zs[k]? = some y) : compL (zs.take (k + 1)) = if x = y then compL (zs.take k) else compL (zs.take k) ++ [y] := by
 obtain ⟨j, rfl⟩ : ∃ j, k = j + 1 := ⟨k - 1, by omega⟩
 rw [Nat.add_sub_cancel] at hx
 rw [take_succ_get hy, take_succ_get hx, List.append_assoc]
 exact compL_snoc _ _ _
set_option maxHeartbeats 2000000 in
theorem compact_ok (P : Program) (hP : P = Try.prog) (zs : List Int) (hz : zs.length ≤ 1000000) (r : Bool) (v : Nat) :
  FnS P n_slices_Compact_int_int [.c (.arr 0 v 0 zs.length)] [.da r v 1 (zs.map encI)] fun r' h' => ∃ m es', r' = .c (.arr 0 v 0 m) ∧ h' = [.da r v 1 es'] ∧ es'.take m = (compL zs).map encI ∧ m ≤ es'.length := by
 refine heap_start (hP ▸ mixed) (hP ▸ fn_slices_Compact_int_int) (hP ▸ c_slices_Compact_int_int) (Nat.le_of_ble_eq_true rfl) fun Λ Λo K hK => ?_
 clear hP
 have kk : ∀ m es', es'.take m = (compL zs).map encI → m ≤ es'.length → K (.c (.arr 0 v 0 m)) [.da r v 1 es'] := fun m es' h1 h2 => hK _ _ ⟨m, es', rfl, rfl, h1, h2⟩
 clear hK
 obtain ⟨n, hn⟩ : ∃ n, n = zs.length := ⟨_, rfl⟩
 obtain ⟨es, hes⟩ : ∃ x, x = zs.map encI := ⟨_, rfl⟩
 have les : es.length = n := by rw [hes, List.length_map, hn]
 rw [← hes, ← hn]
 have small : n < 2 → compL zs = zs := fun h => by
  match zs, hn with
  | [], _ => rfl
  | [x], _ => rfl
  | x :: y :: l, hn => simp at hn; omega
 conv => cbv
 repeat' first | (intro (_ : Unit); first | omega | rfl | exact ⟨rfl, by omega⟩ | (simp only [nI_eq]; omega) | ((repeat' first | rfl | omega | refine And.intro ?_ ?_ | (simp only [nI_eq]; omega) | (simp only [List.length_cons, List.length_nil]; omega) | exact Nat.le_of_ble_eq_true rfl); done)) | exact trivial | refine And.intro ?_ ?_ | (intro hc; exact absurd hc (by decide)) | (intro hc; exfalso; omega) | (intro hc; (first | rw [wrap_small (by omega) (by omega)] at hc | rw [nI_eq] at hc | skip); try (conv => cbv))
 ·refine kk n es ?_ (by omega)
  rw [← les, List.take_length, small (by omega), hes]
 clear small
 refine loop_up n (fun (i : Int) => [(0, .c (.arr 0 v 0 n)), (3, iA i)]) (fun _ => [.da r v 1 es]) (fun j i => i = j + 1 ∧ j + 1 ≤ n ∧ compL (zs.take (j + 1)) = zs.take (j + 1)) 1 (Wk.cut ⟨[], rfl⟩ (Nat.le_of_ble_eq_true rfl) rfl (by repeat' first | exact trivial | refine And.intro ?_ ?_ | rfl)) ⟨rfl, by omega, by cases zs <;> rfl⟩ (fun k s h => by omega) ?_
 rintro j i Q' ⟨hi, hj, hcm⟩ norm ex rt
 by_cases hlt : j + 1 < n
 ·obtain ⟨x, hx⟩ : ∃ x, zs[j]? = some x := ⟨_, List.getElem?_eq_getElem (by omega)⟩
  obtain ⟨y, hy⟩ : ∃ y, zs[j + 1]? = some y := ⟨_, List.getElem?_eq_getElem (by omega)⟩
  have ex1 : es[j]? = some [iD x] := by rw [hes, List.getElem?_map, hx]; rfl
  obtain ⟨kn, hkn⟩ : ∃ q, q = j + 1 := ⟨_, rfl⟩
  have ey1 : es[kn]? = some [iD y] := by rw [hkn, hes, List.getElem?_map, hy]; rfl
  have hct := compL_take (k := j + 1) (by omega) (by rw [Nat.add_sub_cancel]; exact hx) hy
  conv => cbv
  repeat' first | (refine ex _ _ _ ?_; (conv => cbv)) | (refine rt _ _ ?_; (conv => cbv)) | (intro (k : Nat) hk; refine (fun (hz : kn = k) => ?_) ?_; rotate_left; omega; subst hz; (conv => cbv)) | (intro (k : Nat) hk; refine (fun (hz : j = k) => ?_) ?_; rotate_left; omega; subst hz; (conv => cbv)) | (intro (e : List D) he; cases Option.some.inj (he.symm.trans ey1); (conv => cbv)) | (intro (e : List D) he; cases Option.some.inj (he.symm.trans ex1); (conv => cbv)) | (intro (_ : Unit); first | omega | rfl | exact ⟨rfl, by omega⟩ | (simp only [nI_eq]; omega) | ((repeat' first | rfl | omega | refine And.intro ?_ ?_ | (simp only [nI_eq]; omega) | (simp only [List.length_cons, List.length_nil]; omega) | exact Nat.le_of_ble_eq_true rfl); done)) | exact trivial | refine And.intro ?_ ?_ | (intro hc; exact absurd hc (by decide)) | (intro hc; exfalso; omega) | (intro hc; (first | rw [wrap_small (by omega) (by omega)] at hc | rw [nI_eq] at hc | skip); try (conv => cbv))
  ·rename_i i0 nl hi0
   have hi1 : i0 = kn := by omega
   subst hi1
   have rtO := rt
   clear norm ex rt
   have hxy : x = y := by omega
   rw [if_pos hxy, hcm] at hct
   refine loop_up n (fun (s : Int × Int × List (List D)) => [(0, .c (.arr 0 v 0 n)), (3, iA s.1), (4, .c (.arr 0 v i0 nl)), (5, iA s.2.1)]) (fun s => [.da r v 1 s.2.2])
    (fun q s => ∃ kq : Nat, s.1 = kq ∧ s.2.1 = q + 1 ∧ i0 ≤ kq ∧ kq ≤ i0 + q ∧ i0 + q + 1 ≤ n ∧ s.2.2.length = n ∧ s.2.2.take kq = (compL (zs.take (i0 + q + 1))).map encI ∧ ∀ p, kq ≤ p → s.2.2[p]? = es[p]?)
    (i, 1, es) (Wk.cut ⟨[], rfl⟩ (Nat.le_of_ble_eq_true rfl) rfl (by repeat' first | exact trivial | refine And.intro ?_ ?_ | rfl)) ⟨i0, by simp only; omega, rfl, Nat.le_refl _, Nat.le_refl _, by omega, les, by simp only [Nat.add_zero]; rw [hkn, hct, hes, List.map_take], fun _ _ => rfl⟩ (fun k s ⟨_, h⟩ => by omega) ?_
   rintro q ⟨ki, qi, bl⟩ Q2 ⟨kq, hki, hqi, h1, h2, h3, lbl, htk, hrest⟩ nrm ex rt
   simp only at hki hqi lbl htk hrest
   by_cases hlt2 : i0 + q + 1 < n
   ·obtain ⟨a1, ha1⟩ : ∃ a, a = i0 + q + 1 := ⟨_, rfl⟩
    obtain ⟨a0, ha0⟩ : ∃ a, a = i0 + q := ⟨_, rfl⟩
    obtain ⟨e0, he0⟩ : ∃ x, zs[a0]? = some x := ⟨_, List.getElem?_eq_getElem (by omega)⟩
    obtain ⟨e1, he1⟩ : ∃ x, zs[a1]? = some x := ⟨_, List.getElem?_eq_getElem (by omega)⟩
    have hb0 : bl[a0]? = some [iD e0] := by rw [hrest a0 (by omega), hes, List.getElem?_map, he0]; rfl
    have hb1 : bl[a1]? = some [iD e1] := by rw [hrest a1 (by omega), hes, List.getElem?_map, he1]; rfl
    obtain ⟨c0, hc0⟩ : ∃ c, bl[kq]? = some c := ⟨_, List.getElem?_eq_getElem (by omega)⟩
    have hc2 : bl[kq]? = some [iD (zs.getD kq 0)] := by rw [hrest kq (Nat.le_refl _), hes]; exact list_at zs (by omega)
    have hct2 := compL_take (zs := zs) (k := a1) (by omega) (by rw [show a1 - 1 = a0 by omega]; exact he0) he1
    have st1 : e0 ≠ e1 → (bl.set kq [iD e1]).take (kq + 1) = (compL (zs.take (a1 + 1))).map encI := fun h => by
     rw [hct2, if_neg h, List.map_append, show zs.take a1 = zs.take (i0 + q + 1) by rw [ha1], ← htk]
     rw [List.take_succ_eq_append_getElem (by rw [List.length_set]; omega), List.getElem_set_self, List.take_set_of_le (Nat.le_refl _)]
     rfl
    have st2 : e0 = e1 → bl.take kq = (compL (zs.take (a1 + 1))).map encI := fun h => by
     rw [hct2, if_pos h, show zs.take a1 = zs.take (i0 + q + 1) by rw [ha1], ← htk]
    generalize zs.getD kq 0 = c1 at *
    clear hct hct2 hcm hc0 kk
    conv => cbv
    repeat' first | (refine ex _ _ _ ?_; (conv => cbv)) | (refine rt _ _ ?_; (conv => cbv)) | (intro (k : Nat) hk; refine (fun (hz : a1 = k) => ?_) ?_; rotate_left; omega; subst hz; (conv => cbv)) | (intro (k : Nat) hk; refine (fun (hz : a0 = k) => ?_) ?_; rotate_left; omega; subst hz; (conv => cbv)) | (intro (k : Nat) hk; refine (fun (hz : kq = k) => ?_) ?_; rotate_left; omega; subst hz; (conv => cbv)) | (intro (e : List D) he; cases Option.some.inj (he.symm.trans hb1); (conv => cbv)) | (intro (e : List D) he; cases Option.some.inj (he.symm.trans hb0); (conv => cbv)) | (intro (e : List D) he; cases Option.some.inj (he.symm.trans hc2); (conv => cbv)) | (intro (_ : Unit); first | omega | rfl | exact ⟨rfl, by omega⟩ | (simp only [nI_eq]; omega) | ((repeat' first | rfl | omega | refine And.intro ?_ ?_ | (simp only [nI_eq]; omega) | (simp only [List.length_cons, List.length_nil]; omega) | exact Nat.le_of_ble_eq_true rfl); done)) | exact trivial | refine And.intro ?_ ?_ | (intro hc; exact absurd hc (by decide)) | (intro hc; exfalso; omega) | (intro hc; (first | rw [wrap_small (by omega) (by omega)] at hc | rw [nI_eq] at hc | skip); try (conv => cbv))
    ·rename_i x hx ki' hki' qi'
     have hne : ¬ e1 = e0 := by assumption
     have hx : x = bl.set kq [iD e1] := hx
     subst hx
     refine nrm _ _ (ki', qi', bl.set kq [iD e1]) ⟨kq + 1, by simp only; omega, by simp only; omega, by omega, by omega, by omega, by simp only [List.length_set]; exact lbl, ?_, fun p hp => ?_⟩ (Wk.cut ⟨[], rfl⟩ (Nat.le_of_ble_eq_true rfl) rfl (by repeat' first | exact trivial | refine And.intro ?_ ?_ | rfl))
     ·simp only; rw [st1 (fun e => hne e.symm), show a1 + 1 = i0 + (q + 1) + 1 by omega]
     ·simp only; rw [List.getElem?_set_ne (by omega)]; exact hrest p (by omega)
    ·rename_i qi'
     have heq : e1 = e0 := by assumption
     exact nrm _ _ (ki, qi', bl) ⟨kq, hki, by simp only; omega, by omega, by omega, by omega, lbl, by simp only; rw [st2 heq.symm, show a1 + 1 = i0 + (q + 1) + 1 by omega], hrest⟩ (Wk.cut ⟨[], rfl⟩ (Nat.le_of_ble_eq_true rfl) rfl (by repeat' first | exact trivial | refine And.intro ?_ ?_ | rfl))
   ·conv => cbv
    repeat' first | (refine ex _ _ _ ?_; (conv => cbv)) | (refine rt _ _ ?_; (conv => cbv)) | (intro (_ : Unit); first | omega | rfl | exact ⟨rfl, by omega⟩ | (simp only [nI_eq]; omega) | ((repeat' first | rfl | omega | refine And.intro ?_ ?_ | (simp only [nI_eq]; omega) | (simp only [List.length_cons, List.length_nil]; omega) | exact Nat.le_of_ble_eq_true rfl); done)) | exact trivial | refine And.intro ?_ ?_ | (intro hc; exact absurd hc (by decide)) | (intro hc; exfalso; omega) | (intro hc; (first | rw [wrap_small (by omega) (by omega)] at hc | rw [nI_eq] at hc | skip); try (conv => cbv))
    rename_i a2 n2 ha2 hn2 bl2 hbl2 m2
    have hm2 : m2 = kq := by omega
    have ha3 : a2 = kq := by omega
    subst hm2
    refine rtO _ _ ?_
    refine kk m2 bl2 ?_ ?_
    ·rw [hbl2, ha3, List.take_append_of_le_length (by rw [List.length_take]; omega), List.take_take, Nat.min_self, htk, show i0 + q + 1 = zs.length by omega, List.take_length]
    ·rw [hbl2]; simp; omega
  ·rename_i i'
   refine norm _ _ i' ⟨by omega, by omega, ?_⟩ (Wk.cut ⟨[], rfl⟩ (Nat.le_of_ble_eq_true rfl) rfl (by repeat' first | exact trivial | refine And.intro ?_ ?_ | rfl))
   rw [hct, if_neg (fun e => by rename_i h; exact h e.symm), hcm, ← take_succ_get hy]
 conv => cbv
 repeat' first | (refine ex _ _ _ ?_; (conv => cbv)) | (refine rt _ _ ?_; (conv => cbv)) | (intro (_ : Unit); first | omega | rfl | exact ⟨rfl, by omega⟩ | (simp only [nI_eq]; omega) | ((repeat' first | rfl | omega | refine And.intro ?_ ?_ | (simp only [nI_eq]; omega) | (simp only [List.length_cons, List.length_nil]; omega) | exact Nat.le_of_ble_eq_true rfl); done)) | exact trivial | refine And.intro ?_ ?_ | (intro hc; exact absurd hc (by decide)) | (intro hc; exfalso; omega) | (intro hc; (first | rw [wrap_small (by omega) (by omega)] at hc | rw [nI_eq] at hc | skip); try (conv => cbv))
 refine kk n es ?_ (by omega)
 rw [← les, List.take_length, hes]
 rw [show j + 1 = zs.length by omega, List.take_length] at hcm
 rw [hcm]
end Go.Ab

/-
  Groups: Next as the program finds it.
-/
namespace Go.Ab
open Go.Proofs
noncomputable def catS (t : Top) (down : List Bool) (M : List Int) (n : Int) : List Int := (M.map fun m => nextL t down (distS t down m false) n m).flatten
theorem catS_succ {t : Top} {down : List Bool} {M : List Int} {k : Nat} {m n : Int} (h : M[k]? = some m) : catS t down (M.take (k + 1)) n = catS t down (M.take k) n ++ nextL t down (distS t down m false) n m := by
 rw [catS, take_succ_get h, List.map_append, List.flatten_append]
 simp [catS]
theorem catS_union (t : Top) (down : List Bool) (M : List Int) (n : Int) : compL ((catS t down M n).mergeSort fun x y => decide (x ≤ y)) = unionS t down M n := by
 refine comp_merge (fun l hl => ?_) ?_ fun z => ?_
 ·obtain ⟨m, _, rfl⟩ := List.mem_map.1 hl
  exact sinc_next ..
 ·exact (List.pairwise_mergeSort (le := fun x y : Int => decide (x ≤ y)) (fun a b c h1 h2 => by simp at *; omega) (fun a b => by simp; omega) _).imp fun h => by simpa using h
 ·rw [List.mem_mergeSort, catS, List.mem_flatten]
set_option maxHeartbeats 2000000 in
theorem anext16_ok (P : Program) (hP : P = Try.prog) (t : Top) (down : List Bool) (A : List Int) (n : Int) (hA : (A.length : Int) ≤ 1000) :
  Ret P n_anycast_Next [topA t, boolsA down, intsA A, iA n] (.tup [intsA (anextS t down A n).1, iA (anextS t down A n).2]) := by
 refine ret_start (hP ▸ mixed) (hP ▸ fn_anycast_Next) (hP ▸ c_anycast_Next) (Nat.le_of_ble_eq_true rfl) fun Λ Λo K hK => ?_
 have hd := anear_ok P hP t down A n (by omega)
 have hnx := fun m => dNext_ok P hP t down n m
 have hsort : SortsI P n_slices_Sort_int_int := hP ▸ sorts_int
 have hcmp := fun zs h r v => compact_ok P hP zs h r v
 clear hP
 rw [anextS] at hK
 by_cases h0 : (nearS t down A n).2.2 = 0
 ·rw [if_pos h0] at hK
  obtain ⟨h1, h2, h3, h4, h5⟩ := nearS_zero h0
  have hmem := any_mem h1
  have hv := (of_decide_eq_true h1).1
  have v1 := validT_spec.1 hv
  obtain ⟨M, hM⟩ : ∃ M, M = (nearS t down A n).1 := ⟨_, rfl⟩
  have hMm : ∀ m ∈ M, 0 ≤ m ∧ m < t.nodes := fun m hm => by
   rw [hM, h5] at hm
   exact hmem m (List.mem_filter.1 hm).1
  have hMl : M.length ≤ 1000 := by
   rw [hM, h5]
   have := List.length_filter_le (fun m => decide (gt (distS t down m false) n = gt (allS t down A) n)) A
   omega
  rw [h0, ← hM] at hd
  rw [← hM] at hK
  generalize (nearS t down A n).2.1 = c2 at *
  have hnx : ∀ m, 0 ≤ m → m < t.nodes → Ret P n_dag_Next [topA t, boolsA down, iA n, iA m] (.tup [intsA (nextL t down (distS t down m false) n m), iA 0]) := fun m g0 g1 => by
   have := hnx m
   rw [nextS, if_pos h2, if_pos ⟨g0, g1⟩, if_pos h3] at this
   exact this
  have hnl := fun E m => nextL_len t down E n m
  have hl2 : 2 * t.links.length ≤ 512 := by have := v1.2.2.1; omega
  clear h1 h2 h4 h5 hmem hv h3
  have k1 : ∀ ls, ls = (unionS t down M n).map encI → K (.tup [.c (.d (.list false 1 ls)), iA 0]) := fun ls h => by rw [h]; exact hK
  clear hK
  obtain ⟨nodes, hN⟩ : ∃ x, x = t.nodes := ⟨_, rfl⟩
  obtain ⟨ol, hol⟩ : ∃ x, x = t.ov.map encB := ⟨_, rfl⟩
  obtain ⟨ll, hll⟩ : ∃ x, x = t.links.map encLk := ⟨_, rfl⟩
  obtain ⟨dl, hdl⟩ : ∃ x, x = down.map encB := ⟨_, rfl⟩
  obtain ⟨al, hal⟩ : ∃ x, x = A.map encI := ⟨_, rfl⟩
  obtain ⟨ml, hml⟩ : ∃ x, x = M.map encI := ⟨_, rfl⟩
  have lml : Λ ml = M.length := by rw [Λo, hml]; simp
  simp only [topA, boolsA, boolsD, linksD, intsA, intsD, ← hN, ← hol, ← hll, ← hdl, ← hal, ← hml] at hd hnx ⊢
  clear hol hll hdl hal
  conv => cbv
  repeat' first | (refine call_r hd rfl rfl ?_; conv => cbv) | (intro (_ : Unit); first | omega | rfl | exact ⟨rfl, by omega⟩ | (simp only [nI_eq]; omega) | ((repeat' first | rfl | omega | refine And.intro ?_ ?_ | (simp only [nI_eq]; omega) | (simp only [List.length_cons, List.length_nil]; omega) | exact Nat.le_of_ble_eq_true rfl); done)) | exact trivial | refine And.intro ?_ ?_ | (intro hc; exact absurd hc (by decide)) | (intro hc; exfalso; omega) | (intro hc; (first | rw [wrap_small (by omega) (by omega)] at hc | rw [nI_eq] at hc | skip); try (conv => cbv))
  refine loop_up M.length (fun (s : Int × Nat × Nat × Bool × List (List D)) => [(1, .c (.d (.list false 1 dl))), (3, iA n), (4, .c (.ptr 0 0 0 0)), (13, .c (.arr 1 s.2.1 0 s.2.2.1)), (30, .c (.d (.list false 1 ml))), (31, iA (Λ ml)), (32, iA s.1)]) (fun s => [.bx [.d (iD nodes), .d (.list false 1 ol), .d (.list false 7 ll)], .da s.2.2.2.1 s.2.1 1 s.2.2.2.2])
   (fun k s => s.1 = k ∧ k ≤ M.length ∧ s.2.2.1 = s.2.2.2.2.length ∧ s.2.2.2.2 = (catS t down (M.take k) n).map encI ∧ (catS t down (M.take k) n).length ≤ 512 * k) (0, 0, 0, false, []) (.trans (.nilS 13 1 rfl) (Wk.cut ⟨_, rfl⟩ (Nat.zero_le _) rfl (by repeat' first | exact trivial | refine And.intro ?_ ?_ | rfl))) ⟨rfl, by omega, rfl, rfl, Nat.le_refl _⟩ (fun k s h => h.2.1) ?_
  rintro k ⟨i, ve, m0, r, es⟩ Q' ⟨hi, hk, hm0, hes, hlen⟩ norm ex rt
  simp only at hi hm0 hes
  have lel : es.length = (catS t down (M.take k) n).length := by rw [hes, List.length_map]
  by_cases hlt : k < M.length
  ·obtain ⟨m, hm⟩ : ∃ m, M[k]? = some m := ⟨_, List.getElem?_eq_getElem hlt⟩
   have hra : ml[i.toNat]? = some [iD m] := by rw [hi, Int.toNat_natCast, hml, List.getElem?_map, hm]; rfl
   have hmo := hMm m (List.mem_of_getElem? hm)
   have htm := hnx m hmo.1 (by omega)
   have hnm := hnl (distS t down m false) m
   have hcs := catS_succ (t := t) (down := down) (n := n) hm
   obtain ⟨nl, hnl2⟩ : ∃ x, x = (nextL t down (distS t down m false) n m).map encI := ⟨_, rfl⟩
   have lnl : Λ nl = (nextL t down (distS t down m false) n m).length := by rw [Λo, hnl2, List.length_map]
   have lnl2 : nl.length = (nextL t down (distS t down m false) n m).length := by rw [hnl2, List.length_map]
   rw [← hnl2] at htm
   clear hnx hnl k1 hd hcmp hsort
   conv => cbv
   repeat' first | (refine ex _ _ _ ?_; (conv => cbv)) | (refine rt _ _ ?_; (conv => cbv)) | (intro (e : List D) he; cases Option.some.inj (he.symm.trans hra); (conv => cbv)) | (refine call_r htm rfl rfl ?_; conv => cbv) | (intro (_ : Unit); refine ⟨rfl, ?_⟩; omega) | (intro (_ : Unit); first | omega | rfl | exact ⟨rfl, by omega⟩ | (simp only [nI_eq]; omega) | ((repeat' first | rfl | omega | refine And.intro ?_ ?_ | (simp only [nI_eq]; omega) | (simp only [List.length_cons, List.length_nil]; omega) | exact Nat.le_of_ble_eq_true rfl); done)) | exact trivial | refine And.intro ?_ ?_ | (intro hc; exact absurd hc (by decide)) | (intro hc; exfalso; omega) | (intro hc; (first | rw [wrap_small (by omega) (by omega)] at hc | rw [nI_eq] at hc | skip); try (conv => cbv))
   rename_i m' r' es' hm' hr' he' i'
   refine norm _ _ (_, _, _, _, _) ?_ (Wk.cut ⟨_, rfl⟩ (Nat.zero_le _) rfl (by repeat' first | exact trivial | refine And.intro ?_ ?_ | rfl))
   have e : es' = (catS t down (M.take (k + 1)) n).map encI := by
    rw [hcs, List.map_append, he', List.drop_zero, hm0, List.take_length, hes, hnl2]
   exact ⟨by simp only; omega, by omega, by simp only; rw [hm', he', List.drop_zero, hm0, List.take_length]; simp, e, by rw [hcs, List.length_append]; omega⟩
  have hfin : (catS t down (M.take k) n) = catS t down M n := by rw [List.take_of_length_le (by omega)]
  rw [hfin] at hes lel hlen
  have hsf := sortI_fn hsort (catS t down M n) (by omega) r ve
  have hcf := hcmp ((catS t down M n).mergeSort fun x y => decide (x ≤ y)) (by rw [List.length_mergeSort]; omega) r ve
  rw [List.length_mergeSort] at hcf
  rw [← lel, ← hm0] at hsf hcf
  rw [← hes] at hsf
  rw [catS_union] at hcf
  obtain ⟨sl, hsl⟩ : ∃ x, x = ((catS t down M n).mergeSort fun x y => decide (x ≤ y)).map encI := ⟨_, rfl⟩
  rw [← hsl] at hsf hcf
  obtain ⟨ul, hul⟩ : ∃ x, x = (unionS t down M n).map encI := ⟨_, rfl⟩
  rw [← hul] at hcf
  have k2 : ∀ ls, ls = ul → K (.tup [.c (.d (.list false 1 ls)), iA 0]) := fun ls h => k1 ls (by rw [h, hul])
  clear hcmp hsort hnx hd k1 hnl
  conv => cbv
  repeat' first | (refine ex _ _ _ ?_; (conv => cbv)) | (refine rt _ _ ?_; (conv => cbv)) | (refine call_fr [1] hsf rfl rfl (by decide) (by repeat' first | exact trivial | refine And.intro ?_ ?_ | rfl) rfl rfl ?_; rintro r hc' ⟨rfl, rfl⟩; (conv => cbv)) | (refine call_fr [1] hcf rfl rfl (by decide) (by repeat' first | exact trivial | refine And.intro ?_ ?_ | rfl) rfl rfl ?_; rintro r hc' ⟨m2, es2, rfl, rfl, hc1, hc2⟩; (conv => cbv)) | (intro (_ : Unit); first | omega | rfl | exact ⟨rfl, by omega⟩ | (simp only [nI_eq]; omega) | ((repeat' first | rfl | omega | refine And.intro ?_ ?_ | (simp only [nI_eq]; omega) | (simp only [List.length_cons, List.length_nil]; omega) | exact Nat.le_of_ble_eq_true rfl); done)) | exact trivial | refine And.intro ?_ ?_ | (intro hc; exact absurd hc (by decide)) | (intro hc; exfalso; omega) | (intro hc; (first | rw [wrap_small (by omega) (by omega)] at hc | rw [nI_eq] at hc | skip); try (conv => cbv))
  rename_i ls
  exact k2 ls (by rw [hc, List.drop_zero, hc1])
 ·rw [if_neg h0] at hK
  clear hnx hsort hcmp
  generalize nearS t down A n = r at *
  obtain ⟨l, c, c2⟩ := r
  simp only [intsA, intsD, boolsA, boolsD, List.map_nil] at *
  generalize l.map encI = rl at *
  generalize down.map encB = dl at *
  generalize A.map encI = al at *
  obtain ⟨nodes, ov, links⟩ := t
  simp only [topA, boolsD, linksD] at *
  generalize hol : ov.map encB = ol at *
  generalize hll : links.map encLk = ll at *
  have hlo : Λ ol = ov.length := by rw [Λo, ← hol]; simp
  have hls : Λ ll = links.length := by rw [Λo, ← hll]; simp
  conv => cbv
  repeat' first | (refine call_r hd rfl rfl ?_; conv => cbv) | (intro (_ : Unit); first | omega | rfl | exact ⟨rfl, by omega⟩ | (simp only [nI_eq]; omega) | ((repeat' first | rfl | omega | refine And.intro ?_ ?_ | (simp only [nI_eq]; omega) | (simp only [List.length_cons, List.length_nil]; omega) | exact Nat.le_of_ble_eq_true rfl); done)) | exact trivial | refine And.intro ?_ ?_ | (intro hc; exact absurd hc (by decide)) | (intro hc; exfalso; omega) | (intro hc; (first | rw [wrap_small (by omega) (by omega)] at hc | rw [nI_eq] at hc | skip); try (conv => cbv))
  exact hK
end Go.Ab

/-
  Shortest paths, part f: distances of a given topology by checking; a ring of four nodes.
-/
namespace Go.Ab
open Go.Proofs
def isDistB (t : Top) (down : List Bool) (e : Int) (fr : Bool) (D : List Int) : Bool :=
 decide ((D.length : Int) = t.nodes) && decide (gt D e = 0) && ((List.range D.length).all fun i => decide (-1 ≤ gt D (i : Nat))) &&
 ((List.range (2 * t.links.length)).all fun a => !(okArc t down e fr (a : Nat) && decide (0 ≤ gt D (yOf t fr (a : Nat)))) || (decide (0 ≤ gt D (xOf t fr (a : Nat))) && decide (gt D (xOf t fr (a : Nat)) ≤ gt D (yOf t fr (a : Nat)) + costT t (a : Nat)))) &&
 ((List.range D.length).all fun x => decide ((x : Int) = e) || decide (gt D (x : Nat) < 0) || (List.range (2 * t.links.length)).any fun a => okArc t down e fr (a : Nat) && decide (xOf t fr (a : Nat) = (x : Nat)) && decide (0 ≤ gt D (yOf t fr (a : Nat))) && decide (gt D (x : Nat) = gt D (yOf t fr (a : Nat)) + costT t (a : Nat)))
theorem isDistB_ok {t : Top} {down : List Bool} {e : Int} {fr : Bool} {D : List Int} (h : isDistB t down e fr D = true) : IsDist t down e fr D := by
 simp only [isDistB, Bool.and_eq_true, decide_eq_true_eq, List.all_eq_true, List.mem_range, Bool.or_eq_true, Bool.not_eq_true', List.any_eq_true] at h
 obtain ⟨⟨⟨⟨h1, h2⟩, h3⟩, h4⟩, h5⟩ := h
 refine ⟨h1, h2, fun i i0 i1 => ?_, fun a a0 a1 => ?_, fun x x0 x1 hx hd => ?_⟩
 ·have := h3 i.toNat (by omega)
  rw [show ((i.toNat : Nat) : Int) = i by omega] at this; exact this
 ·have := h4 a.toNat (by omega)
  rw [show ((a.toNat : Nat) : Int) = a by omega] at this
  intro ho hy
  rcases this with h | h
  ·rw [ho, decide_eq_true hy] at h; cases h
  ·exact h
 ·have := h5 x.toNat (by omega)
  rw [show ((x.toNat : Nat) : Int) = x by omega] at this
  rcases this with (h | h) | ⟨a, ha, ⟨⟨q1, q2⟩, q3⟩, q4⟩
  ·exact absurd h hx
  ·omega
  ·exact ⟨a, by omega, by omega, q1, q2, q3, q4⟩
end Go.Ab

/-
  Functions that runs do not go through: read off the machine's values.
-/
namespace Go.Ab
open Go.Proofs
def decL {α : Type} (f : List D → Option α) : List (List D) → Option (List α)
 | [] => some []
 | x :: r => match f x, decL f r with
  | some a, some l => some (a :: l)
  | _, _ => none
theorem decL_ok {α : Type} {f : List D → Option α} {g : α → List D} (hf : ∀ x a, f x = some a → x = g a) : ∀ {l : List (List D)} {r : List α}, decL f l = some r → l = r.map g := by
 intro l
 induction l with
 | nil => intro r h; simp only [decL, Option.some.injEq] at h; subst h; rfl
 | cons x l ih =>
  intro r h
  simp only [decL] at h
  split at h
  ·rename_i a q h1 h2
   cases h
   rw [hf x a h1, ih h2]; rfl
  ·cases h
def decI : List D → Option Int
 | [.int .i64 n] => some n
 | _ => none
theorem decI_ok (x : List D) (a : Int) (h : decI x = some a) : x = encI a := by
 unfold decI at h
 split at h
 ·cases h; rfl
 ·cases h
def decB : List D → Option Bool
 | [.bool b] => some b
 | _ => none
theorem decB_ok (x : List D) (a : Bool) (h : decB x = some a) : x = encB a := by
 unfold decB at h
 split at h
 ·cases h; rfl
 ·cases h
def decSeg : List D → Option Seg
 | [.int .i64 k, .int .i64 n] => some ⟨k, n⟩
 | _ => none
def decLk : List D → Option Lk
 | [.int .i64 a, .int .i64 b, .int .i64 c, .int .i64 d, .int .i64 e, .int .i64 f, .int .i64 g] => some ⟨a, b, c, d, e, f, g⟩
 | _ => none
theorem decLk_ok (x : List D) (a : Lk) (h : decLk x = some a) : x = encLk a := by
 unfold decLk at h
 split at h
 ·cases h; rfl
 ·cases h
def decEnt : List D → Option Ety
 | [.list false 1 a, .bool r, .list false 2 p] => match decL decI a, decL decSeg p with
  | some a, some p => some ⟨a, r, p⟩
  | _, _ => none
 | _ => none
def decTop : AV → Option Top
 | .agg [.d (.int .i64 n), .d (.list false 1 ol), .d (.list false 7 ll)] => match decL decB ol, decL decLk ll with
  | some o, some l => some ⟨n, o, l⟩
  | _, _ => none
 | _ => none
theorem decTop_ok {x : AV} {t : Top} (h : decTop x = some t) : x = topA t := by
 unfold decTop at h
 split at h
 ·split at h
  ·rename_i n ol ll o l h1 h2
   cases h
   rw [decL_ok decB_ok h1, decL_ok decLk_ok h2]; rfl
  ·cases h
 ·cases h
end Go.Ab

/-
  Functions that runs do not go through: distances on a line.
-/
namespace Go.Ab
open Go.Proofs
def lineD (t : Top) (n : Int) : List Int := (List.range t.nodes.toNat).map fun (i : Nat) => if (i : Int) < n then n - i else i - n
def isLine (t : Top) (n : Int) : Bool := validT t && decide (0 ≤ n) && decide (n < t.nodes) && isDistB t [] n false (lineD t n)
theorem isLine_ok {t : Top} {n : Int} (h : isLine t n = true) : validT t = true ∧ 0 ≤ n ∧ n < t.nodes ∧ distS t [] n false = lineD t n := by
 simp only [isLine, Bool.and_eq_true, decide_eq_true_eq] at h
 exact ⟨h.1.1.1, h.1.1.2, h.1.2, distS_eq h.1.1.1 (isDistB_ok h.2)⟩
theorem fitsB_nil {t : Top} (h : validT t = true) : fitsB t [] = true := by simp [fitsB, h]
def natLD : List AV → Option AV
 | [a, .c (.d (.list false 1 [])), .c (.d (.int .i64 n))] => match decTop a with
  | some t => (match isLine t n with
   | true => some (.tup [intsA (lineD t n), iA 0])
   | false => none)
  | none => none
 | _ => none
def allL (t : Top) (rows : List (List Int)) : List Int := (List.range t.nodes.toNat).map fun (i : Nat) => (rows.map fun D => gt D i).foldl mrg (-1)
def natAD : List AV → Option AV
 | [a, .c (.d (.list false 1 [])), .c (.d (.list false 1 l))] => match decTop a, decL decI l with
  | some t, some A => (match anyB t A && (A.all fun m => isLine t m) && decide (A.length ≤ 20) with
   | true => some (.tup [rowsA (A.map fun m => lineD t m), intsA (allL t (A.map fun m => lineD t m)), iA 0])
   | false => none)
  | _, _ => none
 | _ => none
theorem natAD_ok (args : List AV) (r : AV) (h : natAD args = some r) : FnS Try.prog n_anycast_dists args [] fun r' _ => r' = r := by
 unfold natAD at h
 split at h
 ·split at h
  ·rename_i a l _ _ t A h1 h1'
   split at h
   ·rename_i h2
    cases h
    simp only [Bool.and_eq_true, List.all_eq_true, decide_eq_true_eq] at h2
    have hv := (of_decide_eq_true h2.1.1).1
    have hr : rowsS t [] A = A.map fun m => lineD t m := by
     rw [rowsS]
     exact List.map_congr_left fun m hm => (isLine_ok (h2.1.2 m hm)).2.2.2
    have := adists_ok Try.prog rfl t [] A (by omega)
    rw [if_pos ⟨h2.1.1, fitsB_nil hv⟩, hr, allS, hr] at this
    rw [decTop_ok h1, decL_ok decI_ok h1']
    exact this.mono fun _ _ h => h.2
   ·cases h
  ·cases h
 ·cases h
theorem allL_eq {t : Top} {A : List Int} (h : ∀ m ∈ A, isLine t m = true) : allS t [] A = allL t (A.map fun m => lineD t m) := by
 have hr : rowsS t [] A = A.map fun m => lineD t m := by
  rw [rowsS]
  exact List.map_congr_left fun m hm => (isLine_ok (h m hm)).2.2.2
 rw [allS, hr]; rfl
def nextA (t : Top) (A : List Int) (n : Int) : List Int :=
 (arcsTo (2 * t.links.length)).filter fun a => A.any fun m => decide (gt (lineD t m) n = gt (allL t (A.map fun m => lineD t m)) n) && (decide (tailT t a = n) && onB t [] (lineD t m) a m)
def natNX : List AV → Option AV
 | [a, .c (.d (.list false 1 [])), .c (.d (.list false 1 l)), .c (.d (.int .i64 n))] => match decTop a, decL decI l with
  | some t, some A => (match anyB t A && (A.all fun m => isLine t m) && decide (A.length ≤ 20) && decide (0 ≤ n) && decide (n < t.nodes) && decide (0 ≤ gt (allL t (A.map fun m => lineD t m)) n) with
   | true => some (.tup [intsA (nextA t A n), iA 0])
   | false => none)
  | _, _ => none
 | _ => none
theorem natNX_ok (args : List AV) (r : AV) (h : natNX args = some r) : FnS Try.prog n_anycast_Next args [] fun r' _ => r' = r := by
 unfold natNX at h
 split at h
 ·split at h
  ·rename_i a l n _ _ t A h1 h1'
   split at h
   ·rename_i h2
    cases h
    simp only [Bool.and_eq_true, List.all_eq_true, decide_eq_true_eq] at h2
    obtain ⟨⟨⟨⟨⟨g1, g2⟩, g3⟩, g4⟩, g5⟩, g6⟩ := h2
    have hv := (of_decide_eq_true g1).1
    have := anext16_ok Try.prog rfl t [] A n (by omega)
    have he := allL_eq g2
    have hnr : nearS t [] A n = (A.filter fun m => decide (gt (distS t [] m false) n = gt (allS t [] A) n), gt (allS t [] A) n, 0) := by rw [nearS, if_pos ⟨g1, fitsB_nil hv⟩, if_pos ⟨g4, g5⟩, if_neg (by rw [he]; omega)]
    have hu : unionS t [] (A.filter fun m => decide (gt (distS t [] m false) n = gt (allS t [] A) n)) n = nextA t A n := by
     refine sinc_ext (sinc_union _ _) ((sinc_arcs _).filter _) fun a => ?_
     rw [mem_union, nextA, List.mem_filter, he]
     simp only [List.any_eq_true, Bool.and_eq_true, decide_eq_true_eq, List.mem_filter, nextL]
     constructor
     ·rintro ⟨m, ⟨hm, e⟩, ha, e2, e3⟩
      rw [(isLine_ok (g2 m hm)).2.2.2] at e e3
      exact ⟨ha, m, hm, e, e2, e3⟩
     ·rintro ⟨ha, m, hm, e, e2, e3⟩
      rw [← (isLine_ok (g2 m hm)).2.2.2] at e e3
      exact ⟨m, ⟨hm, e⟩, ha, e2, e3⟩
    rw [anextS, hnr, if_pos rfl, hu] at this
    rw [decTop_ok h1, decL_ok decI_ok h1']
    exact this.mono fun _ _ h => h.2
   ·cases h
  ·cases h
 ·cases h
end Go.Ab

/-
  Runs of closed calls (printed by mktab.py).
-/
namespace Go.Ab
open Go.Proofs
inductive TabsOk (P : Program) : List (Nat × Ent) → Prop
 | nil : TabsOk P []
 | txt {f : Nat} {sc fz : Bool} {af : AF} {fn : Func} {r : List (Nat × Ent)} (h1 : P.funcs[f]? = some fn) (h2 : compF P fn = some af) (h3 : fn.name ≠ "runtime.NumGoroutine") (h4 : TabsOk P r) : TabsOk P ((f, .txt sc fz af) :: r)
 | nat {f : Nat} {g : List AV → Option AV} {r : List (Nat × Ent)} (h1 : FnOk P f) (h2 : ∀ args r, g args = some r → FnS P f args [] fun r' _ => r' = r) (h4 : TabsOk P r) : TabsOk P ((f, .nat g) :: r)
 | nlk {f : Nat} {g : List AV → Option AV} {r : List (Nat × Ent)} (h1 : FnOk P f) (h2 : ∀ args r, g args = some r → FrS P f args r) (h4 : TabsOk P r) : TabsOk P ((f, .nlk g) :: r)
def lkT : List (Nat × Ent) → Tb
 | [], _ => none
 | (i, e) :: r, f => match Nat.beq i f with
  | true => some e
  | false => lkT r f
theorem TabsOk.tab {P : Program} {l : List (Nat × Ent)} (h : TabsOk P l) : TabOk P (lkT l) := by
 induction h with
 | nil => exact ⟨fun f sc fz af h => (by cases h), fun f g h => (by cases h), fun f g h => (by cases h)⟩
 | txt h1 h2 h3 _ ih =>
  refine ⟨fun f sc fz af h => ?_, fun f g h => ?_, fun f g h => ?_⟩
  ·simp only [lkT] at h
   split at h
   ·rename_i hb
    cases h
    have := Nat.eq_of_beq_eq_true hb
    subst this
    exact ⟨_, h1, h3, h2⟩
   ·exact ih.ok f sc fz af h
  ·simp only [lkT] at h
   split at h
   ·cases h
   ·exact ih.nat f g h
  ·simp only [lkT] at h
   split at h
   ·cases h
   ·exact ih.nlk f g h
 | nat h1 h2 _ ih =>
  refine ⟨fun f sc fz af h => ?_, fun f g h => ?_, fun f g h => ?_⟩
  ·simp only [lkT] at h
   split at h
   ·cases h
   ·exact ih.ok f sc fz af h
  ·simp only [lkT] at h
   split at h
   ·rename_i hb
    cases h
    have := Nat.eq_of_beq_eq_true hb
    subst this
    exact ⟨h1, h2⟩
   ·exact ih.nat f g h
  ·simp only [lkT] at h
   split at h
   ·cases h
   ·exact ih.nlk f g h
 | nlk h1 h2 _ ih =>
  refine ⟨fun f sc fz af h => ?_, fun f g h => ?_, fun f g h => ?_⟩
  ·simp only [lkT] at h
   split at h
   ·cases h
   ·exact ih.ok f sc fz af h
  ·simp only [lkT] at h
   split at h
   ·cases h
   ·exact ih.nat f g h
  ·simp only [lkT] at h
   split at h
   ·rename_i hb
    cases h
    have := Nat.eq_of_beq_eq_true hb
    subst this
    exact ⟨h1, h2⟩
   ·exact ih.nlk f g h
def tabL : List (Nat × Ent) := [
 (n_law16_awake, .txt true false af_law16_awake),
 (n_anycast_Dist, .txt false true af_anycast_Dist),
 (n_ref09_SameInts, .txt true false af_ref09_SameInts),
 (n_anycast_Nearest, .txt false true af_anycast_Nearest),
 (n_anycast_Next, .nat natNX),
 (n_law16_line, .txt false false af_law16_line),
 (n_anycast_dists, .nat natAD),
 (n_graph_Node, .txt true false af_graph_Node)]
theorem tabL_ok : TabsOk Try.prog tabL :=
 .txt fn_law16_awake c_law16_awake (by decide) <|
 .txt fn_anycast_Dist c_anycast_Dist (by decide) <|
 .txt fn_ref09_SameInts c_ref09_SameInts (by decide) <|
 .txt fn_anycast_Nearest c_anycast_Nearest (by decide) <|
 .nat ⟨_, fn_anycast_Next, by decide, by decide⟩ natNX_ok <|
 .txt fn_law16_line c_law16_line (by decide) <|
 .nat ⟨_, fn_anycast_dists, by decide, by decide⟩ natAD_ok <|
 .txt fn_graph_Node c_graph_Node (by decide) <|
 .nil
theorem run_ok {f : Nat} {fn : Func} {af : AF} {args : List AV} {r : AV} (n : Nat) (hf : Try.prog.funcs[f]? = some fn) (hc : compF Try.prog fn = some af) (hl : args.length ≤ af.nt) (hx : runP (xC (lkT tabL) n) af args = some r) : Ret Try.prog f args r :=
 (runP_sound (xC_sound mixed tabL_ok.tab n) hf hc hl hx).mono fun _ _ h => h
theorem awake_ok : Ret Try.prog n_law16_awake [] (bA true) := run_ok 400 fn_law16_awake c_law16_awake (Nat.le_of_ble_eq_true rfl) (by kernel_rfl)
end Go.Ab

/-
  The statements of chapter 16: Dist.
-/
namespace Go.Ab
open Go.Proofs
structure Grp where
 (t : Top) (down : List Bool) (A : List Int) (node : Int)
def grpA (q : Grp) : AV := .agg [.d (iD q.t.nodes), .d (boolsD q.t.ov), .d (linksD q.t.links), .d (boolsD q.down), .d (intsD q.A), .d (iD q.node)]
def largeG (q : Grp) : Bool := decide (q.t.nodes > 12) || decide (q.t.links.length > 20) || decide (q.down.length > 60) || decide (q.A.length > 20)
theorem largeG_no {q : Grp} (h : largeG q = false) : q.t.nodes ≤ 12 ∧ q.t.links.length ≤ 20 ∧ q.down.length ≤ 60 ∧ q.A.length ≤ 20 := by
 simp only [largeG, Bool.or_eq_false_iff, decide_eq_false_iff_not] at h
 omega
theorem largeG_ok (P : Program) (hP : P = Try.prog) (q : Grp) : Ret P n_law16_large [grpA q] (bA (largeG q)) := by
 refine ret_start (hP ▸ mixed) (hP ▸ fn_law16_large) (hP ▸ c_law16_large) (Nat.le_of_ble_eq_true rfl) fun Λ Λo K hK => ?_
 clear hP
 obtain ⟨t, down, A, node⟩ := q
 simp only [grpA] at hK ⊢
 have yes : (t.nodes > 12 ∨ t.links.length > 20 ∨ down.length > 60 ∨ A.length > 20) → K (bA true) := fun h => by
  rw [show largeG ⟨t, down, A, node⟩ = true by
   simp only [largeG, Bool.or_eq_true, decide_eq_true_eq]; omega] at hK
  exact hK
 have no : ¬ (t.nodes > 12 ∨ t.links.length > 20 ∨ down.length > 60 ∨ A.length > 20) → K (bA false) := fun h => by
  rw [show largeG ⟨t, down, A, node⟩ = false by
   simp only [largeG, Bool.or_eq_false_iff, decide_eq_false_iff_not]; omega] at hK
  exact hK
 clear hK
 simp only [boolsD, linksD, intsD] at *
 generalize hal : A.map encI = al at *
 have hla : Λ al = A.length := by rw [Λo, ← hal]; simp
 generalize hdl : down.map encB = dl at *
 have hld : Λ dl = down.length := by rw [Λo, ← hdl]; simp
 obtain ⟨nodes, ov, links⟩ := t
 
 generalize hol : ov.map encB = ol at *
 generalize hll : links.map encLk = ll at *
 have hlo : Λ ol = ov.length := by rw [Λo, ← hol]; simp
 have hls : Λ ll = links.length := by rw [Λo, ← hll]; simp
 simp only at yes no
 conv => cbv
 repeat' first | (intro (_ : Unit); first | omega | rfl | exact ⟨rfl, by omega⟩ | (simp only [nI_eq]; omega) | ((repeat' first | rfl | omega | refine And.intro ?_ ?_ | (simp only [nI_eq]; omega) | (simp only [List.length_cons, List.length_nil]; omega) | exact Nat.le_of_ble_eq_true rfl); done)) | exact trivial | refine And.intro ?_ ?_ | (intro hc; exact absurd hc (by decide)) | (intro hc; exfalso; omega) | (intro hc; (first | rw [wrap_small (by omega) (by omega)] at hc | rw [nI_eq] at hc | skip); try (conv => cbv))
 all_goals first | exact yes (by omega) | exact no (by omega)
end Go.Ab

/-
  Comparing the versions of blocks.
-/
namespace Go.Ab
open Go.Proofs
theorem bq_self (n : Nat) : Nat.beq n n = true := Nat.beq_refl n
theorem bq_old (n : Nat) : Nat.beq n n.succ = false := by
 rw [Bool.eq_false_iff]; intro h; have := Nat.eq_of_beq_eq_true h; omega
theorem bq_lit (a b : Nat) : Nat.beq a b = decide (a = b) := by
 by_cases h : a = b
 ·subst h; simp
 ·rw [decide_eq_false h, Bool.eq_false_iff]; exact fun h' => h (Nat.eq_of_beq_eq_true h')
end Go.Ab

/-
  The statements of chapter 16: Virtual.
-/
namespace Go.Ab
open Go.Proofs
theorem base_step {t : Top} {down : List Bool} (hd : down.length = 0 ∨ down.length = 2 * t.links.length) (k : Nat) (h : down.length + k ≥ 2 * t.links.length) (h2 : down.length + k ≤ 2 * t.links.length ∨ k = 0) : down ++ List.replicate k false = baseB t down := by
 rw [baseB]
 congr 2
 omega
set_option maxHeartbeats 8000000 in
theorem avirt_law (P : Program) (hP : P = Try.prog) (q : Grp) : Ret P n_law16_AnycastVirtual [grpA q] (bA true) := by
 have haw : Ret P n_law16_awake [] (bA true) := hP ▸ awake_ok
 have hlg := largeG_ok P hP q
 have hsm : largeG q = false → q.t.nodes ≤ 12 ∧ q.t.links.length ≤ 20 ∧ q.down.length ≤ 60 ∧ q.A.length ≤ 20 := largeG_no
 have hval := fun h => rvalid16_ok P hP q.t q.A h
 have hfits := fits_ok P hP q.t q.down
 have h1 := fun h => adist_ok P hP (noOv q.t) q.down q.A h
 have h2 := dist_ok P hP (vTop q.t q.A) (vDown q.t q.down q.A) q.t.nodes
 refine ret_start (hP ▸ mixed) (hP ▸ fn_law16_AnycastVirtual) (hP ▸ c_law16_AnycastVirtual) (Nat.le_of_ble_eq_true rfl) fun Λ Λo K hK => ?_
 clear hP
 obtain ⟨t, down, A, node⟩ := q
 simp only at h1 h2 hsm hval hfits
 have hlaw := fun (e1 : anyB t A = true) (e2 : fitsB t down = true) => virt_plain e1 e2
 generalize largeG _ = lg at *
 cases lg
 case true =>
  clear h1 h2 hlaw hval hfits hsm
  simp only [grpA, boolsA, intsA, boolsD, linksD, intsD] at *
  generalize A.map encI = al at *
  generalize down.map encB = dl at *
  obtain ⟨nodes, ov, links⟩ := t
  simp only [topA, boolsD, linksD] at *
  generalize hol : ov.map encB = ol at *
  generalize hll : links.map encLk = ll at *
  have hlo : Λ ol = ov.length := by rw [Λo, ← hol]; simp
  have hls : Λ ll = links.length := by rw [Λo, ← hll]; simp
  conv => cbv
  repeat' first | refine call_b haw rfl rfl ?_ ?_ | refine call_b hlg rfl rfl ?_ ?_ | (intro hc; cases hc; done) | (intro (_ : Unit); first | omega | rfl | exact ⟨rfl, by omega⟩ | (simp only [nI_eq]; omega) | ((repeat' first | rfl | omega | refine And.intro ?_ ?_ | (simp only [nI_eq]; omega) | (simp only [List.length_cons, List.length_nil]; omega) | exact Nat.le_of_ble_eq_true rfl); done)) | exact trivial | refine And.intro ?_ ?_ | (intro hc; exact absurd hc (by decide)) | (intro hc; exfalso; omega) | (intro hc; (first | rw [wrap_small (by omega) (by omega)] at hc | rw [nI_eq] at hc | skip); try (conv => cbv))
  all_goals exact hK
 obtain ⟨s1, s2, s3, s4⟩ := hsm rfl
 have hval := hval (by omega)
 by_cases hgo : anyB t A = true ∧ fitsB t down = true
 ·obtain ⟨g1, g2⟩ := hgo
  obtain ⟨E, F, e1, e2, e3, e4, e5⟩ := hlaw g1 g2 s1 s2 s4
  have h1 := h1 (by omega)
  rw [e1] at h1
  rw [e2] at h2
  rw [g1] at hval
  rw [g2] at hfits
  have hmem := any_mem g1
  have hdl := (fitsB_spec.1 g2).2
  have hn1 := (validT_spec.1 (of_decide_eq_true g1).1).1
  have hb := base_step hdl
  have hbl := base_len hdl
  clear e1 e2 g1 g2 hlaw hsm
  simp only [vTop, vDown, noOv] at h1 h2
  generalize baseB t down = B at *
  obtain ⟨al, hal⟩ : ∃ x, x = A.map encI := ⟨_, rfl⟩
  have lal : Λ al = A.length := by rw [Λo, hal]; simp
  have ata : ∀ (k : Nat) (m : Int), A[k]? = some m → al[k]? = some [iD m] := fun k m h => by rw [hal, List.getElem?_map, h]; rfl
  obtain ⟨z1, hz1⟩ : ∃ x, x = E.map encI := ⟨_, rfl⟩
  obtain ⟨z2, hz2⟩ : ∃ x, x = F.map encI := ⟨_, rfl⟩
  have lz1 : Λ z1 = E.length := by rw [Λo, hz1]; simp
  have lz2 : Λ z2 = F.length := by rw [Λo, hz2]; simp
  have at1 : ∀ i : Nat, i < E.length → z1[i]? = some [iD (gt E i)] := fun i h => by rw [hz1]; exact encI_at h
  have at2 : ∀ i : Nat, i < F.length → z2[i]? = some [iD (gt F i)] := fun i h => by rw [hz2]; exact encI_at h
  obtain ⟨dl, hdl2⟩ : ∃ x, x = down.map encB := ⟨_, rfl⟩
  have ldl : dl.length = down.length := by rw [hdl2]; simp
  have ldl2 : Λ dl = down.length := by rw [Λo, hdl2]; simp
  obtain ⟨lf, hlf⟩ : ∃ x, x = (t.links ++ A.map (vLnk t.nodes)).map encLk := ⟨_, rfl⟩
  obtain ⟨bf, hbf⟩ : ∃ x, x = (B ++ twoB A.length).map encB := ⟨_, rfl⟩
  simp only [grpA, boolsA, intsA, boolsD, linksD, intsD, topA, List.map_nil, ← hal, ← hz1, ← hz2, ← hlf, ← hbf, ← hdl2] at h1 h2 hlg hval hfits ⊢
  clear hal hz1 hz2
  obtain ⟨nodes, ov, links⟩ := t
  simp only at *
  obtain ⟨ol, hol⟩ : ∃ x, x = ov.map encB := ⟨_, rfl⟩
  obtain ⟨ll, hll⟩ : ∃ x, x = links.map encLk := ⟨_, rfl⟩
  have lls : Λ ll = links.length := by rw [Λo, hll]; simp
  have lls2 : ll.length = links.length := by rw [hll]; simp
  simp only [← hol, ← hll] at h1 h2 hlg hval hfits ⊢
  clear hol
  conv => cbv
  repeat' first | refine call_b haw rfl rfl ?_ ?_ | refine call_b hlg rfl rfl ?_ ?_ | (intro hc; cases hc; done) | refine call_b hval rfl rfl ?_ ?_ | refine call_b hfits rfl rfl ?_ ?_ | (refine call_r h1 rfl rfl ?_; conv => cbv) | (intro (_ : Unit); first | omega | rfl | exact ⟨rfl, by omega⟩ | (simp only [nI_eq]; omega) | ((repeat' first | rfl | omega | refine And.intro ?_ ?_ | (simp only [nI_eq]; omega) | (simp only [List.length_cons, List.length_nil]; omega) | exact Nat.le_of_ble_eq_true rfl); done)) | exact trivial | refine And.intro ?_ ?_ | (intro hc; exact absurd hc (by decide)) | (intro hc; exfalso; omega) | (intro hc; (first | rw [wrap_small (by omega) (by omega)] at hc | rw [nI_eq] at hc | skip); try (conv => cbv))
  rename_i un hun m3 r3 e3 hm3 hr3 he3 m4 r4 e4 hm4 hr4
  rw [List.drop_nil, List.take_nil, List.nil_append] at he3 hc
  refine (fun (hz : ll = e3) => ?_) he3.symm
  subst hz
  refine (fun (hz : dl = e4) => ?_) hc.symm
  subst hz
  have hm3 : m3 = links.length := by omega
  have hm4 : m4 = down.length := by omega
  clear hr3 hr4 h1 haw hlg hval hfits
  refine loop_up (2 * links.length) (fun (s : Nat × Nat × Bool × List (List D)) => [(1, .c (.ptr 0 0 0 0)), (3, .c (.ptr 1 0 0 0)), (4, .c (.d (.list false 1 z1))), (5, iA 0), (6, .c (.ptr 2 0 0 0)), (7, .c (.arr 4 s.1 0 s.2.1))])
   (fun s => [.bx [.d (iD nodes), .d (.list false 1 ol), .d (.list false 7 ll), .d (.list false 1 dl), .d (.list false 1 al), .d (iD node)], .bx [.d (iD nodes), .d (.list true 1 []), .d (.list false 7 ll)], .bx [.d (iD un), .d (.list true 1 []), .arr 3 1 0 m3], .da r3 1 7 ll, .da s.2.2.1 s.1 1 s.2.2.2])
   (fun k s => down.length + k ≤ 2 * links.length ∧ s.2.1 = down.length + k ∧ s.2.2.2 = (down ++ List.replicate k false).map encB) (1, m4, r4, dl) (Wk.cut ⟨_, rfl⟩ (Nat.zero_le _) rfl (by repeat' first | exact trivial | refine And.intro ?_ ?_ | rfl)) ⟨by omega, hm4, by simp [hdl2]⟩ (fun k s h => by omega) ?_
  rintro k ⟨ve, m, r, es⟩ Q' ⟨hk, hm, hes⟩ norm ex rt
  simp only at hm hes
  have les : es.length = down.length + k := by rw [hes]; simp
  by_cases hlt : down.length + k < 2 * links.length
  ·conv => cbv
   repeat' first | (refine ex _ _ _ ?_; (conv => cbv)) | (refine rt _ _ ?_; (conv => cbv)) | (intro (_ : Unit); refine ⟨rfl, ?_⟩; simp only [List.length_cons, List.length_nil]; omega) | (intro (_ : Unit); first | omega | rfl | exact ⟨rfl, by omega⟩ | (simp only [nI_eq]; omega) | ((repeat' first | rfl | omega | refine And.intro ?_ ?_ | (simp only [nI_eq]; omega) | (simp only [List.length_cons, List.length_nil]; omega) | exact Nat.le_of_ble_eq_true rfl); done)) | exact trivial | refine And.intro ?_ ?_ | (intro hc; exact absurd hc (by decide)) | (intro hc; exfalso; omega) | (intro hc; (first | rw [wrap_small (by omega) (by omega)] at hc | rw [nI_eq] at hc | skip); try (conv => cbv))
   rename_i m' r' es' hm' hr'
   have he' := hc
   refine norm _ _ (_, _, _, _) ?_ (Wk.cut ⟨_, rfl⟩ (Nat.zero_le _) rfl (by repeat' first | exact trivial | refine And.intro ?_ ?_ | rfl))
   refine ⟨by omega, by simp only; rw [hm', hm]; simp; omega, ?_⟩
   simp only
   rw [he', List.drop_zero, hm, ← les, List.take_length, hes, List.replicate_succ']; simp only [List.map_append, List.append_assoc]; rfl
  have hB := hb k (by omega) (.inl (by omega))
  rw [hB] at hes
  have lB : B.length = 2 * links.length := hbl
  have les : es.length = 2 * links.length := by rw [hes, List.length_map, lB]
  have hm2 : m = es.length := by omega
  clear hb hbl hB norm hk hm hlt
  conv => cbv
  repeat' first | (refine ex _ _ _ ?_; (conv => cbv)) | (refine rt _ _ ?_; (conv => cbv)) | (intro (_ : Unit); first | omega | rfl | exact ⟨rfl, by omega⟩ | (simp only [nI_eq]; omega) | ((repeat' first | rfl | omega | refine And.intro ?_ ?_ | (simp only [nI_eq]; omega) | (simp only [List.length_cons, List.length_nil]; omega) | exact Nat.le_of_ble_eq_true rfl); done)) | exact trivial | refine And.intro ?_ ?_ | (intro hc; exact absurd hc (by decide)) | (intro hc; exfalso; omega) | (intro hc; (first | rw [wrap_small (by omega) (by omega)] at hc | rw [nI_eq] at hc | skip); try (conv => cbv))
  refine loop_up A.length (fun (s : Int × (Nat × Nat × Bool × List (List D)) × (Nat × Nat × Bool × List (List D))) => [(1, .c (.ptr 0 0 0 0)), (3, .c (.ptr 1 0 0 0)), (4, .c (.d (.list false 1 z1))), (5, iA 0), (6, .c (.ptr 2 0 0 0)), (7, .c (.arr 4 s.2.2.1 0 s.2.2.2.1)), (73, .c (.d (.list false 1 al))), (74, iA (Λ al)), (75, iA s.1)])
   (fun s => [.bx [.d (iD nodes), .d (.list false 1 ol), .d (.list false 7 ll), .d (.list false 1 dl), .d (.list false 1 al), .d (iD node)], .bx [.d (iD nodes), .d (.list true 1 []), .d (.list false 7 ll)], .bx [.d (iD un), .d (.list true 1 []), .arr 3 s.2.1.1 0 s.2.1.2.1], .da s.2.1.2.2.1 s.2.1.1 7 s.2.1.2.2.2, .da s.2.2.2.2.1 s.2.2.1 1 s.2.2.2.2.2])
   (fun k s => s.1 = k ∧ k ≤ A.length ∧ (s.2.1.2.1 = s.2.1.2.2.2.length ∧ s.2.1.2.2.2 = (links ++ (A.take k).map (vLnk nodes)).map encLk) ∧ s.2.2.2.1 = s.2.2.2.2.2.length ∧ s.2.2.2.2.2 = (B ++ twoB k).map encB) (0, (1, m3, r3, ll), (ve, m, r, es)) (Wk.cut ⟨_, rfl⟩ (Nat.zero_le _) rfl (by repeat' first | exact trivial | refine And.intro ?_ ?_ | rfl))
   ⟨rfl, by omega, ⟨by simp only; omega, by simp only; rw [hll]; simp⟩, hm2, by simp only; rw [hes, show twoB 0 = [] from rfl, List.append_nil]⟩ (fun k s h => h.2.1) ?_
  rintro k ⟨i, ⟨v3, n3, q3, x3⟩, ⟨v4, n4, q4, x4⟩⟩ Q' ⟨hi, hk, ⟨hn3, hx3⟩, hn4, hx4⟩ norm ex rt
  simp only at hi hn3 hx3 hn4 hx4
  have l3 : x3.length = links.length + k := by rw [hx3]; simp; omega
  have l4 : x4.length = 2 * links.length + 2 * k := by rw [hx4]; simp [twoB_len, lB]
  by_cases hlt : k < A.length
  ·obtain ⟨a, ha⟩ : ∃ a, A[k]? = some a := ⟨_, List.getElem?_eq_getElem hlt⟩
   have qa : al[i.toNat]? = some [iD a] := by rw [hi, Int.toNat_natCast]; exact ata k a ha
   conv => cbv
   repeat' first | (refine ex _ _ _ ?_; (conv => cbv)) | (refine rt _ _ ?_; (conv => cbv)) | (intro (e : List D) he; cases Option.some.inj (he.symm.trans qa); (conv => cbv)) | (intro (_ : Unit); refine ⟨rfl, ?_⟩; simp only [List.length_cons, List.length_nil]; omega) | (intro (_ : Unit); first | omega | rfl | exact ⟨rfl, by omega⟩ | (simp only [nI_eq]; omega) | ((repeat' first | rfl | omega | refine And.intro ?_ ?_ | (simp only [nI_eq]; omega) | (simp only [List.length_cons, List.length_nil]; omega) | exact Nat.le_of_ble_eq_true rfl); done)) | exact trivial | refine And.intro ?_ ?_ | (intro hc; exact absurd hc (by decide)) | (intro hc; exfalso; omega) | (intro hc; (first | rw [wrap_small (by omega) (by omega)] at hc | rw [nI_eq] at hc | skip); try (conv => cbv))
   rename_i n5 q5 x5 hn5 hq5 hx5 n6 q6 x6 hn6 hq6 hx6 i'
   refine norm _ _ (i', (v3 + 1, n5, q5, x5), (v4 + 1, n6, q6, x6)) ?_ (Wk.cut ⟨_, rfl⟩ (Nat.zero_le _) rfl (by repeat' first | exact trivial | refine And.intro ?_ ?_ | rfl))
   rw [List.drop_zero, hn3, List.take_length] at hx5
   rw [List.drop_zero, hn4, List.take_length] at hx6
   refine ⟨by simp only; omega, by omega, ⟨by simp only; rw [hn5, hx5, hn3]; simp, ?_⟩, by simp only; rw [hn6, hx6, hn4]; simp, ?_⟩
   ·simp only
    rw [hx5, hx3, take_succ_get ha]; simp only [List.map_append, List.append_assoc]; rfl
   ·simp only
    rw [hx6, hx4, twoB_succ]; simp only [List.map_append, List.append_assoc]; rfl
  have hk2 : k = A.length := by omega
  rw [hk2, List.take_length, ← hlf] at hx3
  rw [hk2, ← hbf] at hx4
  rw [hx3] at hn3 ⊢
  rw [hx4] at hn4 ⊢
  rw [← hun] at h2
  clear hx3 hx4 norm hlt l3 l4
  conv => cbv
  repeat' first | (refine ex _ _ _ ?_; (conv => cbv)) | (refine rt _ _ ?_; (conv => cbv)) | (intro (_ : Unit); first | omega | rfl | exact ⟨rfl, by omega⟩ | (simp only [nI_eq]; omega) | ((repeat' first | rfl | omega | refine And.intro ?_ ?_ | (simp only [nI_eq]; omega) | (simp only [List.length_cons, List.length_nil]; omega) | exact Nat.le_of_ble_eq_true rfl); done)) | exact trivial | refine And.intro ?_ ?_ | (intro hc; exact absurd hc (by decide)) | (intro hc; exfalso; omega) | (intro hc; (first | rw [wrap_small (by omega) (by omega)] at hc | rw [nI_eq] at hc | skip); try (conv => cbv))
  (refine call_z 3 (v3) 7 n3 rfl hn3 (by simp [okL, okA, okCs, okC, bq_lit]) (by first | (simp [okH, okB, okCs, okC]; done) | simp [okH, okB, okCs, okC, bq_lit]) ?_; simp only [zL, zA, zCs, zC, zH, zB, bq_self, bq_old]; conv => cbv)
  (refine call_z 4 (v4) 1 n4 rfl hn4 (by simp [okL, okA, okCs, okC, bq_lit]) (by first | (simp [okH, okB, okCs, okC]; done) | simp [okH, okB, okCs, okC, bq_lit]) ?_; simp only [zL, zA, zCs, zC, zH, zB, bq_self, bq_old]; conv => cbv)
  repeat' first | (refine call_r h2 rfl rfl ?_; conv => cbv) | (intro hc; cases hc; done) | (intro (_ : Unit); first | omega | rfl | exact ⟨rfl, by omega⟩ | (simp only [nI_eq]; omega) | ((repeat' first | rfl | omega | refine And.intro ?_ ?_ | (simp only [nI_eq]; omega) | (simp only [List.length_cons, List.length_nil]; omega) | exact Nat.le_of_ble_eq_true rfl); done)) | exact trivial | refine And.intro ?_ ?_ | (intro hc; exact absurd hc (by decide)) | (intro hc; exfalso; omega) | (intro hc; (first | rw [wrap_small (by omega) (by omega)] at hc | rw [nI_eq] at hc | skip); try (conv => cbv))
  refine loop_up E.length (fun (i : Int) => [(4, .c (.d (.list false 1 z1))), (10, .c (.d (.list false 1 z2))), (114, .c (.d (.list false 1 z1))), (115, iA (Λ z1)), (116, iA i)]) (fun _ => []) (fun k i => i = k ∧ k ≤ E.length) 0 (Wk.cut ⟨_, rfl⟩ (Nat.zero_le _) rfl (by repeat' first | exact trivial | refine And.intro ?_ ?_ | rfl)) ⟨rfl, by omega⟩ (fun k s h => h.2) ?_
  rintro k i Q' ⟨hi, hk⟩ norm ex rt
  by_cases hlt : k < E.length
  ·have p1 : z1[i.toNat]? = some [iD (gt E k)] := by rw [hi, Int.toNat_natCast]; exact at1 k hlt
   have p2 : z2[i.toNat]? = some [iD (gt F k)] := by rw [hi, Int.toNat_natCast]; exact at2 k (by omega)
   obtain ⟨b1, b2⟩ := e5 k (by omega) (by omega)
   clear at1 at2 ata e5
   generalize gt E k = x1 at *
   generalize gt F k = x2 at *
   by_cases hp : 0 ≤ x1
   ·rw [if_pos hp] at b2
    conv => cbv
    repeat' first | (refine ex _ _ _ ?_; (conv => cbv)) | (refine rt _ _ ?_; (conv => cbv)) | (intro (e : List D) he; cases Option.some.inj (he.symm.trans p1); (conv => cbv)) | (intro (e : List D) he; cases Option.some.inj (he.symm.trans p2); (conv => cbv)) | (intro (_ : Unit); first | omega | rfl | exact ⟨rfl, by omega⟩ | (simp only [nI_eq]; omega) | ((repeat' first | rfl | omega | refine And.intro ?_ ?_ | (simp only [nI_eq]; omega) | (simp only [List.length_cons, List.length_nil]; omega) | exact Nat.le_of_ble_eq_true rfl); done)) | exact trivial | refine And.intro ?_ ?_ | (intro hc; exact absurd hc (by decide)) | (intro hc; exfalso; omega) | (intro hc; (first | rw [wrap_small (by omega) (by omega)] at hc | rw [nI_eq] at hc | skip); try (conv => cbv))
    all_goals first | (exfalso; omega) | (rename_i i'; exact norm _ _ i' ⟨by omega, by omega⟩ (Wk.cut ⟨_, rfl⟩ (Nat.zero_le _) rfl (by repeat' first | exact trivial | refine And.intro ?_ ?_ | rfl)))
   ·rw [if_neg hp] at b2
    conv => cbv
    repeat' first | (refine ex _ _ _ ?_; (conv => cbv)) | (refine rt _ _ ?_; (conv => cbv)) | (intro (e : List D) he; cases Option.some.inj (he.symm.trans p1); (conv => cbv)) | (intro (e : List D) he; cases Option.some.inj (he.symm.trans p2); (conv => cbv)) | (intro (_ : Unit); first | omega | rfl | exact ⟨rfl, by omega⟩ | (simp only [nI_eq]; omega) | ((repeat' first | rfl | omega | refine And.intro ?_ ?_ | (simp only [nI_eq]; omega) | (simp only [List.length_cons, List.length_nil]; omega) | exact Nat.le_of_ble_eq_true rfl); done)) | exact trivial | refine And.intro ?_ ?_ | (intro hc; exact absurd hc (by decide)) | (intro hc; exfalso; omega) | (intro hc; (first | rw [wrap_small (by omega) (by omega)] at hc | rw [nI_eq] at hc | skip); try (conv => cbv))
    all_goals first | (exfalso; omega) | (rename_i i'; exact norm _ _ i' ⟨by omega, by omega⟩ (Wk.cut ⟨_, rfl⟩ (Nat.zero_le _) rfl (by repeat' first | exact trivial | refine And.intro ?_ ?_ | rfl)))
  conv => cbv
  repeat' first | (refine ex _ _ _ ?_; (conv => cbv)) | (refine rt _ _ ?_; (conv => cbv)) | (intro (_ : Unit); first | omega | rfl | exact ⟨rfl, by omega⟩ | (simp only [nI_eq]; omega) | ((repeat' first | rfl | omega | refine And.intro ?_ ?_ | (simp only [nI_eq]; omega) | (simp only [List.length_cons, List.length_nil]; omega) | exact Nat.le_of_ble_eq_true rfl); done)) | exact trivial | refine And.intro ?_ ?_ | (intro hc; exact absurd hc (by decide)) | (intro hc; exfalso; omega) | (intro hc; (first | rw [wrap_small (by omega) (by omega)] at hc | rw [nI_eq] at hc | skip); try (conv => cbv))
  exact hK
 ·have hgo2 : anyB t A = false ∨ (anyB t A = true ∧ fitsB t down = false) := by
   cases h3 : anyB t A
   ·exact .inl rfl
   ·exact .inr ⟨rfl, by cases h4 : fitsB t down; rfl; exact absurd ⟨h3, h4⟩ hgo⟩
  clear hgo hlaw h1 h2 hsm
  generalize anyB t A = ab at *
  generalize fitsB t down = fb at *
  simp only [grpA, boolsA, intsA, boolsD, linksD, intsD] at *
  generalize A.map encI = al at *
  generalize down.map encB = dl at *
  rcases hgo2 with rfl | ⟨rfl, rfl⟩
  all_goals
   obtain ⟨nodes, ov, links⟩ := t
   simp only [topA, boolsD, linksD] at *
   generalize hol : ov.map encB = ol at *
   generalize hll : links.map encLk = ll at *
   have hlo : Λ ol = ov.length := by rw [Λo, ← hol]; simp
   have hls : Λ ll = links.length := by rw [Λo, ← hll]; simp
   conv => cbv
   repeat' first | refine call_b haw rfl rfl ?_ ?_ | refine call_b hlg rfl rfl ?_ ?_ | (intro hc; cases hc; done) | refine call_b hval rfl rfl ?_ ?_ | refine call_b hfits rfl rfl ?_ ?_ | (intro (_ : Unit); first | omega | rfl | exact ⟨rfl, by omega⟩ | (simp only [nI_eq]; omega) | ((repeat' first | rfl | omega | refine And.intro ?_ ?_ | (simp only [nI_eq]; omega) | (simp only [List.length_cons, List.length_nil]; omega) | exact Nat.le_of_ble_eq_true rfl); done)) | exact trivial | refine And.intro ?_ ?_ | (intro hc; exact absurd hc (by decide)) | (intro hc; exfalso; omega) | (intro hc; (first | rw [wrap_small (by omega) (by omega)] at hc | rw [nI_eq] at hc | skip); try (conv => cbv))
   all_goals exact hK
end Go.Ab

