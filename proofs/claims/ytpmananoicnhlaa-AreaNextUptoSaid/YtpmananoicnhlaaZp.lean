/-
  Merged texts, part p.
-/
import Derived.Test.YtpmananoicnhlaaZo
import Derived.Shelf.Sort.Plain
import Derived.Shelf.Slices.In.SortNone
import Derived.Ground.NamesProg
import Derived.Ground.Names2Prog
import Derived.Test.YtpmananoicnhlaaProg
/-
  The contract of slices.Sort at this program (written by the kit's lay-plain tool).
-/
namespace Go.Proofs
open Go.Shelf
def Try.lays189_ren : Go.Shelf.Ren := ⟨fun | 189 => 30 | 125 => 43 | 257 => 42 | 128 => 63 | 129 => 64 | 294 => 54 | 295 => 55 | 296 => 56 | 297 => 57 | 298 => 58 | 299 => 59 | 216 => 60 | 300 => 61 | 301 => 62 | 328 => 75 | 329 => 76 | 330 => 77 | 331 => 78 | 332 => 79 | 215 => 80 | 343 => 87 | n => n, fun | 28 => 26 | 3 => 3 | 46 => 72 | 0 => 0 | 51 => 91 | 53 => 93 | 4 => 4 | 183 => 83 | 182 => 82 | 131 => 88 | 5 => 5 | 9 => 9 | 218 => 104 | 222 => 108 | 228 => 116 | 229 => 117 | n => n, fun | n => n⟩
theorem Try.lays189 : Go.Proofs.Lays.n189 Try.prog Try.lays189_ren := {
  mixed := by kernel_rfl
  f125 := Try.func43.trans (congrArg some (by kernel_rfl))
  f128 := Try.func63.trans (congrArg some (by kernel_rfl))
  f129 := Try.func64.trans (congrArg some (by kernel_rfl))
  f189 := Try.func30.trans (congrArg some (by kernel_rfl))
  f215 := Try.func80.trans (congrArg some (by kernel_rfl))
  f216 := Try.func60.trans (congrArg some (by kernel_rfl))
  f257 := Try.func42.trans (congrArg some (by kernel_rfl))
  f294 := Try.func54.trans (congrArg some (by kernel_rfl))
  f295 := Try.func55.trans (congrArg some (by kernel_rfl))
  f296 := Try.func56.trans (congrArg some (by kernel_rfl))
  f297 := Try.func57.trans (congrArg some (by kernel_rfl))
  f298 := Try.func58.trans (congrArg some (by kernel_rfl))
  f299 := Try.func59.trans (congrArg some (by kernel_rfl))
  f300 := Try.func61.trans (congrArg some (by kernel_rfl))
  f301 := Try.func62.trans (congrArg some (by kernel_rfl))
  f328 := Try.func75.trans (congrArg some (by kernel_rfl))
  f329 := Try.func76.trans (congrArg some (by kernel_rfl))
  f330 := Try.func77.trans (congrArg some (by kernel_rfl))
  f331 := Try.func78.trans (congrArg some (by kernel_rfl))
  f332 := Try.func79.trans (congrArg some (by kernel_rfl))
  f343 := Try.func87.trans (congrArg some (by kernel_rfl))
  t0 := Try.underlying0
  a0 := Try.isAgg0
  z0 := Try.sizeOf0
  v0 := Try.zeroValue0
  t3 := Try.underlying3
  a3 := Try.isAgg3
  z3 := Try.sizeOf3
  v3 := Try.zeroValue3
  t4 := Try.underlying4
  a4 := Try.isAgg4
  z4 := Try.sizeOf4
  v4 := Try.zeroValue4
  t5 := Try.underlying5
  a5 := Try.isAgg5
  z5 := Try.sizeOf5
  v5 := Try.zeroValue5
  t9 := Try.underlying9
  a9 := Try.isAgg9
  z9 := Try.sizeOf9
  v9 := Try.zeroValue9
  t28 := Try.underlying26
  a28 := Try.isAgg26
  z28 := Try.sizeOf26
  v28 := Try.zeroValue26
  t46 := Try.underlying72
  a46 := Try.isAgg72
  z46 := Try.sizeOf72
  v46 := Try.zeroValue72
  t51 := Try.underlying91
  a51 := Try.isAgg91
  z51 := Try.sizeOf91
  v51 := Try.zeroValue91
  t53 := Try.underlying93
  a53 := Try.isAgg93
  z53 := Try.sizeOf93
  v53 := Try.zeroValue93
  t131 := Try.underlying88
  a131 := Try.isAgg88
  z131 := Try.sizeOf88
  v131 := Try.zeroValue88
  t182 := Try.underlying82
  a182 := Try.isAgg82
  z182 := Try.sizeOf82
  v182 := Try.zeroValue82
  t183 := Try.underlying83
  a183 := Try.isAgg83
  z183 := Try.sizeOf83
  v183 := Try.zeroValue83
  t218 := Try.underlying104
  a218 := Try.isAgg104
  z218 := Try.sizeOf104
  v218 := Try.zeroValue104
  t222 := Try.underlying108
  a222 := Try.isAgg108
  z222 := Try.sizeOf108
  v222 := Try.zeroValue108
  t228 := Try.underlying116
  a228 := Try.isAgg116
  z228 := Try.sizeOf116
  v228 := Try.zeroValue116
  t229 := Try.underlying117
  a229 := Try.isAgg117
  z229 := Try.sizeOf117
  v229 := Try.zeroValue117 }
end Go.Proofs

/-
  Sort of numbers at this program.
-/
namespace Go.Ab
open Go.Proofs Go.Sort
theorem sorts_int : SortsI Try.prog n_slices_Sort_int_int := ⟨fun blk off cap zs w hH hb hz => Any.slices_Sort_int Try.lays189 blk off cap zs w hH hb hz, fun p cap w => Any.slices_Sort_int_none Try.lays189 p cap w⟩
end Go.Ab

/-
  Compact of numbers.
-/
namespace Go.Ab
open Go.Proofs
theorem compL_snoc : ∀ (l : List Int) (x y : Int), compL (l ++ [x, y]) = if x = y then compL (l ++ [x]) else compL (l ++ [x]) ++ [y]
 | [], x, y => by
  simp only [List.nil_append, compL]
  split
  ·rename_i e; rw [e]
  ·rfl
 | [a], x, y => by
  have ih := compL_snoc [] x y
  simp only [List.nil_append] at ih
  simp only [List.cons_append, List.nil_append]
  rw [show compL [a, x, y] = if a = x then compL [x, y] else a :: compL [x, y] from rfl, show compL [a, x] = if a = x then compL [x] else a :: compL [x] from rfl, ih]
  split <;> split <;> rfl
 | a :: b :: l, x, y => by
  have ih := compL_snoc (b :: l) x y
  simp only [List.cons_append] at ih ⊢
  rw [show compL (a :: b :: (l ++ [x, y])) = if a = b then compL (b :: (l ++ [x, y])) else a :: compL (b :: (l ++ [x, y])) from rfl, show compL (a :: b :: (l ++ [x])) = if a = b then compL (b :: (l ++ [x])) else a :: compL (b :: (l ++ [x])) from rfl, ih]
  split <;> split <;> rfl
theorem compL_take {zs : List Int} {k : Nat} {x y : Int} (hk : 1 ≤ k) (hx : zs[k - 1]? = some x) (hy : zs[k]? = some y) : compL (zs.take (k + 1)) = if x = y then compL (zs.take k) else compL (zs.take k) ++ [y] := by
 obtain ⟨j, rfl⟩ : ∃ j, k = j + 1 := ⟨k - 1, by omega⟩
 rw [Nat.add_sub_cancel] at hx
 rw [take_succ_get hy, take_succ_get hx, List.append_assoc]
 exact compL_snoc _ _ _
set_option maxHeartbeats 2000000 in
theorem compact_ok (P : Program) (hP : P = Try.prog) (zs : List Int) (hz : zs.length ≤ 100000000) (r : Bool) (v : Nat) :
  FnS P n_slices_Compact_int_int [.c (.arr 0 v 0 zs.length)] [.da r v 1 (zs.map encI)] fun r' h' => ∃ m es', r' = .c (.arr 0 v 0 m) ∧ h' = [.da r v 1 es'] ∧ es'.take m = (compL zs).map encI ∧ m ≤ es'.length := by
 refine heap_start (hP ▸ mixed) (hP ▸ fn_slices_Compact_int_int) (hP ▸ c_slices_Compact_int_int) (Nat.le_of_ble_eq_true rfl) fun Λ Λo K hK => ?_
 clear hP
 have kk : ∀ m es', es'.take m = (compL zs).map encI → m ≤ es'.length → K (.c (.arr 0 v 0 m)) [.da r v 1 es'] := fun m es' h1 h2 => hK _ _ ⟨m, es', rfl, rfl, h1, h2⟩
 clear hK
 obtain ⟨n, hn⟩ : ∃ n, n = zs.length := ⟨_, rfl⟩
 obtain ⟨es, hes⟩ : ∃ x, x = zs.map encI := ⟨_, rfl⟩
 have les : es.length = n := by rw [hes, List.length_map, hn]
 rw [← hes, ← hn]
 have small : n < 2 → compL zs = zs := fun h => by
  match zs, hn with
  | [], _ => rfl
  | [x], _ => rfl
  | x :: y :: l, hn => simp at hn; omega
 conv => cbv
 repeat' first | exact gu | exact trivial | refine And.intro ?_ ?_ | (intro hc; exact absurd hc (by decide)) | (intro hc; exfalso; omega) | (intro hc; (first | rw [wrap_small (by omega) (by omega)] at hc | rw [nI_eq] at hc | skip); try (conv => cbv))
 ·refine kk n es ?_ (by omega)
  rw [← les, List.take_length, small (by omega), hes]
 clear small
 refine loop_up n (fun (i : Int) => [(0, .c (.arr 0 v 0 n)), (3, iA i)]) (fun _ => [.da r v 1 es]) (fun j i => i = j + 1 ∧ j + 1 ≤ n ∧ compL (zs.take (j + 1)) = zs.take (j + 1)) 1 (Wk.ch) ⟨rfl, by omega, by cases zs <;> rfl⟩ (fun k s h => by omega) ?_
 rintro j i Q' ⟨hi, hj, hcm⟩ norm ex rt
 by_cases hlt : j + 1 < n
 ·obtain ⟨x, hx⟩ : ∃ x, zs[j]? = some x := ⟨_, List.getElem?_eq_getElem (by omega)⟩
  obtain ⟨y, hy⟩ : ∃ y, zs[j + 1]? = some y := ⟨_, List.getElem?_eq_getElem (by omega)⟩
  have ex1 : es[j]? = some [iD x] := by rw [hes, List.getElem?_map, hx]; rfl
  obtain ⟨kn, hkn⟩ : ∃ q, q = j + 1 := ⟨_, rfl⟩
  have ey1 : es[kn]? = some [iD y] := by rw [hkn, hes, List.getElem?_map, hy]; rfl
  have hct := compL_take (k := j + 1) (by omega) (by rw [Nat.add_sub_cancel]; exact hx) hy
  conv => cbv
  repeat' first | (refine ex _ _ _ ?_; (conv => cbv)) | (refine rt _ _ ?_; (conv => cbv)) | (intro (k : Nat) hk; refine (fun (hz : kn = k) => ?_) ?_; rotate_left; omega; subst hz; (conv => cbv)) | (intro (k : Nat) hk; refine (fun (hz : j = k) => ?_) ?_; rotate_left; omega; subst hz; (conv => cbv)) | (intro (e : List D) he; cases Option.some.inj (he.symm.trans ey1); (conv => cbv)) | (intro (e : List D) he; cases Option.some.inj (he.symm.trans ex1); (conv => cbv)) | exact gu | exact trivial | refine And.intro ?_ ?_ | (intro hc; exact absurd hc (by decide)) | (intro hc; exfalso; omega) | (intro hc; (first | rw [wrap_small (by omega) (by omega)] at hc | rw [nI_eq] at hc | skip); try (conv => cbv))
  ·rename_i i0 nl hi0
   have hi1 : i0 = kn := by omega
   subst hi1
   have rtO := rt
   clear norm ex rt
   have hxy : x = y := by omega
   rw [if_pos hxy, hcm] at hct
   refine loop_up n (fun (s : Int × Int × List (List D)) => [(0, .c (.arr 0 v 0 n)), (3, iA s.1), (4, .c (.arr 0 v i0 nl)), (5, iA s.2.1)]) (fun s => [.da r v 1 s.2.2])
    (fun q s => ∃ kq : Nat, s.1 = kq ∧ s.2.1 = q + 1 ∧ i0 ≤ kq ∧ kq ≤ i0 + q ∧ i0 + q + 1 ≤ n ∧ s.2.2.length = n ∧ s.2.2.take kq = (compL (zs.take (i0 + q + 1))).map encI ∧ ∀ p, kq ≤ p → s.2.2[p]? = es[p]?)
    (i, 1, es) (Wk.ch) ⟨i0, by simp only; omega, rfl, Nat.le_refl _, Nat.le_refl _, by omega, les, by simp only [Nat.add_zero]; rw [hkn, hct, hes, List.map_take], fun _ _ => rfl⟩ (fun k s ⟨_, h⟩ => by omega) ?_
   rintro q ⟨ki, qi, bl⟩ Q2 ⟨kq, hki, hqi, h1, h2, h3, lbl, htk, hrest⟩ nrm ex rt
   simp only at hki hqi lbl htk hrest
   by_cases hlt2 : i0 + q + 1 < n
   ·obtain ⟨a1, ha1⟩ : ∃ a, a = i0 + q + 1 := ⟨_, rfl⟩
    obtain ⟨a0, ha0⟩ : ∃ a, a = i0 + q := ⟨_, rfl⟩
    obtain ⟨e0, he0⟩ : ∃ x, zs[a0]? = some x := ⟨_, List.getElem?_eq_getElem (by omega)⟩
    obtain ⟨e1, he1⟩ : ∃ x, zs[a1]? = some x := ⟨_, List.getElem?_eq_getElem (by omega)⟩
    have hb0 : bl[a0]? = some [iD e0] := by rw [hrest a0 (by omega), hes, List.getElem?_map, he0]; rfl
    have hb1 : bl[a1]? = some [iD e1] := by rw [hrest a1 (by omega), hes, List.getElem?_map, he1]; rfl
    obtain ⟨c0, hc0⟩ : ∃ c, bl[kq]? = some c := ⟨_, List.getElem?_eq_getElem (by omega)⟩
    have hc2 : bl[kq]? = some [iD (zs.getD kq 0)] := by rw [hrest kq (Nat.le_refl _), hes]; exact list_at zs (by omega)
    have hct2 := compL_take (zs := zs) (k := a1) (by omega) (by rw [show a1 - 1 = a0 by omega]; exact he0) he1
    have st1 : e0 ≠ e1 → (bl.set kq [iD e1]).take (kq + 1) = (compL (zs.take (a1 + 1))).map encI := fun h => by
     rw [hct2, if_neg h, List.map_append, show zs.take a1 = zs.take (i0 + q + 1) by rw [ha1], ← htk]
     rw [List.take_succ_eq_append_getElem (by rw [List.length_set]; omega), List.getElem_set_self, List.take_set_of_le (Nat.le_refl _)]
     rfl
    have st2 : e0 = e1 → bl.take kq = (compL (zs.take (a1 + 1))).map encI := fun h => by
     rw [hct2, if_pos h, show zs.take a1 = zs.take (i0 + q + 1) by rw [ha1], ← htk]
    generalize zs.getD kq 0 = c1 at *
    clear hct hct2 hcm hc0 kk
    conv => cbv
    repeat' first | (refine ex _ _ _ ?_; (conv => cbv)) | (refine rt _ _ ?_; (conv => cbv)) | (intro (k : Nat) hk; refine (fun (hz : a1 = k) => ?_) ?_; rotate_left; omega; subst hz; (conv => cbv)) | (intro (k : Nat) hk; refine (fun (hz : a0 = k) => ?_) ?_; rotate_left; omega; subst hz; (conv => cbv)) | (intro (k : Nat) hk; refine (fun (hz : kq = k) => ?_) ?_; rotate_left; omega; subst hz; (conv => cbv)) | (intro (e : List D) he; cases Option.some.inj (he.symm.trans hb1); (conv => cbv)) | (intro (e : List D) he; cases Option.some.inj (he.symm.trans hb0); (conv => cbv)) | (intro (e : List D) he; cases Option.some.inj (he.symm.trans hc2); (conv => cbv)) | exact gu | exact trivial | refine And.intro ?_ ?_ | (intro hc; exact absurd hc (by decide)) | (intro hc; exfalso; omega) | (intro hc; (first | rw [wrap_small (by omega) (by omega)] at hc | rw [nI_eq] at hc | skip); try (conv => cbv))
    ·rename_i x hx ki' hki' qi'
     have hne : ¬ e1 = e0 := by assumption
     have hx : x = bl.set kq [iD e1] := hx
     subst hx
     refine nrm _ _ (ki', qi', bl.set kq [iD e1]) ⟨kq + 1, by simp only; omega, by simp only; omega, by omega, by omega, by omega, by simp only [List.length_set]; exact lbl, ?_, fun p hp => ?_⟩ (Wk.ch)
     ·simp only; rw [st1 (fun e => hne e.symm), show a1 + 1 = i0 + (q + 1) + 1 by omega]
     ·simp only; rw [List.getElem?_set_ne (by omega)]; exact hrest p (by omega)
    ·rename_i qi'
     have heq : e1 = e0 := by assumption
     exact nrm _ _ (ki, qi', bl) ⟨kq, hki, by simp only; omega, by omega, by omega, by omega, lbl, by simp only; rw [st2 heq.symm, show a1 + 1 = i0 + (q + 1) + 1 by omega], hrest⟩ (Wk.ch)
   ·conv => cbv
    repeat' first | (refine ex _ _ _ ?_; (conv => cbv)) | (refine rt _ _ ?_; (conv => cbv)) | exact gu | exact trivial | refine And.intro ?_ ?_ | (intro hc; exact absurd hc (by decide)) | (intro hc; exfalso; omega) | (intro hc; (first | rw [wrap_small (by omega) (by omega)] at hc | rw [nI_eq] at hc | skip); try (conv => cbv))
    rename_i a2 n2 ha2 hn2 bl2 hbl2 m2
    have hm2 : m2 = kq := by omega
    have ha3 : a2 = kq := by omega
    subst hm2
    refine rtO _ _ ?_
    refine kk m2 bl2 ?_ ?_
    ·rw [hbl2, ha3, List.take_append_of_le_length (by rw [List.length_take]; omega), List.take_take, Nat.min_self, htk, show i0 + q + 1 = zs.length by omega, List.take_length]
    ·rw [hbl2]; simp; omega
  ·rename_i i'
   refine norm _ _ i' ⟨by omega, by omega, ?_⟩ (Wk.ch)
   rw [hct, if_neg (fun e => by rename_i h; exact h e.symm), hcm, ← take_succ_get hy]
 conv => cbv
 repeat' first | (refine ex _ _ _ ?_; (conv => cbv)) | (refine rt _ _ ?_; (conv => cbv)) | exact gu | exact trivial | refine And.intro ?_ ?_ | (intro hc; exact absurd hc (by decide)) | (intro hc; exfalso; omega) | (intro hc; (first | rw [wrap_small (by omega) (by omega)] at hc | rw [nI_eq] at hc | skip); try (conv => cbv))
 refine kk n es ?_ (by omega)
 rw [← les, List.take_length, hes]
 rw [show j + 1 = zs.length by omega, List.take_length] at hcm
 rw [hcm]
end Go.Ab

/-
  Areas: the areas of a node.
-/
namespace Go.Ab
open Go.Proofs
def inS (t : Top) (A : List Int) (n : Int) : List Int := if validK t A = true then (arcsTo 65).filter fun k => isK t A n k else []
theorem mem_arcsTo {m : Nat} {x : Int} : x ∈ arcsTo m ↔ 0 ≤ x ∧ x < m := by
 simp only [arcsTo, List.mem_map, List.mem_range]
 constructor
 ·rintro ⟨k, hk, rfl⟩; omega
 ·rintro ⟨h0, h1⟩; exact ⟨x.toNat, by omega, by omega⟩
theorem validK_spec {t : Top} {A : List Int} : validK t A = true ↔ validT t = true ∧ A.length = t.links.length ∧ ∀ a ∈ A, 0 ≤ a ∧ a ≤ 64 := by
 rw [validK, decide_eq_true_eq]
theorem mem_inS {t : Top} {A : List Int} (h : validK t A = true) {n k : Int} : k ∈ inS t A n ↔ isK t A n k = true := by
 rw [inS, if_pos h, List.mem_filter, mem_arcsTo]
 refine ⟨fun h => h.2, fun hk => ⟨?_, hk⟩⟩
 obtain ⟨i, l, h1, _⟩ := isK_spec.1 hk
 have := (validK_spec.1 h).2.2 k (List.mem_of_getElem? h1)
 omega
theorem sinc_inS (t : Top) (A : List Int) (n : Int) : (inS t A n).Pairwise (· < ·) := by
 rw [inS]; split
 ·exact (sinc_arcs _).filter _
 ·exact .nil
theorem inS_len (t : Top) (A : List Int) (n : Int) : (inS t A n).length ≤ 65 := by
 rw [inS]; split
 ·refine Nat.le_trans (List.length_filter_le _ _) ?_
  simp [arcsTo]
 ·simp
set_option maxHeartbeats 1000000 in
theorem rin_ok (P : Program) (hP : P = Try.prog) (t : Top) (A : List Int) (n : Int) : Ret P n_ref17_In [topA t, intsA A, iA n] (intsA (inS t A n)) := by
 refine ret_start (hP ▸ mixed) (hP ▸ fn_ref17_In) (hP ▸ c_ref17_In) (Nat.le_of_ble_eq_true rfl) fun Λ Λo K hK => ?_
 have hval := rkvalid_ok P hP t A
 have his := fun k h => is_ok P hP t A n k h
 clear hP
 rw [inS] at hK
 by_cases hv : validK t A = true
 ·rw [if_pos hv] at hK
  rw [hv] at hval
  have his := fun k => his k (validK_spec.1 hv).2.1
  obtain ⟨g, hg⟩ : ∃ g : Int → Bool, ∀ k, isK t A n k = g k := ⟨_, fun _ => rfl⟩
  simp only [hg] at his hK
  clear hg hv
  simp only [intsA, intsD] at *
  generalize A.map encI = al at *
  obtain ⟨nodes, ov, links⟩ := t
  simp only [topA, boolsD, linksD] at *
  generalize hol : ov.map encB = ol at *
  generalize hll : links.map encLk = ll at *
  have hlo : Λ ol = ov.length := by rw [Λo, ← hol]; simp
  have hls : Λ ll = links.length := by rw [Λo, ← hll]; simp
  obtain ⟨kb, hkb⟩ : ∃ kb : Nat, kb = 65 := ⟨_, rfl⟩
  rw [← hkb] at hK
  conv => cbv
  repeat' first | exact gu | exact trivial | refine And.intro ?_ ?_ | (intro hc; exact absurd hc (by decide)) | (intro hc; exfalso; omega) | (intro hc; (first | rw [wrap_small (by omega) (by omega)] at hc | rw [nI_eq] at hc | skip); try (conv => cbv))
  refine loop_up kb (fun (s : Int × Nat × Nat × Bool × List (List D)) => [(1, .c (.d (.list false 1 al))), (2, iA n), (3, .c (.ptr 0 0 0 0)), (7, .c (.arr 1 s.2.1 0 s.2.2.1)), (8, iA s.1)]) (fun s => [.bx [.d (.int .i64 nodes), .d (.list false 1 ol), .d (.list false 7 ll)], .da s.2.2.2.1 s.2.1 1 s.2.2.2.2])
   (fun k s => s.1 = k ∧ k ≤ kb ∧ s.2.2.1 = s.2.2.2.2.length ∧ s.2.2.2.2 = (((arcsTo k).filter g).map encI)) (0, 0, 0, false, []) (.trans (.nilS 7 1 rfl) (Wk.cw)) ⟨rfl, by omega, rfl, rfl⟩ (fun k s h => h.2.1) ?_
  rintro k ⟨i, ve, m, r, es⟩ Q' ⟨hi, hk, hm, hes⟩ norm ex rt
  simp only at hi hm hes
  have hesl : es.length ≤ k := by
   rw [hes, List.length_map]
   refine Nat.le_trans (List.length_filter_le _ _) ?_
   simp [arcsTo]
  have hi2 := his i
  generalize hgi : g i = gi at *
  cases gi
  all_goals
   conv => cbv
   repeat' first | (refine ex _ _ _ ?_; (conv => cbv)) | (refine rt _ _ ?_; (conv => cbv)) | refine call_b hval rfl rfl ?_ ?_ | refine call_b hi2 rfl rfl ?_ ?_ | (intro hc; cases hc; done) | (intro (_ : Unit); refine ⟨rfl, ?_⟩; simp only [List.length_cons, List.length_nil]; omega) | exact gu | exact trivial | refine And.intro ?_ ?_ | (intro hc; exact absurd hc (by decide)) | (intro hc; exfalso; omega) | (intro hc; (first | rw [wrap_small (by omega) (by omega)] at hc | rw [nI_eq] at hc | skip); try (conv => cbv))
  ·rename_i i'
   refine norm _ _ (_, _, _, _, _) ?_ (Wk.cw)
   have e : es = (((arcsTo (k + 1)).filter g).map encI) := by
    rw [hes, arcsTo_succ, List.filter_append, List.map_append]
    rw [← hi, List.filter_cons_of_neg (by rw [hgi]; simp)]; simp
   exact ⟨by simp only; omega, by omega, hm, e⟩
  ·rename_i ls
   have e : ls = (((arcsTo kb).filter g).map encI) := by
    rw [hc, List.drop_zero, hm, List.take_length, hes, show k = kb by omega]
   subst e
   exact hK
  ·rename_i m' r' es2 hm' hr' he' i'
   refine norm _ _ (_, _, _, _, _) ?_ (Wk.cw)
   have e : es2 = (((arcsTo (k + 1)).filter g).map encI) := by
    rw [he', List.drop_zero, hm, List.take_length, hes, arcsTo_succ, List.filter_append, List.map_append]
    rw [← hi, List.filter_cons_of_pos (by rw [hgi])]; rfl
   exact ⟨by simp only; omega, by omega, by simp only; rw [hm', he', List.drop_zero, hm, List.take_length]; simp, e⟩
  ·rename_i ls
   have e : ls = (((arcsTo kb).filter g).map encI) := by
    rw [hc, List.drop_zero, hm, List.take_length, hes, show k = kb by omega]
   subst e
   exact hK
 ·rw [if_neg hv] at hK
  simp only [Bool.not_eq_true] at hv
  rw [hv] at hval
  clear his
  simp only [intsA, intsD, List.map_nil] at *
  generalize A.map encI = al at *
  obtain ⟨nodes, ov, links⟩ := t
  simp only [topA, boolsD, linksD] at *
  generalize hol : ov.map encB = ol at *
  generalize hll : links.map encLk = ll at *
  have hlo : Λ ol = ov.length := by rw [Λo, ← hol]; simp
  have hls : Λ ll = links.length := by rw [Λo, ← hll]; simp
  conv => cbv
  repeat' first | exact gu | exact trivial | refine And.intro ?_ ?_ | (intro hc; exact absurd hc (by decide)) | (intro hc; exfalso; omega) | (intro hc; (first | rw [wrap_small (by omega) (by omega)] at hc | rw [nI_eq] at hc | skip); try (conv => cbv))
  refine loop_up 1 (fun (_ : Unit) => [(1, .c (.d (.list false 1 al))), (2, iA n), (3, .c (.ptr 0 0 0 0)), (7, .c (.d (.list true 1 []))), (8, iA 0)]) (fun _ => [.bx [.d (.int .i64 nodes), .d (.list false 1 ol), .d (.list false 7 ll)]]) (fun k _ => k ≤ 1) () (Wk.ch) (by omega) (fun k s h => h) ?_
  rintro k _ Q' _ norm ex rt
  conv => cbv
  repeat' first | (refine ex _ _ _ ?_; (conv => cbv)) | (refine rt _ _ ?_; (conv => cbv)) | refine call_b hval rfl rfl ?_ ?_ | (intro hc; cases hc; done) | exact gu | exact trivial | refine And.intro ?_ ?_ | (intro hc; exact absurd hc (by decide)) | (intro hc; exfalso; omega) | (intro hc; (first | rw [wrap_small (by omega) (by omega)] at hc | rw [nI_eq] at hc | skip); try (conv => cbv))
  exact hK
end Go.Ab

/-
  Areas: the areas of a node, as the program finds them; border nodes.
-/
namespace Go.Ab
open Go.Proofs
def colS (t : Top) (A : List Int) (n : Int) (j : Nat) : List Int := (((A.zip t.links).take j).filter fun p => touch p.2 n).map (·.1)
theorem colS_succ {t : Top} {A : List Int} {i : Nat} {a n : Int} {l : Lk} (ha : A[i]? = some a) (hl : t.links[i]? = some l) : colS t A n (i + 1) = if touch l n = true then colS t A n i ++ [a] else colS t A n i := by
 rw [colS, take_succ_get (x := (a, l)) (List.getElem?_zip_eq_some.2 ⟨ha, hl⟩), List.filter_append, List.map_append, ← colS]
 cases h : touch l n
 ·rw [List.filter_cons_of_neg (by simp [h])]; simp
 ·rw [List.filter_cons_of_pos (by simp [h])]; simp
theorem colS_len (t : Top) (A : List Int) (n : Int) (j : Nat) : (colS t A n j).length ≤ j := by
 rw [colS, List.length_map]
 refine Nat.le_trans (List.length_filter_le _ _) ?_
 rw [List.length_take]; omega
theorem col_in {t : Top} {A : List Int} (h : validK t A = true) (n : Int) : compL ((colS t A n A.length).mergeSort fun x y => decide (x ≤ y)) = inS t A n := by
 refine sinc_ext (sinc_compL _ ?_) (sinc_inS ..) fun z => ?_
 ·exact (List.pairwise_mergeSort (le := fun x y : Int => decide (x ≤ y)) (fun a b c h1 h2 => by simp at *; omega) (fun a b => by simp; omega) _).imp fun h => by simpa using h
 ·rw [mem_compL, List.mem_mergeSort, mem_inS h, colS, List.take_of_length_le (by rw [List.length_zip]; omega), isK]
  simp only [List.mem_map, List.mem_filter, List.any_eq_true, Bool.and_eq_true, decide_eq_true_eq]
  constructor
  ·rintro ⟨p, ⟨h1, h2⟩, rfl⟩; exact ⟨p, h1, rfl, h2⟩
  ·rintro ⟨p, h1, rfl, h2⟩; exact ⟨p, ⟨h1, h2⟩, rfl⟩
theorem isK_out {t : Top} {A : List Int} (h : validT t = true) {n k : Int} (hn : ¬ (0 ≤ n ∧ n < t.nodes)) : isK t A n k = false := by
 cases he : isK t A n k
 ·rfl
 ·obtain ⟨i, l, _, h2, h3⟩ := isK_spec.1 he
  have := okLk_spec.1 ((validT_spec.1 h).2.2.2 l (List.mem_of_getElem? h2))
  simp only [touch, Bool.or_eq_true, decide_eq_true_eq] at h3
  omega
set_option maxHeartbeats 2000000 in
theorem ain_ok (P : Program) (hP : P = Try.prog) (t : Top) (A : List Int) (n : Int) : Ret P n_area_In [topA t, intsA A, iA n] (intsA (inS t A n)) := by
  refine ret_start (hP ▸ mixed) (hP ▸ fn_area_In) (hP ▸ c_area_In) (Nat.le_of_ble_eq_true rfl) fun Λ Λo K hK => ?_
  have hval := kvalid_ok P hP t A
  have hnode := gnode_ok P hP t n
  have hsort : SortsI P n_slices_Sort_int_int := hP ▸ sorts_int
  have hcmp := fun zs h r v => compact_ok P hP zs h r v
  clear hP
  by_cases hgo : validK t A = true ∧ 0 ≤ n ∧ n < t.nodes
  · obtain ⟨hv, hn⟩ := hgo
    rw [hv] at hval
    rw [decide_eq_true hn] at hnode
    obtain ⟨v1, v2, v3⟩ := validK_spec.1 hv
    have hl256 := (validT_spec.1 v1).2.2.1
    have hcin := col_in hv n
    have k1 : ∀ ls, ls = (inS t A n).map encI → K (.c (.d (.list false 1 ls))) := fun ls h => by rw [h]; exact hK
    clear hK hv
    have hst := fun i a l (ha : A[i]? = some a) (hl : t.links[i]? = some l) => colS_succ (n := n) ha hl
    have hcl := colS_len t A n
    have c0 : colS t A n 0 = [] := rfl
    generalize colS t A n = col at *
    generalize inS t A n = ins at *
    have hat := fun k a h => encI_get (A := A) (k := k) (a := a) h
    have hlk := fun i l (h : t.links[i]? = some l) => (by rw [List.getElem?_map, h]; rfl : (t.links.map encLk)[i]? = some (encLk l))
    obtain ⟨al, hal⟩ : ∃ x, x = A.map encI := ⟨_, rfl⟩
    have lal : Λ al = A.length := by rw [Λo, hal]; simp
    simp only [intsA, intsD, ← hal] at hat hval ⊢
    clear hal
    obtain ⟨nodes, ov, links⟩ := t
    simp only [topA, boolsD, linksD] at *
    generalize hol : ov.map encB = ol at *
    generalize hll : links.map encLk = ll at *
    have hlo : Λ ol = ov.length := by rw [Λo, ← hol]; simp
    have hls : Λ ll = links.length := by rw [Λo, ← hll]; simp
    conv => cbv
    repeat' first | refine call_b hval rfl rfl ?_ ?_ | refine call_b hnode rfl rfl ?_ ?_ | (intro hc; cases hc; done) | exact gu | exact trivial | refine And.intro ?_ ?_ | (intro hc; exact absurd hc (by decide)) | (intro hc; exfalso; omega) | (intro hc; (first | rw [wrap_small (by omega) (by omega)] at hc | rw [nI_eq] at hc | skip); try (conv => cbv))
    refine loop_up links.length (fun (s : Int × Nat × Nat × Bool × List (List D)) => [(1, .c (.d (.list false 1 al))), (2, iA n), (3, .c (.ptr 0 0 0 0)), (7, .c (.arr 1 s.2.1 0 s.2.2.1)), (21, .c (.d (.list false 7 ll))), (22, iA (Λ ll)), (23, iA s.1)]) (fun s => [.bx [.d (.int .i64 nodes), .d (.list false 1 ol), .d (.list false 7 ll)], .da s.2.2.2.1 s.2.1 1 s.2.2.2.2])
      (fun k s => s.1 = k ∧ k ≤ links.length ∧ s.2.2.1 = s.2.2.2.2.length ∧ s.2.2.2.2 = (col k).map encI) (0, 0, 0, false, []) (.trans (.nilS 7 1 rfl) (Wk.cw)) ⟨rfl, by omega, rfl, by rw [c0]; rfl⟩ (fun k s h => h.2.1) ?_
    rintro k ⟨i, ve, m, r, es⟩ Q' ⟨hi, hk, hm, hes⟩ norm ex rt
    simp only at hi hm hes
    have hckl := hcl k
    have hesl : es.length = (col k).length := by rw [hes, List.length_map]
    by_cases hlt : k < links.length
    · obtain ⟨a, ha⟩ : ∃ a, A[k]? = some a := ⟨_, List.getElem?_eq_getElem (by omega)⟩
      obtain ⟨l, hl2⟩ : ∃ l, links[k]? = some l := ⟨_, List.getElem?_eq_getElem (by omega)⟩
      have hx : al[i.toNat]? = some [iD a] := by rw [hi, Int.toNat_natCast]; exact hat k a ha
      have hy : ll[i.toNat]? = some (encLk l) := by rw [hi, Int.toNat_natCast]; exact hlk k l hl2
      have hs := hst k a l ha hl2
      obtain ⟨la, lb, l3, l4, l5, l6, l7⟩ := l
      have hs1 : (la = n ∨ lb = n) → col (k + 1) = col k ++ [a] := fun h => by rw [hs, if_pos (by simpa [touch] using h)]
      have hs0 : ¬ (la = n ∨ lb = n) → col (k + 1) = col k := fun h => by rw [hs, if_neg (by simpa [touch] using h)]
      clear hs hst hat hlk hl2 ha k1 hcmp hsort hcin hcl
      simp only [encLk] at hy
      conv => cbv
      repeat' first | (refine ex _ _ _ ?_; (conv => cbv)) | (refine rt _ _ ?_; (conv => cbv)) | (intro (e : List D) he; cases Option.some.inj (he.symm.trans hx); (conv => cbv)) | (intro (e : List D) he; cases Option.some.inj (he.symm.trans hy); (conv => cbv)) | (intro (_ : Unit); refine ⟨rfl, ?_⟩; simp only [List.length_cons, List.length_nil]; omega) | exact gu | exact trivial | refine And.intro ?_ ?_ | (intro hc; exact absurd hc (by decide)) | (intro hc; exfalso; omega) | (intro hc; (first | rw [wrap_small (by omega) (by omega)] at hc | rw [nI_eq] at hc | skip); try (conv => cbv))
      all_goals first
        | (rename_i m' r' es2 hm' hr' he' i'
           refine norm _ _ (_, _, _, _, _) ?_ (Wk.cw)
           have e : es2 = (col (k + 1)).map encI := by
             rw [he', List.drop_zero, hm, List.take_length, hes, hs1 (by omega), List.map_append]; rfl
           exact ⟨by simp only; omega, by omega, by simp only; rw [hm', he', List.drop_zero, hm, List.take_length]; simp, e⟩)
        | (rename_i i'
           refine norm _ _ (_, _, _, _, _) ?_ (Wk.cw)
           exact ⟨by simp only; omega, by omega, hm, by simp only; rw [hes, hs0 (by omega)]⟩)
    have hkA : k = A.length := by omega
    rw [hkA] at hes hesl hckl
    have hsf := sortI_fn hsort (col A.length) (by omega) r ve
    have hcf := hcmp ((col A.length).mergeSort fun x y => decide (x ≤ y)) (by rw [List.length_mergeSort]; omega) r ve
    rw [List.length_mergeSort] at hcf
    rw [← hesl, ← hm] at hsf hcf
    rw [← hes] at hsf
    rw [hcin] at hcf
    obtain ⟨sl, hsl⟩ : ∃ x, x = ((col A.length).mergeSort fun x y => decide (x ≤ y)).map encI := ⟨_, rfl⟩
    rw [← hsl] at hsf hcf
    obtain ⟨ul, hul⟩ : ∃ x, x = ins.map encI := ⟨_, rfl⟩
    rw [← hul] at hcf k1
    clear hcmp hsort hcin hst hat hlk
    conv => cbv
    repeat' first | (refine ex _ _ _ ?_; (conv => cbv)) | (refine rt _ _ ?_; (conv => cbv)) | (refine call_fr [1] hsf rfl rfl (by decide) (by repeat' first | exact trivial | refine And.intro ?_ ?_ | rfl) rfl rfl ?_; rintro r hc' ⟨rfl, rfl⟩; (conv => cbv)) | (refine call_fr [1] hcf rfl rfl (by decide) (by repeat' first | exact trivial | refine And.intro ?_ ?_ | rfl) rfl rfl ?_; rintro r hc' ⟨m2, es2, rfl, rfl, hc1, hc2⟩; (conv => cbv)) | exact gu | exact trivial | refine And.intro ?_ ?_ | (intro hc; exact absurd hc (by decide)) | (intro hc; exfalso; omega) | (intro hc; (first | rw [wrap_small (by omega) (by omega)] at hc | rw [nI_eq] at hc | skip); try (conv => cbv))
    rename_i ls
    exact k1 ls (by rw [hc, List.drop_zero, hc1])
  · have hnil : inS t A n = [] := by
      rw [inS]; split
      · rename_i hv
        rw [List.filter_eq_nil_iff]
        intro k _
        rw [isK_out (validK_spec.1 hv).1 fun h => hgo ⟨hv, h⟩]; simp
      · rfl
    rw [hnil] at hK
    clear hsort hcmp hnil
    obtain ⟨vb, hvb⟩ : ∃ b, b = validK t A := ⟨_, rfl⟩
    obtain ⟨nb, hnb⟩ : ∃ b, b = decide (0 ≤ n ∧ n < t.nodes) := ⟨_, rfl⟩
    rw [← hvb] at hval hgo
    rw [← hnb] at hnode
    have hgo2 : vb = true → nb = false := fun h => by rw [hnb]; exact decide_eq_false fun h2 => hgo ⟨h, h2⟩
    clear hgo
    clear hnb hvb
    simp only [intsA, intsD, List.map_nil] at *
    generalize A.map encI = al at *
    obtain ⟨nodes, ov, links⟩ := t
    simp only [topA, boolsD, linksD] at *
    generalize hol : ov.map encB = ol at *
    generalize hll : links.map encLk = ll at *
    have hlo : Λ ol = ov.length := by rw [Λo, ← hol]; simp
    have hls : Λ ll = links.length := by rw [Λo, ← hll]; simp
    cases vb
    · conv => cbv
      repeat' first | refine call_b hval rfl rfl ?_ ?_ | (intro hc; cases hc; done) | exact gu | exact trivial | refine And.intro ?_ ?_ | (intro hc; exact absurd hc (by decide)) | (intro hc; exfalso; omega) | (intro hc; (first | rw [wrap_small (by omega) (by omega)] at hc | rw [nI_eq] at hc | skip); try (conv => cbv))
      exact hK
    · have hgo2 := hgo2 rfl
      subst hgo2
      conv => cbv
      repeat' first | refine call_b hval rfl rfl ?_ ?_ | refine call_b hnode rfl rfl ?_ ?_ | (intro hc; cases hc; done) | exact gu | exact trivial | refine And.intro ?_ ?_ | (intro hc; exact absurd hc (by decide)) | (intro hc; exfalso; omega) | (intro hc; (first | rw [wrap_small (by omega) (by omega)] at hc | rw [nI_eq] at hc | skip); try (conv => cbv))
      exact hK
def borderK (t : Top) (A : List Int) (n : Int) : Bool := decide (1 < (inS t A n).length) && decide ((inS t A n).getD 0 0 = 0)
def borderS (t : Top) (A : List Int) : List Int := if validK t A = true then (arcsTo t.nodes.toNat).filter fun n => borderK t A n else []
theorem rborder_ok (P : Program) (hP : P = Try.prog) (t : Top) (A : List Int) (n : Int) : Ret P n_ref17_border [topA t, intsA A, iA n] (bA (borderK t A n)) := by
 refine ret_start (hP ▸ mixed) (hP ▸ fn_ref17_border) (hP ▸ c_ref17_border) (Nat.le_of_ble_eq_true rfl) fun Λ Λo K hK => ?_
 have hin := rin_ok P hP t A n
 clear hP
 rw [borderK] at hK
 generalize inS t A n = l at *
 have yes : 1 < l.length → l.getD 0 0 = 0 → K (bA true) := fun h1 h2 => by rw [decide_eq_true h1, decide_eq_true h2] at hK; exact hK
 have no : ¬ (1 < l.length ∧ l.getD 0 0 = 0) → K (bA false) := fun h => by
  have : (decide (1 < l.length) && decide (l.getD 0 0 = 0)) = false := by
   rw [← Bool.not_eq_true, Bool.and_eq_true, decide_eq_true_eq, decide_eq_true_eq]; exact h
  rw [this] at hK; exact hK
 clear hK
 have h0 : 1 < l.length → (l.map encI)[0]? = some [iD (l.getD 0 0)] := fun h => by
  cases l with
  | nil => simp at h
  | cons a l => rfl
 obtain ⟨zl, hzl⟩ : ∃ x, x = l.map encI := ⟨_, rfl⟩
 have lzl : Λ zl = l.length := by rw [Λo, hzl]; simp
 simp only [intsA, intsD, ← hzl] at h0 hin ⊢
 clear hzl
 generalize l.getD 0 0 = x at *
 generalize A.map encI = al at *
 obtain ⟨nodes, ov, links⟩ := t
 simp only [topA, boolsD, linksD] at *
 generalize hol : ov.map encB = ol at *
 generalize hll : links.map encLk = ll at *
 have hlo : Λ ol = ov.length := by rw [Λo, ← hol]; simp
 have hls : Λ ll = links.length := by rw [Λo, ← hll]; simp
 conv => cbv
 repeat' first | (refine call_r hin rfl rfl ?_; conv => cbv) | (intro (e : List D) he; cases Option.some.inj (he.symm.trans (h0 (by omega))); (conv => cbv)) | exact gu | exact trivial | refine And.intro ?_ ?_ | (intro hc; exact absurd hc (by decide)) | (intro hc; exfalso; omega) | (intro hc; (first | rw [wrap_small (by omega) (by omega)] at hc | rw [nI_eq] at hc | skip); try (conv => cbv))
 all_goals first | exact yes (by omega) (by omega) | exact no (by omega)
end Go.Ab

/-
  Areas: the border nodes.
-/
namespace Go.Ab
open Go.Proofs
theorem borderS_len (t : Top) (A : List Int) : (borderS t A).length ≤ t.nodes.toNat := by
 rw [borderS]; split
 ·refine Nat.le_trans (List.length_filter_le _ _) ?_
  simp [arcsTo]
 ·simp
theorem mem_borderS {t : Top} {A : List Int} (h : validK t A = true) {b : Int} : b ∈ borderS t A ↔ (0 ≤ b ∧ b < t.nodes) ∧ borderK t A b = true := by
 rw [borderS, if_pos h, List.mem_filter, mem_arcsTo]
 constructor
 ·rintro ⟨h1, h2⟩; exact ⟨by omega, h2⟩
 ·rintro ⟨h1, h2⟩; exact ⟨by omega, h2⟩
set_option maxHeartbeats 1000000 in
theorem aborders_ok (P : Program) (hP : P = Try.prog) (t : Top) (A : List Int) : Ret P n_area_Border [topA t, intsA A] (intsA (borderS t A)) := by
  refine ret_start (hP ▸ mixed) (hP ▸ fn_area_Border) (hP ▸ c_area_Border) (Nat.le_of_ble_eq_true rfl) fun Λ Λo K hK => ?_
  have hval := kvalid_ok P hP t A
  have hin := fun k => ain_ok P hP t A k
  clear hP
  rw [borderS] at hK
  by_cases hv : validK t A = true
  · rw [if_pos hv] at hK
    rw [hv] at hval
    have hn0 := (validT_spec.1 (validK_spec.1 hv).1).1
    obtain ⟨g, hg⟩ : ∃ g : Int → Bool, ∀ k, borderK t A k = g k := ⟨_, fun _ => rfl⟩
    have hgd : ∀ k, g k = (decide (1 < (inS t A k).length) && decide ((inS t A k).getD 0 0 = 0)) := fun k => by rw [← hg]; rfl
    simp only [hg] at hK
    clear hg hv
    obtain ⟨f, hf⟩ : ∃ f : Int → List Int, ∀ k, inS t A k = f k := ⟨_, fun _ => rfl⟩
    simp only [hf] at hin hgd
    clear hf
    simp only [intsA, intsD] at *
    generalize A.map encI = al at *
    obtain ⟨nodes, ov, links⟩ := t
    simp only [topA, boolsD, linksD] at *
    generalize hol : ov.map encB = ol at *
    generalize hll : links.map encLk = ll at *
    have hlo : Λ ol = ov.length := by rw [Λo, ← hol]; simp
    have hls : Λ ll = links.length := by rw [Λo, ← hll]; simp
    obtain ⟨kb, hkb⟩ : ∃ kb : Nat, kb = nodes.toNat := ⟨_, rfl⟩
    rw [← hkb] at hK
    conv => cbv
    repeat' first | refine call_b hval rfl rfl ?_ ?_ | (intro hc; cases hc; done) | exact gu | exact trivial | refine And.intro ?_ ?_ | (intro hc; exact absurd hc (by decide)) | (intro hc; exfalso; omega) | (intro hc; (first | rw [wrap_small (by omega) (by omega)] at hc | rw [nI_eq] at hc | skip); try (conv => cbv))
    refine loop_up kb (fun (s : Int × Nat × Nat × Bool × List (List D)) => [(1, .c (.d (.list false 1 al))), (2, .c (.ptr 0 0 0 0)), (5, .c (.arr 1 s.2.1 0 s.2.2.1)), (13, iA nodes), (14, iA s.1)]) (fun s => [.bx [.d (.int .i64 nodes), .d (.list false 1 ol), .d (.list false 7 ll)], .da s.2.2.2.1 s.2.1 1 s.2.2.2.2])
      (fun k s => s.1 = k ∧ k ≤ kb ∧ s.2.2.1 = s.2.2.2.2.length ∧ s.2.2.2.2 = (((arcsTo k).filter g).map encI)) (0, 0, 0, false, []) (.trans (.nilS 5 1 rfl) (Wk.cw)) ⟨rfl, by omega, rfl, rfl⟩ (fun k s h => h.2.1) ?_
    rintro k ⟨i, ve, m, r, es⟩ Q' ⟨hi, hk, hm, hes⟩ norm ex rt
    simp only at hi hm hes
    have hesl : es.length ≤ k := by
      rw [hes, List.length_map]
      refine Nat.le_trans (List.length_filter_le _ _) ?_
      simp [arcsTo]
    have hin := hin i
    have hg1 : 1 < (f i).length ∧ (f i).getD 0 0 = 0 → g i = true := fun h => by rw [hgd, decide_eq_true h.1, decide_eq_true h.2]; rfl
    have hg0 : ¬ (1 < (f i).length ∧ (f i).getD 0 0 = 0) → g i = false := fun h => by
      rw [hgd, ← Bool.not_eq_true, Bool.and_eq_true, decide_eq_true_eq, decide_eq_true_eq]; exact h
    clear hgd
    generalize f i = l at *
    have h0 : 1 < l.length → (l.map encI)[0]? = some [iD (l.getD 0 0)] := fun h => by
      cases l with
      | nil => simp at h
      | cons a l => rfl
    obtain ⟨zl, hzl⟩ : ∃ x, x = l.map encI := ⟨_, rfl⟩
    have lzl : Λ zl = l.length := by rw [Λo, hzl]; simp
    rw [← hzl] at h0 hin
    clear hzl
    generalize l.getD 0 0 = x at *
    conv => cbv
    repeat' first | (refine ex _ _ _ ?_; (conv => cbv)) | (refine rt _ _ ?_; (conv => cbv)) | (refine call_r hin rfl rfl ?_; conv => cbv) | (intro (e : List D) he; cases Option.some.inj (he.symm.trans (h0 (by omega))); (conv => cbv)) | (intro (_ : Unit); refine ⟨rfl, ?_⟩; simp only [List.length_cons, List.length_nil]; omega) | exact gu | exact trivial | refine And.intro ?_ ?_ | (intro hc; exact absurd hc (by decide)) | (intro hc; exfalso; omega) | (intro hc; (first | rw [wrap_small (by omega) (by omega)] at hc | rw [nI_eq] at hc | skip); try (conv => cbv))
    all_goals first
      | (rename_i m' r' es2 hm' hr' he' i'
         refine norm _ _ (_, _, _, _, _) ?_ (Wk.cw)
         have e : es2 = (((arcsTo (k + 1)).filter g).map encI) := by
           rw [he', List.drop_zero, hm, List.take_length, hes, arcsTo_succ, List.filter_append, List.map_append]
           rw [← hi, List.filter_cons_of_pos (hg1 (by omega))]; rfl
         exact ⟨by simp only; omega, by omega, by simp only; rw [hm', he', List.drop_zero, hm, List.take_length]; simp, e⟩)
      | (rename_i i'
         refine norm _ _ (_, _, _, _, _) ?_ (Wk.cw)
         have e : es = (((arcsTo (k + 1)).filter g).map encI) := by
           rw [hes, arcsTo_succ, List.filter_append, List.map_append]
           rw [← hi, List.filter_cons_of_neg (by rw [hg0 (by omega)]; simp)]; simp
         exact ⟨by simp only; omega, by omega, hm, e⟩)
      | (rename_i ls
         have e : ls = (((arcsTo kb).filter g).map encI) := by
           rw [hc, List.drop_zero, hm, List.take_length, hes, show k = kb by omega]
         subst e
         exact hK)
  · rw [if_neg hv] at hK
    simp only [Bool.not_eq_true] at hv
    rw [hv] at hval
    clear hin
    simp only [intsA, intsD, List.map_nil] at *
    generalize A.map encI = al at *
    obtain ⟨nodes, ov, links⟩ := t
    simp only [topA, boolsD, linksD] at *
    generalize hol : ov.map encB = ol at *
    generalize hll : links.map encLk = ll at *
    have hlo : Λ ol = ov.length := by rw [Λo, ← hol]; simp
    have hls : Λ ll = links.length := by rw [Λo, ← hll]; simp
    conv => cbv
    repeat' first | refine call_b hval rfl rfl ?_ ?_ | (intro hc; cases hc; done) | exact gu | exact trivial | refine And.intro ?_ ?_ | (intro hc; exact absurd hc (by decide)) | (intro hc; exfalso; omega) | (intro hc; (first | rw [wrap_small (by omega) (by omega)] at hc | rw [nI_eq] at hc | skip); try (conv => cbv))
    exact hK
end Go.Ab

/-
  Areas: masks, and routes of the reference.
-/
namespace Go.Ab
open Go.Proofs
def maskAt (t : Top) (A : List Int) (down : List Bool) (k : Int) (apart : Bool) (a : Int) : Bool :=
 !decide (A.getD (a / 2).toNat 0 = k) || !upB down a || (apart && isK t A (tailT t a) 0)
def maskS (t : Top) (A : List Int) (down : List Bool) (k : Int) (apart : Bool) : List Bool := (arcsTo (2 * t.links.length)).map fun a => maskAt t A down k apart a
theorem fill_map {f : Int → Bool} {k m : Nat} : ((arcsTo k).map f ++ List.replicate (m + 1) false).set k (f k) = (arcsTo (k + 1)).map f ++ List.replicate m false := by
 rw [List.set_append_right _ _ (by simp [arcsTo]), arcsTo_succ, List.map_append, List.append_assoc]
 simp [arcsTo, List.replicate_succ]
theorem encB_set {M : List Bool} {es : List (List D)} {p : Nat} {e : List D} {v : Bool} (hes : M.map encB = es) (he : es[p]? = some e) : es.set p (List.take 0 e ++ ([D.bool v] ++ List.drop (0 + [D.bool v].length) e)) = (M.set p v).map encB := by
 subst hes
 obtain ⟨x, hx, rfl⟩ := map_get he
 rw [List.map_set]; rfl
set_option maxHeartbeats 2000000 in
theorem mask_ok (P : Program) (hP : P = Try.prog) (t : Top) (A : List Int) (down : List Bool) (k : Int) (apart : Bool) (hv : validK t A = true) (hd : down.length = 0 ∨ down.length = 2 * t.links.length) :
    Ret P n_ref17_mask [topA t, intsA A, boolsA down, iA k, bA apart] (boolsA (maskS t A down k apart)) := by
  refine ret_start (hP ▸ mixed) (hP ▸ fn_ref17_mask) (hP ▸ c_ref17_mask) (Nat.le_of_ble_eq_true rfl) fun Λ Λo K hK => ?_
  obtain ⟨v1, v2, v3⟩ := validK_spec.1 hv
  have hup := fun a h => up_ok P hP down a h
  have htail := fun a => tail_ok P hP t a
  have his := fun n k => is_ok P hP t A n k v2
  clear hP
  have hl256 := (validT_spec.1 v1).2.2.1
  have k1 : ∀ ls, ls = (maskS t A down k apart).map encB → K (.c (.d (.list false 1 ls))) := fun ls h => by rw [h]; exact hK
  have hms : maskS t A down k apart = (arcsTo (2 * t.links.length)).map fun a => maskAt t A down k apart a := rfl
  rw [hms] at k1
  have hma : ∀ a, maskAt t A down k apart a = (!decide (A.getD (a / 2).toNat 0 = k) || !upB down a || (apart && isK t A (tailT t a) 0)) := fun _ => rfl
  generalize maskAt t A down k apart = f at *
  generalize maskS t A down k apart = ms at *
  clear hK hms v3
  have hat := fun k a h => encI_get (A := A) (k := k) (a := a) h
  generalize tailT t = tf at *
  generalize upB down = uf at *
  generalize isK t A = sf at *
  obtain ⟨al, hal⟩ : ∃ x, x = A.map encI := ⟨_, rfl⟩
  have lal : Λ al = A.length := by rw [Λo, hal]; simp
  simp only [intsA, intsD, boolsA, boolsD, ← hal] at hat his hup k1 ⊢
  clear hal
  generalize down.map encB = dl at *
  generalize hdn : down.length = dn at *
  obtain ⟨nodes, ov, links⟩ := t
  simp only [topA, boolsD, linksD] at *
  generalize hol : ov.map encB = ol at *
  generalize hll : links.map encLk = ll at *
  have hlo : Λ ol = ov.length := by rw [Λo, ← hol]; simp
  have hls : Λ ll = links.length := by rw [Λo, ← hll]; simp
  obtain ⟨N, hN⟩ : ∃ N, N = 2 * links.length := ⟨_, rfl⟩
  rw [← hN] at k1 hd
  conv => cbv
  repeat' first | (intro (_ : Unit); refine ⟨?_, ?_, ?_, ?_⟩; omega; omega; omega; omega) | exact gu | exact trivial | refine And.intro ?_ ?_ | (intro hc; exact absurd hc (by decide)) | (intro hc; exfalso; omega) | (intro hc; (first | rw [wrap_small (by omega) (by omega)] at hc | rw [nI_eq] at hc | skip); try (conv => cbv))
  rename_i m0 es0 hm0
  have e0 : m0 = N := by omega
  rw [← e0] at k1 hd
  have hc0 : es0 = (List.replicate m0 false).map encB := by rw [hc, ← hm0, List.map_replicate]; rfl
  clear hc
  subst hc0
  refine loop_up m0 (fun (s : Int × List Bool) => [(1, .c (.d (.list false 1 al))), (2, .c (.d (.list false 1 dl))), (3, iA k), (4, bA apart), (5, .c (.ptr 0 0 0 0)), (11, .c (.arr 1 0 0 m0)), (12, iA s.1)]) (fun s => [.bx [.d (iD nodes), .d (.list false 1 ol), .d (.list false 7 ll)], .da true 0 1 (s.2.map encB)])
    (fun j s => s.1 = j ∧ j ≤ m0 ∧ s.2 = (arcsTo j).map f ++ List.replicate (m0 - j) false) (0, List.replicate m0 false) (Wk.cw) ⟨rfl, by omega, by simp [arcsTo]⟩ (fun k s h => h.2.1) ?_
  rintro j ⟨i, M⟩ Q' ⟨hi, hj, hM⟩ norm ex rt
  simp only at hi hM
  have lM : M.length = m0 := by rw [hM]; simp [arcsTo]; omega
  obtain ⟨es, hes⟩ : ∃ x, x = M.map encB := ⟨_, rfl⟩
  have les : es.length = m0 := by rw [hes, List.length_map]; exact lM
  simp only
  rw [← hes]
  by_cases hlt : j < m0
  · obtain ⟨a, ha⟩ : ∃ a, A[j / 2]? = some a := ⟨_, List.getElem?_eq_getElem (by omega)⟩
    have hx : ∀ q : Int, q = i / 2 → al[q.toNat]? = some [iD a] := fun q hq => by rw [hq, hi, show (((j : Nat) : Int) / 2).toNat = j / 2 by omega]; exact hat _ a ha
    have hma := hma i
    rw [List.getD_eq_getElem?_getD, hi, show (((j : Nat) : Int) / 2).toNat = j / 2 by omega, ha, Option.getD_some, ← hi] at hma
    have hup := hup i (by omega)
    have htl := htail i
    have his := his (tf i) 0
    generalize sf (tf i) 0 = b3 at *
    generalize uf i = b2 at *
    generalize tf i = ti at *
    have nx : ∀ (L : Lv) (h : Hp) (i' : Int) (v : Bool), i' = i + 1 → f i = v → Wk 0 L h [(1, .c (.d (.list false 1 al))), (2, .c (.d (.list false 1 dl))), (3, iA k), (4, bA apart), (5, .c (.ptr 0 0 0 0)), (11, .c (.arr 1 0 0 m0)), (12, iA i')] [.bx [.d (iD nodes), .d (.list false 1 ol), .d (.list false 7 ll)], .da true 0 1 ((M.set j v).map encB)] → Q' .normal L h := fun L h i' v h1 h2 hw => by
      refine norm _ _ (i', M.set j v) ⟨by simp only; omega, by omega, ?_⟩ hw
      simp only
      rw [hM, show m0 - j = m0 - (j + 1) + 1 by omega, ← h2, hi, fill_map]
    clear norm hat htail k1
    cases apart
    all_goals cases b2
    all_goals cases b3
    all_goals
      conv => cbv
      repeat' first | (refine ex _ _ _ ?_; (conv => cbv)) | (refine rt _ _ ?_; (conv => cbv)) | (intro hc; rw [tdiv2 (by omega) (by omega)] at hc; conv => cbv) | (intro (e : List D) he; cases Option.some.inj (he.symm.trans (hx _ (by assumption))); (conv => cbv)) | refine call_b hup rfl rfl ?_ ?_ | (refine call_r htl rfl rfl ?_; conv => cbv) | refine call_b his rfl rfl ?_ ?_ | (intro hc; cases hc; done) | exact gu | exact trivial | refine And.intro ?_ ?_ | (intro hc; exact absurd hc (by decide)) | (intro hc; exfalso; omega) | (intro hc; (first | rw [wrap_small (by omega) (by omega)] at hc | rw [nI_eq] at hc | skip); try (conv => cbv))
    all_goals
      rename_i p hp e hpe es' hes' i'
      have fin : ∀ v : Bool, es' = es.set p (List.take 0 e ++ ([D.bool v] ++ List.drop (0 + [D.bool v].length) e)) → es' = (M.set j v).map encB := fun v h => by
        rw [h, encB_set hes.symm hpe, hp]
        congr 2; omega
      first
        | (have e3 := fin true hes'
           subst e3
           exact nx _ _ i' true hc (by rw [hma]; simp_all) (Wk.cw))
        | (have e3 := fin false hes'
           subst e3
           exact nx _ _ i' false hc (by rw [hma]; simp_all) (Wk.cw))
  clear hat htail his hup hma
  conv => cbv
  repeat' first | (refine ex _ _ _ ?_; (conv => cbv)) | (refine rt _ _ ?_; (conv => cbv)) | exact gu | exact trivial | refine And.intro ?_ ?_ | (intro hc; exact absurd hc (by decide)) | (intro hc; exfalso; omega) | (intro hc; (first | rw [wrap_small (by omega) (by omega)] at hc | rw [nI_eq] at hc | skip); try (conv => cbv))
  rename_i ls
  refine k1 ls ?_
  have e : ls = es := by rw [hc, List.drop_zero]; exact List.take_of_length_le (by omega)
  rw [e, hes, hM, show m0 - j = 0 by omega, show j = m0 by omega]
  simp
structure Rt where
 (dist cls : Int) (arcs : List Int)
def rtA (r : Rt) : AV := .agg [.d (iD r.dist), .d (iD r.cls), .d (intsD r.arcs)]
def noRt : Rt := ⟨0, 0, []⟩
def betterS (a b : Rt) : Rt := if a.cls = 0 ∨ (0 < b.cls ∧ b.dist < a.dist) then b else if b.cls = 0 ∨ a.dist < b.dist then a else ⟨a.dist, a.cls, mergeR a.arcs b.arcs⟩
theorem better_ok (P : Program) (hP : P = Try.prog) (a b : Rt) (ha : a.arcs.length ≤ 1000000) (hb : b.arcs.length ≤ 1000000) : Ret P n_ref17_better [rtA a, rtA b] (rtA (betterS a b)) := by
 refine ret_start (hP ▸ mixed) (hP ▸ fn_ref17_better) (hP ▸ c_ref17_better) (Nat.le_of_ble_eq_true rfl) fun Λ Λo K hK => ?_
 have hmg := merge_ok P hP a.arcs b.arcs ha hb
 clear hP ha hb
 have k1 : (a.cls = 0 ∨ (0 < b.cls ∧ b.dist < a.dist)) → K (rtA b) := fun h => by rw [betterS, if_pos h] at hK; exact hK
 have k2 : ¬ (a.cls = 0 ∨ (0 < b.cls ∧ b.dist < a.dist)) → (b.cls = 0 ∨ a.dist < b.dist) → K (rtA a) := fun h h2 => by rw [betterS, if_neg h, if_pos h2] at hK; exact hK
 have k3 : ¬ (a.cls = 0 ∨ (0 < b.cls ∧ b.dist < a.dist)) → ¬ (b.cls = 0 ∨ a.dist < b.dist) → K (rtA ⟨a.dist, a.cls, mergeR a.arcs b.arcs⟩) := fun h h2 => by rw [betterS, if_neg h, if_neg h2] at hK; exact hK
 clear hK
 obtain ⟨da, ca, aa⟩ := a
 obtain ⟨db, cb, ab⟩ := b
 simp only [rtA, intsA, intsD] at *
 generalize (mergeR aa ab).map encI = ml at *
 generalize aa.map encI = al at *
 generalize ab.map encI = bl at *
 conv => cbv
 repeat' first | (refine call_r hmg rfl rfl ?_; conv => cbv) | exact gu | exact trivial | refine And.intro ?_ ?_ | (intro hc; exact absurd hc (by decide)) | (intro hc; exfalso; omega) | (intro hc; (first | rw [wrap_small (by omega) (by omega)] at hc | rw [nI_eq] at hc | skip); try (conv => cbv))
 all_goals first | exact k1 (by omega) | exact k2 (by omega) (by omega) | exact k3 (by omega) (by omega)
noncomputable def legS (t : Top) (m : List Bool) (n d more cls : Int) : Rt := if gt (distS t m d false) n < 0 then noRt else ⟨gt (distS t m d false) n + more, cls, nextL t m (distS t m d false) n d⟩
theorem leg_ok (P : Program) (hP : P = Try.prog) (t : Top) (m : List Bool) (n d more cls : Int) (hf : fitsB t m = true) (hn : 0 ≤ n ∧ n < t.nodes) (hd : 0 ≤ d ∧ d < t.nodes) (hm : 0 ≤ more ∧ more ≤ 100000000) :
  Ret P n_ref17_leg [topA t, boolsA m, iA n, iA d, iA more, iA cls] (rtA (legS t m n d more cls)) := by
 refine ret_start (hP ▸ mixed) (hP ▸ fn_ref17_leg) (hP ▸ c_ref17_leg) (Nat.le_of_ble_eq_true rfl) fun Λ Λo K hK => ?_
 have hv : validT t = true := (show validT t = true ∧ _ by simpa [fitsB] using hf).1
 obtain ⟨hsp, hsb⟩ := distS_spec hv m false hd.1 hd.2
 have hdist := dist_ok P hP t m d
 rw [searchS, if_pos hf, if_pos hd] at hdist
 have htow := towards_ok P hP t m n d hf hd
 clear hP hf
 have hb := hsb n hn.1 hn.2
 have k1 : gt (distS t m d false) n < 0 → K (rtA noRt) := fun h => by rw [legS, if_pos h] at hK; exact hK
 have k2 : ¬ gt (distS t m d false) n < 0 → K (rtA ⟨gt (distS t m d false) n + more, cls, nextL t m (distS t m d false) n d⟩) := fun h => by rw [legS, if_neg h] at hK; exact hK
 clear hK hsb
 have hat := encI_at (D := distS t m d false) (i := n.toNat) (by have := hsp.len; omega)
 rw [Int.toNat_of_nonneg hn.1] at hat
 have hlen := hsp.len
 generalize nextL t m (distS t m d false) n d = nl at *
 generalize distS t m d false = E at *
 simp only [rtA, noRt, intsA, intsD, boolsA, boolsD, List.map_nil] at *
 obtain ⟨el, hel⟩ : ∃ x, x = E.map encI := ⟨_, rfl⟩
 have lel : Λ el = t.nodes := by rw [Λo, hel, List.length_map]; omega
 rw [← hel] at hat hdist
 clear hel hsp hlen
 generalize gt E n = x at *
 generalize nl.map encI = nll at *
 generalize m.map encB = ml at *
 obtain ⟨nodes, ov, links⟩ := t
 simp only [topA, boolsD, linksD] at *
 generalize hol : ov.map encB = ol at *
 generalize hll : links.map encLk = ll at *
 have hlo : Λ ol = ov.length := by rw [Λo, ← hol]; simp
 have hls : Λ ll = links.length := by rw [Λo, ← hll]; simp
 conv => cbv
 repeat' first | (refine call_r hdist rfl rfl ?_; conv => cbv) | (intro (e : List D) he; cases Option.some.inj (he.symm.trans hat); (conv => cbv)) | (refine call_r htow rfl rfl ?_; conv => cbv) | exact gu | exact trivial | refine And.intro ?_ ?_ | (intro hc; exact absurd hc (by decide)) | (intro hc; exfalso; omega) | (intro hc; (first | rw [wrap_small (by omega) (by omega)] at hc | rw [nI_eq] at hc | skip); try (conv => cbv))
 ·exact k1 (by omega)
 ·have k2 := k2 (by omega)
  rename_i y
  rw [← hc] at k2
  exact k2
end Go.Ab

/-
  Areas: the reference's routes inside an area.
-/
namespace Go.Ab
open Go.Proofs
theorem sinc_len : ∀ (l : List Int) (lo hi : Int), l.Pairwise (· < ·) → (∀ x ∈ l, lo ≤ x ∧ x < hi) → (l.length : Int) ≤ max 0 (hi - lo)
 | [], _, _, _, _ => by simp; omega
 | x :: l, lo, hi, hp, h => by
  have h1 := List.pairwise_cons.1 hp
  have hx := h x (by simp)
  have := sinc_len l (x + 1) hi h1.2 fun y hy => ⟨by have := h1.1 y hy; omega, (h y (by simp [hy])).2⟩
  simp only [List.length_cons]
  omega
structure RtB (t : Top) (b : Int) (r : Rt) : Prop where
 d0 : 0 ≤ r.dist
 d1 : r.dist ≤ b
 c0 : 0 ≤ r.cls
 inc : r.arcs.Pairwise (· < ·)
 rg : ∀ a ∈ r.arcs, 0 ≤ a ∧ a < 2 * t.links.length
theorem RtB.len {t : Top} {b : Int} {r : Rt} (h : RtB t b r) (hl : (t.links.length : Int) ≤ 256) : r.arcs.length ≤ 512 := by
 have := sinc_len r.arcs 0 (2 * t.links.length) h.inc h.rg
 omega
theorem RtB.mono {t : Top} {b b' : Int} {r : Rt} (h : RtB t b r) (hb : b ≤ b') : RtB t b' r := ⟨h.d0, by have := h.d1; omega, h.c0, h.inc, h.rg⟩
theorem RtB.none {t : Top} {b : Int} (hb : 0 ≤ b) : RtB t b noRt := ⟨Int.le_refl _, hb, Int.le_refl _, .nil, fun a h => by cases h⟩
theorem RtB.better {t : Top} {b : Int} {r s : Rt} (h : RtB t b r) (h' : RtB t b s) : RtB t b (betterS r s) := by
 unfold betterS
 split
 ·exact h'
 ·split
  ·exact h
  ·exact ⟨h.d0, h.d1, h.c0, sinc_mergeR _ _ h.inc h'.inc, fun a ha => by
    rcases (mem_mergeR _ _ a).1 ha with e | e
    ·exact h.rg a e
    ·exact h'.rg a e⟩
theorem mem_nextL {t : Top} {down : List Bool} {E : List Int} {n d a : Int} : a ∈ nextL t down E n d ↔ (0 ≤ a ∧ a < 2 * t.links.length) ∧ tailT t a = n ∧ onB t down E a d = true := by
 simp only [nextL, List.mem_filter, mem_arcsTo, Bool.and_eq_true, decide_eq_true_eq]
 constructor
 ·rintro ⟨h1, h2⟩; exact ⟨by omega, h2⟩
 ·rintro ⟨h1, h2⟩; exact ⟨by omega, h2⟩
theorem RtB.leg {t : Top} {m : List Bool} {n d more cls : Int} (hv : validT t = true) (hn : 0 ≤ n ∧ n < t.nodes) (hd : 0 ≤ d ∧ d < t.nodes) (hm : 0 ≤ more) (hc : 0 ≤ cls) : RtB t (4194240 + more) (legS t m n d more cls) := by
 have hb := (distS_spec hv m false hd.1 hd.2).2 n hn.1 hn.2
 unfold legS
 split
 ·exact .none (by omega)
 ·exact ⟨by simp only; omega, by simp only; omega, hc, sinc_next .., fun a ha => (mem_nextL.1 ha).1⟩
theorem maskS_len (t : Top) (A : List Int) (down : List Bool) (k : Int) (ap : Bool) : (maskS t A down k ap).length = 2 * t.links.length := by
 simp [maskS, arcsTo]
theorem fits_mask {t : Top} {A : List Int} {down : List Bool} {k : Int} {ap : Bool} (hv : validT t = true) : fitsB t (maskS t A down k ap) = true := by
 simp [fitsB, hv, maskS_len]
noncomputable def insStep (t : Top) (A : List Int) (down : List Bool) (n d : Int) (r : Rt) (k : Int) : Rt := if isK t A n k = true ∧ isK t A d k = true then betterS r (legS t (maskS t A down k false) n d 0 1) else r
noncomputable def insideS (t : Top) (A : List Int) (down : List Bool) (n d : Int) : Rt := if n = d then ⟨0, 1, []⟩ else (arcsTo 65).foldl (insStep t A down n d) noRt
theorem insStep_b {t : Top} {A : List Int} {down : List Bool} {n d k : Int} {r : Rt} (hv : validT t = true) (hn : 0 ≤ n ∧ n < t.nodes) (hd : 0 ≤ d ∧ d < t.nodes) (h : RtB t 4194240 r) : RtB t 4194240 (insStep t A down n d r k) := by
 unfold insStep; split
 ·exact h.better ((RtB.leg hv hn hd (by omega) (by omega)).mono (by omega))
 ·exact h
theorem foldl_b {α : Type} {p : Rt → Prop} {f : Rt → α → Rt} (hf : ∀ r k, p r → p (f r k)) : ∀ (l : List α) (r : Rt), p r → p (l.foldl f r)
 | [], _, h => h
 | k :: l, r, h => foldl_b hf l (f r k) (hf r k h)
theorem insideS_b {t : Top} {A : List Int} {down : List Bool} {n d : Int} (hv : validT t = true) (hn : 0 ≤ n ∧ n < t.nodes) (hd : 0 ≤ d ∧ d < t.nodes) : RtB t 4194240 (insideS t A down n d) := by
 unfold insideS; split
 ·exact ⟨Int.le_refl _, by decide, by decide, .nil, fun a h => by cases h⟩
 ·exact foldl_b (fun r k h => insStep_b hv hn hd h) _ _ (.none (by omega))
structure AskK (t : Top) (A : List Int) (down : List Bool) (n d : Int) : Prop where
 hv : validK t A = true
 hf : fitsB t down = true
 hn : 0 ≤ n ∧ n < t.nodes
 hd : 0 ≤ d ∧ d < t.nodes
set_option maxHeartbeats 4000000 in
theorem rinside_ok (P : Program) (hP : P = Try.prog) (t : Top) (A : List Int) (down : List Bool) (n d : Int) (q : AskK t A down n d) : Ret P n_ref17_inside [topA t, intsA A, boolsA down, iA n, iA d] (rtA (insideS t A down n d)) := by
 refine ret_start (hP ▸ mixed) (hP ▸ fn_ref17_inside) (hP ▸ c_ref17_inside) (Nat.le_of_ble_eq_true rfl) fun Λ Λo K hK => ?_
 obtain ⟨hv, hf, hn, hd⟩ := q
 obtain ⟨v1, v2, v3⟩ := validK_spec.1 hv
 have hdn : down.length = 0 ∨ down.length = 2 * t.links.length := (show validT t = true ∧ _ by simpa [fitsB] using hf).2
 have hl256 := (validT_spec.1 v1).2.2.1
 have his := fun x k => is_ok P hP t A x k v2
 have hmk := fun k => mask_ok P hP t A down k false hv hdn
 have hleg := fun k => leg_ok P hP t (maskS t A down k false) n d 0 1 (fits_mask v1) hn hd (by omega)
 have hlb := fun k => (RtB.leg (m := maskS t A down k false) (more := 0) (cls := 1) v1 hn hd (by omega) (by omega)).len hl256
 have hbet := fun a b h1 h2 => better_ok P hP a b h1 h2
 clear hP
 rw [insideS] at hK
 by_cases hnd : n = d
 ·rw [if_pos hnd] at hK
  clear his hmk hleg hlb hbet v1 v2 v3 hn hd hf hv hl256 hdn
  simp only [rtA, intsA, intsD, boolsA, boolsD, List.map_nil] at *
  generalize A.map encI = al at *
  generalize down.map encB = dl at *
  obtain ⟨nodes, ov, links⟩ := t
  simp only [topA, boolsD, linksD] at *
  generalize hol : ov.map encB = ol at *
  generalize hll : links.map encLk = ll at *
  have hlo : Λ ol = ov.length := by rw [Λo, ← hol]; simp
  have hls : Λ ll = links.length := by rw [Λo, ← hll]; simp
  conv => cbv
  repeat' first | exact gu | exact trivial | refine And.intro ?_ ?_ | (intro hc; exact absurd hc (by decide)) | (intro hc; exfalso; omega) | (intro hc; (first | rw [wrap_small (by omega) (by omega)] at hc | rw [nI_eq] at hc | skip); try (conv => cbv))
  exact hK
 ·rw [if_neg hnd] at hK
  have hst : ∀ r k, RtB t 4194240 r → RtB t 4194240 (insStep t A down n d r k) := fun r k h => insStep_b v1 hn hd h
  have hs1 : ∀ r k, isK t A n k = true → isK t A d k = true → insStep t A down n d r k = betterS r (legS t (maskS t A down k false) n d 0 1) := fun r k h1 h2 => by rw [insStep, if_pos ⟨h1, h2⟩]
  have hs0 : ∀ r k, ¬ (isK t A n k = true ∧ isK t A d k = true) → insStep t A down n d r k = r := fun r k h => by rw [insStep, if_neg h]
  have hln := fun (r : Rt) (h : RtB t 4194240 r) => h.len hl256
  have hz : RtB t 4194240 noRt := .none (by omega)
  generalize insStep t A down n d = f at *
  generalize RtB t 4194240 = B at *
  obtain ⟨mf, hmf⟩ : ∃ f : Int → List Bool, ∀ k, maskS t A down k false = f k := ⟨_, fun _ => rfl⟩
  simp only [hmf] at hmk hleg hs1 hlb
  clear hmf
  obtain ⟨lf, hlf⟩ : ∃ f : Int → Rt, ∀ k, legS t (mf k) n d 0 1 = f k := ⟨_, fun _ => rfl⟩
  simp only [hlf] at hleg hs1 hlb
  clear hlf
  have hi1 := his n
  have hi2 := his d
  generalize isK t A n = g1 at *
  generalize isK t A d = g2 at *
  clear his
  obtain ⟨kb, hkb⟩ : ∃ kb : Nat, kb = 65 := ⟨_, rfl⟩
  rw [← hkb] at hK
  simp only [rtA, intsA, intsD, boolsA, boolsD] at *
  generalize A.map encI = al at *
  generalize down.map encB = dl at *
  clear hdn hf
  obtain ⟨nodes, ov, links⟩ := t
  simp only [topA, boolsD, linksD] at *
  generalize hol : ov.map encB = ol at *
  generalize hll : links.map encLk = ll at *
  have hlo : Λ ol = ov.length := by rw [Λo, ← hol]; simp
  have hls : Λ ll = links.length := by rw [Λo, ← hll]; simp
  conv => cbv
  repeat' first | exact gu | exact trivial | refine And.intro ?_ ?_ | (intro hc; exact absurd hc (by decide)) | (intro hc; exfalso; omega) | (intro hc; (first | rw [wrap_small (by omega) (by omega)] at hc | rw [nI_eq] at hc | skip); try (conv => cbv))
  refine loop_up kb (fun (s : Int × Bool × Rt) => [(1, .c (.d (.list false 1 al))), (2, .c (.d (.list false 1 dl))), (3, iA n), (4, iA d), (5, .c (.ptr 0 0 0 0)), (10, .c (.ptr 1 0 0 0)), (11, .c (.ptr 2 0 0 0)), (12, iA s.1)]) (fun s => [.bx [.d (.int .i64 nodes), .d (.list false 1 ol), .d (.list false 7 ll)], .bx [.d (iD 0), .d (iD 0), .d (.list true 1 [])], .bx [.d (iD s.2.2.dist), .d (iD s.2.2.cls), .d (.list s.2.1 1 (s.2.2.arcs.map encI))]])
   (fun k s => s.1 = k ∧ k ≤ kb ∧ B s.2.2 ∧ s.2.2 = (arcsTo k).foldl f noRt) (0, true, noRt) (Wk.cw) ⟨rfl, by omega, hz, rfl⟩ (fun k s h => h.2.1) ?_
  rintro k ⟨i, fl, r⟩ Q' ⟨hi, hk, hB, hr⟩ norm ex rt
  simp only at hi hB hr
  have hi1 := hi1 i
  have hi2 := hi2 i
  have hmk := hmk i
  have hleg := hleg i
  have hbet := hbet r (lf i) (by have := hln r hB; omega) (by have := hlb i; omega)
  have hs1 := hs1 r i
  have hs0 := hs0 r i
  have hBn := hst r i hB
  have hfo : (arcsTo (k + 1)).foldl f noRt = f r i := by rw [arcsTo_succ, List.foldl_append, ← hr, ← hi]; rfl
  generalize f r i = r2 at *
  generalize mf i = mi at *
  generalize lf i = li at *
  clear hln hlb hst
  generalize g1 i = b1 at *
  generalize g2 i = b2 at *
  have key : b1 = true ∧ b2 = true ∧ r2 = betterS r li ∨ ¬ (b1 = true ∧ b2 = true) ∧ r2 = r := by
   by_cases hb : b1 = true ∧ b2 = true
   ·exact .inl ⟨hb.1, hb.2, hs1 hb.1 hb.2⟩
   ·exact .inr ⟨hb, hs0 hb⟩
  clear hs1 hs0
  obtain ⟨da, ca, aa⟩ := r
  obtain ⟨dl2, cl2, al2⟩ := li
  simp only at hbet hleg
  have kx : k = kb → K (.agg [.d (iD da), .d (iD ca), .d (.list false 1 (aa.map encI))]) := fun e => by rw [← e, ← hr] at hK; exact hK
  clear hK
  rcases key with ⟨rfl, rfl, key⟩ | ⟨hb, key⟩
  ·rw [← key] at hbet
   clear key
   obtain ⟨d2, c2, a2⟩ := r2
   have nx : ∀ (L : Lv) (h : Hp) (i' : Int), i' = i + 1 → k < kb → Wk 0 L h [(1, .c (.d (.list false 1 al))), (2, .c (.d (.list false 1 dl))), (3, iA n), (4, iA d), (5, .c (.ptr 0 0 0 0)), (10, .c (.ptr 1 0 0 0)), (11, .c (.ptr 2 0 0 0)), (12, iA i')] [.bx [.d (.int .i64 nodes), .d (.list false 1 ol), .d (.list false 7 ll)], .bx [.d (iD 0), .d (iD 0), .d (.list true 1 [])], .bx [.d (iD d2), .d (iD c2), .d (.list false 1 (a2.map encI))]] → Q' .normal L h := fun L h i' h1 h2 hw =>
    norm _ _ (i', false, ⟨d2, c2, a2⟩) ⟨by simp only; omega, by omega, hBn, hfo.symm⟩ hw
   clear norm hfo hBn
   simp only at hbet
   generalize a2.map encI = zl2 at *
   generalize al2.map encI = zl1 at *
   generalize aa.map encI = zl0 at *
   generalize mi.map encB = ml at *
   conv => cbv
   repeat' first | (refine ex _ _ _ ?_; (conv => cbv)) | (refine rt _ _ ?_; (conv => cbv)) | refine call_b hi1 rfl rfl ?_ ?_ | refine call_b hi2 rfl rfl ?_ ?_ | (refine call_r hmk rfl rfl ?_; conv => cbv) | (refine call_r hleg rfl rfl ?_; conv => cbv) | (refine call_r hbet rfl rfl ?_; conv => cbv) | (intro hc; cases hc; done) | exact gu | exact trivial | refine And.intro ?_ ?_ | (intro hc; exact absurd hc (by decide)) | (intro hc; exfalso; omega) | (intro hc; (first | rw [wrap_small (by omega) (by omega)] at hc | rw [nI_eq] at hc | skip); try (conv => cbv))
   ·rename_i i'
    exact nx _ _ i' hc (by omega) (Wk.cw)
   ·exact kx (by omega)
  ·subst key
   have nx : ∀ (L : Lv) (h : Hp) (i' : Int), i' = i + 1 → k < kb → Wk 0 L h [(1, .c (.d (.list false 1 al))), (2, .c (.d (.list false 1 dl))), (3, iA n), (4, iA d), (5, .c (.ptr 0 0 0 0)), (10, .c (.ptr 1 0 0 0)), (11, .c (.ptr 2 0 0 0)), (12, iA i')] [.bx [.d (.int .i64 nodes), .d (.list false 1 ol), .d (.list false 7 ll)], .bx [.d (iD 0), .d (iD 0), .d (.list true 1 [])], .bx [.d (iD da), .d (iD ca), .d (.list fl 1 (aa.map encI))]] → Q' .normal L h := fun L h i' h1 h2 hw =>
    norm _ _ (i', fl, ⟨da, ca, aa⟩) ⟨by simp only; omega, by omega, hBn, hfo.symm⟩ hw
   clear norm hfo hBn hbet hleg hmk
   generalize aa.map encI = zl0 at *
   cases b1
   ·conv => cbv
    repeat' first | (refine ex _ _ _ ?_; (conv => cbv)) | (refine rt _ _ ?_; (conv => cbv)) | refine call_b hi1 rfl rfl ?_ ?_ | (intro hc; cases hc; done) | exact gu | exact trivial | refine And.intro ?_ ?_ | (intro hc; exact absurd hc (by decide)) | (intro hc; exfalso; omega) | (intro hc; (first | rw [wrap_small (by omega) (by omega)] at hc | rw [nI_eq] at hc | skip); try (conv => cbv))
    ·rename_i i'
     exact nx _ _ i' hc (by omega) (Wk.cw)
    ·exact kx (by omega)
   ·cases b2
    ·conv => cbv
     repeat' first | (refine ex _ _ _ ?_; (conv => cbv)) | (refine rt _ _ ?_; (conv => cbv)) | refine call_b hi1 rfl rfl ?_ ?_ | refine call_b hi2 rfl rfl ?_ ?_ | (intro hc; cases hc; done) | exact gu | exact trivial | refine And.intro ?_ ?_ | (intro hc; exact absurd hc (by decide)) | (intro hc; exfalso; omega) | (intro hc; (first | rw [wrap_small (by omega) (by omega)] at hc | rw [nI_eq] at hc | skip); try (conv => cbv))
     ·rename_i i'
      exact nx _ _ i' hc (by omega) (Wk.cw)
     ·exact kx (by omega)
    ·exact absurd ⟨rfl, rfl⟩ hb
end Go.Ab

/-
  Areas: the reference's routes across the backbone.
-/
namespace Go.Ab
open Go.Proofs
noncomputable def acrStep (t : Top) (A : List Int) (down : List Bool) (n d : Int) (r : Rt) (b : Int) : Rt :=
 if borderK t A b = true ∧ ovT t b = false ∧ 0 < (insideS t A down b d).cls then betterS r (legS t (maskS t A down 0 false) n b (insideS t A down b d).dist 2) else r
noncomputable def acrossS (t : Top) (A : List Int) (down : List Bool) (n d : Int) : Rt :=
 if 0 < (insideS t A down n d).cls ∨ isK t A n 0 = false then insideS t A down n d else (arcsTo t.nodes.toNat).foldl (acrStep t A down n d) (insideS t A down n d)
theorem acrStep_b {t : Top} {A : List Int} {down : List Bool} {n d b : Int} {r : Rt} (hv : validT t = true) (hn : 0 ≤ n ∧ n < t.nodes) (hd : 0 ≤ d ∧ d < t.nodes) (hb : 0 ≤ b ∧ b < t.nodes) (h : RtB t 8388480 r) : RtB t 8388480 (acrStep t A down n d r b) := by
 unfold acrStep; split
 ·have hi := insideS_b (A := A) (down := down) hv hb hd
  have h1 := hi.d0
  have h2 := hi.d1
  exact h.better ((RtB.leg hv hn hb (by omega) (by omega)).mono (by omega))
 ·exact h
theorem foldl_bm {α : Type} {p : Rt → Prop} {q : α → Prop} {f : Rt → α → Rt} (hf : ∀ r k, q k → p r → p (f r k)) : ∀ (l : List α) (r : Rt), (∀ k ∈ l, q k) → p r → p (l.foldl f r)
 | [], _, _, h => h
 | k :: l, r, hq, h => foldl_bm hf l (f r k) (fun x hx => hq x (by simp [hx])) (hf r k (hq k (by simp)) h)
theorem acrossS_b {t : Top} {A : List Int} {down : List Bool} {n d : Int} (hv : validT t = true) (hn : 0 ≤ n ∧ n < t.nodes) (hd : 0 ≤ d ∧ d < t.nodes) : RtB t 8388480 (acrossS t A down n d) := by
 have h0 := (insideS_b (A := A) (down := down) hv hn hd).mono (b' := 8388480) (by omega)
 unfold acrossS; split
 ·exact h0
 ·exact foldl_bm (q := fun b : Int => 0 ≤ b ∧ b < t.nodes) (fun r k hk h => acrStep_b hv hn hd hk h) _ _ (fun k hk => by have := mem_arcsTo.1 hk; omega) h0
set_option maxHeartbeats 4000000 in
theorem racross_ok (P : Program) (hP : P = Try.prog) (t : Top) (A : List Int) (down : List Bool) (n d : Int) (q : AskK t A down n d) : Ret P n_ref17_across [topA t, intsA A, boolsA down, iA n, iA d] (rtA (acrossS t A down n d)) := by
 refine ret_start (hP ▸ mixed) (hP ▸ fn_ref17_across) (hP ▸ c_ref17_across) (Nat.le_of_ble_eq_true rfl) fun Λ Λo K hK => ?_
 have hins0 := rinside_ok P hP t A down n d q
 have hins := fun b (hb : 0 ≤ b ∧ b < t.nodes) => rinside_ok P hP t A down b d ⟨q.hv, q.hf, hb, q.hd⟩
 obtain ⟨hv, hf, hn, hd⟩ := q
 obtain ⟨v1, v2, v3⟩ := validK_spec.1 hv
 have hdn : down.length = 0 ∨ down.length = 2 * t.links.length := (show validT t = true ∧ _ by simpa [fitsB] using hf).2
 have hl256 := (validT_spec.1 v1).2.2.1
 have hn64 := (validT_spec.1 v1).1
 have his := is_ok P hP t A n 0 v2
 have hmk := mask_ok P hP t A down 0 false hv hdn
 have hib := fun b (hb : 0 ≤ b ∧ b < t.nodes) => insideS_b (A := A) (down := down) v1 hb hd
 have hleg := fun b (hb : 0 ≤ b ∧ b < t.nodes) => leg_ok P hP t (maskS t A down 0 false) n b (insideS t A down b d).dist 2 (fits_mask v1) hn hb ⟨(hib b hb).d0, by have := (hib b hb).d1; omega⟩
 have hlb := fun b (hb : 0 ≤ b ∧ b < t.nodes) => (RtB.leg (m := maskS t A down 0 false) (more := (insideS t A down b d).dist) (cls := 2) v1 hn hb (hib b hb).d0 (by omega)).len hl256
 have hbet := fun a b h1 h2 => better_ok P hP a b h1 h2
 have hbor := fun b => rborder_ok P hP t A b
 have hov := fun b => overloaded_ok P hP t b
 have hst : ∀ r k, 0 ≤ k ∧ k < t.nodes → RtB t 8388480 r → RtB t 8388480 (acrStep t A down n d r k) := fun r k hk h => acrStep_b v1 hn hd hk h
 have hs1 : ∀ r k, borderK t A k = true → ovT t k = false → 0 < (insideS t A down k d).cls → acrStep t A down n d r k = betterS r (legS t (maskS t A down 0 false) n k (insideS t A down k d).dist 2) := fun r k h1 h2 h3 => by rw [acrStep, if_pos ⟨h1, h2, h3⟩]
 have hs0 : ∀ r k, ¬ (borderK t A k = true ∧ ovT t k = false ∧ 0 < (insideS t A down k d).cls) → acrStep t A down n d r k = r := fun r k h => by rw [acrStep, if_neg h]
 have hln := fun (r : Rt) (h : RtB t 8388480 r) => h.len hl256
 have hz : RtB t 8388480 (insideS t A down n d) := (insideS_b (A := A) (down := down) v1 hn hd).mono (by omega)
 clear hP hib
 have k1 : (0 < (insideS t A down n d).cls ∨ isK t A n 0 = false) → K (rtA (insideS t A down n d)) := fun h => by rw [acrossS, if_pos h] at hK; exact hK
 have k2 : ¬ (0 < (insideS t A down n d).cls ∨ isK t A n 0 = false) → K (rtA ((arcsTo t.nodes.toNat).foldl (acrStep t A down n d) (insideS t A down n d))) := fun h => by rw [acrossS, if_neg h] at hK; exact hK
 clear hK
 generalize acrStep t A down n d = f at *
 generalize RtB t 8388480 = B at *
 generalize insideS t A down n d = r0 at *
 generalize maskS t A down 0 false = mk at *
 obtain ⟨inf, hinf⟩ : ∃ f : Int → Rt, ∀ k, insideS t A down k d = f k := ⟨_, fun _ => rfl⟩
 simp only [hinf] at hins hleg hlb hs1 hs0
 clear hinf
 obtain ⟨lf, hlf⟩ : ∃ f : Int → Rt, ∀ k, legS t mk n k (inf k).dist 2 = f k := ⟨_, fun _ => rfl⟩
 simp only [hlf] at hleg hs1 hlb
 clear hlf
 generalize isK t A n 0 = g0 at *
 generalize borderK t A = g1 at *
 generalize ovT t = g2 at *
 obtain ⟨d0, c0, a0⟩ := r0
 simp only [rtA, intsA, intsD, boolsA, boolsD] at *
 generalize mk.map encB = ml at *
 generalize A.map encI = al at *
 generalize down.map encB = dl at *
 clear hdn hf
 obtain ⟨nodes, ov, links⟩ := t
 simp only [topA, boolsD, linksD] at *
 generalize hol : ov.map encB = ol at *
 generalize hll : links.map encLk = ll at *
 have hlo : Λ ol = ov.length := by rw [Λo, ← hol]; simp
 have hls : Λ ll = links.length := by rw [Λo, ← hll]; simp
 by_cases hgo : 0 < c0 ∨ g0 = false
 ·have kx := k1 hgo
  clear k1 k2 hbor hov hleg hbet hmk hins hs1 hs0 hst hln hz hlb
  generalize a0.map encI = zl at *
  cases g0
  all_goals
   conv => cbv
   repeat' first | (refine call_r hins0 rfl rfl ?_; conv => cbv) | refine call_b his rfl rfl ?_ ?_ | (intro hc; cases hc; done) | exact gu | exact trivial | refine And.intro ?_ ?_ | (intro hc; exact absurd hc (by decide)) | (intro hc; exfalso; omega) | (intro hc; (first | rw [wrap_small (by omega) (by omega)] at hc | rw [nI_eq] at hc | skip); try (conv => cbv))
   all_goals first | exact kx | (exfalso; rcases hgo with h | h; omega; cases h; done)
 ·have kx := k2 hgo
  clear k1 k2
  have hc0 : ¬ 0 < c0 := fun h => hgo (.inl h)
  have hg0 : g0 = true := by
   cases g0
   ·exact absurd (.inr rfl) hgo
   ·rfl
  subst hg0
  clear hgo
  obtain ⟨kb, hkb⟩ : ∃ kb : Nat, kb = nodes.toNat := ⟨_, rfl⟩
  rw [← hkb] at kx
  obtain ⟨z0, hz0⟩ : ∃ z, z = a0.map encI := ⟨_, rfl⟩
  rw [← hz0] at hins0
  conv => cbv
  repeat' first | (refine call_r hins0 rfl rfl ?_; conv => cbv) | refine call_b his rfl rfl ?_ ?_ | (intro hc; cases hc; done) | (refine call_r hmk rfl rfl ?_; conv => cbv) | exact gu | exact trivial | refine And.intro ?_ ?_ | (intro hc; exact absurd hc (by decide)) | (intro hc; exfalso; omega) | (intro hc; (first | rw [wrap_small (by omega) (by omega)] at hc | rw [nI_eq] at hc | skip); try (conv => cbv))
  refine loop_up kb (fun (s : Int × Bool × Rt) => [(1, .c (.d (.list false 1 al))), (2, .c (.d (.list false 1 dl))), (3, iA n), (4, iA d), (5, .c (.ptr 0 0 0 0)), (10, .c (.ptr 1 0 0 0)), (11, .c (.ptr 2 0 0 0)), (12, .c (.d (.list false 1 ml))), (13, iA s.1)]) (fun s => [.bx [.d (.int .i64 nodes), .d (.list false 1 ol), .d (.list false 7 ll)], .bx [.d (iD 0), .d (iD 0), .d (.list true 1 [])], .bx [.d (iD s.2.2.dist), .d (iD s.2.2.cls), .d (.list s.2.1 1 (s.2.2.arcs.map encI))]])
   (fun k s => s.1 = k ∧ k ≤ kb ∧ B s.2.2 ∧ s.2.2 = (arcsTo k).foldl f ⟨d0, c0, a0⟩) (0, false, ⟨d0, c0, a0⟩) (by rw [hz0]; exact Wk.cw) ⟨rfl, by omega, hz, rfl⟩ (fun k s h => h.2.1) ?_
  rintro k ⟨i, fl, r⟩ Q' ⟨hi, hk, hB, hr⟩ norm ex rt
  simp only at hi hB hr
  have hbor := hbor i
  have hov := hov i
  have kx2 : k = kb → K (.agg [.d (iD r.dist), .d (iD r.cls), .d (.list false 1 (r.arcs.map encI))]) := fun e => by rw [← e, ← hr] at kx; exact kx
  by_cases hlt : k < kb
  ·have hbi : 0 ≤ i ∧ i < nodes := by omega
   have hins := hins i hbi
   have hleg := hleg i hbi
   have hbet := hbet r (lf i) (by have := hln r hB; omega) (by have := hlb i hbi; omega)
   have hs1 := hs1 r i
   have hs0 := hs0 r i
   have hBn := hst r i hbi hB
   have hfo : (arcsTo (k + 1)).foldl f ⟨d0, c0, a0⟩ = f r i := by rw [arcsTo_succ, List.foldl_append, ← hr, ← hi]; rfl
   generalize f r i = r2 at *
   generalize lf i = li at *
   clear hln hlb hst kx kx2 hins0 hz hr hB
   generalize g1 i = b1 at *
   generalize g2 i = b2 at *
   generalize inf i = ri at *
   have key : b1 = true ∧ b2 = false ∧ 0 < ri.cls ∧ r2 = betterS r li ∨ ¬ (b1 = true ∧ b2 = false ∧ 0 < ri.cls) ∧ r2 = r := by
    by_cases hb : b1 = true ∧ b2 = false ∧ 0 < ri.cls
    ·exact .inl ⟨hb.1, hb.2.1, hb.2.2, hs1 hb.1 hb.2.1 hb.2.2⟩
    ·exact .inr ⟨hb, hs0 hb⟩
   clear hs1 hs0
   obtain ⟨da, ca, aa⟩ := r
   obtain ⟨dl2, cl2, al2⟩ := li
   obtain ⟨dr, cr, ar⟩ := ri
   simp only at hbet hleg hins key
   have nx : ∀ (L : Lv) (h : Hp) (i' : Int) (fl' : Bool) (d2 c2 : Int) (a2 : List Int), i' = i + 1 → r2 = ⟨d2, c2, a2⟩ → Wk 0 L h [(1, .c (.d (.list false 1 al))), (2, .c (.d (.list false 1 dl))), (3, iA n), (4, iA d), (5, .c (.ptr 0 0 0 0)), (10, .c (.ptr 1 0 0 0)), (11, .c (.ptr 2 0 0 0)), (12, .c (.d (.list false 1 ml))), (13, iA i')] [.bx [.d (.int .i64 nodes), .d (.list false 1 ol), .d (.list false 7 ll)], .bx [.d (iD 0), .d (iD 0), .d (.list true 1 [])], .bx [.d (iD d2), .d (iD c2), .d (.list fl' 1 (a2.map encI))]] → Q' .normal L h := fun L h i' fl' d2 c2 a2 h1 h2 hw =>
    norm _ _ (i', fl', ⟨d2, c2, a2⟩) ⟨by simp only; omega, by omega, by rw [← h2]; exact hBn, by rw [← h2]; exact hfo.symm⟩ hw
   clear norm hfo hBn
   rcases key with ⟨rfl, rfl, hcr, key⟩ | ⟨hb, key⟩
   ·rw [← key] at hbet
    clear key
    obtain ⟨d2, c2, a2⟩ := r2
    have nx := fun L h i' h1 => nx L h i' false d2 c2 a2 h1 rfl
    simp only at hbet
    generalize a2.map encI = zl2 at *
    generalize al2.map encI = zl1 at *
    generalize aa.map encI = zl0 at *
    generalize ar.map encI = zlr at *
    conv => cbv
    repeat' first | (refine ex _ _ _ ?_; (conv => cbv)) | (refine rt _ _ ?_; (conv => cbv)) | refine call_b hbor rfl rfl ?_ ?_ | refine call_b hov rfl rfl ?_ ?_ | (refine call_r hins rfl rfl ?_; conv => cbv) | (refine call_r hleg rfl rfl ?_; conv => cbv) | (refine call_r hbet rfl rfl ?_; conv => cbv) | (intro hc; cases hc; done) | exact gu | exact trivial | refine And.intro ?_ ?_ | (intro hc; exact absurd hc (by decide)) | (intro hc; exfalso; omega) | (intro hc; (first | rw [wrap_small (by omega) (by omega)] at hc | rw [nI_eq] at hc | skip); try (conv => cbv))
    rename_i i'
    exact nx _ _ i' hc (Wk.cw)
   ·have nx := fun L h i' h1 => nx L h i' fl da ca aa h1 key
    clear hbet hleg
    generalize aa.map encI = zl0 at *
    generalize ar.map encI = zlr at *
    have hb2 : b1 = false ∨ (b1 = true ∧ b2 = true) ∨ (b1 = true ∧ b2 = false ∧ ¬ 0 < cr) := by
     cases b1
     ·exact .inl rfl
     ·cases b2
      ·exact .inr (.inr ⟨rfl, rfl, fun h => hb ⟨rfl, rfl, h⟩⟩)
      ·exact .inr (.inl ⟨rfl, rfl⟩)
    clear hb key
    rcases hb2 with rfl | ⟨rfl, rfl⟩ | ⟨rfl, rfl, hcr⟩
    all_goals
     conv => cbv
     repeat' first | (refine ex _ _ _ ?_; (conv => cbv)) | (refine rt _ _ ?_; (conv => cbv)) | refine call_b hbor rfl rfl ?_ ?_ | refine call_b hov rfl rfl ?_ ?_ | (refine call_r hins rfl rfl ?_; conv => cbv) | (intro hc; cases hc; done) | exact gu | exact trivial | refine And.intro ?_ ?_ | (intro hc; exact absurd hc (by decide)) | (intro hc; exfalso; omega) | (intro hc; (first | rw [wrap_small (by omega) (by omega)] at hc | rw [nI_eq] at hc | skip); try (conv => cbv))
     all_goals first | (rename_i i'; exact nx _ _ i' hc (Wk.cw)) | (exfalso; omega)
  ·have kx := kx2 (by omega)
   clear kx2 hbor hov hins hleg hbet hs1 hs0 hst hln hlb hr
   obtain ⟨da, ca, aa⟩ := r
   simp only at kx
   generalize aa.map encI = zl0 at *
   conv => cbv
   repeat' first | (refine ex _ _ _ ?_; (conv => cbv)) | (refine rt _ _ ?_; (conv => cbv)) | exact gu | exact trivial | refine And.intro ?_ ?_ | (intro hc; exact absurd hc (by decide)) | (intro hc; exfalso; omega) | (intro hc; (first | rw [wrap_small (by omega) (by omega)] at hc | rw [nI_eq] at hc | skip); try (conv => cbv))
   exact kx
end Go.Ab

/-
  Areas: the reference's routes.
-/
namespace Go.Ab
open Go.Proofs
noncomputable def farStep (t : Top) (A : List Int) (down : List Bool) (n b more : Int) (r : Rt) (k : Int) : Rt :=
 if isK t A n k = true ∧ isK t A b k = true then betterS r (legS t (maskS t A down k true) n b more 3) else r
def ks (j : Nat) : List Int := (arcsTo j).map (· + 1)
noncomputable def ofStep (t : Top) (A : List Int) (down : List Bool) (n d : Int) (r : Rt) (b : Int) : Rt :=
 if borderK t A b = true ∧ ovT t b = false ∧ 0 < (acrossS t A down b d).cls then (ks 64).foldl (farStep t A down n b (acrossS t A down b d).dist) r else r
noncomputable def ofS (t : Top) (A : List Int) (down : List Bool) (n d : Int) : Rt :=
 if 0 < (acrossS t A down n d).cls ∨ isK t A n 0 = true then acrossS t A down n d else (arcsTo t.nodes.toNat).foldl (ofStep t A down n d) (acrossS t A down n d)
theorem farStep_b {t : Top} {A : List Int} {down : List Bool} {n b more k : Int} {r : Rt} (hv : validT t = true) (hn : 0 ≤ n ∧ n < t.nodes) (hb : 0 ≤ b ∧ b < t.nodes) (hm : 0 ≤ more ∧ more ≤ 8388480) (h : RtB t 12582720 r) : RtB t 12582720 (farStep t A down n b more r k) := by
 unfold farStep; split
 ·exact h.better ((RtB.leg hv hn hb hm.1 (by omega)).mono (by omega))
 ·exact h
theorem ofStep_b {t : Top} {A : List Int} {down : List Bool} {n d b : Int} {r : Rt} (hv : validT t = true) (hn : 0 ≤ n ∧ n < t.nodes) (hd : 0 ≤ d ∧ d < t.nodes) (hb : 0 ≤ b ∧ b < t.nodes) (h : RtB t 12582720 r) : RtB t 12582720 (ofStep t A down n d r b) := by
 unfold ofStep; split
 ·have hi := acrossS_b (A := A) (down := down) hv hb hd
  exact foldl_b (fun r k h => farStep_b hv hn hb ⟨hi.d0, hi.d1⟩ h) _ _ h
 ·exact h
theorem ofS_b {t : Top} {A : List Int} {down : List Bool} {n d : Int} (hv : validT t = true) (hn : 0 ≤ n ∧ n < t.nodes) (hd : 0 ≤ d ∧ d < t.nodes) : RtB t 12582720 (ofS t A down n d) := by
 have h0 := (acrossS_b (A := A) (down := down) hv hn hd).mono (b' := 12582720) (by omega)
 unfold ofS; split
 ·exact h0
 ·exact foldl_bm (q := fun b : Int => 0 ≤ b ∧ b < t.nodes) (fun r k hk h => ofStep_b hv hn hd hk h) _ _ (fun k hk => by have := mem_arcsTo.1 hk; omega) h0
theorem ks_succ (j : Nat) : ks (j + 1) = ks j ++ [(j : Int) + 1] := by
 rw [ks, arcsTo_succ, List.map_append]; rfl
set_option maxHeartbeats 8000000 in
theorem rof_ok (P : Program) (hP : P = Try.prog) (t : Top) (A : List Int) (down : List Bool) (n d : Int) (q : AskK t A down n d) : Ret P n_ref17_Of [topA t, intsA A, boolsA down, iA n, iA d] (rtA (ofS t A down n d)) := by
 refine ret_start (hP ▸ mixed) (hP ▸ fn_ref17_Of) (hP ▸ c_ref17_Of) (Nat.le_of_ble_eq_true rfl) fun Λ Λo K hK => ?_
 have hins0 := racross_ok P hP t A down n d q
 have hins := fun b (hb : 0 ≤ b ∧ b < t.nodes) => racross_ok P hP t A down b d ⟨q.hv, q.hf, hb, q.hd⟩
 obtain ⟨hv, hf, hn, hd⟩ := q
 obtain ⟨v1, v2, v3⟩ := validK_spec.1 hv
 have hdn : down.length = 0 ∨ down.length = 2 * t.links.length := (show validT t = true ∧ _ by simpa [fitsB] using hf).2
 have hl256 := (validT_spec.1 v1).2.2.1
 have hn64 := (validT_spec.1 v1).1
 have his0 := is_ok P hP t A n 0 v2
 have his := fun x k => is_ok P hP t A x k v2
 have hmk := fun k => mask_ok P hP t A down k true hv hdn
 have hib := fun b (hb : 0 ≤ b ∧ b < t.nodes) => acrossS_b (A := A) (down := down) v1 hb hd
 have hleg := fun b (hb : 0 ≤ b ∧ b < t.nodes) k => leg_ok P hP t (maskS t A down k true) n b (acrossS t A down b d).dist 3 (fits_mask v1) hn hb ⟨(hib b hb).d0, by have := (hib b hb).d1; omega⟩
 have hlb := fun b (hb : 0 ≤ b ∧ b < t.nodes) k => (RtB.leg (m := maskS t A down k true) (more := (acrossS t A down b d).dist) (cls := 3) v1 hn hb (hib b hb).d0 (by omega)).len hl256
 have hbet := fun a b h1 h2 => better_ok P hP a b h1 h2
 have hbor := fun b => rborder_ok P hP t A b
 have hov := fun b => overloaded_ok P hP t b
 have hst : ∀ r b k, 0 ≤ b ∧ b < t.nodes → RtB t 12582720 r → RtB t 12582720 (farStep t A down n b (acrossS t A down b d).dist r k) := fun r b k hk h => farStep_b v1 hn hk ⟨(hib b hk).d0, (hib b hk).d1⟩ h
 have hs1 : ∀ r b k, isK t A n k = true → isK t A b k = true → farStep t A down n b (acrossS t A down b d).dist r k = betterS r (legS t (maskS t A down k true) n b (acrossS t A down b d).dist 3) := fun r b k h1 h2 => by rw [farStep, if_pos ⟨h1, h2⟩]
 have hs0 : ∀ r b k, ¬ (isK t A n k = true ∧ isK t A b k = true) → farStep t A down n b (acrossS t A down b d).dist r k = r := fun r b k h => by rw [farStep, if_neg h]
 have ho1 : ∀ r b, borderK t A b = true → ovT t b = false → 0 < (acrossS t A down b d).cls → ofStep t A down n d r b = (ks 64).foldl (farStep t A down n b (acrossS t A down b d).dist) r := fun r b h1 h2 h3 => by rw [ofStep, if_pos ⟨h1, h2, h3⟩]
 have ho0 : ∀ r b, ¬ (borderK t A b = true ∧ ovT t b = false ∧ 0 < (acrossS t A down b d).cls) → ofStep t A down n d r b = r := fun r b h => by rw [ofStep, if_neg h]
 have hln := fun (r : Rt) (h : RtB t 12582720 r) => h.len hl256
 have hz : RtB t 12582720 (acrossS t A down n d) := (acrossS_b (A := A) (down := down) v1 hn hd).mono (by omega)
 have hbo : ∀ r b, 0 ≤ b ∧ b < t.nodes → RtB t 12582720 r → RtB t 12582720 (ofStep t A down n d r b) := fun r k hk h => ofStep_b v1 hn hd hk h
 clear hP hib
 have k1 : (0 < (acrossS t A down n d).cls ∨ isK t A n 0 = true) → K (rtA (acrossS t A down n d)) := fun h => by rw [ofS, if_pos h] at hK; exact hK
 have k2 : ¬ (0 < (acrossS t A down n d).cls ∨ isK t A n 0 = true) → K (rtA ((arcsTo t.nodes.toNat).foldl (ofStep t A down n d) (acrossS t A down n d))) := fun h => by rw [ofS, if_neg h] at hK; exact hK
 clear hK
 generalize ofStep t A down n d = fo at *
 generalize RtB t 12582720 = B at *
 generalize acrossS t A down n d = r0 at *
 obtain ⟨mf, hmf⟩ : ∃ f : Int → List Bool, ∀ k, maskS t A down k true = f k := ⟨_, fun _ => rfl⟩
 simp only [hmf] at hmk hleg hs1 hlb
 clear hmf
 obtain ⟨inf, hinf⟩ : ∃ f : Int → Rt, ∀ k, acrossS t A down k d = f k := ⟨_, fun _ => rfl⟩
 simp only [hinf] at hins hleg hlb hs1 hs0 hst ho1 ho0
 clear hinf
 obtain ⟨lf, hlf⟩ : ∃ f : Int → Int → Rt, ∀ b k, legS t (mf k) n b (inf b).dist 3 = f b k := ⟨_, fun _ _ => rfl⟩
 simp only [hlf] at hleg hs1 hlb
 clear hlf
 obtain ⟨ff, hff⟩ : ∃ f : Int → Rt → Int → Rt, ∀ b, farStep t A down n b (inf b).dist = f b := ⟨_, fun _ => rfl⟩
 simp only [hff] at hst hs1 hs0 ho1
 clear hff
 have hisn := his n
 generalize isK t A n 0 = g0 at *
 generalize isK t A = gg at *
 generalize borderK t A = g1 at *
 generalize ovT t = g2 at *
 obtain ⟨d0, c0, a0⟩ := r0
 simp only [rtA, intsA, intsD, boolsA, boolsD] at *
 generalize A.map encI = al at *
 generalize down.map encB = dl at *
 clear hdn hf
 obtain ⟨nodes, ov, links⟩ := t
 simp only [topA, boolsD, linksD] at *
 generalize hol : ov.map encB = ol at *
 generalize hll : links.map encLk = ll at *
 have hlo : Λ ol = ov.length := by rw [Λo, ← hol]; simp
 have hls : Λ ll = links.length := by rw [Λo, ← hll]; simp
 by_cases hgo : 0 < c0 ∨ g0 = true
 ·have kx := k1 hgo
  clear k1 k2 hbor hov hleg hbet hmk hins hs1 hs0 hst hln hz hlb ho1 ho0 hbo his hisn
  generalize a0.map encI = zl at *
  cases g0
  all_goals
   conv => cbv
   repeat' first | (refine call_r hins0 rfl rfl ?_; conv => cbv) | refine call_b his0 rfl rfl ?_ ?_ | (intro hc; cases hc; done) | exact gu | exact trivial | refine And.intro ?_ ?_ | (intro hc; exact absurd hc (by decide)) | (intro hc; exfalso; omega) | (intro hc; (first | rw [wrap_small (by omega) (by omega)] at hc | rw [nI_eq] at hc | skip); try (conv => cbv))
   all_goals first | exact kx | (exfalso; rcases hgo with h | h; omega; cases h; done)
 ·have kx := k2 hgo
  clear k1 k2
  have hc0 : ¬ 0 < c0 := fun h => hgo (.inl h)
  have hg0 : g0 = false := by
   cases g0
   ·rfl
   ·exact absurd (.inr rfl) hgo
  subst hg0
  clear hgo
  obtain ⟨kb, hkb⟩ : ∃ kb : Nat, kb = nodes.toNat := ⟨_, rfl⟩
  rw [← hkb] at kx
  obtain ⟨kc, hkc⟩ : ∃ kc : Nat, kc = 64 := ⟨_, rfl⟩
  rw [← hkc] at ho1
  obtain ⟨z0, hz0⟩ : ∃ z, z = a0.map encI := ⟨_, rfl⟩
  rw [← hz0] at hins0
  conv => cbv
  repeat' first | (refine call_r hins0 rfl rfl ?_; conv => cbv) | refine call_b his0 rfl rfl ?_ ?_ | (intro hc; cases hc; done) | exact gu | exact trivial | refine And.intro ?_ ?_ | (intro hc; exact absurd hc (by decide)) | (intro hc; exfalso; omega) | (intro hc; (first | rw [wrap_small (by omega) (by omega)] at hc | rw [nI_eq] at hc | skip); try (conv => cbv))
  refine loop_up kb (fun (s : Int × Bool × Rt) => [(1, .c (.d (.list false 1 al))), (2, .c (.d (.list false 1 dl))), (3, iA n), (4, iA d), (5, .c (.ptr 0 0 0 0)), (10, .c (.ptr 1 0 0 0)), (11, .c (.ptr 2 0 0 0)), (12, iA s.1)]) (fun s => [.bx [.d (.int .i64 nodes), .d (.list false 1 ol), .d (.list false 7 ll)], .bx [.d (iD 0), .d (iD 0), .d (.list true 1 [])], .bx [.d (iD s.2.2.dist), .d (iD s.2.2.cls), .d (.list s.2.1 1 (s.2.2.arcs.map encI))]])
   (fun k s => s.1 = k ∧ k ≤ kb ∧ B s.2.2 ∧ s.2.2 = (arcsTo k).foldl fo ⟨d0, c0, a0⟩) (0, false, ⟨d0, c0, a0⟩) (by rw [hz0]; exact Wk.cw) ⟨rfl, by omega, hz, rfl⟩ (fun k s h => h.2.1) ?_
  rintro k ⟨i, fl, r⟩ Q' ⟨hi, hk, hB, hr⟩ normo exo rto
  simp only at hi hB hr
  have hbor := hbor i
  have hov := hov i
  have kx2 : k = kb → K (.agg [.d (iD r.dist), .d (iD r.cls), .d (.list false 1 (r.arcs.map encI))]) := fun e => by rw [← e, ← hr] at kx; exact kx
  by_cases hlt : k < kb
  ·have hbi : 0 ≤ i ∧ i < nodes := by omega
   have hins := hins i hbi
   have hleg := hleg i hbi
   have hlb := hlb i hbi
   have hst := fun r k => hst r i k hbi
   have hs1 := fun r => hs1 r i
   have hs0 := fun r => hs0 r i
   have ho1 := ho1 r i
   have ho0 := ho0 r i
   have hBn := hbo r i hbi hB
   have hisb := his i
   have hfo : (arcsTo (k + 1)).foldl fo ⟨d0, c0, a0⟩ = fo r i := by rw [arcsTo_succ, List.foldl_append, ← hr, ← hi]; rfl
   generalize fo r i = r2 at *
   generalize lf i = lfi at *
   generalize ff i = ffi at *
   clear kx kx2 hins0 hz hr his hbo
   generalize g1 i = b1 at *
   generalize g2 i = b2 at *
   generalize inf i = ri at *
   have nx : ∀ (L : Lv) (h : Hp) (i' : Int) (fl' : Bool) (d2 c2 : Int) (a2 : List Int), i' = i + 1 → r2 = ⟨d2, c2, a2⟩ → Wk 0 L h [(1, .c (.d (.list false 1 al))), (2, .c (.d (.list false 1 dl))), (3, iA n), (4, iA d), (5, .c (.ptr 0 0 0 0)), (10, .c (.ptr 1 0 0 0)), (11, .c (.ptr 2 0 0 0)), (12, iA i')] [.bx [.d (.int .i64 nodes), .d (.list false 1 ol), .d (.list false 7 ll)], .bx [.d (iD 0), .d (iD 0), .d (.list true 1 [])], .bx [.d (iD d2), .d (iD c2), .d (.list fl' 1 (a2.map encI))]] → Q' .normal L h := fun L h i' fl' d2 c2 a2 h1 h2 hw =>
    normo _ _ (i', fl', ⟨d2, c2, a2⟩) ⟨by simp only; omega, by omega, by rw [← h2]; exact hBn, by rw [← h2]; exact hfo.symm⟩ hw
   clear normo hfo hBn
   obtain ⟨dr, cr, ar⟩ := ri
   simp only at hins hleg ho1 ho0
   by_cases hb : b1 = true ∧ b2 = false ∧ 0 < cr
   ·obtain ⟨rfl, rfl, hcr⟩ := hb
    have ho1 := ho1 rfl rfl hcr
    clear ho0
    obtain ⟨da, ca, aa⟩ := r
    simp only
    obtain ⟨zla, hzla⟩ : ∃ z, z = aa.map encI := ⟨_, rfl⟩
    rw [← hzla]
    obtain ⟨zlr, hzlr⟩ : ∃ z, z = ar.map encI := ⟨_, rfl⟩
    rw [← hzlr] at hins
    conv => cbv
    repeat' first | (refine exo _ _ _ ?_; (conv => cbv)) | (refine rto _ _ ?_; (conv => cbv)) | refine call_b hbor rfl rfl ?_ ?_ | refine call_b hov rfl rfl ?_ ?_ | (refine call_r hins rfl rfl ?_; conv => cbv) | (intro hc; cases hc; done) | exact gu | exact trivial | refine And.intro ?_ ?_ | (intro hc; exact absurd hc (by decide)) | (intro hc; exfalso; omega) | (intro hc; (first | rw [wrap_small (by omega) (by omega)] at hc | rw [nI_eq] at hc | skip); try (conv => cbv))
    refine loop_up kc (fun (s : Int × Bool × Rt) => [(1, .c (.d (.list false 1 al))), (2, .c (.d (.list false 1 dl))), (3, iA n), (4, iA d), (5, .c (.ptr 0 0 0 0)), (10, .c (.ptr 1 0 0 0)), (11, .c (.ptr 2 0 0 0)), (12, iA i), (13, .c (.ptr 3 0 0 0)), (14, iA s.1)]) (fun s => [.bx [.d (.int .i64 nodes), .d (.list false 1 ol), .d (.list false 7 ll)], .bx [.d (iD 0), .d (iD 0), .d (.list true 1 [])], .bx [.d (iD s.2.2.dist), .d (iD s.2.2.cls), .d (.list s.2.1 1 (s.2.2.arcs.map encI))], .bx [.d (iD dr), .d (iD cr), .d (.list false 1 zlr)]])
     (fun j s => s.1 = j + 1 ∧ j ≤ kc ∧ B s.2.2 ∧ s.2.2 = (ks j).foldl ffi ⟨da, ca, aa⟩) (1, fl, ⟨da, ca, aa⟩) (by rw [hzla]; exact Wk.cw) ⟨rfl, by omega, hB, rfl⟩ (fun k s h => h.2.1) ?_
    rintro j ⟨kk, fl2, rr⟩ Q'' ⟨hkk, hj, hBr, hrr⟩ norm ex rt
    simp only at hkk hBr hrr
    by_cases hj2 : j < kc
    ·have hi1 := hisn kk
     have hi2 := hisb kk
     have hmk := hmk kk
     have hleg := hleg kk
     have hbet := hbet rr (lfi kk) (by have := hln rr hBr; omega) (by have := hlb kk; omega)
     have hs1 := hs1 rr kk
     have hs0 := hs0 rr kk
     have hBn := hst rr kk hBr
     have hfo : (ks (j + 1)).foldl ffi ⟨da, ca, aa⟩ = ffi rr kk := by rw [ks_succ, List.foldl_append, ← hrr, ← hkk]; rfl
     generalize ffi rr kk = r3 at *
     generalize mf kk = mi at *
     generalize lfi kk = li at *
     clear hln hlb hst nx ho1 hrr hBr hisn hisb
     generalize gg n kk = b1 at *
     generalize gg i kk = b2 at *
     have key : b1 = true ∧ b2 = true ∧ r3 = betterS rr li ∨ ¬ (b1 = true ∧ b2 = true) ∧ r3 = rr := by
      by_cases hb : b1 = true ∧ b2 = true
      ·exact .inl ⟨hb.1, hb.2, hs1 hb.1 hb.2⟩
      ·exact .inr ⟨hb, hs0 hb⟩
     clear hs1 hs0
     obtain ⟨db, cb, ab⟩ := rr
     obtain ⟨dl2, cl2, al2⟩ := li
     simp only at hbet hleg
     have nx : ∀ (L : Lv) (h : Hp) (i' : Int) (fl' : Bool) (d2 c2 : Int) (a2 : List Int), i' = kk + 1 → r3 = ⟨d2, c2, a2⟩ → Wk 0 L h [(1, .c (.d (.list false 1 al))), (2, .c (.d (.list false 1 dl))), (3, iA n), (4, iA d), (5, .c (.ptr 0 0 0 0)), (10, .c (.ptr 1 0 0 0)), (11, .c (.ptr 2 0 0 0)), (12, iA i), (13, .c (.ptr 3 0 0 0)), (14, iA i')] [.bx [.d (.int .i64 nodes), .d (.list false 1 ol), .d (.list false 7 ll)], .bx [.d (iD 0), .d (iD 0), .d (.list true 1 [])], .bx [.d (iD d2), .d (iD c2), .d (.list fl' 1 (a2.map encI))], .bx [.d (iD dr), .d (iD cr), .d (.list false 1 zlr)]] → Q'' .normal L h := fun L h i' fl' d2 c2 a2 h1 h2 hw =>
      norm _ _ (i', fl', ⟨d2, c2, a2⟩) ⟨by simp only; omega, by omega, by rw [← h2]; exact hBn, by rw [← h2]; exact hfo.symm⟩ hw
     clear norm hfo hBn
     rcases key with ⟨rfl, rfl, key⟩ | ⟨hb, key⟩
     ·rw [← key] at hbet
      clear key
      obtain ⟨d2, c2, a2⟩ := r3
      have nx := fun L h i' h1 => nx L h i' false d2 c2 a2 h1 rfl
      simp only at hbet
      generalize a2.map encI = zl2 at *
      generalize al2.map encI = zl1 at *
      generalize ab.map encI = zl0 at *
      generalize mi.map encB = ml at *
      conv => cbv
      repeat' first | (refine ex _ _ _ ?_; (conv => cbv)) | (refine rt _ _ ?_; (conv => cbv)) | refine call_b hi1 rfl rfl ?_ ?_ | refine call_b hi2 rfl rfl ?_ ?_ | (refine call_r hmk rfl rfl ?_; conv => cbv) | (refine call_r hleg rfl rfl ?_; conv => cbv) | (refine call_r hbet rfl rfl ?_; conv => cbv) | (intro hc; cases hc; done) | exact gu | exact trivial | refine And.intro ?_ ?_ | (intro hc; exact absurd hc (by decide)) | (intro hc; exfalso; omega) | (intro hc; (first | rw [wrap_small (by omega) (by omega)] at hc | rw [nI_eq] at hc | skip); try (conv => cbv))
      rename_i i'
      exact nx _ _ i' hc (Wk.cw)
     ·have nx := fun L h i' h1 => nx L h i' fl2 db cb ab h1 key
      clear hbet hleg hmk
      generalize ab.map encI = zl0 at *
      cases b1
      ·conv => cbv
       repeat' first | (refine ex _ _ _ ?_; (conv => cbv)) | (refine rt _ _ ?_; (conv => cbv)) | refine call_b hi1 rfl rfl ?_ ?_ | (intro hc; cases hc; done) | exact gu | exact trivial | refine And.intro ?_ ?_ | (intro hc; exact absurd hc (by decide)) | (intro hc; exfalso; omega) | (intro hc; (first | rw [wrap_small (by omega) (by omega)] at hc | rw [nI_eq] at hc | skip); try (conv => cbv))
       rename_i i'
       exact nx _ _ i' hc (Wk.cw)
      ·cases b2
       ·conv => cbv
        repeat' first | (refine ex _ _ _ ?_; (conv => cbv)) | (refine rt _ _ ?_; (conv => cbv)) | refine call_b hi1 rfl rfl ?_ ?_ | refine call_b hi2 rfl rfl ?_ ?_ | (intro hc; cases hc; done) | exact gu | exact trivial | refine And.intro ?_ ?_ | (intro hc; exact absurd hc (by decide)) | (intro hc; exfalso; omega) | (intro hc; (first | rw [wrap_small (by omega) (by omega)] at hc | rw [nI_eq] at hc | skip); try (conv => cbv))
        rename_i i'
        exact nx _ _ i' hc (Wk.cw)
       ·exact absurd ⟨rfl, rfl⟩ hb
    ·have hje : j = kc := by omega
     rw [hje, ← ho1] at hrr
     clear hln hlb hst hisn hisb hs1 hs0 hbet hleg hmk norm
     obtain ⟨db, cb, ab⟩ := rr
     have nx := fun L h i' h1 => nx L h i' fl2 db cb ab h1 hrr.symm
     clear hrr ho1
     simp only
     generalize ab.map encI = zl0 at *
     conv => cbv
     repeat' first | (refine ex _ _ _ ?_; (conv => cbv)) | (refine rt _ _ ?_; (conv => cbv)) | exact gu | exact trivial | refine And.intro ?_ ?_ | (intro hc; exact absurd hc (by decide)) | (intro hc; exfalso; omega) | (intro hc; (first | rw [wrap_small (by omega) (by omega)] at hc | rw [nI_eq] at hc | skip); try (conv => cbv))
     rename_i i'
     exact nx _ _ i' hc (Wk.cw)
   ·clear ho1 hleg hs1 hs0 hst hlb hbet hmk
    have ho0 := ho0 hb
    obtain ⟨da, ca, aa⟩ := r
    have nx := fun L h i' h1 => nx L h i' fl da ca aa h1 ho0
    simp only
    generalize aa.map encI = zl0 at *
    generalize ar.map encI = zlr at *
    have hb2 : b1 = false ∨ (b1 = true ∧ b2 = true) ∨ (b1 = true ∧ b2 = false ∧ ¬ 0 < cr) := by
     cases b1
     ·exact .inl rfl
     ·cases b2
      ·exact .inr (.inr ⟨rfl, rfl, fun h => hb ⟨rfl, rfl, h⟩⟩)
      ·exact .inr (.inl ⟨rfl, rfl⟩)
    clear hb ho0
    rcases hb2 with rfl | ⟨rfl, rfl⟩ | ⟨rfl, rfl, hcr⟩
    all_goals
     conv => cbv
     repeat' first | (refine exo _ _ _ ?_; (conv => cbv)) | (refine rto _ _ ?_; (conv => cbv)) | refine call_b hbor rfl rfl ?_ ?_ | refine call_b hov rfl rfl ?_ ?_ | (refine call_r hins rfl rfl ?_; conv => cbv) | (intro hc; cases hc; done) | exact gu | exact trivial | refine And.intro ?_ ?_ | (intro hc; exact absurd hc (by decide)) | (intro hc; exfalso; omega) | (intro hc; (first | rw [wrap_small (by omega) (by omega)] at hc | rw [nI_eq] at hc | skip); try (conv => cbv))
    ·rename_i i'
     exact nx _ _ i' hc (Wk.cw)
    ·rename_i i'
     exact nx _ _ i' hc (Wk.cw)
    refine loop_up 1 (fun (_ : Unit) => [(1, .c (.d (.list false 1 al))), (2, .c (.d (.list false 1 dl))), (3, iA n), (4, iA d), (5, .c (.ptr 0 0 0 0)), (10, .c (.ptr 1 0 0 0)), (11, .c (.ptr 2 0 0 0)), (12, iA i), (13, .c (.ptr 3 0 0 0)), (14, iA 1)]) (fun _ => [.bx [.d (.int .i64 nodes), .d (.list false 1 ol), .d (.list false 7 ll)], .bx [.d (iD 0), .d (iD 0), .d (.list true 1 [])], .bx [.d (iD da), .d (iD ca), .d (.list fl 1 zl0)], .bx [.d (iD dr), .d (iD cr), .d (.list false 1 zlr)]])
     (fun k _ => k ≤ 1) () (Wk.cw) (by omega) (fun k s h => h) ?_
    rintro j _ Q'' _ norm ex rt
    conv => cbv
    repeat' first | (refine ex _ _ _ ?_; (conv => cbv)) | (refine rt _ _ ?_; (conv => cbv)) | exact gu | exact trivial | refine And.intro ?_ ?_ | (intro hc; exact absurd hc (by decide)) | (intro hc; exfalso; omega) | (intro hc; (first | rw [wrap_small (by omega) (by omega)] at hc | rw [nI_eq] at hc | skip); try (conv => cbv))
    rename_i i'
    exact nx _ _ i' hc (Wk.cw)
  ·have kx := kx2 (by omega)
   clear kx2 hbor hov hins hleg hbet hs1 hs0 hst hln hlb hr ho1 ho0 his hisn
   obtain ⟨da, ca, aa⟩ := r
   simp only at kx
   simp only
   generalize aa.map encI = zl0 at *
   conv => cbv
   repeat' first | (refine exo _ _ _ ?_; (conv => cbv)) | (refine rto _ _ ?_; (conv => cbv)) | exact gu | exact trivial | refine And.intro ?_ ?_ | (intro hc; exact absurd hc (by decide)) | (intro hc; exfalso; omega) | (intro hc; (first | rw [wrap_small (by omega) (by omega)] at hc | rw [nI_eq] at hc | skip); try (conv => cbv))
   exact kx
end Go.Ab

/-
  Areas: what the reference finds.
-/
namespace Go.Ab
open Go.Proofs
def checkK (t : Top) (A : List Int) (down : List Bool) (n d : Int) : Int :=
 if validK t A = true ∧ fitsB t down = true then (if (0 ≤ n ∧ n < t.nodes) ∧ (0 ≤ d ∧ d < t.nodes) then 0 else 2) else 1
noncomputable def findK (t : Top) (A : List Int) (down : List Bool) (n d : Int) : Rt × Int :=
 if checkK t A down n d = 0 then (if (ofS t A down n d).cls = 0 then (noRt, 11) else (ofS t A down n d, 0)) else (noRt, checkK t A down n d)
theorem checkK_zero {t : Top} {A : List Int} {down : List Bool} {n d : Int} (h : checkK t A down n d = 0) : AskK t A down n d := by
 unfold checkK at h
 split at h
 ·rename_i h1
  split at h
  ·rename_i h2
   exact ⟨h1.1, h1.2, h2.1, h2.2⟩
  ·simp at h
 ·simp at h
set_option maxHeartbeats 1000000 in
theorem rcheck17_ok (P : Program) (hP : P = Try.prog) (t : Top) (A : List Int) (down : List Bool) (n d : Int) : Ret P n_ref17_check [topA t, intsA A, boolsA down, iA n, iA d] (iA (checkK t A down n d)) := by
 refine ret_start (hP ▸ mixed) (hP ▸ fn_ref17_check) (hP ▸ c_ref17_check) (Nat.le_of_ble_eq_true rfl) fun Λ Λo K hK => ?_
 have hval := rkvalid_ok P hP t A
 have hfit := fits_ok P hP t down
 clear hP
 have k1 : ¬ (validK t A = true ∧ fitsB t down = true) → K (iA 1) := fun h => by rw [checkK, if_neg h] at hK; exact hK
 have k2 : (validK t A = true ∧ fitsB t down = true) → ¬ ((0 ≤ n ∧ n < t.nodes) ∧ (0 ≤ d ∧ d < t.nodes)) → K (iA 2) := fun h h2 => by rw [checkK, if_pos h, if_neg h2] at hK; exact hK
 have k3 : (validK t A = true ∧ fitsB t down = true) → ((0 ≤ n ∧ n < t.nodes) ∧ (0 ≤ d ∧ d < t.nodes)) → K (iA 0) := fun h h2 => by rw [checkK, if_pos h, if_pos h2] at hK; exact hK
 clear hK
 generalize validK t A = vb at *
 generalize fitsB t down = fb at *
 simp only [intsA, intsD, boolsA, boolsD] at *
 generalize A.map encI = al at *
 generalize down.map encB = dl at *
 obtain ⟨nodes, ov, links⟩ := t
 simp only [topA, boolsD, linksD] at *
 generalize hol : ov.map encB = ol at *
 generalize hll : links.map encLk = ll at *
 have hlo : Λ ol = ov.length := by rw [Λo, ← hol]; simp
 have hls : Λ ll = links.length := by rw [Λo, ← hll]; simp
 cases vb
 ·have kx := k1 (by simp)
  clear k1 k2 k3
  conv => cbv
  repeat' first | refine call_b hval rfl rfl ?_ ?_ | (intro hc; cases hc; done) | exact gu | exact trivial | refine And.intro ?_ ?_ | (intro hc; exact absurd hc (by decide)) | (intro hc; exfalso; omega) | (intro hc; (first | rw [wrap_small (by omega) (by omega)] at hc | rw [nI_eq] at hc | skip); try (conv => cbv))
  exact kx
 cases fb
 ·have kx := k1 (by simp)
  clear k1 k2 k3
  conv => cbv
  repeat' first | refine call_b hval rfl rfl ?_ ?_ | refine call_b hfit rfl rfl ?_ ?_ | (intro hc; cases hc; done) | exact gu | exact trivial | refine And.intro ?_ ?_ | (intro hc; exact absurd hc (by decide)) | (intro hc; exfalso; omega) | (intro hc; (first | rw [wrap_small (by omega) (by omega)] at hc | rw [nI_eq] at hc | skip); try (conv => cbv))
  exact kx
 have kx2 := k2 ⟨rfl, rfl⟩
 have kx3 := k3 ⟨rfl, rfl⟩
 clear k1 k2 k3
 conv => cbv
 repeat' first | refine call_b hval rfl rfl ?_ ?_ | refine call_b hfit rfl rfl ?_ ?_ | (intro hc; cases hc; done) | exact gu | exact trivial | refine And.intro ?_ ?_ | (intro hc; exact absurd hc (by decide)) | (intro hc; exfalso; omega) | (intro hc; (first | rw [wrap_small (by omega) (by omega)] at hc | rw [nI_eq] at hc | skip); try (conv => cbv))
 all_goals first | exact kx2 (by omega) | exact kx3 (by omega)
set_option maxHeartbeats 1000000 in
theorem rfind17_ok (P : Program) (hP : P = Try.prog) (t : Top) (A : List Int) (down : List Bool) (n d : Int) : Ret P n_ref17_Find [topA t, intsA A, boolsA down, iA n, iA d] (.tup [rtA (findK t A down n d).1, iA (findK t A down n d).2]) := by
 refine ret_start (hP ▸ mixed) (hP ▸ fn_ref17_Find) (hP ▸ c_ref17_Find) (Nat.le_of_ble_eq_true rfl) fun Λ Λo K hK => ?_
 have hchk := rcheck17_ok P hP t A down n d
 have hof := fun h => rof_ok P hP t A down n d (checkK_zero h)
 clear hP
 have k1 : ¬ checkK t A down n d = 0 → K (.tup [rtA noRt, iA (checkK t A down n d)]) := fun h => by rw [findK, if_neg h] at hK; exact hK
 have k2 : checkK t A down n d = 0 → (ofS t A down n d).cls = 0 → K (.tup [rtA noRt, iA 11]) := fun h h2 => by rw [findK, if_pos h, if_pos h2] at hK; exact hK
 have k3 : checkK t A down n d = 0 → ¬ (ofS t A down n d).cls = 0 → K (.tup [rtA (ofS t A down n d), iA 0]) := fun h h2 => by rw [findK, if_pos h, if_neg h2] at hK; exact hK
 clear hK
 generalize checkK t A down n d = c at *
 generalize ofS t A down n d = r at *
 obtain ⟨dr, cr, ar⟩ := r
 simp only [rtA, noRt, intsA, intsD, boolsA, boolsD, List.map_nil] at *
 generalize ar.map encI = rl at *
 generalize A.map encI = al at *
 generalize down.map encB = dl at *
 obtain ⟨nodes, ov, links⟩ := t
 simp only [topA, boolsD, linksD] at *
 generalize hol : ov.map encB = ol at *
 generalize hll : links.map encLk = ll at *
 have hlo : Λ ol = ov.length := by rw [Λo, ← hol]; simp
 have hls : Λ ll = links.length := by rw [Λo, ← hll]; simp
 by_cases h0 : c = 0
 ·have hof2 := hof h0
  have kx2 := k2 h0
  have kx3 := k3 h0
  clear k1 k2 k3 hof
  subst h0
  conv => cbv
  repeat' first | (refine call_r hchk rfl rfl ?_; conv => cbv) | (refine call_r hof2 rfl rfl ?_; conv => cbv) | exact gu | exact trivial | refine And.intro ?_ ?_ | (intro hc; exact absurd hc (by decide)) | (intro hc; exfalso; omega) | (intro hc; (first | rw [wrap_small (by omega) (by omega)] at hc | rw [nI_eq] at hc | skip); try (conv => cbv))
  ·exact kx2 (by omega)
  ·exact kx3 (by omega)
 ·have kx := k1 h0
  clear k1 k2 k3 hof
  conv => cbv
  repeat' first | (refine call_r hchk rfl rfl ?_; conv => cbv) | exact gu | exact trivial | refine And.intro ?_ ?_ | (intro hc; exact absurd hc (by decide)) | (intro hc; exfalso; omega) | (intro hc; (first | rw [wrap_small (by omega) (by omega)] at hc | rw [nI_eq] at hc | skip); try (conv => cbv))
  all_goals exact kx
end Go.Ab

/-
  Maps whose keys are numbers.
-/
namespace Go.Ab
open Go.Proofs
abbrev Isc := List (Int × DV)
def encZ (e : Int × DV) : DV × DV := (.s (iD e.1), e.2)
def ifind (k : Int) : Isc → Nat → Option (Nat × DV)
 | [], _ => none
 | e :: r, i => if k = e.1 then some (i, e.2) else ifind k r (i + 1)
theorem eqc_int (a x : Int) : eqc [.d (.int .i64 a)] [.d (.int .i64 x)] [(0, 0)] = some (decide (a = x)) := by
 have e : eqc [.d (.int .i64 a)] [.d (.int .i64 x)] [(0, 0)] = some ((a == x) && true) := rfl
 rw [e]
 by_cases h1 : a = x
 ·simp [h1]
 ·simp [h1]
theorem mfind_ints (a : Int) : ∀ (m : Isc) (i : Nat), mfind true 1 [(0, 0)] (.s (.int .i64 a)) (m.map encZ) i = some (ifind a m i) := by
 intro m
 induction m with
 | nil => intro i; rfl
 | cons e r ih =>
  intro i
  obtain ⟨x, v⟩ := e
  have e1 : mfind true 1 [(0, 0)] (.s (.int .i64 a)) (List.map encZ ((x, v) :: r)) i =
    (match eqc [.d (.int .i64 a)] [.d (.int .i64 x)] [(0, 0)] with
    | some true => some (some (i, v))
    | some false => mfind true 1 [(0, 0)] (.s (.int .i64 a)) (List.map encZ r) (i + 1)
    | none => none) := rfl
  rw [e1, eqc_int]
  simp only [ifind]
  by_cases h : a = x
  ·rw [decide_eq_true h, if_pos h]
  ·rw [decide_eq_false h, if_neg h]; exact ih (i + 1)
theorem vlk_ints {a : Int} {m : Isc} {ml : List (DV × DV)} {ok : Bool} {z : AV} {K : AV → Prop} (mlh : m.map encZ = ml) (h0 : ifind a m 0 = none → K (lkR ok z false)) (h1 : ∀ i v, ifind a m 0 = some (i, v) → K (lkR ok (avDV v) true)) :
  ∀ r, mfind true 1 [(0, 0)] (.s (.int .i64 a)) ml 0 = r → vLk ok z K r := by
 intro r hr
 rw [← mlh, mfind_ints] at hr
 subst hr
 cases hp : ifind a m 0 with
 | none => exact h0 hp
 | some p => exact h1 p.1 p.2 hp
theorem vup_ints {a : Int} {m : Isc} {ml : List (DV × DV)} {vd : DV} {K : List (DV × DV) → Prop} (mlh : m.map encZ = ml) (h0 : ifind a m 0 = none → ∀ es', (m ++ [(a, vd)]).map encZ = es' → K es') (h1 : ∀ i v, ifind a m 0 = some (i, v) → ∀ es', (m.set i (a, vd)).map encZ = es' → K es') :
  ∀ r, mfind true 1 [(0, 0)] (.s (.int .i64 a)) ml 0 = r → vUp ml (.s (.int .i64 a)) vd K r := by
 intro r hr
 have hm : mfind true 1 [(0, 0)] (.s (.int .i64 a)) ml 0 = some (ifind a m 0) := by rw [← mlh, mfind_ints]
 rw [hm] at hr
 subst hr
 cases hp : ifind a m 0 with
 | none => intro es' he; exact h0 hp es' (by rw [he, ← mlh]; simp [encZ])
 | some p => intro es' he; exact h1 p.1 p.2 hp es' (by rw [he, ← mlh, List.map_set]; rfl)
end Go.Ab

/-
  Comparing the versions of blocks.
-/
namespace Go.Ab
open Go.Proofs
theorem bq_self (n : Nat) : Nat.beq n n = true := Nat.beq_refl n
theorem bq_old (n : Nat) : Nat.beq n n.succ = false := by
 rw [Bool.eq_false_iff]; intro h; have := Nat.eq_of_beq_eq_true h; omega
theorem bq_lit (a b : Nat) : Nat.beq a b = decide (a = b) := by
 by_cases h : a = b
 ·subst h; simp
 ·rw [decide_eq_false h, Bool.eq_false_iff]; exact fun h' => h (Nat.eq_of_beq_eq_true h')
end Go.Ab

/-
  The engine: a function's new blocks, given up behind it.
-/
namespace Go.Ab
theorem FnS.cut {P : Program} {f : Nat} {args : List AV} {h : Hp} {R : AV → Hp → Prop} (hf : FnS P f args h R) (hc : ∀ r h', R r h' → refsA h.length r = true ∧ refsH h.length (h'.take h.length) = true) :
  FnS P f args h fun r h1 => ∃ h2, R r (h1 ++ h2) ∧ h1.length = h.length := by
 refine ⟨fun G ι w vs hr hv => ?_⟩
 refine (hf.out G ι w vs hr hv).mono fun e w2 ⟨v, r, G2, ι2, hc2, he, hR, hr2, hvr, hx⟩ => ?_
 have hl2 : h.length ≤ hc2.length := by
  rcases Nat.lt_or_ge hc2.length h.length with hb | hb
  ·obtain ⟨k', h1, _⟩ := hx.keep hc2.length _ (List.getElem?_eq_getElem hb)
   have := get_lt h1; omega
  ·exact hb
 obtain ⟨c1, c2⟩ := hc r hc2 hR
 have hlt : (hc2.take h.length).length = h.length := by rw [List.length_take]; omega
 let a : Act := ⟨#[v], []⟩
 have hfit : Fits 1 G ι h w (lkL [(0, r)]) hc2 a w2 := ⟨G2, ι2, ⟨hr2, rfl, rfl, fun i => by
  cases i with
  | zero => exact hvr
  | succ i => exact .c _ _ (.u _)⟩, hx⟩
 obtain ⟨G3, ι3, st⟩ := Wk.cut_fits (m := h.length) (L' := [(0, r)]) (h' := hc2.take h.length) ⟨hc2.drop h.length, (List.take_append_drop _ _).symm⟩ (by omega) (by rw [hlt]; exact c2)
  (by rw [hlt]; exact ⟨⟨rfl, c1⟩, trivial⟩) (Nat.le_refl _) hfit
 have hv0 := st.rel.env 0
 exact ⟨v, r, G3, ι3, hc2.take h.length, he, ⟨hc2.drop h.length, by rw [List.take_append_drop]; exact hR, hlt⟩, st.rel.hr, hv0, st.ext⟩
theorem Kept.unrn {ι ι2 ιc : Io} {w w2 : World} {l : Nat} {k kc : Blk} {ρ : Nat → Nat} (hk : Kept ι ι2 w w2 l k (rnB ρ kc)) (hi : ιc[l]? = ι2[l]?) (hm : ∀ m v es, kc ≠ .mi m v es) : Kept ι ιc w w2 l k kc := by
 cases kc with
 | dead => cases k <;> trivial
 | am m' =>
  cases k with
  | am m => trivial
  | _ => simp [rnB, Kept] at hk
 | bx cs' =>
  cases k with
  | bx cs => exact ⟨by have := hk.1; rw [rnCs_len] at this; exact this, by rw [hi]; exact hk.2⟩
  | _ => simp [rnB, Kept] at hk
 | da r' v' sz' es' =>
  cases k with
  | da r v sz es =>
   rcases hk with hk | ⟨a1, a2, a3, a4, a5, a6⟩
   ·exact .inl hk
   ·exact .inr ⟨a1, a2, a3, a4, by rw [hi]; exact a5, a6⟩
  | _ => simp [rnB, Kept] at hk
 | mp v' es' =>
  cases k with
  | mp v es => exact ⟨by rw [hi]; exact hk.1, hk.2⟩
  | _ => simp [rnB, Kept] at hk
 | mi m v es => exact absurd rfl (hm m v es)
theorem FnS.gc {P : Program} {f : Nat} {args : List AV} {h : Hp} {R : AV → Hp → Prop} (hf : FnS P f args h R) (Q : AV → Hp → Prop)
    (hg : ∀ r h', R r h' → ∃ (σ : List Nat) (r' : AV) (hc : Hp), Q r' hc ∧ σ.length = hc.length ∧ σ.Nodup ∧ (∀ l ∈ σ, l < h'.length) ∧ (∀ (i : Nat) (k : Blk), hc[i]? = some k → h'[rho σ h'.length i]? = some (rnB (rho σ h'.length) k)) ∧
      r = rnA (rho σ h'.length) r' ∧ refsH hc.length hc = true ∧ refsA hc.length r' = true ∧ h.length ≤ hc.length ∧ (∀ i, i < h.length → rho σ h'.length i = i) ∧ ∀ k ∈ hc, ∀ m v es, k ≠ .mi m v es) : FnS P f args h Q := by
  refine ⟨fun G ι w vs hr hv => ?_⟩
  refine (hf.out G ι w vs hr hv).mono fun e w2 ⟨v, r, G2, ι2, h', he, hR, hr2, hvr, hx⟩ => ?_
  obtain ⟨σ, r', hc, hQ, hlen, hnd, hlt, hh, hrr, hcl, hca, hle, hid, hmi⟩ := hg r h' hR
  generalize hρ : rho σ h'.length = ρ at *
  have rold : ∀ i, i < σ.length → σ[i]? = some (ρ i) := fun i hi => by rw [← hρ]; exact rho_old σ _ i hi
  have rnew : ∀ i, σ.length ≤ i → ρ i = h'.length + (i - σ.length) := fun i hi => by rw [← hρ]; exact rho_new σ _ i hi
  have rmem : ∀ i, i < σ.length → ρ i ∈ σ := fun i hi => List.mem_of_getElem? (rold i hi)
  have rinj : ∀ i j, ρ i = ρ j → i = j := by
    intro i j e
    rcases Nat.lt_or_ge i σ.length with hi | hi <;> rcases Nat.lt_or_ge j σ.length with hj | hj
    · have h1 := rold i hi
      have h2 := rold j hj
      rw [e, ← h2] at h1
      exact (List.getElem?_inj hi hnd).1 h1
    · have := hlt _ (rmem i hi); have := rnew j hj; omega
    · have := hlt _ (rmem j hj); have := rnew i hi; omega
    · have := rnew i hi; have := rnew j hj; omega
  let ιc : Io := σ.map fun l => (ι2[l]?).getD (0, 0)
  have hιc : ∀ i, i < σ.length → ιc[i]? = ι2[ρ i]? := by
    intro i hi
    simp only [ιc, List.getElem?_map, rold i hi, Option.map_some]
    rw [List.getElem?_eq_getElem (by rw [hr2.len]; exact hlt _ (rmem i hi))]; rfl
  have am : Among ρ ιc hc ι2 h' := ⟨hh, fun i k hk => (hιc i (by rw [hlen]; exact get_lt hk)).symm⟩
  have hrc : HR G2 ιc hc w2 := HR.down am hr2 (by simp [ιc, hlen]) (fun i j _ _ e => rinj i j e) hcl
  have hvc : VR G2 w2 ιc hc v r' := VR.unrn am (hrr ▸ hvr) hca
  refine ⟨v, r', G2, ιc, hc, he, hQ, hrc, hvc, ?_⟩
  exact
    { size := hx.size
      quiet := hx.quiet
      frame := hx.frame
      gmono := hx.gmono
      gnew := hx.gnew
      onew := fun b ho => hx.onew b (owned_up am ho)
      keep := fun l k hk => by
        obtain ⟨k', h1, h2⟩ := hx.keep l k hk
        have hl := get_lt hk
        have hkc : hc[l]? = some (hc[l]'(by omega)) := List.getElem?_eq_getElem _
        have h3 := hh l _ hkc
        rw [hid l hl, h1] at h3
        cases h3
        exact ⟨_, hkc, h2.unrn (by rw [hιc l (by omega), hid l hl]) (hmi _ (List.getElem_mem _))⟩ }
end Go.Ab

/-
  Areas: the program's routes: a further path is considered.
-/
namespace Go.Ab
open Go.Proofs
structure Pr where
 (dist : Int) (arcs : List Int)
noncomputable def addP (t : Top) (m : List Bool) (n d more : Int) (r : Pr) : Pr :=
 if gt (distS t m d false) n < 0 then r
 else if 0 ≤ r.dist ∧ r.dist < gt (distS t m d false) n + more then r
 else if r.dist = gt (distS t m d false) n + more then ⟨r.dist, r.arcs ++ nextL t m (distS t m d false) n d⟩
 else ⟨gt (distS t m d false) n + more, nextL t m (distS t m d false) n d⟩
abbrev prH (r : Pr) (ve : Nat) (rr : Bool) : Hp := [.bx [.d (iD r.dist), .arr 1 ve 0 r.arcs.length], .da rr ve 1 (r.arcs.map encI)]
set_option maxHeartbeats 4000000 in
theorem add_raw (P : Program) (hP : P = Try.prog) (t : Top) (m : List Bool) (n d more : Int) (r : Pr) (ve : Nat) (rr : Bool) (hf : fitsB t m = true) (hn : 0 ≤ n ∧ n < t.nodes) (hd : 0 ≤ d ∧ d < t.nodes) (hm : 0 ≤ more ∧ more ≤ 100000000) (hr : r.arcs.length ≤ 10000000) :
  FnS P n_area_route_add [.c (.ptr 0 0 0 0), topA t, boolsA m, iA n, iA d, iA more] (prH r ve rr) fun a h' => a = .tup [] ∧ ∃ ve' rr' h2, h' = prH (addP t m n d more r) ve' rr' ++ h2 := by
 refine heap_start (hP ▸ mixed) (hP ▸ fn_area_route_add) (hP ▸ c_area_route_add) (Nat.le_of_ble_eq_true rfl) fun Λ Λo K hK => ?_
 have hv : validT t = true := (show validT t = true ∧ _ by simpa [fitsB] using hf).1
 obtain ⟨hsp, hsb⟩ := distS_spec hv m false hd.1 hd.2
 have hdist := sdist_ok P hP t m d
 rw [searchS, if_pos hf, if_pos hd] at hdist
 have hnext := dNext_ok P hP t m n d
 rw [nextS, if_pos hf, if_pos hd, if_pos hn] at hnext
 clear hP
 have hl256 := (validT_spec.1 hv).2.2.1
 have hnl : (nextL t m (distS t m d false) n d).length ≤ 512 := by
  refine Nat.le_trans (List.length_filter_le _ _) ?_
  simp [arcsTo]; omega
 have hb := hsb n hn.1 hn.2
 have hk : ∀ r' ve' rr' h2, addP t m n d more r = r' → K (.tup []) (prH r' ve' rr' ++ h2) := fun r' ve' rr' h2 h => hK _ _ ⟨rfl, ve', rr', h2, by rw [h]⟩
 clear hK hsb
 have k1 : gt (distS t m d false) n < 0 → ∀ h2, K (.tup []) (prH r ve rr ++ h2) := fun h h2 => hk _ _ _ _ (by rw [addP, if_pos h])
 have k2 : ¬ gt (distS t m d false) n < 0 → (0 ≤ r.dist ∧ r.dist < gt (distS t m d false) n + more) → ∀ h3, K (.tup []) (prH r ve rr ++ h3) := fun h h2 h3 => hk _ _ _ _ (by rw [addP, if_neg h, if_pos h2])
 have k3 : ¬ gt (distS t m d false) n < 0 → ¬ (0 ≤ r.dist ∧ r.dist < gt (distS t m d false) n + more) → r.dist = gt (distS t m d false) n + more → ∀ ve' rr' h4, K (.tup []) (prH ⟨r.dist, r.arcs ++ nextL t m (distS t m d false) n d⟩ ve' rr' ++ h4) := fun h h2 h3 ve' rr' h4 => hk _ _ _ _ (by rw [addP, if_neg h, if_neg h2, if_pos h3])
 have k4 : ¬ gt (distS t m d false) n < 0 → ¬ (0 ≤ r.dist ∧ r.dist < gt (distS t m d false) n + more) → ¬ r.dist = gt (distS t m d false) n + more → ∀ ve' rr' h4, K (.tup []) (prH ⟨gt (distS t m d false) n + more, nextL t m (distS t m d false) n d⟩ ve' rr' ++ h4) := fun h h2 h3 ve' rr' h4 => hk _ _ _ _ (by rw [addP, if_neg h, if_neg h2, if_neg h3])
 clear hk
 have hat := encI_at (D := distS t m d false) (i := n.toNat) (by have := hsp.len; omega)
 rw [Int.toNat_of_nonneg hn.1] at hat
 have hlen := hsp.len
 generalize nextL t m (distS t m d false) n d = nl at *
 generalize distS t m d false = E at *
 obtain ⟨rd, ra⟩ := r
 simp only [prH, intsA, intsD, boolsA, boolsD] at *
 obtain ⟨el, hel⟩ : ∃ x, x = E.map encI := ⟨_, rfl⟩
 have lel : Λ el = t.nodes := by rw [Λo, hel, List.length_map]; omega
 rw [← hel] at hat hdist
 clear hel hsp hlen
 generalize gt E n = x at *
 obtain ⟨nll, hnll⟩ : ∃ x, x = nl.map encI := ⟨_, rfl⟩
 have lnll : Λ nll = nl.length := by rw [Λo, hnll, List.length_map]
 have lnl2 : nll.length = nl.length := by rw [hnll, List.length_map]
 rw [← hnll] at hnext
 obtain ⟨ral, hral⟩ : ∃ x, x = ra.map encI := ⟨_, rfl⟩
 have lral : ral.length = ra.length := by rw [hral, List.length_map]
 obtain ⟨rn, hrn⟩ : ∃ x, x = ra.length := ⟨_, rfl⟩
 simp only [← hral, ← hrn] at k1 k2 ⊢
 generalize m.map encB = ml at *
 clear hf hv
 obtain ⟨nodes, ov, links⟩ := t
 simp only [topA, boolsD, linksD] at *
 generalize hol : ov.map encB = ol at *
 generalize hll : links.map encLk = ll at *
 have hlo : Λ ol = ov.length := by rw [Λo, ← hol]; simp
 have hls : Λ ll = links.length := by rw [Λo, ← hll]; simp
 conv => cbv
 repeat' first | (refine call_r hdist rfl rfl ?_; conv => cbv) | (intro (e : List D) he; cases Option.some.inj (he.symm.trans hat); (conv => cbv)) | (refine CallS.wk (.trans (.rst 1 ve 1 1 rr ral rfl) (.nilK 1 0 1 (ve + 1) 1 1 _ rfl rfl rfl)) ?_; conv => cbv) | (refine call_r hnext rfl rfl ?_; conv => cbv) | exact gu | exact trivial | refine And.intro ?_ ?_ | (intro hc; exact absurd hc (by decide)) | (intro hc; exfalso; omega) | (intro hc; (first | rw [wrap_small (by omega) (by omega)] at hc | rw [nI_eq] at hc | skip); try (conv => cbv))
 ·exact k1 (by omega) [_]
 ·exact k2 (by omega) (by omega) [_]
 ·rename_i tt htt _ _ _ m' r' es' hm' hr'
  have e1 : es' = nll := by rw [hc]; rfl
  have e2 : m' = nl.length := by omega
  rw [e1, e2, hnll, htt]
  exact k4 (by omega) (by omega) (by omega) (ve + 1 + 1) r' [_]
 ·rename_i tt htt _ _ _ m' r' es' hm' hr'
  have e1 : es' = (ra ++ nl).map encI := by rw [hc, List.drop_zero, hrn, ← lral, List.take_length, hral, hnll, List.map_append]
  have e2 : m' = (ra ++ nl).length := by rw [List.length_append]; omega
  rw [e1, e2]
  exact k3 (by omega) (by omega) (by omega) (ve + 1) r' [_]
 ·rename_i tt htt _ _ m' r' es' hm' hr'
  have e1 : es' = nll := by rw [hc]; rfl
  have e2 : m' = nl.length := by omega
  rw [e1, e2, hnll, htt]
  exact k4 (by omega) (by omega) (by omega) (ve + 1 + 1) r' [_]
theorem add_ok (P : Program) (hP : P = Try.prog) (t : Top) (m : List Bool) (n d more : Int) (r : Pr) (ve : Nat) (rr : Bool) (hf : fitsB t m = true) (hn : 0 ≤ n ∧ n < t.nodes) (hd : 0 ≤ d ∧ d < t.nodes) (hm : 0 ≤ more ∧ more ≤ 100000000) (hr : r.arcs.length ≤ 10000000) :
  FnS P n_area_route_add [.c (.ptr 0 0 0 0), topA t, boolsA m, iA n, iA d, iA more] (prH r ve rr) fun a h' => a = .tup [] ∧ ∃ ve' rr', h' = prH (addP t m n d more r) ve' rr' := by
 refine (FnS.cut (add_raw P hP t m n d more r ve rr hf hn hd hm hr) ?_).mono ?_
 ·rintro a h' ⟨rfl, ve', rr', h2, rfl⟩
  exact ⟨rfl, rfl⟩
 ·rintro a h1 ⟨h2, ⟨rfl, ve', rr', h3, e⟩, hl⟩
  exact ⟨rfl, ve', rr', (List.append_inj e hl).1⟩
end Go.Ab

/-
  Areas: the network, and routes inside an area, as the program finds them.
-/
namespace Go.Ab
open Go.Proofs
theorem wk_z {m : Nat} {L : Lv} {h : Hp} (l v sz k : Nat) {r : Bool} {es : List (List D)} (hl : h[l]? = some (.da r v sz es)) (hk : k = es.length) (h1 : okL l v k L) (h2 : okH l v k h) : Wk m L h (zL l v sz es L) (zH l v sz es 0 h) :=
 .fz l v sz r es hl (fun i => .inr (by rw [← lkN_eq, ← lkN_eq, lkN_z]; exact zA_ok hk (okL_get h1 i))) (zH_ok hk h2)
def encRowI (l : List Int) : List D := [.list false 1 (l.map encI)]
def rowsN (t : Top) (A : List Int) : List (List Int) := (arcsTo t.nodes.toNat).map (inS t A)
def ovN (t : Top) (A : List Int) : List Bool := (arcsTo t.nodes.toNat).map fun n => ovT t n || isK t A n 0
def bordN (t : Top) (A : List Int) : List Int := (borderS t A).filter fun b => !ovT t b
def outerN (t : Top) (A : List Int) : Top := ⟨t.nodes, ovN t A, t.links⟩
abbrev netN (t : Top) (A : List Int) (v : Nat) (m : Isc) : Hp :=
 [.bx [.d (iD t.nodes), .d (boolsD t.ov), .d (linksD t.links), .d (iD t.nodes), .d (boolsD (ovN t A)), .d (linksD t.links), .d (.list false 1 ((rowsN t A).map encRowI)), .d (intsD (bordN t A)), .mp 1], .mp v (m.map encZ)]
def MasksOk (t : Top) (A : List Int) (down : List Bool) (m : Isc) : Prop := ∀ k ∈ A, ∃ i, ifind k m 0 = some (i, .s (boolsD (maskS t A down k false)))
theorem rowsN_at {t : Top} {A : List Int} {n : Int} (h0 : 0 ≤ n) (h1 : n < t.nodes) : ((rowsN t A).map encRowI)[n.toNat]? = some [.list false 1 ((inS t A n).map encI)] := by
 have : (arcsTo t.nodes.toNat)[n.toNat]? = some n := by
  rw [arcsTo, List.getElem?_map, List.getElem?_range (by omega), Option.map_some, Int.toNat_of_nonneg h0]
 rw [List.getElem?_map, rowsN, List.getElem?_map, this]; rfl
theorem rowsN_len (t : Top) (A : List Int) : (rowsN t A).length = t.nodes.toNat := by simp [rowsN, arcsTo]
theorem back_iff {t : Top} {A : List Int} (h : validK t A = true) (n : Int) : (0 < (inS t A n).length ∧ (inS t A n).getD 0 0 = 0) ↔ isK t A n 0 = true := by
 rw [← mem_inS h]
 have hs := sinc_inS t A n
 have hn : ∀ x ∈ inS t A n, 0 ≤ x := fun x hx => by
  rw [inS, if_pos h, List.mem_filter, mem_arcsTo] at hx; exact hx.1.1
 generalize inS t A n = l at *
 cases l with
 | nil => simp
 | cons x l =>
  have h1 := List.pairwise_cons.1 hs
  simp only [List.length_cons, List.getD_cons_zero, List.mem_cons]
  constructor
  ·rintro ⟨_, e⟩; exact .inl e.symm
  ·rintro (e | e)
   ·exact ⟨by omega, e.symm⟩
   ·have := h1.1 0 e
    have := hn x (by simp)
    omega
theorem backbone_ok (P : Program) (hP : P = Try.prog) (t : Top) (A : List Int) (n : Int) (v : Nat) (m : Isc) (hv : validK t A = true) (hn : 0 ≤ n ∧ n < t.nodes) :
  FnS P n_area_network_backbone [.c (.ptr 0 0 0 0), iA n] (netN t A v m) fun r h' => r = bA (isK t A n 0) ∧ h' = netN t A v m := by
 refine heap_start (hP ▸ mixed) (hP ▸ fn_area_network_backbone) (hP ▸ c_area_network_backbone) (Nat.le_of_ble_eq_true rfl) fun Λ Λo K hK => ?_
 clear hP
 have hb := back_iff hv n
 have k1 : (0 < (inS t A n).length ∧ (inS t A n).getD 0 0 = 0) → K (bA true) (netN t A v m) := fun h => hK _ _ ⟨by rw [hb.1 h], rfl⟩
 have k0 : ¬ (0 < (inS t A n).length ∧ (inS t A n).getD 0 0 = 0) → K (bA false) (netN t A v m) := fun h => hK _ _ ⟨by rw [Bool.eq_false_iff.2 fun e => h (hb.2 e)], rfl⟩
 clear hK hb
 have hrow := rowsN_at (A := A) hn.1 hn.2
 have lrow : Λ ((rowsN t A).map encRowI) = t.nodes := by rw [Λo, List.length_map, rowsN_len]; omega
 have h0 : 0 < (inS t A n).length → ((inS t A n).map encI)[0]? = some [iD ((inS t A n).getD 0 0)] := fun h => by
  generalize inS t A n = l at *
  cases l with
  | nil => simp at h
  | cons a l => rfl
 have ll : Λ ((inS t A n).map encI) = (inS t A n).length := by rw [Λo, List.length_map]
 simp only [netN, boolsD, linksD, intsD] at *
 generalize (rowsN t A).map encRowI = rl at *
 generalize (bordN t A).map encI = bl at *
 generalize (ovN t A).map encB = ovl at *
 generalize m.map encZ = ml at *
 obtain ⟨il, hil⟩ : ∃ x, x = (inS t A n).map encI := ⟨_, rfl⟩
 rw [← hil] at hrow h0 ll
 clear hil
 generalize (inS t A n).getD 0 0 = x at *
 generalize (inS t A n).length = j at *
 obtain ⟨nodes, ov, links⟩ := t
 simp only [topA, boolsD, linksD] at *
 generalize hol : ov.map encB = ol at *
 generalize hll : links.map encLk = ll at *
 have hlo : Λ ol = ov.length := by rw [Λo, ← hol]; simp
 have hls : Λ ll = links.length := by rw [Λo, ← hll]; simp
 conv => cbv
 repeat' first | (intro (e : List D) he; cases Option.some.inj (he.symm.trans hrow); (conv => cbv)) | (intro (e : List D) he; cases Option.some.inj (he.symm.trans (h0 (by omega))); (conv => cbv)) | exact gu | exact trivial | refine And.intro ?_ ?_ | (intro hc; exact absurd hc (by decide)) | (intro hc; exfalso; omega) | (intro hc; (first | rw [wrap_small (by omega) (by omega)] at hc | rw [nI_eq] at hc | skip); try (conv => cbv))
 all_goals first | exact k1 (by omega) | exact k0 (by omega)
noncomputable def insPs (t : Top) (A : List Int) (down : List Bool) (n d : Int) (r : Pr) (k : Int) : Pr := if k ∈ inS t A d then addP t (maskS t A down k false) n d 0 r else r
noncomputable def insP (t : Top) (A : List Int) (down : List Bool) (n d : Int) : Pr := if n = d then ⟨0, []⟩ else (inS t A n).foldl (insPs t A down n d) ⟨-1, []⟩
theorem addP_len (t : Top) (m : List Bool) (n d more : Int) (r : Pr) (hl : (t.links.length : Int) ≤ 256) : (addP t m n d more r).arcs.length ≤ r.arcs.length + 512 := by
 have hnl : (nextL t m (distS t m d false) n d).length ≤ 512 := by
  refine Nat.le_trans (List.length_filter_le _ _) ?_
  simp [arcsTo]; omega
 unfold addP
 repeat' split
 all_goals first | omega | (simp only [List.length_append]; omega)
theorem insPs_len (t : Top) (A : List Int) (down : List Bool) (n d : Int) (r : Pr) (k : Int) (hl : (t.links.length : Int) ≤ 256) : (insPs t A down n d r k).arcs.length ≤ r.arcs.length + 512 := by
 unfold insPs; split
 ·exact addP_len _ _ _ _ _ _ hl
 ·omega
theorem inS_area {t : Top} {A : List Int} (hv : validK t A = true) {n k : Int} (h : k ∈ inS t A n) : k ∈ A := by
 obtain ⟨i, l, h1, _⟩ := isK_spec.1 ((mem_inS hv).1 h)
 exact List.mem_of_getElem? h1
def RtRaw (t : Top) (A : List Int) (v : Nat) (m : Isc) (p : Pr) (r : AV) (h' : Hp) : Prop :=
 (∃ ve rr c2 c3, r = .agg [.d (iD p.dist), .arr 4 ve 0 p.arcs.length] ∧ h' = netN t A v m ++ [Blk.bx c2, Blk.bx c3, Blk.da rr ve 1 (p.arcs.map encI)]) ∨ (p.arcs = [] ∧ r = .agg [.d (iD p.dist), .d (.list true 1 [])] ∧ ∃ h2, h' = netN t A v m ++ h2)
def RtOwn (t : Top) (A : List Int) (v : Nat) (m : Isc) (p : Pr) (r : AV) (h' : Hp) : Prop :=
 (∃ ve rr, r = .agg [.d (iD p.dist), .arr 2 ve 0 p.arcs.length] ∧ h' = netN t A v m ++ [.da rr ve 1 (p.arcs.map encI)]) ∨ (p.arcs = [] ∧ r = .agg [.d (iD p.dist), .d (.list true 1 [])] ∧ h' = netN t A v m)
theorem rt_own {P : Program} {f : Nat} {args : List AV} {t : Top} {A : List Int} {v : Nat} {m : Isc} {p : Pr} (hf : FnS P f args (netN t A v m) (RtRaw t A v m p)) : FnS P f args (netN t A v m) (RtOwn t A v m p) := by
 refine FnS.gc hf _ fun r h' hR => ?_
 rcases hR with ⟨ve, rr, c2, c3, rfl, rfl⟩ | ⟨h0, rfl, h2, rfl⟩
 ·exact ⟨[0, 1, 4], .agg [.d (iD p.dist), .arr 2 ve 0 p.arcs.length], netN t A v m ++ [.da rr ve 1 (p.arcs.map encI)], .inl ⟨ve, rr, rfl, rfl⟩, rfl, by decide, fun l hl => by simp at hl ⊢; omega,
   fun i k hk => by have := frOk_get (h := netN t A v m ++ [Blk.bx c2, Blk.bx c3, Blk.da rr ve 1 (p.arcs.map encI)]) (hc := netN t A v m ++ [Blk.da rr ve 1 (p.arcs.map encI)]) (n := 0) (ρ := rho [0, 1, 4] (netN t A v m ++ [Blk.bx c2, Blk.bx c3, Blk.da rr ve 1 (p.arcs.map encI)]).length) (by repeat' first | exact trivial | refine And.intro ?_ ?_ | rfl) i k hk; rw [Nat.zero_add] at this; exact this,
   rfl, rfl, rfl, by simp, fun i hi => by (match i, hi with | 0, _ => rfl | 1, _ => rfl), fun k hk => by simp at hk; rcases hk with rfl | rfl | rfl <;> intro _ _ _ h <;> cases h⟩
 ·exact ⟨[0, 1], .agg [.d (iD p.dist), .d (.list true 1 [])], netN t A v m, .inr ⟨h0, rfl, rfl⟩, rfl, by decide, fun l hl => by simp at hl ⊢; omega,
   fun i k hk => by have := frOk_get (h := netN t A v m ++ h2) (hc := netN t A v m) (n := 0) (ρ := rho [0, 1] (netN t A v m ++ h2).length) (by repeat' first | exact trivial | refine And.intro ?_ ?_ | rfl) i k hk; rw [Nat.zero_add] at this; exact this,
   rfl, rfl, rfl, by simp, fun i hi => by (match i, hi with | 0, _ => rfl | 1, _ => rfl), fun k hk => by simp at hk; rcases hk with rfl | rfl <;> intro _ _ _ h <;> cases h⟩
theorem rt_frz {P : Program} {f : Nat} {args : List AV} {t : Top} {A : List Int} {v : Nat} {m : Isc} {p : Pr} (hf : FnS P f args (netN t A v m) (RtOwn t A v m p)) :
  FnS P f args (netN t A v m) fun r h' => (∃ fl, r = .agg [.d (iD p.dist), .d (.list fl 1 (p.arcs.map encI))]) ∧ h' = netN t A v m := by
 have h1 : FnS P f args (netN t A v m) fun r h' => ∃ fl h2, r = .agg [.d (iD p.dist), .d (.list fl 1 (p.arcs.map encI))] ∧ h' = netN t A v m ++ h2 := by
  refine ⟨fun G ι w vs hr hv => (hf.out G ι w vs hr hv).mono fun e w2 ⟨u, r, G2, ι2, h', he, hR, hr2, hvr, hx⟩ => ?_⟩
  rcases hR with ⟨ve, rr, rfl, rfl⟩ | ⟨h0, rfl, rfl⟩
  ·obtain ⟨cs, rfl, k1, k2⟩ := inv_agg hvr
   have hs : cs.size = 2 := k1
   have hfz : frz (netN t A v m ++ [Blk.da rr ve 1 (p.arcs.map encI)]) (.arr 2 ve 0 p.arcs.length) = some (.list false 1 (p.arcs.map encI), (netN t A v m ++ [Blk.da rr ve 1 (p.arcs.map encI)]).set 2 Blk.dead) := by
    simp [frz]
    exact List.take_of_length_le (by simp)
   obtain ⟨G', q1, q2, q3⟩ := frz_sound hr2 (k2 1 _ _ (Array.getElem?_eq_getElem (by omega)) rfl) hfz
   refine ⟨.agg cs, .agg [.d (iD p.dist), .d (.list false 1 (p.arcs.map encI))], G', ι2, _, he, ⟨false, [.dead], rfl, rfl⟩, q1, .agg cs _ (by rw [hs]; rfl) (fun i y x hu hy => ?_), hx.trans q3⟩
   match i, hy with
   | 0, hy => cases hy; exact (k2 0 y _ hu rfl).ext q3 hr2
   | 1, hy =>
    cases hy
    rw [Array.getElem?_eq_getElem (by omega)] at hu
    cases hu
    exact .d _ _ q2
  ·exact ⟨u, _, G2, ι2, _, he, ⟨true, [], by rw [h0]; rfl, by simp⟩, hr2, hvr, hx⟩
 refine (FnS.cut h1 ?_).mono ?_
 ·rintro r h' ⟨fl, h2, rfl, rfl⟩
  exact ⟨rfl, rfl⟩
 ·rintro r h1 ⟨h2, ⟨fl, h3, rfl, e⟩, hl⟩
  exact ⟨⟨fl, rfl⟩, (List.append_inj e hl).1⟩
theorem inside_raw (P : Program) (hP : P = Try.prog) (t : Top) (A : List Int) (down : List Bool) (n d : Int) (v : Nat) (m : Isc) (q : AskK t A down n d) (hm : MasksOk t A down m) :
  FnS P n_area_network_inside [.c (.ptr 0 0 0 0), iA n, iA d] (netN t A v m) (RtRaw t A v m (insP t A down n d)) := by
 refine heap_start (hP ▸ mixed) (hP ▸ fn_area_network_inside) (hP ▸ c_area_network_inside) (Nat.le_of_ble_eq_true rfl) fun Λ Λo K hK => ?_
 obtain ⟨hv, hf, hn, hd⟩ := q
 obtain ⟨v1, v2, v3⟩ := validK_spec.1 hv
 have hl256 := (validT_spec.1 v1).2.2.1
 have hadd := fun k r ve rr hr => add_ok P hP t (maskS t A down k false) n d 0 r ve rr (fits_mask v1) hn hd (by omega) hr
 have hcon := fun k => contains_ok P hP (inS t A d) k
 clear hP
 have hk : ∀ dist arcs ve rr c2 c3, insP t A down n d = ⟨dist, arcs⟩ → K (.agg [.d (iD dist), .arr 4 ve 0 arcs.length]) (netN t A v m ++ [.bx c2, .bx c3, .da rr ve 1 (arcs.map encI)]) := fun dist arcs ve rr c2 c3 e => hK _ _ (.inl ⟨ve, rr, c2, c3, by rw [e], by rw [e]⟩)
 have hkn : ∀ dist h2, insP t A down n d = ⟨dist, []⟩ → K (.agg [.d (iD dist), .d (.list true 1 [])]) (netN t A v m ++ h2) := fun dist h2 e => hK _ _ (.inr ⟨by rw [e], by rw [e], h2, rfl⟩)
 clear hK
 rw [insP] at hk hkn
 have hrn := rowsN_at (A := A) hn.1 hn.2
 have hrd := rowsN_at (A := A) hd.1 hd.2
 have lrow : Λ ((rowsN t A).map encRowI) = t.nodes := by rw [Λo, List.length_map, rowsN_len]; omega
 have hmk : ∀ k ∈ inS t A n, ∃ i, ifind k m 0 = some (i, .s (boolsD (maskS t A down k false))) := fun k h => hm k (inS_area hv h)
 have hs1 : ∀ r k, k ∈ inS t A d → insPs t A down n d r k = addP t (maskS t A down k false) n d 0 r := fun r k h => by rw [insPs, if_pos h]
 have hs0 : ∀ r k, k ∉ inS t A d → insPs t A down n d r k = r := fun r k h => by rw [insPs, if_neg h]
 have hsl := fun r k => insPs_len t A down n d r k hl256
 have hl65 := inS_len t A n
 have hat := fun k a h => encI_get (A := inS t A n) (k := k) (a := a) h
 obtain ⟨mf, hmf⟩ : ∃ f : Int → List Bool, ∀ k, maskS t A down k false = f k := ⟨_, fun _ => rfl⟩
 simp only [hmf] at hadd hmk hs1
 clear hmf hm
 generalize insPs t A down n d = f at *
 generalize inS t A d = Sd at *
 generalize inS t A n = Sn at *
 obtain ⟨af, haf⟩ : ∃ g : Int → Pr → Pr, ∀ k r, addP t (mf k) n d 0 r = g k r := ⟨_, fun _ _ => rfl⟩
 simp only [haf] at hadd hs1
 clear haf
 simp only [netN, boolsA, boolsD, linksD, intsA, intsD] at *
 generalize hml : m.map encZ = ml at *
 generalize (rowsN t A).map encRowI = rl at *
 generalize (bordN t A).map encI = bl at *
 generalize (ovN t A).map encB = ovl at *
 obtain ⟨sn, hsn⟩ : ∃ x, x = Sn.map encI := ⟨_, rfl⟩
 have lsn : Λ sn = Sn.length := by rw [Λo, hsn, List.length_map]
 rw [← hsn] at hrn hat
 clear hsn
 generalize Sd.map encI = sd at *
 clear hv hf v2 v3
 obtain ⟨nodes, ov, links⟩ := t
 simp only [topA, boolsD, linksD] at *
 generalize hol : ov.map encB = ol at *
 generalize hll : links.map encLk = ll at *
 have hlo : Λ ol = ov.length := by rw [Λo, ← hol]; simp
 have hls : Λ ll = links.length := by rw [Λo, ← hll]; simp
 by_cases hnd : n = d
 ·rw [if_pos hnd] at hkn
  clear hadd hcon hmk hs1 hs0 hsl hat hrn hrd
  conv => cbv
  repeat' first | exact gu | exact trivial | refine And.intro ?_ ?_ | (intro hc; exact absurd hc (by decide)) | (intro hc; exfalso; omega) | (intro hc; (first | rw [wrap_small (by omega) (by omega)] at hc | rw [nI_eq] at hc | skip); try (conv => cbv))
  exact hkn 0 [_] rfl
 ·rw [if_neg hnd] at hk
  clear hkn
  conv => cbv
  repeat' first | (intro (e : List D) he; cases Option.some.inj (he.symm.trans hrn); (conv => cbv)) | exact gu | exact trivial | refine And.intro ?_ ?_ | (intro hc; exact absurd hc (by decide)) | (intro hc; exfalso; omega) | (intro hc; (first | rw [wrap_small (by omega) (by omega)] at hc | rw [nI_eq] at hc | skip); try (conv => cbv))
  refine loop_upx Sn.length (fun (s : Int × Nat × Bool × Pr) => [(0, .c (.ptr 0 0 0 0)), (1, iA n), (2, iA d), (6, .c (.ptr 2 0 0 0)), (7, .c (.ptr 3 0 0 0)), (21, .c (.d (.list false 1 sn))), (22, iA (Λ sn)), (23, iA s.1)])
   (fun s => [.bx [.d (iD nodes), .d (.list false 1 ol), .d (.list false 7 ll), .d (iD nodes), .d (.list false 1 ovl), .d (.list false 7 ll), .d (.list false 1 rl), .d (.list false 1 bl), .mp 1], .mp v ml, .bx [.d (iD 0), .d (.list true 1 [])], .bx [.d (iD s.2.2.2.dist), .arr 4 s.2.1 0 s.2.2.2.arcs.length], .da s.2.2.1 s.2.1 1 (s.2.2.2.arcs.map encI)])
   (fun k s => s.1 = k ∧ k ≤ Sn.length ∧ s.2.2.2 = (Sn.take k).foldl f ⟨-1, []⟩ ∧ s.2.2.2.arcs.length ≤ 512 * k) (0, 0, false, ⟨-1, []⟩) 0
   (fun (_ : Nat × Bool × Pr) => [(6, .c (.ptr 2 0 0 0)), (7, .c (.ptr 3 0 0 0))]) (fun s => [.bx [.d (iD nodes), .d (.list false 1 ol), .d (.list false 7 ll), .d (iD nodes), .d (.list false 1 ovl), .d (.list false 7 ll), .d (.list false 1 rl), .d (.list false 1 bl), .mp 1], .mp v ml, .bx [.d (iD 0), .d (.list true 1 [])], .bx [.d (iD s.2.2.dist), .arr 4 s.1 0 s.2.2.arcs.length], .da s.2.1 s.1 1 (s.2.2.arcs.map encI)])
   (fun s => s.2.2 = Sn.foldl f ⟨-1, []⟩) (.trans (.nilB 3 1 1 _ rfl rfl) (Wk.ca)) ⟨rfl, by omega, rfl, by simp⟩ (fun k s h => h.2.1) ?_ ?_
  ·rintro k ⟨i, ve, rr, r⟩ Q' ⟨hi, hk2, hr, hrl⟩ norm jn ex rt
   simp only at hi hr hrl
   obtain ⟨rd, ra⟩ := r
   simp only at hrl ⊢
   have jn2 := fun (e : k = Sn.length) L h hw => jn L h (ve, rr, ⟨rd, ra⟩) (by simp only; rw [hr, e, List.take_length]) hw
   clear jn
   have hadd := fun k => hadd k ⟨rd, ra⟩ ve rr (by simp only; omega)
   have hs1 := hs1 ⟨rd, ra⟩
   have hs0 := hs0 ⟨rd, ra⟩
   have hsl := hsl ⟨rd, ra⟩
   simp only [prH] at hadd jn2 hsl
   obtain ⟨es, hes⟩ : ∃ x, x = ra.map encI := ⟨_, rfl⟩
   obtain ⟨en, hen⟩ : ∃ x, x = ra.length := ⟨_, rfl⟩
   have les : en = es.length := by rw [hes, List.length_map, hen]
   rw [← hes, ← hen] at jn2
   rw [← hes, ← hen] at hadd
   rw [← hes, ← hen]
   by_cases hlt : k < Sn.length
   ·obtain ⟨a, ha⟩ : ∃ a, Sn[k]? = some a := ⟨_, List.getElem?_eq_getElem hlt⟩
    have hx : sn[i.toNat]? = some [iD a] := by rw [hi, Int.toNat_natCast]; exact hat k a ha
    obtain ⟨j, hj⟩ := hmk a (List.mem_of_getElem? ha)
    have hcon := hcon a
    have hadd := hadd a
    have hs1 := hs1 a
    have hs0 := hs0 a
    have hsl := hsl a
    have hfo : (Sn.take (k + 1)).foldl f ⟨-1, []⟩ = f ⟨rd, ra⟩ a := by rw [take_succ_get ha, List.foldl_append, ← hr]; rfl
    have nx : ∀ (L : Lv) (h : Hp) (i' : Int) (ve' : Nat) (rr' : Bool) (r2 : Pr), i' = i + 1 → f ⟨rd, ra⟩ a = r2 → Wk 2 L h [(0, .c (.ptr 0 0 0 0)), (1, iA n), (2, iA d), (6, .c (.ptr 2 0 0 0)), (7, .c (.ptr 3 0 0 0)), (21, .c (.d (.list false 1 sn))), (22, iA (Λ sn)), (23, iA i')] [.bx [.d (iD nodes), .d (.list false 1 ol), .d (.list false 7 ll), .d (iD nodes), .d (.list false 1 ovl), .d (.list false 7 ll), .d (.list false 1 rl), .d (.list false 1 bl), .mp 1], .mp v ml, .bx [.d (iD 0), .d (.list true 1 [])], .bx [.d (iD r2.dist), .arr 4 ve' 0 r2.arcs.length], .da rr' ve' 1 (r2.arcs.map encI)] → Q' .normal L h := fun L h i' ve' rr' r2 h1 h2 hw =>
     norm _ _ (i', ve', rr', r2) ⟨by simp only; omega, by omega, by rw [← h2]; exact hfo.symm, by rw [← h2]; simp only; omega⟩ hw
    clear norm hfo hr hat hk jn2 hsl
    generalize mf a = ma at *
    by_cases hin : a ∈ Sd
    ·rw [decide_eq_true hin] at hcon
     have nx := fun L h i' ve' rr' h1 => nx L h i' ve' rr' _ h1 (hs1 hin)
     clear hs1 hs0
     generalize af a ⟨rd, ra⟩ = r2 at *
     obtain ⟨rd2, ra2⟩ := r2
     simp only at nx
     generalize ra2.map encI = es2 at *
     generalize ra2.length = en2 at *
     generalize ma.map encB = mal at *
     conv => cbv
     repeat' first | (refine ex _ _ _ ?_; (conv => cbv)) | (refine rt _ _ ?_; (conv => cbv)) | (intro (e : List D) he; cases Option.some.inj (he.symm.trans hx); (conv => cbv)) | (intro (e : List D) he; cases Option.some.inj (he.symm.trans hrd); (conv => cbv)) | refine call_b hcon rfl rfl ?_ ?_ | (intro hc; cases hc; done) | (refine vlk_ints hml (fun h0 => by rw [hj] at h0; cases h0) (fun i v hv => ?_); rw [hj] at hv; cases hv; (conv => cbv)) | (refine call_fr [3, 4] hadd rfl rfl (by decide) (by repeat' first | exact trivial | refine And.intro ?_ ?_ | rfl) rfl rfl ?_; rintro r hc' ⟨rfl, ve', rr', rfl⟩; (conv => cbv)) | exact gu | exact trivial | refine And.intro ?_ ?_ | (intro hc; exact absurd hc (by decide)) | (intro hc; exfalso; omega) | (intro hc; (first | rw [wrap_small (by omega) (by omega)] at hc | rw [nI_eq] at hc | skip); try (conv => cbv))
     rename_i i'
     exact nx _ _ i' ve' rr' hc (Wk.ca)
    ·rw [decide_eq_false hin] at hcon
     have nx := fun L h i' ve' rr' h1 => nx L h i' ve' rr' _ h1 (hs0 hin)
     clear hs1 hs0 hadd hj
     simp only at nx
     rw [← hes, ← hen] at nx
     conv => cbv
     repeat' first | (refine ex _ _ _ ?_; (conv => cbv)) | (refine rt _ _ ?_; (conv => cbv)) | (intro (e : List D) he; cases Option.some.inj (he.symm.trans hx); (conv => cbv)) | (intro (e : List D) he; cases Option.some.inj (he.symm.trans hrd); (conv => cbv)) | refine call_b hcon rfl rfl ?_ ?_ | (intro hc; cases hc; done) | exact gu | exact trivial | refine And.intro ?_ ?_ | (intro hc; exact absurd hc (by decide)) | (intro hc; exfalso; omega) | (intro hc; (first | rw [wrap_small (by omega) (by omega)] at hc | rw [nI_eq] at hc | skip); try (conv => cbv))
     rename_i i'
     exact nx _ _ i' ve rr hc (Wk.ca)
   ·have jn3 := jn2 (by omega)
    clear jn2 norm hadd hs1 hs0 hsl hat hk hmk hcon
    conv => cbv
    repeat' first | exact gu | exact trivial | refine And.intro ?_ ?_ | (intro hc; exact absurd hc (by decide)) | (intro hc; exfalso; omega) | (intro hc; (first | rw [wrap_small (by omega) (by omega)] at hc | rw [nI_eq] at hc | skip); try (conv => cbv))
    exact jn3 _ _ (Wk.ca)
  ·rintro ⟨ve, rr, rd, ra⟩ he
   have hk := fun c2 c3 => hk rd ra ve rr c2 c3 he.symm
   clear hadd hs1 hs0 hsl hat hmk hcon he
   simp only
   generalize ra.map encI = es at *
   generalize ra.length = en at *
   conv => cbv
   repeat' first | exact gu | exact trivial | refine And.intro ?_ ?_ | (intro hc; exact absurd hc (by decide)) | (intro hc; exfalso; omega) | (intro hc; (first | rw [wrap_small (by omega) (by omega)] at hc | rw [nI_eq] at hc | skip); try (conv => cbv))
   exact hk _ _
theorem inside_own (P : Program) (hP : P = Try.prog) (t : Top) (A : List Int) (down : List Bool) (n d : Int) (v : Nat) (m : Isc) (q : AskK t A down n d) (hm : MasksOk t A down m) :
  FnS P n_area_network_inside [.c (.ptr 0 0 0 0), iA n, iA d] (netN t A v m) (RtOwn t A v m (insP t A down n d)) := rt_own (inside_raw P hP t A down n d v m q hm)
theorem inside_ok (P : Program) (hP : P = Try.prog) (t : Top) (A : List Int) (down : List Bool) (n d : Int) (v : Nat) (m : Isc) (q : AskK t A down n d) (hm : MasksOk t A down m) :
  FnS P n_area_network_inside [.c (.ptr 0 0 0 0), iA n, iA d] (netN t A v m) fun r h' => (∃ fl, r = .agg [.d (iD (insP t A down n d).dist), .d (.list fl 1 ((insP t A down n d).arcs.map encI))]) ∧ h' = netN t A v m := rt_frz (inside_own P hP t A down n d v m q hm)
end Go.Ab

