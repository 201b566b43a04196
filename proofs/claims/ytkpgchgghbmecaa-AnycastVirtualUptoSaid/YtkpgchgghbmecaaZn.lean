/-
  Merged texts, part n.
-/
import Derived.Test.YtkpgchgghbmecaaZm
/-
  Groups: the distances to the nearest member.
-/
namespace Go.Ab
open Go.Proofs
theorem cloneInts_new (P : Program) (hP : P = Try.prog) (ll : List (List D)) (hl : ll.length ≤ 1000000) (h0 : ll ≠ []) : FnS P n_slices_Clone_int_int [.c (.d (.list false 1 ll))] [] fun r h' => ∃ n, n = ll.length ∧ r = .c (.arr 0 1 0 n) ∧ h' = [.da true 1 1 ll] := by
 refine fn_heap (hP ▸ mixed) (hP ▸ fn_slices_Clone_int_int) (hP ▸ c_slices_Clone_int_int) (Nat.le_of_ble_eq_true rfl) fun Λ Λo => ?_
 clear hP
 generalize hK : (fun (r : AV) (h' : Hp) => ∃ n, n = ll.length ∧ r = .c (.arr 0 1 0 n) ∧ h' = [.da true 1 1 ll]) = K
 have k1 : ∀ n rl es, es = ll → rl = true → n = ll.length → K (.c (.arr 0 1 0 n)) [Blk.da rl 1 1 es] := by
  intro n rl es h1 h3 h2; rw [← hK]; subst h1 h3; exact ⟨n, h2, rfl, rfl⟩
 clear hK
 have lln := Λo ll
 conv => cbv
 repeat' first | (intro (_ : Unit); first | omega | rfl | exact ⟨rfl, by omega⟩ | (simp only [nI_eq]; omega) | ((repeat' first | rfl | omega | refine And.intro ?_ ?_ | (simp only [nI_eq]; omega) | (simp only [List.length_cons, List.length_nil]; omega) | exact Nat.le_of_ble_eq_true rfl); done)) | exact trivial | refine And.intro ?_ ?_ | (intro hc; exact absurd hc (by decide)) | (intro hc; exfalso; omega) | (intro hc; (first | rw [wrap_small (by omega) (by omega)] at hc | rw [nI_eq] at hc | skip); try (conv => cbv))
 ·refine k1 _ _ _ ?_ ?_ ?_
  ·rw [hc]; simp
  ·rename_i h1; rw [h1]; rfl
  ·rename_i h1 _; rw [h1]; simp
 ·exact absurd (by assumption) h0
def mrg (a d : Int) : Int := if a < 0 then d else if 0 ≤ d then min a d else a
noncomputable def rowsS (t : Top) (down : List Bool) (A : List Int) : List (List Int) := A.map fun m => distS t down m false
noncomputable def allS (t : Top) (down : List Bool) (A : List Int) : List Int := (List.range t.nodes.toNat).map fun (i : Nat) => ((rowsS t down A).map fun D => gt D i).foldl mrg (-1)
theorem allS_len (t : Top) (down : List Bool) (A : List Int) : (allS t down A).length = t.nodes.toNat := by simp [allS]
theorem allS_at {t : Top} {down : List Bool} {A : List Int} {i : Nat} (h : i < t.nodes.toNat) : (allS t down A)[i]? = some (((rowsS t down A).map fun D => gt D i).foldl mrg (-1)) := by
 rw [allS, List.getElem?_map, List.getElem?_range h]; rfl
theorem allS_succ {t : Top} {down : List Bool} {A : List Int} {k : Nat} {m : Int} (h : A[k]? = some m) {i : Nat} (hi : i < t.nodes.toNat) :
  (allS t down (A.take (k + 1)))[i]? = some (mrg (((rowsS t down (A.take k)).map fun D => gt D i).foldl mrg (-1)) (gt (distS t down m false) i)) := by
 rw [allS_at hi, take_succ_get h, rowsS, List.map_append, List.map_append, List.foldl_append]
 rfl
theorem mrg_self (d : Int) : mrg d d = d := by
 unfold mrg; split
 ·rfl
 ·split
  ·exact Int.min_self d
  ·rfl
set_option maxHeartbeats 4000000 in
theorem adists_ok (P : Program) (hP : P = Try.prog) (t : Top) (down : List Bool) (A : List Int) (hA : (A.length : Int) ≤ 2000000) : Ret P n_anycast_dists [topA t, boolsA down, intsA A]
  (if anyB t A = true ∧ fitsB t down = true then .tup [rowsA (rowsS t down A), intsA (allS t down A), iA 0] else .tup [rowsA [], intsA [], iA 1]) := by
 refine ret_start (hP ▸ mixed) (hP ▸ fn_anycast_dists) (hP ▸ c_anycast_dists) (Nat.le_of_ble_eq_true rfl) fun Λ Λo K hK => ?_
 have hval := avalid_ok P hP t A hA
 have hfits := fun (h : anyB t A = true) => gfits_ok P hP t down (validT_spec.1 (of_decide_eq_true h).1).2.2.1
 have hdist := fun m => sdist_ok P hP t down m
 have hclone := fun ll h h0 => cloneInts_new P hP ll h h0
 clear hP
 by_cases hf : anyB t A = true ∧ fitsB t down = true
 ·obtain ⟨hv, hl0, hok⟩ := of_decide_eq_true hf.1
  have hdd : ∀ m : Int, 0 ≤ m → m < t.nodes → Ret P n_spf_Dist [topA t, boolsA down, iA m] (.tup [intsA (distS t down m false), iA 0]) := fun m h0 h1 => by
   have := hdist m
   rw [searchS, if_pos hf.2, if_pos ⟨h0, h1⟩] at this
   exact this
  have hsp : ∀ m : Int, 0 ≤ m → m < t.nodes → ((distS t down m false).length : Int) = t.nodes := fun m h0 h1 => (distS_spec hv down false h0 h1).1.len
  have hsb : ∀ m : Int, 0 ≤ m → m < t.nodes → ∀ i, 0 ≤ i → i < t.nodes → -1 ≤ gt (distS t down m false) i := fun m h0 h1 i i0 i1 => ((distS_spec hv down false h0 h1).2 i i0 i1).1
  have hval : Ret P n_anycast_Valid [topA t, intsA A] (bA true) := hf.1 ▸ hval
  have hfits : Ret P n_graph_Fits [topA t, boolsA down] (bA true) := by
   have h2 := hfits hf.1
   have h3 := hf.2
   rw [decide_eq_true (by simpa [fitsB, hv] using h3)] at h2
   exact h2
  rw [if_pos hf] at hK
  clear hdist hf
  have v1 := validT_spec.1 hv
  obtain ⟨nn, hnn⟩ : ∃ x : Nat, (x : Int) = t.nodes := ⟨t.nodes.toNat, by omega⟩
  obtain ⟨nodes, hN⟩ : ∃ x, x = t.nodes := ⟨_, rfl⟩
  obtain ⟨ol, hol⟩ : ∃ x, x = t.ov.map encB := ⟨_, rfl⟩
  obtain ⟨ll, hll⟩ : ∃ x, x = t.links.map encLk := ⟨_, rfl⟩
  obtain ⟨dl, hdl⟩ : ∃ x, x = down.map encB := ⟨_, rfl⟩
  obtain ⟨al, hal⟩ : ∃ x, x = A.map encI := ⟨_, rfl⟩
  have lal : Λ al = A.length := by rw [Λo, hal]; simp
  have k1 : ∀ rs zs, rs = (rowsS t down A).map encRow → zs = (allS t down A).map encI → K (.tup [.c (.d (.list false 1 rs)), .c (.d (.list false 1 zs)), iA 0]) := fun rs zs h1 h2 => by
   rw [h1, h2]; exact hK
  clear hK
  simp only [topA, boolsA, boolsD, linksD, intsA, intsD, ← hN, ← hol, ← hll, ← hdl, ← hal] at hval hfits hdd ⊢
  clear hol hll hdl
  conv => cbv
  repeat' first | (refine call_r hval rfl rfl ?_; conv => cbv) | (refine call_r hfits rfl rfl ?_; conv => cbv) | (intro (_ : Unit); first | omega | rfl | exact ⟨rfl, by omega⟩ | (simp only [nI_eq]; omega) | ((repeat' first | rfl | omega | refine And.intro ?_ ?_ | (simp only [nI_eq]; omega) | (simp only [List.length_cons, List.length_nil]; omega) | exact Nat.le_of_ble_eq_true rfl); done)) | exact trivial | refine And.intro ?_ ?_ | (intro hc; exact absurd hc (by decide)) | (intro hc; exfalso; omega) | (intro hc; (first | rw [wrap_small (by omega) (by omega)] at hc | rw [nI_eq] at hc | skip); try (conv => cbv))
  refine loop_up A.length (fun (s : Int × Nat × Bool × Nat × List (List D) × Bool × List (List D) × Bool × List (List D)) => [(1, .c (.d (.list false 1 dl))), (3, .c (.ptr 0 0 0 0)), (6, .c (.arr 1 s.2.1 0 s.2.2.2.1)), (7, match s.2.2.2.2.2.1 with | true => .c (.arr 2 0 0 0) | false => .c (.arr 4 1 0 nn)), (25, .c (.d (.list false 1 al))), (26, iA (Λ al)), (27, iA s.1)])
   (fun s => .bx [.d (iD nodes), .d (.list false 1 ol), .d (.list false 7 ll)] :: .da s.2.2.1 s.2.1 1 s.2.2.2.2.1 :: .da false 0 1 [] :: match s.2.2.2.2.2.1 with | true => [] | false => [.da true 0 1 s.2.2.2.2.2.2.1, .da s.2.2.2.2.2.2.2.1 1 1 s.2.2.2.2.2.2.2.2])
   (fun k s => s.1 = k ∧ k ≤ A.length ∧ s.2.2.2.1 = s.2.2.2.2.1.length ∧ s.2.2.2.2.1 = ((rowsS t down A).take k).map encRow ∧ match s.2.2.2.2.2.1 with | true => k = 0 | false => 0 < k ∧ s.2.2.2.2.2.2.2.1 = true ∧ s.2.2.2.2.2.2.2.2 = (allS t down (A.take k)).map encI)
   (0, 0, false, 0, [], true, [], true, []) (.trans (.nilS 6 1 rfl) (.trans (.nilS 7 1 rfl) (Wk.cut ⟨[], rfl⟩ (Nat.le_of_ble_eq_true rfl) rfl (by repeat' first | exact trivial | refine And.intro ?_ ?_ | rfl)))) ⟨rfl, by omega, rfl, by simp, rfl⟩ (fun k s h => h.2.1) ?_
  rintro k ⟨i, ve, r, n6, es, first, tmp, rl, all⟩ Q' ⟨hi, hk, hn6, hes, hfst⟩ norm ex rt
  simp only at hi hn6 hes hfst
  by_cases hlt : k < A.length
  ·obtain ⟨m, hm⟩ : ∃ m, A[k]? = some m := ⟨_, List.getElem?_eq_getElem hlt⟩
   have hra : al[i.toNat]? = some [iD m] := by rw [hi, Int.toNat_natCast, hal, List.getElem?_map, hm]; rfl
   have hmo := hok k hlt
   rw [okAt, List.getD_eq_getElem?_getD, hm, Option.getD_some] at hmo
   have hdm := hdd m hmo.1 (by omega)
   have lenD := hsp m hmo.1 hmo.2.1
   have bndD := hsb m hmo.1 hmo.2.1
   have hrow : (rowsS t down A)[k]? = some (distS t down m false) := by rw [rowsS, List.getElem?_map, hm]; rfl
   have hnew := fun i h => allS_succ (t := t) (down := down) hm (i := i) h
   obtain ⟨E, hE⟩ : ∃ l, l = distS t down m false := ⟨_, rfl⟩
   rw [← hE] at hdm lenD bndD hrow hnew
   obtain ⟨dd, hdd2⟩ : ∃ l, l = E.map encI := ⟨_, rfl⟩
   rw [← hdd2] at hdm
   have ldd : Λ dd = nn := by rw [Λo, hdd2]; simp; omega
   have lde : dd.length = nn := by rw [hdd2]; simp; omega
   have lesl : es.length ≤ k := by rw [hes]; simp; omega
   have hcl := hclone dd (by omega) (by intro e; rw [e] at lde; simp at lde; omega)
   clear hclone hdd hsp hsb hval hfits k1
   cases first
   ·obtain ⟨hk0, hrl, hall⟩ := hfst
    subst hrl
    conv => cbv
    repeat' first | (refine ex _ _ _ ?_; (conv => cbv)) | (refine rt _ _ ?_; (conv => cbv)) | (intro (e : List D) he; cases Option.some.inj (he.symm.trans hra); (conv => cbv)) | (refine call_r hdm rfl rfl ?_; conv => cbv) | (intro (_ : Unit); refine ⟨rfl, ?_⟩; simp only [List.length_cons, List.length_nil]; omega) | (intro (_ : Unit); first | omega | rfl | exact ⟨rfl, by omega⟩ | (simp only [nI_eq]; omega) | ((repeat' first | rfl | omega | refine And.intro ?_ ?_ | (simp only [nI_eq]; omega) | (simp only [List.length_cons, List.length_nil]; omega) | exact Nat.le_of_ble_eq_true rfl); done)) | exact trivial | refine And.intro ?_ ?_ | (intro hc; exact absurd hc (by decide)) | (intro hc; exfalso; omega) | (intro hc; (first | rw [wrap_small (by omega) (by omega)] at hc | rw [nI_eq] at hc | skip); try (conv => cbv))
    rename_i m' r' es2 hm' hr' hes2
    obtain ⟨A0, h0, l0, hmg⟩ : ∃ A0 : List Int, all = A0.map encI ∧ A0.length = nn ∧ ∀ p : Nat, p < nn → (allS t down (A.take (k + 1)))[p]? = some (mrg (gt A0 p) (gt E p)) := by
     refine ⟨allS t down (A.take k), hall, by rw [allS_len]; omega, fun p hp => ?_⟩
     rw [hnew p (by omega)]
     congr 2
     have := allS_at (t := t) (down := down) (A := A.take k) (i := p) (by omega)
     rw [gt, List.getD_eq_getElem?_getD, Int.toNat_natCast, this]; rfl
    refine loop_up nn (fun (s : Int × List (List D)) => [(1, .c (.d (.list false 1 dl))), (3, .c (.ptr 0 0 0 0)), (6, .c (.arr 1 (ve + 1) 0 m')), (7, .c (.arr 4 1 0 nn)), (25, .c (.d (.list false 1 al))), (26, iA (Λ al)), (27, iA i), (46, .c (.d (.list false 1 dd))), (47, iA (Λ dd)), (48, iA s.1)])
     (fun s => [.bx [.d (iD nodes), .d (.list false 1 ol), .d (.list false 7 ll)], .da r' (ve + 1) 1 es2, .da false 0 1 [], .da true 0 1 tmp, .da true 1 1 s.2])
     (fun j s => s.1 = j ∧ j ≤ nn ∧ ∃ B : List Int, s.2 = B.map encI ∧ B.length = nn ∧ ∀ p : Nat, p < nn → gt B p = if p < j then mrg (gt A0 p) (gt E p) else gt A0 p) (0, all) (Wk.cut ⟨_, rfl⟩ (Nat.zero_le _) rfl (by repeat' first | exact trivial | refine And.intro ?_ ?_ | rfl)) ⟨rfl, Nat.zero_le _, A0, h0, l0, fun p hp => by simp⟩ (fun k s h => h.2.1) ?_
    rintro j ⟨jj, bl⟩ Q2 ⟨hj, hjn, B, hB, lB, hpt⟩ nrm ex rt
    simp only at hj hB
    by_cases hjlt : j < nn
    ·have hde : dd[jj.toNat]? = some [iD (gt E j)] := by rw [hj, Int.toNat_natCast, hdd2]; exact encI_at (by omega)
     have hbe : bl[j]? = some [iD (gt B j)] := by rw [hB]; exact encI_at (by omega)
     have hbj := hpt j hjlt
     rw [if_neg (Nat.lt_irrefl _)] at hbj
     have lbl : bl.length = nn := by rw [hB, List.length_map]; exact lB
     have stp : ∀ v x, v = mrg (gt B j) (gt E j) → x = bl.set j [iD v] → ∃ B' : List Int, x = B'.map encI ∧ B'.length = nn ∧ ∀ p : Nat, p < nn → gt B' p = if p < j + 1 then mrg (gt A0 p) (gt E p) else gt A0 p := fun v x h1 h2 => by
      refine ⟨B.set ((j : Int)).toNat v, ?_, by rw [List.length_set]; exact lB, fun p hp => ?_⟩
      ·rw [h2, hB, encI_set, Int.toNat_natCast]
      ·rw [gt_setD (by omega) (by omega) p (by omega)]
       by_cases e : p = j
       ·rw [if_pos (by omega), if_pos (by omega), h1, hbj, e]
       ·rw [if_neg (by omega), hpt p hp]
        by_cases e2 : p < j
        ·rw [if_pos e2, if_pos (by omega)]
        ·rw [if_neg e2, if_neg (by omega)]
     have skp : mrg (gt B j) (gt E j) = gt B j → ∃ B' : List Int, bl = B'.map encI ∧ B'.length = nn ∧ ∀ p : Nat, p < nn → gt B' p = if p < j + 1 then mrg (gt A0 p) (gt E p) else gt A0 p := fun h1 => by
      refine ⟨B, hB, lB, fun p hp => ?_⟩
      by_cases e : p = j
      ·rw [if_pos (by omega), e, ← hbj, h1]
      ·rw [hpt p hp]
       by_cases e2 : p < j
       ·rw [if_pos e2, if_pos (by omega)]
       ·rw [if_neg e2, if_neg (by omega)]
     obtain ⟨b, hb⟩ : ∃ b, b = gt B j := ⟨_, rfl⟩
     obtain ⟨e, he⟩ : ∃ e, e = gt E j := ⟨_, rfl⟩
     rw [← hb] at hbe stp skp
     rw [← he] at hde stp skp
     clear hpt norm
     conv => cbv
     repeat' first | (refine ex _ _ _ ?_; (conv => cbv)) | (refine rt _ _ ?_; (conv => cbv)) | (intro (k : Nat) hk; refine (fun (hz : j = k) => ?_) ?_; rotate_left; omega; subst hz; (conv => cbv)) | (intro (e : List D) he; cases Option.some.inj (he.symm.trans hde); (conv => cbv)) | (intro (e : List D) he; cases Option.some.inj (he.symm.trans hbe); (conv => cbv)) | (intro (_ : Unit); first | omega | rfl | exact ⟨rfl, by omega⟩ | (simp only [nI_eq]; omega) | ((repeat' first | rfl | omega | refine And.intro ?_ ?_ | (simp only [nI_eq]; omega) | (simp only [List.length_cons, List.length_nil]; omega) | exact Nat.le_of_ble_eq_true rfl); done)) | exact trivial | refine And.intro ?_ ?_ | (intro hc; exact absurd hc (by decide)) | (intro hc; exfalso; omega) | (intro hc; (first | rw [wrap_small (by omega) (by omega)] at hc | rw [nI_eq] at hc | skip); try (conv => cbv))
     ·rename_i x hx j'
      exact nrm _ _ (j', x) ⟨by simp only; omega, by omega, stp e x (by rw [mrg, if_pos (by assumption)]) hx⟩ (Wk.cut ⟨[], rfl⟩ (Nat.le_of_ble_eq_true rfl) rfl (by repeat' first | exact trivial | refine And.intro ?_ ?_ | rfl))
     ·rename_i v hvv x hx j'
      exact nrm _ _ (j', x) ⟨by simp only; omega, by omega, stp v x (by rw [mrg, if_neg (by assumption), if_pos (by assumption)]; omega) hx⟩ (Wk.cut ⟨[], rfl⟩ (Nat.le_of_ble_eq_true rfl) rfl (by repeat' first | exact trivial | refine And.intro ?_ ?_ | rfl))
     ·rename_i j'
      exact nrm _ _ (j', bl) ⟨by simp only; omega, by omega, skp (by rw [mrg, if_neg (by assumption), if_neg (by assumption)])⟩ (Wk.cut ⟨[], rfl⟩ (Nat.le_of_ble_eq_true rfl) rfl (by repeat' first | exact trivial | refine And.intro ?_ ?_ | rfl))
    ·have e : j = nn := by omega
     conv => cbv
     repeat' first | (refine ex _ _ _ ?_; (conv => cbv)) | (refine rt _ _ ?_; (conv => cbv)) | (intro (_ : Unit); first | omega | rfl | exact ⟨rfl, by omega⟩ | (simp only [nI_eq]; omega) | ((repeat' first | rfl | omega | refine And.intro ?_ ?_ | (simp only [nI_eq]; omega) | (simp only [List.length_cons, List.length_nil]; omega) | exact Nat.le_of_ble_eq_true rfl); done)) | exact trivial | refine And.intro ?_ ?_ | (intro hc; exact absurd hc (by decide)) | (intro hc; exfalso; omega) | (intro hc; (first | rw [wrap_small (by omega) (by omega)] at hc | rw [nI_eq] at hc | skip); try (conv => cbv))
     rename_i i'
     have e1 : es2 = ((rowsS t down A).take (k + 1)).map encRow := by
      rw [hes2, take_succ_get hrow, List.map_append, List.drop_zero, hn6, List.take_length, hes, hdd2]; rfl
     have e2 : bl = (allS t down (A.take (k + 1))).map encI := by
      rw [hB]
      congr 1
      refine List.ext_getElem? fun p => ?_
      rcases Nat.lt_or_ge p nn with hp | hp
      ·have h1 := hpt p hp
       rw [if_pos (by omega)] at h1
       rw [hmg p hp, ← h1, gt, List.getD_eq_getElem?_getD, Int.toNat_natCast, List.getElem?_eq_getElem (by omega)]; rfl
      ·rw [List.getElem?_eq_none (by omega), List.getElem?_eq_none (by rw [allS_len]; omega)]
     exact norm _ _ (i', ve + 1, r', m', es2, false, tmp, true, bl) ⟨by simp only; omega, by omega, by simp only; rw [hm', hes2, List.drop_zero, hn6, List.take_length]; simp, e1, by omega, rfl, e2⟩ (Wk.cut ⟨[], rfl⟩ (Nat.le_of_ble_eq_true rfl) rfl (by repeat' first | exact trivial | refine And.intro ?_ ?_ | rfl))
   ·conv => cbv
    repeat' first | (refine ex _ _ _ ?_; (conv => cbv)) | (refine rt _ _ ?_; (conv => cbv)) | (intro (e : List D) he; cases Option.some.inj (he.symm.trans hra); (conv => cbv)) | (refine call_r hdm rfl rfl ?_; conv => cbv) | (intro (_ : Unit); refine ⟨rfl, ?_⟩; simp only [List.length_cons, List.length_nil]; omega) | (refine call_fr [] hcl rfl rfl (by decide) trivial rfl rfl ?_; rintro r hc' ⟨n', hn', rfl, rfl⟩; obtain rfl : nn = n' := (hn'.trans lde).symm; (conv => cbv)) | (intro (_ : Unit); first | omega | rfl | exact ⟨rfl, by omega⟩ | (simp only [nI_eq]; omega) | ((repeat' first | rfl | omega | refine And.intro ?_ ?_ | (simp only [nI_eq]; omega) | (simp only [List.length_cons, List.length_nil]; omega) | exact Nat.le_of_ble_eq_true rfl); done)) | exact trivial | refine And.intro ?_ ?_ | (intro hc; exact absurd hc (by decide)) | (intro hc; exfalso; omega) | (intro hc; (first | rw [wrap_small (by omega) (by omega)] at hc | rw [nI_eq] at hc | skip); try (conv => cbv))
    rename_i m' r' es2 hm' hr' hes2
    obtain ⟨A0, h0, l0, hmg⟩ : ∃ A0 : List Int, dd = A0.map encI ∧ A0.length = nn ∧ ∀ p : Nat, p < nn → (allS t down (A.take (k + 1)))[p]? = some (mrg (gt A0 p) (gt E p)) := by
     refine ⟨E, hdd2, by omega, fun p hp => ?_⟩
     rw [hnew p (by omega), mrg_self]
     rw [hfst]; rfl
    refine loop_up nn (fun (s : Int × List (List D)) => [(1, .c (.d (.list false 1 dl))), (3, .c (.ptr 0 0 0 0)), (6, .c (.arr 1 (ve + 1) 0 m')), (7, .c (.arr 4 1 0 nn)), (25, .c (.d (.list false 1 al))), (26, iA (Λ al)), (27, iA i), (46, .c (.d (.list false 1 dd))), (47, iA (Λ dd)), (48, iA s.1)])
     (fun s => [.bx [.d (iD nodes), .d (.list false 1 ol), .d (.list false 7 ll)], .da r' (ve + 1) 1 es2, .da false 0 1 [], .da true 0 1 [[.list false 1 dd]], .da true 1 1 s.2])
     (fun j s => s.1 = j ∧ j ≤ nn ∧ ∃ B : List Int, s.2 = B.map encI ∧ B.length = nn ∧ ∀ p : Nat, p < nn → gt B p = if p < j then mrg (gt A0 p) (gt E p) else gt A0 p) (0, dd) (Wk.cut ⟨_, rfl⟩ (Nat.zero_le _) rfl (by repeat' first | exact trivial | refine And.intro ?_ ?_ | rfl)) ⟨rfl, Nat.zero_le _, A0, h0, l0, fun p hp => by simp⟩ (fun k s h => h.2.1) ?_
    rintro j ⟨jj, bl⟩ Q2 ⟨hj, hjn, B, hB, lB, hpt⟩ nrm ex rt
    simp only at hj hB
    by_cases hjlt : j < nn
    ·have hde : dd[jj.toNat]? = some [iD (gt E j)] := by rw [hj, Int.toNat_natCast, hdd2]; exact encI_at (by omega)
     have hbe : bl[j]? = some [iD (gt B j)] := by rw [hB]; exact encI_at (by omega)
     have hbj := hpt j hjlt
     rw [if_neg (Nat.lt_irrefl _)] at hbj
     have lbl : bl.length = nn := by rw [hB, List.length_map]; exact lB
     have stp : ∀ v x, v = mrg (gt B j) (gt E j) → x = bl.set j [iD v] → ∃ B' : List Int, x = B'.map encI ∧ B'.length = nn ∧ ∀ p : Nat, p < nn → gt B' p = if p < j + 1 then mrg (gt A0 p) (gt E p) else gt A0 p := fun v x h1 h2 => by
      refine ⟨B.set ((j : Int)).toNat v, ?_, by rw [List.length_set]; exact lB, fun p hp => ?_⟩
      ·rw [h2, hB, encI_set, Int.toNat_natCast]
      ·rw [gt_setD (by omega) (by omega) p (by omega)]
       by_cases e : p = j
       ·rw [if_pos (by omega), if_pos (by omega), h1, hbj, e]
       ·rw [if_neg (by omega), hpt p hp]
        by_cases e2 : p < j
        ·rw [if_pos e2, if_pos (by omega)]
        ·rw [if_neg e2, if_neg (by omega)]
     have skp : mrg (gt B j) (gt E j) = gt B j → ∃ B' : List Int, bl = B'.map encI ∧ B'.length = nn ∧ ∀ p : Nat, p < nn → gt B' p = if p < j + 1 then mrg (gt A0 p) (gt E p) else gt A0 p := fun h1 => by
      refine ⟨B, hB, lB, fun p hp => ?_⟩
      by_cases e : p = j
      ·rw [if_pos (by omega), e, ← hbj, h1]
      ·rw [hpt p hp]
       by_cases e2 : p < j
       ·rw [if_pos e2, if_pos (by omega)]
       ·rw [if_neg e2, if_neg (by omega)]
     obtain ⟨b, hb⟩ : ∃ b, b = gt B j := ⟨_, rfl⟩
     obtain ⟨e, he⟩ : ∃ e, e = gt E j := ⟨_, rfl⟩
     rw [← hb] at hbe stp skp
     rw [← he] at hde stp skp
     clear hpt norm
     conv => cbv
     repeat' first | (refine ex _ _ _ ?_; (conv => cbv)) | (refine rt _ _ ?_; (conv => cbv)) | (intro (k : Nat) hk; refine (fun (hz : j = k) => ?_) ?_; rotate_left; omega; subst hz; (conv => cbv)) | (intro (e : List D) he; cases Option.some.inj (he.symm.trans hde); (conv => cbv)) | (intro (e : List D) he; cases Option.some.inj (he.symm.trans hbe); (conv => cbv)) | (intro (_ : Unit); first | omega | rfl | exact ⟨rfl, by omega⟩ | (simp only [nI_eq]; omega) | ((repeat' first | rfl | omega | refine And.intro ?_ ?_ | (simp only [nI_eq]; omega) | (simp only [List.length_cons, List.length_nil]; omega) | exact Nat.le_of_ble_eq_true rfl); done)) | exact trivial | refine And.intro ?_ ?_ | (intro hc; exact absurd hc (by decide)) | (intro hc; exfalso; omega) | (intro hc; (first | rw [wrap_small (by omega) (by omega)] at hc | rw [nI_eq] at hc | skip); try (conv => cbv))
     ·rename_i x hx j'
      exact nrm _ _ (j', x) ⟨by simp only; omega, by omega, stp e x (by rw [mrg, if_pos (by assumption)]) hx⟩ (Wk.cut ⟨[], rfl⟩ (Nat.le_of_ble_eq_true rfl) rfl (by repeat' first | exact trivial | refine And.intro ?_ ?_ | rfl))
     ·rename_i v hvv x hx j'
      exact nrm _ _ (j', x) ⟨by simp only; omega, by omega, stp v x (by rw [mrg, if_neg (by assumption), if_pos (by assumption)]; omega) hx⟩ (Wk.cut ⟨[], rfl⟩ (Nat.le_of_ble_eq_true rfl) rfl (by repeat' first | exact trivial | refine And.intro ?_ ?_ | rfl))
     ·rename_i j'
      exact nrm _ _ (j', bl) ⟨by simp only; omega, by omega, skp (by rw [mrg, if_neg (by assumption), if_neg (by assumption)])⟩ (Wk.cut ⟨[], rfl⟩ (Nat.le_of_ble_eq_true rfl) rfl (by repeat' first | exact trivial | refine And.intro ?_ ?_ | rfl))
    ·have e : j = nn := by omega
     conv => cbv
     repeat' first | (refine ex _ _ _ ?_; (conv => cbv)) | (refine rt _ _ ?_; (conv => cbv)) | (intro (_ : Unit); first | omega | rfl | exact ⟨rfl, by omega⟩ | (simp only [nI_eq]; omega) | ((repeat' first | rfl | omega | refine And.intro ?_ ?_ | (simp only [nI_eq]; omega) | (simp only [List.length_cons, List.length_nil]; omega) | exact Nat.le_of_ble_eq_true rfl); done)) | exact trivial | refine And.intro ?_ ?_ | (intro hc; exact absurd hc (by decide)) | (intro hc; exfalso; omega) | (intro hc; (first | rw [wrap_small (by omega) (by omega)] at hc | rw [nI_eq] at hc | skip); try (conv => cbv))
     rename_i i'
     have e1 : es2 = ((rowsS t down A).take (k + 1)).map encRow := by
      rw [hes2, take_succ_get hrow, List.map_append, List.drop_zero, hn6, List.take_length, hes, hdd2]; rfl
     have e2 : bl = (allS t down (A.take (k + 1))).map encI := by
      rw [hB]
      congr 1
      refine List.ext_getElem? fun p => ?_
      rcases Nat.lt_or_ge p nn with hp | hp
      ·have h1 := hpt p hp
       rw [if_pos (by omega)] at h1
       rw [hmg p hp, ← h1, gt, List.getD_eq_getElem?_getD, Int.toNat_natCast, List.getElem?_eq_getElem (by omega)]; rfl
      ·rw [List.getElem?_eq_none (by omega), List.getElem?_eq_none (by rw [allS_len]; omega)]
     exact norm _ _ (i', ve + 1, r', m', es2, false, [[.list false 1 dd]], true, bl) ⟨by simp only; omega, by omega, by simp only; rw [hm', hes2, List.drop_zero, hn6, List.take_length]; simp, e1, by omega, rfl, e2⟩ (Wk.cut ⟨[], rfl⟩ (Nat.le_of_ble_eq_true rfl) rfl (by repeat' first | exact trivial | refine And.intro ?_ ?_ | rfl))
  ·cases first
   ·obtain ⟨hk0, hrl, hall⟩ := hfst
    subst hrl
    conv => cbv
    repeat' first | (refine ex _ _ _ ?_; (conv => cbv)) | (refine rt _ _ ?_; (conv => cbv)) | (intro (_ : Unit); first | omega | rfl | exact ⟨rfl, by omega⟩ | (simp only [nI_eq]; omega) | ((repeat' first | rfl | omega | refine And.intro ?_ ?_ | (simp only [nI_eq]; omega) | (simp only [List.length_cons, List.length_nil]; omega) | exact Nat.le_of_ble_eq_true rfl); done)) | exact trivial | refine And.intro ?_ ?_ | (intro hc; exact absurd hc (by decide)) | (intro hc; exfalso; omega) | (intro hc; (first | rw [wrap_small (by omega) (by omega)] at hc | rw [nI_eq] at hc | skip); try (conv => cbv))
    rename_i ls1 h1 ls2
    refine k1 _ _ ?_ ?_
    ·rw [h1, List.drop_zero, hn6, List.take_length, hes, List.take_of_length_le (by rw [rowsS, List.length_map]; omega)]
    ·rw [hc, List.drop_zero, List.take_of_length_le (by rw [hall, List.length_map, allS_len]; omega), hall, List.take_of_length_le (by omega)]
   ·simp only at hfst
    exact absurd hl0 (by omega)
 ·rw [if_neg hf] at hK
  clear hclone hdist
  by_cases h1 : anyB t A = true
  ·have hv := (of_decide_eq_true h1).1
   have h2 := hfits h1
   rw [decide_eq_false (fun h => hf ⟨h1, by simpa [fitsB, hv] using h⟩)] at h2
   rw [h1] at hval
   clear hfits hf h1 hv
   simp only [intsA, intsD, boolsA, boolsD, rowsA, List.map_nil] at *
   generalize down.map encB = dl at *
   generalize A.map encI = al at *
   obtain ⟨nodes, ov, links⟩ := t
   simp only [topA, boolsD, linksD] at *
   generalize hol : ov.map encB = ol at *
   generalize hll : links.map encLk = ll at *
   have hlo : Λ ol = ov.length := by rw [Λo, ← hol]; simp
   have hls : Λ ll = links.length := by rw [Λo, ← hll]; simp
   conv => cbv
   repeat' first | (refine call_r hval rfl rfl ?_; conv => cbv) | (refine call_r h2 rfl rfl ?_; conv => cbv) | (intro (_ : Unit); first | omega | rfl | exact ⟨rfl, by omega⟩ | (simp only [nI_eq]; omega) | ((repeat' first | rfl | omega | refine And.intro ?_ ?_ | (simp only [nI_eq]; omega) | (simp only [List.length_cons, List.length_nil]; omega) | exact Nat.le_of_ble_eq_true rfl); done)) | exact trivial | refine And.intro ?_ ?_ | (intro hc; exact absurd hc (by decide)) | (intro hc; exfalso; omega) | (intro hc; (first | rw [wrap_small (by omega) (by omega)] at hc | rw [nI_eq] at hc | skip); try (conv => cbv))
   exact hK
  ·rw [Bool.eq_false_iff.2 h1] at hval
   clear hfits hf h1
   simp only [intsA, intsD, boolsA, boolsD, rowsA, List.map_nil] at *
   generalize down.map encB = dl at *
   generalize A.map encI = al at *
   obtain ⟨nodes, ov, links⟩ := t
   simp only [topA, boolsD, linksD] at *
   generalize hol : ov.map encB = ol at *
   generalize hll : links.map encLk = ll at *
   have hlo : Λ ol = ov.length := by rw [Λo, ← hol]; simp
   have hls : Λ ll = links.length := by rw [Λo, ← hll]; simp
   conv => cbv
   repeat' first | (refine call_r hval rfl rfl ?_; conv => cbv) | (intro (_ : Unit); first | omega | rfl | exact ⟨rfl, by omega⟩ | (simp only [nI_eq]; omega) | ((repeat' first | rfl | omega | refine And.intro ?_ ?_ | (simp only [nI_eq]; omega) | (simp only [List.length_cons, List.length_nil]; omega) | exact Nat.le_of_ble_eq_true rfl); done)) | exact trivial | refine And.intro ?_ ?_ | (intro hc; exact absurd hc (by decide)) | (intro hc; exfalso; omega) | (intro hc; (first | rw [wrap_small (by omega) (by omega)] at hc | rw [nI_eq] at hc | skip); try (conv => cbv))
   exact hK
end Go.Ab

/-
  Groups: Dist, as the program and as the reference find it.
-/
namespace Go.Ab
open Go.Proofs
noncomputable def adistS (t : Top) (down : List Bool) (A : List Int) : List Int × Int := if anyB t A = true ∧ fitsB t down = true then (allS t down A, 0) else ([], 1)
theorem adist_ok (P : Program) (hP : P = Try.prog) (t : Top) (down : List Bool) (A : List Int) (hA : (A.length : Int) ≤ 2000000) : Ret P n_anycast_Dist [topA t, boolsA down, intsA A] (.tup [intsA (adistS t down A).1, iA (adistS t down A).2]) := by
 refine ret_start (hP ▸ mixed) (hP ▸ fn_anycast_Dist) (hP ▸ c_anycast_Dist) (Nat.le_of_ble_eq_true rfl) fun Λ Λo K hK => ?_
 have hd := adists_ok P hP t down A hA
 clear hP
 rw [adistS] at hK
 split at hK
 ·rename_i h
  rw [if_pos h] at hd
  clear h
  simp only [intsA, intsD, boolsA, boolsD, rowsA] at *
  generalize (rowsS t down A).map encRow = rs at *
  generalize (allS t down A).map encI = zs at *
  generalize down.map encB = dl at *
  generalize A.map encI = al at *
  obtain ⟨nodes, ov, links⟩ := t
  simp only [topA, boolsD, linksD] at *
  generalize hol : ov.map encB = ol at *
  generalize hll : links.map encLk = ll at *
  have hlo : Λ ol = ov.length := by rw [Λo, ← hol]; simp
  have hls : Λ ll = links.length := by rw [Λo, ← hll]; simp
  conv => cbv
  repeat' first | (refine call_r hd rfl rfl ?_; conv => cbv) | (intro (_ : Unit); first | omega | rfl | exact ⟨rfl, by omega⟩ | (simp only [nI_eq]; omega) | ((repeat' first | rfl | omega | refine And.intro ?_ ?_ | (simp only [nI_eq]; omega) | (simp only [List.length_cons, List.length_nil]; omega) | exact Nat.le_of_ble_eq_true rfl); done)) | exact trivial | refine And.intro ?_ ?_ | (intro hc; exact absurd hc (by decide)) | (intro hc; exfalso; omega) | (intro hc; (first | rw [wrap_small (by omega) (by omega)] at hc | rw [nI_eq] at hc | skip); try (conv => cbv))
  exact hK
 ·rename_i h
  rw [if_neg h] at hd
  clear h
  simp only [intsA, intsD, boolsA, boolsD, rowsA, List.map_nil] at *
  generalize down.map encB = dl at *
  generalize A.map encI = al at *
  obtain ⟨nodes, ov, links⟩ := t
  simp only [topA, boolsD, linksD] at *
  generalize hol : ov.map encB = ol at *
  generalize hll : links.map encLk = ll at *
  have hlo : Λ ol = ov.length := by rw [Λo, ← hol]; simp
  have hls : Λ ll = links.length := by rw [Λo, ← hll]; simp
  conv => cbv
  repeat' first | (refine call_r hd rfl rfl ?_; conv => cbv) | (intro (_ : Unit); first | omega | rfl | exact ⟨rfl, by omega⟩ | (simp only [nI_eq]; omega) | ((repeat' first | rfl | omega | refine And.intro ?_ ?_ | (simp only [nI_eq]; omega) | (simp only [List.length_cons, List.length_nil]; omega) | exact Nat.le_of_ble_eq_true rfl); done)) | exact trivial | refine And.intro ?_ ?_ | (intro hc; exact absurd hc (by decide)) | (intro hc; exfalso; omega) | (intro hc; (first | rw [wrap_small (by omega) (by omega)] at hc | rw [nI_eq] at hc | skip); try (conv => cbv))
  exact hK
theorem mrg_lo {a d : Int} (ha : -1 ≤ a) (hd : -1 ≤ d) : -1 ≤ mrg a d := by
 unfold mrg; repeat' split
 all_goals omega
theorem fold_lo : ∀ (l : List Int) (a : Int), -1 ≤ a → (∀ x ∈ l, -1 ≤ x) → -1 ≤ l.foldl mrg a
 | [], a, h, _ => h
 | x :: l, a, h, hl => fold_lo l _ (mrg_lo h (hl x (by simp))) fun y hy => hl y (by simp [hy])
end Go.Ab

/-
  Groups: the nearest members.
-/
namespace Go.Ab
open Go.Proofs
noncomputable def nearS (t : Top) (down : List Bool) (A : List Int) (n : Int) : List Int × Int × Int :=
 if anyB t A = true ∧ fitsB t down = true then (if 0 ≤ n ∧ n < t.nodes then (if gt (allS t down A) n < 0 then ([], 0, 11) else (A.filter fun m => decide (gt (distS t down m false) n = gt (allS t down A) n), gt (allS t down A) n, 0)) else ([], 0, 2)) else ([], 0, 1)
theorem any_mem {t : Top} {A : List Int} (h : anyB t A = true) : ∀ m ∈ A, 0 ≤ m ∧ m < t.nodes := fun m hm => by
 obtain ⟨k, hk, e⟩ := List.mem_iff_getElem.1 hm
 have := (of_decide_eq_true h).2.2 k hk
 rw [okAt, List.getD_eq_getElem?_getD, List.getElem?_eq_getElem hk, Option.getD_some, e] at this
 exact ⟨this.1, this.2.1⟩
set_option maxHeartbeats 4000000 in
theorem anear_ok (P : Program) (hP : P = Try.prog) (t : Top) (down : List Bool) (A : List Int) (n : Int) (hA : (A.length : Int) ≤ 2000000) :
  Ret P n_anycast_Nearest [topA t, boolsA down, intsA A, iA n] (.tup [intsA (nearS t down A n).1, iA (nearS t down A n).2.1, iA (nearS t down A n).2.2]) := by
 refine ret_start (hP ▸ mixed) (hP ▸ fn_anycast_Nearest) (hP ▸ c_anycast_Nearest) (Nat.le_of_ble_eq_true rfl) fun Λ Λo K hK => ?_
 have hd := adists_ok P hP t down A hA
 have hnode := gnode_ok P hP t n
 clear hP
 rw [nearS] at hK
 by_cases hf : anyB t A = true ∧ fitsB t down = true
 ·rw [if_pos hf] at hK hd
  have hv := (of_decide_eq_true hf.1).1
  have v1 := validT_spec.1 hv
  by_cases hn : 0 ≤ n ∧ n < t.nodes
  ·rw [if_pos hn] at hK
   rw [decide_eq_true hn] at hnode
   have hmem := any_mem hf.1
   have hsp : ∀ m : Int, 0 ≤ m → m < t.nodes → ((distS t down m false).length : Int) = t.nodes := fun m h0 h1 => (distS_spec hv down false h0 h1).1.len
   have hza : ((allS t down A).map encI)[n.toNat]? = some [iD (gt (allS t down A) n)] := by
    rw [encI_at (by rw [allS_len]; omega), Int.toNat_of_nonneg hn.1]
   have hrw : ∀ (k : Nat) (m : Int), A[k]? = some m → ((rowsS t down A).map encRow)[k]? = some [.list false 1 ((distS t down m false).map encI)] := fun k m h => by
    rw [rowsS, List.getElem?_map, List.getElem?_map, h]; rfl
   obtain ⟨an, han⟩ : ∃ a, a = gt (allS t down A) n := ⟨_, rfl⟩
   rw [← han] at hK hza
   have k1 : an < 0 → K (.tup [intsA [], iA 0, iA 11]) := fun h => by rw [if_pos h] at hK; exact hK
   have k2 : ¬ an < 0 → ∀ ls, ls = (A.filter fun m => decide (gt (distS t down m false) n = an)).map encI → K (.tup [.c (.d (.list false 1 ls)), iA an, iA 0]) := fun h ls hl => by rw [if_neg h] at hK; rw [hl]; exact hK
   clear hK hf
   obtain ⟨nodes, hN⟩ : ∃ x, x = t.nodes := ⟨_, rfl⟩
   obtain ⟨ol, hol⟩ : ∃ x, x = t.ov.map encB := ⟨_, rfl⟩
   obtain ⟨ll, hll⟩ : ∃ x, x = t.links.map encLk := ⟨_, rfl⟩
   obtain ⟨dl, hdl⟩ : ∃ x, x = down.map encB := ⟨_, rfl⟩
   obtain ⟨al, hal⟩ : ∃ x, x = A.map encI := ⟨_, rfl⟩
   obtain ⟨zl, hzl⟩ : ∃ x, x = (allS t down A).map encI := ⟨_, rfl⟩
   obtain ⟨rl, hrl⟩ : ∃ x, x = (rowsS t down A).map encRow := ⟨_, rfl⟩
   have lal : Λ al = A.length := by rw [Λo, hal]; simp
   have lzl : Λ zl = t.nodes := by rw [Λo, hzl]; simp [allS_len]; omega
   have lrl : Λ rl = A.length := by rw [Λo, hrl]; simp [rowsS]
   simp only [topA, boolsA, boolsD, linksD, intsA, intsD, rowsA, ← hN, ← hol, ← hll, ← hdl, ← hal, ← hzl, ← hrl] at hd hnode hza hrw k1 ⊢
   clear hol hll hdl
   conv => cbv
   repeat' first | (refine call_r hd rfl rfl ?_; conv => cbv) | (refine call_r hnode rfl rfl ?_; conv => cbv) | (intro (e : List D) he; cases Option.some.inj (he.symm.trans hza); (conv => cbv)) | (intro (_ : Unit); first | omega | rfl | exact ⟨rfl, by omega⟩ | (simp only [nI_eq]; omega) | ((repeat' first | rfl | omega | refine And.intro ?_ ?_ | (simp only [nI_eq]; omega) | (simp only [List.length_cons, List.length_nil]; omega) | exact Nat.le_of_ble_eq_true rfl); done)) | exact trivial | refine And.intro ?_ ?_ | (intro hc; exact absurd hc (by decide)) | (intro hc; exfalso; omega) | (intro hc; (first | rw [wrap_small (by omega) (by omega)] at hc | rw [nI_eq] at hc | skip); try (conv => cbv))
   ·exact k1 (by assumption)
   have k2 := k2 (by assumption)
   clear k1 hd hnode
   refine loop_up A.length (fun (s : Int × Nat × Nat × Bool × List (List D)) => [(3, iA n), (11, .c (.d (.list false 1 rl))), (12, .c (.d (.list false 1 zl))), (14, .c (.arr 1 s.2.1 0 s.2.2.1)), (37, .c (.d (.list false 1 al))), (38, iA (Λ al)), (39, iA s.1)]) (fun s => [.bx [.d (iD nodes), .d (.list false 1 ol), .d (.list false 7 ll)], .da s.2.2.2.1 s.2.1 1 s.2.2.2.2])
    (fun k s => s.1 = k ∧ k ≤ A.length ∧ s.2.2.1 = s.2.2.2.2.length ∧ s.2.2.2.2 = ((A.take k).filter fun m => decide (gt (distS t down m false) n = an)).map encI) (0, 0, 0, false, []) (.trans (.nilS 14 1 rfl) (Wk.cut ⟨_, rfl⟩ (Nat.zero_le _) rfl (by repeat' first | exact trivial | refine And.intro ?_ ?_ | rfl))) ⟨rfl, by omega, rfl, rfl⟩ (fun k s h => h.2.1) ?_
   rintro k ⟨i, ve, m0, r, es⟩ Q' ⟨hi, hk, hm0, hes⟩ norm ex rt
   simp only at hi hm0 hes
   have hesl : es.length ≤ k := by
    rw [hes, List.length_map]
    refine Nat.le_trans (List.length_filter_le _ _) ?_
    simp; omega
   by_cases hlt : k < A.length
   ·obtain ⟨m, hm⟩ : ∃ m, A[k]? = some m := ⟨_, List.getElem?_eq_getElem hlt⟩
    have hra : al[i.toNat]? = some [iD m] := by rw [hi, Int.toNat_natCast, hal, List.getElem?_map, hm]; rfl
    have hro : rl[i.toNat]? = some [.list false 1 ((distS t down m false).map encI)] := by rw [hi, Int.toNat_natCast]; exact hrw k m hm
    have hmo := hmem m (List.mem_of_getElem? hm)
    have lenD := hsp m hmo.1 hmo.2
    have hdn : ((distS t down m false).map encI)[n.toNat]? = some [iD (gt (distS t down m false) n)] := by rw [encI_at (by omega), Int.toNat_of_nonneg hn.1]
    have tk : (A.take (k + 1)).filter (fun m => decide (gt (distS t down m false) n = an)) = (A.take k).filter (fun m => decide (gt (distS t down m false) n = an)) ++ if gt (distS t down m false) n = an then [m] else [] := by
     rw [take_succ_get hm, List.filter_append, List.filter_cons]; simp only [decide_eq_true_eq]; rfl
    have ldd : Λ ((distS t down m false).map encI) = t.nodes := by rw [Λo, List.length_map]; exact lenD
    generalize gt (distS t down m false) n = dn at *
    generalize (distS t down m false).map encI = dd at *
    clear hrw hsp k2
    conv => cbv
    repeat' first | (refine ex _ _ _ ?_; (conv => cbv)) | (refine rt _ _ ?_; (conv => cbv)) | (intro (e : List D) he; cases Option.some.inj (he.symm.trans hra); (conv => cbv)) | (intro (e : List D) he; cases Option.some.inj (he.symm.trans hro); (conv => cbv)) | (intro (e : List D) he; cases Option.some.inj (he.symm.trans hdn); (conv => cbv)) | (intro (e : List D) he; cases Option.some.inj (he.symm.trans hza); (conv => cbv)) | (intro (_ : Unit); refine ⟨rfl, ?_⟩; simp only [List.length_cons, List.length_nil]; omega) | (intro (_ : Unit); first | omega | rfl | exact ⟨rfl, by omega⟩ | (simp only [nI_eq]; omega) | ((repeat' first | rfl | omega | refine And.intro ?_ ?_ | (simp only [nI_eq]; omega) | (simp only [List.length_cons, List.length_nil]; omega) | exact Nat.le_of_ble_eq_true rfl); done)) | exact trivial | refine And.intro ?_ ?_ | (intro hc; exact absurd hc (by decide)) | (intro hc; exfalso; omega) | (intro hc; (first | rw [wrap_small (by omega) (by omega)] at hc | rw [nI_eq] at hc | skip); try (conv => cbv))
    ·rename_i hq m' r' es2 hm' hr' he' i'
     refine norm _ _ (_, _, _, _, _) ?_ (Wk.cut ⟨_, rfl⟩ (Nat.zero_le _) rfl (by repeat' first | exact trivial | refine And.intro ?_ ?_ | rfl))
     have e : es2 = ((A.take (k + 1)).filter fun m => decide (gt (distS t down m false) n = an)).map encI := by
      rw [tk, if_pos hq, he', List.drop_zero, hm0, List.take_length, hes, List.map_append]; rfl
     exact ⟨by simp only; omega, by omega, by simp only; rw [hm', he', List.drop_zero, hm0, List.take_length]; simp, e⟩
    ·rename_i hq i'
     refine norm _ _ (_, _, _, _, _) ?_ (Wk.cut ⟨_, rfl⟩ (Nat.zero_le _) rfl (by repeat' first | exact trivial | refine And.intro ?_ ?_ | rfl))
     have e : es = ((A.take (k + 1)).filter fun m => decide (gt (distS t down m false) n = an)).map encI := by
      rw [tk, if_neg hq, hes, List.append_nil]
     exact ⟨by simp only; omega, by omega, hm0, e⟩
   ·conv => cbv
    repeat' first | (refine ex _ _ _ ?_; (conv => cbv)) | (refine rt _ _ ?_; (conv => cbv)) | (intro (e : List D) he; cases Option.some.inj (he.symm.trans hza); (conv => cbv)) | (intro (_ : Unit); first | omega | rfl | exact ⟨rfl, by omega⟩ | (simp only [nI_eq]; omega) | ((repeat' first | rfl | omega | refine And.intro ?_ ?_ | (simp only [nI_eq]; omega) | (simp only [List.length_cons, List.length_nil]; omega) | exact Nat.le_of_ble_eq_true rfl); done)) | exact trivial | refine And.intro ?_ ?_ | (intro hc; exact absurd hc (by decide)) | (intro hc; exfalso; omega) | (intro hc; (first | rw [wrap_small (by omega) (by omega)] at hc | rw [nI_eq] at hc | skip); try (conv => cbv))
    rename_i ls
    exact k2 _ (by rw [hc, List.drop_zero, hm0, List.take_length, hes, List.take_of_length_le (by omega)])
  ·rw [if_neg hn] at hK
   rw [decide_eq_false hn] at hnode
   clear hf
   simp only [intsA, intsD, boolsA, boolsD, rowsA, List.map_nil] at *
   generalize (rowsS t down A).map encRow = rs at *
   generalize (allS t down A).map encI = zs at *
   generalize down.map encB = dl at *
   generalize A.map encI = al at *
   clear hn hv v1
   obtain ⟨nodes, ov, links⟩ := t
   simp only [topA, boolsD, linksD] at *
   generalize hol : ov.map encB = ol at *
   generalize hll : links.map encLk = ll at *
   have hlo : Λ ol = ov.length := by rw [Λo, ← hol]; simp
   have hls : Λ ll = links.length := by rw [Λo, ← hll]; simp
   conv => cbv
   repeat' first | (refine call_r hd rfl rfl ?_; conv => cbv) | (refine call_r hnode rfl rfl ?_; conv => cbv) | (intro (_ : Unit); first | omega | rfl | exact ⟨rfl, by omega⟩ | (simp only [nI_eq]; omega) | ((repeat' first | rfl | omega | refine And.intro ?_ ?_ | (simp only [nI_eq]; omega) | (simp only [List.length_cons, List.length_nil]; omega) | exact Nat.le_of_ble_eq_true rfl); done)) | exact trivial | refine And.intro ?_ ?_ | (intro hc; exact absurd hc (by decide)) | (intro hc; exfalso; omega) | (intro hc; (first | rw [wrap_small (by omega) (by omega)] at hc | rw [nI_eq] at hc | skip); try (conv => cbv))
   exact hK
 ·rw [if_neg hf] at hK hd
  clear hf hnode
  simp only [intsA, intsD, boolsA, boolsD, rowsA, List.map_nil] at *
  generalize down.map encB = dl at *
  generalize A.map encI = al at *
  obtain ⟨nodes, ov, links⟩ := t
  simp only [topA, boolsD, linksD] at *
  generalize hol : ov.map encB = ol at *
  generalize hll : links.map encLk = ll at *
  have hlo : Λ ol = ov.length := by rw [Λo, ← hol]; simp
  have hls : Λ ll = links.length := by rw [Λo, ← hll]; simp
  conv => cbv
  repeat' first | (refine call_r hd rfl rfl ?_; conv => cbv) | (intro (_ : Unit); first | omega | rfl | exact ⟨rfl, by omega⟩ | (simp only [nI_eq]; omega) | ((repeat' first | rfl | omega | refine And.intro ?_ ?_ | (simp only [nI_eq]; omega) | (simp only [List.length_cons, List.length_nil]; omega) | exact Nat.le_of_ble_eq_true rfl); done)) | exact trivial | refine And.intro ?_ ?_ | (intro hc; exact absurd hc (by decide)) | (intro hc; exfalso; omega) | (intro hc; (first | rw [wrap_small (by omega) (by omega)] at hc | rw [nI_eq] at hc | skip); try (conv => cbv))
  exact hK
end Go.Ab

/-
  Groups: the reference's parts of Next.
-/
namespace Go.Ab
open Go.Proofs
def mergeR : List Int → List Int → List Int
 | [], b => b
 | x :: a, [] => x :: a
 | x :: a, y :: b => if x < y then x :: mergeR a (y :: b) else if y < x then y :: mergeR (x :: a) b else x :: mergeR a b
termination_by a b => a.length + b.length
end Go.Ab

/-
  Groups: Next as the reference finds it.
-/
namespace Go.Ab
open Go.Proofs
noncomputable def unionS (t : Top) (down : List Bool) (M : List Int) (n : Int) : List Int := (M.map fun m => nextL t down (distS t down m false) n m).foldl mergeR []
noncomputable def anextS (t : Top) (down : List Bool) (A : List Int) (n : Int) : List Int × Int :=
 if (nearS t down A n).2.2 = 0 then (unionS t down (nearS t down A n).1 n, 0) else ([], (nearS t down A n).2.2)
theorem nearS_zero {t : Top} {down : List Bool} {A : List Int} {n : Int} (h : (nearS t down A n).2.2 = 0) : anyB t A = true ∧ fitsB t down = true ∧ (0 ≤ n ∧ n < t.nodes) ∧ ¬ gt (allS t down A) n < 0 ∧ (nearS t down A n).1 = A.filter (fun m => decide (gt (distS t down m false) n = gt (allS t down A) n)) := by
 unfold nearS at h ⊢
 split at h
 ·rename_i hf
  split at h
  ·rename_i hn
   split at h
   ·simp at h
   ·rename_i hg
    rw [if_pos hf, if_pos hn, if_neg hg]
    exact ⟨hf.1, hf.2, hn, hg, rfl⟩
  ·simp at h
 ·simp at h
theorem nextL_len (t : Top) (down : List Bool) (E : List Int) (n d : Int) : (nextL t down E n d).length ≤ 2 * t.links.length := by
 refine Nat.le_trans (List.length_filter_le _ _) ?_
 simp [arcsTo]
end Go.Ab

/-
  Increasing lists: merging, sorting and compacting give the same.
-/
namespace Go.Ab
open Go.Proofs
theorem sinc_ext : ∀ {a b : List Int}, a.Pairwise (· < ·) → b.Pairwise (· < ·) → (∀ x, x ∈ a ↔ x ∈ b) → a = b
 | [], [], _, _, _ => rfl
 | [], y :: b, _, _, h => absurd ((h y).2 (by simp)) (by simp)
 | x :: a, [], _, _, h => absurd ((h x).1 (by simp)) (by simp)
 | x :: a, y :: b, ha, hb, h => by
  have ha := List.pairwise_cons.1 ha
  have hb := List.pairwise_cons.1 hb
  have e : x = y := by
   rcases List.mem_cons.1 ((h x).1 (by simp)) with e | e
   ·exact e
   ·rcases List.mem_cons.1 ((h y).2 (by simp)) with e2 | e2
    ·exact e2.symm
    ·have := hb.1 x e; have := ha.1 y e2; omega
  subst e
  rw [sinc_ext ha.2 hb.2 fun z => ⟨fun hz => ?_, fun hz => ?_⟩]
  ·rcases List.mem_cons.1 ((h z).1 (List.mem_cons_of_mem _ hz)) with e | e
   ·have := ha.1 z hz; omega
   ·exact e
  ·rcases List.mem_cons.1 ((h z).2 (List.mem_cons_of_mem _ hz)) with e | e
   ·have := hb.1 z hz; omega
   ·exact e
theorem mem_mergeR (a b : List Int) (z : Int) : z ∈ mergeR a b ↔ z ∈ a ∨ z ∈ b := by
 fun_induction mergeR a b with
 | case1 b => simp
 | case2 x a => simp
 | case3 x a y b h ih => simp only [List.mem_cons, ih, or_assoc]
 | case4 x a y b h1 h2 ih => simp only [List.mem_cons, ih]; exact or_left_comm
 | case5 x a y b h1 h2 ih =>
  have e : x = y := by omega
  subst e
  simp only [List.mem_cons, ih]
  constructor
  ·rintro (h | h | h)
   ·exact .inl (.inl h)
   ·exact .inl (.inr h)
   ·exact .inr (.inr h)
  ·rintro ((h | h) | h | h)
   ·exact .inl h
   ·exact .inr (.inl h)
   ·exact .inl h
   ·exact .inr (.inr h)
theorem sinc_mergeR (a b : List Int) (ha : a.Pairwise (· < ·)) (hb : b.Pairwise (· < ·)) : (mergeR a b).Pairwise (· < ·) := by
 fun_induction mergeR a b with
 | case1 b => exact hb
 | case2 x a => exact ha
 | case3 x a y b h ih =>
  have h1 := List.pairwise_cons.1 ha
  have h2 := List.pairwise_cons.1 hb
  refine List.pairwise_cons.2 ⟨fun z hz => ?_, ih h1.2 hb⟩
  rcases (mem_mergeR _ _ z).1 hz with e | e
  ·exact h1.1 z e
  ·rcases List.mem_cons.1 e with e | e
   ·omega
   ·have := h2.1 z e; omega
 | case4 x a y b h h' ih =>
  have h1 := List.pairwise_cons.1 ha
  have h2 := List.pairwise_cons.1 hb
  refine List.pairwise_cons.2 ⟨fun z hz => ?_, ih ha h2.2⟩
  rcases (mem_mergeR _ _ z).1 hz with e | e
  ·rcases List.mem_cons.1 e with e | e
   ·omega
   ·have := h1.1 z e; omega
  ·exact h2.1 z e
 | case5 x a y b h h' ih =>
  have h1 := List.pairwise_cons.1 ha
  have h2 := List.pairwise_cons.1 hb
  refine List.pairwise_cons.2 ⟨fun z hz => ?_, ih h1.2 h2.2⟩
  rcases (mem_mergeR _ _ z).1 hz with e | e
  ·exact h1.1 z e
  ·have := h2.1 z e; omega
theorem sinc_arcs (k : Nat) : (arcsTo k).Pairwise (· < ·) := by
 rw [arcsTo, List.pairwise_map]
 exact List.pairwise_lt_range.imp fun h => by omega
theorem sinc_next (t : Top) (down : List Bool) (E : List Int) (n d : Int) : (nextL t down E n d).Pairwise (· < ·) := (sinc_arcs _).filter _
theorem fold_mergeR : ∀ (L : List (List Int)) (a : List Int), a.Pairwise (· < ·) → (∀ l ∈ L, l.Pairwise (· < ·)) → (L.foldl mergeR a).Pairwise (· < ·) ∧ ∀ z, z ∈ L.foldl mergeR a ↔ z ∈ a ∨ ∃ l ∈ L, z ∈ l
 | [], a, ha, _ => ⟨ha, fun z => by simp⟩
 | l :: L, a, ha, h => by
  obtain ⟨h1, h2⟩ := fold_mergeR L (mergeR a l) (sinc_mergeR a l ha (h l (by simp))) fun x hx => h x (by simp [hx])
  refine ⟨h1, fun z => ?_⟩
  rw [List.foldl_cons, h2, mem_mergeR]
  simp only [List.mem_cons, exists_eq_or_imp, or_assoc]
def compL : List Int → List Int
 | [] => []
 | [x] => [x]
 | x :: y :: l => if x = y then compL (y :: l) else x :: compL (y :: l)
theorem mem_compL : ∀ (l : List Int) (z : Int), z ∈ compL l ↔ z ∈ l
 | [], z => by simp [compL]
 | [x], z => by simp [compL]
 | x :: y :: l, z => by
  rw [compL]
  have ih := mem_compL (y :: l) z
  split
  ·rename_i e
   rw [ih, e]; simp
  ·rw [List.mem_cons, ih, List.mem_cons (a := z) (b := x)]
theorem sinc_compL : ∀ (l : List Int), l.Pairwise (· ≤ ·) → (compL l).Pairwise (· < ·)
 | [], _ => by simp [compL]
 | [x], _ => by simp [compL]
 | x :: y :: l, h => by
  have h1 := List.pairwise_cons.1 h
  have h2 := List.pairwise_cons.1 h1.2
  rw [compL]
  split
  ·exact sinc_compL _ h1.2
  ·rename_i hne
   refine List.pairwise_cons.2 ⟨fun z hz => ?_, sinc_compL _ h1.2⟩
   have hxy := h1.1 y (by simp)
   rcases List.mem_cons.1 ((mem_compL _ z).1 hz) with e | e
   ·omega
   ·have := h2.1 z e; omega
theorem comp_merge {L : List (List Int)} {s : List Int} (hL : ∀ l ∈ L, l.Pairwise (· < ·)) (hs : s.Pairwise (· ≤ ·)) (hm : ∀ z, z ∈ s ↔ ∃ l ∈ L, z ∈ l) : compL s = L.foldl mergeR [] := by
 obtain ⟨h1, h2⟩ := fold_mergeR L [] .nil hL
 refine sinc_ext (sinc_compL s hs) h1 fun z => ?_
 rw [mem_compL, h2, hm]; simp
end Go.Ab

/-
  Groups: the distances to the nearest member, plainly: steps towards it.
-/
namespace Go.Ab
open Go.Proofs
theorem fold_mrg : ∀ (l : List Int) (a : Int), -1 ≤ a → (∀ x ∈ l, -1 ≤ x) → (l.foldl mrg a = a ∨ l.foldl mrg a ∈ l) ∧ (0 ≤ a → 0 ≤ l.foldl mrg a ∧ l.foldl mrg a ≤ a) ∧ ∀ x ∈ l, 0 ≤ x → 0 ≤ l.foldl mrg a ∧ l.foldl mrg a ≤ x
  | [], a, _, _ => ⟨.inl rfl, fun h => ⟨h, Int.le_refl _⟩, fun x hx => by cases hx⟩
  | y :: l, a, ha, hl => by
    have hy := hl y (by simp)
    have hm := mrg_lo ha hy
    obtain ⟨h1, h2, h3⟩ := fold_mrg l (mrg a y) hm fun x hx => hl x (by simp [hx])
    rw [List.foldl_cons]
    have c : mrg a y = a ∨ mrg a y = y := by unfold mrg; repeat' split
                                             all_goals omega
    have c1 : 0 ≤ a → 0 ≤ mrg a y ∧ mrg a y ≤ a := by unfold mrg; repeat' split
                                                      all_goals omega
    have c2 : 0 ≤ y → 0 ≤ mrg a y ∧ mrg a y ≤ y := by unfold mrg; repeat' split
                                                      all_goals omega
    refine ⟨?_, fun h => ?_, fun x hx h => ?_⟩
    · rcases h1 with h1 | h1
      · rcases c with c | c
        · exact .inl (h1.trans c)
        · exact .inr (by rw [h1, c]; simp)
      · exact .inr (by simp [h1])
    · have := h2 (c1 h).1; have := c1 h; omega
    · rcases List.mem_cons.1 hx with rfl | hx
      · have := h2 (c2 h).1; have := c2 h; omega
      · exact h3 x hx h
theorem allS_gt2 {t : Top} {down : List Bool} {A : List Int} {i : Nat} (h : i < t.nodes.toNat) : gt (allS t down A) i = ((rowsS t down A).map fun D => gt D i).foldl mrg (-1) := by
 rw [gt, List.getD_eq_getElem?_getD, Int.toNat_natCast, allS_at h]; rfl
section
variable {t : Top} {down : List Bool} {A : List Int}
theorem all_facts (hv : validT t = true) (hA : ∀ m ∈ A, 0 ≤ m ∧ m < t.nodes) {n : Int} (h0 : 0 ≤ n) (h1 : n < t.nodes) :
  (∀ m ∈ A, 0 ≤ gt (distS t down m false) n → 0 ≤ gt (allS t down A) n ∧ gt (allS t down A) n ≤ gt (distS t down m false) n) ∧ (0 ≤ gt (allS t down A) n → ∃ m ∈ A, gt (distS t down m false) n = gt (allS t down A) n) ∧
   -1 ≤ gt (allS t down A) n ∧ gt (allS t down A) n ≤ 4194240 := by
 obtain ⟨i, rfl⟩ : ∃ i : Nat, n = i := ⟨n.toNat, by omega⟩
 have hb : ∀ m ∈ A, -1 ≤ gt (distS t down m false) i ∧ gt (distS t down m false) i ≤ 4194240 := fun m hm => (distS_spec hv down false (hA m hm).1 (hA m hm).2).2 i (by omega) (by omega)
 rw [allS_gt2 (by omega)]
 have e : (rowsS t down A).map (fun D => gt D i) = A.map fun m => gt (distS t down m false) i := by rw [rowsS, List.map_map]; rfl
 rw [e]
 have hlo : ∀ x ∈ A.map (fun m => gt (distS t down m false) i), -1 ≤ x := fun x hx => by
  obtain ⟨m, hm, rfl⟩ := List.mem_map.1 hx
  exact (hb m hm).1
 obtain ⟨f1, f2, f3⟩ := fold_mrg _ (-1) (by omega) hlo
 refine ⟨fun m hm h => f3 _ (List.mem_map.2 ⟨m, hm, rfl⟩) h, fun h => ?_, fold_lo _ _ (by omega) hlo, ?_⟩
 ·rcases f1 with f1 | f1
  ·omega
  ·obtain ⟨m, hm, e⟩ := List.mem_map.1 f1
   exact ⟨m, hm, e⟩
 ·rcases f1 with f1 | f1
  ·omega
  ·obtain ⟨m, hm, e⟩ := List.mem_map.1 f1
   have := (hb m hm).2; omega
theorem mem_union {M : List Int} {n a : Int} : a ∈ unionS t down M n ↔ ∃ m ∈ M, a ∈ nextL t down (distS t down m false) n m := by
 rw [unionS, (fold_mergeR _ [] .nil fun l hl => by obtain ⟨m, _, rfl⟩ := List.mem_map.1 hl; exact sinc_next ..).2 a]
 constructor
 ·rintro (h | ⟨l, hl, h⟩)
  ·cases h
  ·obtain ⟨m, hm, rfl⟩ := List.mem_map.1 hl
   exact ⟨m, hm, h⟩
 ·rintro ⟨m, hm, h⟩
  exact .inr ⟨_, List.mem_map.2 ⟨m, hm, rfl⟩, h⟩
theorem sinc_union (M : List Int) (n : Int) : (unionS t down M n).Pairwise (· < ·) :=
 (fold_mergeR _ [] .nil fun l hl => by obtain ⟨m, _, rfl⟩ := List.mem_map.1 hl; exact sinc_next ..).1
end
theorem fitsB_spec {t : Top} {down : List Bool} : fitsB t down = true ↔ validT t = true ∧ (down.length = 0 ∨ down.length = 2 * t.links.length) := by
 simp [fitsB]
end Go.Ab

/-
  Groups: a further node that is linked to the members, plainly.
-/
namespace Go.Ab
open Go.Proofs
def vLnk (n m : Int) : Lk := ⟨m, n, 1, 65535, 0, 1, 0⟩
def noOv (t : Top) : Top := ⟨t.nodes, [], t.links⟩
def vTop (t : Top) (A : List Int) : Top := ⟨t.nodes + 1, [], t.links ++ A.map (vLnk t.nodes)⟩
def twoB (k : Nat) : List Bool := (List.replicate k [false, true]).flatten
def baseB (t : Top) (down : List Bool) : List Bool := down ++ List.replicate (2 * t.links.length - down.length) false
def vDown (t : Top) (down : List Bool) (A : List Int) : List Bool := baseB t down ++ twoB A.length
theorem twoB_len (k : Nat) : (twoB k).length = 2 * k := by
 induction k with
 | zero => rfl
 | succ k ih => rw [twoB, List.replicate_succ, List.flatten_cons, ← twoB, List.length_append, ih]; simp; omega
theorem twoB_succ (k : Nat) : twoB (k + 1) = twoB k ++ [false, true] := by
 rw [twoB, List.replicate_succ', List.flatten_append, ← twoB]; rfl
theorem twoB_at : ∀ (k j : Nat), j < k → (twoB k)[2 * j]? = some false ∧ (twoB k)[2 * j + 1]? = some true
 | 0, j, h => by omega
 | k + 1, j, h => by
  rw [twoB, List.replicate_succ, List.flatten_cons, ← twoB]
  cases j with
  | zero => exact ⟨rfl, rfl⟩
  | succ j =>
   obtain ⟨h1, h2⟩ := twoB_at k j (by omega)
   rw [show 2 * (j + 1) = 2 * j + 1 + 1 by omega, show 2 * j + 1 + 1 + 1 = (2 * j + 1) + 1 + 1 by omega]
   exact ⟨h1, h2⟩
theorem valid_noOv {t : Top} (h : validT t = true) : validT (noOv t) = true := by
 obtain ⟨h1, _, h3, h4⟩ := validT_spec.1 h
 exact validT_spec.2 ⟨h1, .inl rfl, h3, h4⟩
theorem ov_none {n : Int} {l : List Lk} {x : Int} : ovT ⟨n, [], l⟩ x = false := by
 simp only [ovT, List.length_nil]
 rw [decide_eq_false (by omega)]; simp
theorem tr_none {n : Int} {l : List Lk} {x e : Int} : transitB ⟨n, [], l⟩ x e = true := by
 rw [transitB, ov_none]; simp
section
variable {t : Top} {down : List Bool} {A : List Int}
theorem valid_vTop (h : validT t = true) (hA : ∀ m ∈ A, 0 ≤ m ∧ m < t.nodes) (hn : t.nodes ≤ 12) (hl : t.links.length ≤ 20) (ha : A.length ≤ 20) : validT (vTop t A) = true := by
 obtain ⟨h1, _, h3, h4⟩ := validT_spec.1 h
 refine validT_spec.2 ⟨by simp only [vTop]; omega, .inl rfl, by simp only [vTop, List.length_append, List.length_map]; omega, fun l hl => ?_⟩
 simp only [vTop, List.mem_append] at hl ⊢
 rcases hl with hl | hl
 ·have := okLk_spec.1 (h4 l hl)
  exact okLk_spec.2 (by omega)
 ·obtain ⟨m, hm, rfl⟩ := List.mem_map.1 hl
  have := hA m hm
  exact okLk_spec.2 (by simp only [vLnk]; omega)
theorem base_len (hd : down.length = 0 ∨ down.length = 2 * t.links.length) : (baseB t down).length = 2 * t.links.length := by
 rw [baseB, List.length_append, List.length_replicate]; omega
theorem vDown_len (hd : down.length = 0 ∨ down.length = 2 * t.links.length) : (vDown t down A).length = 2 * t.links.length + 2 * A.length := by
 rw [vDown, List.length_append, base_len hd, twoB_len]
theorem v_old (hv : validT t = true) (hV : validT (vTop t A) = true) (hd : down.length = 0 ∨ down.length = 2 * t.links.length) (hA0 : 0 < A.length) {a : Int} (h0 : 0 ≤ a) (h1 : a < 2 * t.links.length) :
  tailT (vTop t A) a = tailT (noOv t) a ∧ headT (vTop t A) a = headT (noOv t) a ∧ costT (vTop t A) a = costT (noOv t) a ∧ upB (vDown t down A) a = upB down a := by
 have hl : lkAt (vTop t A) a = lkAt (noOv t) a := by
  rw [lkAt, lkAt]
  simp only [vTop, noOv]
  rw [List.getElem?_append_left (by omega)]
 have e1 : arcsT (vTop t A) = 2 * ((t.links.length : Int) + A.length) := by
  rw [arcsT, if_pos hV]; simp only [vTop, List.length_append, List.length_map]; omega
 have e2 : arcsT (noOv t) = 2 * (t.links.length : Int) := by rw [arcsT, if_pos (valid_noOv hv)]; rfl
 have e3 : 0 ≤ a ∧ a < arcsT (vTop t A) := by omega
 have e4 : 0 ≤ a ∧ a < arcsT (noOv t) := by omega
 refine ⟨?_, ?_, ?_, ?_⟩
 ·simp only [tailT, hl, if_pos e3, if_pos e4]
 ·simp only [headT, hl, if_pos e3, if_pos e4]
 ·simp only [costT, hl, if_pos e3, if_pos e4]
 ·rw [upB, upB, decide_eq_false (by rw [vDown_len hd]; omega), Bool.false_or]
  rw [vDown, List.getD_eq_getElem?_getD, List.getElem?_append_left (by rw [base_len hd]; omega), baseB]
  rcases hd with hd | hd
  ·rw [decide_eq_true hd, Bool.true_or, List.getElem?_append_right (by omega), List.getElem?_replicate, if_pos (by omega)]; rfl
  ·rw [List.getElem?_append_left (by omega), decide_eq_false (by omega), Bool.false_or, ← List.getD_eq_getElem?_getD]
theorem v_new (hv : validT t = true) (hV : validT (vTop t A) = true) (hd : down.length = 0 ∨ down.length = 2 * t.links.length) {j : Nat} {m : Int} (hj : A[j]? = some m) :
  tailT (vTop t A) (2 * (t.links.length + j : Nat) : Int) = m ∧ headT (vTop t A) (2 * (t.links.length + j : Nat) : Int) = t.nodes ∧ costT (vTop t A) (2 * (t.links.length + j : Nat) : Int) = 1 ∧ upB (vDown t down A) (2 * (t.links.length + j : Nat) : Int) = true ∧
   upB (vDown t down A) (2 * (t.links.length + j : Nat) + 1 : Int) = false ∧ j < A.length := by
 have hjl : j < A.length := by
  rcases Nat.lt_or_ge j A.length with h | h
  ·exact h
  ·rw [List.getElem?_eq_none h] at hj; cases hj
 have hl : lkAt (vTop t A) (2 * (t.links.length + j : Nat) : Int) = vLnk t.nodes m := by
  rw [lkAt, show ((2 * (t.links.length + j : Nat) : Int) / 2).toNat = t.links.length + j by omega]
  simp only [vTop]
  rw [List.getElem?_append_right (by omega), Nat.add_sub_cancel_left, List.getElem?_map, hj]; rfl
 have e1 : arcsT (vTop t A) = 2 * ((t.links.length : Int) + A.length) := by
  rw [arcsT, if_pos hV]; simp only [vTop, List.length_append, List.length_map]; omega
 obtain ⟨b1, b2⟩ := twoB_at A.length j hjl
 refine ⟨?_, ?_, ?_, ?_, ?_, hjl⟩
 ·rw [tailT, if_pos (by omega), if_pos (by omega), hl]; rfl
 ·rw [headT, if_pos (by omega), if_pos (by omega), hl]; rfl
 ·rw [costT, if_pos (by omega), if_pos (by omega), hl]; rfl
 ·rw [upB, decide_eq_false (by rw [vDown_len hd]; omega), Bool.false_or, vDown, List.getD_eq_getElem?_getD, List.getElem?_append_right (by rw [base_len hd]; omega), base_len hd,
   show (2 * (t.links.length + j : Nat) : Int).toNat - 2 * t.links.length = 2 * j by omega, b1]; rfl
 ·rw [upB, decide_eq_false (by rw [vDown_len hd]; omega), Bool.false_or, vDown, List.getD_eq_getElem?_getD, List.getElem?_append_right (by rw [base_len hd]; omega), base_len hd,
   show (2 * (t.links.length + j : Nat) + 1 : Int).toNat - 2 * t.links.length = 2 * j + 1 by omega, b2]; rfl
noncomputable def vDist (t : Top) (down : List Bool) (A : List Int) : List Int :=
 ((List.range t.nodes.toNat).map fun (i : Nat) => if 0 ≤ gt (allS (noOv t) down A) i then gt (allS (noOv t) down A) i + 1 else -1) ++ [0]
theorem vDist_at {i : Int} (h0 : 0 ≤ i) (h1 : i < t.nodes) : gt (vDist t down A) i = if 0 ≤ gt (allS (noOv t) down A) i then gt (allS (noOv t) down A) i + 1 else -1 := by
 rw [gt, vDist, List.getD_eq_getElem?_getD, List.getElem?_append_left (by simp; omega), List.getElem?_map, List.getElem?_range (by omega)]
 simp only [Option.map_some, Option.getD_some, Int.toNat_of_nonneg h0]
theorem vDist_end (h : 0 ≤ t.nodes) : gt (vDist t down A) t.nodes = 0 := by
 rw [gt, vDist, List.getD_eq_getElem?_getD, List.getElem?_append_right (by simp)]
 simp
theorem virt_is (hv : validT t = true) (hV : validT (vTop t A) = true) (hA : ∀ m ∈ A, 0 ≤ m ∧ m < t.nodes) (hA0 : 0 < A.length) (hd : down.length = 0 ∨ down.length = 2 * t.links.length) : IsDist (vTop t A) (vDown t down A) t.nodes false (vDist t down A) := by
 have hT := valid_noOv hv
 have hn := (validT_spec.1 hv).1
 have hat := fun (i : Int) (h0 : 0 ≤ i) (h1 : i < t.nodes) => vDist_at (t := t) (down := down) (A := A) h0 h1
 have hen := vDist_end (t := t) (down := down) (A := A) (by omega)
 have hall := fun (i : Int) (h0 : 0 ≤ i) (h1 : i < t.nodes) => all_facts (t := noOv t) (down := down) (A := A) hT hA h0 h1
 have hds := fun m hm => (distS_spec (t := noOv t) hT down false (hA m hm).1 (hA m hm).2).1
 have hold := fun (a : Int) (h0 : 0 ≤ a) (h1 : a < 2 * t.links.length) => v_old (down := down) hv hV hd hA0 h0 h1
 have hnew := fun (j : Nat) (m : Int) (hj : A[j]? = some m) => v_new (down := down) hv hV hd hj
 have hul : ((vTop t A).links.length : Int) = t.links.length + A.length := by simp only [vTop, List.length_append, List.length_map]; omega
 have hmem : ∀ m ∈ A, gt (allS (noOv t) down A) m = 0 := fun m hm => by
  have z := (hds m hm).zero
  have := (hall m (hA m hm).1 (hA m hm).2).1 m hm (by omega)
  omega
 -- an arc that is improved
 have hfix : ∀ a : Int, 0 ≤ a → a < 2 * t.links.length → upB down a = true → 0 ≤ gt (allS (noOv t) down A) (headT (noOv t) a) → 0 ≤ gt (allS (noOv t) down A) (tailT (noOv t) a) ∧ gt (allS (noOv t) down A) (tailT (noOv t) a) ≤ gt (allS (noOv t) down A) (headT (noOv t) a) + costT (noOv t) a := by
  intro a a0 a1 hu hh
  obtain ⟨⟨x0, x1⟩, ⟨y0, y1⟩, _⟩ := arc_facts (t := noOv t) hT a0 a1
  obtain ⟨m, hm, e⟩ := (hall _ y0 y1).2.1 hh
  have := (hds m hm).fix a a0 a1 (by rw [okArc, hu]; exact tr_none) (by simp only [yOf, Bool.false_eq_true, if_false]; omega)
  simp only [xOf, yOf, Bool.false_eq_true, if_false] at this
  have h2 := (hall _ x0 x1).1 m hm this.1
  omega
 refine ⟨?_, hen, ?_, ?_, ?_⟩
 ·rw [vDist, List.length_append, List.length_map, List.length_range]; simp only [vTop, List.length_singleton]; omega
 ·intro i i0 i1
  simp only [vTop] at i1
  rcases Int.lt_or_le i t.nodes with h | h
  ·rw [hat i i0 h]; split <;> omega
  ·rw [show i = t.nodes by omega, hen]; omega
 ·intro a a0 a1
  rw [hul] at a1
  rcases Int.lt_or_le a (2 * t.links.length) with h | h
  ·obtain ⟨o1, o2, o3, o4⟩ := hold a a0 h
   obtain ⟨⟨x0, x1⟩, ⟨y0, y1⟩, _⟩ := arc_facts (t := noOv t) hT a0 h
   rw [show (noOv t).nodes = t.nodes from rfl] at x1 y1
   simp only [fixAt, okArc, xOf, yOf, Bool.false_eq_true, if_false, o1, o2, o3, o4, Bool.and_eq_true]
   rw [hat _ x0 x1, hat _ y0 y1]
   rintro ⟨hu, _⟩ hh
   have := hfix a a0 h hu
   split at hh
   ·rename_i hp
    have := this hp
    rw [if_pos hp, if_pos this.1]; omega
   ·omega
  ·obtain ⟨j, hj⟩ : ∃ j : Nat, a = (2 * (t.links.length + j : Nat) : Int) ∨ a = (2 * (t.links.length + j : Nat) + 1 : Int) := ⟨((a - 2 * t.links.length) / 2).toNat, by omega⟩
   obtain ⟨m, hm⟩ : ∃ m, A[j]? = some m := ⟨_, List.getElem?_eq_getElem (by omega)⟩
   obtain ⟨n1, n2, n3, n4, n5, n6⟩ := hnew j m hm
   have hmA := List.mem_of_getElem? hm
   rcases hj with rfl | rfl
   ·simp only [fixAt, okArc, xOf, yOf, Bool.false_eq_true, if_false, n1, n2, n3, n4]
    intro _ _
    rw [hat m (hA m hmA).1 (hA m hmA).2, hmem m hmA, hen]; simp
   ·intro ho
    simp only [okArc, n5, Bool.false_and] at ho
    cases ho
 ·intro x x0 x1 hne hx
  simp only [vTop] at x1
  have x2 : x < t.nodes := by omega
  rw [hat x x0 x2] at hx ⊢
  split at hx
  ·rename_i hp
   rw [if_pos hp]
   by_cases hxA : x ∈ A
   ·obtain ⟨j, hj, e⟩ := List.mem_iff_getElem.1 hxA
    have hj' : A[j]? = some x := by rw [List.getElem?_eq_getElem hj, e]
    obtain ⟨n1, n2, n3, n4, n5, n6⟩ := hnew j x hj'
    refine ⟨(2 * (t.links.length + j : Nat) : Int), by omega, by rw [hul]; omega, ?_, ?_, ?_, ?_⟩
    ·rw [okArc, n4]; exact tr_none
    ·simp only [xOf, Bool.false_eq_true, if_false]; exact n1
    ·simp only [yOf, Bool.false_eq_true, if_false, n2, hen]; omega
    ·simp only [yOf, Bool.false_eq_true, if_false, n2, hen, n3, hmem x hxA]
   ·obtain ⟨m, hm, e⟩ := (hall x x0 x2).2.1 hp
    obtain ⟨a, a0, a1, ho, hxa, hy, hdx⟩ := (hds m hm).tight x x0 x2 (fun h => hxA (by rw [h]; exact hm)) (by omega)
    obtain ⟨o1, o2, o3, o4⟩ := hold a a0 a1
    obtain ⟨⟨p0, p1⟩, ⟨y0, y1⟩, _⟩ := arc_facts (t := noOv t) hT a0 a1
    rw [show (noOv t).nodes = t.nodes from rfl] at p1 y1
    simp only [okArc, xOf, yOf, Bool.false_eq_true, if_false, Bool.and_eq_true] at ho hxa hy hdx
    have q1 := (hall _ y0 y1).1 m hm hy
    have q2 := hfix a a0 a1 ho.1 q1.1
    rw [hxa] at q2
    have a2 : a < 2 * (t.links.length : Int) := a1
    refine ⟨a, a0, by rw [hul]; omega, ?_, ?_, ?_, ?_⟩
    ·rw [okArc, o4, ho.1]; exact tr_none
    ·simp only [xOf, Bool.false_eq_true, if_false, o1]; exact hxa
    ·simp only [yOf, Bool.false_eq_true, if_false, o2]
     rw [hat _ y0 y1, if_pos q1.1]; omega
    ·simp only [yOf, Bool.false_eq_true, if_false, o2, o3]
     rw [hat _ y0 y1, if_pos q1.1]; omega
  ·omega
theorem virt_plain (h1 : anyB t A = true) (h2 : fitsB t down = true) (hn : t.nodes ≤ 12) (hl : t.links.length ≤ 20) (ha : A.length ≤ 20) : ∃ E F, adistS (noOv t) down A = (E, 0) ∧ searchS (vTop t A) (vDown t down A) t.nodes false = (F, 0) ∧ (E.length : Int) = t.nodes ∧ (F.length : Int) = t.nodes + 1 ∧
  ∀ i : Int, 0 ≤ i → i < t.nodes → (-1 ≤ gt E i ∧ gt E i ≤ 4194240) ∧ gt F i = if 0 ≤ gt E i then gt E i + 1 else -1 := by
 have hA := any_mem h1
 obtain ⟨hv, hA0, hok⟩ := of_decide_eq_true h1
 have hf := fitsB_spec.1 h2
 have hT := valid_noOv hv
 have hV := valid_vTop hv hA hn hl ha
 have hn1 := (validT_spec.1 hv).1
 have hd := virt_is (down := down) hv hV hA hA0 hf.2
 refine ⟨allS (noOv t) down A, vDist t down A, ?_, ?_, ?_, ?_, fun i i0 i1 => ⟨(all_facts (t := noOv t) hT hA i0 i1).2.2, vDist_at i0 i1⟩⟩
 ·rw [adistS, if_pos ⟨decide_eq_true ⟨hT, hA0, hok⟩, fitsB_spec.2 ⟨hT, hf.2⟩⟩]
 ·rw [searchS, if_pos (fitsB_spec.2 ⟨hV, .inr ?_⟩), if_pos (by simp only [vTop]; omega), distS_eq hV hd]
  rw [vDown_len hf.2]; simp only [vTop, List.length_append, List.length_map]; omega
 ·rw [allS_len]; simp only [noOv]; omega
 ·have := hd.len
  simp only [vTop] at this
  exact this
end
end Go.Ab

