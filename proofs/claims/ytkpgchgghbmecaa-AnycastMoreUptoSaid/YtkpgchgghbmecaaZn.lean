/-
  Merged texts, part n.
-/
import Derived.Test.YtkpgchgghbmecaaZm
/-
  Groups: the distances to the nearest member.
-/
namespace Go.Ab
open Go.Proofs

theorem cloneInts_new (P : Program) (hP : P = Try.prog) (ll : List (List D)) (hl : ll.length ≤ 1000000) (h0 : ll ≠ []) : FnS P n_slices_Clone_int_int [.c (.d (.list false 1 ll))] [] fun r h' => ∃ n, n = ll.length ∧ r = .c (.arr 0 1 0 n) ∧ h' = [.da true 1 1 ll] := by
  refine fn_heap (hP ▸ mixed) (hP ▸ fn_slices_Clone_int_int) (hP ▸ c_slices_Clone_int_int) (Nat.le_of_ble_eq_true rfl) fun Λ Λo => ?_
  clear hP
  generalize hK : (fun (r : AV) (h' : Hp) => ∃ n, n = ll.length ∧ r = .c (.arr 0 1 0 n) ∧ h' = [.da true 1 1 ll]) = K
  have k1 : ∀ n rl es, es = ll → rl = true → n = ll.length → K (.c (.arr 0 1 0 n)) [Blk.da rl 1 1 es] := by
    intro n rl es h1 h3 h2; rw [← hK]; subst h1 h3; exact ⟨n, h2, rfl, rfl⟩
  clear hK
  have lln := Λo ll
  conv => cbv
  repeat' first | (intro (_ : Unit); first | omega | rfl | exact ⟨rfl, by omega⟩ | (simp only [nI_eq]; omega) | ((repeat' first | rfl | omega | refine And.intro ?_ ?_ | (simp only [nI_eq]; omega) | (simp only [List.length_cons, List.length_nil]; omega) | exact Nat.le_of_ble_eq_true rfl); done)) | exact trivial | refine And.intro ?_ ?_ | (intro hc; exact absurd hc (by decide)) | (intro hc; exfalso; omega) | (intro hc; (first | rw [wrap_small (by omega) (by omega)] at hc | rw [nI_eq] at hc | skip); try (conv => cbv))
  · refine k1 _ _ _ ?_ ?_ ?_
    · rw [hc]; simp
    · rename_i h1; rw [h1]; rfl
    · rename_i h1 _; rw [h1]; simp
  · exact absurd (by assumption) h0

def mrg (a d : Int) : Int := if a < 0 then d else if 0 ≤ d then min a d else a

noncomputable def rowsS (t : Top) (down : List Bool) (A : List Int) : List (List Int) := A.map fun m => distS t down m false
noncomputable def allS (t : Top) (down : List Bool) (A : List Int) : List Int := (List.range t.nodes.toNat).map fun (i : Nat) => ((rowsS t down A).map fun D => gt D i).foldl mrg (-1)

theorem allS_len (t : Top) (down : List Bool) (A : List Int) : (allS t down A).length = t.nodes.toNat := by simp [allS]

theorem allS_at {t : Top} {down : List Bool} {A : List Int} {i : Nat} (h : i < t.nodes.toNat) : (allS t down A)[i]? = some (((rowsS t down A).map fun D => gt D i).foldl mrg (-1)) := by
  rw [allS, List.getElem?_map, List.getElem?_range h]; rfl

theorem allS_succ {t : Top} {down : List Bool} {A : List Int} {k : Nat} {m : Int} (h : A[k]? = some m) {i : Nat} (hi : i < t.nodes.toNat) :
    (allS t down (A.take (k + 1)))[i]? = some (mrg (((rowsS t down (A.take k)).map fun D => gt D i).foldl mrg (-1)) (gt (distS t down m false) i)) := by
  rw [allS_at hi, take_succ_get h, rowsS, List.map_append, List.map_append, List.foldl_append]
  rfl

theorem mrg_self (d : Int) : mrg d d = d := by
  unfold mrg; split
  · rfl
  · split
    · exact Int.min_self d
    · rfl

set_option maxHeartbeats 4000000 in
theorem adists_ok (P : Program) (hP : P = Try.prog) (t : Top) (down : List Bool) (A : List Int) (hA : (A.length : Int) ≤ 2000000) : Ret P n_anycast_dists [topA t, boolsA down, intsA A]
    (if anyB t A = true ∧ fitsB t down = true then .tup [rowsA (rowsS t down A), intsA (allS t down A), iA 0] else .tup [rowsA [], intsA [], iA 1]) := by
  refine ret_start (hP ▸ mixed) (hP ▸ fn_anycast_dists) (hP ▸ c_anycast_dists) (Nat.le_of_ble_eq_true rfl) fun Λ Λo K hK => ?_
  have hval := avalid_ok P hP t A hA
  have hfits := fun (h : anyB t A = true) => gfits_ok P hP t down (validT_spec.1 (of_decide_eq_true h).1).2.2.1
  have hdist := fun m => sdist_ok P hP t down m
  have hclone := fun ll h h0 => cloneInts_new P hP ll h h0
  clear hP
  by_cases hf : anyB t A = true ∧ fitsB t down = true
  · obtain ⟨hv, hl0, hok⟩ := of_decide_eq_true hf.1
    have hdd : ∀ m : Int, 0 ≤ m → m < t.nodes → Ret P n_spf_Dist [topA t, boolsA down, iA m] (.tup [intsA (distS t down m false), iA 0]) := fun m h0 h1 => by
      have := hdist m
      rw [searchS, if_pos hf.2, if_pos ⟨h0, h1⟩] at this
      exact this
    have hsp : ∀ m : Int, 0 ≤ m → m < t.nodes → ((distS t down m false).length : Int) = t.nodes := fun m h0 h1 => (distS_spec hv down false h0 h1).1.len
    have hsb : ∀ m : Int, 0 ≤ m → m < t.nodes → ∀ i, 0 ≤ i → i < t.nodes → -1 ≤ gt (distS t down m false) i := fun m h0 h1 i i0 i1 => ((distS_spec hv down false h0 h1).2 i i0 i1).1
    have hval : Ret P n_anycast_Valid [topA t, intsA A] (bA true) := hf.1 ▸ hval
    have hfits : Ret P n_graph_Fits [topA t, boolsA down] (bA true) := by
      have h2 := hfits hf.1
      have h3 := hf.2
      rw [decide_eq_true (by simpa [fitsB, hv] using h3)] at h2
      exact h2
    rw [if_pos hf] at hK
    clear hdist hf
    have v1 := validT_spec.1 hv
    obtain ⟨nn, hnn⟩ : ∃ x : Nat, (x : Int) = t.nodes := ⟨t.nodes.toNat, by omega⟩
    obtain ⟨nodes, hN⟩ : ∃ x, x = t.nodes := ⟨_, rfl⟩
    obtain ⟨ol, hol⟩ : ∃ x, x = t.ov.map encB := ⟨_, rfl⟩
    obtain ⟨ll, hll⟩ : ∃ x, x = t.links.map encLk := ⟨_, rfl⟩
    obtain ⟨dl, hdl⟩ : ∃ x, x = down.map encB := ⟨_, rfl⟩
    obtain ⟨al, hal⟩ : ∃ x, x = A.map encI := ⟨_, rfl⟩
    have lal : Λ al = A.length := by rw [Λo, hal]; simp
    have k1 : ∀ rs zs, rs = (rowsS t down A).map encRow → zs = (allS t down A).map encI → K (.tup [.c (.d (.list false 1 rs)), .c (.d (.list false 1 zs)), iA 0]) := fun rs zs h1 h2 => by
      rw [h1, h2]; exact hK
    clear hK
    simp only [topA, boolsA, boolsD, linksD, intsA, intsD, ← hN, ← hol, ← hll, ← hdl, ← hal] at hval hfits hdd ⊢
    clear hol hll hdl
    conv => cbv
    repeat' first | (refine call_r hval rfl rfl ?_; conv => cbv) | (refine call_r hfits rfl rfl ?_; conv => cbv) | (intro (_ : Unit); first | omega | rfl | exact ⟨rfl, by omega⟩ | (simp only [nI_eq]; omega) | ((repeat' first | rfl | omega | refine And.intro ?_ ?_ | (simp only [nI_eq]; omega) | (simp only [List.length_cons, List.length_nil]; omega) | exact Nat.le_of_ble_eq_true rfl); done)) | exact trivial | refine And.intro ?_ ?_ | (intro hc; exact absurd hc (by decide)) | (intro hc; exfalso; omega) | (intro hc; (first | rw [wrap_small (by omega) (by omega)] at hc | rw [nI_eq] at hc | skip); try (conv => cbv))
    refine loop_up A.length (fun (s : Int × Nat × Bool × Nat × List (List D) × Bool × List (List D) × Bool × List (List D)) => [(1, .c (.d (.list false 1 dl))), (3, .c (.ptr 0 0 0 0)), (6, .c (.arr 1 s.2.1 0 s.2.2.2.1)), (7, match s.2.2.2.2.2.1 with | true => .c (.arr 2 0 0 0) | false => .c (.arr 4 1 0 nn)), (25, .c (.d (.list false 1 al))), (26, iA (Λ al)), (27, iA s.1)])
      (fun s => .bx [.d (iD nodes), .d (.list false 1 ol), .d (.list false 7 ll)] :: .da s.2.2.1 s.2.1 1 s.2.2.2.2.1 :: .da false 0 1 [] :: match s.2.2.2.2.2.1 with | true => [] | false => [.da true 0 1 s.2.2.2.2.2.2.1, .da s.2.2.2.2.2.2.2.1 1 1 s.2.2.2.2.2.2.2.2])
      (fun k s => s.1 = k ∧ k ≤ A.length ∧ s.2.2.2.1 = s.2.2.2.2.1.length ∧ s.2.2.2.2.1 = ((rowsS t down A).take k).map encRow ∧ match s.2.2.2.2.2.1 with | true => k = 0 | false => 0 < k ∧ s.2.2.2.2.2.2.2.1 = true ∧ s.2.2.2.2.2.2.2.2 = (allS t down (A.take k)).map encI)
      (0, 0, false, 0, [], true, [], true, []) (.trans (.nilS 6 1 rfl) (.trans (.nilS 7 1 rfl) (Wk.cut ⟨[], rfl⟩ (Nat.le_of_ble_eq_true rfl) rfl (by repeat' first | exact trivial | refine And.intro ?_ ?_ | rfl)))) ⟨rfl, by omega, rfl, by simp, rfl⟩ (fun k s h => h.2.1) ?_
    rintro k ⟨i, ve, r, n6, es, first, tmp, rl, all⟩ Q' ⟨hi, hk, hn6, hes, hfst⟩ norm ex rt
    simp only at hi hn6 hes hfst
    by_cases hlt : k < A.length
    · obtain ⟨m, hm⟩ : ∃ m, A[k]? = some m := ⟨_, List.getElem?_eq_getElem hlt⟩
      have hra : al[i.toNat]? = some [iD m] := by rw [hi, Int.toNat_natCast, hal, List.getElem?_map, hm]; rfl
      have hmo := hok k hlt
      rw [okAt, List.getD_eq_getElem?_getD, hm, Option.getD_some] at hmo
      have hdm := hdd m hmo.1 (by omega)
      have lenD := hsp m hmo.1 hmo.2.1
      have bndD := hsb m hmo.1 hmo.2.1
      have hrow : (rowsS t down A)[k]? = some (distS t down m false) := by rw [rowsS, List.getElem?_map, hm]; rfl
      have hnew := fun i h => allS_succ (t := t) (down := down) hm (i := i) h
      obtain ⟨E, hE⟩ : ∃ l, l = distS t down m false := ⟨_, rfl⟩
      rw [← hE] at hdm lenD bndD hrow hnew
      obtain ⟨dd, hdd2⟩ : ∃ l, l = E.map encI := ⟨_, rfl⟩
      rw [← hdd2] at hdm
      have ldd : Λ dd = nn := by rw [Λo, hdd2]; simp; omega
      have lde : dd.length = nn := by rw [hdd2]; simp; omega
      have lesl : es.length ≤ k := by rw [hes]; simp; omega
      have hcl := hclone dd (by omega) (by intro e; rw [e] at lde; simp at lde; omega)
      clear hclone hdd hsp hsb hval hfits k1
      cases first
      · obtain ⟨hk0, hrl, hall⟩ := hfst
        subst hrl
        conv => cbv
        repeat' first | (refine ex _ _ _ ?_; (conv => cbv)) | (refine rt _ _ ?_; (conv => cbv)) | (intro (e : List D) he; cases Option.some.inj (he.symm.trans hra); (conv => cbv)) | (refine call_r hdm rfl rfl ?_; conv => cbv) | (intro (_ : Unit); refine ⟨rfl, ?_⟩; simp only [List.length_cons, List.length_nil]; omega) | (intro (_ : Unit); first | omega | rfl | exact ⟨rfl, by omega⟩ | (simp only [nI_eq]; omega) | ((repeat' first | rfl | omega | refine And.intro ?_ ?_ | (simp only [nI_eq]; omega) | (simp only [List.length_cons, List.length_nil]; omega) | exact Nat.le_of_ble_eq_true rfl); done)) | exact trivial | refine And.intro ?_ ?_ | (intro hc; exact absurd hc (by decide)) | (intro hc; exfalso; omega) | (intro hc; (first | rw [wrap_small (by omega) (by omega)] at hc | rw [nI_eq] at hc | skip); try (conv => cbv))
        rename_i m' r' es2 hm' hr' hes2
        obtain ⟨A0, h0, l0, hmg⟩ : ∃ A0 : List Int, all = A0.map encI ∧ A0.length = nn ∧ ∀ p : Nat, p < nn → (allS t down (A.take (k + 1)))[p]? = some (mrg (gt A0 p) (gt E p)) := by
          refine ⟨allS t down (A.take k), hall, by rw [allS_len]; omega, fun p hp => ?_⟩
          rw [hnew p (by omega)]
          congr 2
          have := allS_at (t := t) (down := down) (A := A.take k) (i := p) (by omega)
          rw [gt, List.getD_eq_getElem?_getD, Int.toNat_natCast, this]; rfl
        refine loop_up nn (fun (s : Int × List (List D)) => [(1, .c (.d (.list false 1 dl))), (3, .c (.ptr 0 0 0 0)), (6, .c (.arr 1 (ve + 1) 0 m')), (7, .c (.arr 4 1 0 nn)), (25, .c (.d (.list false 1 al))), (26, iA (Λ al)), (27, iA i), (46, .c (.d (.list false 1 dd))), (47, iA (Λ dd)), (48, iA s.1)])
          (fun s => [.bx [.d (iD nodes), .d (.list false 1 ol), .d (.list false 7 ll)], .da r' (ve + 1) 1 es2, .da false 0 1 [], .da true 0 1 tmp, .da true 1 1 s.2])
          (fun j s => s.1 = j ∧ j ≤ nn ∧ ∃ B : List Int, s.2 = B.map encI ∧ B.length = nn ∧ ∀ p : Nat, p < nn → gt B p = if p < j then mrg (gt A0 p) (gt E p) else gt A0 p) (0, all) (Wk.cut ⟨_, rfl⟩ (Nat.zero_le _) rfl (by repeat' first | exact trivial | refine And.intro ?_ ?_ | rfl)) ⟨rfl, Nat.zero_le _, A0, h0, l0, fun p hp => by simp⟩ (fun k s h => h.2.1) ?_
        rintro j ⟨jj, bl⟩ Q2 ⟨hj, hjn, B, hB, lB, hpt⟩ nrm ex rt
        simp only at hj hB
        by_cases hjlt : j < nn
        · have hde : dd[jj.toNat]? = some [iD (gt E j)] := by rw [hj, Int.toNat_natCast, hdd2]; exact encI_at (by omega)
          have hbe : bl[j]? = some [iD (gt B j)] := by rw [hB]; exact encI_at (by omega)
          have hbj := hpt j hjlt
          rw [if_neg (Nat.lt_irrefl _)] at hbj
          have lbl : bl.length = nn := by rw [hB, List.length_map]; exact lB
          have stp : ∀ v x, v = mrg (gt B j) (gt E j) → x = bl.set j [iD v] → ∃ B' : List Int, x = B'.map encI ∧ B'.length = nn ∧ ∀ p : Nat, p < nn → gt B' p = if p < j + 1 then mrg (gt A0 p) (gt E p) else gt A0 p := fun v x h1 h2 => by
            refine ⟨B.set ((j : Int)).toNat v, ?_, by rw [List.length_set]; exact lB, fun p hp => ?_⟩
            · rw [h2, hB, encI_set, Int.toNat_natCast]
            · rw [gt_setD (by omega) (by omega) p (by omega)]
              by_cases e : p = j
              · rw [if_pos (by omega), if_pos (by omega), h1, hbj, e]
              · rw [if_neg (by omega), hpt p hp]
                by_cases e2 : p < j
                · rw [if_pos e2, if_pos (by omega)]
                · rw [if_neg e2, if_neg (by omega)]
          have skp : mrg (gt B j) (gt E j) = gt B j → ∃ B' : List Int, bl = B'.map encI ∧ B'.length = nn ∧ ∀ p : Nat, p < nn → gt B' p = if p < j + 1 then mrg (gt A0 p) (gt E p) else gt A0 p := fun h1 => by
            refine ⟨B, hB, lB, fun p hp => ?_⟩
            by_cases e : p = j
            · rw [if_pos (by omega), e, ← hbj, h1]
            · rw [hpt p hp]
              by_cases e2 : p < j
              · rw [if_pos e2, if_pos (by omega)]
              · rw [if_neg e2, if_neg (by omega)]
          obtain ⟨b, hb⟩ : ∃ b, b = gt B j := ⟨_, rfl⟩
          obtain ⟨e, he⟩ : ∃ e, e = gt E j := ⟨_, rfl⟩
          rw [← hb] at hbe stp skp
          rw [← he] at hde stp skp
          clear hpt norm
          conv => cbv
          repeat' first | (refine ex _ _ _ ?_; (conv => cbv)) | (refine rt _ _ ?_; (conv => cbv)) | (intro (k : Nat) hk; refine (fun (hz : j = k) => ?_) ?_; rotate_left; omega; subst hz; (conv => cbv)) | (intro (e : List D) he; cases Option.some.inj (he.symm.trans hde); (conv => cbv)) | (intro (e : List D) he; cases Option.some.inj (he.symm.trans hbe); (conv => cbv)) | (intro (_ : Unit); first | omega | rfl | exact ⟨rfl, by omega⟩ | (simp only [nI_eq]; omega) | ((repeat' first | rfl | omega | refine And.intro ?_ ?_ | (simp only [nI_eq]; omega) | (simp only [List.length_cons, List.length_nil]; omega) | exact Nat.le_of_ble_eq_true rfl); done)) | exact trivial | refine And.intro ?_ ?_ | (intro hc; exact absurd hc (by decide)) | (intro hc; exfalso; omega) | (intro hc; (first | rw [wrap_small (by omega) (by omega)] at hc | rw [nI_eq] at hc | skip); try (conv => cbv))
          · rename_i x hx j'
            exact nrm _ _ (j', x) ⟨by simp only; omega, by omega, stp e x (by rw [mrg, if_pos (by assumption)]) hx⟩ (Wk.cut ⟨[], rfl⟩ (Nat.le_of_ble_eq_true rfl) rfl (by repeat' first | exact trivial | refine And.intro ?_ ?_ | rfl))
          · rename_i v hvv x hx j'
            exact nrm _ _ (j', x) ⟨by simp only; omega, by omega, stp v x (by rw [mrg, if_neg (by assumption), if_pos (by assumption)]; omega) hx⟩ (Wk.cut ⟨[], rfl⟩ (Nat.le_of_ble_eq_true rfl) rfl (by repeat' first | exact trivial | refine And.intro ?_ ?_ | rfl))
          · rename_i j'
            exact nrm _ _ (j', bl) ⟨by simp only; omega, by omega, skp (by rw [mrg, if_neg (by assumption), if_neg (by assumption)])⟩ (Wk.cut ⟨[], rfl⟩ (Nat.le_of_ble_eq_true rfl) rfl (by repeat' first | exact trivial | refine And.intro ?_ ?_ | rfl))
        · have e : j = nn := by omega
          conv => cbv
          repeat' first | (refine ex _ _ _ ?_; (conv => cbv)) | (refine rt _ _ ?_; (conv => cbv)) | (intro (_ : Unit); first | omega | rfl | exact ⟨rfl, by omega⟩ | (simp only [nI_eq]; omega) | ((repeat' first | rfl | omega | refine And.intro ?_ ?_ | (simp only [nI_eq]; omega) | (simp only [List.length_cons, List.length_nil]; omega) | exact Nat.le_of_ble_eq_true rfl); done)) | exact trivial | refine And.intro ?_ ?_ | (intro hc; exact absurd hc (by decide)) | (intro hc; exfalso; omega) | (intro hc; (first | rw [wrap_small (by omega) (by omega)] at hc | rw [nI_eq] at hc | skip); try (conv => cbv))
          rename_i i'
          have e1 : es2 = ((rowsS t down A).take (k + 1)).map encRow := by
            rw [hes2, take_succ_get hrow, List.map_append, List.drop_zero, hn6, List.take_length, hes, hdd2]; rfl
          have e2 : bl = (allS t down (A.take (k + 1))).map encI := by
            rw [hB]
            congr 1
            refine List.ext_getElem? fun p => ?_
            rcases Nat.lt_or_ge p nn with hp | hp
            · have h1 := hpt p hp
              rw [if_pos (by omega)] at h1
              rw [hmg p hp, ← h1, gt, List.getD_eq_getElem?_getD, Int.toNat_natCast, List.getElem?_eq_getElem (by omega)]; rfl
            · rw [List.getElem?_eq_none (by omega), List.getElem?_eq_none (by rw [allS_len]; omega)]
          exact norm _ _ (i', ve + 1, r', m', es2, false, tmp, true, bl) ⟨by simp only; omega, by omega, by simp only; rw [hm', hes2, List.drop_zero, hn6, List.take_length]; simp, e1, by omega, rfl, e2⟩ (Wk.cut ⟨[], rfl⟩ (Nat.le_of_ble_eq_true rfl) rfl (by repeat' first | exact trivial | refine And.intro ?_ ?_ | rfl))
      · conv => cbv
        repeat' first | (refine ex _ _ _ ?_; (conv => cbv)) | (refine rt _ _ ?_; (conv => cbv)) | (intro (e : List D) he; cases Option.some.inj (he.symm.trans hra); (conv => cbv)) | (refine call_r hdm rfl rfl ?_; conv => cbv) | (intro (_ : Unit); refine ⟨rfl, ?_⟩; simp only [List.length_cons, List.length_nil]; omega) | (refine call_fr [] hcl rfl rfl (by decide) trivial rfl rfl ?_; rintro r hc' ⟨n', hn', rfl, rfl⟩; obtain rfl : nn = n' := (hn'.trans lde).symm; (conv => cbv)) | (intro (_ : Unit); first | omega | rfl | exact ⟨rfl, by omega⟩ | (simp only [nI_eq]; omega) | ((repeat' first | rfl | omega | refine And.intro ?_ ?_ | (simp only [nI_eq]; omega) | (simp only [List.length_cons, List.length_nil]; omega) | exact Nat.le_of_ble_eq_true rfl); done)) | exact trivial | refine And.intro ?_ ?_ | (intro hc; exact absurd hc (by decide)) | (intro hc; exfalso; omega) | (intro hc; (first | rw [wrap_small (by omega) (by omega)] at hc | rw [nI_eq] at hc | skip); try (conv => cbv))
        rename_i m' r' es2 hm' hr' hes2
        obtain ⟨A0, h0, l0, hmg⟩ : ∃ A0 : List Int, dd = A0.map encI ∧ A0.length = nn ∧ ∀ p : Nat, p < nn → (allS t down (A.take (k + 1)))[p]? = some (mrg (gt A0 p) (gt E p)) := by
          refine ⟨E, hdd2, by omega, fun p hp => ?_⟩
          rw [hnew p (by omega), mrg_self]
          rw [hfst]; rfl
        refine loop_up nn (fun (s : Int × List (List D)) => [(1, .c (.d (.list false 1 dl))), (3, .c (.ptr 0 0 0 0)), (6, .c (.arr 1 (ve + 1) 0 m')), (7, .c (.arr 4 1 0 nn)), (25, .c (.d (.list false 1 al))), (26, iA (Λ al)), (27, iA i), (46, .c (.d (.list false 1 dd))), (47, iA (Λ dd)), (48, iA s.1)])
          (fun s => [.bx [.d (iD nodes), .d (.list false 1 ol), .d (.list false 7 ll)], .da r' (ve + 1) 1 es2, .da false 0 1 [], .da true 0 1 [[.list false 1 dd]], .da true 1 1 s.2])
          (fun j s => s.1 = j ∧ j ≤ nn ∧ ∃ B : List Int, s.2 = B.map encI ∧ B.length = nn ∧ ∀ p : Nat, p < nn → gt B p = if p < j then mrg (gt A0 p) (gt E p) else gt A0 p) (0, dd) (Wk.cut ⟨_, rfl⟩ (Nat.zero_le _) rfl (by repeat' first | exact trivial | refine And.intro ?_ ?_ | rfl)) ⟨rfl, Nat.zero_le _, A0, h0, l0, fun p hp => by simp⟩ (fun k s h => h.2.1) ?_
        rintro j ⟨jj, bl⟩ Q2 ⟨hj, hjn, B, hB, lB, hpt⟩ nrm ex rt
        simp only at hj hB
        by_cases hjlt : j < nn
        · have hde : dd[jj.toNat]? = some [iD (gt E j)] := by rw [hj, Int.toNat_natCast, hdd2]; exact encI_at (by omega)
          have hbe : bl[j]? = some [iD (gt B j)] := by rw [hB]; exact encI_at (by omega)
          have hbj := hpt j hjlt
          rw [if_neg (Nat.lt_irrefl _)] at hbj
          have lbl : bl.length = nn := by rw [hB, List.length_map]; exact lB
          have stp : ∀ v x, v = mrg (gt B j) (gt E j) → x = bl.set j [iD v] → ∃ B' : List Int, x = B'.map encI ∧ B'.length = nn ∧ ∀ p : Nat, p < nn → gt B' p = if p < j + 1 then mrg (gt A0 p) (gt E p) else gt A0 p := fun v x h1 h2 => by
            refine ⟨B.set ((j : Int)).toNat v, ?_, by rw [List.length_set]; exact lB, fun p hp => ?_⟩
            · rw [h2, hB, encI_set, Int.toNat_natCast]
            · rw [gt_setD (by omega) (by omega) p (by omega)]
              by_cases e : p = j
              · rw [if_pos (by omega), if_pos (by omega), h1, hbj, e]
              · rw [if_neg (by omega), hpt p hp]
                by_cases e2 : p < j
                · rw [if_pos e2, if_pos (by omega)]
                · rw [if_neg e2, if_neg (by omega)]
          have skp : mrg (gt B j) (gt E j) = gt B j → ∃ B' : List Int, bl = B'.map encI ∧ B'.length = nn ∧ ∀ p : Nat, p < nn → gt B' p = if p < j + 1 then mrg (gt A0 p) (gt E p) else gt A0 p := fun h1 => by
            refine ⟨B, hB, lB, fun p hp => ?_⟩
            by_cases e : p = j
            · rw [if_pos (by omega), e, ← hbj, h1]
            · rw [hpt p hp]
              by_cases e2 : p < j
              · rw [if_pos e2, if_pos (by omega)]
              · rw [if_neg e2, if_neg (by omega)]
          obtain ⟨b, hb⟩ : ∃ b, b = gt B j := ⟨_, rfl⟩
          obtain ⟨e, he⟩ : ∃ e, e = gt E j := ⟨_, rfl⟩
          rw [← hb] at hbe stp skp
          rw [← he] at hde stp skp
          clear hpt norm
          conv => cbv
          repeat' first | (refine ex _ _ _ ?_; (conv => cbv)) | (refine rt _ _ ?_; (conv => cbv)) | (intro (k : Nat) hk; refine (fun (hz : j = k) => ?_) ?_; rotate_left; omega; subst hz; (conv => cbv)) | (intro (e : List D) he; cases Option.some.inj (he.symm.trans hde); (conv => cbv)) | (intro (e : List D) he; cases Option.some.inj (he.symm.trans hbe); (conv => cbv)) | (intro (_ : Unit); first | omega | rfl | exact ⟨rfl, by omega⟩ | (simp only [nI_eq]; omega) | ((repeat' first | rfl | omega | refine And.intro ?_ ?_ | (simp only [nI_eq]; omega) | (simp only [List.length_cons, List.length_nil]; omega) | exact Nat.le_of_ble_eq_true rfl); done)) | exact trivial | refine And.intro ?_ ?_ | (intro hc; exact absurd hc (by decide)) | (intro hc; exfalso; omega) | (intro hc; (first | rw [wrap_small (by omega) (by omega)] at hc | rw [nI_eq] at hc | skip); try (conv => cbv))
          · rename_i x hx j'
            exact nrm _ _ (j', x) ⟨by simp only; omega, by omega, stp e x (by rw [mrg, if_pos (by assumption)]) hx⟩ (Wk.cut ⟨[], rfl⟩ (Nat.le_of_ble_eq_true rfl) rfl (by repeat' first | exact trivial | refine And.intro ?_ ?_ | rfl))
          · rename_i v hvv x hx j'
            exact nrm _ _ (j', x) ⟨by simp only; omega, by omega, stp v x (by rw [mrg, if_neg (by assumption), if_pos (by assumption)]; omega) hx⟩ (Wk.cut ⟨[], rfl⟩ (Nat.le_of_ble_eq_true rfl) rfl (by repeat' first | exact trivial | refine And.intro ?_ ?_ | rfl))
          · rename_i j'
            exact nrm _ _ (j', bl) ⟨by simp only; omega, by omega, skp (by rw [mrg, if_neg (by assumption), if_neg (by assumption)])⟩ (Wk.cut ⟨[], rfl⟩ (Nat.le_of_ble_eq_true rfl) rfl (by repeat' first | exact trivial | refine And.intro ?_ ?_ | rfl))
        · have e : j = nn := by omega
          conv => cbv
          repeat' first | (refine ex _ _ _ ?_; (conv => cbv)) | (refine rt _ _ ?_; (conv => cbv)) | (intro (_ : Unit); first | omega | rfl | exact ⟨rfl, by omega⟩ | (simp only [nI_eq]; omega) | ((repeat' first | rfl | omega | refine And.intro ?_ ?_ | (simp only [nI_eq]; omega) | (simp only [List.length_cons, List.length_nil]; omega) | exact Nat.le_of_ble_eq_true rfl); done)) | exact trivial | refine And.intro ?_ ?_ | (intro hc; exact absurd hc (by decide)) | (intro hc; exfalso; omega) | (intro hc; (first | rw [wrap_small (by omega) (by omega)] at hc | rw [nI_eq] at hc | skip); try (conv => cbv))
          rename_i i'
          have e1 : es2 = ((rowsS t down A).take (k + 1)).map encRow := by
            rw [hes2, take_succ_get hrow, List.map_append, List.drop_zero, hn6, List.take_length, hes, hdd2]; rfl
          have e2 : bl = (allS t down (A.take (k + 1))).map encI := by
            rw [hB]
            congr 1
            refine List.ext_getElem? fun p => ?_
            rcases Nat.lt_or_ge p nn with hp | hp
            · have h1 := hpt p hp
              rw [if_pos (by omega)] at h1
              rw [hmg p hp, ← h1, gt, List.getD_eq_getElem?_getD, Int.toNat_natCast, List.getElem?_eq_getElem (by omega)]; rfl
            · rw [List.getElem?_eq_none (by omega), List.getElem?_eq_none (by rw [allS_len]; omega)]
          exact norm _ _ (i', ve + 1, r', m', es2, false, [[.list false 1 dd]], true, bl) ⟨by simp only; omega, by omega, by simp only; rw [hm', hes2, List.drop_zero, hn6, List.take_length]; simp, e1, by omega, rfl, e2⟩ (Wk.cut ⟨[], rfl⟩ (Nat.le_of_ble_eq_true rfl) rfl (by repeat' first | exact trivial | refine And.intro ?_ ?_ | rfl))
    · cases first
      · obtain ⟨hk0, hrl, hall⟩ := hfst
        subst hrl
        conv => cbv
        repeat' first | (refine ex _ _ _ ?_; (conv => cbv)) | (refine rt _ _ ?_; (conv => cbv)) | (intro (_ : Unit); first | omega | rfl | exact ⟨rfl, by omega⟩ | (simp only [nI_eq]; omega) | ((repeat' first | rfl | omega | refine And.intro ?_ ?_ | (simp only [nI_eq]; omega) | (simp only [List.length_cons, List.length_nil]; omega) | exact Nat.le_of_ble_eq_true rfl); done)) | exact trivial | refine And.intro ?_ ?_ | (intro hc; exact absurd hc (by decide)) | (intro hc; exfalso; omega) | (intro hc; (first | rw [wrap_small (by omega) (by omega)] at hc | rw [nI_eq] at hc | skip); try (conv => cbv))
        rename_i ls1 h1 ls2
        refine k1 _ _ ?_ ?_
        · rw [h1, List.drop_zero, hn6, List.take_length, hes, List.take_of_length_le (by rw [rowsS, List.length_map]; omega)]
        · rw [hc, List.drop_zero, List.take_of_length_le (by rw [hall, List.length_map, allS_len]; omega), hall, List.take_of_length_le (by omega)]
      · simp only at hfst
        exact absurd hl0 (by omega)
  · rw [if_neg hf] at hK
    clear hclone hdist
    by_cases h1 : anyB t A = true
    · have hv := (of_decide_eq_true h1).1
      have h2 := hfits h1
      rw [decide_eq_false (fun h => hf ⟨h1, by simpa [fitsB, hv] using h⟩)] at h2
      rw [h1] at hval
      clear hfits hf h1 hv
      simp only [intsA, intsD, boolsA, boolsD, rowsA, List.map_nil] at *
      generalize down.map encB = dl at *
      generalize A.map encI = al at *
      obtain ⟨nodes, ov, links⟩ := t
      simp only [topA, boolsD, linksD] at *
      generalize hol : ov.map encB = ol at *
      generalize hll : links.map encLk = ll at *
      have hlo : Λ ol = ov.length := by rw [Λo, ← hol]; simp
      have hls : Λ ll = links.length := by rw [Λo, ← hll]; simp
      conv => cbv
      repeat' first | (refine call_r hval rfl rfl ?_; conv => cbv) | (refine call_r h2 rfl rfl ?_; conv => cbv) | (intro (_ : Unit); first | omega | rfl | exact ⟨rfl, by omega⟩ | (simp only [nI_eq]; omega) | ((repeat' first | rfl | omega | refine And.intro ?_ ?_ | (simp only [nI_eq]; omega) | (simp only [List.length_cons, List.length_nil]; omega) | exact Nat.le_of_ble_eq_true rfl); done)) | exact trivial | refine And.intro ?_ ?_ | (intro hc; exact absurd hc (by decide)) | (intro hc; exfalso; omega) | (intro hc; (first | rw [wrap_small (by omega) (by omega)] at hc | rw [nI_eq] at hc | skip); try (conv => cbv))
      exact hK
    · rw [Bool.eq_false_iff.2 h1] at hval
      clear hfits hf h1
      simp only [intsA, intsD, boolsA, boolsD, rowsA, List.map_nil] at *
      generalize down.map encB = dl at *
      generalize A.map encI = al at *
      obtain ⟨nodes, ov, links⟩ := t
      simp only [topA, boolsD, linksD] at *
      generalize hol : ov.map encB = ol at *
      generalize hll : links.map encLk = ll at *
      have hlo : Λ ol = ov.length := by rw [Λo, ← hol]; simp
      have hls : Λ ll = links.length := by rw [Λo, ← hll]; simp
      conv => cbv
      repeat' first | (refine call_r hval rfl rfl ?_; conv => cbv) | (intro (_ : Unit); first | omega | rfl | exact ⟨rfl, by omega⟩ | (simp only [nI_eq]; omega) | ((repeat' first | rfl | omega | refine And.intro ?_ ?_ | (simp only [nI_eq]; omega) | (simp only [List.length_cons, List.length_nil]; omega) | exact Nat.le_of_ble_eq_true rfl); done)) | exact trivial | refine And.intro ?_ ?_ | (intro hc; exact absurd hc (by decide)) | (intro hc; exfalso; omega) | (intro hc; (first | rw [wrap_small (by omega) (by omega)] at hc | rw [nI_eq] at hc | skip); try (conv => cbv))
      exact hK

end Go.Ab

/-
  Groups: Dist, as the program and as the reference find it.
-/
namespace Go.Ab
open Go.Proofs

noncomputable def adistS (t : Top) (down : List Bool) (A : List Int) : List Int × Int := if anyB t A = true ∧ fitsB t down = true then (allS t down A, 0) else ([], 1)

theorem adist_ok (P : Program) (hP : P = Try.prog) (t : Top) (down : List Bool) (A : List Int) (hA : (A.length : Int) ≤ 2000000) : Ret P n_anycast_Dist [topA t, boolsA down, intsA A] (.tup [intsA (adistS t down A).1, iA (adistS t down A).2]) := by
  refine ret_start (hP ▸ mixed) (hP ▸ fn_anycast_Dist) (hP ▸ c_anycast_Dist) (Nat.le_of_ble_eq_true rfl) fun Λ Λo K hK => ?_
  have hd := adists_ok P hP t down A hA
  clear hP
  rw [adistS] at hK
  split at hK
  · rename_i h
    rw [if_pos h] at hd
    clear h
    simp only [intsA, intsD, boolsA, boolsD, rowsA] at *
    generalize (rowsS t down A).map encRow = rs at *
    generalize (allS t down A).map encI = zs at *
    generalize down.map encB = dl at *
    generalize A.map encI = al at *
    obtain ⟨nodes, ov, links⟩ := t
    simp only [topA, boolsD, linksD] at *
    generalize hol : ov.map encB = ol at *
    generalize hll : links.map encLk = ll at *
    have hlo : Λ ol = ov.length := by rw [Λo, ← hol]; simp
    have hls : Λ ll = links.length := by rw [Λo, ← hll]; simp
    conv => cbv
    repeat' first | (refine call_r hd rfl rfl ?_; conv => cbv) | (intro (_ : Unit); first | omega | rfl | exact ⟨rfl, by omega⟩ | (simp only [nI_eq]; omega) | ((repeat' first | rfl | omega | refine And.intro ?_ ?_ | (simp only [nI_eq]; omega) | (simp only [List.length_cons, List.length_nil]; omega) | exact Nat.le_of_ble_eq_true rfl); done)) | exact trivial | refine And.intro ?_ ?_ | (intro hc; exact absurd hc (by decide)) | (intro hc; exfalso; omega) | (intro hc; (first | rw [wrap_small (by omega) (by omega)] at hc | rw [nI_eq] at hc | skip); try (conv => cbv))
    exact hK
  · rename_i h
    rw [if_neg h] at hd
    clear h
    simp only [intsA, intsD, boolsA, boolsD, rowsA, List.map_nil] at *
    generalize down.map encB = dl at *
    generalize A.map encI = al at *
    obtain ⟨nodes, ov, links⟩ := t
    simp only [topA, boolsD, linksD] at *
    generalize hol : ov.map encB = ol at *
    generalize hll : links.map encLk = ll at *
    have hlo : Λ ol = ov.length := by rw [Λo, ← hol]; simp
    have hls : Λ ll = links.length := by rw [Λo, ← hll]; simp
    conv => cbv
    repeat' first | (refine call_r hd rfl rfl ?_; conv => cbv) | (intro (_ : Unit); first | omega | rfl | exact ⟨rfl, by omega⟩ | (simp only [nI_eq]; omega) | ((repeat' first | rfl | omega | refine And.intro ?_ ?_ | (simp only [nI_eq]; omega) | (simp only [List.length_cons, List.length_nil]; omega) | exact Nat.le_of_ble_eq_true rfl); done)) | exact trivial | refine And.intro ?_ ?_ | (intro hc; exact absurd hc (by decide)) | (intro hc; exfalso; omega) | (intro hc; (first | rw [wrap_small (by omega) (by omega)] at hc | rw [nI_eq] at hc | skip); try (conv => cbv))
    exact hK

theorem mrg_ref {a d : Int} (ha : -1 ≤ a) (hd : -1 ≤ d) : mrg a d = if 0 ≤ d ∧ (a < 0 ∨ d < a) then d else a := by
  unfold mrg; repeat' split
  all_goals omega

theorem mrg_lo {a d : Int} (ha : -1 ≤ a) (hd : -1 ≤ d) : -1 ≤ mrg a d := by
  unfold mrg; repeat' split
  all_goals omega

theorem fold_lo : ∀ (l : List Int) (a : Int), -1 ≤ a → (∀ x ∈ l, -1 ≤ x) → -1 ≤ l.foldl mrg a
  | [], a, h, _ => h
  | x :: l, a, h, hl => fold_lo l _ (mrg_lo h (hl x (by simp))) fun y hy => hl y (by simp [hy])

set_option maxHeartbeats 4000000 in
theorem radist_ok (P : Program) (hP : P = Try.prog) (t : Top) (down : List Bool) (A : List Int) (hA : (A.length : Int) ≤ 2000000) : Ret P n_ref16_Dist [topA t, boolsA down, intsA A] (.tup [intsA (adistS t down A).1, iA (adistS t down A).2]) := by
  refine ret_start (hP ▸ mixed) (hP ▸ fn_ref16_Dist) (hP ▸ c_ref16_Dist) (Nat.le_of_ble_eq_true rfl) fun Λ Λo K hK => ?_
  have hval := rvalid16_ok P hP t A hA
  have hfits := fits_ok P hP t down
  have hdist := fun m => dist_ok P hP t down m
  clear hP
  rw [adistS] at hK
  split at hK
  · rename_i hf
    obtain ⟨hv, hl0, hok⟩ := of_decide_eq_true hf.1
    have hdd : ∀ m : Int, 0 ≤ m → m < t.nodes → Ret P n_ref11_Dist [topA t, boolsA down, iA m] (.tup [intsA (distS t down m false), iA 0]) := fun m h0 h1 => by
      have := hdist m
      rw [searchS, if_pos hf.2, if_pos ⟨h0, h1⟩] at this
      exact this
    have hsp : ∀ m : Int, 0 ≤ m → m < t.nodes → ((distS t down m false).length : Int) = t.nodes := fun m h0 h1 => (distS_spec hv down false h0 h1).1.len
    have hsb : ∀ m : Int, 0 ≤ m → m < t.nodes → ∀ i, 0 ≤ i → i < t.nodes → -1 ≤ gt (distS t down m false) i := fun m h0 h1 i i0 i1 => ((distS_spec hv down false h0 h1).2 i i0 i1).1
    have hmem : ∀ m ∈ A, 0 ≤ m ∧ m < t.nodes := fun m hm => by
      obtain ⟨k, hk, e⟩ := List.mem_iff_getElem.1 hm
      have := hok k hk
      rw [okAt, List.getD_eq_getElem?_getD, List.getElem?_eq_getElem hk, Option.getD_some, e] at this
      exact ⟨this.1, this.2.1⟩
    rw [hf.1] at hval
    rw [hf.2] at hfits
    clear hdist hf
    have v1 := validT_spec.1 hv
    obtain ⟨nn, hnn⟩ : ∃ x : Nat, (x : Int) = t.nodes := ⟨t.nodes.toNat, by omega⟩
    obtain ⟨nodes, hN⟩ : ∃ x, x = t.nodes := ⟨_, rfl⟩
    obtain ⟨ol, hol⟩ : ∃ x, x = t.ov.map encB := ⟨_, rfl⟩
    obtain ⟨ll, hll⟩ : ∃ x, x = t.links.map encLk := ⟨_, rfl⟩
    obtain ⟨dl, hdl⟩ : ∃ x, x = down.map encB := ⟨_, rfl⟩
    obtain ⟨al, hal⟩ : ∃ x, x = A.map encI := ⟨_, rfl⟩
    have lal : Λ al = A.length := by rw [Λo, hal]; simp
    have k1 : ∀ zs, zs = (allS t down A).map encI → K (.tup [.c (.d (.list false 1 zs)), iA 0]) := fun zs h2 => by rw [h2]; exact hK
    clear hK
    simp only [topA, boolsA, boolsD, linksD, intsA, intsD, ← hN, ← hol, ← hll, ← hdl, ← hal] at hval hfits hdd ⊢
    clear hol hll hdl
    conv => cbv
    repeat' first | (refine call_r hval rfl rfl ?_; conv => cbv) | (refine call_r hfits rfl rfl ?_; conv => cbv) | (intro (_ : Unit); first | omega | rfl | exact ⟨rfl, by omega⟩ | (simp only [nI_eq]; omega) | ((repeat' first | rfl | omega | refine And.intro ?_ ?_ | (simp only [nI_eq]; omega) | (simp only [List.length_cons, List.length_nil]; omega) | exact Nat.le_of_ble_eq_true rfl); done)) | exact trivial | refine And.intro ?_ ?_ | (intro hc; exact absurd hc (by decide)) | (intro hc; exfalso; omega) | (intro hc; (first | rw [wrap_small (by omega) (by omega)] at hc | rw [nI_eq] at hc | skip); try (conv => cbv))
    rename_i k0 es0 hk0
    have hk1 : k0 = nn := by omega
    subst hk1
    rw [show nodes.toNat = k0 by omega] at hc
    clear hval hfits
    refine loop_up k0 (fun (s : Int × List (List D)) => [(1, .c (.d (.list false 1 dl))), (2, .c (.d (.list false 1 al))), (3, .c (.ptr 0 0 0 0)), (8, .c (.arr 1 0 0 k0)), (9, iA s.1)]) (fun s => [.bx [.d (iD nodes), .d (.list false 1 ol), .d (.list false 7 ll)], .da true 0 1 s.2]) (fun k s => s.1 = k ∧ k ≤ k0 ∧ s.2 = (List.replicate k (-1) ++ List.replicate (k0 - k) 0).map encI) (0, es0) (Wk.cut ⟨[], rfl⟩ (Nat.le_of_ble_eq_true rfl) rfl (by repeat' first | exact trivial | refine And.intro ?_ ?_ | rfl)) ⟨rfl, by omega, by rw [hc]; simp [encI]⟩ (fun k s h => h.2.1) ?_
    rintro j ⟨i, es⟩ Q' ⟨hi, hk, hes⟩ norm ex rt
    simp only at hi hes
    have lel : es.length = k0 := by rw [hes]; simp; omega
    by_cases hlt : j < k0
    · have hfs := fillq_set (-1 : Int) 0 hlt
      have hei : es[j]? = some [iD 0] := by
        rw [hes, List.getElem?_map, fillq_get (-1 : Int) 0 hk, if_neg (by omega), if_pos hlt]; rfl
      clear hdd hsp hsb hok k1
      conv => cbv
      repeat' first | (refine ex _ _ _ ?_; (conv => cbv)) | (refine rt _ _ ?_; (conv => cbv)) | (intro (k : Nat) hk; refine (fun (hz : j = k) => ?_) ?_; rotate_left; omega; subst hz; (conv => cbv)) | (intro (e : List D) he; cases Option.some.inj (he.symm.trans hei); (conv => cbv)) | (intro (_ : Unit); first | omega | rfl | exact ⟨rfl, by omega⟩ | (simp only [nI_eq]; omega) | ((repeat' first | rfl | omega | refine And.intro ?_ ?_ | (simp only [nI_eq]; omega) | (simp only [List.length_cons, List.length_nil]; omega) | exact Nat.le_of_ble_eq_true rfl); done)) | exact trivial | refine And.intro ?_ ?_ | (intro hc; exact absurd hc (by decide)) | (intro hc; exfalso; omega) | (intro hc; (first | rw [wrap_small (by omega) (by omega)] at hc | rw [nI_eq] at hc | skip); try (conv => cbv))
      rename_i es' hes' i'
      refine norm _ _ (i', es') ⟨by simp only; omega, by omega, ?_⟩ (Wk.cut ⟨[], rfl⟩ (Nat.le_of_ble_eq_true rfl) rfl (by repeat' first | exact trivial | refine And.intro ?_ ?_ | rfl))
      simp only
      rw [hes', hes, ← hfs, List.map_set]; rfl
    have e : j = k0 := by omega
    subst e
    rw [Nat.sub_self] at hes
    simp only [List.replicate_zero, List.append_nil] at hes
    have hes : es = (allS t down (A.take 0)).map encI := by
      rw [hes, allS, show t.nodes.toNat = j by omega]
      congr 1
      refine List.ext_getElem (by simp) fun p h1 h2 => by simp [rowsS]
    conv => cbv
    repeat' first | (refine ex _ _ _ ?_; (conv => cbv)) | (refine rt _ _ ?_; (conv => cbv)) | (intro (_ : Unit); first | omega | rfl | exact ⟨rfl, by omega⟩ | (simp only [nI_eq]; omega) | ((repeat' first | rfl | omega | refine And.intro ?_ ?_ | (simp only [nI_eq]; omega) | (simp only [List.length_cons, List.length_nil]; omega) | exact Nat.le_of_ble_eq_true rfl); done)) | exact trivial | refine And.intro ?_ ?_ | (intro hc; exact absurd hc (by decide)) | (intro hc; exfalso; omega) | (intro hc; (first | rw [wrap_small (by omega) (by omega)] at hc | rw [nI_eq] at hc | skip); try (conv => cbv))
    clear norm ex rt
    refine loop_up A.length (fun (s : Int × List (List D)) => [(1, .c (.d (.list false 1 dl))), (2, .c (.d (.list false 1 al))), (3, .c (.ptr 0 0 0 0)), (8, .c (.arr 1 0 0 j)), (10, iA s.1)]) (fun s => [.bx [.d (iD nodes), .d (.list false 1 ol), .d (.list false 7 ll)], .da true 0 1 s.2]) (fun k s => s.1 = k ∧ k ≤ A.length ∧ s.2 = (allS t down (A.take k)).map encI) (0, es) (Wk.cut ⟨[], rfl⟩ (Nat.le_of_ble_eq_true rfl) rfl (by repeat' first | exact trivial | refine And.intro ?_ ?_ | rfl)) ⟨rfl, by omega, hes⟩ (fun k s h => h.2.1) ?_
    clear hes lel hlt hk hi
    rintro k ⟨i, zl⟩ Q' ⟨hi, hk, hzl⟩ norm ex rt
    simp only at hi hzl
    by_cases hlt : k < A.length
    · obtain ⟨m, hm⟩ : ∃ m, A[k]? = some m := ⟨_, List.getElem?_eq_getElem hlt⟩
      have hra : al[i.toNat]? = some [iD m] := by rw [hi, Int.toNat_natCast, hal, List.getElem?_map, hm]; rfl
      have hmo := hmem m (List.mem_of_getElem? hm)
      have hdm := hdd m hmo.1 (by omega)
      have lenD := hsp m hmo.1 hmo.2
      have bndD := hsb m hmo.1 hmo.2
      have hnew := fun i h => allS_succ (t := t) (down := down) hm (i := i) h
      have hlow : ∀ p : Nat, p < j → -1 ≤ gt (allS t down (A.take k)) p := fun p hp => by
        have := allS_at (t := t) (down := down) (A := A.take k) (i := p) (by omega)
        rw [gt, List.getD_eq_getElem?_getD, Int.toNat_natCast, this, Option.getD_some]
        refine fold_lo _ _ (by omega) fun x hx => ?_
        simp only [rowsS, List.mem_map] at hx
        obtain ⟨E, ⟨q, hq, rfl⟩, rfl⟩ := hx
        have hq2 := hmem q (List.mem_of_mem_take hq)
        exact hsb q hq2.1 hq2.2 p (by omega) (by omega)
      obtain ⟨E, hE⟩ : ∃ l, l = distS t down m false := ⟨_, rfl⟩
      rw [← hE] at hdm lenD bndD hnew
      obtain ⟨dd, hdd2⟩ : ∃ l, l = E.map encI := ⟨_, rfl⟩
      rw [← hdd2] at hdm
      have ldd : Λ dd = j := by rw [Λo, hdd2]; simp; omega
      obtain ⟨A0, h0, l0, hlow, hmg⟩ : ∃ A0 : List Int, zl = A0.map encI ∧ A0.length = j ∧ (∀ p : Nat, p < j → -1 ≤ gt A0 p) ∧ ∀ p : Nat, p < j → (allS t down (A.take (k + 1)))[p]? = some (mrg (gt A0 p) (gt E p)) := by
        refine ⟨allS t down (A.take k), hzl, by rw [allS_len]; omega, hlow, fun p hp => ?_⟩
        rw [hnew p (by omega)]
        congr 2
        have := allS_at (t := t) (down := down) (A := A.take k) (i := p) (by omega)
        rw [gt, List.getD_eq_getElem?_getD, Int.toNat_natCast, this]; rfl
      clear hdd hsp hsb k1
      conv => cbv
      repeat' first | (refine ex _ _ _ ?_; (conv => cbv)) | (refine rt _ _ ?_; (conv => cbv)) | (intro (e : List D) he; cases Option.some.inj (he.symm.trans hra); (conv => cbv)) | (refine call_r hdm rfl rfl ?_; conv => cbv) | (intro (_ : Unit); first | omega | rfl | exact ⟨rfl, by omega⟩ | (simp only [nI_eq]; omega) | ((repeat' first | rfl | omega | refine And.intro ?_ ?_ | (simp only [nI_eq]; omega) | (simp only [List.length_cons, List.length_nil]; omega) | exact Nat.le_of_ble_eq_true rfl); done)) | exact trivial | refine And.intro ?_ ?_ | (intro hc; exact absurd hc (by decide)) | (intro hc; exfalso; omega) | (intro hc; (first | rw [wrap_small (by omega) (by omega)] at hc | rw [nI_eq] at hc | skip); try (conv => cbv))
      refine loop_up j (fun (s : Int × List (List D)) => [(1, .c (.d (.list false 1 dl))), (2, .c (.d (.list false 1 al))), (3, .c (.ptr 0 0 0 0)), (8, .c (.arr 1 0 0 j)), (10, iA i), (11, .c (.d (.list false 1 dd))), (13, iA s.1)])
          (fun s => [.bx [.d (iD nodes), .d (.list false 1 ol), .d (.list false 7 ll)], .da true 0 1 s.2])
          (fun q s => s.1 = q ∧ q ≤ j ∧ ∃ B : List Int, s.2 = B.map encI ∧ B.length = j ∧ ∀ p : Nat, p < j → gt B p = if p < q then mrg (gt A0 p) (gt E p) else gt A0 p) (0, zl) (Wk.cut ⟨[], rfl⟩ (Nat.le_of_ble_eq_true rfl) rfl (by repeat' first | exact trivial | refine And.intro ?_ ?_ | rfl)) ⟨rfl, Nat.zero_le _, A0, h0, l0, fun p hp => by simp⟩ (fun k s h => h.2.1) ?_
      rintro q ⟨qq, bl⟩ Q2 ⟨hq, hqn, B, hB, lB, hpt⟩ nrm ex rt
      simp only at hq hB
      by_cases hqlt : q < j
      · have hde : dd[qq.toNat]? = some [iD (gt E q)] := by rw [hq, Int.toNat_natCast, hdd2]; exact encI_at (by omega)
        have hbe : bl[q]? = some [iD (gt B q)] := by rw [hB]; exact encI_at (by omega)
        have hbj := hpt q hqlt
        rw [if_neg (Nat.lt_irrefl _)] at hbj
        have lbl : bl.length = j := by rw [hB, List.length_map]; exact lB
        have hrf := mrg_ref (hbj ▸ hlow q hqlt) (bndD q (by omega) (by omega))
        have stp : ∀ v x, v = mrg (gt B q) (gt E q) → x = bl.set q [iD v] → ∃ B' : List Int, x = B'.map encI ∧ B'.length = j ∧ ∀ p : Nat, p < j → gt B' p = if p < q + 1 then mrg (gt A0 p) (gt E p) else gt A0 p := fun v x h1 h2 => by
          refine ⟨B.set ((q : Int)).toNat v, ?_, by rw [List.length_set]; exact lB, fun p hp => ?_⟩
          · rw [h2, hB, encI_set, Int.toNat_natCast]
          · rw [gt_setD (by omega) (by omega) p (by omega)]
            by_cases e : p = q
            · rw [if_pos (by omega), if_pos (by omega), h1, hbj, e]
            · rw [if_neg (by omega), hpt p hp]
              by_cases e2 : p < q
              · rw [if_pos e2, if_pos (by omega)]
              · rw [if_neg e2, if_neg (by omega)]
        have skp : mrg (gt B q) (gt E q) = gt B q → ∃ B' : List Int, bl = B'.map encI ∧ B'.length = j ∧ ∀ p : Nat, p < j → gt B' p = if p < q + 1 then mrg (gt A0 p) (gt E p) else gt A0 p := fun h1 => by
          refine ⟨B, hB, lB, fun p hp => ?_⟩
          by_cases e : p = q
          · rw [if_pos (by omega), e, ← hbj, h1]
          · rw [hpt p hp]
            by_cases e2 : p < q
            · rw [if_pos e2, if_pos (by omega)]
            · rw [if_neg e2, if_neg (by omega)]
        obtain ⟨b, hb⟩ : ∃ b, b = gt B q := ⟨_, rfl⟩
        obtain ⟨e, he⟩ : ∃ e, e = gt E q := ⟨_, rfl⟩
        rw [← hb] at hbe stp skp hrf
        rw [← he] at hde stp skp hrf
        clear hpt norm hbj hb he hlow bndD
        have stp := fun h => stp e (bl.set q [iD e]) (hrf.trans (if_pos h)).symm rfl
        have skp := fun h => skp (hrf.trans (if_neg h))
        clear hrf
        conv => cbv
        repeat' first | (refine ex _ _ _ ?_; (conv => cbv)) | (refine rt _ _ ?_; (conv => cbv)) | (intro (k : Nat) hk; refine (fun (hz : q = k) => ?_) ?_; rotate_left; omega; subst hz; (conv => cbv)) | (intro (e : List D) he; cases Option.some.inj (he.symm.trans hde); (conv => cbv)) | (intro (e : List D) he; cases Option.some.inj (he.symm.trans hbe); (conv => cbv)) | (intro (_ : Unit); first | omega | rfl | exact ⟨rfl, by omega⟩ | (simp only [nI_eq]; omega) | ((repeat' first | rfl | omega | refine And.intro ?_ ?_ | (simp only [nI_eq]; omega) | (simp only [List.length_cons, List.length_nil]; omega) | exact Nat.le_of_ble_eq_true rfl); done)) | exact trivial | refine And.intro ?_ ?_ | (intro hc; exact absurd hc (by decide)) | (intro hc; exfalso; omega) | (intro hc; (first | rw [wrap_small (by omega) (by omega)] at hc | rw [nI_eq] at hc | skip); try (conv => cbv))
        all_goals first
          | (rename_i x hx j'; have hx : x = bl.set q [iD e] := hx; subst hx; exact nrm _ _ (j', _) ⟨by simp only; omega, by omega, stp (by omega)⟩ (Wk.cut ⟨[], rfl⟩ (Nat.le_of_ble_eq_true rfl) rfl (by repeat' first | exact trivial | refine And.intro ?_ ?_ | rfl)))
          | (rename_i j'; exact nrm _ _ (j', bl) ⟨by simp only; omega, by omega, skp (by omega)⟩ (Wk.cut ⟨[], rfl⟩ (Nat.le_of_ble_eq_true rfl) rfl (by repeat' first | exact trivial | refine And.intro ?_ ?_ | rfl)))
      · have e : q = j := by omega
        conv => cbv
        repeat' first | (refine ex _ _ _ ?_; (conv => cbv)) | (refine rt _ _ ?_; (conv => cbv)) | (intro (_ : Unit); first | omega | rfl | exact ⟨rfl, by omega⟩ | (simp only [nI_eq]; omega) | ((repeat' first | rfl | omega | refine And.intro ?_ ?_ | (simp only [nI_eq]; omega) | (simp only [List.length_cons, List.length_nil]; omega) | exact Nat.le_of_ble_eq_true rfl); done)) | exact trivial | refine And.intro ?_ ?_ | (intro hc; exact absurd hc (by decide)) | (intro hc; exfalso; omega) | (intro hc; (first | rw [wrap_small (by omega) (by omega)] at hc | rw [nI_eq] at hc | skip); try (conv => cbv))
        rename_i i'
        have e2 : bl = (allS t down (A.take (k + 1))).map encI := by
          rw [hB]
          congr 1
          refine List.ext_getElem? fun p => ?_
          rcases Nat.lt_or_ge p j with hp | hp
          · have h1 := hpt p hp
            rw [if_pos (by omega)] at h1
            rw [hmg p hp, ← h1, gt, List.getD_eq_getElem?_getD, Int.toNat_natCast, List.getElem?_eq_getElem (by omega)]; rfl
          · rw [List.getElem?_eq_none (by omega), List.getElem?_eq_none (by rw [allS_len]; omega)]
        exact norm _ _ (i', bl) ⟨by simp only; omega, by omega, e2⟩ (Wk.cut ⟨[], rfl⟩ (Nat.le_of_ble_eq_true rfl) rfl (by repeat' first | exact trivial | refine And.intro ?_ ?_ | rfl))
    · conv => cbv
      repeat' first | (refine ex _ _ _ ?_; (conv => cbv)) | (refine rt _ _ ?_; (conv => cbv)) | (intro (_ : Unit); first | omega | rfl | exact ⟨rfl, by omega⟩ | (simp only [nI_eq]; omega) | ((repeat' first | rfl | omega | refine And.intro ?_ ?_ | (simp only [nI_eq]; omega) | (simp only [List.length_cons, List.length_nil]; omega) | exact Nat.le_of_ble_eq_true rfl); done)) | exact trivial | refine And.intro ?_ ?_ | (intro hc; exact absurd hc (by decide)) | (intro hc; exfalso; omega) | (intro hc; (first | rw [wrap_small (by omega) (by omega)] at hc | rw [nI_eq] at hc | skip); try (conv => cbv))
      rename_i ls
      exact k1 _ (by rw [hc, List.drop_zero, List.take_of_length_le (by rw [hzl, List.length_map, allS_len]; omega), hzl, List.take_of_length_le (by omega)])
  · rename_i hf
    clear hdist
    by_cases h1 : anyB t A = true
    · have h2 : fitsB t down = false := by
        cases h : fitsB t down
        · rfl
        · exact absurd ⟨h1, h⟩ hf
      rw [h1] at hval
      rw [h2] at hfits
      clear hf h1 h2
      simp only [intsA, intsD, boolsA, boolsD, List.map_nil] at *
      generalize down.map encB = dl at *
      generalize A.map encI = al at *
      obtain ⟨nodes, ov, links⟩ := t
      simp only [topA, boolsD, linksD] at *
      generalize hol : ov.map encB = ol at *
      generalize hll : links.map encLk = ll at *
      have hlo : Λ ol = ov.length := by rw [Λo, ← hol]; simp
      have hls : Λ ll = links.length := by rw [Λo, ← hll]; simp
      conv => cbv
      repeat' first | (refine call_r hval rfl rfl ?_; conv => cbv) | (refine call_r hfits rfl rfl ?_; conv => cbv) | (intro (_ : Unit); first | omega | rfl | exact ⟨rfl, by omega⟩ | (simp only [nI_eq]; omega) | ((repeat' first | rfl | omega | refine And.intro ?_ ?_ | (simp only [nI_eq]; omega) | (simp only [List.length_cons, List.length_nil]; omega) | exact Nat.le_of_ble_eq_true rfl); done)) | exact trivial | refine And.intro ?_ ?_ | (intro hc; exact absurd hc (by decide)) | (intro hc; exfalso; omega) | (intro hc; (first | rw [wrap_small (by omega) (by omega)] at hc | rw [nI_eq] at hc | skip); try (conv => cbv))
      exact hK
    · rw [Bool.eq_false_iff.2 h1] at hval
      clear hfits hf h1
      simp only [intsA, intsD, boolsA, boolsD, List.map_nil] at *
      generalize down.map encB = dl at *
      generalize A.map encI = al at *
      obtain ⟨nodes, ov, links⟩ := t
      simp only [topA, boolsD, linksD] at *
      generalize hol : ov.map encB = ol at *
      generalize hll : links.map encLk = ll at *
      have hlo : Λ ol = ov.length := by rw [Λo, ← hol]; simp
      have hls : Λ ll = links.length := by rw [Λo, ← hll]; simp
      conv => cbv
      repeat' first | (refine call_r hval rfl rfl ?_; conv => cbv) | (intro (_ : Unit); first | omega | rfl | exact ⟨rfl, by omega⟩ | (simp only [nI_eq]; omega) | ((repeat' first | rfl | omega | refine And.intro ?_ ?_ | (simp only [nI_eq]; omega) | (simp only [List.length_cons, List.length_nil]; omega) | exact Nat.le_of_ble_eq_true rfl); done)) | exact trivial | refine And.intro ?_ ?_ | (intro hc; exact absurd hc (by decide)) | (intro hc; exfalso; omega) | (intro hc; (first | rw [wrap_small (by omega) (by omega)] at hc | rw [nI_eq] at hc | skip); try (conv => cbv))
      exact hK

end Go.Ab

/-
  Shortest paths, part e: the routes of a node.
-/
namespace Go.Ab
open Go.Proofs

noncomputable def toL (t : Top) (down : List Bool) (n : Int) (k : Nat) : List Ety := (arcsTo k).map fun d => ⟨(nextS t down n d).1, false, []⟩
def downL (t : Top) (down : List Bool) (n : Int) : List Int := (outT t n).filter fun a => !upB down a
noncomputable def routesS (t : Top) (down : List Bool) (n : Int) : Tab × Int :=
  if fitsB t down = true then (if 0 ≤ n ∧ n < t.nodes then (⟨n, toL t down n t.nodes.toNat, downL t down n⟩, 0) else (⟨0, [], []⟩, 2)) else (⟨0, [], []⟩, 1)
end Go.Ab

/-
  Shortest paths, part f: distances of a given topology by checking; a ring of four nodes.
-/
namespace Go.Ab
open Go.Proofs

def isDistB (t : Top) (down : List Bool) (e : Int) (fr : Bool) (D : List Int) : Bool :=
  decide ((D.length : Int) = t.nodes) && decide (gt D e = 0) && ((List.range D.length).all fun i => decide (-1 ≤ gt D (i : Nat))) &&
  ((List.range (2 * t.links.length)).all fun a => !(okArc t down e fr (a : Nat) && decide (0 ≤ gt D (yOf t fr (a : Nat)))) || (decide (0 ≤ gt D (xOf t fr (a : Nat))) && decide (gt D (xOf t fr (a : Nat)) ≤ gt D (yOf t fr (a : Nat)) + costT t (a : Nat)))) &&
  ((List.range D.length).all fun x => decide ((x : Int) = e) || decide (gt D (x : Nat) < 0) || (List.range (2 * t.links.length)).any fun a => okArc t down e fr (a : Nat) && decide (xOf t fr (a : Nat) = (x : Nat)) && decide (0 ≤ gt D (yOf t fr (a : Nat))) && decide (gt D (x : Nat) = gt D (yOf t fr (a : Nat)) + costT t (a : Nat)))

theorem isDistB_ok {t : Top} {down : List Bool} {e : Int} {fr : Bool} {D : List Int} (h : isDistB t down e fr D = true) : IsDist t down e fr D := by
  simp only [isDistB, Bool.and_eq_true, decide_eq_true_eq, List.all_eq_true, List.mem_range, Bool.or_eq_true, Bool.not_eq_true', List.any_eq_true] at h
  obtain ⟨⟨⟨⟨h1, h2⟩, h3⟩, h4⟩, h5⟩ := h
  refine ⟨h1, h2, fun i i0 i1 => ?_, fun a a0 a1 => ?_, fun x x0 x1 hx hd => ?_⟩
  · have := h3 i.toNat (by omega)
    rw [show ((i.toNat : Nat) : Int) = i by omega] at this; exact this
  · have := h4 a.toNat (by omega)
    rw [show ((a.toNat : Nat) : Int) = a by omega] at this
    intro ho hy
    rcases this with h | h
    · rw [ho, decide_eq_true hy] at h; cases h
    · exact h
  · have := h5 x.toNat (by omega)
    rw [show ((x.toNat : Nat) : Int) = x by omega] at this
    rcases this with (h | h) | ⟨a, ha, ⟨⟨q1, q2⟩, q3⟩, q4⟩
    · exact absurd h hx
    · omega
    · exact ⟨a, by omega, by omega, q1, q2, q3, q4⟩

def ringT : Top := ⟨4, [], [⟨0, 1, 1, 1, 0, 1, 0⟩, ⟨1, 2, 1, 1, 0, 1, 0⟩, ⟨2, 3, 1, 1, 0, 1, 0⟩, ⟨3, 0, 1, 1, 0, 1, 0⟩]⟩
def ringX : Tab := ⟨0, [⟨[], false, []⟩, ⟨[0], false, []⟩, ⟨[0, 7], false, []⟩, ⟨[7], false, []⟩], []⟩

theorem ring_valid : validT ringT = true := by decide
theorem ring_d0 : distS ringT [] 0 false = [0, 1, 2, 1] := distS_eq ring_valid (isDistB_ok (by decide))
theorem ring_d1 : distS ringT [] 1 false = [1, 0, 1, 2] := distS_eq ring_valid (isDistB_ok (by decide))
theorem ring_d2 : distS ringT [] 2 false = [2, 1, 0, 1] := distS_eq ring_valid (isDistB_ok (by decide))
theorem ring_d3 : distS ringT [] 3 false = [1, 2, 1, 0] := distS_eq ring_valid (isDistB_ok (by decide))
theorem ring_next {d : Int} {D l : List Int} (hd : distS ringT [] d false = D) (h0 : 0 ≤ d ∧ d < ringT.nodes) (h : nextL ringT [] D 0 d = l) : nextS ringT [] 0 d = (l, 0) := by
  rw [nextS, if_pos (by decide), if_pos h0, if_pos (by decide), hd, h]
theorem ring_routes : routesS ringT [] 0 = (ringX, 0) := by
  have n0 := ring_next ring_d0 (by decide) (l := []) (by decide)
  have n1 := ring_next ring_d1 (by decide) (l := [0]) (by decide)
  have n2 := ring_next ring_d2 (by decide) (l := [0, 7]) (by decide)
  have n3 := ring_next ring_d3 (by decide) (l := [7]) (by decide)
  rw [routesS, if_pos (by decide), if_pos (by decide)]
  have e1 : toL ringT [] 0 ringT.nodes.toNat = ringX.to := by
    show (arcsTo 4).map _ = _
    rw [show arcsTo 4 = [0, 1, 2, 3] by decide]
    simp only [List.map_cons, List.map_nil, n0, n1, n2, n3]
    rfl
  have e2 : downL ringT [] 0 = [] := by decide
  rw [e1, e2]
  rfl
end Go.Ab

/-
  Functions that runs do not go through: read off the machine's values.
-/
namespace Go.Ab
open Go.Proofs

def decL {α : Type} (f : List D → Option α) : List (List D) → Option (List α)
  | [] => some []
  | x :: r => match f x, decL f r with
    | some a, some l => some (a :: l)
    | _, _ => none

theorem decL_ok {α : Type} {f : List D → Option α} {g : α → List D} (hf : ∀ x a, f x = some a → x = g a) : ∀ {l : List (List D)} {r : List α}, decL f l = some r → l = r.map g := by
  intro l
  induction l with
  | nil => intro r h; simp only [decL, Option.some.injEq] at h; subst h; rfl
  | cons x l ih =>
    intro r h
    simp only [decL] at h
    split at h
    · rename_i a q h1 h2
      cases h
      rw [hf x a h1, ih h2]; rfl
    · cases h

def decI : List D → Option Int
  | [.int .i64 n] => some n
  | _ => none
theorem decI_ok (x : List D) (a : Int) (h : decI x = some a) : x = encI a := by
  unfold decI at h
  split at h
  · cases h; rfl
  · cases h
def decB : List D → Option Bool
  | [.bool b] => some b
  | _ => none
theorem decB_ok (x : List D) (a : Bool) (h : decB x = some a) : x = encB a := by
  unfold decB at h
  split at h
  · cases h; rfl
  · cases h
def decSeg : List D → Option Seg
  | [.int .i64 k, .int .i64 n] => some ⟨k, n⟩
  | _ => none
theorem decSeg_ok (x : List D) (a : Seg) (h : decSeg x = some a) : x = encSeg a := by
  unfold decSeg at h
  split at h
  · cases h; rfl
  · cases h
def decLk : List D → Option Lk
  | [.int .i64 a, .int .i64 b, .int .i64 c, .int .i64 d, .int .i64 e, .int .i64 f, .int .i64 g] => some ⟨a, b, c, d, e, f, g⟩
  | _ => none
theorem decLk_ok (x : List D) (a : Lk) (h : decLk x = some a) : x = encLk a := by
  unfold decLk at h
  split at h
  · cases h; rfl
  · cases h
def decEnt : List D → Option Ety
  | [.list false 1 a, .bool r, .list false 2 p] => match decL decI a, decL decSeg p with
    | some a, some p => some ⟨a, r, p⟩
    | _, _ => none
  | _ => none
theorem decEnt_ok (x : List D) (a : Ety) (h : decEnt x = some a) : x = encEnt a := by
  unfold decEnt at h
  split at h
  · split at h
    · rename_i a r p a' p' h1 h2
      cases h
      rw [decL_ok decI_ok h1, decL_ok decSeg_ok h2]; rfl
    · cases h
  · cases h

def decTop : AV → Option Top
  | .agg [.d (.int .i64 n), .d (.list false 1 ol), .d (.list false 7 ll)] => match decL decB ol, decL decLk ll with
    | some o, some l => some ⟨n, o, l⟩
    | _, _ => none
  | _ => none
theorem decTop_ok {x : AV} {t : Top} (h : decTop x = some t) : x = topA t := by
  unfold decTop at h
  split at h
  · split at h
    · rename_i n ol ll o l h1 h2
      cases h
      rw [decL_ok decB_ok h1, decL_ok decLk_ok h2]; rfl
    · cases h
  · cases h
def decTab : AV → Option Tab
  | .agg [.d (.int .i64 n), .d (.list false 3 tl), .d (.list false 1 dl)] => match decL decEnt tl, decL decI dl with
    | some o, some l => some ⟨n, o, l⟩
    | _, _ => none
  | _ => none
theorem decTab_ok {x : AV} {t : Tab} (h : decTab x = some t) : x = tabA t := by
  unfold decTab at h
  split at h
  · split at h
    · rename_i n ol ll o l h1 h2
      cases h
      rw [decL_ok decEnt_ok h1, decL_ok decI_ok h2]; rfl
    · cases h
  · cases h
end Go.Ab

/-
  Functions that runs do not go through: distances on a line.
-/
namespace Go.Ab
open Go.Proofs

def lineD (t : Top) (n : Int) : List Int := (List.range t.nodes.toNat).map fun (i : Nat) => if (i : Int) < n then n - i else i - n
def isLine (t : Top) (n : Int) : Bool := validT t && decide (0 ≤ n) && decide (n < t.nodes) && isDistB t [] n false (lineD t n)

theorem isLine_ok {t : Top} {n : Int} (h : isLine t n = true) : validT t = true ∧ 0 ≤ n ∧ n < t.nodes ∧ distS t [] n false = lineD t n := by
  simp only [isLine, Bool.and_eq_true, decide_eq_true_eq] at h
  exact ⟨h.1.1.1, h.1.1.2, h.1.2, distS_eq h.1.1.1 (isDistB_ok h.2)⟩

theorem fitsB_nil {t : Top} (h : validT t = true) : fitsB t [] = true := by simp [fitsB, h]

def natLD : List AV → Option AV
  | [a, .c (.d (.list false 1 [])), .c (.d (.int .i64 n))] => match decTop a with
    | some t => (match isLine t n with
      | true => some (.tup [intsA (lineD t n), iA 0])
      | false => none)
    | none => none
  | _ => none
theorem natLD_ok (args : List AV) (r : AV) (h : natLD args = some r) : FnS Try.prog n_spf_Dist args [] fun r' _ => r' = r := by
  unfold natLD at h
  split at h
  · split at h
    · rename_i a n _ t h1
      split at h
      · rename_i h2
        cases h
        obtain ⟨hv, h0, h3, h4⟩ := isLine_ok h2
        have := sdist_ok Try.prog rfl t [] n
        rw [searchS, if_pos (fitsB_nil hv), if_pos ⟨h0, h3⟩, h4] at this
        rw [decTop_ok h1]
        exact this.mono fun _ _ h => h.2
      · cases h
    · cases h
  · cases h


def allL (t : Top) (rows : List (List Int)) : List Int := (List.range t.nodes.toNat).map fun (i : Nat) => (rows.map fun D => gt D i).foldl mrg (-1)

def natAD : List AV → Option AV
  | [a, .c (.d (.list false 1 [])), .c (.d (.list false 1 l))] => match decTop a, decL decI l with
    | some t, some A => (match anyB t A && (A.all fun m => isLine t m) && decide (A.length ≤ 20) with
      | true => some (.tup [rowsA (A.map fun m => lineD t m), intsA (allL t (A.map fun m => lineD t m)), iA 0])
      | false => none)
    | _, _ => none
  | _ => none
theorem natAD_ok (args : List AV) (r : AV) (h : natAD args = some r) : FnS Try.prog n_anycast_dists args [] fun r' _ => r' = r := by
  unfold natAD at h
  split at h
  · split at h
    · rename_i a l _ _ t A h1 h1'
      split at h
      · rename_i h2
        cases h
        simp only [Bool.and_eq_true, List.all_eq_true, decide_eq_true_eq] at h2
        have hv := (of_decide_eq_true h2.1.1).1
        have hr : rowsS t [] A = A.map fun m => lineD t m := by
          rw [rowsS]
          exact List.map_congr_left fun m hm => (isLine_ok (h2.1.2 m hm)).2.2.2
        have := adists_ok Try.prog rfl t [] A (by omega)
        rw [if_pos ⟨h2.1.1, fitsB_nil hv⟩, hr, allS, hr] at this
        rw [decTop_ok h1, decL_ok decI_ok h1']
        exact this.mono fun _ _ h => h.2
      · cases h
    · cases h
  · cases h

end Go.Ab

/-
  Runs of closed calls (printed by mktab.py).
-/
namespace Go.Ab
open Go.Proofs

inductive TabsOk (P : Program) : List (Nat × Ent) → Prop
  | nil : TabsOk P []
  | txt {f : Nat} {sc fz : Bool} {af : AF} {fn : Func} {r : List (Nat × Ent)} (h1 : P.funcs[f]? = some fn) (h2 : compF P fn = some af) (h3 : fn.name ≠ "runtime.NumGoroutine") (h4 : TabsOk P r) : TabsOk P ((f, .txt sc fz af) :: r)
  | nat {f : Nat} {g : List AV → Option AV} {r : List (Nat × Ent)} (h1 : FnOk P f) (h2 : ∀ args r, g args = some r → FnS P f args [] fun r' _ => r' = r) (h4 : TabsOk P r) : TabsOk P ((f, .nat g) :: r)
  | nlk {f : Nat} {g : List AV → Option AV} {r : List (Nat × Ent)} (h1 : FnOk P f) (h2 : ∀ args r, g args = some r → FrS P f args r) (h4 : TabsOk P r) : TabsOk P ((f, .nlk g) :: r)

def lkT : List (Nat × Ent) → Tb
  | [], _ => none
  | (i, e) :: r, f => match Nat.beq i f with
    | true => some e
    | false => lkT r f

theorem TabsOk.tab {P : Program} {l : List (Nat × Ent)} (h : TabsOk P l) : TabOk P (lkT l) := by
  induction h with
  | nil => exact ⟨fun f sc fz af h => (by cases h), fun f g h => (by cases h), fun f g h => (by cases h)⟩
  | txt h1 h2 h3 _ ih =>
    refine ⟨fun f sc fz af h => ?_, fun f g h => ?_, fun f g h => ?_⟩
    · simp only [lkT] at h
      split at h
      · rename_i hb
        cases h
        have := Nat.eq_of_beq_eq_true hb
        subst this
        exact ⟨_, h1, h3, h2⟩
      · exact ih.ok f sc fz af h
    · simp only [lkT] at h
      split at h
      · cases h
      · exact ih.nat f g h
    · simp only [lkT] at h
      split at h
      · cases h
      · exact ih.nlk f g h
  | nat h1 h2 _ ih =>
    refine ⟨fun f sc fz af h => ?_, fun f g h => ?_, fun f g h => ?_⟩
    · simp only [lkT] at h
      split at h
      · cases h
      · exact ih.ok f sc fz af h
    · simp only [lkT] at h
      split at h
      · rename_i hb
        cases h
        have := Nat.eq_of_beq_eq_true hb
        subst this
        exact ⟨h1, h2⟩
      · exact ih.nat f g h
    · simp only [lkT] at h
      split at h
      · cases h
      · exact ih.nlk f g h
  | nlk h1 h2 _ ih =>
    refine ⟨fun f sc fz af h => ?_, fun f g h => ?_, fun f g h => ?_⟩
    · simp only [lkT] at h
      split at h
      · cases h
      · exact ih.ok f sc fz af h
    · simp only [lkT] at h
      split at h
      · cases h
      · exact ih.nat f g h
    · simp only [lkT] at h
      split at h
      · rename_i hb
        cases h
        have := Nat.eq_of_beq_eq_true hb
        subst this
        exact ⟨h1, h2⟩
      · exact ih.nlk f g h

def tabL : List (Nat × Ent) := [
  (n_law16_AnycastDist, .txt false false af_law16_AnycastDist),
  (n_law16_AnycastNearest, .txt false false af_law16_AnycastNearest),
  (n_law16_AnycastNext, .txt false false af_law16_AnycastNext),
  (n_law16_AnycastDescends, .txt false false af_law16_AnycastDescends),
  (n_law16_AnycastArrives, .txt false false af_law16_AnycastArrives),
  (n_law16_AnycastOne, .txt false false af_law16_AnycastOne),
  (n_law16_AnycastMore, .txt false false af_law16_AnycastMore),
  (n_law16_AnycastVirtual, .txt false false af_law16_AnycastVirtual),
  (n_law16_awake, .txt true false af_law16_awake),
  (n_law16_large, .txt true false af_law16_large),
  (n_anycast_Dist, .txt false true af_anycast_Dist),
  (n_ref16_Dist, .txt false false af_ref16_Dist),
  (n_ref09_SameInts, .txt true false af_ref09_SameInts),
  (n_anycast_Valid, .txt true false af_anycast_Valid),
  (n_ref16_Valid, .txt false false af_ref16_Valid),
  (n_anycast_Nearest, .txt false true af_anycast_Nearest),
  (n_ref16_Nearest, .txt false false af_ref16_Nearest),
  (n_anycast_Next, .txt false true af_anycast_Next),
  (n_ref16_Next, .txt false false af_ref16_Next),
  (n_ref09_Tail, .txt false false af_ref09_Tail),
  (n_ref11_Up, .txt false false af_ref11_Up),
  (n_ref09_Head, .txt false false af_ref09_Head),
  (n_ref09_Cost, .txt false false af_ref09_Cost),
  (n_ref09_Has, .txt false false af_ref09_Has),
  (n_ref11_Fits, .txt false false af_ref11_Fits),
  (n_ref11_Dist, .txt false false af_ref11_Dist),
  (n_ref12_Next, .txt false false af_ref12_Next),
  (n_law16_line, .txt false false af_law16_line),
  (n_anycast_dists, .nat natAD),
  (n_topology_Valid, .txt true false af_topology_Valid),
  (n_graph_Node, .txt true false af_graph_Node),
  (n_ref09_Valid, .txt false false af_ref09_Valid),
  (n_dag_Next, .txt false false af_dag_Next),
  (n_slices_Sort_int_int, .txt false false af_slices_Sort_int_int),
  (n_slices_Compact_int_int, .txt false false af_slices_Compact_int_int),
  (n_ref16_Merge, .txt false false af_ref16_Merge),
  (n_ref16_Towards, .txt false false af_ref16_Towards),
  (n_ref09_Arcs, .txt false false af_ref09_Arcs),
  (n_ref11_search, .txt false false af_ref11_search),
  (n_ref12_next, .txt false false af_ref12_next),
  (n_graph_Fits, .txt true false af_graph_Fits),
  (n_spf_Dist, .nat natLD),
  (n_slices_Clone_int_int, .txt false false af_slices_Clone_int_int),
  (n_topology_within, .txt true false af_topology_within),
  (n_ref09_within, .txt true false af_ref09_within),
  (n_dag_dists, .txt false false af_dag_dists),
  (n_dag_next, .txt false false af_dag_next),
  (n_graph_Out, .txt false false af_graph_Out),
  (n_slices_pdqsortOrdered_int, .txt false false af_slices_pdqsortOrdered_int),
  (n_math_bits_Len, .txt true false af_math_bits_Len),
  (n_ref11_On, .txt false false af_ref11_On),
  (n_ref11_transit, .txt false false af_ref11_transit),
  (n_graph_Arcs, .txt true false af_graph_Arcs),
  (n_spf_check, .txt false false af_spf_check),
  (n_graph_Entering, .txt false false af_graph_Entering),
  (n_spf_Dist_1, .txt false false af_spf_Dist_1),
  (n_spf_Dist_2, .txt false false af_spf_Dist_2),
  (n_graph_Tail, .txt false false af_graph_Tail),
  (n_spf_search_run, .txt false false af_spf_search_run),
  (n_graph_Head, .txt false false af_graph_Head),
  (n_graph_Down, .txt false false af_graph_Down),
  (n_graph_Over, .txt false false af_graph_Over),
  (n_graph_Cost, .txt false false af_graph_Cost),
  (n_slices_insertionSortOrdered_int, .txt false false af_slices_insertionSortOrdered_int),
  (n_slices_heapSortOrdered_int, .txt false false af_slices_heapSortOrdered_int),
  (n_slices_breakPatternsOrdered_int, .txt false false af_slices_breakPatternsOrdered_int),
  (n_slices_choosePivotOrdered_int, .txt false false af_slices_choosePivotOrdered_int),
  (n_slices_reverseRangeOrdered_int, .txt false false af_slices_reverseRangeOrdered_int),
  (n_slices_partialInsertionSortOrdered_int, .txt false false af_slices_partialInsertionSortOrdered_int),
  (n_cmp_Less_int, .txt true false af_cmp_Less_int),
  (n_slices_partitionEqualOrdered_int, .txt false false af_slices_partitionEqualOrdered_int),
  (n_slices_partitionOrdered_int, .txt false false af_slices_partitionOrdered_int),
  (n_math_bits_Len32, .txt true false af_math_bits_Len32),
  (n_math_bits_Len64, .txt true false af_math_bits_Len64),
  (n_ref09_Overloaded, .txt false false af_ref09_Overloaded),
  (n_heap_New, .txt false false af_heap_New),
  (n_heap_Heap_Set, .txt false false af_heap_Heap_Set),
  (n_heap_Heap_Pop, .txt false false af_heap_Heap_Pop),
  (n_heap_Heap_Key, .txt false false af_heap_Heap_Key),
  (n_slices_siftDownOrdered_int, .txt false false af_slices_siftDownOrdered_int),
  (n_slices_nextPowerOfTwo, .txt false false af_slices_nextPowerOfTwo),
  (n_slices_xorshift_Next, .txt false false af_slices_xorshift_Next),
  (n_slices_medianAdjacentOrdered_int, .txt false false af_slices_medianAdjacentOrdered_int),
  (n_slices_medianOrdered_int, .txt false false af_slices_medianOrdered_int),
  (n_cmp_isNaN_int, .txt true false af_cmp_isNaN_int),
  (n_heap_Heap_settle, .txt false false af_heap_Heap_settle),
  (n_heap_Heap_take, .txt false false af_heap_Heap_take),
  (n_slices_order2Ordered_int, .txt false false af_slices_order2Ordered_int),
  (n_heap_Heap_before, .txt false false af_heap_Heap_before),
  (n_heap_Heap_swap, .txt false false af_heap_Heap_swap)]

theorem tabL_ok : TabsOk Try.prog tabL :=
  .txt fn_law16_AnycastDist c_law16_AnycastDist (by decide) <|
  .txt fn_law16_AnycastNearest c_law16_AnycastNearest (by decide) <|
  .txt fn_law16_AnycastNext c_law16_AnycastNext (by decide) <|
  .txt fn_law16_AnycastDescends c_law16_AnycastDescends (by decide) <|
  .txt fn_law16_AnycastArrives c_law16_AnycastArrives (by decide) <|
  .txt fn_law16_AnycastOne c_law16_AnycastOne (by decide) <|
  .txt fn_law16_AnycastMore c_law16_AnycastMore (by decide) <|
  .txt fn_law16_AnycastVirtual c_law16_AnycastVirtual (by decide) <|
  .txt fn_law16_awake c_law16_awake (by decide) <|
  .txt fn_law16_large c_law16_large (by decide) <|
  .txt fn_anycast_Dist c_anycast_Dist (by decide) <|
  .txt fn_ref16_Dist c_ref16_Dist (by decide) <|
  .txt fn_ref09_SameInts c_ref09_SameInts (by decide) <|
  .txt fn_anycast_Valid c_anycast_Valid (by decide) <|
  .txt fn_ref16_Valid c_ref16_Valid (by decide) <|
  .txt fn_anycast_Nearest c_anycast_Nearest (by decide) <|
  .txt fn_ref16_Nearest c_ref16_Nearest (by decide) <|
  .txt fn_anycast_Next c_anycast_Next (by decide) <|
  .txt fn_ref16_Next c_ref16_Next (by decide) <|
  .txt fn_ref09_Tail c_ref09_Tail (by decide) <|
  .txt fn_ref11_Up c_ref11_Up (by decide) <|
  .txt fn_ref09_Head c_ref09_Head (by decide) <|
  .txt fn_ref09_Cost c_ref09_Cost (by decide) <|
  .txt fn_ref09_Has c_ref09_Has (by decide) <|
  .txt fn_ref11_Fits c_ref11_Fits (by decide) <|
  .txt fn_ref11_Dist c_ref11_Dist (by decide) <|
  .txt fn_ref12_Next c_ref12_Next (by decide) <|
  .txt fn_law16_line c_law16_line (by decide) <|
  .nat ⟨_, fn_anycast_dists, by decide, by decide⟩ natAD_ok <|
  .txt fn_topology_Valid c_topology_Valid (by decide) <|
  .txt fn_graph_Node c_graph_Node (by decide) <|
  .txt fn_ref09_Valid c_ref09_Valid (by decide) <|
  .txt fn_dag_Next c_dag_Next (by decide) <|
  .txt fn_slices_Sort_int_int c_slices_Sort_int_int (by decide) <|
  .txt fn_slices_Compact_int_int c_slices_Compact_int_int (by decide) <|
  .txt fn_ref16_Merge c_ref16_Merge (by decide) <|
  .txt fn_ref16_Towards c_ref16_Towards (by decide) <|
  .txt fn_ref09_Arcs c_ref09_Arcs (by decide) <|
  .txt fn_ref11_search c_ref11_search (by decide) <|
  .txt fn_ref12_next c_ref12_next (by decide) <|
  .txt fn_graph_Fits c_graph_Fits (by decide) <|
  .nat ⟨_, fn_spf_Dist, by decide, by decide⟩ natLD_ok <|
  .txt fn_slices_Clone_int_int c_slices_Clone_int_int (by decide) <|
  .txt fn_topology_within c_topology_within (by decide) <|
  .txt fn_ref09_within c_ref09_within (by decide) <|
  .txt fn_dag_dists c_dag_dists (by decide) <|
  .txt fn_dag_next c_dag_next (by decide) <|
  .txt fn_graph_Out c_graph_Out (by decide) <|
  .txt fn_slices_pdqsortOrdered_int c_slices_pdqsortOrdered_int (by decide) <|
  .txt fn_math_bits_Len c_math_bits_Len (by decide) <|
  .txt fn_ref11_On c_ref11_On (by decide) <|
  .txt fn_ref11_transit c_ref11_transit (by decide) <|
  .txt fn_graph_Arcs c_graph_Arcs (by decide) <|
  .txt fn_spf_check c_spf_check (by decide) <|
  .txt fn_graph_Entering c_graph_Entering (by decide) <|
  .txt fn_spf_Dist_1 c_spf_Dist_1 (by decide) <|
  .txt fn_spf_Dist_2 c_spf_Dist_2 (by decide) <|
  .txt fn_graph_Tail c_graph_Tail (by decide) <|
  .txt fn_spf_search_run c_spf_search_run (by decide) <|
  .txt fn_graph_Head c_graph_Head (by decide) <|
  .txt fn_graph_Down c_graph_Down (by decide) <|
  .txt fn_graph_Over c_graph_Over (by decide) <|
  .txt fn_graph_Cost c_graph_Cost (by decide) <|
  .txt fn_slices_insertionSortOrdered_int c_slices_insertionSortOrdered_int (by decide) <|
  .txt fn_slices_heapSortOrdered_int c_slices_heapSortOrdered_int (by decide) <|
  .txt fn_slices_breakPatternsOrdered_int c_slices_breakPatternsOrdered_int (by decide) <|
  .txt fn_slices_choosePivotOrdered_int c_slices_choosePivotOrdered_int (by decide) <|
  .txt fn_slices_reverseRangeOrdered_int c_slices_reverseRangeOrdered_int (by decide) <|
  .txt fn_slices_partialInsertionSortOrdered_int c_slices_partialInsertionSortOrdered_int (by decide) <|
  .txt fn_cmp_Less_int c_cmp_Less_int (by decide) <|
  .txt fn_slices_partitionEqualOrdered_int c_slices_partitionEqualOrdered_int (by decide) <|
  .txt fn_slices_partitionOrdered_int c_slices_partitionOrdered_int (by decide) <|
  .txt fn_math_bits_Len32 c_math_bits_Len32 (by decide) <|
  .txt fn_math_bits_Len64 c_math_bits_Len64 (by decide) <|
  .txt fn_ref09_Overloaded c_ref09_Overloaded (by decide) <|
  .txt fn_heap_New c_heap_New (by decide) <|
  .txt fn_heap_Heap_Set c_heap_Heap_Set (by decide) <|
  .txt fn_heap_Heap_Pop c_heap_Heap_Pop (by decide) <|
  .txt fn_heap_Heap_Key c_heap_Heap_Key (by decide) <|
  .txt fn_slices_siftDownOrdered_int c_slices_siftDownOrdered_int (by decide) <|
  .txt fn_slices_nextPowerOfTwo c_slices_nextPowerOfTwo (by decide) <|
  .txt fn_slices_xorshift_Next c_slices_xorshift_Next (by decide) <|
  .txt fn_slices_medianAdjacentOrdered_int c_slices_medianAdjacentOrdered_int (by decide) <|
  .txt fn_slices_medianOrdered_int c_slices_medianOrdered_int (by decide) <|
  .txt fn_cmp_isNaN_int c_cmp_isNaN_int (by decide) <|
  .txt fn_heap_Heap_settle c_heap_Heap_settle (by decide) <|
  .txt fn_heap_Heap_take c_heap_Heap_take (by decide) <|
  .txt fn_slices_order2Ordered_int c_slices_order2Ordered_int (by decide) <|
  .txt fn_heap_Heap_before c_heap_Heap_before (by decide) <|
  .txt fn_heap_Heap_swap c_heap_Heap_swap (by decide) <|
  .nil

theorem run_ok {f : Nat} {fn : Func} {af : AF} {args : List AV} {r : AV} (n : Nat) (hf : Try.prog.funcs[f]? = some fn) (hc : compF Try.prog fn = some af) (hl : args.length ≤ af.nt) (hx : runP (xC (lkT tabL) n) af args = some r) : Ret Try.prog f args r :=
  (runP_sound (xC_sound mixed tabL_ok.tab n) hf hc hl hx).mono fun _ _ h => h

theorem awake_ok : Ret Try.prog n_law16_awake [] (bA true) := run_ok 400 fn_law16_awake c_law16_awake (Nat.le_of_ble_eq_true rfl) (by kernel_rfl)
end Go.Ab

/-
  The statements of chapter 16: Dist.
-/
namespace Go.Ab
open Go.Proofs

structure Grp where
  (t : Top) (down : List Bool) (A : List Int) (node : Int)
def grpA (q : Grp) : AV := .agg [.d (iD q.t.nodes), .d (boolsD q.t.ov), .d (linksD q.t.links), .d (boolsD q.down), .d (intsD q.A), .d (iD q.node)]
def largeG (q : Grp) : Bool := decide (q.t.nodes > 12) || decide (q.t.links.length > 20) || decide (q.down.length > 60) || decide (q.A.length > 20)

theorem largeG_no {q : Grp} (h : largeG q = false) : q.t.nodes ≤ 12 ∧ q.t.links.length ≤ 20 ∧ q.down.length ≤ 60 ∧ q.A.length ≤ 20 := by
  simp only [largeG, Bool.or_eq_false_iff, decide_eq_false_iff_not] at h
  omega

theorem largeG_ok (P : Program) (hP : P = Try.prog) (q : Grp) : Ret P n_law16_large [grpA q] (bA (largeG q)) := by
  refine ret_start (hP ▸ mixed) (hP ▸ fn_law16_large) (hP ▸ c_law16_large) (Nat.le_of_ble_eq_true rfl) fun Λ Λo K hK => ?_
  clear hP
  obtain ⟨t, down, A, node⟩ := q
  simp only [grpA] at hK ⊢
  have yes : (t.nodes > 12 ∨ t.links.length > 20 ∨ down.length > 60 ∨ A.length > 20) → K (bA true) := fun h => by
    rw [show largeG ⟨t, down, A, node⟩ = true by
      simp only [largeG, Bool.or_eq_true, decide_eq_true_eq]; omega] at hK
    exact hK
  have no : ¬ (t.nodes > 12 ∨ t.links.length > 20 ∨ down.length > 60 ∨ A.length > 20) → K (bA false) := fun h => by
    rw [show largeG ⟨t, down, A, node⟩ = false by
      simp only [largeG, Bool.or_eq_false_iff, decide_eq_false_iff_not]; omega] at hK
    exact hK
  clear hK
  simp only [boolsD, linksD, intsD] at *
  generalize hal : A.map encI = al at *
  have hla : Λ al = A.length := by rw [Λo, ← hal]; simp
  generalize hdl : down.map encB = dl at *
  have hld : Λ dl = down.length := by rw [Λo, ← hdl]; simp
  obtain ⟨nodes, ov, links⟩ := t
  
  generalize hol : ov.map encB = ol at *
  generalize hll : links.map encLk = ll at *
  have hlo : Λ ol = ov.length := by rw [Λo, ← hol]; simp
  have hls : Λ ll = links.length := by rw [Λo, ← hll]; simp
  simp only at yes no
  conv => cbv
  repeat' first | (intro (_ : Unit); first | omega | rfl | exact ⟨rfl, by omega⟩ | (simp only [nI_eq]; omega) | ((repeat' first | rfl | omega | refine And.intro ?_ ?_ | (simp only [nI_eq]; omega) | (simp only [List.length_cons, List.length_nil]; omega) | exact Nat.le_of_ble_eq_true rfl); done)) | exact trivial | refine And.intro ?_ ?_ | (intro hc; exact absurd hc (by decide)) | (intro hc; exfalso; omega) | (intro hc; (first | rw [wrap_small (by omega) (by omega)] at hc | rw [nI_eq] at hc | skip); try (conv => cbv))
  all_goals first | exact yes (by omega) | exact no (by omega)

set_option maxHeartbeats 4000000 in
theorem adist_law (P : Program) (hP : P = Try.prog) (q : Grp) : Ret P n_law16_AnycastDist [grpA q] (bA true) := by
  have haw : Ret P n_law16_awake [] (bA true) := hP ▸ awake_ok
  have hlg := largeG_ok P hP q
  have hno : largeG q = false → (q.A.length : Int) ≤ 2000000 := fun h => by have := largeG_no h; omega
  have h1 := fun h => adist_ok P hP q.t q.down q.A h
  have h2 := fun h => radist_ok P hP q.t q.down q.A h
  have h3 := fun h => avalid_ok P hP q.t q.A h
  have h4 := fun h => rvalid16_ok P hP q.t q.A h
  have hsame : ∀ l, Ret P n_ref09_SameInts [intsA l, intsA l] (bA true) := fun l => by
    have := sameInts_ok P hP l l
    rw [decide_eq_true rfl] at this
    exact this
  refine ret_start (hP ▸ mixed) (hP ▸ fn_law16_AnycastDist) (hP ▸ c_law16_AnycastDist) (Nat.le_of_ble_eq_true rfl) fun Λ Λo K hK => ?_
  clear hP
  obtain ⟨t, down, A, node⟩ := q
  simp only at h1 h2 h3 h4
  generalize largeG _ = lg at *
  generalize anyB t A = ab at *
  generalize adistS t down A = r at *
  obtain ⟨l, c⟩ := r
  simp only at h1 h2 hno
  have hsame := hsame l
  simp only [grpA, boolsA, intsA, boolsD, linksD, intsD] at *
  generalize A.map encI = al at *
  generalize l.map encI = rl at *
  generalize down.map encB = dl at *
  obtain ⟨nodes, ov, links⟩ := t
  simp only [topA, boolsD, linksD] at *
  generalize hol : ov.map encB = ol at *
  generalize hll : links.map encLk = ll at *
  have hlo : Λ ol = ov.length := by rw [Λo, ← hol]; simp
  have hls : Λ ll = links.length := by rw [Λo, ← hll]; simp
  cases lg
  case true =>
    clear h1 h2 h3 h4 hno
    conv => cbv
    repeat' first | refine call_b haw rfl rfl ?_ ?_ | refine call_b hlg rfl rfl ?_ ?_ | (intro hc; cases hc; done) | (intro (_ : Unit); first | omega | rfl | exact ⟨rfl, by omega⟩ | (simp only [nI_eq]; omega) | ((repeat' first | rfl | omega | refine And.intro ?_ ?_ | (simp only [nI_eq]; omega) | (simp only [List.length_cons, List.length_nil]; omega) | exact Nat.le_of_ble_eq_true rfl); done)) | exact trivial | refine And.intro ?_ ?_ | (intro hc; exact absurd hc (by decide)) | (intro hc; exfalso; omega) | (intro hc; (first | rw [wrap_small (by omega) (by omega)] at hc | rw [nI_eq] at hc | skip); try (conv => cbv))
    all_goals exact hK
  have h1 := h1 (hno rfl)
  have h2 := h2 (hno rfl)
  have h3 := h3 (hno rfl)
  have h4 := h4 (hno rfl)
  cases ab
  all_goals conv => cbv
  all_goals repeat' first | refine call_b haw rfl rfl ?_ ?_ | refine call_b hlg rfl rfl ?_ ?_ | (intro hc; cases hc; done) | (refine call_r h1 rfl rfl ?_; conv => cbv) | (refine call_r h2 rfl rfl ?_; conv => cbv) | refine call_b h3 rfl rfl ?_ ?_ | refine call_b h4 rfl rfl ?_ ?_ | refine call_b hsame rfl rfl ?_ ?_ | (intro (_ : Unit); first | omega | rfl | exact ⟨rfl, by omega⟩ | (simp only [nI_eq]; omega) | ((repeat' first | rfl | omega | refine And.intro ?_ ?_ | (simp only [nI_eq]; omega) | (simp only [List.length_cons, List.length_nil]; omega) | exact Nat.le_of_ble_eq_true rfl); done)) | exact trivial | refine And.intro ?_ ?_ | (intro hc; exact absurd hc (by decide)) | (intro hc; exfalso; omega) | (intro hc; (first | rw [wrap_small (by omega) (by omega)] at hc | rw [nI_eq] at hc | skip); try (conv => cbv))
  all_goals exact hK

end Go.Ab

/-
  Groups: more members are not farther.
-/
namespace Go.Ab
open Go.Proofs

theorem fold_le : ∀ (l : List Int) (a b : Int), -1 ≤ a → -1 ≤ b → (∀ x ∈ l, -1 ≤ x) → (0 ≤ b → 0 ≤ a ∧ a ≤ b) → 0 ≤ l.foldl mrg b → 0 ≤ l.foldl mrg a ∧ l.foldl mrg a ≤ l.foldl mrg b
  | [], _, _, _, _, _, h, h0 => h h0
  | x :: l, a, b, ha, hb, hl, h, h0 => by
    have hx := hl x (by simp)
    refine fold_le l (mrg a x) (mrg b x) (mrg_lo ha hx) (mrg_lo hb hx) (fun y hy => hl y (by simp [hy])) (fun h1 => ?_) h0
    unfold mrg at h1 ⊢
    (repeat' split at h1) <;> (repeat' split) <;> omega

theorem allS_gt {t : Top} {down : List Bool} {A : List Int} {i : Nat} (h : i < t.nodes.toNat) : gt (allS t down A) i = ((rowsS t down A).map fun D => gt D i).foldl mrg (-1) := by
  rw [gt, List.getD_eq_getElem?_getD, Int.toNat_natCast, allS_at h]; rfl

theorem more_le {t : Top} (hv : validT t = true) {down : List Bool} {A : List Int} (hA : ∀ m ∈ A, 0 ≤ m ∧ m < t.nodes) {i : Nat} (hi : i < t.nodes.toNat) (h : 0 ≤ gt (allS t down (A.drop 1)) i) :
    0 ≤ gt (allS t down A) i ∧ gt (allS t down A) i ≤ gt (allS t down (A.drop 1)) i := by
  cases A with
  | nil => exact ⟨h, Int.le_refl _⟩
  | cons x l =>
    have hb : ∀ m : Int, 0 ≤ m ∧ m < t.nodes → -1 ≤ gt (distS t down m false) i := fun m hm => ((distS_spec hv down false hm.1 hm.2).2 i (by omega) (by omega)).1
    rw [List.drop_one, List.tail_cons] at h ⊢
    rw [allS_gt hi] at h ⊢
    rw [allS_gt hi]
    have hx := hb x (hA x (by simp))
    rw [show (rowsS t down (x :: l)).map (fun D => gt D i) = gt (distS t down x false) i :: (rowsS t down l).map (fun D => gt D i) from rfl, List.foldl_cons]
    refine fold_le _ _ _ (mrg_lo (by omega) hx) (by omega) (fun y hy => ?_) (fun h => by omega) h
    simp only [rowsS, List.mem_map] at hy
    obtain ⟨E, ⟨m, hm, rfl⟩, rfl⟩ := hy
    exact hb m (hA m (by simp [hm]))

set_option maxHeartbeats 4000000 in
theorem amore_law (P : Program) (hP : P = Try.prog) (q : Grp) : Ret P n_law16_AnycastMore [grpA q] (bA true) := by
  have haw : Ret P n_law16_awake [] (bA true) := hP ▸ awake_ok
  have hlg := largeG_ok P hP q
  have hno : largeG q = false → (q.A.length : Int) ≤ 2000000 ∧ ((q.A.drop 1).length : Int) ≤ 2000000 := fun h => by have := largeG_no h; rw [List.length_drop]; omega
  have h1 := fun h => adist_ok P hP q.t q.down (q.A.drop 1) h
  have h2 := fun h => adist_ok P hP q.t q.down q.A h
  refine ret_start (hP ▸ mixed) (hP ▸ fn_law16_AnycastMore) (hP ▸ c_law16_AnycastMore) (Nat.le_of_ble_eq_true rfl) fun Λ Λo K hK => ?_
  clear hP
  obtain ⟨t, down, A, node⟩ := q
  simp only at h1 h2 hno
  have hlaw : ∀ l1 l2, adistS t down (A.drop 1) = (l1, 0) → adistS t down A = (l2, 0) → l1.length = t.nodes.toNat ∧ l2.length = t.nodes.toNat ∧ ∀ i : Nat, i < t.nodes.toNat → 0 ≤ gt l1 i → 0 ≤ gt l2 i ∧ gt l2 i ≤ gt l1 i := fun l1 l2 e1 e2 => by
    rw [adistS] at e1 e2
    split at e1
    · split at e2
      · rename_i hf
        cases e1; cases e2
        refine ⟨allS_len _ _ _, allS_len _ _ _, fun i hi h => ?_⟩
        have hok := of_decide_eq_true hf.1
        refine more_le hok.1 (fun m hm => ?_) hi h
        obtain ⟨k, hk, e⟩ := List.mem_iff_getElem.1 hm
        have := hok.2.2 k hk
        rw [okAt, List.getD_eq_getElem?_getD, List.getElem?_eq_getElem hk, Option.getD_some, e] at this
        exact ⟨this.1, this.2.1⟩
      · exact absurd (congrArg Prod.snd e2) (by simp)
    · exact absurd (congrArg Prod.snd e1) (by simp)
  generalize largeG _ = lg at *
  generalize adistS t down (A.drop 1) = r1 at *
  generalize adistS t down A = r2 at *
  obtain ⟨l1, c1⟩ := r1
  obtain ⟨l2, c2⟩ := r2
  obtain ⟨nn, hnn⟩ : ∃ nn, nn = t.nodes.toNat := ⟨_, rfl⟩
  rw [← hnn] at hlaw
  have hlaw := fun (e1 : c1 = 0) (e2 : c2 = 0) => hlaw l1 l2 (by rw [e1]) (by rw [e2])
  simp only at h1 h2
  have hal : ∃ al, al = A.map encI := ⟨_, rfl⟩
  obtain ⟨al, hal⟩ := hal
  obtain ⟨a1, ha1⟩ : ∃ x, x = al.drop 1 := ⟨_, rfl⟩
  have ha2 : (A.drop 1).map encI = a1 := by rw [ha1, hal, List.map_drop]
  have lal : Λ al = A.length := by rw [Λo, hal]; simp
  obtain ⟨z1, hz1⟩ : ∃ x, x = l1.map encI := ⟨_, rfl⟩
  obtain ⟨z2, hz2⟩ : ∃ x, x = l2.map encI := ⟨_, rfl⟩
  have lz2 : Λ z2 = l2.length := by rw [Λo, hz2]; simp
  have lz1 : Λ z1 = l1.length := by rw [Λo, hz1]; simp
  have at1 : ∀ i : Nat, i < l1.length → z1[i]? = some [iD (gt l1 i)] := fun i h => by rw [hz1]; exact encI_at h
  have at2 : ∀ i : Nat, i < l2.length → z2[i]? = some [iD (gt l2 i)] := fun i h => by rw [hz2]; exact encI_at h
  simp only [grpA, boolsA, intsA, boolsD, linksD, intsD, ha2, ← hal, ← hz1, ← hz2] at h1 h2 hlg ⊢
  clear hal ha2 hz1 hz2 hnn
  generalize down.map encB = dl at *
  obtain ⟨nodes, ov, links⟩ := t
  simp only [topA, boolsD, linksD] at *
  generalize hol : ov.map encB = ol at *
  generalize hll : links.map encLk = ll at *
  have hlo : Λ ol = ov.length := by rw [Λo, ← hol]; simp
  have hls : Λ ll = links.length := by rw [Λo, ← hll]; simp
  cases lg
  case true =>
    clear h1 h2 hno hlaw
    conv => cbv
    repeat' first | refine call_b haw rfl rfl ?_ ?_ | refine call_b hlg rfl rfl ?_ ?_ | (intro hc; cases hc; done) | (intro (_ : Unit); first | omega | rfl | exact ⟨rfl, by omega⟩ | (simp only [nI_eq]; omega) | ((repeat' first | rfl | omega | refine And.intro ?_ ?_ | (simp only [nI_eq]; omega) | (simp only [List.length_cons, List.length_nil]; omega) | exact Nat.le_of_ble_eq_true rfl); done)) | exact trivial | refine And.intro ?_ ?_ | (intro hc; exact absurd hc (by decide)) | (intro hc; exfalso; omega) | (intro hc; (first | rw [wrap_small (by omega) (by omega)] at hc | rw [nI_eq] at hc | skip); try (conv => cbv))
    all_goals exact hK
  have h1 := h1 (hno rfl).2
  have h2 := h2 (hno rfl).1
  clear hno
  conv => cbv
  repeat' first | refine call_b haw rfl rfl ?_ ?_ | refine call_b hlg rfl rfl ?_ ?_ | (intro hc; cases hc; done) | (refine call_r h1 rfl rfl ?_; conv => cbv) | (refine call_r h2 rfl rfl ?_; conv => cbv) | (intro (x : List (List D)) (hx : x = List.drop 1 al); refine (fun (hz : a1 = x) => ?_) (ha1.trans hx.symm); subst hz; (conv => cbv)) | (intro (_ : Unit); first | omega | rfl | exact ⟨rfl, by omega⟩ | (simp only [nI_eq]; omega) | ((repeat' first | rfl | omega | refine And.intro ?_ ?_ | (simp only [nI_eq]; omega) | (simp only [List.length_cons, List.length_nil]; omega) | exact Nat.le_of_ble_eq_true rfl); done)) | exact trivial | refine And.intro ?_ ?_ | (intro hc; exact absurd hc (by decide)) | (intro hc; exfalso; omega) | (intro hc; (first | rw [wrap_small (by omega) (by omega)] at hc | rw [nI_eq] at hc | skip); try (conv => cbv))
  all_goals first | exact hK | skip
  obtain ⟨g1, g2, hle⟩ := hlaw (by assumption) (by assumption)
  clear hlaw h1 h2 hlg haw
  refine loop_up nn (fun (i : Int) => [(3, .c (.d (.list false 1 z1))), (5, .c (.d (.list false 1 z2))), (48, .c (.d (.list false 1 z2))), (49, iA (Λ z2)), (50, iA i)]) (fun _ => [.bx [.d (iD nodes), .d (.list false 1 ol), .d (.list false 7 ll), .d (.list false 1 dl), .d (.list false 1 al), .d (iD node)]]) (fun k i => i = k ∧ k ≤ nn) 0 (Wk.cut ⟨[], rfl⟩ (Nat.le_of_ble_eq_true rfl) rfl (by repeat' first | exact trivial | refine And.intro ?_ ?_ | rfl)) ⟨rfl, by omega⟩ (fun k s h => h.2) ?_
  rintro k i Q' ⟨hi, hk⟩ norm ex rt
  by_cases hlt : k < nn
  · have q1 : z1[i.toNat]? = some [iD (gt l1 k)] := by rw [hi, Int.toNat_natCast]; exact at1 k (by omega)
    have q2 : z2[i.toNat]? = some [iD (gt l2 k)] := by rw [hi, Int.toNat_natCast]; exact at2 k (by omega)
    have hle := hle k hlt
    generalize gt l1 k = x1 at *
    generalize gt l2 k = x2 at *
    clear at1 at2
    conv => cbv
    repeat' first | (refine ex _ _ _ ?_; (conv => cbv)) | (refine rt _ _ ?_; (conv => cbv)) | (intro (e : List D) he; cases Option.some.inj (he.symm.trans q1); (conv => cbv)) | (intro (e : List D) he; cases Option.some.inj (he.symm.trans q2); (conv => cbv)) | (intro (_ : Unit); first | omega | rfl | exact ⟨rfl, by omega⟩ | (simp only [nI_eq]; omega) | ((repeat' first | rfl | omega | refine And.intro ?_ ?_ | (simp only [nI_eq]; omega) | (simp only [List.length_cons, List.length_nil]; omega) | exact Nat.le_of_ble_eq_true rfl); done)) | exact trivial | refine And.intro ?_ ?_ | (intro hc; exact absurd hc (by decide)) | (intro hc; exfalso; omega) | (intro hc; (first | rw [wrap_small (by omega) (by omega)] at hc | rw [nI_eq] at hc | skip); try (conv => cbv))
    all_goals (rename_i i'; exact norm _ _ i' ⟨by omega, by omega⟩ (Wk.cut ⟨[], rfl⟩ (Nat.le_of_ble_eq_true rfl) rfl (by repeat' first | exact trivial | refine And.intro ?_ ?_ | rfl)))
  conv => cbv
  repeat' first | (refine ex _ _ _ ?_; (conv => cbv)) | (refine rt _ _ ?_; (conv => cbv)) | (intro (_ : Unit); first | omega | rfl | exact ⟨rfl, by omega⟩ | (simp only [nI_eq]; omega) | ((repeat' first | rfl | omega | refine And.intro ?_ ?_ | (simp only [nI_eq]; omega) | (simp only [List.length_cons, List.length_nil]; omega) | exact Nat.le_of_ble_eq_true rfl); done)) | exact trivial | refine And.intro ?_ ?_ | (intro hc; exact absurd hc (by decide)) | (intro hc; exfalso; omega) | (intro hc; (first | rw [wrap_small (by omega) (by omega)] at hc | rw [nI_eq] at hc | skip); try (conv => cbv))
  exact hK

end Go.Ab

