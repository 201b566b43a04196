/-
  Merged texts, part n.
-/
import Derived.Test.YtkpgchgghbmecaaZm
/-
  Groups: the distances to the nearest member.
-/
namespace Go.Ab
open Go.Proofs

theorem cloneInts_new (P : Program) (hP : P = Try.prog) (ll : List (List D)) (hl : ll.length ≤ 1000000) (h0 : ll ≠ []) : FnS P n_slices_Clone_int_int [.c (.d (.list false 1 ll))] [] fun r h' => ∃ n, n = ll.length ∧ r = .c (.arr 0 1 0 n) ∧ h' = [.da true 1 1 ll] := by
  refine fn_heap (hP ▸ mixed) (hP ▸ fn_slices_Clone_int_int) (hP ▸ c_slices_Clone_int_int) (Nat.le_of_ble_eq_true rfl) fun Λ Λo => ?_
  clear hP
  generalize hK : (fun (r : AV) (h' : Hp) => ∃ n, n = ll.length ∧ r = .c (.arr 0 1 0 n) ∧ h' = [.da true 1 1 ll]) = K
  have k1 : ∀ n rl es, es = ll → rl = true → n = ll.length → K (.c (.arr 0 1 0 n)) [Blk.da rl 1 1 es] := by
    intro n rl es h1 h3 h2; rw [← hK]; subst h1 h3; exact ⟨n, h2, rfl, rfl⟩
  clear hK
  have lln := Λo ll
  conv => cbv
  repeat' first | (intro (_ : Unit); first | omega | rfl | exact ⟨rfl, by omega⟩ | (simp only [nI_eq]; omega) | ((repeat' first | rfl | omega | refine And.intro ?_ ?_ | (simp only [nI_eq]; omega) | (simp only [List.length_cons, List.length_nil]; omega) | exact Nat.le_of_ble_eq_true rfl); done)) | exact trivial | refine And.intro ?_ ?_ | (intro hc; exact absurd hc (by decide)) | (intro hc; exfalso; omega) | (intro hc; (first | rw [wrap_small (by omega) (by omega)] at hc | rw [nI_eq] at hc | skip); try (conv => cbv))
  · refine k1 _ _ _ ?_ ?_ ?_
    · rw [hc]; simp
    · rename_i h1; rw [h1]; rfl
    · rename_i h1 _; rw [h1]; simp
  · exact absurd (by assumption) h0

/-- the lesser distance, where less than 0 is none -/
def mrg (a d : Int) : Int := if a < 0 then d else if 0 ≤ d then min a d else a

/-- the distances of a list of members -/
noncomputable def rowsS (t : Top) (down : List Bool) (A : List Int) : List (List Int) := A.map fun m => distS t down m false
noncomputable def allS (t : Top) (down : List Bool) (A : List Int) : List Int := (List.range t.nodes.toNat).map fun (i : Nat) => ((rowsS t down A).map fun D => gt D i).foldl mrg (-1)

theorem allS_len (t : Top) (down : List Bool) (A : List Int) : (allS t down A).length = t.nodes.toNat := by simp [allS]

theorem allS_at {t : Top} {down : List Bool} {A : List Int} {i : Nat} (h : i < t.nodes.toNat) : (allS t down A)[i]? = some (((rowsS t down A).map fun D => gt D i).foldl mrg (-1)) := by
  rw [allS, List.getElem?_map, List.getElem?_range h]; rfl

/-- one more member -/
theorem allS_succ {t : Top} {down : List Bool} {A : List Int} {k : Nat} {m : Int} (h : A[k]? = some m) {i : Nat} (hi : i < t.nodes.toNat) :
    (allS t down (A.take (k + 1)))[i]? = some (mrg (((rowsS t down (A.take k)).map fun D => gt D i).foldl mrg (-1)) (gt (distS t down m false) i)) := by
  rw [allS_at hi, take_succ_get h, rowsS, List.map_append, List.map_append, List.foldl_append]
  rfl

theorem mrg_self (d : Int) : mrg d d = d := by
  unfold mrg; split
  · rfl
  · split
    · exact Int.min_self d
    · rfl

set_option maxHeartbeats 4000000 in
theorem adists_ok (P : Program) (hP : P = Try.prog) (t : Top) (down : List Bool) (A : List Int) (hA : (A.length : Int) ≤ 2000000) : Ret P n_anycast_dists [topA t, boolsA down, intsA A]
    (if anyB t A = true ∧ fitsB t down = true then .tup [rowsA (rowsS t down A), intsA (allS t down A), iA 0] else .tup [rowsA [], intsA [], iA 1]) := by
  refine ret_start (hP ▸ mixed) (hP ▸ fn_anycast_dists) (hP ▸ c_anycast_dists) (Nat.le_of_ble_eq_true rfl) fun Λ Λo K hK => ?_
  have hval := avalid_ok P hP t A hA
  have hfits := fun (h : anyB t A = true) => gfits_ok P hP t down (validT_spec.1 (of_decide_eq_true h).1).2.2.1
  have hdist := fun m => sdist_ok P hP t down m
  have hclone := fun ll h h0 => cloneInts_new P hP ll h h0
  clear hP
  by_cases hf : anyB t A = true ∧ fitsB t down = true
  · obtain ⟨hv, hl0, hok⟩ := of_decide_eq_true hf.1
    have hdd : ∀ m : Int, 0 ≤ m → m < t.nodes → Ret P n_spf_Dist [topA t, boolsA down, iA m] (.tup [intsA (distS t down m false), iA 0]) := fun m h0 h1 => by
      have := hdist m
      rw [searchS, if_pos hf.2, if_pos ⟨h0, h1⟩] at this
      exact this
    have hsp : ∀ m : Int, 0 ≤ m → m < t.nodes → ((distS t down m false).length : Int) = t.nodes := fun m h0 h1 => (distS_spec hv down false h0 h1).1.len
    have hsb : ∀ m : Int, 0 ≤ m → m < t.nodes → ∀ i, 0 ≤ i → i < t.nodes → -1 ≤ gt (distS t down m false) i := fun m h0 h1 i i0 i1 => ((distS_spec hv down false h0 h1).2 i i0 i1).1
    have hval : Ret P n_anycast_Valid [topA t, intsA A] (bA true) := hf.1 ▸ hval
    have hfits : Ret P n_graph_Fits [topA t, boolsA down] (bA true) := by
      have h2 := hfits hf.1
      have h3 := hf.2
      rw [decide_eq_true (by simpa [fitsB, hv] using h3)] at h2
      exact h2
    rw [if_pos hf] at hK
    clear hdist hf
    have v1 := validT_spec.1 hv
    obtain ⟨nn, hnn⟩ : ∃ x : Nat, (x : Int) = t.nodes := ⟨t.nodes.toNat, by omega⟩
    obtain ⟨nodes, hN⟩ : ∃ x, x = t.nodes := ⟨_, rfl⟩
    obtain ⟨ol, hol⟩ : ∃ x, x = t.ov.map encB := ⟨_, rfl⟩
    obtain ⟨ll, hll⟩ : ∃ x, x = t.links.map encLk := ⟨_, rfl⟩
    obtain ⟨dl, hdl⟩ : ∃ x, x = down.map encB := ⟨_, rfl⟩
    obtain ⟨al, hal⟩ : ∃ x, x = A.map encI := ⟨_, rfl⟩
    have lal : Λ al = A.length := by rw [Λo, hal]; simp
    have k1 : ∀ rs zs, rs = (rowsS t down A).map encRow → zs = (allS t down A).map encI → K (.tup [.c (.d (.list false 1 rs)), .c (.d (.list false 1 zs)), iA 0]) := fun rs zs h1 h2 => by
      rw [h1, h2]; exact hK
    clear hK
    simp only [topA, boolsA, boolsD, linksD, intsA, intsD, ← hN, ← hol, ← hll, ← hdl, ← hal] at hval hfits hdd ⊢
    clear hol hll hdl
    conv => cbv
    repeat' first | (refine call_r hval rfl rfl ?_; conv => cbv) | (refine call_r hfits rfl rfl ?_; conv => cbv) | (intro (_ : Unit); first | omega | rfl | exact ⟨rfl, by omega⟩ | (simp only [nI_eq]; omega) | ((repeat' first | rfl | omega | refine And.intro ?_ ?_ | (simp only [nI_eq]; omega) | (simp only [List.length_cons, List.length_nil]; omega) | exact Nat.le_of_ble_eq_true rfl); done)) | exact trivial | refine And.intro ?_ ?_ | (intro hc; exact absurd hc (by decide)) | (intro hc; exfalso; omega) | (intro hc; (first | rw [wrap_small (by omega) (by omega)] at hc | rw [nI_eq] at hc | skip); try (conv => cbv))
    refine loop_up A.length (fun (s : Int × Nat × Bool × Nat × List (List D) × Bool × List (List D) × Bool × List (List D)) => [(1, .c (.d (.list false 1 dl))), (3, .c (.ptr 0 0 0 0)), (6, .c (.arr 1 s.2.1 0 s.2.2.2.1)), (7, match s.2.2.2.2.2.1 with | true => .c (.arr 2 0 0 0) | false => .c (.arr 4 1 0 nn)), (25, .c (.d (.list false 1 al))), (26, iA (Λ al)), (27, iA s.1)])
      (fun s => .bx [.d (iD nodes), .d (.list false 1 ol), .d (.list false 7 ll)] :: .da s.2.2.1 s.2.1 1 s.2.2.2.2.1 :: .da false 0 1 [] :: match s.2.2.2.2.2.1 with | true => [] | false => [.da true 0 1 s.2.2.2.2.2.2.1, .da s.2.2.2.2.2.2.2.1 1 1 s.2.2.2.2.2.2.2.2])
      (fun k s => s.1 = k ∧ k ≤ A.length ∧ s.2.2.2.1 = s.2.2.2.2.1.length ∧ s.2.2.2.2.1 = ((rowsS t down A).take k).map encRow ∧ match s.2.2.2.2.2.1 with | true => k = 0 | false => 0 < k ∧ s.2.2.2.2.2.2.2.1 = true ∧ s.2.2.2.2.2.2.2.2 = (allS t down (A.take k)).map encI)
      (0, 0, false, 0, [], true, [], true, []) (.trans (.nilS 6 1 rfl) (.trans (.nilS 7 1 rfl) (Wk.cut ⟨[], rfl⟩ (Nat.le_of_ble_eq_true rfl) rfl (by repeat' first | exact trivial | refine And.intro ?_ ?_ | rfl)))) ⟨rfl, by omega, rfl, by simp, rfl⟩ (fun k s h => h.2.1) ?_
    rintro k ⟨i, ve, r, n6, es, first, tmp, rl, all⟩ Q' ⟨hi, hk, hn6, hes, hfst⟩ norm ex rt
    simp only at hi hn6 hes hfst
    by_cases hlt : k < A.length
    · obtain ⟨m, hm⟩ : ∃ m, A[k]? = some m := ⟨_, List.getElem?_eq_getElem hlt⟩
      have hra : al[i.toNat]? = some [iD m] := by rw [hi, Int.toNat_natCast, hal, List.getElem?_map, hm]; rfl
      have hmo := hok k hlt
      rw [okAt, List.getD_eq_getElem?_getD, hm, Option.getD_some] at hmo
      have hdm := hdd m hmo.1 (by omega)
      have lenD := hsp m hmo.1 hmo.2.1
      have bndD := hsb m hmo.1 hmo.2.1
      have hrow : (rowsS t down A)[k]? = some (distS t down m false) := by rw [rowsS, List.getElem?_map, hm]; rfl
      have hnew := fun i h => allS_succ (t := t) (down := down) hm (i := i) h
      obtain ⟨E, hE⟩ : ∃ l, l = distS t down m false := ⟨_, rfl⟩
      rw [← hE] at hdm lenD bndD hrow hnew
      obtain ⟨dd, hdd2⟩ : ∃ l, l = E.map encI := ⟨_, rfl⟩
      rw [← hdd2] at hdm
      have ldd : Λ dd = nn := by rw [Λo, hdd2]; simp; omega
      have lde : dd.length = nn := by rw [hdd2]; simp; omega
      have lesl : es.length ≤ k := by rw [hes]; simp; omega
      have hcl := hclone dd (by omega) (by intro e; rw [e] at lde; simp at lde; omega)
      clear hclone hdd hsp hsb hval hfits k1
      cases first
      · obtain ⟨hk0, hrl, hall⟩ := hfst
        subst hrl
        conv => cbv
        repeat' first | (refine ex _ _ _ ?_; (conv => cbv)) | (refine rt _ _ ?_; (conv => cbv)) | (intro (e : List D) he; cases Option.some.inj (he.symm.trans hra); (conv => cbv)) | (refine call_r hdm rfl rfl ?_; conv => cbv) | (intro (_ : Unit); refine ⟨rfl, ?_⟩; simp only [List.length_cons, List.length_nil]; omega) | (intro (_ : Unit); first | omega | rfl | exact ⟨rfl, by omega⟩ | (simp only [nI_eq]; omega) | ((repeat' first | rfl | omega | refine And.intro ?_ ?_ | (simp only [nI_eq]; omega) | (simp only [List.length_cons, List.length_nil]; omega) | exact Nat.le_of_ble_eq_true rfl); done)) | exact trivial | refine And.intro ?_ ?_ | (intro hc; exact absurd hc (by decide)) | (intro hc; exfalso; omega) | (intro hc; (first | rw [wrap_small (by omega) (by omega)] at hc | rw [nI_eq] at hc | skip); try (conv => cbv))
        rename_i m' r' es2 hm' hr' hes2
        obtain ⟨A0, h0, l0, hmg⟩ : ∃ A0 : List Int, all = A0.map encI ∧ A0.length = nn ∧ ∀ p : Nat, p < nn → (allS t down (A.take (k + 1)))[p]? = some (mrg (gt A0 p) (gt E p)) := by
          refine ⟨allS t down (A.take k), hall, by rw [allS_len]; omega, fun p hp => ?_⟩
          rw [hnew p (by omega)]
          congr 2
          have := allS_at (t := t) (down := down) (A := A.take k) (i := p) (by omega)
          rw [gt, List.getD_eq_getElem?_getD, Int.toNat_natCast, this]; rfl
        refine loop_up nn (fun (s : Int × List (List D)) => [(1, .c (.d (.list false 1 dl))), (3, .c (.ptr 0 0 0 0)), (6, .c (.arr 1 (ve + 1) 0 m')), (7, .c (.arr 4 1 0 nn)), (25, .c (.d (.list false 1 al))), (26, iA (Λ al)), (27, iA i), (46, .c (.d (.list false 1 dd))), (47, iA (Λ dd)), (48, iA s.1)])
          (fun s => [.bx [.d (iD nodes), .d (.list false 1 ol), .d (.list false 7 ll)], .da r' (ve + 1) 1 es2, .da false 0 1 [], .da true 0 1 tmp, .da true 1 1 s.2])
          (fun j s => s.1 = j ∧ j ≤ nn ∧ ∃ B : List Int, s.2 = B.map encI ∧ B.length = nn ∧ ∀ p : Nat, p < nn → gt B p = if p < j then mrg (gt A0 p) (gt E p) else gt A0 p) (0, all) (Wk.cut ⟨_, rfl⟩ (Nat.zero_le _) rfl (by repeat' first | exact trivial | refine And.intro ?_ ?_ | rfl)) ⟨rfl, Nat.zero_le _, A0, h0, l0, fun p hp => by simp⟩ (fun k s h => h.2.1) ?_
        rintro j ⟨jj, bl⟩ Q2 ⟨hj, hjn, B, hB, lB, hpt⟩ nrm ex rt
        simp only at hj hB
        by_cases hjlt : j < nn
        · have hde : dd[jj.toNat]? = some [iD (gt E j)] := by rw [hj, Int.toNat_natCast, hdd2]; exact encI_at (by omega)
          have hbe : bl[j]? = some [iD (gt B j)] := by rw [hB]; exact encI_at (by omega)
          have hbj := hpt j hjlt
          rw [if_neg (Nat.lt_irrefl _)] at hbj
          have lbl : bl.length = nn := by rw [hB, List.length_map]; exact lB
          have stp : ∀ v x, v = mrg (gt B j) (gt E j) → x = bl.set j [iD v] → ∃ B' : List Int, x = B'.map encI ∧ B'.length = nn ∧ ∀ p : Nat, p < nn → gt B' p = if p < j + 1 then mrg (gt A0 p) (gt E p) else gt A0 p := fun v x h1 h2 => by
            refine ⟨B.set ((j : Int)).toNat v, ?_, by rw [List.length_set]; exact lB, fun p hp => ?_⟩
            · rw [h2, hB, encI_set, Int.toNat_natCast]
            · rw [gt_setD (by omega) (by omega) p (by omega)]
              by_cases e : p = j
              · rw [if_pos (by omega), if_pos (by omega), h1, hbj, e]
              · rw [if_neg (by omega), hpt p hp]
                by_cases e2 : p < j
                · rw [if_pos e2, if_pos (by omega)]
                · rw [if_neg e2, if_neg (by omega)]
          have skp : mrg (gt B j) (gt E j) = gt B j → ∃ B' : List Int, bl = B'.map encI ∧ B'.length = nn ∧ ∀ p : Nat, p < nn → gt B' p = if p < j + 1 then mrg (gt A0 p) (gt E p) else gt A0 p := fun h1 => by
            refine ⟨B, hB, lB, fun p hp => ?_⟩
            by_cases e : p = j
            · rw [if_pos (by omega), e, ← hbj, h1]
            · rw [hpt p hp]
              by_cases e2 : p < j
              · rw [if_pos e2, if_pos (by omega)]
              · rw [if_neg e2, if_neg (by omega)]
          obtain ⟨b, hb⟩ : ∃ b, b = gt B j := ⟨_, rfl⟩
          obtain ⟨e, he⟩ : ∃ e, e = gt E j := ⟨_, rfl⟩
          rw [← hb] at hbe stp skp
          rw [← he] at hde stp skp
          clear hpt norm
          conv => cbv
          repeat' first | (refine ex _ _ _ ?_; (conv => cbv)) | (refine rt _ _ ?_; (conv => cbv)) | (intro (k : Nat) hk; refine (fun (hz : j = k) => ?_) ?_; rotate_left; omega; subst hz; (conv => cbv)) | (intro (e : List D) he; cases Option.some.inj (he.symm.trans hde); (conv => cbv)) | (intro (e : List D) he; cases Option.some.inj (he.symm.trans hbe); (conv => cbv)) | (intro (_ : Unit); first | omega | rfl | exact ⟨rfl, by omega⟩ | (simp only [nI_eq]; omega) | ((repeat' first | rfl | omega | refine And.intro ?_ ?_ | (simp only [nI_eq]; omega) | (simp only [List.length_cons, List.length_nil]; omega) | exact Nat.le_of_ble_eq_true rfl); done)) | exact trivial | refine And.intro ?_ ?_ | (intro hc; exact absurd hc (by decide)) | (intro hc; exfalso; omega) | (intro hc; (first | rw [wrap_small (by omega) (by omega)] at hc | rw [nI_eq] at hc | skip); try (conv => cbv))
          · rename_i x hx j'
            exact nrm _ _ (j', x) ⟨by simp only; omega, by omega, stp e x (by rw [mrg, if_pos (by assumption)]) hx⟩ (Wk.cut ⟨[], rfl⟩ (Nat.le_of_ble_eq_true rfl) rfl (by repeat' first | exact trivial | refine And.intro ?_ ?_ | rfl))
          · rename_i v hvv x hx j'
            exact nrm _ _ (j', x) ⟨by simp only; omega, by omega, stp v x (by rw [mrg, if_neg (by assumption), if_pos (by assumption)]; omega) hx⟩ (Wk.cut ⟨[], rfl⟩ (Nat.le_of_ble_eq_true rfl) rfl (by repeat' first | exact trivial | refine And.intro ?_ ?_ | rfl))
          · rename_i j'
            exact nrm _ _ (j', bl) ⟨by simp only; omega, by omega, skp (by rw [mrg, if_neg (by assumption), if_neg (by assumption)])⟩ (Wk.cut ⟨[], rfl⟩ (Nat.le_of_ble_eq_true rfl) rfl (by repeat' first | exact trivial | refine And.intro ?_ ?_ | rfl))
        · have e : j = nn := by omega
          conv => cbv
          repeat' first | (refine ex _ _ _ ?_; (conv => cbv)) | (refine rt _ _ ?_; (conv => cbv)) | (intro (_ : Unit); first | omega | rfl | exact ⟨rfl, by omega⟩ | (simp only [nI_eq]; omega) | ((repeat' first | rfl | omega | refine And.intro ?_ ?_ | (simp only [nI_eq]; omega) | (simp only [List.length_cons, List.length_nil]; omega) | exact Nat.le_of_ble_eq_true rfl); done)) | exact trivial | refine And.intro ?_ ?_ | (intro hc; exact absurd hc (by decide)) | (intro hc; exfalso; omega) | (intro hc; (first | rw [wrap_small (by omega) (by omega)] at hc | rw [nI_eq] at hc | skip); try (conv => cbv))
          rename_i i'
          have e1 : es2 = ((rowsS t down A).take (k + 1)).map encRow := by
            rw [hes2, take_succ_get hrow, List.map_append, List.drop_zero, hn6, List.take_length, hes, hdd2]; rfl
          have e2 : bl = (allS t down (A.take (k + 1))).map encI := by
            rw [hB]
            congr 1
            refine List.ext_getElem? fun p => ?_
            rcases Nat.lt_or_ge p nn with hp | hp
            · have h1 := hpt p hp
              rw [if_pos (by omega)] at h1
              rw [hmg p hp, ← h1, gt, List.getD_eq_getElem?_getD, Int.toNat_natCast, List.getElem?_eq_getElem (by omega)]; rfl
            · rw [List.getElem?_eq_none (by omega), List.getElem?_eq_none (by rw [allS_len]; omega)]
          exact norm _ _ (i', ve + 1, r', m', es2, false, tmp, true, bl) ⟨by simp only; omega, by omega, by simp only; rw [hm', hes2, List.drop_zero, hn6, List.take_length]; simp, e1, by omega, rfl, e2⟩ (Wk.cut ⟨[], rfl⟩ (Nat.le_of_ble_eq_true rfl) rfl (by repeat' first | exact trivial | refine And.intro ?_ ?_ | rfl))
      · conv => cbv
        repeat' first | (refine ex _ _ _ ?_; (conv => cbv)) | (refine rt _ _ ?_; (conv => cbv)) | (intro (e : List D) he; cases Option.some.inj (he.symm.trans hra); (conv => cbv)) | (refine call_r hdm rfl rfl ?_; conv => cbv) | (intro (_ : Unit); refine ⟨rfl, ?_⟩; simp only [List.length_cons, List.length_nil]; omega) | (refine call_fr [] hcl rfl rfl (by decide) trivial rfl rfl ?_; rintro r hc' ⟨n', hn', rfl, rfl⟩; obtain rfl : nn = n' := (hn'.trans lde).symm; (conv => cbv)) | (intro (_ : Unit); first | omega | rfl | exact ⟨rfl, by omega⟩ | (simp only [nI_eq]; omega) | ((repeat' first | rfl | omega | refine And.intro ?_ ?_ | (simp only [nI_eq]; omega) | (simp only [List.length_cons, List.length_nil]; omega) | exact Nat.le_of_ble_eq_true rfl); done)) | exact trivial | refine And.intro ?_ ?_ | (intro hc; exact absurd hc (by decide)) | (intro hc; exfalso; omega) | (intro hc; (first | rw [wrap_small (by omega) (by omega)] at hc | rw [nI_eq] at hc | skip); try (conv => cbv))
        rename_i m' r' es2 hm' hr' hes2
        obtain ⟨A0, h0, l0, hmg⟩ : ∃ A0 : List Int, dd = A0.map encI ∧ A0.length = nn ∧ ∀ p : Nat, p < nn → (allS t down (A.take (k + 1)))[p]? = some (mrg (gt A0 p) (gt E p)) := by
          refine ⟨E, hdd2, by omega, fun p hp => ?_⟩
          rw [hnew p (by omega), mrg_self]
          rw [hfst]; rfl
        refine loop_up nn (fun (s : Int × List (List D)) => [(1, .c (.d (.list false 1 dl))), (3, .c (.ptr 0 0 0 0)), (6, .c (.arr 1 (ve + 1) 0 m')), (7, .c (.arr 4 1 0 nn)), (25, .c (.d (.list false 1 al))), (26, iA (Λ al)), (27, iA i), (46, .c (.d (.list false 1 dd))), (47, iA (Λ dd)), (48, iA s.1)])
          (fun s => [.bx [.d (iD nodes), .d (.list false 1 ol), .d (.list false 7 ll)], .da r' (ve + 1) 1 es2, .da false 0 1 [], .da true 0 1 [[.list false 1 dd]], .da true 1 1 s.2])
          (fun j s => s.1 = j ∧ j ≤ nn ∧ ∃ B : List Int, s.2 = B.map encI ∧ B.length = nn ∧ ∀ p : Nat, p < nn → gt B p = if p < j then mrg (gt A0 p) (gt E p) else gt A0 p) (0, dd) (Wk.cut ⟨_, rfl⟩ (Nat.zero_le _) rfl (by repeat' first | exact trivial | refine And.intro ?_ ?_ | rfl)) ⟨rfl, Nat.zero_le _, A0, h0, l0, fun p hp => by simp⟩ (fun k s h => h.2.1) ?_
        rintro j ⟨jj, bl⟩ Q2 ⟨hj, hjn, B, hB, lB, hpt⟩ nrm ex rt
        simp only at hj hB
        by_cases hjlt : j < nn
        · have hde : dd[jj.toNat]? = some [iD (gt E j)] := by rw [hj, Int.toNat_natCast, hdd2]; exact encI_at (by omega)
          have hbe : bl[j]? = some [iD (gt B j)] := by rw [hB]; exact encI_at (by omega)
          have hbj := hpt j hjlt
          rw [if_neg (Nat.lt_irrefl _)] at hbj
          have lbl : bl.length = nn := by rw [hB, List.length_map]; exact lB
          have stp : ∀ v x, v = mrg (gt B j) (gt E j) → x = bl.set j [iD v] → ∃ B' : List Int, x = B'.map encI ∧ B'.length = nn ∧ ∀ p : Nat, p < nn → gt B' p = if p < j + 1 then mrg (gt A0 p) (gt E p) else gt A0 p := fun v x h1 h2 => by
            refine ⟨B.set ((j : Int)).toNat v, ?_, by rw [List.length_set]; exact lB, fun p hp => ?_⟩
            · rw [h2, hB, encI_set, Int.toNat_natCast]
            · rw [gt_setD (by omega) (by omega) p (by omega)]
              by_cases e : p = j
              · rw [if_pos (by omega), if_pos (by omega), h1, hbj, e]
              · rw [if_neg (by omega), hpt p hp]
                by_cases e2 : p < j
                · rw [if_pos e2, if_pos (by omega)]
                · rw [if_neg e2, if_neg (by omega)]
          have skp : mrg (gt B j) (gt E j) = gt B j → ∃ B' : List Int, bl = B'.map encI ∧ B'.length = nn ∧ ∀ p : Nat, p < nn → gt B' p = if p < j + 1 then mrg (gt A0 p) (gt E p) else gt A0 p := fun h1 => by
            refine ⟨B, hB, lB, fun p hp => ?_⟩
            by_cases e : p = j
            · rw [if_pos (by omega), e, ← hbj, h1]
            · rw [hpt p hp]
              by_cases e2 : p < j
              · rw [if_pos e2, if_pos (by omega)]
              · rw [if_neg e2, if_neg (by omega)]
          obtain ⟨b, hb⟩ : ∃ b, b = gt B j := ⟨_, rfl⟩
          obtain ⟨e, he⟩ : ∃ e, e = gt E j := ⟨_, rfl⟩
          rw [← hb] at hbe stp skp
          rw [← he] at hde stp skp
          clear hpt norm
          conv => cbv
          repeat' first | (refine ex _ _ _ ?_; (conv => cbv)) | (refine rt _ _ ?_; (conv => cbv)) | (intro (k : Nat) hk; refine (fun (hz : j = k) => ?_) ?_; rotate_left; omega; subst hz; (conv => cbv)) | (intro (e : List D) he; cases Option.some.inj (he.symm.trans hde); (conv => cbv)) | (intro (e : List D) he; cases Option.some.inj (he.symm.trans hbe); (conv => cbv)) | (intro (_ : Unit); first | omega | rfl | exact ⟨rfl, by omega⟩ | (simp only [nI_eq]; omega) | ((repeat' first | rfl | omega | refine And.intro ?_ ?_ | (simp only [nI_eq]; omega) | (simp only [List.length_cons, List.length_nil]; omega) | exact Nat.le_of_ble_eq_true rfl); done)) | exact trivial | refine And.intro ?_ ?_ | (intro hc; exact absurd hc (by decide)) | (intro hc; exfalso; omega) | (intro hc; (first | rw [wrap_small (by omega) (by omega)] at hc | rw [nI_eq] at hc | skip); try (conv => cbv))
          · rename_i x hx j'
            exact nrm _ _ (j', x) ⟨by simp only; omega, by omega, stp e x (by rw [mrg, if_pos (by assumption)]) hx⟩ (Wk.cut ⟨[], rfl⟩ (Nat.le_of_ble_eq_true rfl) rfl (by repeat' first | exact trivial | refine And.intro ?_ ?_ | rfl))
          · rename_i v hvv x hx j'
            exact nrm _ _ (j', x) ⟨by simp only; omega, by omega, stp v x (by rw [mrg, if_neg (by assumption), if_pos (by assumption)]; omega) hx⟩ (Wk.cut ⟨[], rfl⟩ (Nat.le_of_ble_eq_true rfl) rfl (by repeat' first | exact trivial | refine And.intro ?_ ?_ | rfl))
          · rename_i j'
            exact nrm _ _ (j', bl) ⟨by simp only; omega, by omega, skp (by rw [mrg, if_neg (by assumption), if_neg (by assumption)])⟩ (Wk.cut ⟨[], rfl⟩ (Nat.le_of_ble_eq_true rfl) rfl (by repeat' first | exact trivial | refine And.intro ?_ ?_ | rfl))
        · have e : j = nn := by omega
          conv => cbv
          repeat' first | (refine ex _ _ _ ?_; (conv => cbv)) | (refine rt _ _ ?_; (conv => cbv)) | (intro (_ : Unit); first | omega | rfl | exact ⟨rfl, by omega⟩ | (simp only [nI_eq]; omega) | ((repeat' first | rfl | omega | refine And.intro ?_ ?_ | (simp only [nI_eq]; omega) | (simp only [List.length_cons, List.length_nil]; omega) | exact Nat.le_of_ble_eq_true rfl); done)) | exact trivial | refine And.intro ?_ ?_ | (intro hc; exact absurd hc (by decide)) | (intro hc; exfalso; omega) | (intro hc; (first | rw [wrap_small (by omega) (by omega)] at hc | rw [nI_eq] at hc | skip); try (conv => cbv))
          rename_i i'
          have e1 : es2 = ((rowsS t down A).take (k + 1)).map encRow := by
            rw [hes2, take_succ_get hrow, List.map_append, List.drop_zero, hn6, List.take_length, hes, hdd2]; rfl
          have e2 : bl = (allS t down (A.take (k + 1))).map encI := by
            rw [hB]
            congr 1
            refine List.ext_getElem? fun p => ?_
            rcases Nat.lt_or_ge p nn with hp | hp
            · have h1 := hpt p hp
              rw [if_pos (by omega)] at h1
              rw [hmg p hp, ← h1, gt, List.getD_eq_getElem?_getD, Int.toNat_natCast, List.getElem?_eq_getElem (by omega)]; rfl
            · rw [List.getElem?_eq_none (by omega), List.getElem?_eq_none (by rw [allS_len]; omega)]
          exact norm _ _ (i', ve + 1, r', m', es2, false, [[.list false 1 dd]], true, bl) ⟨by simp only; omega, by omega, by simp only; rw [hm', hes2, List.drop_zero, hn6, List.take_length]; simp, e1, by omega, rfl, e2⟩ (Wk.cut ⟨[], rfl⟩ (Nat.le_of_ble_eq_true rfl) rfl (by repeat' first | exact trivial | refine And.intro ?_ ?_ | rfl))
    · cases first
      · obtain ⟨hk0, hrl, hall⟩ := hfst
        subst hrl
        conv => cbv
        repeat' first | (refine ex _ _ _ ?_; (conv => cbv)) | (refine rt _ _ ?_; (conv => cbv)) | (intro (_ : Unit); first | omega | rfl | exact ⟨rfl, by omega⟩ | (simp only [nI_eq]; omega) | ((repeat' first | rfl | omega | refine And.intro ?_ ?_ | (simp only [nI_eq]; omega) | (simp only [List.length_cons, List.length_nil]; omega) | exact Nat.le_of_ble_eq_true rfl); done)) | exact trivial | refine And.intro ?_ ?_ | (intro hc; exact absurd hc (by decide)) | (intro hc; exfalso; omega) | (intro hc; (first | rw [wrap_small (by omega) (by omega)] at hc | rw [nI_eq] at hc | skip); try (conv => cbv))
        rename_i ls1 h1 ls2
        refine k1 _ _ ?_ ?_
        · rw [h1, List.drop_zero, hn6, List.take_length, hes, List.take_of_length_le (by rw [rowsS, List.length_map]; omega)]
        · rw [hc, List.drop_zero, List.take_of_length_le (by rw [hall, List.length_map, allS_len]; omega), hall, List.take_of_length_le (by omega)]
      · simp only at hfst
        exact absurd hl0 (by omega)
  · rw [if_neg hf] at hK
    clear hclone hdist
    by_cases h1 : anyB t A = true
    · have hv := (of_decide_eq_true h1).1
      have h2 := hfits h1
      rw [decide_eq_false (fun h => hf ⟨h1, by simpa [fitsB, hv] using h⟩)] at h2
      rw [h1] at hval
      clear hfits hf h1 hv
      simp only [intsA, intsD, boolsA, boolsD, rowsA, List.map_nil] at *
      generalize down.map encB = dl at *
      generalize A.map encI = al at *
      obtain ⟨nodes, ov, links⟩ := t
      simp only [topA, boolsD, linksD] at *
      generalize hol : ov.map encB = ol at *
      generalize hll : links.map encLk = ll at *
      have hlo : Λ ol = ov.length := by rw [Λo, ← hol]; simp
      have hls : Λ ll = links.length := by rw [Λo, ← hll]; simp
      conv => cbv
      repeat' first | (refine call_r hval rfl rfl ?_; conv => cbv) | (refine call_r h2 rfl rfl ?_; conv => cbv) | (intro (_ : Unit); first | omega | rfl | exact ⟨rfl, by omega⟩ | (simp only [nI_eq]; omega) | ((repeat' first | rfl | omega | refine And.intro ?_ ?_ | (simp only [nI_eq]; omega) | (simp only [List.length_cons, List.length_nil]; omega) | exact Nat.le_of_ble_eq_true rfl); done)) | exact trivial | refine And.intro ?_ ?_ | (intro hc; exact absurd hc (by decide)) | (intro hc; exfalso; omega) | (intro hc; (first | rw [wrap_small (by omega) (by omega)] at hc | rw [nI_eq] at hc | skip); try (conv => cbv))
      exact hK
    · rw [Bool.eq_false_iff.2 h1] at hval
      clear hfits hf h1
      simp only [intsA, intsD, boolsA, boolsD, rowsA, List.map_nil] at *
      generalize down.map encB = dl at *
      generalize A.map encI = al at *
      obtain ⟨nodes, ov, links⟩ := t
      simp only [topA, boolsD, linksD] at *
      generalize hol : ov.map encB = ol at *
      generalize hll : links.map encLk = ll at *
      have hlo : Λ ol = ov.length := by rw [Λo, ← hol]; simp
      have hls : Λ ll = links.length := by rw [Λo, ← hll]; simp
      conv => cbv
      repeat' first | (refine call_r hval rfl rfl ?_; conv => cbv) | (intro (_ : Unit); first | omega | rfl | exact ⟨rfl, by omega⟩ | (simp only [nI_eq]; omega) | ((repeat' first | rfl | omega | refine And.intro ?_ ?_ | (simp only [nI_eq]; omega) | (simp only [List.length_cons, List.length_nil]; omega) | exact Nat.le_of_ble_eq_true rfl); done)) | exact trivial | refine And.intro ?_ ?_ | (intro hc; exact absurd hc (by decide)) | (intro hc; exfalso; omega) | (intro hc; (first | rw [wrap_small (by omega) (by omega)] at hc | rw [nI_eq] at hc | skip); try (conv => cbv))
      exact hK

end Go.Ab

/-
  Groups: Dist, as the program and as the reference find it.
-/
namespace Go.Ab
open Go.Proofs

/-- what Dist answers -/
noncomputable def adistS (t : Top) (down : List Bool) (A : List Int) : List Int × Int := if anyB t A = true ∧ fitsB t down = true then (allS t down A, 0) else ([], 1)

/-- as the reference merges -/
theorem mrg_ref {a d : Int} (ha : -1 ≤ a) (hd : -1 ≤ d) : mrg a d = if 0 ≤ d ∧ (a < 0 ∨ d < a) then d else a := by
  unfold mrg; repeat' split
  all_goals omega

theorem mrg_lo {a d : Int} (ha : -1 ≤ a) (hd : -1 ≤ d) : -1 ≤ mrg a d := by
  unfold mrg; repeat' split
  all_goals omega

theorem fold_lo : ∀ (l : List Int) (a : Int), -1 ≤ a → (∀ x ∈ l, -1 ≤ x) → -1 ≤ l.foldl mrg a
  | [], a, h, _ => h
  | x :: l, a, h, hl => fold_lo l _ (mrg_lo h (hl x (by simp))) fun y hy => hl y (by simp [hy])

set_option maxHeartbeats 4000000 in
theorem radist_ok (P : Program) (hP : P = Try.prog) (t : Top) (down : List Bool) (A : List Int) (hA : (A.length : Int) ≤ 2000000) : Ret P n_ref16_Dist [topA t, boolsA down, intsA A] (.tup [intsA (adistS t down A).1, iA (adistS t down A).2]) := by
  refine ret_start (hP ▸ mixed) (hP ▸ fn_ref16_Dist) (hP ▸ c_ref16_Dist) (Nat.le_of_ble_eq_true rfl) fun Λ Λo K hK => ?_
  have hval := rvalid16_ok P hP t A hA
  have hfits := fits_ok P hP t down
  have hdist := fun m => dist_ok P hP t down m
  clear hP
  rw [adistS] at hK
  split at hK
  · rename_i hf
    obtain ⟨hv, hl0, hok⟩ := of_decide_eq_true hf.1
    have hdd : ∀ m : Int, 0 ≤ m → m < t.nodes → Ret P n_ref11_Dist [topA t, boolsA down, iA m] (.tup [intsA (distS t down m false), iA 0]) := fun m h0 h1 => by
      have := hdist m
      rw [searchS, if_pos hf.2, if_pos ⟨h0, h1⟩] at this
      exact this
    have hsp : ∀ m : Int, 0 ≤ m → m < t.nodes → ((distS t down m false).length : Int) = t.nodes := fun m h0 h1 => (distS_spec hv down false h0 h1).1.len
    have hsb : ∀ m : Int, 0 ≤ m → m < t.nodes → ∀ i, 0 ≤ i → i < t.nodes → -1 ≤ gt (distS t down m false) i := fun m h0 h1 i i0 i1 => ((distS_spec hv down false h0 h1).2 i i0 i1).1
    have hmem : ∀ m ∈ A, 0 ≤ m ∧ m < t.nodes := fun m hm => by
      obtain ⟨k, hk, e⟩ := List.mem_iff_getElem.1 hm
      have := hok k hk
      rw [okAt, List.getD_eq_getElem?_getD, List.getElem?_eq_getElem hk, Option.getD_some, e] at this
      exact ⟨this.1, this.2.1⟩
    rw [hf.1] at hval
    rw [hf.2] at hfits
    clear hdist hf
    have v1 := validT_spec.1 hv
    obtain ⟨nn, hnn⟩ : ∃ x : Nat, (x : Int) = t.nodes := ⟨t.nodes.toNat, by omega⟩
    obtain ⟨nodes, hN⟩ : ∃ x, x = t.nodes := ⟨_, rfl⟩
    obtain ⟨ol, hol⟩ : ∃ x, x = t.ov.map encB := ⟨_, rfl⟩
    obtain ⟨ll, hll⟩ : ∃ x, x = t.links.map encLk := ⟨_, rfl⟩
    obtain ⟨dl, hdl⟩ : ∃ x, x = down.map encB := ⟨_, rfl⟩
    obtain ⟨al, hal⟩ : ∃ x, x = A.map encI := ⟨_, rfl⟩
    have lal : Λ al = A.length := by rw [Λo, hal]; simp
    have k1 : ∀ zs, zs = (allS t down A).map encI → K (.tup [.c (.d (.list false 1 zs)), iA 0]) := fun zs h2 => by rw [h2]; exact hK
    clear hK
    simp only [topA, boolsA, boolsD, linksD, intsA, intsD, ← hN, ← hol, ← hll, ← hdl, ← hal] at hval hfits hdd ⊢
    clear hol hll hdl
    conv => cbv
    repeat' first | (refine call_r hval rfl rfl ?_; conv => cbv) | (refine call_r hfits rfl rfl ?_; conv => cbv) | (intro (_ : Unit); first | omega | rfl | exact ⟨rfl, by omega⟩ | (simp only [nI_eq]; omega) | ((repeat' first | rfl | omega | refine And.intro ?_ ?_ | (simp only [nI_eq]; omega) | (simp only [List.length_cons, List.length_nil]; omega) | exact Nat.le_of_ble_eq_true rfl); done)) | exact trivial | refine And.intro ?_ ?_ | (intro hc; exact absurd hc (by decide)) | (intro hc; exfalso; omega) | (intro hc; (first | rw [wrap_small (by omega) (by omega)] at hc | rw [nI_eq] at hc | skip); try (conv => cbv))
    rename_i k0 es0 hk0
    have hk1 : k0 = nn := by omega
    subst hk1
    rw [show nodes.toNat = k0 by omega] at hc
    clear hval hfits
    refine loop_up k0 (fun (s : Int × List (List D)) => [(1, .c (.d (.list false 1 dl))), (2, .c (.d (.list false 1 al))), (3, .c (.ptr 0 0 0 0)), (8, .c (.arr 1 0 0 k0)), (9, iA s.1)]) (fun s => [.bx [.d (iD nodes), .d (.list false 1 ol), .d (.list false 7 ll)], .da true 0 1 s.2]) (fun k s => s.1 = k ∧ k ≤ k0 ∧ s.2 = (List.replicate k (-1) ++ List.replicate (k0 - k) 0).map encI) (0, es0) (Wk.cut ⟨[], rfl⟩ (Nat.le_of_ble_eq_true rfl) rfl (by repeat' first | exact trivial | refine And.intro ?_ ?_ | rfl)) ⟨rfl, by omega, by rw [hc]; simp [encI]⟩ (fun k s h => h.2.1) ?_
    rintro j ⟨i, es⟩ Q' ⟨hi, hk, hes⟩ norm ex rt
    simp only at hi hes
    have lel : es.length = k0 := by rw [hes]; simp; omega
    by_cases hlt : j < k0
    · have hfs := fillq_set (-1 : Int) 0 hlt
      have hei : es[j]? = some [iD 0] := by
        rw [hes, List.getElem?_map, fillq_get (-1 : Int) 0 hk, if_neg (by omega), if_pos hlt]; rfl
      clear hdd hsp hsb hok k1
      conv => cbv
      repeat' first | (refine ex _ _ _ ?_; (conv => cbv)) | (refine rt _ _ ?_; (conv => cbv)) | (intro (k : Nat) hk; refine (fun (hz : j = k) => ?_) ?_; rotate_left; omega; subst hz; (conv => cbv)) | (intro (e : List D) he; cases Option.some.inj (he.symm.trans hei); (conv => cbv)) | (intro (_ : Unit); first | omega | rfl | exact ⟨rfl, by omega⟩ | (simp only [nI_eq]; omega) | ((repeat' first | rfl | omega | refine And.intro ?_ ?_ | (simp only [nI_eq]; omega) | (simp only [List.length_cons, List.length_nil]; omega) | exact Nat.le_of_ble_eq_true rfl); done)) | exact trivial | refine And.intro ?_ ?_ | (intro hc; exact absurd hc (by decide)) | (intro hc; exfalso; omega) | (intro hc; (first | rw [wrap_small (by omega) (by omega)] at hc | rw [nI_eq] at hc | skip); try (conv => cbv))
      rename_i es' hes' i'
      refine norm _ _ (i', es') ⟨by simp only; omega, by omega, ?_⟩ (Wk.cut ⟨[], rfl⟩ (Nat.le_of_ble_eq_true rfl) rfl (by repeat' first | exact trivial | refine And.intro ?_ ?_ | rfl))
      simp only
      rw [hes', hes, ← hfs, List.map_set]; rfl
    have e : j = k0 := by omega
    subst e
    rw [Nat.sub_self] at hes
    simp only [List.replicate_zero, List.append_nil] at hes
    have hes : es = (allS t down (A.take 0)).map encI := by
      rw [hes, allS, show t.nodes.toNat = j by omega]
      congr 1
      refine List.ext_getElem (by simp) fun p h1 h2 => by simp [rowsS]
    conv => cbv
    repeat' first | (refine ex _ _ _ ?_; (conv => cbv)) | (refine rt _ _ ?_; (conv => cbv)) | (intro (_ : Unit); first | omega | rfl | exact ⟨rfl, by omega⟩ | (simp only [nI_eq]; omega) | ((repeat' first | rfl | omega | refine And.intro ?_ ?_ | (simp only [nI_eq]; omega) | (simp only [List.length_cons, List.length_nil]; omega) | exact Nat.le_of_ble_eq_true rfl); done)) | exact trivial | refine And.intro ?_ ?_ | (intro hc; exact absurd hc (by decide)) | (intro hc; exfalso; omega) | (intro hc; (first | rw [wrap_small (by omega) (by omega)] at hc | rw [nI_eq] at hc | skip); try (conv => cbv))
    clear norm ex rt
    refine loop_up A.length (fun (s : Int × List (List D)) => [(1, .c (.d (.list false 1 dl))), (2, .c (.d (.list false 1 al))), (3, .c (.ptr 0 0 0 0)), (8, .c (.arr 1 0 0 j)), (10, iA s.1)]) (fun s => [.bx [.d (iD nodes), .d (.list false 1 ol), .d (.list false 7 ll)], .da true 0 1 s.2]) (fun k s => s.1 = k ∧ k ≤ A.length ∧ s.2 = (allS t down (A.take k)).map encI) (0, es) (Wk.cut ⟨[], rfl⟩ (Nat.le_of_ble_eq_true rfl) rfl (by repeat' first | exact trivial | refine And.intro ?_ ?_ | rfl)) ⟨rfl, by omega, hes⟩ (fun k s h => h.2.1) ?_
    clear hes lel hlt hk hi
    rintro k ⟨i, zl⟩ Q' ⟨hi, hk, hzl⟩ norm ex rt
    simp only at hi hzl
    by_cases hlt : k < A.length
    · obtain ⟨m, hm⟩ : ∃ m, A[k]? = some m := ⟨_, List.getElem?_eq_getElem hlt⟩
      have hra : al[i.toNat]? = some [iD m] := by rw [hi, Int.toNat_natCast, hal, List.getElem?_map, hm]; rfl
      have hmo := hmem m (List.mem_of_getElem? hm)
      have hdm := hdd m hmo.1 (by omega)
      have lenD := hsp m hmo.1 hmo.2
      have bndD := hsb m hmo.1 hmo.2
      have hnew := fun i h => allS_succ (t := t) (down := down) hm (i := i) h
      have hlow : ∀ p : Nat, p < j → -1 ≤ gt (allS t down (A.take k)) p := fun p hp => by
        have := allS_at (t := t) (down := down) (A := A.take k) (i := p) (by omega)
        rw [gt, List.getD_eq_getElem?_getD, Int.toNat_natCast, this, Option.getD_some]
        refine fold_lo _ _ (by omega) fun x hx => ?_
        simp only [rowsS, List.mem_map] at hx
        obtain ⟨E, ⟨q, hq, rfl⟩, rfl⟩ := hx
        have hq2 := hmem q (List.mem_of_mem_take hq)
        exact hsb q hq2.1 hq2.2 p (by omega) (by omega)
      obtain ⟨E, hE⟩ : ∃ l, l = distS t down m false := ⟨_, rfl⟩
      rw [← hE] at hdm lenD bndD hnew
      obtain ⟨dd, hdd2⟩ : ∃ l, l = E.map encI := ⟨_, rfl⟩
      rw [← hdd2] at hdm
      have ldd : Λ dd = j := by rw [Λo, hdd2]; simp; omega
      obtain ⟨A0, h0, l0, hlow, hmg⟩ : ∃ A0 : List Int, zl = A0.map encI ∧ A0.length = j ∧ (∀ p : Nat, p < j → -1 ≤ gt A0 p) ∧ ∀ p : Nat, p < j → (allS t down (A.take (k + 1)))[p]? = some (mrg (gt A0 p) (gt E p)) := by
        refine ⟨allS t down (A.take k), hzl, by rw [allS_len]; omega, hlow, fun p hp => ?_⟩
        rw [hnew p (by omega)]
        congr 2
        have := allS_at (t := t) (down := down) (A := A.take k) (i := p) (by omega)
        rw [gt, List.getD_eq_getElem?_getD, Int.toNat_natCast, this]; rfl
      clear hdd hsp hsb k1
      conv => cbv
      repeat' first | (refine ex _ _ _ ?_; (conv => cbv)) | (refine rt _ _ ?_; (conv => cbv)) | (intro (e : List D) he; cases Option.some.inj (he.symm.trans hra); (conv => cbv)) | (refine call_r hdm rfl rfl ?_; conv => cbv) | (intro (_ : Unit); first | omega | rfl | exact ⟨rfl, by omega⟩ | (simp only [nI_eq]; omega) | ((repeat' first | rfl | omega | refine And.intro ?_ ?_ | (simp only [nI_eq]; omega) | (simp only [List.length_cons, List.length_nil]; omega) | exact Nat.le_of_ble_eq_true rfl); done)) | exact trivial | refine And.intro ?_ ?_ | (intro hc; exact absurd hc (by decide)) | (intro hc; exfalso; omega) | (intro hc; (first | rw [wrap_small (by omega) (by omega)] at hc | rw [nI_eq] at hc | skip); try (conv => cbv))
      refine loop_up j (fun (s : Int × List (List D)) => [(1, .c (.d (.list false 1 dl))), (2, .c (.d (.list false 1 al))), (3, .c (.ptr 0 0 0 0)), (8, .c (.arr 1 0 0 j)), (10, iA i), (11, .c (.d (.list false 1 dd))), (13, iA s.1)])
          (fun s => [.bx [.d (iD nodes), .d (.list false 1 ol), .d (.list false 7 ll)], .da true 0 1 s.2])
          (fun q s => s.1 = q ∧ q ≤ j ∧ ∃ B : List Int, s.2 = B.map encI ∧ B.length = j ∧ ∀ p : Nat, p < j → gt B p = if p < q then mrg (gt A0 p) (gt E p) else gt A0 p) (0, zl) (Wk.cut ⟨[], rfl⟩ (Nat.le_of_ble_eq_true rfl) rfl (by repeat' first | exact trivial | refine And.intro ?_ ?_ | rfl)) ⟨rfl, Nat.zero_le _, A0, h0, l0, fun p hp => by simp⟩ (fun k s h => h.2.1) ?_
      rintro q ⟨qq, bl⟩ Q2 ⟨hq, hqn, B, hB, lB, hpt⟩ nrm ex rt
      simp only at hq hB
      by_cases hqlt : q < j
      · have hde : dd[qq.toNat]? = some [iD (gt E q)] := by rw [hq, Int.toNat_natCast, hdd2]; exact encI_at (by omega)
        have hbe : bl[q]? = some [iD (gt B q)] := by rw [hB]; exact encI_at (by omega)
        have hbj := hpt q hqlt
        rw [if_neg (Nat.lt_irrefl _)] at hbj
        have lbl : bl.length = j := by rw [hB, List.length_map]; exact lB
        have hrf := mrg_ref (hbj ▸ hlow q hqlt) (bndD q (by omega) (by omega))
        have stp : ∀ v x, v = mrg (gt B q) (gt E q) → x = bl.set q [iD v] → ∃ B' : List Int, x = B'.map encI ∧ B'.length = j ∧ ∀ p : Nat, p < j → gt B' p = if p < q + 1 then mrg (gt A0 p) (gt E p) else gt A0 p := fun v x h1 h2 => by
          refine ⟨B.set ((q : Int)).toNat v, ?_, by rw [List.length_set]; exact lB, fun p hp => ?_⟩
          · rw [h2, hB, encI_set, Int.toNat_natCast]
          · rw [gt_setD (by omega) (by omega) p (by omega)]
            by_cases e : p = q
            · rw [if_pos (by omega), if_pos (by omega), h1, hbj, e]
            · rw [if_neg (by omega), hpt p hp]
              by_cases e2 : p < q
              · rw [if_pos e2, if_pos (by omega)]
              · rw [if_neg e2, if_neg (by omega)]
        have skp : mrg (gt B q) (gt E q) = gt B q → ∃ B' : List Int, bl = B'.map encI ∧ B'.length = j ∧ ∀ p : Nat, p < j → gt B' p = if p < q + 1 then mrg (gt A0 p) (gt E p) else gt A0 p := fun h1 => by
          refine ⟨B, hB, lB, fun p hp => ?_⟩
          by_cases e : p = q
          · rw [if_pos (by omega), e, ← hbj, h1]
          · rw [hpt p hp]
            by_cases e2 : p < q
            · rw [if_pos e2, if_pos (by omega)]
            · rw [if_neg e2, if_neg (by omega)]
        obtain ⟨b, hb⟩ : ∃ b, b = gt B q := ⟨_, rfl⟩
        obtain ⟨e, he⟩ : ∃ e, e = gt E q := ⟨_, rfl⟩
        rw [← hb] at hbe stp skp hrf
        rw [← he] at hde stp skp hrf
        clear hpt norm hbj hb he hlow bndD
        have stp := fun h => stp e (bl.set q [iD e]) (hrf.trans (if_pos h)).symm rfl
        have skp := fun h => skp (hrf.trans (if_neg h))
        clear hrf
        conv => cbv
        repeat' first | (refine ex _ _ _ ?_; (conv => cbv)) | (refine rt _ _ ?_; (conv => cbv)) | (intro (k : Nat) hk; refine (fun (hz : q = k) => ?_) ?_; rotate_left; omega; subst hz; (conv => cbv)) | (intro (e : List D) he; cases Option.some.inj (he.symm.trans hde); (conv => cbv)) | (intro (e : List D) he; cases Option.some.inj (he.symm.trans hbe); (conv => cbv)) | (intro (_ : Unit); first | omega | rfl | exact ⟨rfl, by omega⟩ | (simp only [nI_eq]; omega) | ((repeat' first | rfl | omega | refine And.intro ?_ ?_ | (simp only [nI_eq]; omega) | (simp only [List.length_cons, List.length_nil]; omega) | exact Nat.le_of_ble_eq_true rfl); done)) | exact trivial | refine And.intro ?_ ?_ | (intro hc; exact absurd hc (by decide)) | (intro hc; exfalso; omega) | (intro hc; (first | rw [wrap_small (by omega) (by omega)] at hc | rw [nI_eq] at hc | skip); try (conv => cbv))
        all_goals first
          | (rename_i x hx j'; have hx : x = bl.set q [iD e] := hx; subst hx; exact nrm _ _ (j', _) ⟨by simp only; omega, by omega, stp (by omega)⟩ (Wk.cut ⟨[], rfl⟩ (Nat.le_of_ble_eq_true rfl) rfl (by repeat' first | exact trivial | refine And.intro ?_ ?_ | rfl)))
          | (rename_i j'; exact nrm _ _ (j', bl) ⟨by simp only; omega, by omega, skp (by omega)⟩ (Wk.cut ⟨[], rfl⟩ (Nat.le_of_ble_eq_true rfl) rfl (by repeat' first | exact trivial | refine And.intro ?_ ?_ | rfl)))
      · have e : q = j := by omega
        conv => cbv
        repeat' first | (refine ex _ _ _ ?_; (conv => cbv)) | (refine rt _ _ ?_; (conv => cbv)) | (intro (_ : Unit); first | omega | rfl | exact ⟨rfl, by omega⟩ | (simp only [nI_eq]; omega) | ((repeat' first | rfl | omega | refine And.intro ?_ ?_ | (simp only [nI_eq]; omega) | (simp only [List.length_cons, List.length_nil]; omega) | exact Nat.le_of_ble_eq_true rfl); done)) | exact trivial | refine And.intro ?_ ?_ | (intro hc; exact absurd hc (by decide)) | (intro hc; exfalso; omega) | (intro hc; (first | rw [wrap_small (by omega) (by omega)] at hc | rw [nI_eq] at hc | skip); try (conv => cbv))
        rename_i i'
        have e2 : bl = (allS t down (A.take (k + 1))).map encI := by
          rw [hB]
          congr 1
          refine List.ext_getElem? fun p => ?_
          rcases Nat.lt_or_ge p j with hp | hp
          · have h1 := hpt p hp
            rw [if_pos (by omega)] at h1
            rw [hmg p hp, ← h1, gt, List.getD_eq_getElem?_getD, Int.toNat_natCast, List.getElem?_eq_getElem (by omega)]; rfl
          · rw [List.getElem?_eq_none (by omega), List.getElem?_eq_none (by rw [allS_len]; omega)]
        exact norm _ _ (i', bl) ⟨by simp only; omega, by omega, e2⟩ (Wk.cut ⟨[], rfl⟩ (Nat.le_of_ble_eq_true rfl) rfl (by repeat' first | exact trivial | refine And.intro ?_ ?_ | rfl))
    · conv => cbv
      repeat' first | (refine ex _ _ _ ?_; (conv => cbv)) | (refine rt _ _ ?_; (conv => cbv)) | (intro (_ : Unit); first | omega | rfl | exact ⟨rfl, by omega⟩ | (simp only [nI_eq]; omega) | ((repeat' first | rfl | omega | refine And.intro ?_ ?_ | (simp only [nI_eq]; omega) | (simp only [List.length_cons, List.length_nil]; omega) | exact Nat.le_of_ble_eq_true rfl); done)) | exact trivial | refine And.intro ?_ ?_ | (intro hc; exact absurd hc (by decide)) | (intro hc; exfalso; omega) | (intro hc; (first | rw [wrap_small (by omega) (by omega)] at hc | rw [nI_eq] at hc | skip); try (conv => cbv))
      rename_i ls
      exact k1 _ (by rw [hc, List.drop_zero, List.take_of_length_le (by rw [hzl, List.length_map, allS_len]; omega), hzl, List.take_of_length_le (by omega)])
  · rename_i hf
    clear hdist
    by_cases h1 : anyB t A = true
    · have h2 : fitsB t down = false := by
        cases h : fitsB t down
        · rfl
        · exact absurd ⟨h1, h⟩ hf
      rw [h1] at hval
      rw [h2] at hfits
      clear hf h1 h2
      simp only [intsA, intsD, boolsA, boolsD, List.map_nil] at *
      generalize down.map encB = dl at *
      generalize A.map encI = al at *
      obtain ⟨nodes, ov, links⟩ := t
      simp only [topA, boolsD, linksD] at *
      generalize hol : ov.map encB = ol at *
      generalize hll : links.map encLk = ll at *
      have hlo : Λ ol = ov.length := by rw [Λo, ← hol]; simp
      have hls : Λ ll = links.length := by rw [Λo, ← hll]; simp
      conv => cbv
      repeat' first | (refine call_r hval rfl rfl ?_; conv => cbv) | (refine call_r hfits rfl rfl ?_; conv => cbv) | (intro (_ : Unit); first | omega | rfl | exact ⟨rfl, by omega⟩ | (simp only [nI_eq]; omega) | ((repeat' first | rfl | omega | refine And.intro ?_ ?_ | (simp only [nI_eq]; omega) | (simp only [List.length_cons, List.length_nil]; omega) | exact Nat.le_of_ble_eq_true rfl); done)) | exact trivial | refine And.intro ?_ ?_ | (intro hc; exact absurd hc (by decide)) | (intro hc; exfalso; omega) | (intro hc; (first | rw [wrap_small (by omega) (by omega)] at hc | rw [nI_eq] at hc | skip); try (conv => cbv))
      exact hK
    · rw [Bool.eq_false_iff.2 h1] at hval
      clear hfits hf h1
      simp only [intsA, intsD, boolsA, boolsD, List.map_nil] at *
      generalize down.map encB = dl at *
      generalize A.map encI = al at *
      obtain ⟨nodes, ov, links⟩ := t
      simp only [topA, boolsD, linksD] at *
      generalize hol : ov.map encB = ol at *
      generalize hll : links.map encLk = ll at *
      have hlo : Λ ol = ov.length := by rw [Λo, ← hol]; simp
      have hls : Λ ll = links.length := by rw [Λo, ← hll]; simp
      conv => cbv
      repeat' first | (refine call_r hval rfl rfl ?_; conv => cbv) | (intro (_ : Unit); first | omega | rfl | exact ⟨rfl, by omega⟩ | (simp only [nI_eq]; omega) | ((repeat' first | rfl | omega | refine And.intro ?_ ?_ | (simp only [nI_eq]; omega) | (simp only [List.length_cons, List.length_nil]; omega) | exact Nat.le_of_ble_eq_true rfl); done)) | exact trivial | refine And.intro ?_ ?_ | (intro hc; exact absurd hc (by decide)) | (intro hc; exfalso; omega) | (intro hc; (first | rw [wrap_small (by omega) (by omega)] at hc | rw [nI_eq] at hc | skip); try (conv => cbv))
      exact hK

end Go.Ab

/-
  Groups: the nearest members.
-/
namespace Go.Ab
open Go.Proofs

/-- what Nearest answers -/
noncomputable def nearS (t : Top) (down : List Bool) (A : List Int) (n : Int) : List Int × Int × Int :=
  if anyB t A = true ∧ fitsB t down = true then (if 0 ≤ n ∧ n < t.nodes then (if gt (allS t down A) n < 0 then ([], 0, 11) else (A.filter fun m => decide (gt (distS t down m false) n = gt (allS t down A) n), gt (allS t down A) n, 0)) else ([], 0, 2)) else ([], 0, 1)

theorem any_mem {t : Top} {A : List Int} (h : anyB t A = true) : ∀ m ∈ A, 0 ≤ m ∧ m < t.nodes := fun m hm => by
  obtain ⟨k, hk, e⟩ := List.mem_iff_getElem.1 hm
  have := (of_decide_eq_true h).2.2 k hk
  rw [okAt, List.getD_eq_getElem?_getD, List.getElem?_eq_getElem hk, Option.getD_some, e] at this
  exact ⟨this.1, this.2.1⟩

set_option maxHeartbeats 4000000 in
theorem anear_ok (P : Program) (hP : P = Try.prog) (t : Top) (down : List Bool) (A : List Int) (n : Int) (hA : (A.length : Int) ≤ 2000000) :
    Ret P n_anycast_Nearest [topA t, boolsA down, intsA A, iA n] (.tup [intsA (nearS t down A n).1, iA (nearS t down A n).2.1, iA (nearS t down A n).2.2]) := by
  refine ret_start (hP ▸ mixed) (hP ▸ fn_anycast_Nearest) (hP ▸ c_anycast_Nearest) (Nat.le_of_ble_eq_true rfl) fun Λ Λo K hK => ?_
  have hd := adists_ok P hP t down A hA
  have hnode := gnode_ok P hP t n
  clear hP
  rw [nearS] at hK
  by_cases hf : anyB t A = true ∧ fitsB t down = true
  · rw [if_pos hf] at hK hd
    have hv := (of_decide_eq_true hf.1).1
    have v1 := validT_spec.1 hv
    by_cases hn : 0 ≤ n ∧ n < t.nodes
    · rw [if_pos hn] at hK
      rw [decide_eq_true hn] at hnode
      have hmem := any_mem hf.1
      have hsp : ∀ m : Int, 0 ≤ m → m < t.nodes → ((distS t down m false).length : Int) = t.nodes := fun m h0 h1 => (distS_spec hv down false h0 h1).1.len
      have hza : ((allS t down A).map encI)[n.toNat]? = some [iD (gt (allS t down A) n)] := by
        rw [encI_at (by rw [allS_len]; omega), Int.toNat_of_nonneg hn.1]
      have hrw : ∀ (k : Nat) (m : Int), A[k]? = some m → ((rowsS t down A).map encRow)[k]? = some [.list false 1 ((distS t down m false).map encI)] := fun k m h => by
        rw [rowsS, List.getElem?_map, List.getElem?_map, h]; rfl
      obtain ⟨an, han⟩ : ∃ a, a = gt (allS t down A) n := ⟨_, rfl⟩
      rw [← han] at hK hza
      have k1 : an < 0 → K (.tup [intsA [], iA 0, iA 11]) := fun h => by rw [if_pos h] at hK; exact hK
      have k2 : ¬ an < 0 → ∀ ls, ls = (A.filter fun m => decide (gt (distS t down m false) n = an)).map encI → K (.tup [.c (.d (.list false 1 ls)), iA an, iA 0]) := fun h ls hl => by rw [if_neg h] at hK; rw [hl]; exact hK
      clear hK hf
      obtain ⟨nodes, hN⟩ : ∃ x, x = t.nodes := ⟨_, rfl⟩
      obtain ⟨ol, hol⟩ : ∃ x, x = t.ov.map encB := ⟨_, rfl⟩
      obtain ⟨ll, hll⟩ : ∃ x, x = t.links.map encLk := ⟨_, rfl⟩
      obtain ⟨dl, hdl⟩ : ∃ x, x = down.map encB := ⟨_, rfl⟩
      obtain ⟨al, hal⟩ : ∃ x, x = A.map encI := ⟨_, rfl⟩
      obtain ⟨zl, hzl⟩ : ∃ x, x = (allS t down A).map encI := ⟨_, rfl⟩
      obtain ⟨rl, hrl⟩ : ∃ x, x = (rowsS t down A).map encRow := ⟨_, rfl⟩
      have lal : Λ al = A.length := by rw [Λo, hal]; simp
      have lzl : Λ zl = t.nodes := by rw [Λo, hzl]; simp [allS_len]; omega
      have lrl : Λ rl = A.length := by rw [Λo, hrl]; simp [rowsS]
      simp only [topA, boolsA, boolsD, linksD, intsA, intsD, rowsA, ← hN, ← hol, ← hll, ← hdl, ← hal, ← hzl, ← hrl] at hd hnode hza hrw k1 ⊢
      clear hol hll hdl
      conv => cbv
      repeat' first | (refine call_r hd rfl rfl ?_; conv => cbv) | (refine call_r hnode rfl rfl ?_; conv => cbv) | (intro (e : List D) he; cases Option.some.inj (he.symm.trans hza); (conv => cbv)) | (intro (_ : Unit); first | omega | rfl | exact ⟨rfl, by omega⟩ | (simp only [nI_eq]; omega) | ((repeat' first | rfl | omega | refine And.intro ?_ ?_ | (simp only [nI_eq]; omega) | (simp only [List.length_cons, List.length_nil]; omega) | exact Nat.le_of_ble_eq_true rfl); done)) | exact trivial | refine And.intro ?_ ?_ | (intro hc; exact absurd hc (by decide)) | (intro hc; exfalso; omega) | (intro hc; (first | rw [wrap_small (by omega) (by omega)] at hc | rw [nI_eq] at hc | skip); try (conv => cbv))
      · exact k1 (by assumption)
      have k2 := k2 (by assumption)
      clear k1 hd hnode
      refine loop_up A.length (fun (s : Int × Nat × Nat × Bool × List (List D)) => [(3, iA n), (11, .c (.d (.list false 1 rl))), (12, .c (.d (.list false 1 zl))), (14, .c (.arr 1 s.2.1 0 s.2.2.1)), (37, .c (.d (.list false 1 al))), (38, iA (Λ al)), (39, iA s.1)]) (fun s => [.bx [.d (iD nodes), .d (.list false 1 ol), .d (.list false 7 ll)], .da s.2.2.2.1 s.2.1 1 s.2.2.2.2])
        (fun k s => s.1 = k ∧ k ≤ A.length ∧ s.2.2.1 = s.2.2.2.2.length ∧ s.2.2.2.2 = ((A.take k).filter fun m => decide (gt (distS t down m false) n = an)).map encI) (0, 0, 0, false, []) (.trans (.nilS 14 1 rfl) (Wk.cut ⟨_, rfl⟩ (Nat.zero_le _) rfl (by repeat' first | exact trivial | refine And.intro ?_ ?_ | rfl))) ⟨rfl, by omega, rfl, rfl⟩ (fun k s h => h.2.1) ?_
      rintro k ⟨i, ve, m0, r, es⟩ Q' ⟨hi, hk, hm0, hes⟩ norm ex rt
      simp only at hi hm0 hes
      have hesl : es.length ≤ k := by
        rw [hes, List.length_map]
        refine Nat.le_trans (List.length_filter_le _ _) ?_
        simp; omega
      by_cases hlt : k < A.length
      · obtain ⟨m, hm⟩ : ∃ m, A[k]? = some m := ⟨_, List.getElem?_eq_getElem hlt⟩
        have hra : al[i.toNat]? = some [iD m] := by rw [hi, Int.toNat_natCast, hal, List.getElem?_map, hm]; rfl
        have hro : rl[i.toNat]? = some [.list false 1 ((distS t down m false).map encI)] := by rw [hi, Int.toNat_natCast]; exact hrw k m hm
        have hmo := hmem m (List.mem_of_getElem? hm)
        have lenD := hsp m hmo.1 hmo.2
        have hdn : ((distS t down m false).map encI)[n.toNat]? = some [iD (gt (distS t down m false) n)] := by rw [encI_at (by omega), Int.toNat_of_nonneg hn.1]
        have tk : (A.take (k + 1)).filter (fun m => decide (gt (distS t down m false) n = an)) = (A.take k).filter (fun m => decide (gt (distS t down m false) n = an)) ++ if gt (distS t down m false) n = an then [m] else [] := by
          rw [take_succ_get hm, List.filter_append, List.filter_cons]; simp only [decide_eq_true_eq]; rfl
        have ldd : Λ ((distS t down m false).map encI) = t.nodes := by rw [Λo, List.length_map]; exact lenD
        generalize gt (distS t down m false) n = dn at *
        generalize (distS t down m false).map encI = dd at *
        clear hrw hsp k2
        conv => cbv
        repeat' first | (refine ex _ _ _ ?_; (conv => cbv)) | (refine rt _ _ ?_; (conv => cbv)) | (intro (e : List D) he; cases Option.some.inj (he.symm.trans hra); (conv => cbv)) | (intro (e : List D) he; cases Option.some.inj (he.symm.trans hro); (conv => cbv)) | (intro (e : List D) he; cases Option.some.inj (he.symm.trans hdn); (conv => cbv)) | (intro (e : List D) he; cases Option.some.inj (he.symm.trans hza); (conv => cbv)) | (intro (_ : Unit); refine ⟨rfl, ?_⟩; simp only [List.length_cons, List.length_nil]; omega) | (intro (_ : Unit); first | omega | rfl | exact ⟨rfl, by omega⟩ | (simp only [nI_eq]; omega) | ((repeat' first | rfl | omega | refine And.intro ?_ ?_ | (simp only [nI_eq]; omega) | (simp only [List.length_cons, List.length_nil]; omega) | exact Nat.le_of_ble_eq_true rfl); done)) | exact trivial | refine And.intro ?_ ?_ | (intro hc; exact absurd hc (by decide)) | (intro hc; exfalso; omega) | (intro hc; (first | rw [wrap_small (by omega) (by omega)] at hc | rw [nI_eq] at hc | skip); try (conv => cbv))
        · rename_i hq m' r' es2 hm' hr' he' i'
          refine norm _ _ (_, _, _, _, _) ?_ (Wk.cut ⟨_, rfl⟩ (Nat.zero_le _) rfl (by repeat' first | exact trivial | refine And.intro ?_ ?_ | rfl))
          have e : es2 = ((A.take (k + 1)).filter fun m => decide (gt (distS t down m false) n = an)).map encI := by
            rw [tk, if_pos hq, he', List.drop_zero, hm0, List.take_length, hes, List.map_append]; rfl
          exact ⟨by simp only; omega, by omega, by simp only; rw [hm', he', List.drop_zero, hm0, List.take_length]; simp, e⟩
        · rename_i hq i'
          refine norm _ _ (_, _, _, _, _) ?_ (Wk.cut ⟨_, rfl⟩ (Nat.zero_le _) rfl (by repeat' first | exact trivial | refine And.intro ?_ ?_ | rfl))
          have e : es = ((A.take (k + 1)).filter fun m => decide (gt (distS t down m false) n = an)).map encI := by
            rw [tk, if_neg hq, hes, List.append_nil]
          exact ⟨by simp only; omega, by omega, hm0, e⟩
      · conv => cbv
        repeat' first | (refine ex _ _ _ ?_; (conv => cbv)) | (refine rt _ _ ?_; (conv => cbv)) | (intro (e : List D) he; cases Option.some.inj (he.symm.trans hza); (conv => cbv)) | (intro (_ : Unit); first | omega | rfl | exact ⟨rfl, by omega⟩ | (simp only [nI_eq]; omega) | ((repeat' first | rfl | omega | refine And.intro ?_ ?_ | (simp only [nI_eq]; omega) | (simp only [List.length_cons, List.length_nil]; omega) | exact Nat.le_of_ble_eq_true rfl); done)) | exact trivial | refine And.intro ?_ ?_ | (intro hc; exact absurd hc (by decide)) | (intro hc; exfalso; omega) | (intro hc; (first | rw [wrap_small (by omega) (by omega)] at hc | rw [nI_eq] at hc | skip); try (conv => cbv))
        rename_i ls
        exact k2 _ (by rw [hc, List.drop_zero, hm0, List.take_length, hes, List.take_of_length_le (by omega)])
    · rw [if_neg hn] at hK
      rw [decide_eq_false hn] at hnode
      clear hf
      simp only [intsA, intsD, boolsA, boolsD, rowsA, List.map_nil] at *
      generalize (rowsS t down A).map encRow = rs at *
      generalize (allS t down A).map encI = zs at *
      generalize down.map encB = dl at *
      generalize A.map encI = al at *
      clear hn hv v1
      obtain ⟨nodes, ov, links⟩ := t
      simp only [topA, boolsD, linksD] at *
      generalize hol : ov.map encB = ol at *
      generalize hll : links.map encLk = ll at *
      have hlo : Λ ol = ov.length := by rw [Λo, ← hol]; simp
      have hls : Λ ll = links.length := by rw [Λo, ← hll]; simp
      conv => cbv
      repeat' first | (refine call_r hd rfl rfl ?_; conv => cbv) | (refine call_r hnode rfl rfl ?_; conv => cbv) | (intro (_ : Unit); first | omega | rfl | exact ⟨rfl, by omega⟩ | (simp only [nI_eq]; omega) | ((repeat' first | rfl | omega | refine And.intro ?_ ?_ | (simp only [nI_eq]; omega) | (simp only [List.length_cons, List.length_nil]; omega) | exact Nat.le_of_ble_eq_true rfl); done)) | exact trivial | refine And.intro ?_ ?_ | (intro hc; exact absurd hc (by decide)) | (intro hc; exfalso; omega) | (intro hc; (first | rw [wrap_small (by omega) (by omega)] at hc | rw [nI_eq] at hc | skip); try (conv => cbv))
      exact hK
  · rw [if_neg hf] at hK hd
    clear hf hnode
    simp only [intsA, intsD, boolsA, boolsD, rowsA, List.map_nil] at *
    generalize down.map encB = dl at *
    generalize A.map encI = al at *
    obtain ⟨nodes, ov, links⟩ := t
    simp only [topA, boolsD, linksD] at *
    generalize hol : ov.map encB = ol at *
    generalize hll : links.map encLk = ll at *
    have hlo : Λ ol = ov.length := by rw [Λo, ← hol]; simp
    have hls : Λ ll = links.length := by rw [Λo, ← hll]; simp
    conv => cbv
    repeat' first | (refine call_r hd rfl rfl ?_; conv => cbv) | (intro (_ : Unit); first | omega | rfl | exact ⟨rfl, by omega⟩ | (simp only [nI_eq]; omega) | ((repeat' first | rfl | omega | refine And.intro ?_ ?_ | (simp only [nI_eq]; omega) | (simp only [List.length_cons, List.length_nil]; omega) | exact Nat.le_of_ble_eq_true rfl); done)) | exact trivial | refine And.intro ?_ ?_ | (intro hc; exact absurd hc (by decide)) | (intro hc; exfalso; omega) | (intro hc; (first | rw [wrap_small (by omega) (by omega)] at hc | rw [nI_eq] at hc | skip); try (conv => cbv))
    exact hK

end Go.Ab

/-
  Groups: the nearest members as the reference finds them.
-/
namespace Go.Ab
open Go.Proofs

set_option maxHeartbeats 4000000 in
theorem rnear_ok (P : Program) (hP : P = Try.prog) (t : Top) (down : List Bool) (A : List Int) (n : Int) (hA : (A.length : Int) ≤ 2000000) :
    Ret P n_ref16_Nearest [topA t, boolsA down, intsA A, iA n] (.tup [intsA (nearS t down A n).1, iA (nearS t down A n).2.1, iA (nearS t down A n).2.2]) := by
  refine ret_start (hP ▸ mixed) (hP ▸ fn_ref16_Nearest) (hP ▸ c_ref16_Nearest) (Nat.le_of_ble_eq_true rfl) fun Λ Λo K hK => ?_
  have hd := radist_ok P hP t down A hA
  have hdist := fun m => dist_ok P hP t down m
  clear hP
  rw [nearS] at hK
  rw [adistS] at hd
  by_cases hf : anyB t A = true ∧ fitsB t down = true
  · rw [if_pos hf] at hK hd
    have hv := (of_decide_eq_true hf.1).1
    have v1 := validT_spec.1 hv
    by_cases hn : 0 ≤ n ∧ n < t.nodes
    · rw [if_pos hn] at hK
      have hmem := any_mem hf.1
      have hsp : ∀ m : Int, 0 ≤ m → m < t.nodes → ((distS t down m false).length : Int) = t.nodes := fun m h0 h1 => (distS_spec hv down false h0 h1).1.len
      have hdd : ∀ m : Int, 0 ≤ m → m < t.nodes → Ret P n_ref11_Dist [topA t, boolsA down, iA m] (.tup [intsA (distS t down m false), iA 0]) := fun m h0 h1 => by
        have := hdist m
        rw [searchS, if_pos hf.2, if_pos ⟨h0, h1⟩] at this
        exact this
      have hza : ((allS t down A).map encI)[n.toNat]? = some [iD (gt (allS t down A) n)] := by
        rw [encI_at (by rw [allS_len]; omega), Int.toNat_of_nonneg hn.1]
      obtain ⟨an, han⟩ : ∃ a, a = gt (allS t down A) n := ⟨_, rfl⟩
      rw [← han] at hK hza
      have k1 : an < 0 → K (.tup [intsA [], iA 0, iA 11]) := fun h => by rw [if_pos h] at hK; exact hK
      have k2 : ¬ an < 0 → ∀ ls, ls = (A.filter fun m => decide (gt (distS t down m false) n = an)).map encI → K (.tup [.c (.d (.list false 1 ls)), iA an, iA 0]) := fun h ls hl => by rw [if_neg h] at hK; rw [hl]; exact hK
      clear hK hf hdist
      obtain ⟨nodes, hN⟩ : ∃ x, x = t.nodes := ⟨_, rfl⟩
      obtain ⟨ol, hol⟩ : ∃ x, x = t.ov.map encB := ⟨_, rfl⟩
      obtain ⟨ll, hll⟩ : ∃ x, x = t.links.map encLk := ⟨_, rfl⟩
      obtain ⟨dl, hdl⟩ : ∃ x, x = down.map encB := ⟨_, rfl⟩
      obtain ⟨al, hal⟩ : ∃ x, x = A.map encI := ⟨_, rfl⟩
      obtain ⟨zl, hzl⟩ : ∃ x, x = (allS t down A).map encI := ⟨_, rfl⟩
      have lal : Λ al = A.length := by rw [Λo, hal]; simp
      have lzl : Λ zl = t.nodes := by rw [Λo, hzl]; simp [allS_len]; omega
      simp only [topA, boolsA, boolsD, linksD, intsA, intsD, ← hN, ← hol, ← hll, ← hdl, ← hal, ← hzl] at hd hdd hza k1 ⊢
      clear hol hll hdl
      conv => cbv
      repeat' first | (refine call_r hd rfl rfl ?_; conv => cbv) | (intro (e : List D) he; cases Option.some.inj (he.symm.trans hza); (conv => cbv)) | (intro (_ : Unit); first | omega | rfl | exact ⟨rfl, by omega⟩ | (simp only [nI_eq]; omega) | ((repeat' first | rfl | omega | refine And.intro ?_ ?_ | (simp only [nI_eq]; omega) | (simp only [List.length_cons, List.length_nil]; omega) | exact Nat.le_of_ble_eq_true rfl); done)) | exact trivial | refine And.intro ?_ ?_ | (intro hc; exact absurd hc (by decide)) | (intro hc; exfalso; omega) | (intro hc; (first | rw [wrap_small (by omega) (by omega)] at hc | rw [nI_eq] at hc | skip); try (conv => cbv))
      · exact k1 (by assumption)
      have k2 := k2 (by assumption)
      clear k1 hd
      refine loop_up A.length (fun (s : Int × Nat × Nat × Bool × List (List D)) => [(1, .c (.d (.list false 1 dl))), (2, .c (.d (.list false 1 al))), (3, iA n), (4, .c (.ptr 0 0 0 0)), (11, .c (.d (.list false 1 zl))), (13, .c (.arr 1 s.2.1 0 s.2.2.1)), (14, iA s.1)]) (fun s => [.bx [.d (iD nodes), .d (.list false 1 ol), .d (.list false 7 ll)], .da s.2.2.2.1 s.2.1 1 s.2.2.2.2])
        (fun k s => s.1 = k ∧ k ≤ A.length ∧ s.2.2.1 = s.2.2.2.2.length ∧ s.2.2.2.2 = ((A.take k).filter fun m => decide (gt (distS t down m false) n = an)).map encI) (0, 0, 0, false, []) (.trans (.nilS 13 1 rfl) (Wk.cut ⟨_, rfl⟩ (Nat.zero_le _) rfl (by repeat' first | exact trivial | refine And.intro ?_ ?_ | rfl))) ⟨rfl, by omega, rfl, rfl⟩ (fun k s h => h.2.1) ?_
      rintro k ⟨i, ve, m0, r, es⟩ Q' ⟨hi, hk, hm0, hes⟩ norm ex rt
      simp only at hi hm0 hes
      have hesl : es.length ≤ k := by
        rw [hes, List.length_map]
        refine Nat.le_trans (List.length_filter_le _ _) ?_
        simp; omega
      by_cases hlt : k < A.length
      · obtain ⟨m, hm⟩ : ∃ m, A[k]? = some m := ⟨_, List.getElem?_eq_getElem hlt⟩
        have hra : al[i.toNat]? = some [iD m] := by rw [hi, Int.toNat_natCast, hal, List.getElem?_map, hm]; rfl
        have hmo := hmem m (List.mem_of_getElem? hm)
        have hdm := hdd m hmo.1 (by omega)
        have lenD := hsp m hmo.1 hmo.2
        have hdn : ((distS t down m false).map encI)[n.toNat]? = some [iD (gt (distS t down m false) n)] := by rw [encI_at (by omega), Int.toNat_of_nonneg hn.1]
        have tk : (A.take (k + 1)).filter (fun m => decide (gt (distS t down m false) n = an)) = (A.take k).filter (fun m => decide (gt (distS t down m false) n = an)) ++ if gt (distS t down m false) n = an then [m] else [] := by
          rw [take_succ_get hm, List.filter_append, List.filter_cons]; simp only [decide_eq_true_eq]; rfl
        have ldd : Λ ((distS t down m false).map encI) = t.nodes := by rw [Λo, List.length_map]; exact lenD
        generalize gt (distS t down m false) n = dn at *
        generalize (distS t down m false).map encI = dd at *
        clear hdd hsp k2
        conv => cbv
        repeat' first | (refine ex _ _ _ ?_; (conv => cbv)) | (refine rt _ _ ?_; (conv => cbv)) | (intro (e : List D) he; cases Option.some.inj (he.symm.trans hra); (conv => cbv)) | (refine call_r hdm rfl rfl ?_; conv => cbv) | (intro (e : List D) he; cases Option.some.inj (he.symm.trans hdn); (conv => cbv)) | (intro (e : List D) he; cases Option.some.inj (he.symm.trans hza); (conv => cbv)) | (intro (_ : Unit); refine ⟨rfl, ?_⟩; simp only [List.length_cons, List.length_nil]; omega) | (intro (_ : Unit); first | omega | rfl | exact ⟨rfl, by omega⟩ | (simp only [nI_eq]; omega) | ((repeat' first | rfl | omega | refine And.intro ?_ ?_ | (simp only [nI_eq]; omega) | (simp only [List.length_cons, List.length_nil]; omega) | exact Nat.le_of_ble_eq_true rfl); done)) | exact trivial | refine And.intro ?_ ?_ | (intro hc; exact absurd hc (by decide)) | (intro hc; exfalso; omega) | (intro hc; (first | rw [wrap_small (by omega) (by omega)] at hc | rw [nI_eq] at hc | skip); try (conv => cbv))
        · rename_i hq m' r' es2 hm' hr' he' i'
          refine norm _ _ (_, _, _, _, _) ?_ (Wk.cut ⟨_, rfl⟩ (Nat.zero_le _) rfl (by repeat' first | exact trivial | refine And.intro ?_ ?_ | rfl))
          have e : es2 = ((A.take (k + 1)).filter fun m => decide (gt (distS t down m false) n = an)).map encI := by
            rw [tk, if_pos hq, he', List.drop_zero, hm0, List.take_length, hes, List.map_append]; rfl
          exact ⟨by simp only; omega, by omega, by simp only; rw [hm', he', List.drop_zero, hm0, List.take_length]; simp, e⟩
        · rename_i hq i'
          refine norm _ _ (_, _, _, _, _) ?_ (Wk.cut ⟨_, rfl⟩ (Nat.zero_le _) rfl (by repeat' first | exact trivial | refine And.intro ?_ ?_ | rfl))
          have e : es = ((A.take (k + 1)).filter fun m => decide (gt (distS t down m false) n = an)).map encI := by
            rw [tk, if_neg hq, hes, List.append_nil]
          exact ⟨by simp only; omega, by omega, hm0, e⟩
      · conv => cbv
        repeat' first | (refine ex _ _ _ ?_; (conv => cbv)) | (refine rt _ _ ?_; (conv => cbv)) | (intro (e : List D) he; cases Option.some.inj (he.symm.trans hza); (conv => cbv)) | (intro (_ : Unit); first | omega | rfl | exact ⟨rfl, by omega⟩ | (simp only [nI_eq]; omega) | ((repeat' first | rfl | omega | refine And.intro ?_ ?_ | (simp only [nI_eq]; omega) | (simp only [List.length_cons, List.length_nil]; omega) | exact Nat.le_of_ble_eq_true rfl); done)) | exact trivial | refine And.intro ?_ ?_ | (intro hc; exact absurd hc (by decide)) | (intro hc; exfalso; omega) | (intro hc; (first | rw [wrap_small (by omega) (by omega)] at hc | rw [nI_eq] at hc | skip); try (conv => cbv))
        rename_i ls
        exact k2 _ (by rw [hc, List.drop_zero, hm0, List.take_length, hes, List.take_of_length_le (by omega)])
    · rw [if_neg hn] at hK
      clear hf hdist hv v1
      simp only [intsA, intsD, boolsA, boolsD, List.map_nil] at *
      generalize (allS t down A).map encI = zs at *
      generalize down.map encB = dl at *
      generalize A.map encI = al at *
      obtain ⟨nodes, ov, links⟩ := t
      simp only [topA, boolsD, linksD] at *
      generalize hol : ov.map encB = ol at *
      generalize hll : links.map encLk = ll at *
      have hlo : Λ ol = ov.length := by rw [Λo, ← hol]; simp
      have hls : Λ ll = links.length := by rw [Λo, ← hll]; simp
      conv => cbv
      repeat' first | (refine call_r hd rfl rfl ?_; conv => cbv) | (intro (_ : Unit); first | omega | rfl | exact ⟨rfl, by omega⟩ | (simp only [nI_eq]; omega) | ((repeat' first | rfl | omega | refine And.intro ?_ ?_ | (simp only [nI_eq]; omega) | (simp only [List.length_cons, List.length_nil]; omega) | exact Nat.le_of_ble_eq_true rfl); done)) | exact trivial | refine And.intro ?_ ?_ | (intro hc; exact absurd hc (by decide)) | (intro hc; exfalso; omega) | (intro hc; (first | rw [wrap_small (by omega) (by omega)] at hc | rw [nI_eq] at hc | skip); try (conv => cbv))
      all_goals exact hK
  · rw [if_neg hf] at hK hd
    clear hf hdist
    simp only [intsA, intsD, boolsA, boolsD, List.map_nil] at *
    generalize down.map encB = dl at *
    generalize A.map encI = al at *
    obtain ⟨nodes, ov, links⟩ := t
    simp only [topA, boolsD, linksD] at *
    generalize hol : ov.map encB = ol at *
    generalize hll : links.map encLk = ll at *
    have hlo : Λ ol = ov.length := by rw [Λo, ← hol]; simp
    have hls : Λ ll = links.length := by rw [Λo, ← hll]; simp
    conv => cbv
    repeat' first | (refine call_r hd rfl rfl ?_; conv => cbv) | (intro (_ : Unit); first | omega | rfl | exact ⟨rfl, by omega⟩ | (simp only [nI_eq]; omega) | ((repeat' first | rfl | omega | refine And.intro ?_ ?_ | (simp only [nI_eq]; omega) | (simp only [List.length_cons, List.length_nil]; omega) | exact Nat.le_of_ble_eq_true rfl); done)) | exact trivial | refine And.intro ?_ ?_ | (intro hc; exact absurd hc (by decide)) | (intro hc; exfalso; omega) | (intro hc; (first | rw [wrap_small (by omega) (by omega)] at hc | rw [nI_eq] at hc | skip); try (conv => cbv))
    exact hK

end Go.Ab

/-
  Groups: the reference's parts of Next.
-/
namespace Go.Ab
open Go.Proofs

set_option maxHeartbeats 1000000 in
theorem towards_ok (P : Program) (hP : P = Try.prog) (t : Top) (down : List Bool) (n d : Int) (hf : fitsB t down = true) (hd : 0 ≤ d ∧ d < t.nodes) : Ret P n_ref16_Towards [topA t, boolsA down, iA n, iA d] (intsA (nextL t down (distS t down d false) n d)) := by
  obtain ⟨hv, hdn⟩ : validT t = true ∧ (down.length = 0 ∨ down.length = 2 * t.links.length) := by simpa [fitsB] using hf
  have hsp := distS_spec hv down false hd.1 hd.2
  have hs : Ret P n_ref11_Dist [topA t, boolsA down, iA d] (.tup [intsA (distS t down d false), iA 0]) := by
    have := dist_ok P hP t down d
    rw [searchS, if_pos hf, if_pos hd] at this
    exact this
  have ht := tail_ok P hP t
  have hon := fun a h0 h1 => on_ok P hP t down (distS t down d false) a d hv hdn h0 h1 hsp.1.len hsp.2
  refine ret_start (hP ▸ mixed) (hP ▸ fn_ref16_Towards) (hP ▸ c_ref16_Towards) (Nat.le_of_ble_eq_true rfl) fun Λ Λo K hK => ?_
  clear hP
  have hl256 := (validT_spec.1 hv).2.2.1
  have ho : nextL t down (distS t down d false) n d = (arcsTo (2 * t.links.length)).filter fun a => decide (tailT t a = n) && onB t down (distS t down d false) a d := rfl
  rw [ho] at hK
  clear ho hsp
  generalize hf : tailT t = f at *
  obtain ⟨g, hg⟩ : ∃ g : Int → Bool, ∀ a, onB t down (distS t down d false) a d = g a := ⟨_, fun _ => rfl⟩
  simp only [hg] at hon hK
  clear hg
  generalize distS t down d false = E at *
  simp only [intsA, intsD, boolsA, boolsD] at *
  generalize E.map encI = es at *
  generalize down.map encB = dl at *
  obtain ⟨nodes, ov, links⟩ := t
  simp only [topA, boolsD, linksD] at *
  generalize hol : ov.map encB = ol at *
  generalize hll : links.map encLk = ll at *
  have hlo : Λ ol = ov.length := by rw [Λo, ← hol]; simp
  have hls : Λ ll = links.length := by rw [Λo, ← hll]; simp
  generalize hv2 : 2 * links.length = v at *
  conv => cbv
  repeat' first | (refine call_r hs rfl rfl ?_; conv => cbv) | (intro (_ : Unit); first | omega | rfl | exact ⟨rfl, by omega⟩ | (simp only [nI_eq]; omega) | ((repeat' first | rfl | omega | refine And.intro ?_ ?_ | (simp only [nI_eq]; omega) | (simp only [List.length_cons, List.length_nil]; omega) | exact Nat.le_of_ble_eq_true rfl); done)) | exact trivial | refine And.intro ?_ ?_ | (intro hc; exact absurd hc (by decide)) | (intro hc; exfalso; omega) | (intro hc; (first | rw [wrap_small (by omega) (by omega)] at hc | rw [nI_eq] at hc | skip); try (conv => cbv))
  refine loop_up v (fun (s : Int × Nat × Nat × Bool × List (List D)) => [(1, .c (.d (.list false 1 dl))), (2, iA n), (3, iA d), (4, .c (.ptr 0 0 0 0)), (9, .c (.d (.list false 1 es))), (10, iA 0), (11, .c (.arr 1 s.2.1 0 s.2.2.1)), (12, iA s.1)]) (fun s => [.bx [.d (.int .i64 nodes), .d (.list false 1 ol), .d (.list false 7 ll)], .da s.2.2.2.1 s.2.1 1 s.2.2.2.2])
    (fun k s => s.1 = k ∧ k ≤ v ∧ s.2.2.1 = s.2.2.2.2.length ∧ s.2.2.2.2 = (((arcsTo k).filter fun a => decide (f a = n) && g a).map encI)) (0, 0, 0, false, []) (.trans (.nilS 11 1 rfl) (Wk.cut ⟨_, rfl⟩ (Nat.zero_le _) rfl (by repeat' first | exact trivial | refine And.intro ?_ ?_ | rfl))) ⟨rfl, by omega, rfl, rfl⟩ (fun k s h => h.2.1) ?_
  rintro k ⟨i, ve, m, r, es'⟩ Q' ⟨hi, hk, hm, hes⟩ norm ex rt
  simp only at hi hm hes
  have hesl : es'.length ≤ k := by
    rw [hes, List.length_map]
    refine Nat.le_trans (List.length_filter_le _ _) ?_
    simp [arcsTo]
  conv => cbv
  repeat' first | (refine ex _ _ _ ?_; (conv => cbv)) | (refine rt _ _ ?_; (conv => cbv)) | refine call_i (ht _) rfl rfl ?_ | refine call_b (hon _ (by omega) (by omega)) rfl rfl ?_ ?_ | (intro (_ : Unit); refine ⟨rfl, ?_⟩; simp only [List.length_cons, List.length_nil]; omega) | (intro (_ : Unit); first | omega | rfl | exact ⟨rfl, by omega⟩ | (simp only [nI_eq]; omega) | ((repeat' first | rfl | omega | refine And.intro ?_ ?_ | (simp only [nI_eq]; omega) | (simp only [List.length_cons, List.length_nil]; omega) | exact Nat.le_of_ble_eq_true rfl); done)) | exact trivial | refine And.intro ?_ ?_ | (intro hc; exact absurd hc (by decide)) | (intro hc; exfalso; omega) | (intro hc; (first | rw [wrap_small (by omega) (by omega)] at hc | rw [nI_eq] at hc | skip); try (conv => cbv))
  · rename_i hfi hn hgi m' r' es2 hm' hr' he' i'
    refine norm _ _ (_, _, _, _, _) ?_ (Wk.cut ⟨_, rfl⟩ (Nat.zero_le _) rfl (by repeat' first | exact trivial | refine And.intro ?_ ?_ | rfl))
    have e : es2 = ((arcsTo (k + 1)).filter fun a => decide (f a = n) && g a).map encI := by
      rw [he', List.drop_zero, hm, List.take_length, hes, arcsTo_succ, List.filter_append, List.map_append]
      rw [← hi, List.filter_cons_of_pos (by rw [hgi, decide_eq_true (by omega)]; rfl)]; rfl
    exact ⟨by simp only; omega, by omega, by simp only; rw [hm', he', List.drop_zero, hm, List.take_length]; simp, e⟩
  · rename_i hfi hn hgi i'
    refine norm _ _ (_, _, _, _, _) ?_ (Wk.cut ⟨_, rfl⟩ (Nat.zero_le _) rfl (by repeat' first | exact trivial | refine And.intro ?_ ?_ | rfl))
    have e : es' = ((arcsTo (k + 1)).filter fun a => decide (f a = n) && g a).map encI := by
      rw [hes, arcsTo_succ, List.filter_append, List.map_append]
      rw [← hi, List.filter_cons_of_neg (by rw [hgi]; simp)]; simp
    exact ⟨by simp only; omega, by omega, hm, e⟩
  · rename_i hfi hn i'
    refine norm _ _ (_, _, _, _, _) ?_ (Wk.cut ⟨_, rfl⟩ (Nat.zero_le _) rfl (by repeat' first | exact trivial | refine And.intro ?_ ?_ | rfl))
    have e : es' = ((arcsTo (k + 1)).filter fun a => decide (f a = n) && g a).map encI := by
      rw [hes, arcsTo_succ, List.filter_append, List.map_append]
      rw [← hi, List.filter_cons_of_neg (by rw [decide_eq_false (by omega)]; simp)]; simp
    exact ⟨by simp only; omega, by omega, hm, e⟩
  · rename_i ls
    have e : ls = ((arcsTo v).filter fun a => decide (f a = n) && g a).map encI := by
      rw [hc, List.drop_zero, hm, List.take_length, hes, show k = v by omega]
    subst e
    exact hK

/-- two increasing lists made one -/
def mergeR : List Int → List Int → List Int
  | [], b => b
  | x :: a, [] => x :: a
  | x :: a, y :: b => if x < y then x :: mergeR a (y :: b) else if y < x then y :: mergeR (x :: a) b else x :: mergeR a b
termination_by a b => a.length + b.length

theorem mergeR_nil (a : List Int) : mergeR a [] = a := by cases a <;> simp [mergeR]
theorem mergeR_cons (x : Int) (a : List Int) (y : Int) (b : List Int) : mergeR (x :: a) (y :: b) = if x < y then x :: mergeR a (y :: b) else if y < x then y :: mergeR (x :: a) b else x :: mergeR a b := by rw [mergeR]

set_option maxHeartbeats 2000000 in
theorem merge_ok (P : Program) (hP : P = Try.prog) (a b : List Int) (ha : a.length ≤ 1000000) (hb : b.length ≤ 1000000) : Ret P n_ref16_Merge [intsA a, intsA b] (intsA (mergeR a b)) := by
  refine ret_start (hP ▸ mixed) (hP ▸ fn_ref16_Merge) (hP ▸ c_ref16_Merge) (Nat.le_of_ble_eq_true rfl) fun Λ Λo K hK => ?_
  clear hP
  have k1 : ∀ ls, ls = (mergeR a b).map encI → K (.c (.d (.list false 1 ls))) := fun ls h => by rw [h]; exact hK
  clear hK
  obtain ⟨al, hal⟩ : ∃ x, x = a.map encI := ⟨_, rfl⟩
  obtain ⟨bl, hbl⟩ : ∃ x, x = b.map encI := ⟨_, rfl⟩
  simp only [intsA, intsD, ← hal, ← hbl]
  conv => cbv
  repeat' first | (intro (_ : Unit); first | omega | rfl | exact ⟨rfl, by omega⟩ | (simp only [nI_eq]; omega) | ((repeat' first | rfl | omega | refine And.intro ?_ ?_ | (simp only [nI_eq]; omega) | (simp only [List.length_cons, List.length_nil]; omega) | exact Nat.le_of_ble_eq_true rfl); done)) | exact trivial | refine And.intro ?_ ?_ | (intro hc; exact absurd hc (by decide)) | (intro hc; exfalso; omega) | (intro hc; (first | rw [wrap_small (by omega) (by omega)] at hc | rw [nI_eq] at hc | skip); try (conv => cbv))
  refine loop_up (a.length + b.length) (fun (s : List (List D) × List (List D) × Nat × Nat × Bool × List (List D)) => [(0, .c (.d (.list false 1 s.1))), (1, .c (.d (.list false 1 s.2.1))), (5, .c (.arr 0 s.2.2.1 0 s.2.2.2.1))]) (fun s => [.da s.2.2.2.2.1 s.2.2.1 1 s.2.2.2.2.2])
    (fun k s => ∃ x y z : List Int, s.1 = x.map encI ∧ s.2.1 = y.map encI ∧ s.2.2.2.2.2 = z.map encI ∧ s.2.2.2.1 = z.length ∧ z.length ≤ k ∧ x.length + y.length + k ≤ a.length + b.length ∧ z ++ mergeR x y = mergeR a b) (al, bl, 0, 0, false, []) (.trans (.nilS 5 1 rfl) (Wk.cut ⟨_, rfl⟩ (Nat.zero_le _) rfl (by repeat' first | exact trivial | refine And.intro ?_ ?_ | rfl))) ⟨a, b, [], hal, hbl, rfl, rfl, Nat.zero_le _, by omega, rfl⟩ (fun k s ⟨x, y, z, _, _, _, _, _, h, _⟩ => by omega) ?_
  rintro k ⟨xl, yl, ve, m, r, es⟩ Q' ⟨x, y, z, hx, hy, hz, hm, hzk, hk, hmr⟩ norm ex rt
  simp only at hx hy hz hm
  have lx : Λ xl = x.length := by rw [Λo, hx]; simp
  have ly : Λ yl = y.length := by rw [Λo, hy]; simp
  have lz : es.length = z.length := by rw [hz]; simp
  have push : ∀ (L : Lv) (h : Hp) (v : Int) (xl' yl' es' : List (List D)) (x' y' : List Int) (m' : Nat) (r' : Bool), xl' = x'.map encI → yl' = y'.map encI → m' = m + 1 → es' = (es.drop 0).take m ++ [[iD v]] → x'.length + y'.length + 1 ≤ x.length + y.length → mergeR x y = v :: mergeR x' y' →
      Wk 0 L h [(0, .c (.d (.list false 1 xl'))), (1, .c (.d (.list false 1 yl'))), (5, .c (.arr 0 (ve + 1) 0 m'))] [.da r' (ve + 1) 1 es'] → Q' .normal L h := fun L h v xl' yl' es' x' y' m' r' h1 h2 h3 h4 h5 h6 hw => by
    refine norm _ _ (xl', yl', ve + 1, m', r', es') ⟨x', y', z ++ [v], h1, h2, ?_, ?_, ?_, by omega, ?_⟩ hw
    · simp only; rw [h4, List.drop_zero, hm, ← lz, List.take_length, hz, List.map_append]; rfl
    · simp only; rw [h3, hm]; simp
    · simp; omega
    · rw [← hmr, h6]; simp
  clear norm
  cases x with
  | nil =>
    cases y with
    | nil =>
      clear push
      simp only [List.length_nil] at lx ly
      conv => cbv
      repeat' first | (refine ex _ _ _ ?_; (conv => cbv)) | (refine rt _ _ ?_; (conv => cbv)) | (intro (_ : Unit); first | omega | rfl | exact ⟨rfl, by omega⟩ | (simp only [nI_eq]; omega) | ((repeat' first | rfl | omega | refine And.intro ?_ ?_ | (simp only [nI_eq]; omega) | (simp only [List.length_cons, List.length_nil]; omega) | exact Nat.le_of_ble_eq_true rfl); done)) | exact trivial | refine And.intro ?_ ?_ | (intro hc; exact absurd hc (by decide)) | (intro hc; exfalso; omega) | (intro hc; (first | rw [wrap_small (by omega) (by omega)] at hc | rw [nI_eq] at hc | skip); try (conv => cbv))
      rename_i ls
      refine k1 _ ?_
      rw [hc, List.drop_zero, hm, ← lz, List.take_length, hz, ← hmr, mergeR_nil, List.append_nil]
    | cons q y =>
      obtain ⟨yr, hyr⟩ : ∃ r, r = List.drop 1 yl := ⟨_, rfl⟩
      have hyr2 : yr = y.map encI := by rw [hyr, hy]; rfl
      have hy0 : yl[0]? = some [iD q] := by rw [hy]; rfl
      have psh := fun L h m' r' es' h3 h4 hw => push L h q xl yr es' [] y m' r' hx hyr2 h3 h4 (by simp) (by rw [mergeR, mergeR]) hw
      simp only [List.length_nil, List.length_cons] at lx ly
      clear push
      conv => cbv
      repeat' first | (refine ex _ _ _ ?_; (conv => cbv)) | (refine rt _ _ ?_; (conv => cbv)) | (intro (e : List D) he; cases Option.some.inj (he.symm.trans hy0); (conv => cbv)) | (intro (x : List (List D)) (hx : x = List.drop 1 yl); refine (fun (hz : yr = x) => ?_) (hyr.trans hx.symm); subst hz; (conv => cbv)) | (intro (_ : Unit); refine ⟨rfl, ?_⟩; simp only [List.length_cons, List.length_nil]; omega) | (intro (_ : Unit); first | omega | rfl | exact ⟨rfl, by omega⟩ | (simp only [nI_eq]; omega) | ((repeat' first | rfl | omega | refine And.intro ?_ ?_ | (simp only [nI_eq]; omega) | (simp only [List.length_cons, List.length_nil]; omega) | exact Nat.le_of_ble_eq_true rfl); done)) | exact trivial | refine And.intro ?_ ?_ | (intro hc; exact absurd hc (by decide)) | (intro hc; exfalso; omega) | (intro hc; (first | rw [wrap_small (by omega) (by omega)] at hc | rw [nI_eq] at hc | skip); try (conv => cbv))
      rename_i m' r' es' hm' hr'
      exact psh _ _ m' r' es' (by rw [hm']; simp) hc (Wk.cut ⟨_, rfl⟩ (Nat.zero_le _) rfl (by repeat' first | exact trivial | refine And.intro ?_ ?_ | rfl))
  | cons p x =>
    obtain ⟨xr, hxr⟩ : ∃ r, r = List.drop 1 xl := ⟨_, rfl⟩
    have hxr2 : xr = x.map encI := by rw [hxr, hx]; rfl
    have hx0 : xl[0]? = some [iD p] := by rw [hx]; rfl
    cases y with
    | nil =>
      have psh := fun L h m' r' es' h3 h4 hw => push L h p xr yl es' x [] m' r' hxr2 hy h3 h4 (by simp) (by rw [mergeR_nil, mergeR_nil]) hw
      simp only [List.length_nil, List.length_cons] at lx ly
      clear push
      conv => cbv
      repeat' first | (refine ex _ _ _ ?_; (conv => cbv)) | (refine rt _ _ ?_; (conv => cbv)) | (intro (e : List D) he; cases Option.some.inj (he.symm.trans hx0); (conv => cbv)) | (intro (x : List (List D)) (hx : x = List.drop 1 xl); refine (fun (hz : xr = x) => ?_) (hxr.trans hx.symm); subst hz; (conv => cbv)) | (intro (_ : Unit); refine ⟨rfl, ?_⟩; simp only [List.length_cons, List.length_nil]; omega) | (intro (_ : Unit); first | omega | rfl | exact ⟨rfl, by omega⟩ | (simp only [nI_eq]; omega) | ((repeat' first | rfl | omega | refine And.intro ?_ ?_ | (simp only [nI_eq]; omega) | (simp only [List.length_cons, List.length_nil]; omega) | exact Nat.le_of_ble_eq_true rfl); done)) | exact trivial | refine And.intro ?_ ?_ | (intro hc; exact absurd hc (by decide)) | (intro hc; exfalso; omega) | (intro hc; (first | rw [wrap_small (by omega) (by omega)] at hc | rw [nI_eq] at hc | skip); try (conv => cbv))
      rename_i m' r' es' hm' hr'
      exact psh _ _ m' r' es' (by rw [hm']; simp) hc (Wk.cut ⟨_, rfl⟩ (Nat.zero_le _) rfl (by repeat' first | exact trivial | refine And.intro ?_ ?_ | rfl))
    | cons q y =>
      obtain ⟨yr, hyr⟩ : ∃ r, r = List.drop 1 yl := ⟨_, rfl⟩
      have hyr2 : yr = y.map encI := by rw [hyr, hy]; rfl
      have hy0 : yl[0]? = some [iD q] := by rw [hy]; rfl
      have ps1 := fun (h0 : p < q) L h m' r' es' h3 h4 hw => push L h p xr yl es' x (q :: y) m' r' hxr2 hy h3 h4 (by simp only [List.length_cons]; omega) (by rw [mergeR_cons, if_pos h0]) hw
      have ps2 := fun (h0 : q < p) L h m' r' es' h3 h4 hw => push L h q xl yr es' (p :: x) y m' r' hx hyr2 h3 h4 (by simp only [List.length_cons]; omega) (by rw [mergeR_cons, if_neg (by omega), if_pos h0]) hw
      have ps3 := fun (h0 : p = q) L h m' r' es' h3 h4 hw => push L h p xr yr es' x y m' r' hxr2 hyr2 h3 h4 (by simp only [List.length_cons]; omega) (by rw [mergeR_cons, if_neg (by omega), if_neg (by omega)]) hw
      simp only [List.length_cons] at lx ly
      clear push
      conv => cbv
      repeat' first | (refine ex _ _ _ ?_; (conv => cbv)) | (refine rt _ _ ?_; (conv => cbv)) | (intro (e : List D) he; cases Option.some.inj (he.symm.trans hx0); (conv => cbv)) | (intro (e : List D) he; cases Option.some.inj (he.symm.trans hy0); (conv => cbv)) | (intro (x : List (List D)) (hx : x = List.drop 1 xl); refine (fun (hz : xr = x) => ?_) (hxr.trans hx.symm); subst hz; (conv => cbv)) | (intro (x : List (List D)) (hx : x = List.drop 1 yl); refine (fun (hz : yr = x) => ?_) (hyr.trans hx.symm); subst hz; (conv => cbv)) | (intro (_ : Unit); refine ⟨rfl, ?_⟩; simp only [List.length_cons, List.length_nil]; omega) | (intro (_ : Unit); first | omega | rfl | exact ⟨rfl, by omega⟩ | (simp only [nI_eq]; omega) | ((repeat' first | rfl | omega | refine And.intro ?_ ?_ | (simp only [nI_eq]; omega) | (simp only [List.length_cons, List.length_nil]; omega) | exact Nat.le_of_ble_eq_true rfl); done)) | exact trivial | refine And.intro ?_ ?_ | (intro hc; exact absurd hc (by decide)) | (intro hc; exfalso; omega) | (intro hc; (first | rw [wrap_small (by omega) (by omega)] at hc | rw [nI_eq] at hc | skip); try (conv => cbv))
      all_goals first
        | (rename_i m' r' es' hm' hr'; exact ps1 (by omega) _ _ m' r' es' (by rw [hm']; simp) (by assumption) (Wk.cut ⟨_, rfl⟩ (Nat.zero_le _) rfl (by repeat' first | exact trivial | refine And.intro ?_ ?_ | rfl)))
        | (rename_i m' r' es' hm' hr'; exact ps2 (by omega) _ _ m' r' es' (by rw [hm']; simp) (by assumption) (Wk.cut ⟨_, rfl⟩ (Nat.zero_le _) rfl (by repeat' first | exact trivial | refine And.intro ?_ ?_ | rfl)))
        | (rename_i m' r' es' hm' hr' hh; exact ps3 (by omega) _ _ m' r' es' (by rw [hm']; simp) (by assumption) (Wk.cut ⟨_, rfl⟩ (Nat.zero_le _) rfl (by repeat' first | exact trivial | refine And.intro ?_ ?_ | rfl)))

end Go.Ab

/-
  Groups: Next as the reference finds it.
-/
namespace Go.Ab
open Go.Proofs

theorem mergeR_len (a b : List Int) : (mergeR a b).length ≤ a.length + b.length := by
  fun_induction mergeR a b <;> simp_all <;> omega

/-- the arcs towards a list of members -/
noncomputable def unionS (t : Top) (down : List Bool) (M : List Int) (n : Int) : List Int := (M.map fun m => nextL t down (distS t down m false) n m).foldl mergeR []
/-- what Next answers -/
noncomputable def anextS (t : Top) (down : List Bool) (A : List Int) (n : Int) : List Int × Int :=
  if (nearS t down A n).2.2 = 0 then (unionS t down (nearS t down A n).1 n, 0) else ([], (nearS t down A n).2.2)

theorem nearS_zero {t : Top} {down : List Bool} {A : List Int} {n : Int} (h : (nearS t down A n).2.2 = 0) : anyB t A = true ∧ fitsB t down = true ∧ (0 ≤ n ∧ n < t.nodes) ∧ ¬ gt (allS t down A) n < 0 ∧ (nearS t down A n).1 = A.filter (fun m => decide (gt (distS t down m false) n = gt (allS t down A) n)) := by
  unfold nearS at h ⊢
  split at h
  · rename_i hf
    split at h
    · rename_i hn
      split at h
      · simp at h
      · rename_i hg
        rw [if_pos hf, if_pos hn, if_neg hg]
        exact ⟨hf.1, hf.2, hn, hg, rfl⟩
    · simp at h
  · simp at h

theorem unionS_succ {t : Top} {down : List Bool} {M : List Int} {k : Nat} {m n : Int} (h : M[k]? = some m) : unionS t down (M.take (k + 1)) n = mergeR (unionS t down (M.take k) n) (nextL t down (distS t down m false) n m) := by
  rw [unionS, take_succ_get h, List.map_append, List.foldl_append]; rfl

theorem nextL_len (t : Top) (down : List Bool) (E : List Int) (n d : Int) : (nextL t down E n d).length ≤ 2 * t.links.length := by
  refine Nat.le_trans (List.length_filter_le _ _) ?_
  simp [arcsTo]

set_option maxHeartbeats 2000000 in
theorem rnext16_ok (P : Program) (hP : P = Try.prog) (t : Top) (down : List Bool) (A : List Int) (n : Int) (hA : (A.length : Int) ≤ 1000) :
    Ret P n_ref16_Next [topA t, boolsA down, intsA A, iA n] (.tup [intsA (anextS t down A n).1, iA (anextS t down A n).2]) := by
  refine ret_start (hP ▸ mixed) (hP ▸ fn_ref16_Next) (hP ▸ c_ref16_Next) (Nat.le_of_ble_eq_true rfl) fun Λ Λo K hK => ?_
  have hd := rnear_ok P hP t down A n (by omega)
  have htow := fun m h1 h2 => towards_ok P hP t down n m h1 h2
  have hmrg := fun a b h1 h2 => merge_ok P hP a b h1 h2
  clear hP
  rw [anextS] at hK
  by_cases h0 : (nearS t down A n).2.2 = 0
  · rw [if_pos h0] at hK
    obtain ⟨h1, h2, h3, h4, h5⟩ := nearS_zero h0
    have hmem := any_mem h1
    have hv := (of_decide_eq_true h1).1
    have v1 := validT_spec.1 hv
    obtain ⟨M, hM⟩ : ∃ M, M = (nearS t down A n).1 := ⟨_, rfl⟩
    have hMm : ∀ m ∈ M, 0 ≤ m ∧ m < t.nodes := fun m hm => by
      rw [hM, h5] at hm
      exact hmem m (List.mem_filter.1 hm).1
    have hMl : M.length ≤ 1000 := by
      rw [hM, h5]
      have := List.length_filter_le (fun m => decide (gt (distS t down m false) n = gt (allS t down A) n)) A
      omega
    rw [h0, ← hM] at hd
    rw [← hM] at hK
    generalize (nearS t down A n).2.1 = c2 at *
    have htow := fun m h => htow m h2 h
    have hnl := fun E m => nextL_len t down E n m
    have hl2 : 2 * t.links.length ≤ 512 := by have := v1.2.2.1; omega
    clear h1 h2 h4 h5 hmem hv h3
    have k1 : ∀ ls, ls = (unionS t down M n).map encI → K (.tup [.c (.d (.list false 1 ls)), iA 0]) := fun ls h => by rw [h]; exact hK
    clear hK
    obtain ⟨nodes, hN⟩ : ∃ x, x = t.nodes := ⟨_, rfl⟩
    obtain ⟨ol, hol⟩ : ∃ x, x = t.ov.map encB := ⟨_, rfl⟩
    obtain ⟨ll, hll⟩ : ∃ x, x = t.links.map encLk := ⟨_, rfl⟩
    obtain ⟨dl, hdl⟩ : ∃ x, x = down.map encB := ⟨_, rfl⟩
    obtain ⟨al, hal⟩ : ∃ x, x = A.map encI := ⟨_, rfl⟩
    obtain ⟨ml, hml⟩ : ∃ x, x = M.map encI := ⟨_, rfl⟩
    have lml : Λ ml = M.length := by rw [Λo, hml]; simp
    simp only [topA, boolsA, boolsD, linksD, intsA, intsD, ← hN, ← hol, ← hll, ← hdl, ← hal, ← hml] at hd htow hmrg ⊢
    clear hol hll hdl hal
    conv => cbv
    repeat' first | (refine call_r hd rfl rfl ?_; conv => cbv) | (intro (_ : Unit); first | omega | rfl | exact ⟨rfl, by omega⟩ | (simp only [nI_eq]; omega) | ((repeat' first | rfl | omega | refine And.intro ?_ ?_ | (simp only [nI_eq]; omega) | (simp only [List.length_cons, List.length_nil]; omega) | exact Nat.le_of_ble_eq_true rfl); done)) | exact trivial | refine And.intro ?_ ?_ | (intro hc; exact absurd hc (by decide)) | (intro hc; exfalso; omega) | (intro hc; (first | rw [wrap_small (by omega) (by omega)] at hc | rw [nI_eq] at hc | skip); try (conv => cbv))
    refine loop_up M.length (fun (s : Int × List (List D)) => [(1, .c (.d (.list false 1 dl))), (3, iA n), (4, .c (.ptr 0 0 0 0)), (10, .c (.d (.list false 1 ml))), (13, .c (.d (.list false 1 s.2))), (14, iA s.1)]) (fun _ => [.bx [.d (iD nodes), .d (.list false 1 ol), .d (.list false 7 ll)]])
      (fun k s => s.1 = k ∧ k ≤ M.length ∧ s.2 = (unionS t down (M.take k) n).map encI ∧ (unionS t down (M.take k) n).length ≤ 512 * k) (0, []) (.trans (.fg 13) (Wk.cut ⟨[], rfl⟩ (Nat.le_of_ble_eq_true rfl) rfl (by repeat' first | exact trivial | refine And.intro ?_ ?_ | rfl))) ⟨rfl, by omega, rfl, Nat.le_refl _⟩ (fun k s h => h.2.1) ?_
    rintro k ⟨i, cl⟩ Q' ⟨hi, hk, hcl, hlen⟩ norm ex rt
    simp only at hi hcl
    by_cases hlt : k < M.length
    · obtain ⟨m, hm⟩ : ∃ m, M[k]? = some m := ⟨_, List.getElem?_eq_getElem hlt⟩
      have hra : ml[i.toNat]? = some [iD m] := by rw [hi, Int.toNat_natCast, hml, List.getElem?_map, hm]; rfl
      have hmo := hMm m (List.mem_of_getElem? hm)
      have htm := htow m (by omega)
      have hnm := hnl (distS t down m false) m
      have hmg := hmrg (unionS t down (M.take k) n) (nextL t down (distS t down m false) n m) (by omega) (by omega)
      have hln := mergeR_len (unionS t down (M.take k) n) (nextL t down (distS t down m false) n m)
      rw [← unionS_succ hm] at hmg hln
      rw [← hcl] at hmg
      generalize unionS t down (M.take (k + 1)) n = U at *
      generalize (nextL t down (distS t down m false) n m).map encI = nl at *
      obtain ⟨ul, hul⟩ : ∃ x, x = U.map encI := ⟨_, rfl⟩
      rw [← hul] at hmg
      clear htow hmrg hnl k1 hd
      conv => cbv
      repeat' first | (refine ex _ _ _ ?_; (conv => cbv)) | (refine rt _ _ ?_; (conv => cbv)) | (intro (e : List D) he; cases Option.some.inj (he.symm.trans hra); (conv => cbv)) | (refine call_r htm rfl rfl ?_; conv => cbv) | (refine call_r hmg rfl rfl ?_; conv => cbv) | (intro (_ : Unit); first | omega | rfl | exact ⟨rfl, by omega⟩ | (simp only [nI_eq]; omega) | ((repeat' first | rfl | omega | refine And.intro ?_ ?_ | (simp only [nI_eq]; omega) | (simp only [List.length_cons, List.length_nil]; omega) | exact Nat.le_of_ble_eq_true rfl); done)) | exact trivial | refine And.intro ?_ ?_ | (intro hc; exact absurd hc (by decide)) | (intro hc; exfalso; omega) | (intro hc; (first | rw [wrap_small (by omega) (by omega)] at hc | rw [nI_eq] at hc | skip); try (conv => cbv))
      rename_i i'
      exact norm _ _ (i', ul) ⟨by simp only; omega, by omega, hul, by omega⟩ (Wk.cut ⟨[], rfl⟩ (Nat.le_of_ble_eq_true rfl) rfl (by repeat' first | exact trivial | refine And.intro ?_ ?_ | rfl))
    conv => cbv
    repeat' first | (refine ex _ _ _ ?_; (conv => cbv)) | (refine rt _ _ ?_; (conv => cbv)) | (intro (_ : Unit); first | omega | rfl | exact ⟨rfl, by omega⟩ | (simp only [nI_eq]; omega) | ((repeat' first | rfl | omega | refine And.intro ?_ ?_ | (simp only [nI_eq]; omega) | (simp only [List.length_cons, List.length_nil]; omega) | exact Nat.le_of_ble_eq_true rfl); done)) | exact trivial | refine And.intro ?_ ?_ | (intro hc; exact absurd hc (by decide)) | (intro hc; exfalso; omega) | (intro hc; (first | rw [wrap_small (by omega) (by omega)] at hc | rw [nI_eq] at hc | skip); try (conv => cbv))
    exact k1 cl (by rw [hcl, List.take_of_length_le (by omega)])
  · rw [if_neg h0] at hK
    clear htow hmrg
    generalize nearS t down A n = r at *
    obtain ⟨l, c, c2⟩ := r
    simp only [intsA, intsD, boolsA, boolsD, List.map_nil] at *
    generalize l.map encI = rl at *
    generalize down.map encB = dl at *
    generalize A.map encI = al at *
    obtain ⟨nodes, ov, links⟩ := t
    simp only [topA, boolsD, linksD] at *
    generalize hol : ov.map encB = ol at *
    generalize hll : links.map encLk = ll at *
    have hlo : Λ ol = ov.length := by rw [Λo, ← hol]; simp
    have hls : Λ ll = links.length := by rw [Λo, ← hll]; simp
    conv => cbv
    repeat' first | (refine call_r hd rfl rfl ?_; conv => cbv) | (intro (_ : Unit); first | omega | rfl | exact ⟨rfl, by omega⟩ | (simp only [nI_eq]; omega) | ((repeat' first | rfl | omega | refine And.intro ?_ ?_ | (simp only [nI_eq]; omega) | (simp only [List.length_cons, List.length_nil]; omega) | exact Nat.le_of_ble_eq_true rfl); done)) | exact trivial | refine And.intro ?_ ?_ | (intro hc; exact absurd hc (by decide)) | (intro hc; exfalso; omega) | (intro hc; (first | rw [wrap_small (by omega) (by omega)] at hc | rw [nI_eq] at hc | skip); try (conv => cbv))
    exact hK

end Go.Ab

/-
  Increasing lists: merging, sorting and compacting give the same.
-/
namespace Go.Ab
open Go.Proofs

theorem sinc_ext : ∀ {a b : List Int}, a.Pairwise (· < ·) → b.Pairwise (· < ·) → (∀ x, x ∈ a ↔ x ∈ b) → a = b
  | [], [], _, _, _ => rfl
  | [], y :: b, _, _, h => absurd ((h y).2 (by simp)) (by simp)
  | x :: a, [], _, _, h => absurd ((h x).1 (by simp)) (by simp)
  | x :: a, y :: b, ha, hb, h => by
    have ha := List.pairwise_cons.1 ha
    have hb := List.pairwise_cons.1 hb
    have e : x = y := by
      rcases List.mem_cons.1 ((h x).1 (by simp)) with e | e
      · exact e
      · rcases List.mem_cons.1 ((h y).2 (by simp)) with e2 | e2
        · exact e2.symm
        · have := hb.1 x e; have := ha.1 y e2; omega
    subst e
    rw [sinc_ext ha.2 hb.2 fun z => ⟨fun hz => ?_, fun hz => ?_⟩]
    · rcases List.mem_cons.1 ((h z).1 (List.mem_cons_of_mem _ hz)) with e | e
      · have := ha.1 z hz; omega
      · exact e
    · rcases List.mem_cons.1 ((h z).2 (List.mem_cons_of_mem _ hz)) with e | e
      · have := hb.1 z hz; omega
      · exact e

theorem mem_mergeR (a b : List Int) (z : Int) : z ∈ mergeR a b ↔ z ∈ a ∨ z ∈ b := by
  fun_induction mergeR a b with
  | case1 b => simp
  | case2 x a => simp
  | case3 x a y b h ih => simp only [List.mem_cons, ih, or_assoc]
  | case4 x a y b h1 h2 ih => simp only [List.mem_cons, ih]; exact or_left_comm
  | case5 x a y b h1 h2 ih =>
    have e : x = y := by omega
    subst e
    simp only [List.mem_cons, ih]
    constructor
    · rintro (h | h | h)
      · exact .inl (.inl h)
      · exact .inl (.inr h)
      · exact .inr (.inr h)
    · rintro ((h | h) | h | h)
      · exact .inl h
      · exact .inr (.inl h)
      · exact .inl h
      · exact .inr (.inr h)

theorem sinc_mergeR (a b : List Int) (ha : a.Pairwise (· < ·)) (hb : b.Pairwise (· < ·)) : (mergeR a b).Pairwise (· < ·) := by
  fun_induction mergeR a b with
  | case1 b => exact hb
  | case2 x a => exact ha
  | case3 x a y b h ih =>
    have h1 := List.pairwise_cons.1 ha
    have h2 := List.pairwise_cons.1 hb
    refine List.pairwise_cons.2 ⟨fun z hz => ?_, ih h1.2 hb⟩
    rcases (mem_mergeR _ _ z).1 hz with e | e
    · exact h1.1 z e
    · rcases List.mem_cons.1 e with e | e
      · omega
      · have := h2.1 z e; omega
  | case4 x a y b h h' ih =>
    have h1 := List.pairwise_cons.1 ha
    have h2 := List.pairwise_cons.1 hb
    refine List.pairwise_cons.2 ⟨fun z hz => ?_, ih ha h2.2⟩
    rcases (mem_mergeR _ _ z).1 hz with e | e
    · rcases List.mem_cons.1 e with e | e
      · omega
      · have := h1.1 z e; omega
    · exact h2.1 z e
  | case5 x a y b h h' ih =>
    have h1 := List.pairwise_cons.1 ha
    have h2 := List.pairwise_cons.1 hb
    refine List.pairwise_cons.2 ⟨fun z hz => ?_, ih h1.2 h2.2⟩
    rcases (mem_mergeR _ _ z).1 hz with e | e
    · exact h1.1 z e
    · have := h2.1 z e; omega

theorem sinc_arcs (k : Nat) : (arcsTo k).Pairwise (· < ·) := by
  rw [arcsTo, List.pairwise_map]
  exact List.pairwise_lt_range.imp fun h => by omega

theorem sinc_next (t : Top) (down : List Bool) (E : List Int) (n d : Int) : (nextL t down E n d).Pairwise (· < ·) := (sinc_arcs _).filter _

theorem fold_mergeR : ∀ (L : List (List Int)) (a : List Int), a.Pairwise (· < ·) → (∀ l ∈ L, l.Pairwise (· < ·)) → (L.foldl mergeR a).Pairwise (· < ·) ∧ ∀ z, z ∈ L.foldl mergeR a ↔ z ∈ a ∨ ∃ l ∈ L, z ∈ l
  | [], a, ha, _ => ⟨ha, fun z => by simp⟩
  | l :: L, a, ha, h => by
    obtain ⟨h1, h2⟩ := fold_mergeR L (mergeR a l) (sinc_mergeR a l ha (h l (by simp))) fun x hx => h x (by simp [hx])
    refine ⟨h1, fun z => ?_⟩
    rw [List.foldl_cons, h2, mem_mergeR]
    simp only [List.mem_cons, exists_eq_or_imp, or_assoc]

/-- neighbours that are equal made one -/
def compL : List Int → List Int
  | [] => []
  | [x] => [x]
  | x :: y :: l => if x = y then compL (y :: l) else x :: compL (y :: l)

theorem mem_compL : ∀ (l : List Int) (z : Int), z ∈ compL l ↔ z ∈ l
  | [], z => by simp [compL]
  | [x], z => by simp [compL]
  | x :: y :: l, z => by
    rw [compL]
    have ih := mem_compL (y :: l) z
    split
    · rename_i e
      rw [ih, e]; simp
    · rw [List.mem_cons, ih, List.mem_cons (a := z) (b := x)]

theorem sinc_compL : ∀ (l : List Int), l.Pairwise (· ≤ ·) → (compL l).Pairwise (· < ·)
  | [], _ => by simp [compL]
  | [x], _ => by simp [compL]
  | x :: y :: l, h => by
    have h1 := List.pairwise_cons.1 h
    have h2 := List.pairwise_cons.1 h1.2
    rw [compL]
    split
    · exact sinc_compL _ h1.2
    · rename_i hne
      refine List.pairwise_cons.2 ⟨fun z hz => ?_, sinc_compL _ h1.2⟩
      have hxy := h1.1 y (by simp)
      rcases List.mem_cons.1 ((mem_compL _ z).1 hz) with e | e
      · omega
      · have := h2.1 z e; omega

/-- a sorted list that is compacted is what merging gives -/
theorem comp_merge {L : List (List Int)} {s : List Int} (hL : ∀ l ∈ L, l.Pairwise (· < ·)) (hs : s.Pairwise (· ≤ ·)) (hm : ∀ z, z ∈ s ↔ ∃ l ∈ L, z ∈ l) : compL s = L.foldl mergeR [] := by
  obtain ⟨h1, h2⟩ := fold_mergeR L [] .nil hL
  refine sinc_ext (sinc_compL s hs) h1 fun z => ?_
  rw [mem_compL, h2, hm]; simp

end Go.Ab

