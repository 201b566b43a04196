/-
  Shortest paths, part e: the routes of a node.
-/
import Derived.Test.YtlmddegckmbgkaaMd
namespace Go.Ab
open Go.Proofs

noncomputable def toL (t : Top) (down : List Bool) (n : Int) (k : Nat) : List Ety := (arcsTo k).map fun d => ⟨(nextS t down n d).1, false, []⟩
def downL (t : Top) (down : List Bool) (n : Int) : List Int := (outT t n).filter fun a => !upB down a
noncomputable def routesS (t : Top) (down : List Bool) (n : Int) : Tab × Int :=
  if fitsB t down = true then (if 0 ≤ n ∧ n < t.nodes then (⟨n, toL t down n t.nodes.toNat, downL t down n⟩, 0) else (⟨0, [], []⟩, 2)) else (⟨0, [], []⟩, 1)

set_option maxHeartbeats 2000000 in
theorem routes_ok (P : Program) (hP : P = Try.prog) (t : Top) (down : List Bool) (n : Int) : Ret P n_ref22_Routes [topA t, boolsA down, iA n] (.tup [tabA (routesS t down n).1, iA (routesS t down n).2]) := by
  have hfits := fits_ok P hP t down
  have hnext := fun d => next_ok P hP t down n d
  have hout := out_ok P hP t n
  have hup := fun a => up_ok P hP down a
  refine ret_start (hP ▸ mixed) (hP ▸ fn_ref22_Routes) (hP ▸ c_ref22_Routes) (Nat.le_of_ble_eq_true rfl) fun Λ Λo K hK => ?_
  clear hP
  have k1 : fitsB t down = false → K (.tup [tabA ⟨0, [], []⟩, iA 1]) := by
    intro h; rw [routesS, if_neg (by rw [h]; decide)] at hK; exact hK
  have k2 : fitsB t down = true → ¬ (0 ≤ n ∧ n < t.nodes) → K (.tup [tabA ⟨0, [], []⟩, iA 2]) := by
    intro h h'; rw [routesS, if_pos h, if_neg h'] at hK; exact hK
  have k3 : fitsB t down = true → (0 ≤ n ∧ n < t.nodes) → K (.tup [tabA ⟨n, toL t down n t.nodes.toNat, downL t down n⟩, iA 0]) := by
    intro h h'; rw [routesS, if_pos h, if_pos h'] at hK; exact hK
  clear hK
  have hfb : fitsB t down = true → validT t = true ∧ (down.length = 0 ∨ down.length = 2 * t.links.length) := by
    intro h; simpa [fitsB] using h
  have hn64 := fun (hv : validT t = true) => (validT_spec.1 hv).1
  have hor : validT t = true → ∀ a ∈ outT t n, 0 ≤ a ∧ a < 2 * t.links.length := by
    intro hv a ha
    have h2 : arcsT t = 2 * t.links.length := by rw [arcsT, if_pos hv]
    simp only [outT, List.mem_filter, arcsTo, List.mem_map, List.mem_range] at ha
    obtain ⟨⟨k, hk, rfl⟩, _⟩ := ha
    omega
  have hol' : (outT t n).length ≤ 512 := by
    rw [outT]
    refine Nat.le_trans (List.length_filter_le _ _) ?_
    have := (arcsT_le t).2.1
    simp only [arcsTo, List.length_map, List.length_range]; omega
  have hts : ∀ k, toL t down n (k + 1) = toL t down n k ++ [⟨(nextS t down n k).1, false, []⟩] := by
    intro k; simp [toL, arcsTo_succ]
  have ht0 : toL t down n 0 = [] := rfl
  have htn : ∀ k, (toL t down n k).length = k := by intro k; simp [toL, arcsTo]
  have hdl' : downL t down n = (outT t n).filter fun a => !upB down a := rfl
  generalize fitsB t down = fb at *
  generalize validT t = v at *
  generalize toL t down n = tol at *
  generalize downL t down n = dol at *
  generalize upB down = ub at *
  generalize nextS t down n = nx at *
  generalize outT t n = ou at *
  simp only [boolsA, boolsD] at *
  generalize hdl : down.map encB = dl at *
  obtain ⟨nodes, ov, links⟩ := t
  simp only [topA, boolsD, linksD] at *
  generalize hol : ov.map encB = ol at *
  generalize hll : links.map encLk = ll at *
  have hlo : Λ ol = ov.length := by rw [Λo, ← hol]; simp
  have hls : Λ ll = links.length := by rw [Λo, ← hll]; simp
  simp only [tabA, intsA, intsD, entsD, List.map_nil] at *
  cases fb
  · conv => cbv
    repeat' first | refine call_b hfits rfl rfl ?_ ?_ | (intro hc; cases hc; done) | (intro (_ : Unit); first | omega | rfl | exact ⟨rfl, by omega⟩ | (simp only [nI_eq]; omega) | ((repeat' first | rfl | omega | refine And.intro ?_ ?_ | (simp only [nI_eq]; omega) | exact Nat.le_of_ble_eq_true rfl); done)) | exact trivial | refine And.intro ?_ ?_ | (intro hc; exact absurd hc (by decide)) | (intro hc; exfalso; omega) | (intro hc; (first | rw [wrap_small (by omega) (by omega)] at hc | rw [nI_eq] at hc | skip); try (conv => cbv))
    exact k1 rfl
  obtain ⟨hv, hdo⟩ := hfb rfl
  subst hv
  simp only [forall_const] at *
  conv => cbv
  repeat' first | refine call_b hfits rfl rfl ?_ ?_ | (intro hc; cases hc; done) | (intro (_ : Unit); first | omega | rfl | exact ⟨rfl, by omega⟩ | (simp only [nI_eq]; omega) | ((repeat' first | rfl | omega | refine And.intro ?_ ?_ | (simp only [nI_eq]; omega) | exact Nat.le_of_ble_eq_true rfl); done)) | exact trivial | refine And.intro ?_ ?_ | (intro hc; exact absurd hc (by decide)) | (intro hc; exfalso; omega) | (intro hc; (first | rw [wrap_small (by omega) (by omega)] at hc | rw [nI_eq] at hc | skip); try (conv => cbv))
  · exact k2 (by omega)
  · exact k2 (by omega)
  have k3 := k3 (by omega)
  clear k1 k2 hfits hfb
  refine loop_upx nodes.toNat (fun (s : Int × Nat × Nat × Bool × List (List D)) => [(1, .c (.d (.list false 1 dl))), (2, iA n), (3, .c (.ptr 0 0 0 0)), (6, .c (.ptr 1 0 0 0)), (8, .c (.ptr 2 0 0 0)), (9, iA s.1)])
    (fun s => [.bx [.d (iD nodes), .d (.list false 1 ol), .d (.list false 7 ll)], .bx [.d (iD 0), .d (.list true 3 []), .d (.list true 1 [])], .bx [.d (iD n), .arr 3 s.2.1 0 s.2.2.1, .d (.list true 1 [])], .da s.2.2.2.1 s.2.1 3 s.2.2.2.2])
    (fun k s => s.1 = k ∧ k ≤ nodes.toNat ∧ s.2.2.1 = s.2.2.2.2.length ∧ s.2.2.2.2 = (tol k).map encEnt ∧ s.2.2.1 = k) (0, 0, 0, false, [])
    0 (fun (s : Nat × Bool) => [(1, .c (.d (.list false 1 dl))), (2, iA n), (3, .c (.ptr 0 0 0 0)), (6, .c (.ptr 1 0 0 0)), (8, .c (.ptr 2 0 0 0))])
    (fun s => [.bx [.d (iD nodes), .d (.list false 1 ol), .d (.list false 7 ll)], .bx [.d (iD 0), .d (.list true 3 []), .d (.list true 1 [])], .bx [.d (iD n), .arr 3 s.1 0 nodes.toNat, .d (.list true 1 [])], .da s.2 s.1 3 ((tol nodes.toNat).map encEnt)]) (fun _ => True)
    (.trans (.nilB 2 1 3 _ rfl rfl) (Wk.cut ⟨_, rfl⟩ (Nat.zero_le _) rfl (by repeat' first | exact trivial | refine And.intro ?_ ?_ | rfl))) ⟨rfl, by omega, rfl, by rw [ht0]; rfl, rfl⟩ (fun k s h => h.2.1) ?_ ?_
  · rintro k ⟨d, ve, m, r, es⟩ Q' ⟨hi, hk, hm, hes, hmk⟩ norm jn ex rt
    simp only at hi hm hes hmk
    have hnx := hnext d
    have hts := hts k
    rw [← hi] at hts
    generalize nx d = nd at *
    obtain ⟨nl, ne⟩ := nd
    simp only at hnx hts
    generalize hnl : nl.map encI = nll at *
    by_cases hlt : k < nodes.toNat
    · conv => cbv
      repeat' first | (refine ex _ _ _ ?_; (conv => cbv)) | (refine call_r hnx rfl rfl ?_; conv => cbv) | (intro (_ : Unit); refine ⟨rfl, ?_⟩; simp only [List.length_cons, List.length_nil]; omega) | (intro (_ : Unit); first | omega | rfl | exact ⟨rfl, by omega⟩ | (simp only [nI_eq]; omega) | ((repeat' first | rfl | omega | refine And.intro ?_ ?_ | (simp only [nI_eq]; omega) | exact Nat.le_of_ble_eq_true rfl); done)) | exact trivial | refine And.intro ?_ ?_ | (intro hc; exact absurd hc (by decide)) | (intro hc; exfalso; omega) | (intro hc; (first | rw [wrap_small (by omega) (by omega)] at hc | rw [nI_eq] at hc | skip); try (conv => cbv))
      rename_i m' r' es2 hm' hr' he' i'
      refine norm _ _ (_, _, _, _, _) ?_ (Wk.cut ⟨_, rfl⟩ (Nat.zero_le _) rfl (by repeat' first | exact trivial | refine And.intro ?_ ?_ | rfl))
      have e : es2 = (tol (k + 1)).map encEnt := by
        rw [he', List.drop_zero, hm, List.take_length, hes, hts, List.map_append]
        simp only [List.map_cons, List.map_nil, encEnt, intsD, segsD, hnl]
      exact ⟨by simp only; omega, by omega, by simp only; rw [hm', he', List.drop_zero, hm, List.take_length]; simp, e, by simp only; rw [hm']; simp; omega⟩
    · conv => cbv
      repeat' first | (intro (_ : Unit); first | omega | rfl | exact ⟨rfl, by omega⟩ | (simp only [nI_eq]; omega) | ((repeat' first | rfl | omega | refine And.intro ?_ ?_ | (simp only [nI_eq]; omega) | exact Nat.le_of_ble_eq_true rfl); done)) | exact trivial | refine And.intro ?_ ?_ | (intro hc; exact absurd hc (by decide)) | (intro hc; exfalso; omega) | (intro hc; (first | rw [wrap_small (by omega) (by omega)] at hc | rw [nI_eq] at hc | skip); try (conv => cbv))
      have e : k = nodes.toNat := by omega
      subst e
      subst hes hmk
      refine jn _ _ (_, _) trivial (Wk.cut ⟨_, rfl⟩ (Nat.zero_le _) rfl (by repeat' first | exact trivial | refine And.intro ?_ ?_ | rfl))
  rintro ⟨ve, r⟩ -
  generalize hN : nodes.toNat = N at *
  generalize hTl : (tol N).map encEnt = tl at *
  generalize oeh : ou.map encI = oe at *
  have hon : Λ oe = ou.length := by rw [Λo, ← oeh]; simp
  conv => cbv
  repeat' first | (refine call_r hout rfl rfl ?_; conv => cbv) | (intro (_ : Unit); first | omega | rfl | exact ⟨rfl, by omega⟩ | (simp only [nI_eq]; omega) | ((repeat' first | rfl | omega | refine And.intro ?_ ?_ | (simp only [nI_eq]; omega) | exact Nat.le_of_ble_eq_true rfl); done)) | exact trivial | refine And.intro ?_ ?_ | (intro hc; exact absurd hc (by decide)) | (intro hc; exfalso; omega) | (intro hc; (first | rw [wrap_small (by omega) (by omega)] at hc | rw [nI_eq] at hc | skip); try (conv => cbv))
  have htl : tl.length = N := by rw [← hTl, List.length_map]; exact htn N
  refine loop_up ou.length (fun (s : Int × Nat × Nat × Bool × List (List D)) => [(1, .c (.d (.list false 1 dl))), (6, .c (.ptr 1 0 0 0)), (8, .c (.ptr 2 0 0 0)), (12, .c (.d (.list false 1 oe))), (13, iA s.1)])
    (fun s => [.bx [.d (iD nodes), .d (.list false 1 ol), .d (.list false 7 ll)], .bx [.d (iD 0), .d (.list true 3 []), .d (.list true 1 [])], .bx [.d (iD n), .arr 3 ve 0 N, .arr 4 s.2.1 0 s.2.2.1], .da r ve 3 tl, .da s.2.2.2.1 s.2.1 1 s.2.2.2.2])
    (fun k s => s.1 = k ∧ k ≤ ou.length ∧ s.2.2.1 = s.2.2.2.2.length ∧ s.2.2.2.2 = ((ou.take k).filter fun a => !ub a).map encI) (0, 0, 0, false, [])
    (.trans (.nilB 2 2 1 _ rfl rfl) (Wk.cut ⟨_, rfl⟩ (Nat.zero_le _) rfl (by repeat' first | exact trivial | refine And.intro ?_ ?_ | rfl))) ⟨rfl, by omega, rfl, rfl⟩ (fun k s h => h.2.1) ?_
  rintro k ⟨i, v2, m, r2, es⟩ Q' ⟨hi, hk, hm, hes⟩ norm ex rt
  simp only at hi hm hes
  have hesl : es.length ≤ k := by
    rw [hes, List.length_map]
    refine Nat.le_trans (List.length_filter_le _ _) ?_
    simp; omega
  by_cases hlt : k < ou.length
  · obtain ⟨x, hx⟩ : ∃ x, ou[k]? = some x := ⟨_, List.getElem?_eq_getElem hlt⟩
    have hxa := elt_at oeh hi hx
    have hxr := hor x (List.mem_of_getElem? hx)
    have hux := hup x (by omega)
    simp only [encI] at hxa
    generalize hubx : ub x = u at *
    conv => cbv
    repeat' first | (refine ex _ _ _ ?_; (conv => cbv)) | (refine rt _ _ ?_; (conv => cbv)) | (intro e he; cases Option.some.inj (he.symm.trans hxa); (conv => cbv)) | refine call_b hux rfl rfl ?_ ?_ | (intro (_ : Unit); refine ⟨rfl, ?_⟩; simp only [List.length_cons, List.length_nil]; omega) | (intro (_ : Unit); first | omega | rfl | exact ⟨rfl, by omega⟩ | (simp only [nI_eq]; omega) | ((repeat' first | rfl | omega | refine And.intro ?_ ?_ | (simp only [nI_eq]; omega) | exact Nat.le_of_ble_eq_true rfl); done)) | exact trivial | refine And.intro ?_ ?_ | (intro hc; exact absurd hc (by decide)) | (intro hc; exfalso; omega) | (intro hc; (first | rw [wrap_small (by omega) (by omega)] at hc | rw [nI_eq] at hc | skip); try (conv => cbv))
    · refine norm _ _ (_, _, _, _, _) ?_ (Wk.cut ⟨_, rfl⟩ (Nat.zero_le _) rfl (by repeat' first | exact trivial | refine And.intro ?_ ?_ | rfl))
      have e : es = ((ou.take (k + 1)).filter fun a => !ub a).map encI := by
        rw [take_succ_get hx, List.filter_append, List.map_append, ← hes, List.filter_cons_of_neg (by rw [hubx]; simp_all)]; simp
      exact ⟨by simp only; omega, by omega, hm, e⟩
    · rename_i m' r' es2 hm' hr' he' i'
      refine norm _ _ (_, _, _, _, _) ?_ (Wk.cut ⟨_, rfl⟩ (Nat.zero_le _) rfl (by repeat' first | exact trivial | refine And.intro ?_ ?_ | rfl))
      have e : es2 = ((ou.take (k + 1)).filter fun a => !ub a).map encI := by
        rw [he', List.drop_zero, hm, List.take_length, take_succ_get hx, List.filter_append, List.map_append, ← hes, List.filter_cons_of_pos (by rw [hubx]; simp_all)]; rfl
      exact ⟨by simp only; omega, by omega, by simp only; rw [hm', he', List.drop_zero, hm, List.take_length]; simp, e⟩
  · conv => cbv
    repeat' first | (refine ex _ _ _ ?_; (conv => cbv)) | (refine rt _ _ ?_; (conv => cbv)) | (intro (_ : Unit); first | omega | rfl | exact ⟨rfl, by omega⟩ | (simp only [nI_eq]; omega) | ((repeat' first | rfl | omega | refine And.intro ?_ ?_ | (simp only [nI_eq]; omega) | exact Nat.le_of_ble_eq_true rfl); done)) | exact trivial | refine And.intro ?_ ?_ | (intro hc; exact absurd hc (by decide)) | (intro hc; exfalso; omega) | (intro hc; (first | rw [wrap_small (by omega) (by omega)] at hc | rw [nI_eq] at hc | skip); try (conv => cbv))
    rename_i l1 h1 l2
    have e1 : l1 = tl := by rw [h1, List.drop_zero, ← htl, List.take_length]
    have e2 : l2 = dol.map encI := by rw [hc, List.drop_zero, hm, List.take_length, hes, hdl', List.take_of_length_le (by omega)]
    subst e1 e2
    exact k3

end Go.Ab
