/-
  Chapter 21, part c: the specification's validity, and the search for a policy.
-/
import Derived.Test.YtjaodmgeonfkiaaVb
namespace Go.Ab
open Go.Proofs

set_option maxHeartbeats 4000000 in
theorem rpvalid_ok (P : Program) (hP : P = Try.prog) (t : Top) (ps : List Pol) : Ret P n_ref21_Valid [topA t, polsA ps] (bA (polsB t ps)) := by
  have hv := valid_ok P hP t
  have hsg := fun l h => rproper_ok P hP t l h
  refine ret_start (hP ▸ mixed) (hP ▸ fn_ref21_Valid) (hP ▸ c_ref21_Valid) (Nat.le_of_ble_eq_true rfl) fun Λ Λo K hK => ?_
  clear hP
  have yes : validT t = true → (∀ p ∈ ps, polB t p = true) → (ps.map keyP).Nodup → K (bA true) := fun h1 h2 h3 => by rw [polsB_spec.2 ⟨h1, h2, h3⟩] at hK; exact hK
  have no : ¬ (validT t = true ∧ (∀ p ∈ ps, polB t p = true) ∧ (ps.map keyP).Nodup) → K (bA false) := fun h => by
    rw [show polsB t ps = false from Bool.eq_false_iff.2 fun h' => h (polsB_spec.1 h')] at hK; exact hK
  clear hK
  have hps := fun p => @polB_spec t p
  generalize validT t = vt at *
  generalize segB t = sb at *
  generalize polB t = pb at *
  simp only [polsA, polsD, segsA, segsD] at *
  generalize plh : List.map encPol ps = pl at *
  have pln : Λ pl = ps.length := by rw [Λo, ← plh]; simp
  obtain ⟨nodes, ov, links⟩ := t
  simp only [topA, boolsD, linksD] at *
  generalize hol : ov.map encB = ol at *
  generalize hll : links.map encLk = ll at *
  have hlo : Λ ol = ov.length := by rw [Λo, ← hol]; simp
  have hls : Λ ll = links.length := by rw [Λo, ← hll]; simp
  cases vt with
  | false =>
    conv => cbv
    repeat' first | refine call_b hv rfl rfl ?_ ?_ | (intro hc; cases hc; done) | (intro (_ : Unit); first | omega | rfl | exact ⟨rfl, by omega⟩ | (simp only [nI_eq]; omega) | ((repeat' first | rfl | omega | refine And.intro ?_ ?_ | (simp only [nI_eq]; omega) | exact Nat.le_of_ble_eq_true rfl); done)) | exact trivial | refine And.intro ?_ ?_ | (intro hc; exact absurd hc (by decide)) | (intro hc; exfalso; omega) | (intro hc; (first | rw [wrap_small (by omega) (by omega)] at hc | rw [nI_eq] at hc | skip); try (conv => cbv))
    exact no (by simp)
  | true =>
  have hsg := fun l => hsg l rfl
  have no1 : ∀ p ∈ ps, ¬ ((0 ≤ p.node ∧ p.node < nodes) ∧ (0 ≤ p.bind ∧ p.bind ≤ 65535) ∧ p.list.length ≤ 32 ∧ p.list.all sb = true) → K (bA false) := fun p hp h => no fun h' => h ((hps p).1 (h'.2.1 p hp))
  have no2 : ¬ (ps.map keyP).Nodup → K (bA false) := fun h => no fun h' => h h'.2.2
  have yes := yes rfl
  clear no
  conv => cbv
  repeat' first | refine call_b hv rfl rfl ?_ ?_ | (intro hc; cases hc; done) | (intro (_ : Unit); first | omega | rfl | exact ⟨rfl, by omega⟩ | (simp only [nI_eq]; omega) | ((repeat' first | rfl | omega | refine And.intro ?_ ?_ | (simp only [nI_eq]; omega) | exact Nat.le_of_ble_eq_true rfl); done)) | exact trivial | refine And.intro ?_ ?_ | (intro hc; exact absurd hc (by decide)) | (intro hc; exfalso; omega) | (intro hc; (first | rw [wrap_small (by omega) (by omega)] at hc | rw [nI_eq] at hc | skip); try (conv => cbv))
  refine loop_up ps.length (fun (i : Int) => [(1, .c (.d (.list false 3 pl))), (2, .c (.ptr 0 0 0 0)), (5, iA i)]) (fun s => [.bx [.d (iD nodes), .d (.list false 1 ol), .d (.list false 7 ll)]])
    (fun k i => i = k ∧ k ≤ ps.length ∧ (∀ p ∈ ps.take k, pb p = true) ∧ ((ps.take k).map keyP).Nodup) 0 (Wk.cut ⟨_, rfl⟩ (Nat.zero_le _) rfl (by repeat' first | exact trivial | refine And.intro ?_ ?_ | rfl)) ⟨rfl, by omega, by simp, by simp⟩ (fun k s h => h.2.1) ?_
  rintro k i Q' ⟨hi, hk, hok, hnd⟩ norm ex rt
  by_cases hlt : k < ps.length
  · obtain ⟨x, hx⟩ : ∃ x, ps[k]? = some x := ⟨_, List.getElem?_eq_getElem hlt⟩
    have hxa := elt_at plh hi hx
    have hxm := List.mem_of_getElem? hx
    have hdup : keyP x ∈ (ps.take k).map keyP → K (bA false) := fun h => no2 (dup_no hx h)
    have hbad := no1 x hxm
    have hgood := (hps x).2
    have hnds := (nodup_take_succ hx).2
    obtain ⟨node, bind, list⟩ := x
    have hsx := hsg list
    simp only [encPol, segsD] at hxa
    simp only [keyP] at hdup hnds
    simp only at hbad hgood
    generalize list.all sb = la at *
    generalize slh : List.map encSeg list = sl at *
    have sln : Λ sl = list.length := by rw [Λo, ← slh]; simp
    conv => cbv
    repeat' first | (refine ex _ _ _ ?_; (conv => cbv)) | (refine rt _ _ ?_; (conv => cbv)) | (intro e he; cases Option.some.inj (he.symm.trans hxa); (conv => cbv)) | refine call_b hsx rfl rfl ?_ ?_ | (intro (_ : Unit); first | omega | rfl | exact ⟨rfl, by omega⟩ | (simp only [nI_eq]; omega) | ((repeat' first | rfl | omega | refine And.intro ?_ ?_ | (simp only [nI_eq]; omega) | exact Nat.le_of_ble_eq_true rfl); done)) | exact trivial | refine And.intro ?_ ?_ | (intro hc; exact absurd hc (by decide)) | (intro hc; exfalso; omega) | (intro hc; (first | rw [wrap_small (by omega) (by omega)] at hc | rw [nI_eq] at hc | skip); try (conv => cbv))
    all_goals try first
      | (refine hbad ?_; intro hb; omega)
      | (refine hbad ?_; intro hb; exact absurd hb.2.2.2 (by rw [‹la = false›]; decide))
    have hlt' : la = true := by assumption
    have hgd := hgood ⟨by omega, by omega, by omega, hlt'⟩
    clear hbad
    refine loop_up k (fun (j : Int) => [(1, .c (.d (.list false 3 pl))), (2, .c (.ptr 0 0 0 0)), (5, iA i), (6, .c (.ptr 1 0 0 0)), (7, iA j)]) (fun s => [.bx [.d (iD nodes), .d (.list false 1 ol), .d (.list false 7 ll)], .bx [.d (iD node), .d (iD bind), .d (.list false 2 sl)]])
      (fun q j => j = q ∧ q ≤ k ∧ (node, bind) ∉ (ps.take q).map keyP) 0 (Wk.cut ⟨_, rfl⟩ (Nat.zero_le _) rfl (by repeat' first | exact trivial | refine And.intro ?_ ?_ | rfl)) ⟨rfl, by omega, by simp⟩ (fun k s h => h.2.1) ?_
    rintro q j Q'' ⟨hj, hq, hqn⟩ norm2 ex2 rt2
    by_cases hlt2 : q < k
    · obtain ⟨y, hy⟩ : ∃ y, ps[q]? = some y := ⟨_, List.getElem?_eq_getElem (by omega)⟩
      have hya := elt_at plh hj hy
      have hym : keyP y = (node, bind) → (node, bind) ∈ (ps.take k).map keyP := fun e => by
        rw [← e]; exact List.mem_map.2 ⟨y, List.mem_of_getElem? (i := q) (by rw [List.getElem?_take, if_pos hlt2]; exact hy), rfl⟩
      have hys : keyP y ≠ (node, bind) → (node, bind) ∉ (ps.take (q + 1)).map keyP := fun e h => by
        rw [take_succ_get hy, List.map_append] at h
        rcases List.mem_append.1 h with h | h
        · exact hqn h
        · simp only [List.map_cons, List.map_nil, List.mem_singleton] at h; exact e h.symm
      obtain ⟨n2, b2, l2⟩ := y
      simp only [encPol, segsD] at hya
      simp only [keyP, Prod.mk.injEq, ne_eq] at hym hys
      generalize List.map encSeg l2 = sl2 at *
      conv => cbv
      repeat' first | (refine ex2 _ _ _ ?_; (conv => cbv)) | (refine rt2 _ _ ?_; (conv => cbv)) | (refine rt _ _ ?_; (conv => cbv)) | (intro e he; cases Option.some.inj (he.symm.trans hya); (conv => cbv)) | (intro (_ : Unit); first | omega | rfl | exact ⟨rfl, by omega⟩ | (simp only [nI_eq]; omega) | ((repeat' first | rfl | omega | refine And.intro ?_ ?_ | (simp only [nI_eq]; omega) | exact Nat.le_of_ble_eq_true rfl); done)) | exact trivial | refine And.intro ?_ ?_ | (intro hc; exact absurd hc (by decide)) | (intro hc; exfalso; omega) | (intro hc; (first | rw [wrap_small (by omega) (by omega)] at hc | rw [nI_eq] at hc | skip); try (conv => cbv))
      all_goals first
        | exact hdup (hym ⟨by assumption, by assumption⟩)
        | (refine norm2 _ _ _ ?_ (Wk.cut ⟨_, rfl⟩ (Nat.zero_le _) rfl (by repeat' first | exact trivial | refine And.intro ?_ ?_ | rfl)); refine ⟨by omega, by omega, hys fun h => ?_⟩; omega)
        | trace_state
    · conv => cbv
      repeat' first | (refine ex2 _ _ _ ?_; (conv => cbv)) | (refine rt2 _ _ ?_; (conv => cbv)) | (intro (_ : Unit); first | omega | rfl | exact ⟨rfl, by omega⟩ | (simp only [nI_eq]; omega) | ((repeat' first | rfl | omega | refine And.intro ?_ ?_ | (simp only [nI_eq]; omega) | exact Nat.le_of_ble_eq_true rfl); done)) | exact trivial | refine And.intro ?_ ?_ | (intro hc; exact absurd hc (by decide)) | (intro hc; exfalso; omega) | (intro hc; (first | rw [wrap_small (by omega) (by omega)] at hc | rw [nI_eq] at hc | skip); try (conv => cbv))
      have e : q = k := by omega
      subst e
      refine norm _ _ _ ?_ (Wk.cut ⟨_, rfl⟩ (Nat.zero_le _) rfl (by repeat' first | exact trivial | refine And.intro ?_ ?_ | rfl))
      refine ⟨by omega, by omega, fun p hp => ?_, hnds ⟨hnd, hqn⟩⟩
      rcases (mem_take_succ hx).1 hp with h | h
      · exact hok p h
      · rw [h]; exact hgd
  · conv => cbv
    repeat' first | (refine ex _ _ _ ?_; (conv => cbv)) | (refine rt _ _ ?_; (conv => cbv)) | (intro (_ : Unit); first | omega | rfl | exact ⟨rfl, by omega⟩ | (simp only [nI_eq]; omega) | ((repeat' first | rfl | omega | refine And.intro ?_ ?_ | (simp only [nI_eq]; omega) | exact Nat.le_of_ble_eq_true rfl); done)) | exact trivial | refine And.intro ?_ ?_ | (intro hc; exact absurd hc (by decide)) | (intro hc; exfalso; omega) | (intro hc; (first | rw [wrap_small (by omega) (by omega)] at hc | rw [nI_eq] at hc | skip); try (conv => cbv))
    have ht : ps.take k = ps := List.take_of_length_le (by omega)
    rw [ht] at hok hnd
    exact yes hok hnd

/-- the first policy with a key -/
def findPol (ps : List Pol) (n b : Int) : Option Pol := ps.find? fun p => decide (p.node = n ∧ p.bind = b)
def foundA (o : Option Pol) : AV := match o with
  | some p => .tup [polA p, bA true]
  | none => .tup [polA ⟨0, 0, []⟩, bA false]

theorem find_take {ps : List Pol} {f : Pol → Bool} {k : Nat} {x : Pol} (hn : ∀ p ∈ ps.take k, f p = false) (hx : ps[k]? = some x) (hf : f x = true) : ps.find? f = some x := by
  rw [← List.take_append_drop k ps, List.find?_append]
  have h1 : (ps.take k).find? f = none := List.find?_eq_none.2 fun p hp => by rw [hn p hp]; decide
  have h2 : ps.drop k = x :: ps.drop (k + 1) := by
    rw [List.drop_eq_getElem_cons (get_lt hx)]
    congr 1
    rw [List.getElem?_eq_getElem (get_lt hx)] at hx; exact Option.some.inj hx
  rw [h1, h2, Option.none_or, List.find?_cons_of_pos hf]

end Go.Ab
