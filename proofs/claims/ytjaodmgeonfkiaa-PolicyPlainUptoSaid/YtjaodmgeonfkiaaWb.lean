/-
  The statements of chapter 21, part b: plain lists.
-/
import Derived.Test.YtjaodmgeonfkiaaVg
import Derived.Test.YtjaodmgeonfkiaaWa
namespace Go.Ab
open Go.Proofs

theorem plainE_two {t : Top} {ps : List Pol} {node : Int} {list : List Seg} (h : polsB t ps = true) :
    ∃ r c, plainE t ps node list = (r, c) ∧ plainE t [] node list = (r, c) ∧ (c = 0 → r = list) := by
  have h0 : polsB t [] = true := polsB_spec.2 ⟨(polsB_spec.1 h).1, by simp, by simp⟩
  have e : plainE t [] node list = plainE t ps node list := by unfold plainE; rw [h, h0]
  rw [e]
  refine ⟨(plainE t ps node list).1, (plainE t ps node list).2, rfl, rfl, fun hc => ?_⟩
  by_cases h1 : polsB t ps = true ∧ list.all (segB t) = true
  · by_cases h2 : 0 ≤ node ∧ node < t.nodes
    · by_cases h3 : walkS t node 0 list = 0
      · unfold plainE; rw [if_pos h1, if_pos h2, if_pos h3]
      · unfold plainE at hc; rw [if_pos h1, if_pos h2, if_neg h3] at hc; exact absurd hc h3
    · unfold plainE at hc; rw [if_pos h1, if_neg h2] at hc; exact absurd hc (by decide)
  · unfold plainE at hc; rw [if_neg h1] at hc; exact absurd hc (by decide)

set_option maxHeartbeats 4000000 in
theorem plainP_law (P : Program) (hP : P = Try.prog) (q : Qry) : Ret P n_law21_PolicyPlain [qryA q] (bA true) := by
  have haw : Ret P n_law21_awake [] (bA true) := hP ▸ awake_ok
  have hlg := largeQ_ok P hP q
  have hv2 := rpvalid_ok P hP q.t q.ps
  have he1 := fun h1 h2 => plainE_ok P hP q.t q.ps q.node q.list h1 h2
  have he2 := fun h1 h2 => plainE_ok P hP q.t [] q.node q.list h1 h2
  have hsm := fun r => sameSegs_ok P hP r q.list
  have hll := @largeQ_no q
  have htwo := @plainE_two q.t q.ps q.node q.list
  refine ret_start (hP ▸ mixed) (hP ▸ fn_law21_PolicyPlain) (hP ▸ c_law21_PolicyPlain) (Nat.le_of_ble_eq_true rfl) fun Λ Λo K hK => ?_
  clear hP
  obtain ⟨t, ps, node, list⟩ := q
  simp only at he1 he2 hsm hv2 hll htwo
  generalize largeQ _ = lg at *
  generalize polsB t ps = pb at *
  cases lg
  case true =>
    clear he1 he2 hsm hll htwo
    simp only [qryA, polsA, polsD, boolsD, linksD, segsD] at *
    generalize List.map encPol ps = pl at *
    generalize List.map encSeg list = sl at *
    obtain ⟨nodes, ov, links⟩ := t
    simp only [topA, boolsD, linksD] at *
    generalize hol : ov.map encB = ol at *
    generalize hll : links.map encLk = ll at *
    have hlo : Λ ol = ov.length := by rw [Λo, ← hol]; simp
    have hls : Λ ll = links.length := by rw [Λo, ← hll]; simp
    conv => cbv
    repeat' first | refine call_b haw rfl rfl ?_ ?_ | refine call_b hlg rfl rfl ?_ ?_ | (intro hc; cases hc; done) | (intro (_ : Unit); first | omega | rfl | exact ⟨rfl, by omega⟩ | (simp only [nI_eq]; omega) | ((repeat' first | rfl | omega | refine And.intro ?_ ?_ | (simp only [nI_eq]; omega) | exact Nat.le_of_ble_eq_true rfl); done)) | exact trivial | refine And.intro ?_ ?_ | (intro hc; exact absurd hc (by decide)) | (intro hc; exfalso; omega) | (intro hc; (first | rw [wrap_small (by omega) (by omega)] at hc | rw [nI_eq] at hc | skip); try (conv => cbv))
    all_goals exact hK
  have hl4 := (hll rfl).2.2.2.1
  cases pb
  case false =>
    clear he1 he2 hsm hll htwo
    simp only [qryA, polsA, polsD, boolsD, linksD, segsD] at *
    generalize List.map encPol ps = pl at *
    generalize List.map encSeg list = sl at *
    obtain ⟨nodes, ov, links⟩ := t
    simp only [topA, boolsD, linksD] at *
    generalize hol : ov.map encB = ol at *
    generalize hll : links.map encLk = ll at *
    have hlo : Λ ol = ov.length := by rw [Λo, ← hol]; simp
    have hls : Λ ll = links.length := by rw [Λo, ← hll]; simp
    conv => cbv
    repeat' first | refine call_b haw rfl rfl ?_ ?_ | refine call_b hlg rfl rfl ?_ ?_ | refine call_b hv2 rfl rfl ?_ ?_ | (intro hc; cases hc; done) | (intro (_ : Unit); first | omega | rfl | exact ⟨rfl, by omega⟩ | (simp only [nI_eq]; omega) | ((repeat' first | rfl | omega | refine And.intro ?_ ?_ | (simp only [nI_eq]; omega) | exact Nat.le_of_ble_eq_true rfl); done)) | exact trivial | refine And.intro ?_ ?_ | (intro hc; exact absurd hc (by decide)) | (intro hc; exfalso; omega) | (intro hc; (first | rw [wrap_small (by omega) (by omega)] at hc | rw [nI_eq] at hc | skip); try (conv => cbv))
    all_goals exact hK
  obtain ⟨r, c, hr1, hr2, hc0⟩ := htwo rfl
  rw [hr1] at he1
  rw [hr2] at he2
  have hs1 := hsm r
  have hdd : c = 0 → decide (r = list) = true := fun h => decide_eq_true (hc0 h)
  generalize decide (r = list) = dd at *
  clear hsm hll htwo hr1 hr2 hc0
  simp only [qryA, expA, polsA, polsD, boolsD, linksD, segsA, segsD, List.map_nil] at *
  generalize List.map encPol ps = pl at *
  generalize List.map encSeg r = rl at *
  generalize slh : List.map encSeg list = sl at *
  have sln : Λ sl = list.length := by rw [Λo, ← slh]; simp
  obtain ⟨nodes, ov, links⟩ := t
  simp only [topA, boolsD, linksD] at *
  generalize hol : ov.map encB = ol at *
  generalize hll : links.map encLk = ll at *
  have hlo : Λ ol = ov.length := by rw [Λo, ← hol]; simp
  have hls : Λ ll = links.length := by rw [Λo, ← hll]; simp
  conv => cbv
  repeat' first | refine call_b haw rfl rfl ?_ ?_ | refine call_b hlg rfl rfl ?_ ?_ | refine call_b hv2 rfl rfl ?_ ?_ | (intro hc; cases hc; done) | (intro (_ : Unit); first | omega | rfl | exact ⟨rfl, by omega⟩ | (simp only [nI_eq]; omega) | ((repeat' first | rfl | omega | refine And.intro ?_ ?_ | (simp only [nI_eq]; omega) | exact Nat.le_of_ble_eq_true rfl); done)) | exact trivial | refine And.intro ?_ ?_ | (intro hc; exact absurd hc (by decide)) | (intro hc; exfalso; omega) | (intro hc; (first | rw [wrap_small (by omega) (by omega)] at hc | rw [nI_eq] at hc | skip); try (conv => cbv))
  refine loop_up list.length (fun (i : Int) => [(1, .c (.ptr 0 0 0 0)), (3, iA i)]) (fun _ => [.bx [.d (iD nodes), .d (.list false 1 ol), .d (.list false 7 ll), .d (.list false 3 pl), .d (iD node), .d (.list false 2 sl)]])
    (fun k i => i = k ∧ k ≤ list.length ∧ ∀ s ∈ list.take k, s.kind ≠ 4) 0 (Wk.cut ⟨_, rfl⟩ (Nat.zero_le _) rfl (by repeat' first | exact trivial | refine And.intro ?_ ?_ | rfl)) ⟨rfl, by omega, by simp⟩ (fun k s h => h.2.1) ?_
  rintro k i Q' ⟨hi, hk, hok⟩ norm ex rt
  by_cases hlt : k < list.length
  · obtain ⟨x, hx⟩ : ∃ x, list[k]? = some x := ⟨_, List.getElem?_eq_getElem hlt⟩
    have hxa := elt_at slh hi hx
    have hnx : x.kind ≠ 4 → ∀ s ∈ list.take (k + 1), s.kind ≠ 4 := fun h s hs => by
      rcases (mem_take_succ hx).1 hs with h' | h'
      · exact hok s h'
      · rw [h']; exact h
    obtain ⟨xk, xn⟩ := x
    simp only [encSeg] at hxa
    simp only at hnx
    conv => cbv
    repeat' first | (refine ex _ _ _ ?_; (conv => cbv)) | (refine rt _ _ ?_; (conv => cbv)) | (intro e he; cases Option.some.inj (he.symm.trans hxa); (conv => cbv)) | (intro (_ : Unit); first | omega | rfl | exact ⟨rfl, by omega⟩ | (simp only [nI_eq]; omega) | ((repeat' first | rfl | omega | refine And.intro ?_ ?_ | (simp only [nI_eq]; omega) | exact Nat.le_of_ble_eq_true rfl); done)) | exact trivial | refine And.intro ?_ ?_ | (intro hc; exact absurd hc (by decide)) | (intro hc; exfalso; omega) | (intro hc; (first | rw [wrap_small (by omega) (by omega)] at hc | rw [nI_eq] at hc | skip); try (conv => cbv))
    all_goals first
      | exact hK
      | (refine norm _ _ _ ?_ (Wk.cut ⟨_, rfl⟩ (Nat.zero_le _) rfl (by repeat' first | exact trivial | refine And.intro ?_ ?_ | rfl)); exact ⟨by omega, by omega, hnx (by omega)⟩)
  · have hall : ∀ s ∈ list, s.kind ≠ 4 := fun s hs => hok s (by rw [List.take_of_length_le (by omega)]; exact hs)
    have he1 := he1 hall hl4
    have he2 := he2 hall hl4
    conv => cbv
    repeat' first | (refine ex _ _ _ ?_; (conv => cbv)) | (refine rt _ _ ?_; (conv => cbv)) | (refine call_r he1 rfl rfl ?_; conv => cbv) | (refine call_r he2 rfl rfl ?_; conv => cbv) | refine call_b hs1 rfl rfl ?_ ?_ | (intro (_ : Unit); first | omega | rfl | exact ⟨rfl, by omega⟩ | (simp only [nI_eq]; omega) | ((repeat' first | rfl | omega | refine And.intro ?_ ?_ | (simp only [nI_eq]; omega) | exact Nat.le_of_ble_eq_true rfl); done)) | exact trivial | refine And.intro ?_ ?_ | (intro hc; exact absurd hc (by decide)) | (intro hc; exfalso; omega) | (intro hc; (first | rw [wrap_small (by omega) (by omega)] at hc | rw [nI_eq] at hc | skip); try (conv => cbv))
    all_goals first
      | exact hK
      | (rename_i hz; rw [hdd hz] at hc; cases hc)

end Go.Ab
