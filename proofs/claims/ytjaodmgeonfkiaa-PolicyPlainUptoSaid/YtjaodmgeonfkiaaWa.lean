/-
  The statements of chapter 21, part a: large; valid policies.
-/
import Derived.Test.YtjaodmgeonfkiaaT
namespace Go.Ab
open Go.Proofs

structure Qry where
  (t : Top) (ps : List Pol) (node : Int) (list : List Seg)
def qryA (q : Qry) : AV := .agg [.d (iD q.t.nodes), .d (boolsD q.t.ov), .d (linksD q.t.links), .d (polsD q.ps), .d (iD q.node), .d (segsD q.list)]
def largeQ (q : Qry) : Bool := decide (q.t.nodes > 12) || decide (q.t.links.length > 20) || decide (q.ps.length > 8) || decide (q.list.length > 40) || q.ps.any fun p => decide (p.list.length > 40)

theorem largeQ_no {q : Qry} (h : largeQ q = false) : q.t.nodes ≤ 12 ∧ q.t.links.length ≤ 20 ∧ q.ps.length ≤ 8 ∧ q.list.length ≤ 40 ∧ ∀ p ∈ q.ps, p.list.length ≤ 40 := by
  simp only [largeQ, Bool.or_eq_false_iff, decide_eq_false_iff_not, List.any_eq_false, decide_eq_true_eq] at h
  exact ⟨by omega, by omega, by omega, by omega, fun p hp => by have := h.2 p hp; omega⟩

set_option maxHeartbeats 4000000 in
theorem largeQ_ok (P : Program) (hP : P = Try.prog) (q : Qry) : Ret P n_law21_large [qryA q] (bA (largeQ q)) := by
  refine ret_start (hP ▸ mixed) (hP ▸ fn_law21_large) (hP ▸ c_law21_large) (Nat.le_of_ble_eq_true rfl) fun Λ Λo K hK => ?_
  clear hP
  have yes : (q.t.nodes > 12 ∨ q.t.links.length > 20 ∨ q.ps.length > 8 ∨ q.list.length > 40 ∨ ∃ p ∈ q.ps, p.list.length > 40) → K (bA true) := fun h => by
    rw [show largeQ q = true by
      simp only [largeQ, Bool.or_eq_true, decide_eq_true_eq, List.any_eq_true, or_assoc]; exact h] at hK
    exact hK
  have no : ¬ (q.t.nodes > 12 ∨ q.t.links.length > 20 ∨ q.ps.length > 8 ∨ q.list.length > 40 ∨ ∃ p ∈ q.ps, p.list.length > 40) → K (bA false) := fun h => by
    rw [show largeQ q = false by
      rw [Bool.eq_false_iff]
      intro h'
      simp only [largeQ, Bool.or_eq_true, decide_eq_true_eq, List.any_eq_true, or_assoc] at h'; exact h h'] at hK
    exact hK
  clear hK
  obtain ⟨t, ps, node, list⟩ := q
  simp only at yes no
  simp only [qryA, boolsD, linksD, polsD, segsD] at *
  generalize slh : List.map encSeg list = sl at *
  have sln : Λ sl = list.length := by rw [Λo, ← slh]; simp
  generalize plh : List.map encPol ps = pl at *
  have pln : Λ pl = ps.length := by rw [Λo, ← plh]; simp
  obtain ⟨nodes, ov, links⟩ := t
  
  generalize hol : ov.map encB = ol at *
  generalize hll : links.map encLk = ll at *
  have hlo : Λ ol = ov.length := by rw [Λo, ← hol]; simp
  have hls : Λ ll = links.length := by rw [Λo, ← hll]; simp
  simp only at yes no
  conv => cbv
  repeat' first | (intro (_ : Unit); first | omega | rfl | exact ⟨rfl, by omega⟩ | (simp only [nI_eq]; omega) | ((repeat' first | rfl | omega | refine And.intro ?_ ?_ | (simp only [nI_eq]; omega) | exact Nat.le_of_ble_eq_true rfl); done)) | exact trivial | refine And.intro ?_ ?_ | (intro hc; exact absurd hc (by decide)) | (intro hc; exfalso; omega) | (intro hc; (first | rw [wrap_small (by omega) (by omega)] at hc | rw [nI_eq] at hc | skip); try (conv => cbv))
  all_goals try (refine yes ?_; first | (left; omega) | (right; left; omega) | (right; right; left; omega) | (right; right; right; left; omega))
  refine loop_up ps.length (fun (i : Int) => [(1, .c (.ptr 0 0 0 0)), (3, iA i)]) (fun _ => [.bx [.d (iD nodes), .d (.list false 1 ol), .d (.list false 7 ll), .d (.list false 3 pl), .d (iD node), .d (.list false 2 sl)]])
    (fun k i => i = k ∧ k ≤ ps.length ∧ ∀ p ∈ ps.take k, p.list.length ≤ 40) 0 (Wk.cut ⟨_, rfl⟩ (Nat.zero_le _) rfl (by repeat' first | exact trivial | refine And.intro ?_ ?_ | rfl)) ⟨rfl, by omega, by simp⟩ (fun k s h => h.2.1) ?_
  rintro k i Q' ⟨hi, hk, hok⟩ norm ex rt
  by_cases hlt : k < ps.length
  · obtain ⟨x, hx⟩ : ∃ x, ps[k]? = some x := ⟨_, List.getElem?_eq_getElem hlt⟩
    have hxa := elt_at plh hi hx
    have hxm := List.mem_of_getElem? hx
    have hyes : x.list.length > 40 → K (bA true) := fun h => yes (.inr (.inr (.inr (.inr ⟨x, hxm, h⟩))))
    have hnx : x.list.length ≤ 40 → ∀ p ∈ ps.take (k + 1), p.list.length ≤ 40 := fun h p hp => by
      rcases (mem_take_succ hx).1 hp with h' | h'
      · exact hok p h'
      · rw [h']; exact h
    obtain ⟨pn, pb, pls⟩ := x
    simp only [encPol, segsD] at hxa
    simp only at hyes hnx
    generalize qlh : List.map encSeg pls = ql at *
    have qln : Λ ql = pls.length := by rw [Λo, ← qlh]; simp
    conv => cbv
    repeat' first | (refine ex _ _ _ ?_; (conv => cbv)) | (refine rt _ _ ?_; (conv => cbv)) | (intro e he; cases Option.some.inj (he.symm.trans hxa); (conv => cbv)) | (intro (_ : Unit); first | omega | rfl | exact ⟨rfl, by omega⟩ | (simp only [nI_eq]; omega) | ((repeat' first | rfl | omega | refine And.intro ?_ ?_ | (simp only [nI_eq]; omega) | exact Nat.le_of_ble_eq_true rfl); done)) | exact trivial | refine And.intro ?_ ?_ | (intro hc; exact absurd hc (by decide)) | (intro hc; exfalso; omega) | (intro hc; (first | rw [wrap_small (by omega) (by omega)] at hc | rw [nI_eq] at hc | skip); try (conv => cbv))
    all_goals first
      | exact hyes (by omega)
      | (refine norm _ _ _ ?_ (Wk.cut ⟨_, rfl⟩ (Nat.zero_le _) rfl (by repeat' first | exact trivial | refine And.intro ?_ ?_ | rfl)); exact ⟨by omega, by omega, hnx (by omega)⟩)
      | trace_state
  · conv => cbv
    repeat' first | (refine ex _ _ _ ?_; (conv => cbv)) | (refine rt _ _ ?_; (conv => cbv)) | (intro (_ : Unit); first | omega | rfl | exact ⟨rfl, by omega⟩ | (simp only [nI_eq]; omega) | ((repeat' first | rfl | omega | refine And.intro ?_ ?_ | (simp only [nI_eq]; omega) | exact Nat.le_of_ble_eq_true rfl); done)) | exact trivial | refine And.intro ?_ ?_ | (intro hc; exact absurd hc (by decide)) | (intro hc; exfalso; omega) | (intro hc; (first | rw [wrap_small (by omega) (by omega)] at hc | rw [nI_eq] at hc | skip); try (conv => cbv))
    refine no ?_
    rintro (h | h | h | h | ⟨p, hp, h⟩)
    · omega
    · omega
    · omega
    · omega
    · have := hok p (by rw [List.take_of_length_le (by omega)]; exact hp); omega

set_option maxHeartbeats 4000000 in
theorem validP_law (P : Program) (hP : P = Try.prog) (q : Qry) (b : Int) : Ret P n_law21_PolicyValid [qryA q, iA b] (bA true) := by
  have haw : Ret P n_law21_awake [] (bA true) := hP ▸ awake_ok
  have hlg := largeQ_ok P hP q
  have hf1 := fun h => pfind_ok P hP q.ps q.node b h
  have hf2 := rfind_ok P hP q.ps q.node b
  have hv1 := pvalid_ok P hP q.t q.ps
  have hv2 := rpvalid_ok P hP q.t q.ps
  have hsp := fun p => samePol_ok P hP p
  have hl40 := fun (h : largeQ q = false) p (hp : p ∈ q.ps) => Nat.le_trans ((largeQ_no h).2.2.2.2 p hp) (by decide : 40 ≤ 1000000)
  refine ret_start (hP ▸ mixed) (hP ▸ fn_law21_PolicyValid) (hP ▸ c_law21_PolicyValid) (Nat.le_of_ble_eq_true rfl) fun Λ Λo K hK => ?_
  clear hP
  have hf1 := fun h => hf1 (hl40 h)
  obtain ⟨t, ps, node, list⟩ := q
  simp only at hf1 hf2 hv1 hv2
  generalize largeQ _ = lg at *
  generalize polsB t ps = pb at *
  generalize ps.find? (isP node b) = fo at *
  obtain ⟨p0, hfo⟩ : ∃ p0 : Pol, foundA fo = .tup [polA p0, bA fo.isSome] := by
    cases fo with
    | none => exact ⟨⟨0, 0, []⟩, rfl⟩
    | some p => exact ⟨p, rfl⟩
  rw [hfo] at hf1 hf2
  have hsp := hsp p0
  generalize fo.isSome = fs at *
  obtain ⟨pn, pbd, pls⟩ := p0
  simp only [qryA, polA, polsA, polsD, boolsD, linksD, segsD] at *
  generalize List.map encPol ps = pl at *
  generalize List.map encSeg list = sl at *
  generalize List.map encSeg pls = ql at *
  obtain ⟨nodes, ov, links⟩ := t
  simp only [topA, boolsD, linksD] at *
  generalize hol : ov.map encB = ol at *
  generalize hll : links.map encLk = ll at *
  have hlo : Λ ol = ov.length := by rw [Λo, ← hol]; simp
  have hls : Λ ll = links.length := by rw [Λo, ← hll]; simp
  clear hl40
  cases lg
  case true =>
    conv => cbv
    repeat' first | refine call_b haw rfl rfl ?_ ?_ | refine call_b hlg rfl rfl ?_ ?_ | (intro hc; cases hc; done) | (intro (_ : Unit); first | omega | rfl | exact ⟨rfl, by omega⟩ | (simp only [nI_eq]; omega) | ((repeat' first | rfl | omega | refine And.intro ?_ ?_ | (simp only [nI_eq]; omega) | exact Nat.le_of_ble_eq_true rfl); done)) | exact trivial | refine And.intro ?_ ?_ | (intro hc; exact absurd hc (by decide)) | (intro hc; exfalso; omega) | (intro hc; (first | rw [wrap_small (by omega) (by omega)] at hc | rw [nI_eq] at hc | skip); try (conv => cbv))
    all_goals exact hK
  have hf1 := hf1 rfl
  cases fs <;> cases pb
  all_goals conv => cbv
  all_goals repeat' first | refine call_b haw rfl rfl ?_ ?_ | refine call_b hlg rfl rfl ?_ ?_ | (intro hc; cases hc; done) | (refine call_r hf1 rfl rfl ?_; conv => cbv) | (refine call_r hf2 rfl rfl ?_; conv => cbv) | refine call_b hv1 rfl rfl ?_ ?_ | refine call_b hv2 rfl rfl ?_ ?_ | refine call_b hsp rfl rfl ?_ ?_ | (intro (_ : Unit); first | omega | rfl | exact ⟨rfl, by omega⟩ | (simp only [nI_eq]; omega) | ((repeat' first | rfl | omega | refine And.intro ?_ ?_ | (simp only [nI_eq]; omega) | exact Nat.le_of_ble_eq_true rfl); done)) | exact trivial | refine And.intro ?_ ?_ | (intro hc; exact absurd hc (by decide)) | (intro hc; exfalso; omega) | (intro hc; (first | rw [wrap_small (by omega) (by omega)] at hc | rw [nI_eq] at hc | skip); try (conv => cbv))
  all_goals exact hK

end Go.Ab
