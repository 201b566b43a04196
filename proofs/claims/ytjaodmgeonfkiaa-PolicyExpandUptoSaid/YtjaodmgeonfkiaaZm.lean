/-
  Merged texts, part m.
-/
import Derived.Test.YtjaodmgeonfkiaaZl
/-
  The statements of chapter 21, part a: large; valid policies.
-/
namespace Go.Ab
open Go.Proofs

structure Qry where
  (t : Top) (ps : List Pol) (node : Int) (list : List Seg)
def qryA (q : Qry) : AV := .agg [.d (iD q.t.nodes), .d (boolsD q.t.ov), .d (linksD q.t.links), .d (polsD q.ps), .d (iD q.node), .d (segsD q.list)]
def largeQ (q : Qry) : Bool := decide (q.t.nodes > 12) || decide (q.t.links.length > 20) || decide (q.ps.length > 8) || decide (q.list.length > 40) || q.ps.any fun p => decide (p.list.length > 40)

theorem largeQ_no {q : Qry} (h : largeQ q = false) : q.t.nodes ≤ 12 ∧ q.t.links.length ≤ 20 ∧ q.ps.length ≤ 8 ∧ q.list.length ≤ 40 ∧ ∀ p ∈ q.ps, p.list.length ≤ 40 := by
  simp only [largeQ, Bool.or_eq_false_iff, decide_eq_false_iff_not, List.any_eq_false, decide_eq_true_eq] at h
  exact ⟨by omega, by omega, by omega, by omega, fun p hp => by have := h.2 p hp; omega⟩

set_option maxHeartbeats 4000000 in
theorem largeQ_ok (P : Program) (hP : P = Try.prog) (q : Qry) : Ret P n_law21_large [qryA q] (bA (largeQ q)) := by
  refine ret_start (hP ▸ mixed) (hP ▸ fn_law21_large) (hP ▸ c_law21_large) (Nat.le_of_ble_eq_true rfl) fun Λ Λo K hK => ?_
  clear hP
  have yes : (q.t.nodes > 12 ∨ q.t.links.length > 20 ∨ q.ps.length > 8 ∨ q.list.length > 40 ∨ ∃ p ∈ q.ps, p.list.length > 40) → K (bA true) := fun h => by
    rw [show largeQ q = true by
      simp only [largeQ, Bool.or_eq_true, decide_eq_true_eq, List.any_eq_true, or_assoc]; exact h] at hK
    exact hK
  have no : ¬ (q.t.nodes > 12 ∨ q.t.links.length > 20 ∨ q.ps.length > 8 ∨ q.list.length > 40 ∨ ∃ p ∈ q.ps, p.list.length > 40) → K (bA false) := fun h => by
    rw [show largeQ q = false by
      rw [Bool.eq_false_iff]
      intro h'
      simp only [largeQ, Bool.or_eq_true, decide_eq_true_eq, List.any_eq_true, or_assoc] at h'; exact h h'] at hK
    exact hK
  clear hK
  obtain ⟨t, ps, node, list⟩ := q
  simp only at yes no
  simp only [qryA, boolsD, linksD, polsD, segsD] at *
  generalize slh : List.map encSeg list = sl at *
  have sln : Λ sl = list.length := by rw [Λo, ← slh]; simp
  generalize plh : List.map encPol ps = pl at *
  have pln : Λ pl = ps.length := by rw [Λo, ← plh]; simp
  obtain ⟨nodes, ov, links⟩ := t
  
  generalize hol : ov.map encB = ol at *
  generalize hll : links.map encLk = ll at *
  have hlo : Λ ol = ov.length := by rw [Λo, ← hol]; simp
  have hls : Λ ll = links.length := by rw [Λo, ← hll]; simp
  simp only at yes no
  conv => cbv
  repeat' first | (intro (_ : Unit); first | omega | rfl | exact ⟨rfl, by omega⟩ | (simp only [nI_eq]; omega) | ((repeat' first | rfl | omega | refine And.intro ?_ ?_ | (simp only [nI_eq]; omega) | exact Nat.le_of_ble_eq_true rfl); done)) | exact trivial | refine And.intro ?_ ?_ | (intro hc; exact absurd hc (by decide)) | (intro hc; exfalso; omega) | (intro hc; (first | rw [wrap_small (by omega) (by omega)] at hc | rw [nI_eq] at hc | skip); try (conv => cbv))
  all_goals try (refine yes ?_; first | (left; omega) | (right; left; omega) | (right; right; left; omega) | (right; right; right; left; omega))
  refine loop_up ps.length (fun (i : Int) => [(1, .c (.ptr 0 0 0 0)), (3, iA i)]) (fun _ => [.bx [.d (iD nodes), .d (.list false 1 ol), .d (.list false 7 ll), .d (.list false 3 pl), .d (iD node), .d (.list false 2 sl)]])
    (fun k i => i = k ∧ k ≤ ps.length ∧ ∀ p ∈ ps.take k, p.list.length ≤ 40) 0 (Wk.cut ⟨_, rfl⟩ (Nat.zero_le _) rfl (by repeat' first | exact trivial | refine And.intro ?_ ?_ | rfl)) ⟨rfl, by omega, by simp⟩ (fun k s h => h.2.1) ?_
  rintro k i Q' ⟨hi, hk, hok⟩ norm ex rt
  by_cases hlt : k < ps.length
  · obtain ⟨x, hx⟩ : ∃ x, ps[k]? = some x := ⟨_, List.getElem?_eq_getElem hlt⟩
    have hxa := elt_at plh hi hx
    have hxm := List.mem_of_getElem? hx
    have hyes : x.list.length > 40 → K (bA true) := fun h => yes (.inr (.inr (.inr (.inr ⟨x, hxm, h⟩))))
    have hnx : x.list.length ≤ 40 → ∀ p ∈ ps.take (k + 1), p.list.length ≤ 40 := fun h p hp => by
      rcases (mem_take_succ hx).1 hp with h' | h'
      · exact hok p h'
      · rw [h']; exact h
    obtain ⟨pn, pb, pls⟩ := x
    simp only [encPol, segsD] at hxa
    simp only at hyes hnx
    generalize qlh : List.map encSeg pls = ql at *
    have qln : Λ ql = pls.length := by rw [Λo, ← qlh]; simp
    conv => cbv
    repeat' first | (refine ex _ _ _ ?_; (conv => cbv)) | (refine rt _ _ ?_; (conv => cbv)) | (intro e he; cases Option.some.inj (he.symm.trans hxa); (conv => cbv)) | (intro (_ : Unit); first | omega | rfl | exact ⟨rfl, by omega⟩ | (simp only [nI_eq]; omega) | ((repeat' first | rfl | omega | refine And.intro ?_ ?_ | (simp only [nI_eq]; omega) | exact Nat.le_of_ble_eq_true rfl); done)) | exact trivial | refine And.intro ?_ ?_ | (intro hc; exact absurd hc (by decide)) | (intro hc; exfalso; omega) | (intro hc; (first | rw [wrap_small (by omega) (by omega)] at hc | rw [nI_eq] at hc | skip); try (conv => cbv))
    all_goals first
      | exact hyes (by omega)
      | (refine norm _ _ _ ?_ (Wk.cut ⟨_, rfl⟩ (Nat.zero_le _) rfl (by repeat' first | exact trivial | refine And.intro ?_ ?_ | rfl)); exact ⟨by omega, by omega, hnx (by omega)⟩)
      | trace_state
  · conv => cbv
    repeat' first | (refine ex _ _ _ ?_; (conv => cbv)) | (refine rt _ _ ?_; (conv => cbv)) | (intro (_ : Unit); first | omega | rfl | exact ⟨rfl, by omega⟩ | (simp only [nI_eq]; omega) | ((repeat' first | rfl | omega | refine And.intro ?_ ?_ | (simp only [nI_eq]; omega) | exact Nat.le_of_ble_eq_true rfl); done)) | exact trivial | refine And.intro ?_ ?_ | (intro hc; exact absurd hc (by decide)) | (intro hc; exfalso; omega) | (intro hc; (first | rw [wrap_small (by omega) (by omega)] at hc | rw [nI_eq] at hc | skip); try (conv => cbv))
    refine no ?_
    rintro (h | h | h | h | ⟨p, hp, h⟩)
    · omega
    · omega
    · omega
    · omega
    · have := hok p (by rw [List.take_of_length_le (by omega)]; exact hp); omega

set_option maxHeartbeats 4000000 in
theorem validP_law (P : Program) (hP : P = Try.prog) (q : Qry) (b : Int) : Ret P n_law21_PolicyValid [qryA q, iA b] (bA true) := by
  have haw : Ret P n_law21_awake [] (bA true) := hP ▸ awake_ok
  have hlg := largeQ_ok P hP q
  have hf1 := fun h => pfind_ok P hP q.ps q.node b h
  have hf2 := rfind_ok P hP q.ps q.node b
  have hv1 := pvalid_ok P hP q.t q.ps
  have hv2 := rpvalid_ok P hP q.t q.ps
  have hsp := fun p => samePol_ok P hP p
  have hl40 := fun (h : largeQ q = false) p (hp : p ∈ q.ps) => Nat.le_trans ((largeQ_no h).2.2.2.2 p hp) (by decide : 40 ≤ 1000000)
  refine ret_start (hP ▸ mixed) (hP ▸ fn_law21_PolicyValid) (hP ▸ c_law21_PolicyValid) (Nat.le_of_ble_eq_true rfl) fun Λ Λo K hK => ?_
  clear hP
  have hf1 := fun h => hf1 (hl40 h)
  obtain ⟨t, ps, node, list⟩ := q
  simp only at hf1 hf2 hv1 hv2
  generalize largeQ _ = lg at *
  generalize polsB t ps = pb at *
  generalize ps.find? (isP node b) = fo at *
  obtain ⟨p0, hfo⟩ : ∃ p0 : Pol, foundA fo = .tup [polA p0, bA fo.isSome] := by
    cases fo with
    | none => exact ⟨⟨0, 0, []⟩, rfl⟩
    | some p => exact ⟨p, rfl⟩
  rw [hfo] at hf1 hf2
  have hsp := hsp p0
  generalize fo.isSome = fs at *
  obtain ⟨pn, pbd, pls⟩ := p0
  simp only [qryA, polA, polsA, polsD, boolsD, linksD, segsD] at *
  generalize List.map encPol ps = pl at *
  generalize List.map encSeg list = sl at *
  generalize List.map encSeg pls = ql at *
  obtain ⟨nodes, ov, links⟩ := t
  simp only [topA, boolsD, linksD] at *
  generalize hol : ov.map encB = ol at *
  generalize hll : links.map encLk = ll at *
  have hlo : Λ ol = ov.length := by rw [Λo, ← hol]; simp
  have hls : Λ ll = links.length := by rw [Λo, ← hll]; simp
  clear hl40
  cases lg
  case true =>
    conv => cbv
    repeat' first | refine call_b haw rfl rfl ?_ ?_ | refine call_b hlg rfl rfl ?_ ?_ | (intro hc; cases hc; done) | (intro (_ : Unit); first | omega | rfl | exact ⟨rfl, by omega⟩ | (simp only [nI_eq]; omega) | ((repeat' first | rfl | omega | refine And.intro ?_ ?_ | (simp only [nI_eq]; omega) | exact Nat.le_of_ble_eq_true rfl); done)) | exact trivial | refine And.intro ?_ ?_ | (intro hc; exact absurd hc (by decide)) | (intro hc; exfalso; omega) | (intro hc; (first | rw [wrap_small (by omega) (by omega)] at hc | rw [nI_eq] at hc | skip); try (conv => cbv))
    all_goals exact hK
  have hf1 := hf1 rfl
  cases fs <;> cases pb
  all_goals conv => cbv
  all_goals repeat' first | refine call_b haw rfl rfl ?_ ?_ | refine call_b hlg rfl rfl ?_ ?_ | (intro hc; cases hc; done) | (refine call_r hf1 rfl rfl ?_; conv => cbv) | (refine call_r hf2 rfl rfl ?_; conv => cbv) | refine call_b hv1 rfl rfl ?_ ?_ | refine call_b hv2 rfl rfl ?_ ?_ | refine call_b hsp rfl rfl ?_ ?_ | (intro (_ : Unit); first | omega | rfl | exact ⟨rfl, by omega⟩ | (simp only [nI_eq]; omega) | ((repeat' first | rfl | omega | refine And.intro ?_ ?_ | (simp only [nI_eq]; omega) | exact Nat.le_of_ble_eq_true rfl); done)) | exact trivial | refine And.intro ?_ ?_ | (intro hc; exact absurd hc (by decide)) | (intro hc; exfalso; omega) | (intro hc; (first | rw [wrap_small (by omega) (by omega)] at hc | rw [nI_eq] at hc | skip); try (conv => cbv))
  all_goals exact hK

end Go.Ab

/-
  The statements of chapter 21, part c: expanding again, and expanding in parts.
-/
namespace Go.Ab
open Go.Proofs

def cnt4 (l : List Seg) : Nat := (l.filter fun s => decide (s.kind = 4)).length
def heavyQ (q : Qry) : Bool := q.ps.any (fun p => decide (cnt4 p.list > 3)) || decide (q.ps.length > 6)

theorem cnt4_take {l : List Seg} {k : Nat} {x : Seg} (h : l[k]? = some x) : cnt4 (l.take (k + 1)) = cnt4 (l.take k) + if x.kind = 4 then 1 else 0 := by
  unfold cnt4
  rw [take_succ_get h, List.filter_append, List.length_append]
  by_cases hx : x.kind = 4 <;> simp [hx]

theorem cnt4_le (l : List Seg) : cnt4 l ≤ l.length := List.length_filter_le _ _

set_option maxHeartbeats 4000000 in
theorem heavyQ_ok (P : Program) (hP : P = Try.prog) (q : Qry) : Ret P n_law21_heavy [qryA q] (bA (heavyQ q)) := by
  refine ret_start (hP ▸ mixed) (hP ▸ fn_law21_heavy) (hP ▸ c_law21_heavy) (Nat.le_of_ble_eq_true rfl) fun Λ Λo K hK => ?_
  clear hP
  have yes : (∃ p ∈ q.ps, cnt4 p.list > 3) → K (bA true) := fun h => by
    rw [show heavyQ q = true by
      simp only [heavyQ, Bool.or_eq_true, decide_eq_true_eq, List.any_eq_true]; exact .inl h] at hK
    exact hK
  have fin : (∀ p ∈ q.ps, cnt4 p.list ≤ 3) → ∀ b : Bool, (b = true ↔ 6 < q.ps.length) → K (bA b) := fun h b hb => by
    have : heavyQ q = b := by
      rw [Bool.eq_iff_iff, hb]
      simp only [heavyQ, Bool.or_eq_true, decide_eq_true_eq, List.any_eq_true]
      constructor
      · rintro (⟨p, hp, h'⟩ | h')
        · have := h p hp; omega
        · exact h'
      · exact .inr
    rw [this] at hK
    exact hK
  clear hK
  obtain ⟨t, ps, node, list⟩ := q
  simp only at yes fin
  simp only [qryA, boolsD, linksD, polsD, segsD] at *
  generalize slh : List.map encSeg list = sl at *
  have sln : Λ sl = list.length := by rw [Λo, ← slh]; simp
  generalize plh : List.map encPol ps = pl at *
  have pln : Λ pl = ps.length := by rw [Λo, ← plh]; simp
  obtain ⟨nodes, ov, links⟩ := t
  
  generalize hol : ov.map encB = ol at *
  generalize hll : links.map encLk = ll at *
  have hlo : Λ ol = ov.length := by rw [Λo, ← hol]; simp
  have hls : Λ ll = links.length := by rw [Λo, ← hll]; simp
  conv => cbv
  refine loop_up ps.length (fun (i : Int) => [(1, .c (.ptr 0 0 0 0)), (3, iA i)]) (fun _ => [.bx [.d (iD nodes), .d (.list false 1 ol), .d (.list false 7 ll), .d (.list false 3 pl), .d (iD node), .d (.list false 2 sl)]])
    (fun k i => i = k ∧ k ≤ ps.length ∧ ∀ p ∈ ps.take k, cnt4 p.list ≤ 3) 0 (Wk.cut ⟨_, rfl⟩ (Nat.zero_le _) rfl (by repeat' first | exact trivial | refine And.intro ?_ ?_ | rfl)) ⟨rfl, by omega, by simp⟩ (fun k s h => h.2.1) ?_
  rintro k i Q' ⟨hi, hk, hok⟩ norm ex rt
  by_cases hlt : k < ps.length
  · obtain ⟨x, hx⟩ : ∃ x, ps[k]? = some x := ⟨_, List.getElem?_eq_getElem hlt⟩
    have hxa := elt_at plh hi hx
    have hxm := List.mem_of_getElem? hx
    have hyes : cnt4 x.list > 3 → K (bA true) := fun h => yes ⟨x, hxm, h⟩
    have hnx : cnt4 x.list ≤ 3 → ∀ p ∈ ps.take (k + 1), cnt4 p.list ≤ 3 := fun h p hp => by
      rcases (mem_take_succ hx).1 hp with h' | h'
      · exact hok p h'
      · rw [h']; exact h
    obtain ⟨pn, pb, pls⟩ := x
    simp only [encPol, segsD] at hxa
    simp only at hyes hnx
    generalize qlh : List.map encSeg pls = ql at *
    have qln : Λ ql = pls.length := by rw [Λo, ← qlh]; simp
    have hcl := cnt4_le pls
    clear yes fin hok
    conv => cbv
    repeat' first | (refine ex _ _ _ ?_; (conv => cbv)) | (refine rt _ _ ?_; (conv => cbv)) | (intro (_ : Unit); first | omega | rfl | exact ⟨rfl, by omega⟩ | (simp only [nI_eq]; omega) | ((repeat' first | rfl | omega | refine And.intro ?_ ?_ | (simp only [nI_eq]; omega) | (simp only [List.length_cons, List.length_nil]; omega) | exact Nat.le_of_ble_eq_true rfl); done)) | exact trivial | refine And.intro ?_ ?_ | (intro hc; exact absurd hc (by decide)) | (intro hc; exfalso; omega) | (intro hc; (first | rw [wrap_small (by omega) (by omega)] at hc | rw [nI_eq] at hc | skip); try (conv => cbv))
    refine loop_upx pls.length (fun (s : Int × Int) => [(1, .c (.ptr 0 0 0 0)), (3, iA i), (4, iA s.1), (5, iA s.2)]) (fun _ => [.bx [.d (iD nodes), .d (.list false 1 ol), .d (.list false 7 ll), .d (.list false 3 pl), .d (iD node), .d (.list false 2 sl)]])
      (fun k s => s.2 = k ∧ k ≤ pls.length ∧ s.1 = cnt4 (pls.take k)) (0, 0) 2 (fun (s : Int) => [(1, .c (.ptr 0 0 0 0)), (3, iA i), (4, iA s)]) (fun _ => [.bx [.d (iD nodes), .d (.list false 1 ol), .d (.list false 7 ll), .d (.list false 3 pl), .d (iD node), .d (.list false 2 sl)]])
      (fun s => s = cnt4 pls) (Wk.cut ⟨_, rfl⟩ (Nat.zero_le _) rfl (by repeat' first | exact trivial | refine And.intro ?_ ?_ | rfl)) ⟨rfl, by omega, rfl⟩ (fun k s h => h.2.1) ?_ ?_
    · rintro j ⟨n, m⟩ Q2 ⟨hm, hj, hn⟩ norm2 jn2 ex2 rt2
      simp only at hm hn
      clear ex ex2 norm rt rt2
      by_cases hlt2 : j < pls.length
      · obtain ⟨y, hy⟩ : ∃ y, pls[j]? = some y := ⟨_, List.getElem?_eq_getElem hlt2⟩
        have hya := elt_at qlh hm hy
        have hct := cnt4_take hy
        have hcb := cnt4_le (pls.take j)
        simp only [List.length_take] at hcb
        obtain ⟨yk, yn⟩ := y
        simp only [encSeg] at hya
        simp only at hct
        conv => cbv
        repeat' first | (intro e he; cases Option.some.inj (he.symm.trans hxa); (conv => cbv)) | (intro e he; cases Option.some.inj (he.symm.trans hya); (conv => cbv)) | (intro (_ : Unit); first | omega | rfl | exact ⟨rfl, by omega⟩ | (simp only [nI_eq]; omega) | ((repeat' first | rfl | omega | refine And.intro ?_ ?_ | (simp only [nI_eq]; omega) | (simp only [List.length_cons, List.length_nil]; omega) | exact Nat.le_of_ble_eq_true rfl); done)) | exact trivial | refine And.intro ?_ ?_ | (intro hc; exact absurd hc (by decide)) | (intro hc; exfalso; omega) | (intro hc; (first | rw [wrap_small (by omega) (by omega)] at hc | rw [nI_eq] at hc | skip); try (conv => cbv))
        all_goals
          refine norm2 _ _ (_, _) ?_ (Wk.cut ⟨_, rfl⟩ (Nat.zero_le _) rfl (by repeat' first | exact trivial | refine And.intro ?_ ?_ | rfl))
          exact ⟨by simp only; omega, by omega, by simp only; split at hct <;> omega⟩
      · conv => cbv
        repeat' first | (intro e he; cases Option.some.inj (he.symm.trans hxa); (conv => cbv)) | (intro (_ : Unit); first | omega | rfl | exact ⟨rfl, by omega⟩ | (simp only [nI_eq]; omega) | ((repeat' first | rfl | omega | refine And.intro ?_ ?_ | (simp only [nI_eq]; omega) | (simp only [List.length_cons, List.length_nil]; omega) | exact Nat.le_of_ble_eq_true rfl); done)) | exact trivial | refine And.intro ?_ ?_ | (intro hc; exact absurd hc (by decide)) | (intro hc; exfalso; omega) | (intro hc; (first | rw [wrap_small (by omega) (by omega)] at hc | rw [nI_eq] at hc | skip); try (conv => cbv))
        refine jn2 _ _ n ?_ (Wk.cut ⟨_, rfl⟩ (Nat.zero_le _) rfl (by repeat' first | exact trivial | refine And.intro ?_ ?_ | rfl))
        rw [hn, List.take_of_length_le (by omega)]
    · rintro n hn
      conv => cbv
      repeat' first | (refine ex _ _ _ ?_; (conv => cbv)) | (refine rt _ _ ?_; (conv => cbv)) | (intro (_ : Unit); first | omega | rfl | exact ⟨rfl, by omega⟩ | (simp only [nI_eq]; omega) | ((repeat' first | rfl | omega | refine And.intro ?_ ?_ | (simp only [nI_eq]; omega) | (simp only [List.length_cons, List.length_nil]; omega) | exact Nat.le_of_ble_eq_true rfl); done)) | exact trivial | refine And.intro ?_ ?_ | (intro hc; exact absurd hc (by decide)) | (intro hc; exfalso; omega) | (intro hc; (first | rw [wrap_small (by omega) (by omega)] at hc | rw [nI_eq] at hc | skip); try (conv => cbv))
      · exact hyes (by omega)
      · refine norm _ _ _ ?_ (Wk.cut ⟨_, rfl⟩ (Nat.zero_le _) rfl (by repeat' first | exact trivial | refine And.intro ?_ ?_ | rfl))
        exact ⟨by omega, by omega, hnx (by omega)⟩
  · have hall : ∀ p ∈ ps, cnt4 p.list ≤ 3 := fun p hp => hok p (by rw [List.take_of_length_le (by omega)]; exact hp)
    conv => cbv
    repeat' first | (refine ex _ _ _ ?_; (conv => cbv)) | (refine rt _ _ ?_; (conv => cbv)) | (intro (_ : Unit); first | omega | rfl | exact ⟨rfl, by omega⟩ | (simp only [nI_eq]; omega) | ((repeat' first | rfl | omega | refine And.intro ?_ ?_ | (simp only [nI_eq]; omega) | (simp only [List.length_cons, List.length_nil]; omega) | exact Nat.le_of_ble_eq_true rfl); done)) | exact trivial | refine And.intro ?_ ?_ | (intro hc; exact absurd hc (by decide)) | (intro hc; exfalso; omega) | (intro hc; (first | rw [wrap_small (by omega) (by omega)] at hc | rw [nI_eq] at hc | skip); try (conv => cbv))
    · exact fin hall true ⟨fun _ => by omega, fun _ => rfl⟩
    · exact fin hall false ⟨(fun h => by cases h), fun h => by omega⟩

set_option maxHeartbeats 4000000 in
theorem againP_law (P : Program) (hP : P = Try.prog) (q : Qry) : Ret P n_law21_PolicyAgain [qryA q] (bA true) := by
  have haw : Ret P n_law21_awake [] (bA true) := hP ▸ awake_ok
  have hlg := largeQ_ok P hP q
  have hhv := heavyQ_ok P hP q
  have he1 := fun h1 h2 => expand_ok P hP q.t q.ps q.node q.list h1 h2
  have he2 := fun a h1 h2 => expand_ok P hP q.t q.ps q.node a h1 h2
  have he3 := fun a h1 h2 => expand_ok P hP q.t [] q.node a h1 h2
  have hsm := fun r => sameSegs_ok P hP r r
  have hll := @largeQ_no q
  obtain ⟨hg1, hg2⟩ := @expand_again q.t q.ps q.node q.list
  refine ret_start (hP ▸ mixed) (hP ▸ fn_law21_PolicyAgain) (hP ▸ c_law21_PolicyAgain) (Nat.le_of_ble_eq_true rfl) fun Λ Λo K hK => ?_
  clear hP
  obtain ⟨t, ps, node, list⟩ := q
  simp only at he1 he2 he3 hll hg1 hg2
  generalize largeQ _ = lg at *
  generalize heavyQ _ = hv at *
  cases lg
  case true =>
    clear he1 he2 he3 hsm hll hg1 hg2 hhv
    simp only [qryA, polsD, boolsD, linksD, segsD] at *
    generalize List.map encPol ps = pl at *
    generalize List.map encSeg list = sl at *
    obtain ⟨nodes, ov, links⟩ := t
  
    generalize hol : ov.map encB = ol at *
    generalize hll : links.map encLk = ll at *
    have hlo : Λ ol = ov.length := by rw [Λo, ← hol]; simp
    have hls : Λ ll = links.length := by rw [Λo, ← hll]; simp
    conv => cbv
    repeat' first | refine call_b haw rfl rfl ?_ ?_ | refine call_b hlg rfl rfl ?_ ?_ | (intro hc; cases hc; done) | (intro (_ : Unit); first | omega | rfl | exact ⟨rfl, by omega⟩ | (simp only [nI_eq]; omega) | ((repeat' first | rfl | omega | refine And.intro ?_ ?_ | (simp only [nI_eq]; omega) | (simp only [List.length_cons, List.length_nil]; omega) | exact Nat.le_of_ble_eq_true rfl); done)) | exact trivial | refine And.intro ?_ ?_ | (intro hc; exact absurd hc (by decide)) | (intro hc; exfalso; omega) | (intro hc; (first | rw [wrap_small (by omega) (by omega)] at hc | rw [nI_eq] at hc | skip); try (conv => cbv))
    all_goals exact hK
  cases hv
  case true =>
    clear he1 he2 he3 hsm hll hg1 hg2
    simp only [qryA, polsD, boolsD, linksD, segsD] at *
    generalize List.map encPol ps = pl at *
    generalize List.map encSeg list = sl at *
    obtain ⟨nodes, ov, links⟩ := t
  
    generalize hol : ov.map encB = ol at *
    generalize hll : links.map encLk = ll at *
    have hlo : Λ ol = ov.length := by rw [Λo, ← hol]; simp
    have hls : Λ ll = links.length := by rw [Λo, ← hll]; simp
    conv => cbv
    repeat' first | refine call_b haw rfl rfl ?_ ?_ | refine call_b hlg rfl rfl ?_ ?_ | refine call_b hhv rfl rfl ?_ ?_ | (intro hc; cases hc; done) | (intro (_ : Unit); first | omega | rfl | exact ⟨rfl, by omega⟩ | (simp only [nI_eq]; omega) | ((repeat' first | rfl | omega | refine And.intro ?_ ?_ | (simp only [nI_eq]; omega) | (simp only [List.length_cons, List.length_nil]; omega) | exact Nat.le_of_ble_eq_true rfl); done)) | exact trivial | refine And.intro ?_ ?_ | (intro hc; exact absurd hc (by decide)) | (intro hc; exfalso; omega) | (intro hc; (first | rw [wrap_small (by omega) (by omega)] at hc | rw [nI_eq] at hc | skip); try (conv => cbv))
    all_goals exact hK
  have hl := hll rfl
  have he1 := he1 (by omega) (by omega)
  generalize expandS t ps node list = x at *
  obtain ⟨a, e⟩ := x
  simp only at hg1 hg2
  by_cases h0 : e = 0
  · subst h0
    obtain ⟨ha1, ha2, ha3, ha4⟩ := hg2 rfl
    have he2 := he2 a (by omega) (by omega)
    have he3 := he3 a (by simp) (by omega)
    rw [ha3] at he2
    rw [ha4] at he3
    have hs := hsm a
    rw [decide_eq_true rfl] at hs
    clear hg1 hg2 hll hsm ha3 ha4
    simp only [qryA, expA, polsA, polsD, boolsD, linksD, segsA, segsD, List.map_nil] at *
    generalize List.map encPol ps = pl at *
    generalize List.map encSeg list = sl at *
    generalize alh : List.map encSeg a = al at *
    have aln : Λ al = a.length := by rw [Λo, ← alh]; simp
    obtain ⟨nodes, ov, links⟩ := t
    simp only [topA, boolsD, linksD] at *
    generalize hol : ov.map encB = ol at *
    generalize hll : links.map encLk = ll at *
    have hlo : Λ ol = ov.length := by rw [Λo, ← hol]; simp
    have hls : Λ ll = links.length := by rw [Λo, ← hll]; simp
    conv => cbv
    repeat' first | refine call_b haw rfl rfl ?_ ?_ | refine call_b hlg rfl rfl ?_ ?_ | refine call_b hhv rfl rfl ?_ ?_ | (intro hc; cases hc; done) | (refine call_r he1 rfl rfl ?_; conv => cbv) | (intro (_ : Unit); first | omega | rfl | exact ⟨rfl, by omega⟩ | (simp only [nI_eq]; omega) | ((repeat' first | rfl | omega | refine And.intro ?_ ?_ | (simp only [nI_eq]; omega) | (simp only [List.length_cons, List.length_nil]; omega) | exact Nat.le_of_ble_eq_true rfl); done)) | exact trivial | refine And.intro ?_ ?_ | (intro hc; exact absurd hc (by decide)) | (intro hc; exfalso; omega) | (intro hc; (first | rw [wrap_small (by omega) (by omega)] at hc | rw [nI_eq] at hc | skip); try (conv => cbv))
    refine loop_up a.length (fun (i : Int) => [(1, .c (.ptr 0 0 0 0)), (3, .c (.d (.list false 2 al))), (5, iA i)]) (fun _ => [.bx [.d (iD nodes), .d (.list false 1 ol), .d (.list false 7 ll), .d (.list false 3 pl), .d (iD node), .d (.list false 2 sl)]])
      (fun k i => i = k ∧ k ≤ a.length) 0 (Wk.cut ⟨_, rfl⟩ (Nat.zero_le _) rfl (by repeat' first | exact trivial | refine And.intro ?_ ?_ | rfl)) ⟨rfl, by omega⟩ (fun k s h => h.2) ?_
    rintro k i Q' ⟨hi, hk⟩ norm ex rt
    by_cases hlt : k < a.length
    · obtain ⟨x, hx⟩ : ∃ x, a[k]? = some x := ⟨_, List.getElem?_eq_getElem hlt⟩
      have hxa := elt_at alh hi hx
      have hx4 := ha2 x (List.mem_of_getElem? hx)
      obtain ⟨xk, xn⟩ := x
      simp only [encSeg] at hxa
      simp only at hx4
      conv => cbv
      repeat' first | (refine ex _ _ _ ?_; (conv => cbv)) | (refine rt _ _ ?_; (conv => cbv)) | (intro e he; cases Option.some.inj (he.symm.trans hxa); (conv => cbv)) | (intro (_ : Unit); first | omega | rfl | exact ⟨rfl, by omega⟩ | (simp only [nI_eq]; omega) | ((repeat' first | rfl | omega | refine And.intro ?_ ?_ | (simp only [nI_eq]; omega) | (simp only [List.length_cons, List.length_nil]; omega) | exact Nat.le_of_ble_eq_true rfl); done)) | exact trivial | refine And.intro ?_ ?_ | (intro hc; exact absurd hc (by decide)) | (intro hc; exfalso; omega) | (intro hc; (first | rw [wrap_small (by omega) (by omega)] at hc | rw [nI_eq] at hc | skip); try (conv => cbv))
      refine norm _ _ _ ?_ (Wk.cut ⟨_, rfl⟩ (Nat.zero_le _) rfl (by repeat' first | exact trivial | refine And.intro ?_ ?_ | rfl))
      exact ⟨by omega, by omega⟩
    · conv => cbv
      repeat' first | (refine ex _ _ _ ?_; (conv => cbv)) | (refine rt _ _ ?_; (conv => cbv)) | (refine call_r he2 rfl rfl ?_; conv => cbv) | (refine call_r he3 rfl rfl ?_; conv => cbv) | refine call_b hs rfl rfl ?_ ?_ | (intro hc; cases hc; done) | (intro (_ : Unit); first | omega | rfl | exact ⟨rfl, by omega⟩ | (simp only [nI_eq]; omega) | ((repeat' first | rfl | omega | refine And.intro ?_ ?_ | (simp only [nI_eq]; omega) | (simp only [List.length_cons, List.length_nil]; omega) | exact Nat.le_of_ble_eq_true rfl); done)) | exact trivial | refine And.intro ?_ ?_ | (intro hc; exact absurd hc (by decide)) | (intro hc; exfalso; omega) | (intro hc; (first | rw [wrap_small (by omega) (by omega)] at hc | rw [nI_eq] at hc | skip); try (conv => cbv))
      all_goals exact hK
  · obtain rfl := hg1 h0
    clear he2 he3 hg1 hg2 hll hsm
    have r0 := Λo []
    simp only [qryA, expA, polsA, polsD, boolsD, linksD, segsA, segsD, List.map_nil, List.length_nil] at *
    generalize List.map encPol ps = pl at *
    generalize List.map encSeg list = sl at *
    obtain ⟨nodes, ov, links⟩ := t
    simp only [topA, boolsD, linksD] at *
    generalize hol : ov.map encB = ol at *
    generalize hll : links.map encLk = ll at *
    have hlo : Λ ol = ov.length := by rw [Λo, ← hol]; simp
    have hls : Λ ll = links.length := by rw [Λo, ← hll]; simp
    conv => cbv
    repeat' first | refine call_b haw rfl rfl ?_ ?_ | refine call_b hlg rfl rfl ?_ ?_ | refine call_b hhv rfl rfl ?_ ?_ | (intro hc; cases hc; done) | (refine call_r he1 rfl rfl ?_; conv => cbv) | (intro (_ : Unit); first | omega | rfl | exact ⟨rfl, by omega⟩ | (simp only [nI_eq]; omega) | ((repeat' first | rfl | omega | refine And.intro ?_ ?_ | (simp only [nI_eq]; omega) | (simp only [List.length_cons, List.length_nil]; omega) | exact Nat.le_of_ble_eq_true rfl); done)) | exact trivial | refine And.intro ?_ ?_ | (intro hc; exact absurd hc (by decide)) | (intro hc; exfalso; omega) | (intro hc; (first | rw [wrap_small (by omega) (by omega)] at hc | rw [nI_eq] at hc | skip); try (conv => cbv))
    all_goals exact hK

set_option maxHeartbeats 4000000 in
theorem partsP_law (P : Program) (hP : P = Try.prog) (q : Qry) (at' : Int) : Ret P n_law21_PolicyParts [qryA q, iA at'] (bA true) := by
  have haw : Ret P n_law21_awake [] (bA true) := hP ▸ awake_ok
  have hlg := largeQ_ok P hP q
  have hhv := heavyQ_ok P hP q
  have he1 := fun h1 h2 => expand_ok P hP q.t q.ps q.node q.list h1 h2
  have he2 := fun a h1 h2 => expand_ok P hP q.t q.ps q.node a h1 h2
  have he3 := fun n a h1 h2 => expand_ok P hP q.t q.ps n a h1 h2
  have hsm := fun r s => sameSegs_ok P hP r s
  have hll := @largeQ_no q
  have hparts := fun k s => @expand_parts q.t q.ps q.node q.list k s
  refine ret_start (hP ▸ mixed) (hP ▸ fn_law21_PolicyParts) (hP ▸ c_law21_PolicyParts) (Nat.le_of_ble_eq_true rfl) fun Λ Λo K hK => ?_
  clear hP
  obtain ⟨t, ps, node, list⟩ := q
  simp only at he1 he2 he3 hll hparts
  generalize largeQ _ = lg at *
  generalize heavyQ _ = hv at *
  cases lg
  case true =>
    clear he1 he2 he3 hsm hll hparts hhv
    simp only [qryA, polsD, boolsD, linksD, segsD] at *
    generalize List.map encPol ps = pl at *
    generalize List.map encSeg list = sl at *
    obtain ⟨nodes, ov, links⟩ := t
  
    generalize hol : ov.map encB = ol at *
    generalize hll : links.map encLk = ll at *
    have hlo : Λ ol = ov.length := by rw [Λo, ← hol]; simp
    have hls : Λ ll = links.length := by rw [Λo, ← hll]; simp
    conv => cbv
    repeat' first | refine call_b haw rfl rfl ?_ ?_ | refine call_b hlg rfl rfl ?_ ?_ | (intro hc; cases hc; done) | (intro (_ : Unit); first | omega | rfl | exact ⟨rfl, by omega⟩ | (simp only [nI_eq]; omega) | ((repeat' first | rfl | omega | refine And.intro ?_ ?_ | (simp only [nI_eq]; omega) | (simp only [List.length_cons, List.length_nil]; omega) | exact Nat.le_of_ble_eq_true rfl); done)) | exact trivial | refine And.intro ?_ ?_ | (intro hc; exact absurd hc (by decide)) | (intro hc; exfalso; omega) | (intro hc; (first | rw [wrap_small (by omega) (by omega)] at hc | rw [nI_eq] at hc | skip); try (conv => cbv))
    all_goals exact hK
  cases hv
  case true =>
    clear he1 he2 he3 hsm hll hparts
    simp only [qryA, polsD, boolsD, linksD, segsD] at *
    generalize List.map encPol ps = pl at *
    generalize List.map encSeg list = sl at *
    obtain ⟨nodes, ov, links⟩ := t
  
    generalize hol : ov.map encB = ol at *
    generalize hll : links.map encLk = ll at *
    have hlo : Λ ol = ov.length := by rw [Λo, ← hol]; simp
    have hls : Λ ll = links.length := by rw [Λo, ← hll]; simp
    conv => cbv
    repeat' first | refine call_b haw rfl rfl ?_ ?_ | refine call_b hlg rfl rfl ?_ ?_ | refine call_b hhv rfl rfl ?_ ?_ | (intro hc; cases hc; done) | (intro (_ : Unit); first | omega | rfl | exact ⟨rfl, by omega⟩ | (simp only [nI_eq]; omega) | ((repeat' first | rfl | omega | refine And.intro ?_ ?_ | (simp only [nI_eq]; omega) | (simp only [List.length_cons, List.length_nil]; omega) | exact Nat.le_of_ble_eq_true rfl); done)) | exact trivial | refine And.intro ?_ ?_ | (intro hc; exact absurd hc (by decide)) | (intro hc; exfalso; omega) | (intro hc; (first | rw [wrap_small (by omega) (by omega)] at hc | rw [nI_eq] at hc | skip); try (conv => cbv))
    all_goals exact hK
  have hl := hll rfl
  by_cases hin : 0 ≤ at' ∧ at' < list.length
  case neg =>
    clear he1 he2 he3 hsm hll hparts
    simp only [qryA, polsD, boolsD, linksD, segsD] at *
    generalize List.map encPol ps = pl at *
    generalize slh : List.map encSeg list = sl at *
    have sln : Λ sl = list.length := by rw [Λo, ← slh]; simp
    obtain ⟨nodes, ov, links⟩ := t
  
    generalize hol : ov.map encB = ol at *
    generalize hll : links.map encLk = ll at *
    have hlo : Λ ol = ov.length := by rw [Λo, ← hol]; simp
    have hls : Λ ll = links.length := by rw [Λo, ← hll]; simp
    conv => cbv
    repeat' first | refine call_b haw rfl rfl ?_ ?_ | refine call_b hlg rfl rfl ?_ ?_ | refine call_b hhv rfl rfl ?_ ?_ | (intro hc; cases hc; done) | (intro (_ : Unit); first | omega | rfl | exact ⟨rfl, by omega⟩ | (simp only [nI_eq]; omega) | ((repeat' first | rfl | omega | refine And.intro ?_ ?_ | (simp only [nI_eq]; omega) | (simp only [List.length_cons, List.length_nil]; omega) | exact Nat.le_of_ble_eq_true rfl); done)) | exact trivial | refine And.intro ?_ ?_ | (intro hc; exact absurd hc (by decide)) | (intro hc; exfalso; omega) | (intro hc; (first | rw [wrap_small (by omega) (by omega)] at hc | rw [nI_eq] at hc | skip); try (conv => cbv))
    all_goals exact hK
  obtain ⟨k, rfl⟩ : ∃ k : Nat, at' = k := ⟨at'.toNat, by omega⟩
  obtain ⟨s, hs⟩ : ∃ s, list[k]? = some s := ⟨_, List.getElem?_eq_getElem (by omega)⟩
  by_cases hk1 : s.kind = 1
  case neg =>
    clear he1 he2 he3 hsm hll hparts
    obtain ⟨sk, sn⟩ := s
    simp only at hk1
    simp only [qryA, polsD, boolsD, linksD, segsD] at *
    generalize List.map encPol ps = pl at *
    generalize slh : List.map encSeg list = sl at *
    have sln : Λ sl = list.length := by rw [Λo, ← slh]; simp
    have hxa := elt_at slh rfl hs
    simp only [encSeg] at hxa
    generalize (k : Int) = ki at *
    obtain ⟨nodes, ov, links⟩ := t
  
    generalize hol : ov.map encB = ol at *
    generalize hll : links.map encLk = ll at *
    have hlo : Λ ol = ov.length := by rw [Λo, ← hol]; simp
    have hls : Λ ll = links.length := by rw [Λo, ← hll]; simp
    conv => cbv
    repeat' first | refine call_b haw rfl rfl ?_ ?_ | refine call_b hlg rfl rfl ?_ ?_ | refine call_b hhv rfl rfl ?_ ?_ | (intro hc; cases hc; done) | (intro e he; cases Option.some.inj (he.symm.trans hxa); (conv => cbv)) | (intro (_ : Unit); first | omega | rfl | exact ⟨rfl, by omega⟩ | (simp only [nI_eq]; omega) | ((repeat' first | rfl | omega | refine And.intro ?_ ?_ | (simp only [nI_eq]; omega) | (simp only [List.length_cons, List.length_nil]; omega) | exact Nat.le_of_ble_eq_true rfl); done)) | exact trivial | refine And.intro ?_ ?_ | (intro hc; exact absurd hc (by decide)) | (intro hc; exfalso; omega) | (intro hc; (first | rw [wrap_small (by omega) (by omega)] at hc | rw [nI_eq] at hc | skip); try (conv => cbv))
    all_goals exact hK
  obtain ⟨hA, hB⟩ := hparts k s hs hk1
  have hlen : ∀ n (l : List Seg), (expandS t ps n l).1.length ≤ 32 := fun n l => by
    obtain ⟨h1, h2⟩ := @expand_again t ps n l
    by_cases h : (expandS t ps n l).2 = 0
    · exact (h2 h).1
    · rw [h1 h]; simp
  have hbl := hlen node (list.take (k + 1))
  have hcl := hlen s.num (list.drop (k + 1))
  clear hlen
  have he1 := he1 (by omega) (by omega)
  have he2 := he2 (list.take (k + 1)) (by omega) (by simp; omega)
  have he3 := he3 s.num (list.drop (k + 1)) (by omega) (by simp; omega)
  generalize expandS t ps node list = x at *
  generalize expandS t ps node (list.take (k + 1)) = y at *
  generalize expandS t ps s.num (list.drop (k + 1)) = z at *
  obtain ⟨a, e⟩ := x
  obtain ⟨b, f⟩ := y
  obtain ⟨c, g⟩ := z
  simp only at hA hB hbl hcl
  have hB1 : ¬ (e = 1 ∨ e = 2 ∨ f ≠ 0) → g ≠ 0 ∨ b.length + c.length > 32 → e = g ∨ e = 6 := fun h => (hB h).2.2.1
  have hB2 : ¬ (e = 1 ∨ e = 2 ∨ f ≠ 0) → ¬ (g ≠ 0 ∨ b.length + c.length > 32) → e = 0 := fun h h' => ((hB h).2.2.2 h').1
  have hB3 : ¬ (e = 1 ∨ e = 2 ∨ f ≠ 0) → ¬ (g ≠ 0 ∨ b.length + c.length > 32) → a = b ++ c := fun h h' => ((hB h).2.2.2 h').2
  clear hparts hll hB
  have hsx := hsm a (b ++ c)
  clear hsm
  obtain ⟨sk, sn⟩ := s
  simp only at hk1 he3
  subst hk1
  simp only [qryA, expA, topA, polsA, polsD, boolsD, linksD, segsA, segsD] at *
  generalize List.map encPol ps = pl at *
  have tk : ∀ c : Int, c = k + 1 → List.take c.toNat (List.map encSeg list) = List.map encSeg (list.take (k + 1)) := fun c h => by rw [List.map_take]; congr; omega
  have dk : ∀ c : Int, c = k + 1 → List.drop c.toNat (List.map encSeg list) = List.map encSeg (list.drop (k + 1)) := fun c h => by rw [List.map_drop]; congr; omega
  generalize List.map encSeg (list.take (k + 1)) = lt at *
  generalize List.map encSeg (list.drop (k + 1)) = ld at *
  generalize slh : List.map encSeg list = sl at *
  have sln : Λ sl = list.length := by rw [Λo, ← slh]; simp
  have hxa := elt_at slh rfl hs
  simp only [encSeg] at hxa
  rw [List.map_append] at hsx
  have hdd : Hid (¬ (e = 1 ∨ e = 2 ∨ f ≠ 0) → ¬ (g ≠ 0 ∨ b.length + c.length > 32) → decide (a = b ++ c) = true) := fun h h' => decide_eq_true (hB3 h h')
  clear hB3
  generalize decide (a = b ++ c) = dd at *
  generalize List.map encSeg a = al at *
  generalize blh : List.map encSeg b = bl at *
  have bln : Λ bl = b.length := by rw [Λo, ← blh]; simp
  generalize clh : List.map encSeg c = cl at *
  have cln : Λ cl = c.length := by rw [Λo, ← clh]; simp
  have bll : bl.length = b.length := by rw [← blh]; simp
  have cll : cl.length = c.length := by rw [← clh]; simp
  generalize (k : Int) = ki at *
  obtain ⟨nodes, ov, links⟩ := t
  
  generalize hol : ov.map encB = ol at *
  generalize hll : links.map encLk = ll at *
  have hlo : Λ ol = ov.length := by rw [Λo, ← hol]; simp
  have hls : Λ ll = links.length := by rw [Λo, ← hll]; simp
  replace hA : Hid _ := hA
  replace hB1 : Hid _ := hB1
  replace hB2 : Hid _ := hB2
  conv => cbv
  repeat' first | refine call_b haw rfl rfl ?_ ?_ | refine call_b hlg rfl rfl ?_ ?_ | refine call_b hhv rfl rfl ?_ ?_ | (intro hc; cases hc; done) | (intro e he; cases Option.some.inj (he.symm.trans hxa); (conv => cbv)) | (intro (x : List (List D)) hx; rw [tk _ (by omega)] at hx; subst hx; (conv => cbv)) | (intro (x : List (List D)) hx; rw [dk _ (by omega)] at hx; subst hx; (conv => cbv)) | (refine call_r he1 rfl rfl ?_; conv => cbv) | (refine call_r he2 rfl rfl ?_; conv => cbv) | (refine call_r he3 rfl rfl ?_; conv => cbv) | (intro (_ : Unit); first | omega | rfl | exact ⟨rfl, by omega⟩ | (simp only [nI_eq]; omega) | ((repeat' first | rfl | omega | refine And.intro ?_ ?_ | (simp only [nI_eq]; omega) | (simp only [List.length_cons, List.length_nil]; omega) | exact Nat.le_of_ble_eq_true rfl); done)) | exact trivial | refine And.intro ?_ ?_ | (intro hc; exact absurd hc (by decide)) | (intro hc; exfalso; omega) | (intro hc; (first | rw [wrap_small (by omega) (by omega)] at hc | rw [nI_eq] at hc | skip); try (conv => cbv))
  all_goals try (first | exact hK | (exfalso; have := hA.out; omega) | (exfalso; have := hB1.out; omega) | (exfalso; have := hB2.out; omega))
  rename_i n1 r1 es1 hn1 hr1 hes1 n2 r2 es2 hn2 hr2
  have e1 : es1 = bl := by rw [hes1]; simp
  have e2 : List.take n2 (List.drop 0 es2) = bl ++ cl := by
    rw [hc, e1, List.drop_zero, List.drop_zero, List.take_of_length_le (l := bl) (by omega), List.take_of_length_le]
    simp only [List.length_append]
    omega
  have hdt : dd = true := hdd.out (by omega) (by omega)
  subst hdt
  refine look_b (vargs := [.c (.d (.list false 2 al)), .c (.d (.list false 2 (bl ++ cl)))]) hsx (by rw [← e2]; rfl) (fun _ => ?_) fun h => by cases h
  conv => cbv
  exact hK

end Go.Ab

/-
  The statements of chapter 21, part d: the expansion against the document's.
-/
namespace Go.Ab
open Go.Proofs

set_option maxHeartbeats 4000000 in
theorem expandP_law (P : Program) (hP : P = Try.prog) (q : Qry) : Ret P n_law21_PolicyExpand [qryA q] (bA true) := by
  have haw : Ret P n_law21_awake [] (bA true) := hP ▸ awake_ok
  have hlg := largeQ_ok P hP q
  have hhv := heavyQ_ok P hP q
  have he1 := fun h1 h2 => expand_ok P hP q.t q.ps q.node q.list h1 h2
  have he2 := fun h1 => rexpand_ok P hP q.t q.ps q.node q.list h1
  have hsm := fun r => sameSegs_ok P hP r r
  have hll := @largeQ_no q
  refine ret_start (hP ▸ mixed) (hP ▸ fn_law21_PolicyExpand) (hP ▸ c_law21_PolicyExpand) (Nat.le_of_ble_eq_true rfl) fun Λ Λo K hK => ?_
  clear hP
  obtain ⟨t, ps, node, list⟩ := q
  simp only at he1 he2 hll
  generalize largeQ _ = lg at *
  generalize heavyQ _ = hv at *
  cases lg
  case true =>
    clear he1 he2 hsm hll hhv
    simp only [qryA, polsD, boolsD, linksD, segsD] at *
    generalize List.map encPol ps = pl at *
    generalize List.map encSeg list = sl at *
    obtain ⟨nodes, ov, links⟩ := t
  
    generalize hol : ov.map encB = ol at *
    generalize hll : links.map encLk = ll at *
    have hlo : Λ ol = ov.length := by rw [Λo, ← hol]; simp
    have hls : Λ ll = links.length := by rw [Λo, ← hll]; simp
    conv => cbv
    repeat' first | refine call_b haw rfl rfl ?_ ?_ | refine call_b hlg rfl rfl ?_ ?_ | (intro hc; cases hc; done) | (intro (_ : Unit); first | omega | rfl | exact ⟨rfl, by omega⟩ | (simp only [nI_eq]; omega) | ((repeat' first | rfl | omega | refine And.intro ?_ ?_ | (simp only [nI_eq]; omega) | (simp only [List.length_cons, List.length_nil]; omega) | exact Nat.le_of_ble_eq_true rfl); done)) | exact trivial | refine And.intro ?_ ?_ | (intro hc; exact absurd hc (by decide)) | (intro hc; exfalso; omega) | (intro hc; (first | rw [wrap_small (by omega) (by omega)] at hc | rw [nI_eq] at hc | skip); try (conv => cbv))
    all_goals exact hK
  cases hv
  case true =>
    clear he1 he2 hsm hll
    simp only [qryA, polsD, boolsD, linksD, segsD] at *
    generalize List.map encPol ps = pl at *
    generalize List.map encSeg list = sl at *
    obtain ⟨nodes, ov, links⟩ := t
  
    generalize hol : ov.map encB = ol at *
    generalize hll : links.map encLk = ll at *
    have hlo : Λ ol = ov.length := by rw [Λo, ← hol]; simp
    have hls : Λ ll = links.length := by rw [Λo, ← hll]; simp
    conv => cbv
    repeat' first | refine call_b haw rfl rfl ?_ ?_ | refine call_b hlg rfl rfl ?_ ?_ | refine call_b hhv rfl rfl ?_ ?_ | (intro hc; cases hc; done) | (intro (_ : Unit); first | omega | rfl | exact ⟨rfl, by omega⟩ | (simp only [nI_eq]; omega) | ((repeat' first | rfl | omega | refine And.intro ?_ ?_ | (simp only [nI_eq]; omega) | (simp only [List.length_cons, List.length_nil]; omega) | exact Nat.le_of_ble_eq_true rfl); done)) | exact trivial | refine And.intro ?_ ?_ | (intro hc; exact absurd hc (by decide)) | (intro hc; exfalso; omega) | (intro hc; (first | rw [wrap_small (by omega) (by omega)] at hc | rw [nI_eq] at hc | skip); try (conv => cbv))
    all_goals exact hK
  have hl := hll rfl
  have he1 := he1 (by omega) (by omega)
  have he2 := he2 (by omega)
  generalize expandS t ps node list = x at *
  obtain ⟨a, e⟩ := x
  have hs := hsm a
  rw [decide_eq_true rfl] at hs
  clear hll hsm
  simp only [qryA, expA, polsA, polsD, boolsD, linksD, segsA, segsD] at *
  generalize List.map encPol ps = pl at *
  generalize List.map encSeg list = sl at *
  generalize List.map encSeg a = al at *
  obtain ⟨nodes, ov, links⟩ := t
  simp only [topA, boolsD, linksD] at *
  generalize hol : ov.map encB = ol at *
  generalize hll : links.map encLk = ll at *
  have hlo : Λ ol = ov.length := by rw [Λo, ← hol]; simp
  have hls : Λ ll = links.length := by rw [Λo, ← hll]; simp
  conv => cbv
  repeat' first | refine call_b haw rfl rfl ?_ ?_ | refine call_b hlg rfl rfl ?_ ?_ | refine call_b hhv rfl rfl ?_ ?_ | (intro hc; cases hc; done) | (refine call_r he1 rfl rfl ?_; conv => cbv) | (refine call_r he2 rfl rfl ?_; conv => cbv) | refine call_b hs rfl rfl ?_ ?_ | (intro (_ : Unit); first | omega | rfl | exact ⟨rfl, by omega⟩ | (simp only [nI_eq]; omega) | ((repeat' first | rfl | omega | refine And.intro ?_ ?_ | (simp only [nI_eq]; omega) | (simp only [List.length_cons, List.length_nil]; omega) | exact Nat.le_of_ble_eq_true rfl); done)) | exact trivial | refine And.intro ?_ ?_ | (intro hc; exact absurd hc (by decide)) | (intro hc; exfalso; omega) | (intro hc; (first | rw [wrap_small (by omega) (by omega)] at hc | rw [nI_eq] at hc | skip); try (conv => cbv))
  all_goals first | exact hK | (exfalso; omega)

end Go.Ab

