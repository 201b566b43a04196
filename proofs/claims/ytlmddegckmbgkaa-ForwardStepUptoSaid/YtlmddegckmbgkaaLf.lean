/-
  Contracts, part f: entries and tables.
-/
import Derived.Test.YtlmddegckmbgkaaLe
namespace Go.Ab
open Go.Proofs

def entB (t : Top) (n d : Int) (e : Ety) : Bool :=
  outB t n e.arcs && !(decide (d = n) && decide (0 < e.arcs.length)) && (if e.rep then decide (e.arcs.length = 1 ∧ e.push.length ≤ 32) else decide (e.push.length = 0)) && e.push.all (segB t)

theorem entB_spec {t : Top} {n d : Int} {e : Ety} : entB t n d e = true ↔
    outB t n e.arcs = true ∧ ¬ (d = n ∧ 0 < e.arcs.length) ∧ (e.rep = true → e.arcs.length = 1 ∧ e.push.length ≤ 32) ∧ (e.rep = false → e.push.length = 0) ∧ ∀ s ∈ e.push, segB t s = true := by
  cases h : e.rep <;> simp only [entB, h, Bool.and_eq_true, List.all_eq_true, and_assoc, Bool.not_eq_true', Bool.and_eq_false_iff, decide_eq_false_iff_not, decide_eq_true_eq, if_true, if_false, Bool.false_eq_true, false_implies, true_and, forall_const, Classical.not_and_iff_not_or_not, reduceCtorEq]

def tabB (t : Top) (x : Tab) : Bool :=
  validT t && decide (0 ≤ x.node ∧ x.node < t.nodes) && decide ((x.to.length : Int) = t.nodes) && outB t x.node x.down && (List.range x.to.length).all fun d => entB t x.node d (x.to.getD d default)

theorem tabB_spec {t : Top} {x : Tab} : tabB t x = true ↔ validT t = true ∧ (0 ≤ x.node ∧ x.node < t.nodes) ∧ (x.to.length : Int) = t.nodes ∧ outB t x.node x.down = true ∧ ∀ (i : Nat) (e : Ety), x.to[i]? = some e → entB t x.node i e = true := by
  simp only [tabB, Bool.and_eq_true, decide_eq_true_eq, List.all_eq_true, List.mem_range, and_assoc]
  constructor
  · rintro ⟨h1, h2, h3, h4, h5, h6⟩
    refine ⟨h1, h2, h3, h4, h5, fun i e he => ?_⟩
    have := h6 i (get_lt he)
    rw [getD_at he] at this
    exact this
  · rintro ⟨h1, h2, h3, h4, h5, h6⟩
    exact ⟨h1, h2, h3, h4, h5, fun i hi => h6 i _ (by simp [List.getD, List.getElem?_eq_getElem hi])⟩

theorem proper_ok (P : Program) (hP : P = Try.prog) (t : Top) (e : Ety) (n d : Int) (hv : validT t = true) (hn0 : 0 ≤ n) : Ret P n_table_proper [topA t, entA e, iA n, iA d] (bA (entB t n d e)) := by
  refine ret_start (hP ▸ mixed) (hP ▸ fn_table_proper) (hP ▸ c_table_proper) (Nat.le_of_ble_eq_true rfl) fun Λ Λo K hK => ?_
  have h256 := (validT_spec.1 hv).2.2.1
  have hl := leaving_ok P hP t n e.arcs hv hn0
  have hg := fun s => gseg_ok P hP t s h256
  clear hP
  have yes : (outB t n e.arcs = true ∧ ¬ (d = n ∧ 0 < e.arcs.length) ∧ (e.rep = true → e.arcs.length = 1 ∧ e.push.length ≤ 32) ∧ (e.rep = false → e.push.length = 0) ∧ ∀ s ∈ e.push, segB t s = true) → K (bA true) := fun h => by
    rw [entB_spec.2 h] at hK; exact hK
  have no : ¬ (outB t n e.arcs = true ∧ ¬ (d = n ∧ 0 < e.arcs.length) ∧ (e.rep = true → e.arcs.length = 1 ∧ e.push.length ≤ 32) ∧ (e.rep = false → e.push.length = 0) ∧ ∀ s ∈ e.push, segB t s = true) → K (bA false) := fun h => by
    rw [show entB t n d e = false from Bool.eq_false_iff.2 fun h' => h (entB_spec.1 h')] at hK; exact hK
  clear hK hv
  obtain ⟨arcs, rep, push⟩ := e
  simp only [entA, intsA, intsD, segsD, segA] at *
  generalize outB t n arcs = ob at *
  generalize segB t = sb at *
  generalize alh : List.map encI arcs = al at *
  have aln : Λ al = arcs.length := by rw [Λo, ← alh]; simp
  generalize plh : List.map encSeg push = pl at *
  have pln : Λ pl = push.length := by rw [Λo, ← plh]; simp
  obtain ⟨nodes, ov, links⟩ := t
  simp only [topA, boolsD, linksD] at *
  generalize hol : ov.map encB = ol at *
  generalize hll : links.map encLk = ll at *
  have hlo : Λ ol = ov.length := by rw [Λo, ← hol]; simp
  have hls : Λ ll = links.length := by rw [Λo, ← hll]; simp
  cases rep
  all_goals
    conv => cbv
    repeat' first | refine call_b hl rfl rfl ?_ ?_ | (intro (_ : Unit); first | omega | rfl | exact ⟨rfl, by omega⟩ | (simp only [nI_eq]; omega) | ((repeat' first | rfl | omega | refine And.intro ?_ ?_ | (simp only [nI_eq]; omega) | exact Nat.le_of_ble_eq_true rfl); done)) | exact trivial | refine And.intro ?_ ?_ | (intro hc; exact absurd hc (by decide)) | (intro hc; exfalso; omega) | (intro hc; (first | rw [wrap_small (by omega) (by omega)] at hc | rw [nI_eq] at hc | skip); try (conv => cbv))
  all_goals try (refine no fun h => ?_; obtain ⟨h1, h2, h3, h4, _⟩ := h; first | omega | (have := h3 rfl; omega) | (have := h4 rfl; omega) | (rw [h1] at hc; cases hc))
  all_goals try (refine yes ⟨by assumption, by omega, (by simp), by intro _; omega, ?_⟩; obtain rfl : push = [] := List.eq_nil_of_length_eq_zero (by omega); simp)
  all_goals
    refine loop_up push.length (fun (i : Int) => [(4, .c (.ptr 0 0 0 0)), (46, .c (.d (.list false 2 pl))), (47, iA (Λ pl)), (48, iA i)]) (fun _ => [.bx [.d (.int .i64 nodes), .d (.list false 1 ol), .d (.list false 7 ll)]]) (fun k i => i = k ∧ k ≤ push.length ∧ ∀ s ∈ push.take k, sb s = true) 0 (Wk.cut ⟨_, rfl⟩ (Nat.zero_le _) rfl (by repeat' first | exact trivial | refine And.intro ?_ ?_ | rfl)) ⟨rfl, by omega, by simp⟩ (fun k s h => h.2.1) ?_
    rintro k i Q' ⟨hi, hk, hok⟩ norm ex rt
    by_cases hlt : k < push.length
    · obtain ⟨x, hx⟩ : ∃ x, push[k]? = some x := ⟨_, List.getElem?_eq_getElem hlt⟩
      have hxa := elt_at plh hi hx
      obtain ⟨xk, xn⟩ := x
      have hgx := hg ⟨xk, xn⟩
      conv => cbv
      repeat' first | (refine ex _ _ _ ?_; (conv => cbv)) | (refine rt _ _ ?_; (conv => cbv)) | refine call_b hgx rfl rfl ?_ ?_ | (intro e he; cases Option.some.inj (he.symm.trans hxa); (conv => cbv)) | (intro (_ : Unit); first | omega | rfl | exact ⟨rfl, by omega⟩ | (simp only [nI_eq]; omega) | ((repeat' first | rfl | omega | refine And.intro ?_ ?_ | (simp only [nI_eq]; omega) | exact Nat.le_of_ble_eq_true rfl); done)) | exact trivial | refine And.intro ?_ ?_ | (intro hc; exact absurd hc (by decide)) | (intro hc; exfalso; omega) | (intro hc; (first | rw [wrap_small (by omega) (by omega)] at hc | rw [nI_eq] at hc | skip); try (conv => cbv))
      · refine norm _ _ _ ?_ (Wk.cut ⟨_, rfl⟩ (Nat.zero_le _) rfl (by repeat' first | exact trivial | refine And.intro ?_ ?_ | rfl))
        refine ⟨by omega, by omega, fun s hs => ?_⟩
        rw [take_succ_get hx] at hs
        rcases List.mem_append.1 hs with hs | hs
        · exact hok s hs
        · simp only [List.mem_singleton] at hs; subst hs; assumption
      · refine no fun h => ?_
        have := h.2.2.2.2 _ (List.mem_of_getElem? hx)
        rw [this] at hc; cases hc
    · conv => cbv
      repeat' first | (refine ex _ _ _ ?_; (conv => cbv)) | (refine rt _ _ ?_; (conv => cbv)) | (intro (_ : Unit); first | omega | rfl | exact ⟨rfl, by omega⟩ | (simp only [nI_eq]; omega) | ((repeat' first | rfl | omega | refine And.intro ?_ ?_ | (simp only [nI_eq]; omega) | exact Nat.le_of_ble_eq_true rfl); done)) | exact trivial | refine And.intro ?_ ?_ | (intro hc; exact absurd hc (by decide)) | (intro hc; exfalso; omega) | (intro hc; (first | rw [wrap_small (by omega) (by omega)] at hc | rw [nI_eq] at hc | skip); try (conv => cbv))
      refine yes ⟨by assumption, by omega, fun _ => by omega, by simp, ?_⟩
      rw [List.take_of_length_le (by omega)] at hok; exact hok
end Go.Ab
