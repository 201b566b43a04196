/-
  Contracts, part g: tables.
-/
import Derived.Test.YtlmddegckmbgkaaLf
namespace Go.Ab
open Go.Proofs

theorem tableValid_ok (P : Program) (hP : P = Try.prog) (t : Top) (x : Tab) : Ret P n_table_Valid [topA t, tabA x] (bA (tabB t x)) := by
  refine ret_start (hP ▸ mixed) (hP ▸ fn_table_Valid) (hP ▸ c_table_Valid) (Nat.le_of_ble_eq_true rfl) fun Λ Λo K hK => ?_
  have hw := tvalid_ok P hP t
  have hn := gnode_ok P hP t
  have hl := fun l => leaving_ok P hP t x.node l
  have hp := fun e d => proper_ok P hP t e x.node d
  clear hP
  have yes : (validT t = true ∧ (0 ≤ x.node ∧ x.node < t.nodes) ∧ (x.to.length : Int) = t.nodes ∧ outB t x.node x.down = true ∧ ∀ (i : Nat) (e : Ety), x.to[i]? = some e → entB t x.node i e = true) → K (bA true) := fun h => by
    rw [tabB_spec.2 h] at hK; exact hK
  have no : ¬ (validT t = true ∧ (0 ≤ x.node ∧ x.node < t.nodes) ∧ (x.to.length : Int) = t.nodes ∧ outB t x.node x.down = true ∧ ∀ (i : Nat) (e : Ety), x.to[i]? = some e → entB t x.node i e = true) → K (bA false) := fun h => by
    rw [show tabB t x = false from Bool.eq_false_iff.2 fun h' => h (tabB_spec.1 h')] at hK; exact hK
  clear hK
  obtain ⟨node, to, down⟩ := x
  have hld := hl down
  simp only [tabA, entsD, intsA, intsD] at *
  generalize outB t node down = ob at *
  generalize entB t node = eb at *
  generalize validT t = v at *
  generalize elh : List.map encEnt to = el at *
  have eln : Λ el = to.length := by rw [Λo, ← elh]; simp
  generalize dlh : List.map encI down = dl at *
  have dln : Λ dl = down.length := by rw [Λo, ← dlh]; simp
  obtain ⟨nodes, ov, links⟩ := t
  simp only [topA, boolsD, linksD] at *
  generalize hol : ov.map encB = ol at *
  generalize hll : links.map encLk = ll at *
  have hlo : Λ ol = ov.length := by rw [Λo, ← hol]; simp
  have hls : Λ ll = links.length := by rw [Λo, ← hll]; simp
  conv => cbv
  repeat' first | refine call_b hw rfl rfl ?_ ?_ | refine call_b (hn _) rfl rfl ?_ ?_ | refine call_b (hld (by assumption) (by simp only [decide_eq_true_eq] at *; omega)) rfl rfl ?_ ?_ | (intro (_ : Unit); first | omega | rfl | exact ⟨rfl, by omega⟩ | (simp only [nI_eq]; omega) | ((repeat' first | rfl | omega | refine And.intro ?_ ?_ | (simp only [nI_eq]; omega) | exact Nat.le_of_ble_eq_true rfl); done)) | exact trivial | refine And.intro ?_ ?_ | (intro hc; exact absurd hc (by decide)) | (intro hc; exfalso; omega) | (intro hc; (first | rw [wrap_small (by omega) (by omega)] at hc | rw [nI_eq] at hc | skip); try (conv => cbv))
  all_goals try simp only [decide_eq_true_eq, decide_eq_false_iff_not] at *
  all_goals try (refine no fun h => ?_; obtain ⟨h1, h2, h3, h4, _⟩ := h; first | omega | (rw [h1] at hc; cases hc; done) | (rw [h4] at hc; cases hc; done) | (have := ‹ob = false›; rw [h4] at this; cases this; done))
  refine loop_up to.length (fun (i : Int) => [(2, .c (.ptr 0 0 0 0)), (3, .c (.ptr 1 0 0 0)), (35, .c (.d (.list false 3 el))), (36, iA (Λ el)), (37, iA i)]) (fun _ => [.bx [.d (.int .i64 nodes), .d (.list false 1 ol), .d (.list false 7 ll)], .bx [.d (.int .i64 node), .d (.list false 3 el), .d (.list false 1 dl)]]) (fun k i => i = k ∧ k ≤ to.length ∧ ∀ (j : Nat) (e : Ety), j < k → to[j]? = some e → eb j e = true) 0 (Wk.cut ⟨_, rfl⟩ (Nat.zero_le _) rfl (by repeat' first | exact trivial | refine And.intro ?_ ?_ | rfl)) ⟨rfl, by omega, by simp⟩ (fun k s h => h.2.1) ?_
  rintro k i Q' ⟨hi, hk, hok⟩ norm ex rt
  by_cases hlt : k < to.length
  · obtain ⟨x, hx⟩ : ∃ x, to[k]? = some x := ⟨_, List.getElem?_eq_getElem hlt⟩
    have hxa := elt_at elh hi hx
    obtain ⟨arcs, rep, push⟩ := x
    have hpx := hp ⟨arcs, rep, push⟩ i (by assumption) (by omega)
    simp only [entA, encEnt, intsD, segsD] at hxa hpx
    generalize List.map encI arcs = al at *
    generalize List.map encSeg push = pl at *
    conv => cbv
    repeat' first | (refine ex _ _ _ ?_; (conv => cbv)) | (refine rt _ _ ?_; (conv => cbv)) | refine call_b hpx rfl rfl ?_ ?_ | (intro e he; cases Option.some.inj (he.symm.trans hxa); (conv => cbv)) | (intro (_ : Unit); first | omega | rfl | exact ⟨rfl, by omega⟩ | (simp only [nI_eq]; omega) | ((repeat' first | rfl | omega | refine And.intro ?_ ?_ | (simp only [nI_eq]; omega) | exact Nat.le_of_ble_eq_true rfl); done)) | exact trivial | refine And.intro ?_ ?_ | (intro hc; exact absurd hc (by decide)) | (intro hc; exfalso; omega) | (intro hc; (first | rw [wrap_small (by omega) (by omega)] at hc | rw [nI_eq] at hc | skip); try (conv => cbv))
    · refine norm _ _ _ ?_ (Wk.cut ⟨_, rfl⟩ (Nat.zero_le _) rfl (by repeat' first | exact trivial | refine And.intro ?_ ?_ | rfl))
      refine ⟨by omega, by omega, fun j e hj he => ?_⟩
      rcases Nat.lt_or_ge j k with h | h
      · exact hok j e h he
      · obtain rfl : j = k := by omega
        rw [hx] at he; cases he
        rw [← hi]; assumption
    · refine no fun h => ?_
      have := h.2.2.2.2 k _ hx
      rw [← hi, hc] at this; cases this
  · conv => cbv
    repeat' first | (refine ex _ _ _ ?_; (conv => cbv)) | (refine rt _ _ ?_; (conv => cbv)) | (intro (_ : Unit); first | omega | rfl | exact ⟨rfl, by omega⟩ | (simp only [nI_eq]; omega) | ((repeat' first | rfl | omega | refine And.intro ?_ ?_ | (simp only [nI_eq]; omega) | exact Nat.le_of_ble_eq_true rfl); done)) | exact trivial | refine And.intro ?_ ?_ | (intro hc; exact absurd hc (by decide)) | (intro hc; exfalso; omega) | (intro hc; (first | rw [wrap_small (by omega) (by omega)] at hc | rw [nI_eq] at hc | skip); try (conv => cbv))
    exact yes ⟨by assumption, by omega, by omega, by assumption, fun j e he => hok j e (by have := get_lt he; omega) he⟩

theorem rtableValid_ok (P : Program) (hP : P = Try.prog) (t : Top) (x : Tab) : Ret P n_ref22_Valid [topA t, tabA x] (bA (tabB t x)) := by
  refine ret_start (hP ▸ mixed) (hP ▸ fn_ref22_Valid) (hP ▸ c_ref22_Valid) (Nat.le_of_ble_eq_true rfl) fun Λ Λo K hK => ?_
  have hw := valid_ok P hP t
  have hl := fun l => outgoing_ok P hP t x.node l
  have hg := rseg_ok P hP t
  clear hP
  have yes : (validT t = true ∧ (0 ≤ x.node ∧ x.node < t.nodes) ∧ (x.to.length : Int) = t.nodes ∧ outB t x.node x.down = true ∧ ∀ (i : Nat) (e : Ety), x.to[i]? = some e → entB t x.node i e = true) → K (bA true) := fun h => by
    rw [tabB_spec.2 h] at hK; exact hK
  have no : ¬ (validT t = true ∧ (0 ≤ x.node ∧ x.node < t.nodes) ∧ (x.to.length : Int) = t.nodes ∧ outB t x.node x.down = true ∧ ∀ (i : Nat) (e : Ety), x.to[i]? = some e → entB t x.node i e = true) → K (bA false) := fun h => by
    rw [show tabB t x = false from Bool.eq_false_iff.2 fun h' => h (tabB_spec.1 h')] at hK; exact hK
  clear hK
  obtain ⟨node, to, down⟩ := x
  have hld := hl down
  have hes := fun d e => @entB_spec t node d e
  simp only [tabA, entsD, intsA, intsD, segA] at *
  generalize outB t node = ob at *
  generalize entB t node = eb at *
  generalize validT t = v at *
  generalize segB t = sb at *
  generalize elh : List.map encEnt to = el at *
  have eln : Λ el = to.length := by rw [Λo, ← elh]; simp
  generalize dlh : List.map encI down = dl at *
  have dln : Λ dl = down.length := by rw [Λo, ← dlh]; simp
  obtain ⟨nodes, ov, links⟩ := t
  simp only [topA, boolsD, linksD] at *
  generalize hol : ov.map encB = ol at *
  generalize hll : links.map encLk = ll at *
  have hlo : Λ ol = ov.length := by rw [Λo, ← hol]; simp
  have hls : Λ ll = links.length := by rw [Λo, ← hll]; simp
  conv => cbv
  repeat' first | refine call_b hw rfl rfl ?_ ?_ | refine call_b hld rfl rfl ?_ ?_ | (intro (_ : Unit); first | omega | rfl | exact ⟨rfl, by omega⟩ | (simp only [nI_eq]; omega) | ((repeat' first | rfl | omega | refine And.intro ?_ ?_ | (simp only [nI_eq]; omega) | exact Nat.le_of_ble_eq_true rfl); done)) | exact trivial | refine And.intro ?_ ?_ | (intro hc; exact absurd hc (by decide)) | (intro hc; exfalso; omega) | (intro hc; (first | rw [wrap_small (by omega) (by omega)] at hc | rw [nI_eq] at hc | skip); try (conv => cbv))
  all_goals try (refine no fun h => ?_; obtain ⟨h1, h2, h3, h4, _⟩ := h; first | omega | (rw [h1] at hc; cases hc; done) | (rw [h4] at hc; cases hc; done))
  refine loop_up to.length (fun (i : Int) => [(2, .c (.ptr 0 0 0 0)), (3, .c (.ptr 1 0 0 0)), (5, iA i)]) (fun _ => [.bx [.d (.int .i64 nodes), .d (.list false 1 ol), .d (.list false 7 ll)], .bx [.d (.int .i64 node), .d (.list false 3 el), .d (.list false 1 dl)]]) (fun k i => i = k ∧ k ≤ to.length ∧ ∀ (j : Nat) (e : Ety), j < k → to[j]? = some e → eb j e = true) 0 (Wk.cut ⟨_, rfl⟩ (Nat.zero_le _) rfl (by repeat' first | exact trivial | refine And.intro ?_ ?_ | rfl)) ⟨rfl, by omega, by simp⟩ (fun k s h => h.2.1) ?_
  rintro k i Q' ⟨hi, hk, hok⟩ norm exo rto
  by_cases hlt : k < to.length
  · obtain ⟨x, hx⟩ : ∃ x, to[k]? = some x := ⟨_, List.getElem?_eq_getElem hlt⟩
    have hxa := elt_at elh hi hx
    obtain ⟨arcs, rep, push⟩ := x
    have hlx := hl arcs
    have hesx := hes i ⟨arcs, rep, push⟩
    have bad : ¬ eb i ⟨arcs, rep, push⟩ = true → K (bA false) := fun h => no fun h' => h (by rw [hi]; exact h'.2.2.2.2 k _ hx)
    simp only [encEnt, intsD, segsD] at hxa hlx hesx
    generalize alh : List.map encI arcs = al at *
    have aln : Λ al = arcs.length := by rw [Λo, ← alh]; simp
    generalize plh : List.map encSeg push = pl at *
    have pln : Λ pl = push.length := by rw [Λo, ← plh]; simp
    cases rep
    all_goals
      conv => cbv
      repeat' first | (refine rto _ _ ?_; (conv => cbv)) | refine call_b hlx rfl rfl ?_ ?_ | (intro e he; cases Option.some.inj (he.symm.trans hxa); (conv => cbv)) | (intro (_ : Unit); first | omega | rfl | exact ⟨rfl, by omega⟩ | (simp only [nI_eq]; omega) | ((repeat' first | rfl | omega | refine And.intro ?_ ?_ | (simp only [nI_eq]; omega) | exact Nat.le_of_ble_eq_true rfl); done)) | exact trivial | refine And.intro ?_ ?_ | (intro hc; exact absurd hc (by decide)) | (intro hc; exfalso; omega) | (intro hc; (first | rw [wrap_small (by omega) (by omega)] at hc | rw [nI_eq] at hc | skip); try (conv => cbv))
    all_goals try (refine bad fun h => ?_; obtain ⟨h1, h2, h3, h4, _⟩ := hesx.1 h; first | omega | (have := h3 rfl; omega) | (have := h4 rfl; omega) | (rw [h1] at hc; cases hc; done))
    all_goals
      refine loop_up push.length (fun (i' : Int) => [(2, .c (.ptr 0 0 0 0)), (3, .c (.ptr 1 0 0 0)), (5, iA i), (6, .c (.ptr 2 0 0 0)), (7, iA i')]) (fun _ => [.bx [.d (.int .i64 nodes), .d (.list false 1 ol), .d (.list false 7 ll)], .bx [.d (.int .i64 node), .d (.list false 3 el), .d (.list false 1 dl)], .bx [.d (.list false 1 al), .d (.bool _), .d (.list false 2 pl)]]) (fun k i => i = k ∧ k ≤ push.length ∧ ∀ s ∈ push.take k, sb s = true) 0 (Wk.cut ⟨_, rfl⟩ (Nat.zero_le _) rfl (by repeat' first | exact trivial | refine And.intro ?_ ?_ | rfl)) ⟨rfl, by omega, by simp⟩ (fun k s h => h.2.1) ?_
    all_goals
      rintro k2 i2 Q2 ⟨hi2, hk2, hok2⟩ norm2 ex rt
      by_cases hlt2 : k2 < push.length
      · obtain ⟨s, hs⟩ : ∃ s, push[k2]? = some s := ⟨_, List.getElem?_eq_getElem hlt2⟩
        have hsa := elt_at plh hi2 hs
        obtain ⟨xk, xn⟩ := s
        have hgx := hg ⟨xk, xn⟩
        conv => cbv
        repeat' first | (refine ex _ _ _ ?_; (conv => cbv)) | (refine rt _ _ ?_; (conv => cbv)) | (refine rto _ _ ?_; (conv => cbv)) | refine call_b hgx rfl rfl ?_ ?_ | (intro e he; cases Option.some.inj (he.symm.trans hsa); (conv => cbv)) | (intro (_ : Unit); first | omega | rfl | exact ⟨rfl, by omega⟩ | (simp only [nI_eq]; omega) | ((repeat' first | rfl | omega | refine And.intro ?_ ?_ | (simp only [nI_eq]; omega) | exact Nat.le_of_ble_eq_true rfl); done)) | exact trivial | refine And.intro ?_ ?_ | (intro hc; exact absurd hc (by decide)) | (intro hc; exfalso; omega) | (intro hc; (first | rw [wrap_small (by omega) (by omega)] at hc | rw [nI_eq] at hc | skip); try (conv => cbv))
        all_goals first
          | (refine bad fun h => ?_
             have := (hesx.1 h).2.2.2.2 _ (List.mem_of_getElem? hs)
             rw [this, ‹v = true›] at hc; cases hc; done)
          | (refine norm2 _ _ _ ?_ (Wk.cut ⟨_, rfl⟩ (Nat.zero_le _) rfl (by repeat' first | exact trivial | refine And.intro ?_ ?_ | rfl))
             refine ⟨by omega, by omega, fun s' hs' => ?_⟩
             rw [take_succ_get hs] at hs'
             rcases List.mem_append.1 hs' with h | h
             · exact hok2 s' h
             · simp only [List.mem_singleton] at h; subst h
               have hvs : (v && sb ⟨xk, xn⟩) = true := by assumption
               simp only [Bool.and_eq_true] at hvs
               exact hvs.2)
      · conv => cbv
        repeat' first | (refine ex _ _ _ ?_; (conv => cbv)) | (refine rt _ _ ?_; (conv => cbv)) | (intro (_ : Unit); first | omega | rfl | exact ⟨rfl, by omega⟩ | (simp only [nI_eq]; omega) | ((repeat' first | rfl | omega | refine And.intro ?_ ?_ | (simp only [nI_eq]; omega) | exact Nat.le_of_ble_eq_true rfl); done)) | exact trivial | refine And.intro ?_ ?_ | (intro hc; exact absurd hc (by decide)) | (intro hc; exfalso; omega) | (intro hc; (first | rw [wrap_small (by omega) (by omega)] at hc | rw [nI_eq] at hc | skip); try (conv => cbv))
        refine norm _ _ _ ?_ (Wk.cut ⟨_, rfl⟩ (Nat.zero_le _) rfl (by repeat' first | exact trivial | refine And.intro ?_ ?_ | rfl))
        refine ⟨by omega, by omega, fun j e hj he => ?_⟩
        rcases Nat.lt_or_ge j k with h | h
        · exact hok j e h he
        · obtain rfl : j = k := by omega
          rw [hx] at he; cases he
          rw [← hi]
          rw [List.take_of_length_le (by omega)] at hok2
          exact hesx.2 ⟨by assumption, by omega, by first | (intro h; cases h; done) | (intro _; omega), by first | (intro h; cases h; done) | (intro _; omega), hok2⟩
  · conv => cbv
    repeat' first | (refine exo _ _ _ ?_; (conv => cbv)) | (intro (_ : Unit); first | omega | rfl | exact ⟨rfl, by omega⟩ | (simp only [nI_eq]; omega) | ((repeat' first | rfl | omega | refine And.intro ?_ ?_ | (simp only [nI_eq]; omega) | exact Nat.le_of_ble_eq_true rfl); done)) | exact trivial | refine And.intro ?_ ?_ | (intro hc; exact absurd hc (by decide)) | (intro hc; exfalso; omega) | (intro hc; (first | rw [wrap_small (by omega) (by omega)] at hc | rw [nI_eq] at hc | skip); try (conv => cbv))
    exact yes ⟨by assumption, by omega, by omega, by assumption, fun j e he => hok j e (by have := get_lt he; omega) he⟩
end Go.Ab
