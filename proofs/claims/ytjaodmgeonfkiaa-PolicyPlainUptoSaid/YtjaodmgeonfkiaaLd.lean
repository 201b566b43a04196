/-
  Contracts, part d: arcs, segments, the program's validity of topologies.
-/
import Derived.Test.YtjaodmgeonfkiaaLc
namespace Go.Ab
open Go.Proofs

theorem twithin_ok (P : Program) (hP : P = Try.prog) (n lo hi : Int) : Ret P n_topology_within [iA n, iA lo, iA hi] (bA (decide (lo ≤ n ∧ n ≤ hi))) := by
  refine ret_start (hP ▸ mixed) (hP ▸ fn_topology_within) (hP ▸ c_topology_within) (Nat.le_of_ble_eq_true rfl) fun Λ Λo K hK => ?_
  clear hP
  have yes := yes_of hK
  have no := no_of hK
  conv => cbv
  repeat' first | (intro (_ : Unit); first | omega | rfl | exact ⟨rfl, by omega⟩ | (simp only [nI_eq]; omega) | ((repeat' first | rfl | omega | refine And.intro ?_ ?_ | (simp only [nI_eq]; omega) | exact Nat.le_of_ble_eq_true rfl); done)) | exact trivial | refine And.intro ?_ ?_ | (intro hc; exact absurd hc (by decide)) | (intro hc; exfalso; omega) | (intro hc; (first | rw [wrap_small (by omega) (by omega)] at hc | rw [nI_eq] at hc | skip); try (conv => cbv))
  · exact yes (by omega)
  · exact no (by omega)
  · exact no (by omega)

theorem gnode_ok (P : Program) (hP : P = Try.prog) (t : Top) (n : Int) : Ret P n_graph_Node [topA t, iA n] (bA (decide (0 ≤ n ∧ n < t.nodes))) := by
  refine ret_start (hP ▸ mixed) (hP ▸ fn_graph_Node) (hP ▸ c_graph_Node) (Nat.le_of_ble_eq_true rfl) fun Λ Λo K hK => ?_
  clear hP
  have yes := yes_of hK
  have no := no_of hK
  obtain ⟨nodes, ov, links⟩ := t
  simp only [topA, boolsD, linksD] at *
  generalize hol : ov.map encB = ol at *
  generalize hll : links.map encLk = ll at *
  have hlo : Λ ol = ov.length := by rw [Λo, ← hol]; simp
  have hls : Λ ll = links.length := by rw [Λo, ← hll]; simp
  conv => cbv
  repeat' first | (intro (_ : Unit); first | omega | rfl | exact ⟨rfl, by omega⟩ | (simp only [nI_eq]; omega) | ((repeat' first | rfl | omega | refine And.intro ?_ ?_ | (simp only [nI_eq]; omega) | exact Nat.le_of_ble_eq_true rfl); done)) | exact trivial | refine And.intro ?_ ?_ | (intro hc; exact absurd hc (by decide)) | (intro hc; exfalso; omega) | (intro hc; (first | rw [wrap_small (by omega) (by omega)] at hc | rw [nI_eq] at hc | skip); try (conv => cbv))
  · exact yes (by omega)
  · exact no (by omega)
  · exact no (by omega)

theorem tvalid_ok (P : Program) (hP : P = Try.prog) (t : Top) : Ret P n_topology_Valid [topA t] (bA (validT t)) := by
  refine ret_start (hP ▸ mixed) (hP ▸ fn_topology_Valid) (hP ▸ c_topology_Valid) (Nat.le_of_ble_eq_true rfl) fun Λ Λo K hK => ?_
  have hw := twithin_ok P hP
  have hn := gnode_ok P hP t
  clear hP
  have leaf : ∀ b, validT t = b → K (bA b) := fun b hb => by rw [← hb]; exact hK
  have no : (validT t = true → False) → K (bA false) := fun h => leaf _ (Bool.eq_false_iff.2 h)
  obtain ⟨nodes, ov, links⟩ := t
  simp only [topA, boolsD, linksD] at *
  generalize hol : ov.map encB = ol at *
  generalize hll : links.map encLk = ll at *
  have hlo : Λ ol = ov.length := by rw [Λo, ← hol]; simp
  have hls : Λ ll = links.length := by rw [Λo, ← hll]; simp
  conv => cbv
  repeat' first | refine call_b (hw _ _ _) rfl rfl ?_ ?_ | (intro (_ : Unit); first | omega | rfl | exact ⟨rfl, by omega⟩ | (simp only [nI_eq]; omega) | ((repeat' first | rfl | omega | refine And.intro ?_ ?_ | (simp only [nI_eq]; omega) | exact Nat.le_of_ble_eq_true rfl); done)) | exact trivial | refine And.intro ?_ ?_ | (intro hc; exact absurd hc (by decide)) | (intro hc; exfalso; omega) | (intro hc; (first | rw [wrap_small (by omega) (by omega)] at hc | rw [nI_eq] at hc | skip); try (conv => cbv))
  all_goals try simp only [decide_eq_true_eq, decide_eq_false_iff_not] at *
  all_goals try (refine no fun h => ?_; obtain ⟨h1, h2, h3, h4⟩ := validT_spec.1 h; simp only at h1 h2 h3; omega)
  all_goals
    refine loop_up links.length (fun (i : Int) => [(1, .c (.ptr 0 0 0 0)), (29, iA (Λ ll)), (30, iA i)]) (fun _ => [.bx [.d (.int .i64 nodes), .d (.list false 1 ol), .d (.list false 7 ll)]]) (fun k i => i = k ∧ k ≤ links.length ∧ ∀ l ∈ links.take k, okLk nodes l = true) 0 (Wk.cut ⟨_, rfl⟩ (Nat.zero_le _) rfl (by repeat' first | exact trivial | refine And.intro ?_ ?_ | rfl)) ⟨rfl, by omega, by simp⟩ (fun k s h => h.2.1) ?_
    rintro k i Q' ⟨hi, hk, hok⟩ norm ex rt
    conv => cbv
    repeat' first | (refine ex _ _ _ ?_; (conv => cbv)) | (refine rt _ _ ?_; (conv => cbv)) | refine call_b (hw _ _ _) rfl rfl ?_ ?_ | refine call_b (hn _) rfl rfl ?_ ?_ | (intro e he; obtain ⟨⟨xa, xb, xc, xd, xe, xf, xg⟩, hx, rfl⟩ := map_get' hll he; (conv => cbv)) | (intro (_ : Unit); first | omega | rfl | exact ⟨rfl, by omega⟩ | (simp only [nI_eq]; omega) | ((repeat' first | rfl | omega | refine And.intro ?_ ?_ | (simp only [nI_eq]; omega) | exact Nat.le_of_ble_eq_true rfl); done)) | exact trivial | refine And.intro ?_ ?_ | (intro hc; exact absurd hc (by decide)) | (intro hc; exfalso; omega) | (intro hc; (first | rw [wrap_small (by omega) (by omega)] at hc | rw [nI_eq] at hc | skip); try (conv => cbv))
  all_goals try simp only [decide_eq_true_eq, decide_eq_false_iff_not] at *
  all_goals try (refine no fun h => ?_; obtain ⟨h1, h2, h3, h4⟩ := validT_spec.1 h; have h5 := okLk_spec.1 (h4 _ (List.mem_of_getElem? hx)); simp only at h5; omega)
  all_goals try (refine leaf _ (validT_spec.2 ⟨by simp only; omega, by simp only; omega, by simp only; omega, fun l hl => hok l ?_⟩); rw [List.take_of_length_le (by omega)]; exact hl)
  all_goals
    refine norm _ _ _ ?_ (Wk.cut ⟨_, rfl⟩ (Nat.zero_le _) rfl (by repeat' first | exact trivial | refine And.intro ?_ ?_ | rfl))
    refine ⟨by omega, by omega, ?_⟩
    rw [show i.toNat = k by omega] at hx
    rw [take_succ_get hx]
    intro l hl
    rcases List.mem_append.1 hl with hl | hl
    · exact hok l hl
    · simp only [List.mem_singleton] at hl
      subst hl
      exact okLk_spec.2 ⟨by simp only; omega, by simp only; omega, by simp only; omega, by simp only; omega, by simp only; omega, by simp only; omega, by simp only; omega, by simp only; omega⟩

theorem garcs_ok (P : Program) (hP : P = Try.prog) (t : Top) (h : (t.links.length : Int) ≤ 256) : Ret P n_graph_Arcs [topA t] (iA (2 * t.links.length)) := by
  refine ret_start (hP ▸ mixed) (hP ▸ fn_graph_Arcs) (hP ▸ c_graph_Arcs) (Nat.le_of_ble_eq_true rfl) fun Λ Λo K hK => ?_
  clear hP
  obtain ⟨nodes, ov, links⟩ := t
  simp only [topA, boolsD, linksD] at *
  generalize hol : ov.map encB = ol at *
  generalize hll : links.map encLk = ll at *
  have hlo : Λ ol = ov.length := by rw [Λo, ← hol]; simp
  have hls : Λ ll = links.length := by rw [Λo, ← hll]; simp
  conv => cbv
  repeat' first | (intro (_ : Unit); first | omega | rfl | exact ⟨rfl, by omega⟩ | (simp only [nI_eq]; omega) | ((repeat' first | rfl | omega | refine And.intro ?_ ?_ | (simp only [nI_eq]; omega) | exact Nat.le_of_ble_eq_true rfl); done)) | exact trivial | refine And.intro ?_ ?_ | (intro hc; exact absurd hc (by decide)) | (intro hc; exfalso; omega) | (intro hc; (first | rw [wrap_small (by omega) (by omega)] at hc | rw [nI_eq] at hc | skip); try (conv => cbv))
  rename_i c
  rw [show c = 2 * (links.length : Int) by omega]
  exact hK

theorem garc_ok (P : Program) (hP : P = Try.prog) (t : Top) (a : Int) (h : (t.links.length : Int) ≤ 256) : Ret P n_graph_Arc [topA t, iA a] (bA (decide (0 ≤ a ∧ a < 2 * t.links.length))) := by
  refine ret_start (hP ▸ mixed) (hP ▸ fn_graph_Arc) (hP ▸ c_graph_Arc) (Nat.le_of_ble_eq_true rfl) fun Λ Λo K hK => ?_
  have hw := garcs_ok P hP t h
  clear hP
  have yes := yes_of hK
  have no := no_of hK
  obtain ⟨nodes, ov, links⟩ := t
  simp only [topA, boolsD, linksD] at *
  generalize hol : ov.map encB = ol at *
  generalize hll : links.map encLk = ll at *
  have hlo : Λ ol = ov.length := by rw [Λo, ← hol]; simp
  have hls : Λ ll = links.length := by rw [Λo, ← hll]; simp
  conv => cbv
  repeat' first | refine call_i hw rfl rfl ?_ | (intro (_ : Unit); first | omega | rfl | exact ⟨rfl, by omega⟩ | (simp only [nI_eq]; omega) | ((repeat' first | rfl | omega | refine And.intro ?_ ?_ | (simp only [nI_eq]; omega) | exact Nat.le_of_ble_eq_true rfl); done)) | exact trivial | refine And.intro ?_ ?_ | (intro hc; exact absurd hc (by decide)) | (intro hc; exfalso; omega) | (intro hc; (first | rw [wrap_small (by omega) (by omega)] at hc | rw [nI_eq] at hc | skip); try (conv => cbv))
  · exact yes (by omega)
  · exact no (by omega)
  · exact no (by omega)

def tailG (t : Top) (a : Int) : Int := if a % 2 = 0 then (lkAt t a).a else (lkAt t a).b
def headG (t : Top) (a : Int) : Int := if a % 2 = 0 then (lkAt t a).b else (lkAt t a).a

theorem gtail_ok (P : Program) (hP : P = Try.prog) (t : Top) (a : Int) (h0 : 0 ≤ a) (h1 : a < 2 * t.links.length) (h2 : (t.links.length : Int) ≤ 256) : Ret P n_graph_Tail [topA t, iA a] (iA (tailG t a)) := by
  refine ret_start (hP ▸ mixed) (hP ▸ fn_graph_Tail) (hP ▸ c_graph_Tail) (Nat.le_of_ble_eq_true rfl) fun Λ Λo K hK => ?_
  clear hP
  have leaf : ∀ b, tailG t a = b → K (iA b) := fun b hb => by rw [← hb]; exact hK
  have hta : tailG t a = if a % 2 = 0 then (lkAt t a).a else (lkAt t a).b := rfl
  have hat : ∀ x, t.links[(a / 2).toNat]? = some x → lkAt t a = x := fun x hx => by simp [lkAt, hx]
  obtain ⟨nodes, ov, links⟩ := t
  simp only [topA, boolsD, linksD] at *
  generalize hol : ov.map encB = ol at *
  generalize hll : links.map encLk = ll at *
  have hlo : Λ ol = ov.length := by rw [Λo, ← hol]; simp
  have hls : Λ ll = links.length := by rw [Λo, ← hll]; simp
  conv => cbv
  repeat' first | (intro hc; rw [tdiv2 (by omega) (by omega)] at hc; conv => cbv) | (intro hc; rw [tmod2 (by omega)] at hc; conv => cbv) | (intro (_ : Unit); decide) | (intro e he; obtain ⟨⟨xa, xb, xc, xd, xe, xf, xg⟩, hx, rfl⟩ := map_get' hll he; (conv => cbv)) | (intro (_ : Unit); first | omega | rfl | exact ⟨rfl, by omega⟩ | (simp only [nI_eq]; omega) | ((repeat' first | rfl | omega | refine And.intro ?_ ?_ | (simp only [nI_eq]; omega) | exact Nat.le_of_ble_eq_true rfl); done)) | exact trivial | refine And.intro ?_ ?_ | (intro hc; exact absurd hc (by decide)) | (intro hc; exfalso; omega) | (intro hc; (first | rw [wrap_small (by omega) (by omega)] at hc | rw [nI_eq] at hc | skip); try (conv => cbv))
  · exact leaf _ (by rw [hta, if_pos (by omega), hat _ (get_at hx (by omega))])
  · exact leaf _ (by rw [hta, if_neg (by omega), hat _ (get_at hx (by omega))])

/-- a valid segment of a valid topology -/
def segB (t : Top) (s : Seg) : Bool := decide (0 ≤ s.num) && (decide (s.kind = 1 ∧ s.num < t.nodes) || decide (s.kind = 2 ∧ s.num < 2 * t.links.length) || decide (s.kind = 3 ∧ 1 ≤ s.num ∧ s.num ≤ 64) || decide (s.kind = 4 ∧ s.num ≤ 65535))

theorem segB_spec {t : Top} {s : Seg} : segB t s = true ↔ 0 ≤ s.num ∧ ((s.kind = 1 ∧ s.num < t.nodes) ∨ (s.kind = 2 ∧ s.num < 2 * t.links.length) ∨ (s.kind = 3 ∧ 1 ≤ s.num ∧ s.num ≤ 64) ∨ (s.kind = 4 ∧ s.num ≤ 65535)) := by
  simp only [segB, Bool.and_eq_true, Bool.or_eq_true, decide_eq_true_eq, or_assoc]

theorem gseg_ok (P : Program) (hP : P = Try.prog) (t : Top) (s : Seg) (h : (t.links.length : Int) ≤ 256) : Ret P n_graph_Segment [topA t, segA s] (bA (segB t s)) := by
  refine ret_start (hP ▸ mixed) (hP ▸ fn_graph_Segment) (hP ▸ c_graph_Segment) (Nat.le_of_ble_eq_true rfl) fun Λ Λo K hK => ?_
  have hn := gnode_ok P hP t
  have ha := fun a => garc_ok P hP t a h
  clear hP
  have leaf : ∀ b, segB t s = b → K (bA b) := fun b hb => by rw [← hb]; exact hK
  have yes : (0 ≤ s.num ∧ ((s.kind = 1 ∧ s.num < t.nodes) ∨ (s.kind = 2 ∧ s.num < 2 * t.links.length) ∨ (s.kind = 3 ∧ 1 ≤ s.num ∧ s.num ≤ 64) ∨ (s.kind = 4 ∧ s.num ≤ 65535))) → K (bA true) := fun h => leaf _ (segB_spec.2 h)
  have no : ¬ (0 ≤ s.num ∧ ((s.kind = 1 ∧ s.num < t.nodes) ∨ (s.kind = 2 ∧ s.num < 2 * t.links.length) ∨ (s.kind = 3 ∧ 1 ≤ s.num ∧ s.num ≤ 64) ∨ (s.kind = 4 ∧ s.num ≤ 65535))) → K (bA false) := fun h => leaf _ (Bool.eq_false_iff.2 fun h' => h (segB_spec.1 h'))
  clear leaf hK
  obtain ⟨kind, num⟩ := s
  simp only [segA] at *
  obtain ⟨nodes, ov, links⟩ := t
  simp only [topA, boolsD, linksD] at *
  generalize hol : ov.map encB = ol at *
  generalize hll : links.map encLk = ll at *
  have hlo : Λ ol = ov.length := by rw [Λo, ← hol]; simp
  have hls : Λ ll = links.length := by rw [Λo, ← hll]; simp
  conv => cbv
  repeat' first | refine call_b (hn _) rfl rfl ?_ ?_ | refine call_b (ha _) rfl rfl ?_ ?_ | (intro (_ : Unit); first | omega | rfl | exact ⟨rfl, by omega⟩ | (simp only [nI_eq]; omega) | ((repeat' first | rfl | omega | refine And.intro ?_ ?_ | (simp only [nI_eq]; omega) | exact Nat.le_of_ble_eq_true rfl); done)) | exact trivial | refine And.intro ?_ ?_ | (intro hc; exact absurd hc (by decide)) | (intro hc; exfalso; omega) | (intro hc; (first | rw [wrap_small (by omega) (by omega)] at hc | rw [nI_eq] at hc | skip); try (conv => cbv))
  all_goals try simp only [decide_eq_true_eq, decide_eq_false_iff_not] at *
  all_goals first | (refine yes ?_; omega) | (refine no ?_; omega)

theorem rseg_ok (P : Program) (hP : P = Try.prog) (t : Top) (s : Seg) : Ret P n_ref18_Valid [topA t, segA s] (bA (validT t && segB t s)) := by
  refine ret_start (hP ▸ mixed) (hP ▸ fn_ref18_Valid) (hP ▸ c_ref18_Valid) (Nat.le_of_ble_eq_true rfl) fun Λ Λo K hK => ?_
  have hn := valid_ok P hP t
  have ha := arcs_ok P hP t
  clear hP
  have hb : validT t = true → arcsT t = 2 * t.links.length := fun h => by rw [arcsT, if_pos h]
  have leaf : ∀ b, (validT t && segB t s) = b → K (bA b) := fun b hb => by rw [← hb]; exact hK
  have yes : (validT t = true ∧ 0 ≤ s.num ∧ ((s.kind = 1 ∧ s.num < t.nodes) ∨ (s.kind = 2 ∧ s.num < 2 * t.links.length) ∨ (s.kind = 3 ∧ 1 ≤ s.num ∧ s.num ≤ 64) ∨ (s.kind = 4 ∧ s.num ≤ 65535))) → K (bA true) := fun h => leaf _ (by rw [h.1, segB_spec.2 h.2]; rfl)
  have no : (validT t = true → ¬ (0 ≤ s.num ∧ ((s.kind = 1 ∧ s.num < t.nodes) ∨ (s.kind = 2 ∧ s.num < 2 * t.links.length) ∨ (s.kind = 3 ∧ 1 ≤ s.num ∧ s.num ≤ 64) ∨ (s.kind = 4 ∧ s.num ≤ 65535)))) → K (bA false) := fun h => leaf _ (by
    cases hv : validT t with
    | false => rfl
    | true => exact Bool.eq_false_iff.2 fun h' => h hv (segB_spec.1 h'))
  clear leaf hK
  generalize validT t = v at *
  generalize arcsT t = r at *
  obtain ⟨kind, num⟩ := s
  simp only [segA] at *
  obtain ⟨nodes, ov, links⟩ := t
  simp only [topA, boolsD, linksD] at *
  generalize hol : ov.map encB = ol at *
  generalize hll : links.map encLk = ll at *
  have hlo : Λ ol = ov.length := by rw [Λo, ← hol]; simp
  have hls : Λ ll = links.length := by rw [Λo, ← hll]; simp
  conv => cbv
  repeat' first | refine call_b hn rfl rfl ?_ ?_ | refine call_i ha rfl rfl ?_ | (intro (_ : Unit); first | omega | rfl | exact ⟨rfl, by omega⟩ | (simp only [nI_eq]; omega) | ((repeat' first | rfl | omega | refine And.intro ?_ ?_ | (simp only [nI_eq]; omega) | exact Nat.le_of_ble_eq_true rfl); done)) | exact trivial | refine And.intro ?_ ?_ | (intro hc; exact absurd hc (by decide)) | (intro hc; exfalso; omega) | (intro hc; (first | rw [wrap_small (by omega) (by omega)] at hc | rw [nI_eq] at hc | skip); try (conv => cbv))
  all_goals first | (refine no fun h => ?_; have := hb h; omega) | (refine no fun h => ?_; exact absurd (h.symm.trans ‹v = false›) (by simp)) | (refine yes ⟨‹v = true›, ?_⟩; have := hb ‹v = true›; omega)

end Go.Ab
