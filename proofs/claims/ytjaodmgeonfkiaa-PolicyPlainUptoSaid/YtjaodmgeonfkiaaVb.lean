/-
  Chapter 21, part b: which policies are valid.
-/
import Derived.Test.YtjaodmgeonfkiaaVa
namespace Go.Ab
open Go.Proofs

def polB (t : Top) (p : Pol) : Bool := decide (0 ≤ p.node ∧ p.node < t.nodes) && decide (0 ≤ p.bind ∧ p.bind ≤ 65535) && decide (p.list.length ≤ 32) && p.list.all (segB t)
def keyP (p : Pol) : Int × Int := (p.node, p.bind)
def polsB (t : Top) (ps : List Pol) : Bool := validT t && ps.all (polB t) && decide ((ps.map keyP).Nodup)

theorem polB_spec {t : Top} {p : Pol} : polB t p = true ↔ (0 ≤ p.node ∧ p.node < t.nodes) ∧ (0 ≤ p.bind ∧ p.bind ≤ 65535) ∧ p.list.length ≤ 32 ∧ p.list.all (segB t) = true := by
  simp only [polB, Bool.and_eq_true, decide_eq_true_eq, and_assoc]
theorem polsB_spec {t : Top} {ps : List Pol} : polsB t ps = true ↔ validT t = true ∧ (∀ p ∈ ps, polB t p = true) ∧ (ps.map keyP).Nodup := by
  simp only [polsB, Bool.and_eq_true, decide_eq_true_eq, List.all_eq_true, and_assoc]

def seenE (p : Pol) : (Int × Int) × DV := (keyP p, .s (.bool true))

theorem nodup_take_succ {ps : List Pol} {k : Nat} {x : Pol} (hx : ps[k]? = some x) : (((ps.take (k + 1)).map keyP).Nodup ↔ ((ps.take k).map keyP).Nodup ∧ keyP x ∉ (ps.take k).map keyP) := by
  rw [take_succ_get hx, List.map_append, List.nodup_append]
  simp only [List.map_cons, List.map_nil, List.nodup_cons, List.not_mem_nil, not_false_eq_true, List.nodup_nil, and_self, true_and, List.mem_singleton]
  constructor
  · rintro ⟨h1, h2⟩
    exact ⟨h1, fun h => h2 _ h _ rfl rfl⟩
  · rintro ⟨h1, h2⟩
    exact ⟨h1, fun a ha b hb e => h2 (by rw [← hb, ← e]; exact ha)⟩

theorem dup_no {ps : List Pol} {k : Nat} {x : Pol} (hx : ps[k]? = some x) (hm : keyP x ∈ (ps.take k).map keyP) : ¬ (ps.map keyP).Nodup := by
  intro h
  have h2 : ((ps.take (k + 1)).map keyP).Nodup := by
    have : (ps.take (k + 1)).map keyP = (ps.map keyP).take (k + 1) := by rw [List.map_take]
    rw [this]; exact h.sublist (List.take_sublist _ _)
  exact ((nodup_take_succ hx).1 h2).2 hm

set_option maxHeartbeats 4000000 in
theorem pvalid_ok (P : Program) (hP : P = Try.prog) (t : Top) (ps : List Pol) : Ret P n_policy_Valid [topA t, polsA ps] (bA (polsB t ps)) := by
  have hv := tvalid_ok P hP t
  have hsg := fun l h => segments_ok P hP t l h
  have hnode := fun n => gnode_ok P hP t n
  refine ret_start (hP ▸ mixed) (hP ▸ fn_policy_Valid) (hP ▸ c_policy_Valid) (Nat.le_of_ble_eq_true rfl) fun Λ Λo K hK => ?_
  clear hP
  have yes : validT t = true → (∀ p ∈ ps, polB t p = true) → (ps.map keyP).Nodup → K (bA true) := fun h1 h2 h3 => by rw [polsB_spec.2 ⟨h1, h2, h3⟩] at hK; exact hK
  have no : ¬ (validT t = true ∧ (∀ p ∈ ps, polB t p = true) ∧ (ps.map keyP).Nodup) → K (bA false) := fun h => by
    rw [show polsB t ps = false from Bool.eq_false_iff.2 fun h' => h (polsB_spec.1 h')] at hK; exact hK
  clear hK
  have h256 : validT t = true → (t.links.length : Int) ≤ 256 := fun h => (validT_spec.1 h).2.2.1
  have hps := fun p => @polB_spec t p
  generalize validT t = vt at *
  generalize segB t = sb at *
  generalize polB t = pb at *
  simp only [polsA, polsD, segsA, segsD] at *
  generalize plh : List.map encPol ps = pl at *
  have pln : Λ pl = ps.length := by rw [Λo, ← plh]; simp
  obtain ⟨nodes, ov, links⟩ := t
  simp only [topA, boolsD, linksD] at *
  generalize hol : ov.map encB = ol at *
  generalize hll : links.map encLk = ll at *
  have hlo : Λ ol = ov.length := by rw [Λo, ← hol]; simp
  have hls : Λ ll = links.length := by rw [Λo, ← hll]; simp
  cases vt with
  | false =>
    conv => cbv
    repeat' first | refine call_b hv rfl rfl ?_ ?_ | (intro hc; cases hc; done) | (intro (_ : Unit); first | omega | rfl | exact ⟨rfl, by omega⟩ | (simp only [nI_eq]; omega) | ((repeat' first | rfl | omega | refine And.intro ?_ ?_ | (simp only [nI_eq]; omega) | exact Nat.le_of_ble_eq_true rfl); done)) | exact trivial | refine And.intro ?_ ?_ | (intro hc; exact absurd hc (by decide)) | (intro hc; exfalso; omega) | (intro hc; (first | rw [wrap_small (by omega) (by omega)] at hc | rw [nI_eq] at hc | skip); try (conv => cbv))
    exact no (by simp)
  | true =>
  have h256 := h256 rfl
  have no1 : ∀ p ∈ ps, ¬ ((0 ≤ p.node ∧ p.node < nodes) ∧ (0 ≤ p.bind ∧ p.bind ≤ 65535) ∧ p.list.length ≤ 32 ∧ p.list.all sb = true) → K (bA false) := fun p hp h => no fun h' => h ((hps p).1 (h'.2.1 p hp))
  have no2 : ¬ (ps.map keyP).Nodup → K (bA false) := fun h => no fun h' => h h'.2.2
  have yes := yes rfl
  clear no
  conv => cbv
  repeat' first | refine call_b hv rfl rfl ?_ ?_ | (intro hc; cases hc; done) | (intro (_ : Unit); first | omega | rfl | exact ⟨rfl, by omega⟩ | (simp only [nI_eq]; omega) | ((repeat' first | rfl | omega | refine And.intro ?_ ?_ | (simp only [nI_eq]; omega) | exact Nat.le_of_ble_eq_true rfl); done)) | exact trivial | refine And.intro ?_ ?_ | (intro hc; exact absurd hc (by decide)) | (intro hc; exfalso; omega) | (intro hc; (first | rw [wrap_small (by omega) (by omega)] at hc | rw [nI_eq] at hc | skip); try (conv => cbv))
  refine loop_up ps.length (fun (s : Int × Nat × List (DV × DV)) => [(2, .c (.ptr 0 0 0 0)), (5, .c (.mp 1)), (13, .c (.d (.list false 3 pl))), (14, iA (Λ pl)), (15, iA s.1)]) (fun s => [.bx [.d (iD nodes), .d (.list false 1 ol), .d (.list false 7 ll)], .mp s.2.1 s.2.2])
    (fun k s => s.1 = k ∧ k ≤ ps.length ∧ ((ps.take k).map seenE).map encE = s.2.2 ∧ (∀ p ∈ ps.take k, pb p = true) ∧ ((ps.take k).map keyP).Nodup) (0, 0, []) (Wk.cut ⟨_, rfl⟩ (Nat.zero_le _) rfl (by repeat' first | exact trivial | refine And.intro ?_ ?_ | rfl)) ⟨rfl, by omega, rfl, by simp, by simp⟩ (fun k s h => h.2.1) ?_
  rintro k ⟨i, ve, ml⟩ Q' ⟨hi, hk, mlh, hok, hnd⟩ norm ex rt
  simp only at hi mlh
  by_cases hlt : k < ps.length
  · obtain ⟨x, hx⟩ : ∃ x, ps[k]? = some x := ⟨_, List.getElem?_eq_getElem hlt⟩
    have hxa := elt_at plh hi hx
    have hxm := List.mem_of_getElem? hx
    have hkeys : ((ps.take k).map seenE).map (·.1) = (ps.take k).map keyP := by rw [List.map_map]; rfl
    have hall : ∀ e ∈ (ps.take k).map seenE, e.2 = .s (.bool true) := fun e he => by obtain ⟨p, _, rfl⟩ := List.mem_map.1 he; rfl
    have hdup : keyP x ∈ (ps.take k).map keyP → K (bA false) := fun h => no2 (dup_no hx h)
    have hbad := no1 x hxm
    have hgood := (hps x).2
    have hnds := (nodup_take_succ hx).2
    have htk := take_succ_get hx
    obtain ⟨node, bind, list⟩ := x
    have hsx := hsg list h256
    have hnx := hnode node
    simp only [encPol, segsD] at hxa
    simp only [keyP] at hdup hnds
    simp only at hbad hgood
    generalize list.all sb = la at *
    generalize hdn : decide (0 ≤ node ∧ node < nodes) = dn at *
    have hdn' : dn = true ↔ 0 ≤ node ∧ node < nodes := by rw [← hdn]; simp
    generalize slh : List.map encSeg list = sl at *
    have sln : Λ sl = list.length := by rw [Λo, ← slh]; simp
    conv => cbv
    repeat' first | (refine ex _ _ _ ?_; (conv => cbv)) | (refine rt _ _ ?_; (conv => cbv)) | (intro e he; cases Option.some.inj (he.symm.trans hxa); (conv => cbv)) | (refine vlk_set mlh hall ?_ ?_ <;> rw [hkeys]) | refine vup_set mlh (by rw [hkeys]; assumption) ?_ | refine call_b hnx rfl rfl ?_ ?_ | refine call_b hsx rfl rfl ?_ ?_ | (intro (_ : Unit); first | omega | rfl | exact ⟨rfl, by omega⟩ | (simp only [nI_eq]; omega) | ((repeat' first | rfl | omega | refine And.intro ?_ ?_ | (simp only [nI_eq]; omega) | exact Nat.le_of_ble_eq_true rfl); done)) | exact trivial | refine And.intro ?_ ?_ | (intro hc; exact absurd hc (by decide)) | (intro hc; exfalso; omega) | (intro hc; (first | rw [wrap_small (by omega) (by omega)] at hc | rw [nI_eq] at hc | skip); try (conv => cbv))
    all_goals try first
      | exact hdup (by assumption)
      | (refine hbad ?_; intro hb; omega)
      | (refine hbad ?_; intro hb; exact absurd hb.2.2.2 (by rw [‹la = false›]; decide))
      | (refine hbad ?_; intro hb; exact absurd (hdn'.2 hb.1) (by rw [‹dn = false›]; decide))
    · rename_i es' hes i'
      refine norm _ _ (_, _, es') ?_ (Wk.cut ⟨_, rfl⟩ (Nat.zero_le _) rfl (by repeat' first | exact trivial | refine And.intro ?_ ?_ | rfl))
      have hdt := hdn'.1 (by assumption)
      have hlt' : la = true := by assumption
      have hkn : (node, bind) ∉ (ps.take k).map keyP := by assumption
      refine ⟨by simp only; omega, by omega, ?_, fun p hp => ?_, hnds ⟨hnd, hkn⟩⟩
      · simp only [← hes, htk, List.map_append]; rfl
      · rcases (mem_take_succ hx).1 hp with h | h
        · exact hok p h
        · rw [h]; exact hgood ⟨hdt, by omega, by omega, hlt'⟩
  · conv => cbv
    repeat' first | (refine ex _ _ _ ?_; (conv => cbv)) | (refine rt _ _ ?_; (conv => cbv)) | (intro (_ : Unit); first | omega | rfl | exact ⟨rfl, by omega⟩ | (simp only [nI_eq]; omega) | ((repeat' first | rfl | omega | refine And.intro ?_ ?_ | (simp only [nI_eq]; omega) | exact Nat.le_of_ble_eq_true rfl); done)) | exact trivial | refine And.intro ?_ ?_ | (intro hc; exact absurd hc (by decide)) | (intro hc; exfalso; omega) | (intro hc; (first | rw [wrap_small (by omega) (by omega)] at hc | rw [nI_eq] at hc | skip); try (conv => cbv))
    have ht : ps.take k = ps := List.take_of_length_le (by omega)
    rw [ht] at hok hnd
    exact yes hok hnd

end Go.Ab
