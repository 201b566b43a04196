/-
  Contracts of the shortest paths (the document's), part a: costs, masks.
-/
import Derived.Test.YtlmddegckmbgkaaLk
namespace Go.Ab
open Go.Proofs

theorem cost_ok (P : Program) (hP : P = Try.prog) (t : Top) (a : Int) : Ret P n_ref09_Cost [topA t, iA a] (iA (costT t a)) := by
  refine ret_start (hP ▸ mixed) (hP ▸ fn_ref09_Cost) (hP ▸ c_ref09_Cost) (Nat.le_of_ble_eq_true rfl) fun Λ Λo K hK => ?_
  have hw := arcs_ok P hP t
  clear hP
  have leaf : ∀ b, costT t a = b → K (iA b) := fun b hb => by rw [← hb]; exact hK
  have hv2 := arcsT_le t
  have hta : costT t a = if 0 ≤ a ∧ a < arcsT t then (if a % 2 = 0 then (lkAt t a).c0 else (lkAt t a).c1) else -1 := rfl
  have hat : ∀ x, t.links[(a / 2).toNat]? = some x → lkAt t a = x := fun x hx => by simp [lkAt, hx]
  generalize arcsT t = v at *
  obtain ⟨nodes, ov, links⟩ := t
  simp only [topA, boolsD, linksD] at *
  generalize hol : ov.map encB = ol at *
  generalize hll : links.map encLk = ll at *
  have hlo : Λ ol = ov.length := by rw [Λo, ← hol]; simp
  have hls : Λ ll = links.length := by rw [Λo, ← hll]; simp
  conv => cbv
  repeat' first | refine call_i hw rfl rfl ?_ | (intro hc; rw [tdiv2 (by omega) (by omega)] at hc; conv => cbv) | (intro hc; rw [tmod2 (by omega)] at hc; conv => cbv) | (intro (_ : Unit); decide) | (intro e he; obtain ⟨⟨xa, xb, xc, xd, xe, xf, xg⟩, hx, rfl⟩ := map_get' hll he; (conv => cbv)) | (intro (_ : Unit); first | omega | rfl | exact ⟨rfl, by omega⟩ | (simp only [nI_eq]; omega) | ((repeat' first | rfl | omega | refine And.intro ?_ ?_ | (simp only [nI_eq]; omega) | exact Nat.le_of_ble_eq_true rfl); done)) | exact trivial | refine And.intro ?_ ?_ | (intro hc; exact absurd hc (by decide)) | (intro hc; exfalso; omega) | (intro hc; (first | rw [wrap_small (by omega) (by omega)] at hc | rw [nI_eq] at hc | skip); try (conv => cbv))
  · exact leaf _ (by rw [hta, if_neg (by omega)])
  · exact leaf _ (by rw [hta, if_neg (by omega)])
  all_goals
    refine leaf _ ?_
    rw [hta, if_pos (by omega), hat _ (get_at hx (by omega))]
  · rw [if_pos (by omega)]
  · rw [if_neg (by omega)]

abbrev boolsA (l : List Bool) : AV := .c (.d (boolsD l))
def ovT (t : Top) (n : Int) : Bool := validT t && decide (0 ≤ n ∧ n < t.ov.length) && t.ov.getD n.toNat false

theorem overloaded_ok (P : Program) (hP : P = Try.prog) (t : Top) (n : Int) : Ret P n_ref09_Overloaded [topA t, iA n] (bA (ovT t n)) := by
  refine ret_start (hP ▸ mixed) (hP ▸ fn_ref09_Overloaded) (hP ▸ c_ref09_Overloaded) (Nat.le_of_ble_eq_true rfl) fun Λ Λo K hK => ?_
  have hw := valid_ok P hP t
  clear hP
  have leaf : ∀ b, ovT t n = b → K (bA b) := fun b hb => by rw [← hb]; exact hK
  have hta : ovT t n = (validT t && decide (0 ≤ n ∧ n < t.ov.length) && t.ov.getD n.toNat false) := rfl
  generalize ovT t n = r at *
  generalize validT t = v at *
  obtain ⟨nodes, ov, links⟩ := t
  simp only [topA, boolsD, linksD] at *
  generalize hol : ov.map encB = ol at *
  generalize hll : links.map encLk = ll at *
  have hlo : Λ ol = ov.length := by rw [Λo, ← hol]; simp
  have hls : Λ ll = links.length := by rw [Λo, ← hll]; simp
  conv => cbv
  repeat' first | refine call_b hw rfl rfl ?_ ?_ | (intro e he; obtain ⟨x, hx, rfl⟩ := map_get' hol he; (conv => cbv)) | (intro (_ : Unit); first | omega | rfl | exact ⟨rfl, by omega⟩ | (simp only [nI_eq]; omega) | ((repeat' first | rfl | omega | refine And.intro ?_ ?_ | (simp only [nI_eq]; omega) | exact Nat.le_of_ble_eq_true rfl); done)) | exact trivial | refine And.intro ?_ ?_ | (intro hc; exact absurd hc (by decide)) | (intro hc; exfalso; omega) | (intro hc; (first | rw [wrap_small (by omega) (by omega)] at hc | rw [nI_eq] at hc | skip); try (conv => cbv))
  · refine leaf _ (hta.trans ?_)
    rw [‹v = true›, decide_eq_true (by omega)]; simp [hx]
  · refine leaf _ (hta.trans ?_)
    rw [decide_eq_false (by omega)]; simp
  · refine leaf _ (hta.trans ?_)
    rw [decide_eq_false (by omega)]; simp
  · refine leaf _ (hta.trans ?_)
    rw [hc]; simp

def upB (down : List Bool) (a : Int) : Bool := decide (down.length = 0) || !down.getD a.toNat false

theorem up_ok (P : Program) (hP : P = Try.prog) (down : List Bool) (a : Int) (h : down.length = 0 ∨ (0 ≤ a ∧ a < down.length)) : Ret P n_ref11_Up [boolsA down, iA a] (bA (upB down a)) := by
  refine ret_start (hP ▸ mixed) (hP ▸ fn_ref11_Up) (hP ▸ c_ref11_Up) (Nat.le_of_ble_eq_true rfl) fun Λ Λo K hK => ?_
  clear hP
  have leaf : ∀ b, upB down a = b → K (bA b) := fun b hb => by rw [← hb]; exact hK
  have hta : upB down a = (decide (down.length = 0) || !down.getD a.toNat false) := rfl
  generalize upB down a = r at *
  simp only [boolsA, boolsD] at *
  generalize hdl : down.map encB = dl at *
  have hdn : Λ dl = down.length := by rw [Λo, ← hdl]; simp
  conv => cbv
  repeat' first | (intro e he; obtain ⟨x, hx, rfl⟩ := map_get' hdl he; (conv => cbv)) | (intro (_ : Unit); first | omega | rfl | exact ⟨rfl, by omega⟩ | (simp only [nI_eq]; omega) | ((repeat' first | rfl | omega | refine And.intro ?_ ?_ | (simp only [nI_eq]; omega) | exact Nat.le_of_ble_eq_true rfl); done)) | exact trivial | refine And.intro ?_ ?_ | (intro hc; exact absurd hc (by decide)) | (intro hc; exfalso; omega) | (intro hc; (first | rw [wrap_small (by omega) (by omega)] at hc | rw [nI_eq] at hc | skip); try (conv => cbv))
  · refine leaf _ (hta.trans ?_)
    rw [decide_eq_true (by omega)]; simp
  · have e : r = !x := by
      rw [hta, decide_eq_false (by omega)]; simp [hx]
    cases x
    · conv => cbv
      exact leaf _ e
    · conv => cbv
      exact leaf _ e

def fitsB (t : Top) (down : List Bool) : Bool := validT t && (decide (down.length = 0) || decide (down.length = 2 * t.links.length))

theorem fits_ok (P : Program) (hP : P = Try.prog) (t : Top) (down : List Bool) : Ret P n_ref11_Fits [topA t, boolsA down] (bA (fitsB t down)) := by
  refine ret_start (hP ▸ mixed) (hP ▸ fn_ref11_Fits) (hP ▸ c_ref11_Fits) (Nat.le_of_ble_eq_true rfl) fun Λ Λo K hK => ?_
  have hw := valid_ok P hP t
  clear hP
  have h256 : validT t = true → (t.links.length : Int) ≤ 256 := fun h => (validT_spec.1 h).2.2.1
  have leaf : ∀ b, fitsB t down = b → K (bA b) := fun b hb => by rw [← hb]; exact hK
  have hta : fitsB t down = (validT t && (decide (down.length = 0) || decide (down.length = 2 * t.links.length))) := rfl
  generalize fitsB t down = r at *
  generalize validT t = v at *
  simp only [boolsA, boolsD] at *
  generalize hdl : down.map encB = dl at *
  have hdn : Λ dl = down.length := by rw [Λo, ← hdl]; simp
  obtain ⟨nodes, ov, links⟩ := t
  simp only [topA, boolsD, linksD] at *
  generalize hol : ov.map encB = ol at *
  generalize hll : links.map encLk = ll at *
  have hlo : Λ ol = ov.length := by rw [Λo, ← hol]; simp
  have hls : Λ ll = links.length := by rw [Λo, ← hll]; simp
  cases v
  all_goals (try simp only [forall_const] at h256)
  all_goals (conv => cbv)
  all_goals (repeat' first | refine call_b hw rfl rfl ?_ ?_ | (intro hc; cases hc; done) | (intro (_ : Unit); first | omega | rfl | exact ⟨rfl, by omega⟩ | (simp only [nI_eq]; omega) | ((repeat' first | rfl | omega | refine And.intro ?_ ?_ | (simp only [nI_eq]; omega) | exact Nat.le_of_ble_eq_true rfl); done)) | exact trivial | refine And.intro ?_ ?_ | (intro hc; exact absurd hc (by decide)) | (intro hc; exfalso; omega) | (intro hc; (first | rw [wrap_small (by omega) (by omega)] at hc | rw [nI_eq] at hc | skip); try (conv => cbv)))
  · exact leaf _ (hta.trans (by simp))
  all_goals (refine leaf _ (hta.trans ?_); first | (rw [decide_eq_true (p := down.length = 0) (by omega)]; simp; done) | (rw [decide_eq_true (p := down.length = 2 * links.length) (by omega)]; simp; done) | (rw [decide_eq_false (p := down.length = 0) (by omega), decide_eq_false (p := down.length = 2 * links.length) (by omega)]; simp; done))

def transitB (t : Top) (n e : Int) : Bool := decide (n = e) || !ovT t n

theorem transit_ok (P : Program) (hP : P = Try.prog) (t : Top) (n e : Int) : Ret P n_ref11_transit [topA t, iA n, iA e] (bA (transitB t n e)) := by
  refine ret_start (hP ▸ mixed) (hP ▸ fn_ref11_transit) (hP ▸ c_ref11_transit) (Nat.le_of_ble_eq_true rfl) fun Λ Λo K hK => ?_
  have hw := overloaded_ok P hP t n
  clear hP
  have leaf : ∀ b, transitB t n e = b → K (bA b) := fun b hb => by rw [← hb]; exact hK
  have hta : transitB t n e = (decide (n = e) || !ovT t n) := rfl
  generalize transitB t n e = r at *
  generalize ovT t n = v at *
  obtain ⟨nodes, ov, links⟩ := t
  simp only [topA, boolsD, linksD] at *
  generalize hol : ov.map encB = ol at *
  generalize hll : links.map encLk = ll at *
  have hlo : Λ ol = ov.length := by rw [Λo, ← hol]; simp
  have hls : Λ ll = links.length := by rw [Λo, ← hll]; simp
  conv => cbv
  repeat' first | refine call_b hw rfl rfl ?_ ?_ | (intro (_ : Unit); first | omega | rfl | exact ⟨rfl, by omega⟩ | (simp only [nI_eq]; omega) | ((repeat' first | rfl | omega | refine And.intro ?_ ?_ | (simp only [nI_eq]; omega) | exact Nat.le_of_ble_eq_true rfl); done)) | exact trivial | refine And.intro ?_ ?_ | (intro hc; exact absurd hc (by decide)) | (intro hc; exfalso; omega) | (intro hc; (first | rw [wrap_small (by omega) (by omega)] at hc | rw [nI_eq] at hc | skip); try (conv => cbv))
  all_goals (refine leaf _ ?_; simp_all)

def arcsTo (k : Nat) : List Int := (List.range k).map fun (k : Nat) => (k : Int)
/-- the arcs from a node -/
def outT (t : Top) (n : Int) : List Int := (arcsTo (arcsT t).toNat).filter fun a => decide (tailT t a = n)

theorem arcsTo_succ (k : Nat) : arcsTo (k + 1) = arcsTo k ++ [(k : Int)] := by simp [arcsTo, List.range_succ]

theorem out_ok (P : Program) (hP : P = Try.prog) (t : Top) (n : Int) : Ret P n_ref09_Out [topA t, iA n] (intsA (outT t n)) := by
  refine ret_start (hP ▸ mixed) (hP ▸ fn_ref09_Out) (hP ▸ c_ref09_Out) (Nat.le_of_ble_eq_true rfl) fun Λ Λo K hK => ?_
  have hw := arcs_ok P hP t
  have ht := tail_ok P hP t
  clear hP
  have hv2 := arcsT_le t
  have ho : outT t n = (arcsTo (arcsT t).toNat).filter fun a => decide (tailT t a = n) := rfl
  rw [ho] at hK
  clear ho
  generalize hf : tailT t = f at *
  generalize arcsT t = v at *
  obtain ⟨nodes, ov, links⟩ := t
  simp only [topA, boolsD, linksD] at *
  generalize hol : ov.map encB = ol at *
  generalize hll : links.map encLk = ll at *
  have hlo : Λ ol = ov.length := by rw [Λo, ← hol]; simp
  have hls : Λ ll = links.length := by rw [Λo, ← hll]; simp
  simp only [intsA, intsD] at hK
  conv => cbv
  repeat' first | (intro (_ : Unit); first | omega | rfl | exact ⟨rfl, by omega⟩ | (simp only [nI_eq]; omega) | ((repeat' first | rfl | omega | refine And.intro ?_ ?_ | (simp only [nI_eq]; omega) | exact Nat.le_of_ble_eq_true rfl); done)) | exact trivial | refine And.intro ?_ ?_ | (intro hc; exact absurd hc (by decide)) | (intro hc; exfalso; omega) | (intro hc; (first | rw [wrap_small (by omega) (by omega)] at hc | rw [nI_eq] at hc | skip); try (conv => cbv))
  refine loop_up v.toNat (fun (s : Int × Nat × Nat × Bool × List (List D)) => [(1, iA n), (2, .c (.ptr 0 0 0 0)), (5, .c (.arr 1 s.2.1 0 s.2.2.1)), (6, iA s.1)]) (fun s => [.bx [.d (.int .i64 nodes), .d (.list false 1 ol), .d (.list false 7 ll)], .da s.2.2.2.1 s.2.1 1 s.2.2.2.2])
    (fun k s => s.1 = k ∧ k ≤ v.toNat ∧ s.2.2.1 = s.2.2.2.2.length ∧ s.2.2.2.2 = (((arcsTo k).filter fun a => decide (f a = n)).map encI)) (0, 0, 0, false, []) (.trans (.nilS 5 1 rfl) (Wk.cut ⟨_, rfl⟩ (Nat.zero_le _) rfl (by repeat' first | exact trivial | refine And.intro ?_ ?_ | rfl))) ⟨rfl, by omega, rfl, rfl⟩ (fun k s h => h.2.1) ?_
  rintro k ⟨i, ve, m, r, es⟩ Q' ⟨hi, hk, hm, hes⟩ norm ex rt
  simp only at hi hm hes
  have hesl : es.length ≤ k := by
    rw [hes, List.length_map]
    refine Nat.le_trans (List.length_filter_le _ _) ?_
    simp [arcsTo]
  conv => cbv
  repeat' first | (refine ex _ _ _ ?_; (conv => cbv)) | (refine rt _ _ ?_; (conv => cbv)) | refine call_i hw rfl rfl ?_ | refine call_i (ht _) rfl rfl ?_ | (intro (_ : Unit); refine ⟨rfl, ?_⟩; simp only [List.length_cons, List.length_nil]; omega) | (intro (_ : Unit); first | omega | rfl | exact ⟨rfl, by omega⟩ | (simp only [nI_eq]; omega) | ((repeat' first | rfl | omega | refine And.intro ?_ ?_ | (simp only [nI_eq]; omega) | exact Nat.le_of_ble_eq_true rfl); done)) | exact trivial | refine And.intro ?_ ?_ | (intro hc; exact absurd hc (by decide)) | (intro hc; exfalso; omega) | (intro hc; (first | rw [wrap_small (by omega) (by omega)] at hc | rw [nI_eq] at hc | skip); try (conv => cbv))
  · rename_i hfi hn m' r' es' hm' hr' he' i'
    refine norm _ _ (_, _, _, _, _) ?_ (Wk.cut ⟨_, rfl⟩ (Nat.zero_le _) rfl (by repeat' first | exact trivial | refine And.intro ?_ ?_ | rfl))
    have e : es' = ((arcsTo (k + 1)).filter fun a => decide (f a = n)).map encI := by
      rw [he', List.drop_zero, hm, List.take_length, hes, arcsTo_succ, List.filter_append, List.map_append]
      rw [← hi, List.filter_cons_of_pos (by simp only [decide_eq_true_eq]; omega)]; rfl
    exact ⟨by simp only; omega, by omega, by simp only; rw [hm', he', List.drop_zero, hm, List.take_length]; simp, e⟩
  · rename_i hfi hn i'
    refine norm _ _ (_, _, _, _, _) ?_ (Wk.cut ⟨_, rfl⟩ (Nat.zero_le _) rfl (by repeat' first | exact trivial | refine And.intro ?_ ?_ | rfl))
    have e : es = ((arcsTo (k + 1)).filter fun a => decide (f a = n)).map encI := by
      rw [hes, arcsTo_succ, List.filter_append, List.map_append]
      rw [← hi, List.filter_cons_of_neg (by simp only [decide_eq_true_eq]; omega)]; simp
    exact ⟨by simp only; omega, by omega, hm, e⟩
  · rename_i ls
    have e : ls = ((arcsTo v.toNat).filter fun a => decide (f a = n)).map encI := by
      rw [hc, List.drop_zero, hm, List.take_length, hes, show k = v.toNat by omega]
    subst e
    exact hK

end Go.Ab
