/-
  Shortest paths, part d: next arcs, routes.
-/
import Derived.Test.YtlmddegckmbgkaaMc
namespace Go.Ab
open Go.Proofs

theorem dist_ok (P : Program) (hP : P = Try.prog) (t : Top) (down : List Bool) (n : Int) : Ret P n_ref11_Dist [topA t, boolsA down, iA n] (.tup [intsA (searchS t down n false).1, iA (searchS t down n false).2]) := by
  have hs := search_ok P hP t down n false
  refine ret_start (hP ▸ mixed) (hP ▸ fn_ref11_Dist) (hP ▸ c_ref11_Dist) (Nat.le_of_ble_eq_true rfl) fun Λ Λo K hK => ?_
  clear hP
  generalize searchS t down n false = r at *
  obtain ⟨D, e⟩ := r
  simp only [intsA, intsD, boolsA, boolsD] at *
  generalize D.map encI = Dl at *
  generalize down.map encB = dl at *
  obtain ⟨nodes, ov, links⟩ := t
  simp only [topA, boolsD, linksD] at *
  generalize hol : ov.map encB = ol at *
  generalize hll : links.map encLk = ll at *
  have hlo : Λ ol = ov.length := by rw [Λo, ← hol]; simp
  have hls : Λ ll = links.length := by rw [Λo, ← hll]; simp
  conv => cbv
  repeat' first | (refine call_r hs rfl rfl ?_; conv => cbv) | (intro (_ : Unit); first | omega | rfl | exact ⟨rfl, by omega⟩ | (simp only [nI_eq]; omega) | ((repeat' first | rfl | omega | refine And.intro ?_ ?_ | (simp only [nI_eq]; omega) | exact Nat.le_of_ble_eq_true rfl); done)) | exact trivial | refine And.intro ?_ ?_ | (intro hc; exact absurd hc (by decide)) | (intro hc; exfalso; omega) | (intro hc; (first | rw [wrap_small (by omega) (by omega)] at hc | rw [nI_eq] at hc | skip); try (conv => cbv))
  exact hK

def onB (t : Top) (down : List Bool) (D : List Int) (a d : Int) : Bool :=
  upB down a && !decide (tailT t a = d) && decide (0 ≤ gt D (headT t a)) && transitB t (headT t a) d && decide (gt D (tailT t a) = gt D (headT t a) + costT t a)

set_option maxHeartbeats 1000000 in
theorem on_ok (P : Program) (hP : P = Try.prog) (t : Top) (down : List Bool) (D : List Int) (a d : Int) (hv : validT t = true) (hd : down.length = 0 ∨ down.length = 2 * t.links.length) (h0 : 0 ≤ a) (h1 : a < 2 * t.links.length) (hl : (D.length : Int) = t.nodes)
    (hb : ∀ i, 0 ≤ i → i < t.nodes → -1 ≤ gt D i ∧ gt D i ≤ 4194240) : Ret P n_ref11_On [topA t, boolsA down, intsA D, iA a, iA d] (bA (onB t down D a d)) := by
  have hta := tail_ok P hP t a
  have hha := head_ok P hP t a
  have hua := up_ok P hP down a (by omega)
  have htr := transit_ok P hP t (headT t a) d
  have hca := cost_ok P hP t a
  refine ret_start (hP ▸ mixed) (hP ▸ fn_ref11_On) (hP ▸ c_ref11_On) (Nat.le_of_ble_eq_true rfl) fun Λ Λo K hK => ?_
  clear hP
  have leaf : ∀ b, onB t down D a d = b → K (bA b) := fun b hb => by rw [← hb]; exact hK
  have hr : onB t down D a d = (upB down a && !decide (tailT t a = d) && decide (0 ≤ gt D (headT t a)) && transitB t (headT t a) d && decide (gt D (tailT t a) = gt D (headT t a) + costT t a)) := rfl
  clear hK
  obtain ⟨⟨x0, x1⟩, ⟨y0, y1⟩, hne, c0, c1⟩ := arc_facts hv h0 h1
  have hbx := hb _ x0 x1
  have hby := hb _ y0 y1
  generalize onB t down D a d = r at *
  generalize tailT t a = X at *
  generalize headT t a = Y at *
  generalize costT t a = C at *
  generalize transitB t Y d = tb at *
  generalize upB down a = ub at *
  simp only [intsA, intsD, boolsA, boolsD] at *
  generalize hes : D.map encI = es at *
  have hesn : Λ es = D.length := by rw [Λo, ← hes]; simp
  generalize hdl : down.map encB = dl at *
  obtain ⟨nodes, ov, links⟩ := t
  simp only [topA, boolsD, linksD] at *
  generalize hol : ov.map encB = ol at *
  generalize hll : links.map encLk = ll at *
  have hlo : Λ ol = ov.length := by rw [Λo, ← hol]; simp
  have hls : Λ ll = links.length := by rw [Λo, ← hll]; simp
  conv => cbv
  repeat' first | (intro e he; obtain ⟨x, hx, rfl⟩ := map_get' hes he; have hgY := gt_of (i := Y) hx; have hgX := gt_of (i := X) hx; (conv => cbv)) | (refine call_r hta rfl rfl ?_; conv => cbv) | (refine call_r hha rfl rfl ?_; conv => cbv) | refine call_b hua rfl rfl ?_ ?_ | refine call_b htr rfl rfl ?_ ?_ | (refine call_r hca rfl rfl ?_; conv => cbv) | (intro (_ : Unit); first | omega | rfl | exact ⟨rfl, by omega⟩ | (simp only [nI_eq]; omega) | ((repeat' first | rfl | omega | refine And.intro ?_ ?_ | (simp only [nI_eq]; omega) | exact Nat.le_of_ble_eq_true rfl); done)) | exact trivial | refine And.intro ?_ ?_ | (intro hc; exact absurd hc (by decide)) | (intro hc; exfalso; omega) | (intro hc; (first | rw [wrap_small (by omega) (by omega)] at hc | rw [nI_eq] at hc | skip); try (conv => cbv))
  all_goals clear hta hha hua htr hca
  · refine leaf _ (hr.trans ?_)
    rw [‹ub = true›, ‹tb = true›, decide_eq_false (p := X = d) (by assumption), decide_eq_true (p := 0 ≤ gt D Y) (by omega), decide_eq_true (p := gt D X = gt D Y + C) (by omega)]; rfl
  · refine leaf _ (hr.trans ?_)
    rw [decide_eq_false (p := gt D X = gt D Y + C) (by omega)]; simp
  · refine leaf _ (hr.trans ?_)
    rw [hc]; simp
  · refine leaf _ (hr.trans ?_)
    rw [decide_eq_false (p := 0 ≤ gt D Y) (by omega)]; simp
  · refine leaf _ (hr.trans ?_)
    rw [decide_eq_true hc]; simp
  · refine leaf _ (hr.trans ?_)
    rw [hc]; simp

/-- the arcs with which shortest paths begin -/
def nextL (t : Top) (down : List Bool) (D : List Int) (n d : Int) : List Int := (arcsTo (2 * t.links.length)).filter fun a => decide (tailT t a = n) && onB t down D a d

set_option maxHeartbeats 1000000 in
theorem nextl_ok (P : Program) (hP : P = Try.prog) (t : Top) (down : List Bool) (D : List Int) (n d : Int) (hv : validT t = true) (hd : down.length = 0 ∨ down.length = 2 * t.links.length) (hl : (D.length : Int) = t.nodes)
    (hb : ∀ i, 0 ≤ i → i < t.nodes → -1 ≤ gt D i ∧ gt D i ≤ 4194240) : Ret P n_ref12_next [topA t, boolsA down, intsA D, iA n, iA d] (intsA (nextL t down D n d)) := by
  have ht := tail_ok P hP t
  have hon := fun a h0 h1 => on_ok P hP t down D a d hv hd h0 h1 hl hb
  refine ret_start (hP ▸ mixed) (hP ▸ fn_ref12_next) (hP ▸ c_ref12_next) (Nat.le_of_ble_eq_true rfl) fun Λ Λo K hK => ?_
  clear hP
  have hl256 := (validT_spec.1 hv).2.2.1
  have ho : nextL t down D n d = (arcsTo (2 * t.links.length)).filter fun a => decide (tailT t a = n) && onB t down D a d := rfl
  rw [ho] at hK
  clear ho
  generalize hf : tailT t = f at *
  obtain ⟨g, hg⟩ : ∃ g : Int → Bool, ∀ a, onB t down D a d = g a := ⟨_, fun _ => rfl⟩
  simp only [hg] at hon hK
  clear hg
  simp only [intsA, intsD, boolsA, boolsD] at *
  generalize D.map encI = es at *
  generalize down.map encB = dl at *
  obtain ⟨nodes, ov, links⟩ := t
  simp only [topA, boolsD, linksD] at *
  generalize hol : ov.map encB = ol at *
  generalize hll : links.map encLk = ll at *
  have hlo : Λ ol = ov.length := by rw [Λo, ← hol]; simp
  have hls : Λ ll = links.length := by rw [Λo, ← hll]; simp
  generalize hv2 : 2 * links.length = v at *
  conv => cbv
  repeat' first | (intro (_ : Unit); first | omega | rfl | exact ⟨rfl, by omega⟩ | (simp only [nI_eq]; omega) | ((repeat' first | rfl | omega | refine And.intro ?_ ?_ | (simp only [nI_eq]; omega) | exact Nat.le_of_ble_eq_true rfl); done)) | exact trivial | refine And.intro ?_ ?_ | (intro hc; exact absurd hc (by decide)) | (intro hc; exfalso; omega) | (intro hc; (first | rw [wrap_small (by omega) (by omega)] at hc | rw [nI_eq] at hc | skip); try (conv => cbv))
  refine loop_up v (fun (s : Int × Nat × Nat × Bool × List (List Ab.D)) => [(1, .c (.d (.list false 1 dl))), (2, .c (.d (.list false 1 es))), (3, iA n), (4, iA d), (5, .c (.ptr 0 0 0 0)), (11, .c (.arr 1 s.2.1 0 s.2.2.1)), (12, iA s.1)]) (fun s => [.bx [.d (.int .i64 nodes), .d (.list false 1 ol), .d (.list false 7 ll)], .da s.2.2.2.1 s.2.1 1 s.2.2.2.2])
    (fun k s => s.1 = k ∧ k ≤ v ∧ s.2.2.1 = s.2.2.2.2.length ∧ s.2.2.2.2 = (((arcsTo k).filter fun a => decide (f a = n) && g a).map encI)) (0, 0, 0, false, []) (.trans (.nilS 11 1 rfl) (Wk.cut ⟨_, rfl⟩ (Nat.zero_le _) rfl (by repeat' first | exact trivial | refine And.intro ?_ ?_ | rfl))) ⟨rfl, by omega, rfl, rfl⟩ (fun k s h => h.2.1) ?_
  rintro k ⟨i, ve, m, r, es'⟩ Q' ⟨hi, hk, hm, hes⟩ norm ex rt
  simp only at hi hm hes
  have hesl : es'.length ≤ k := by
    rw [hes, List.length_map]
    refine Nat.le_trans (List.length_filter_le _ _) ?_
    simp [arcsTo]
  conv => cbv
  repeat' first | (refine ex _ _ _ ?_; (conv => cbv)) | (refine rt _ _ ?_; (conv => cbv)) | refine call_i (ht _) rfl rfl ?_ | refine call_b (hon _ (by omega) (by omega)) rfl rfl ?_ ?_ | (intro (_ : Unit); refine ⟨rfl, ?_⟩; simp only [List.length_cons, List.length_nil]; omega) | (intro (_ : Unit); first | omega | rfl | exact ⟨rfl, by omega⟩ | (simp only [nI_eq]; omega) | ((repeat' first | rfl | omega | refine And.intro ?_ ?_ | (simp only [nI_eq]; omega) | exact Nat.le_of_ble_eq_true rfl); done)) | exact trivial | refine And.intro ?_ ?_ | (intro hc; exact absurd hc (by decide)) | (intro hc; exfalso; omega) | (intro hc; (first | rw [wrap_small (by omega) (by omega)] at hc | rw [nI_eq] at hc | skip); try (conv => cbv))
  · rename_i hfi hn hgi m' r' es2 hm' hr' he' i'
    refine norm _ _ (_, _, _, _, _) ?_ (Wk.cut ⟨_, rfl⟩ (Nat.zero_le _) rfl (by repeat' first | exact trivial | refine And.intro ?_ ?_ | rfl))
    have e : es2 = ((arcsTo (k + 1)).filter fun a => decide (f a = n) && g a).map encI := by
      rw [he', List.drop_zero, hm, List.take_length, hes, arcsTo_succ, List.filter_append, List.map_append]
      rw [← hi, List.filter_cons_of_pos (by rw [hgi, decide_eq_true (by omega)]; rfl)]; rfl
    exact ⟨by simp only; omega, by omega, by simp only; rw [hm', he', List.drop_zero, hm, List.take_length]; simp, e⟩
  · rename_i hfi hn hgi i'
    refine norm _ _ (_, _, _, _, _) ?_ (Wk.cut ⟨_, rfl⟩ (Nat.zero_le _) rfl (by repeat' first | exact trivial | refine And.intro ?_ ?_ | rfl))
    have e : es' = ((arcsTo (k + 1)).filter fun a => decide (f a = n) && g a).map encI := by
      rw [hes, arcsTo_succ, List.filter_append, List.map_append]
      rw [← hi, List.filter_cons_of_neg (by rw [hgi]; simp)]; simp
    exact ⟨by simp only; omega, by omega, hm, e⟩
  · rename_i hfi hn i'
    refine norm _ _ (_, _, _, _, _) ?_ (Wk.cut ⟨_, rfl⟩ (Nat.zero_le _) rfl (by repeat' first | exact trivial | refine And.intro ?_ ?_ | rfl))
    have e : es' = ((arcsTo (k + 1)).filter fun a => decide (f a = n) && g a).map encI := by
      rw [hes, arcsTo_succ, List.filter_append, List.map_append]
      rw [← hi, List.filter_cons_of_neg (by rw [decide_eq_false (by omega)]; simp)]; simp
    exact ⟨by simp only; omega, by omega, hm, e⟩
  · rename_i ls
    have e : ls = ((arcsTo v).filter fun a => decide (f a = n) && g a).map encI := by
      rw [hc, List.drop_zero, hm, List.take_length, hes, show k = v by omega]
    subst e
    exact hK

theorem mid_end {t : Top} (hv : validT t = true) {down : List Bool} {e : Int} {fr : Bool} : ∀ (m : Nat) (D : List Int), msr D = m → Mid t down e fr D → ∃ D', Mid t down e fr D' ∧ ∀ a : Int, 0 ≤ a → a < 2 * t.links.length → fixAt t down e fr D' a := by
  intro m
  induction m using Nat.strongRecOn with
  | _ m ih =>
    intro D hm hD
    by_cases h : ∀ a : Int, 0 ≤ a → a < 2 * t.links.length → fixAt t down e fr D a
    · exact ⟨D, hD, h⟩
    · simp only [Classical.not_forall] at h
      obtain ⟨a, a0, a1, ha⟩ := h
      simp only [fixAt, Classical.not_forall] at ha
      obtain ⟨ho, hy, hn⟩ := ha
      obtain ⟨s1, s2⟩ := hD.step hv a0 a1 ho hy (by omega)
      exact ih _ (by omega) _ rfl s1

theorem distS_spec {t : Top} (hv : validT t = true) (down : List Bool) {n : Int} (fr : Bool) (h0 : 0 ≤ n) (h1 : n < t.nodes) : IsDist t down n fr (distS t down n fr) ∧ ∀ i, 0 ≤ i → i < t.nodes → -1 ≤ gt (distS t down n fr) i ∧ gt (distS t down n fr) i ≤ 4194240 := by
  obtain ⟨D, hD, hf⟩ := mid_end hv _ _ rfl (mid_start (t := t) (down := down) (n := n) (fr := fr) h0 h1)
  have hd := hD.dist hf
  rw [distS_eq hv hd]
  exact ⟨hd, fun i i0 i1 => ⟨hd.lo i i0 i1, hD.le hv i0 i1⟩⟩

noncomputable def nextS (t : Top) (down : List Bool) (n d : Int) : List Int × Int :=
  if fitsB t down = true then (if 0 ≤ d ∧ d < t.nodes then (if 0 ≤ n ∧ n < t.nodes then (nextL t down (distS t down d false) n d, 0) else ([], 2)) else ([], 2)) else ([], 1)

theorem next_ok (P : Program) (hP : P = Try.prog) (t : Top) (down : List Bool) (n d : Int) : Ret P n_ref12_Next [topA t, boolsA down, iA n, iA d] (.tup [intsA (nextS t down n d).1, iA (nextS t down n d).2]) := by
  have hs := dist_ok P hP t down d
  have hfb : fitsB t down = true → validT t = true ∧ (down.length = 0 ∨ down.length = 2 * t.links.length) := by
    intro h; simpa [fitsB] using h
  have hn := fun (hf : fitsB t down = true) (h : 0 ≤ d ∧ d < t.nodes) => nextl_ok P hP t down (distS t down d false) n d (hfb hf).1 (hfb hf).2 (distS_spec (hfb hf).1 down false h.1 h.2).1.len (distS_spec (hfb hf).1 down false h.1 h.2).2
  refine ret_start (hP ▸ mixed) (hP ▸ fn_ref12_Next) (hP ▸ c_ref12_Next) (Nat.le_of_ble_eq_true rfl) fun Λ Λo K hK => ?_
  clear hP hfb
  have hsr : searchS t down d false = if fitsB t down = true then (if 0 ≤ d ∧ d < t.nodes then (distS t down d false, 0) else ([], 2)) else ([], 1) := rfl
  have hnr : nextS t down n d = if fitsB t down = true then (if 0 ≤ d ∧ d < t.nodes then (if 0 ≤ n ∧ n < t.nodes then (nextL t down (distS t down d false) n d, 0) else ([], 2)) else ([], 2)) else ([], 1) := rfl
  generalize searchS t down d false = sr at *
  generalize nextS t down n d = nr at *
  generalize nextL t down (distS t down d false) n d = nl at *
  generalize distS t down d false = ds at *
  by_cases hf : fitsB t down = true
  · rw [if_pos hf] at hsr hnr
    by_cases hd : 0 ≤ d ∧ d < t.nodes
    · rw [if_pos hd] at hsr hnr
      have hn := hn hf hd
      subst hsr
      have k1 : ¬ (0 ≤ n ∧ n < t.nodes) → K (.tup [intsA [], iA 2]) := by intro h; rw [hnr, if_neg h] at hK; exact hK
      have k2 : (0 ≤ n ∧ n < t.nodes) → K (.tup [intsA nl, iA 0]) := by intro h; rw [hnr, if_pos h] at hK; exact hK
      clear hK hnr
      simp only [intsA, intsD, boolsA, boolsD, List.map_nil] at *
      generalize nl.map encI = nl' at *
      generalize ds.map encI = ds' at *
      generalize down.map encB = dl at *
      obtain ⟨nodes, ov, links⟩ := t
      simp only [topA, boolsD, linksD] at *
      generalize hol : ov.map encB = ol at *
      generalize hll : links.map encLk = ll at *
      have hlo : Λ ol = ov.length := by rw [Λo, ← hol]; simp
      have hls : Λ ll = links.length := by rw [Λo, ← hll]; simp
      conv => cbv
      repeat' first | (refine call_r hs rfl rfl ?_; conv => cbv) | (refine call_r hn rfl rfl ?_; conv => cbv) | (intro (_ : Unit); first | omega | rfl | exact ⟨rfl, by omega⟩ | (simp only [nI_eq]; omega) | ((repeat' first | rfl | omega | refine And.intro ?_ ?_ | (simp only [nI_eq]; omega) | exact Nat.le_of_ble_eq_true rfl); done)) | exact trivial | refine And.intro ?_ ?_ | (intro hc; exact absurd hc (by decide)) | (intro hc; exfalso; omega) | (intro hc; (first | rw [wrap_small (by omega) (by omega)] at hc | rw [nI_eq] at hc | skip); try (conv => cbv))
      · exact k1 (by omega)
      · exact k1 (by omega)
      · exact k2 (by omega)
    · rw [if_neg hd] at hsr hnr
      subst hsr hnr
      simp only [intsA, intsD, boolsA, boolsD, List.map_nil] at *
      generalize down.map encB = dl at *
      obtain ⟨nodes, ov, links⟩ := t
      simp only [topA, boolsD, linksD] at *
      generalize hol : ov.map encB = ol at *
      generalize hll : links.map encLk = ll at *
      have hlo : Λ ol = ov.length := by rw [Λo, ← hol]; simp
      have hls : Λ ll = links.length := by rw [Λo, ← hll]; simp
      conv => cbv
      repeat' first | (refine call_r hs rfl rfl ?_; conv => cbv) | (intro (_ : Unit); first | omega | rfl | exact ⟨rfl, by omega⟩ | (simp only [nI_eq]; omega) | ((repeat' first | rfl | omega | refine And.intro ?_ ?_ | (simp only [nI_eq]; omega) | exact Nat.le_of_ble_eq_true rfl); done)) | exact trivial | refine And.intro ?_ ?_ | (intro hc; exact absurd hc (by decide)) | (intro hc; exfalso; omega) | (intro hc; (first | rw [wrap_small (by omega) (by omega)] at hc | rw [nI_eq] at hc | skip); try (conv => cbv))
      exact hK
  · rw [if_neg hf] at hsr hnr
    subst hsr hnr
    simp only [intsA, intsD, boolsA, boolsD, List.map_nil] at *
    generalize down.map encB = dl at *
    obtain ⟨nodes, ov, links⟩ := t
    simp only [topA, boolsD, linksD] at *
    generalize hol : ov.map encB = ol at *
    generalize hll : links.map encLk = ll at *
    have hlo : Λ ol = ov.length := by rw [Λo, ← hol]; simp
    have hls : Λ ll = links.length := by rw [Λo, ← hll]; simp
    conv => cbv
    repeat' first | (refine call_r hs rfl rfl ?_; conv => cbv) | (intro (_ : Unit); first | omega | rfl | exact ⟨rfl, by omega⟩ | (simp only [nI_eq]; omega) | ((repeat' first | rfl | omega | refine And.intro ?_ ?_ | (simp only [nI_eq]; omega) | exact Nat.le_of_ble_eq_true rfl); done)) | exact trivial | refine And.intro ?_ ?_ | (intro hc; exact absurd hc (by decide)) | (intro hc; exfalso; omega) | (intro hc; (first | rw [wrap_small (by omega) (by omega)] at hc | rw [nI_eq] at hc | skip); try (conv => cbv))
    exact hK

end Go.Ab
