/-
  The statements of chapter 23, part g: the specification's step.
-/
import Derived.Test.YtlmddegckmbgkaaNc
namespace Go.Ab
open Go.Proofs

abbrev RAns := List Int × List Seg × Int
abbrev rA (x : RAns) : AV := .tup [intsA x.1, segsA x.2.1, iA x.2.2]
def rent (l : List Seg) (e : Ety) : RAns :=
  if e.rep = true then (if (e.push ++ l.drop 1).length > 32 then ([], [], 5) else (e.arcs, e.push ++ l.drop 1, 0)) else (e.arcs, l, 0)
def rplain (t : Top) (x : Tab) (p : Pkt) : RAns :=
  if p.dst = x.node then ([], [], -1)
  else if p.hops < 0 ∨ 255 ≤ p.hops then ([], [], 4)
  else if (0 ≤ p.dst ∧ p.dst < t.nodes) ∧ 0 < (ent x p.dst).arcs.length then rent [] (ent x p.dst) else ([], [], 1)
def rroute (t : Top) (x : Tab) (p : Pkt) : List Seg → RAns
  | [] => rplain t x p
  | s :: r =>
    if p.hops < 0 ∨ 255 ≤ p.hops then ([], [], 4)
    else if s.kind = 1 then (if (0 ≤ s.num ∧ s.num < t.nodes) ∧ 0 < (ent x s.num).arcs.length then rent (s :: r) (ent x s.num) else rplain t x p)
    else if s.kind = 2 then (if tailT t s.num = x.node then (if s.num ∈ x.down then rplain t x p else ([s.num], r, 0)) else ([], [], 2))
    else ([], [], 1)
/-- what becomes of the packet -/
def fin (p : Pkt) (a : RAns) : Ans :=
  if a.2.2 = -1 then (a.1, {p with stack := []}, a.2.2) else if a.2.2 = 0 then (a.1, {p with stack := a.2.1, hops := p.hops + 1}, a.2.2) else (a.1, p, a.2.2)

theorem fin_enter (p : Pkt) (l : List Seg) (e : Ety) : fin p (rent l e) = enterS p l e := by
  unfold rent enterS leaveS
  split
  · split <;> rfl
  · rfl
theorem fin_plain (t : Top) (x : Tab) (p : Pkt) : fin p (rplain t x p) = plainS t x p := by
  unfold rplain plainS
  split
  · rfl
  · split
    · rfl
    · split
      · exact fin_enter p [] _
      · rfl
theorem fin_route {t : Top} {x : Tab} (hv : tabB t x = true) (p : Pkt) (l : List Seg) : fin p (rroute t x p l) = routeS t x p l := by
  cases l with
  | nil => exact fin_plain t x p
  | cons s r =>
    have hs := tabB_spec.1 hv
    have ht : tailT t s.num = x.node ↔ (0 ≤ s.num ∧ s.num < 2 * t.links.length) ∧ tailG t s.num = x.node := by
      by_cases h : 0 ≤ s.num ∧ s.num < 2 * t.links.length
      · rw [tailT_valid hs.1 h.1 h.2]; exact ⟨fun g => ⟨h, g⟩, fun g => g.2⟩
      · rw [tailT_none hs.1 h]; exact ⟨fun g => by omega, fun g => absurd g.1 h⟩
    simp only [rroute, routeS, ht]
    split
    · rfl
    · split
      · split
        · exact fin_enter p _ _
        · exact fin_plain t x p
      · split
        · split
          · split
            · exact fin_plain t x p
            · rfl
          · rfl
        · rfl

theorem rroute_hops {t : Top} {x : Tab} {p : Pkt} {l : List Seg} (h : (rroute t x p l).2.2 = 0) : 0 ≤ p.hops ∧ p.hops < 255 := by
  have hp : (rplain t x p).2.2 = 0 → 0 ≤ p.hops ∧ p.hops < 255 := by
    intro h
    unfold rplain at h
    split at h
    · simp at h
    · split at h
      · simp at h
      · omega
  cases l with
  | nil => exact hp h
  | cons s r =>
    simp only [rroute] at h
    split at h
    · simp at h
    · omega

theorem rent_K {K : RAns → Prop} {l : List Seg} {e : Ety} (h : K (rent l e)) : (e.rep = true → (e.push ++ l.drop 1).length > 32 → K ([], [], 5)) ∧ (e.rep = true → ¬ (e.push ++ l.drop 1).length > 32 → K (e.arcs, e.push ++ l.drop 1, 0)) ∧ (e.rep = false → K (e.arcs, l, 0)) := by
  unfold rent at h
  refine ⟨fun h1 h2 => ?_, fun h1 h2 => ?_, fun h1 => ?_⟩
  · rw [if_pos h1, if_pos h2] at h; exact h
  · rw [if_pos h1, if_neg h2] at h; exact h
  · rw [if_neg (by rw [h1]; decide)] at h; exact h

theorem rplain_K {K : RAns → Prop} {t : Top} {x : Tab} {p : Pkt} (h : K (rplain t x p)) :
    (p.dst = x.node → K ([], [], -1)) ∧ (p.dst ≠ x.node → (p.hops < 0 ∨ 255 ≤ p.hops) → K ([], [], 4)) ∧
    (p.dst ≠ x.node → ¬ (p.hops < 0 ∨ 255 ≤ p.hops) → (0 ≤ p.dst ∧ p.dst < t.nodes) → 0 < (ent x p.dst).arcs.length → K (rent [] (ent x p.dst))) ∧
    (p.dst ≠ x.node → ¬ (p.hops < 0 ∨ 255 ≤ p.hops) → ¬ ((0 ≤ p.dst ∧ p.dst < t.nodes) ∧ 0 < (ent x p.dst).arcs.length) → K ([], [], 1)) := by
  unfold rplain at h
  refine ⟨fun h1 => ?_, fun h1 h2 => ?_, fun h1 h2 h3 h4 => ?_, fun h1 h2 h3 => ?_⟩
  · rw [if_pos h1] at h; exact h
  · rw [if_neg h1, if_pos h2] at h; exact h
  · rw [if_neg h1, if_neg h2, if_pos ⟨h3, h4⟩] at h; exact h
  · rw [if_neg h1, if_neg h2, if_neg h3] at h; exact h

set_option maxHeartbeats 4000000 in
theorem rplain_ok (P : Program) (hP : P = Try.prog) (t : Top) (x : Tab) (p : Pkt) (hf : Fit x p) (hto : (x.to.length : Int) = t.nodes) : Ret P n_ref23_Route [topA t, tabA x, pktA p, segsA []] (rA (rplain t x p)) := by
  refine ret_start (hP ▸ mixed) (hP ▸ fn_ref23_Route) (hP ▸ c_ref23_Route) (Nat.le_of_ble_eq_true rfl) fun Λ Λo K hK => ?_
  clear hP
  obtain ⟨f1, f2, f3, f4⟩ := rplain_K (K := fun a => K (rA a)) hK
  clear hK
  have f31 := fun h1 h2 h3 h4 => (rent_K (K := fun a => K (rA a)) (f3 h1 h2 h3 h4))
  clear f3
  obtain ⟨nodes, ov, links⟩ := t
  obtain ⟨node, to, down⟩ := x
  obtain ⟨id, src, dst, flow, stack, hops⟩ := p
  simp only at f1 f2 f31 f4 hto
  have hΛ0 : Λ [] = 0 := by rw [Λo]; rfl
  by_cases hd : 0 ≤ dst ∧ dst < nodes
  · have h3 : to[dst.toNat]? = some (to[dst.toNat]'(by omega)) := List.getElem?_eq_getElem (by omega)
    have h4 := hf.1 _ (List.getElem_mem (l := to) (n := dst.toNat) (by omega))
    have h5 : ent ⟨node, to, down⟩ dst = to[dst.toNat]'(by omega) := by simp [ent, List.getD, h3]
    rw [h5] at f31 f4
    generalize to[dst.toNat]'(by omega) = e at *
    obtain ⟨arcs, rep, push⟩ := e
    simp only [rA, topA, tabA, entsD, boolsD, linksD, segsA, segsD, pktA, intsA, intsD, List.map_nil, List.drop_nil, List.append_nil] at *
    have hxa : (to.map encEnt)[dst.toNat]? = some (encEnt ⟨arcs, rep, push⟩) := by simp [h3]
    generalize hol : ov.map encB = ol at *
    generalize hll : links.map encLk = ll at *
    generalize htl : to.map encEnt = tl at *
    have tln : Λ tl = to.length := by rw [Λo, ← htl]; simp
    generalize hdl : down.map encI = dl at *
    generalize stack.map encSeg = sl at *
    simp only [encEnt, intsD, segsD] at hxa
    generalize alh : List.map encI arcs = al at *
    have aln : Λ al = arcs.length := by rw [Λo, ← alh]; simp
    generalize plh : List.map encSeg push = pl at *
    have pln : Λ pl = push.length := by rw [Λo, ← plh]; simp
    have alL : al.length ≤ 1000 := by rw [← alh, List.length_map]; exact h4.1
    have plL : pl.length ≤ 1000 := by rw [← plh, List.length_map]; exact h4.2
    have plk : pl.length = push.length := by rw [← plh, List.length_map]
    cases rep
    all_goals (conv => cbv)
    all_goals (repeat' first | (intro e he; cases Option.some.inj (he.symm.trans hxa); (conv => cbv)) | (intro (_ : Unit); first | omega | rfl | exact ⟨rfl, by omega⟩ | (simp only [nI_eq]; omega) | ((repeat' first | rfl | omega | refine And.intro ?_ ?_ | (simp only [nI_eq]; omega) | exact Nat.le_of_ble_eq_true rfl); done)) | exact trivial | refine And.intro ?_ ?_ | (intro hc; exact absurd hc (by decide)) | (intro hc; exfalso; omega) | (intro hc; (first | rw [wrap_small (by omega) (by omega)] at hc | rw [nI_eq] at hc | skip); try (conv => cbv)))
    all_goals first
      | exact f1 ‹dst = node›
      | exact f2 ‹¬ dst = node› (by omega)
      | exact f4 ‹¬ dst = node› (by omega) (by omega)
      | exact (f31 ‹¬ dst = node› (by omega) hd (by omega)).1 rfl (by omega)
      | (have g := (f31 ‹¬ dst = node› (by omega) hd (by omega)).2.1 rfl (by omega); clear f1 f2 f4 f31; subst_vars; simp only [List.take_zero, List.drop_nil, List.nil_append, List.drop_zero, Nat.zero_add, List.take_length] at g ⊢; exact g)
      | (have g := (f31 ‹¬ dst = node› (by omega) hd (by omega)).2.2 rfl; clear f1 f2 f4 f31; subst_vars; simp only [List.take_zero, List.drop_nil, List.nil_append, List.drop_zero, Nat.zero_add, List.take_length] at g ⊢; exact g)
  · clear f31
    simp only [rA, topA, tabA, entsD, boolsD, linksD, segsA, segsD, pktA, intsA, intsD, List.map_nil] at *
    generalize hol : ov.map encB = ol at *
    generalize hll : links.map encLk = ll at *
    generalize htl : to.map encEnt = tl at *
    generalize hdl : down.map encI = dl at *
    generalize stack.map encSeg = sl at *
    conv => cbv
    repeat' first | (intro (_ : Unit); first | omega | rfl | exact ⟨rfl, by omega⟩ | (simp only [nI_eq]; omega) | ((repeat' first | rfl | omega | refine And.intro ?_ ?_ | (simp only [nI_eq]; omega) | exact Nat.le_of_ble_eq_true rfl); done)) | exact trivial | refine And.intro ?_ ?_ | (intro hc; exact absurd hc (by decide)) | (intro hc; exfalso; omega) | (intro hc; (first | rw [wrap_small (by omega) (by omega)] at hc | rw [nI_eq] at hc | skip); try (conv => cbv))
    all_goals first
      | exact f1 ‹dst = node›
      | exact f2 ‹¬ dst = node› (by omega)
      | exact f4 ‹¬ dst = node› (by omega) (by omega)

theorem rroute_K {K : RAns → Prop} {t : Top} {x : Tab} {p : Pkt} {s : Seg} {r : List Seg} (h : K (rroute t x p (s :: r))) :
    ((p.hops < 0 ∨ 255 ≤ p.hops) → K ([], [], 4)) ∧
    (¬ (p.hops < 0 ∨ 255 ≤ p.hops) → s.kind = 1 → (0 ≤ s.num ∧ s.num < t.nodes) → 0 < (ent x s.num).arcs.length → K (rent (s :: r) (ent x s.num))) ∧
    (¬ (p.hops < 0 ∨ 255 ≤ p.hops) → s.kind = 1 → ¬ ((0 ≤ s.num ∧ s.num < t.nodes) ∧ 0 < (ent x s.num).arcs.length) → K (rplain t x p)) ∧
    (¬ (p.hops < 0 ∨ 255 ≤ p.hops) → s.kind = 2 → ¬ tailT t s.num = x.node → K ([], [], 2)) ∧
    (¬ (p.hops < 0 ∨ 255 ≤ p.hops) → s.kind = 2 → tailT t s.num = x.node → s.num ∈ x.down → K (rplain t x p)) ∧
    (¬ (p.hops < 0 ∨ 255 ≤ p.hops) → s.kind = 2 → tailT t s.num = x.node → s.num ∉ x.down → K ([s.num], r, 0)) ∧
    (¬ (p.hops < 0 ∨ 255 ≤ p.hops) → s.kind ≠ 1 → s.kind ≠ 2 → K ([], [], 1)) := by
  simp only [rroute] at h
  refine ⟨fun h1 => ?_, fun h1 h2 h3 h4 => ?_, fun h1 h2 h3 => ?_, fun h1 h2 h3 => ?_, fun h1 h2 h3 h4 => ?_, fun h1 h2 h3 h4 => ?_, fun h1 h2 h3 => ?_⟩
  · rw [if_pos h1] at h; exact h
  · rw [if_neg h1, if_pos h2, if_pos ⟨h3, h4⟩] at h; exact h
  · rw [if_neg h1, if_pos h2, if_neg h3] at h; exact h
  · rw [if_neg h1, if_neg (by omega), if_pos h2, if_neg h3] at h; exact h
  · rw [if_neg h1, if_neg (by omega), if_pos h2, if_pos h3, if_pos h4] at h; exact h
  · rw [if_neg h1, if_neg (by omega), if_pos h2, if_pos h3, if_neg h4] at h; exact h
  · rw [if_neg h1, if_neg h2, if_neg h3] at h; exact h

set_option maxHeartbeats 4000000 in
theorem rroute_ok (P : Program) (hP : P = Try.prog) (t : Top) (x : Tab) (p : Pkt) (l : List Seg) (hf : Fit x p) (hl : l.length ≤ 1000) (hto : (x.to.length : Int) = t.nodes) : Ret P n_ref23_Route [topA t, tabA x, pktA p, segsA l] (rA (rroute t x p l)) := by
  cases l with
  | nil => exact rplain_ok P hP t x p hf hto
  | cons s rs =>
  have hpl := rplain_ok P hP t x p hf hto
  have htail := tail_ok P hP t s.num
  have hhas := has_ok P hP x.down s.num
  refine ret_start (hP ▸ mixed) (hP ▸ fn_ref23_Route) (hP ▸ c_ref23_Route) (Nat.le_of_ble_eq_true rfl) fun Λ Λo K hK => ?_
  clear hP
  obtain ⟨f1, f2, f3, f4, f5, f6, f7⟩ := rroute_K (K := fun a => K (rA a)) hK
  clear hK
  have f2 := fun h1 h2 h3 h4 => (rent_K (K := fun a => K (rA a)) (f2 h1 h2 h3 h4))
  generalize rplain t x p = rp at *
  obtain ⟨ra, rl, rr⟩ := rp
  obtain ⟨sk, sn⟩ := s
  simp only at f1 f2 f3 f4 f5 f6 f7 htail hhas hto
  generalize tailT t sn = tt at *
  obtain ⟨nodes, ov, links⟩ := t
  obtain ⟨node, to, down⟩ := x
  obtain ⟨id, src, dst, flow, stack, hops⟩ := p
  simp only at f1 f2 f3 f4 f5 f6 f7 hto hhas
  generalize hdm : decide (sn ∈ down) = dm at *
  have hdm' : sn ∈ down ↔ dm = true := by rw [← hdm]; simp
  have f5 := fun h1 h2 h3 (h4 : dm = true) => f5 h1 h2 h3 (hdm'.2 h4)
  have f6 := fun h1 h2 h3 (h4 : dm = false) => f6 h1 h2 h3 (fun h => by rw [hdm'.1 h] at h4; cases h4)
  clear hdm hdm'
  have hrsl : rs.length ≤ 1000 := by simp only [List.length_cons] at hl; omega
  have hsl : Λ (List.map encSeg (⟨sk, sn⟩ :: rs)) = rs.length + 1 := by rw [Λo]; simp
  have hsl0 : (List.map encSeg (⟨sk, sn⟩ :: rs))[(0 : Int).toNat]? = some [iD sk, iD sn] := rfl
  have hsl1 : List.drop 1 (List.map encSeg (⟨sk, sn⟩ :: rs)) = List.map encSeg rs := rfl
  have hrsm : (List.map encSeg rs).length = rs.length := by simp
  by_cases hd : 0 ≤ sn ∧ sn < nodes
  · have h3 : to[sn.toNat]? = some (to[sn.toNat]'(by omega)) := List.getElem?_eq_getElem (by omega)
    have h4 := hf.1 _ (List.getElem_mem (l := to) (n := sn.toNat) (by omega))
    have h5 : ent ⟨node, to, down⟩ sn = to[sn.toNat]'(by omega) := by simp [ent, List.getD, h3]
    rw [h5] at f2 f3
    generalize to[sn.toNat]'(by omega) = e at *
    obtain ⟨arcs, rep, push⟩ := e
    simp only [rA, topA, tabA, entsD, boolsD, linksD, segsA, segsD, pktA, intsA, intsD, List.map_nil, List.map_append, List.length_append, List.drop_succ_cons, List.drop_zero] at *
    have hxa : (to.map encEnt)[sn.toNat]? = some (encEnt ⟨arcs, rep, push⟩) := by simp [h3]
    generalize List.map encSeg (⟨sk, sn⟩ :: rs) = sl at *
    generalize List.map encSeg rs = rsl at *
    generalize hol : ov.map encB = ol at *
    generalize hll : links.map encLk = ll at *
    generalize htl : to.map encEnt = tl at *
    have tln : Λ tl = to.length := by rw [Λo, ← htl]; simp
    generalize hdl : down.map encI = dl at *
    generalize stack.map encSeg = skl at *
    generalize ra.map encI = ral at *
    generalize rl.map encSeg = rll at *
    simp only [encEnt, intsD, segsD] at hxa
    generalize alh : List.map encI arcs = al at *
    have aln : Λ al = arcs.length := by rw [Λo, ← alh]; simp
    generalize plh : List.map encSeg push = pl at *
    have pln : Λ pl = push.length := by rw [Λo, ← plh]; simp
    have alL : al.length ≤ 1000 := by rw [← alh, List.length_map]; exact h4.1
    have plL : pl.length ≤ 1000 := by rw [← plh, List.length_map]; exact h4.2
    have plk : pl.length = push.length := by rw [← plh, List.length_map]
    cases rep
    all_goals (conv => cbv)
    all_goals (repeat' first | (intro e he; cases Option.some.inj (he.symm.trans hxa); (conv => cbv)) | (intro e he; cases Option.some.inj (he.symm.trans hsl0); (conv => cbv)) | (intro x hx; have e := hx.trans hsl1; subst e; (conv => cbv)) | refine call_i htail rfl rfl ?_ | refine call_b hhas rfl rfl ?_ ?_ | (refine call_r hpl rfl rfl ?_; conv => cbv) | (intro (_ : Unit); first | omega | rfl | exact ⟨rfl, by omega⟩ | (simp only [nI_eq]; omega) | ((repeat' first | rfl | omega | refine And.intro ?_ ?_ | (simp only [nI_eq]; omega) | exact Nat.le_of_ble_eq_true rfl); done)) | exact trivial | refine And.intro ?_ ?_ | (intro hc; exact absurd hc (by decide)) | (intro hc; exfalso; omega) | (intro hc; (first | rw [wrap_small (by omega) (by omega)] at hc | rw [nI_eq] at hc | skip); try (conv => cbv)))
    all_goals first
      | exact f1 (by omega)
      | exact f4 (by omega) (by omega) (by omega)
      | exact f7 (by omega) (by omega) (by omega)
      | exact f5 (by omega) (by omega) (by omega) ‹dm = true›
      | exact f3 (by omega) (by omega) (by omega)
      | (have g := f6 (by omega) (by omega) (by omega) ‹dm = false›; clear f1 f2 f3 f4 f5 f6 f7; subst_vars; exact g)
      | exact (f2 (by omega) (by omega) hd (by omega)).1 rfl (by omega)
      | (have g := (f2 (by omega) (by omega) hd (by omega)).2.1 rfl (by omega); clear f1 f2 f3 f4 f5 f6 f7; subst_vars; simp only [List.take_zero, List.drop_nil, List.nil_append, List.drop_zero, Nat.zero_add, List.take_length, ← List.length_append] at g ⊢; exact g)
      | (have g := (f2 (by omega) (by omega) hd (by omega)).2.2 rfl; clear f1 f2 f3 f4 f5 f6 f7; subst_vars; simp only [List.take_zero, List.drop_nil, List.nil_append, List.drop_zero, Nat.zero_add, List.take_length, ← List.length_append] at g ⊢; exact g)
      | trace_state
  · clear f2
    simp only [rA, topA, tabA, entsD, boolsD, linksD, segsA, segsD, pktA, intsA, intsD, List.map_nil] at *
    generalize List.map encSeg (⟨sk, sn⟩ :: rs) = sl at *
    generalize List.map encSeg rs = rsl at *
    generalize hol : ov.map encB = ol at *
    generalize hll : links.map encLk = ll at *
    generalize htl : to.map encEnt = tl at *
    generalize hdl : down.map encI = dl at *
    generalize stack.map encSeg = skl at *
    generalize ra.map encI = ral at *
    generalize rl.map encSeg = rll at *
    conv => cbv
    repeat' first | (intro e he; cases Option.some.inj (he.symm.trans hsl0); (conv => cbv)) | (intro x hx; have e := hx.trans hsl1; subst e; (conv => cbv)) | refine call_i htail rfl rfl ?_ | refine call_b hhas rfl rfl ?_ ?_ | (refine call_r hpl rfl rfl ?_; conv => cbv) | (intro (_ : Unit); first | omega | rfl | exact ⟨rfl, by omega⟩ | (simp only [nI_eq]; omega) | ((repeat' first | rfl | omega | refine And.intro ?_ ?_ | (simp only [nI_eq]; omega) | exact Nat.le_of_ble_eq_true rfl); done)) | exact trivial | refine And.intro ?_ ?_ | (intro hc; exact absurd hc (by decide)) | (intro hc; exfalso; omega) | (intro hc; (first | rw [wrap_small (by omega) (by omega)] at hc | rw [nI_eq] at hc | skip); try (conv => cbv))
    all_goals first
      | exact f1 (by omega)
      | exact f4 (by omega) (by omega) (by omega)
      | exact f7 (by omega) (by omega) (by omega)
      | exact f5 (by omega) (by omega) (by omega) ‹dm = true›
      | exact f3 (by omega) (by omega) (by omega)
      | (have g := f6 (by omega) (by omega) (by omega) ‹dm = false›; clear f1 f2 f3 f4 f5 f6 f7; subst_vars; exact g)
      | trace_state

end Go.Ab
