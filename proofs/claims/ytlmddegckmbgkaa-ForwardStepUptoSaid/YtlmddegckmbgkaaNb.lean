/-
  The statements of chapter 23, part b: packets without segments.
-/
import Derived.Test.YtlmddegckmbgkaaNa
namespace Go.Ab
open Go.Proofs

theorem step_plain {t : Top} {x : Tab} {p : Pkt} (hv : tabB t x = true) (hd : 0 ≤ p.dst ∧ p.dst < t.nodes) (hh : 0 ≤ p.hops ∧ p.hops < 255) (hs : p.stack = []) :
    (p.dst = x.node → stepS t x p = ([], p, -1)) ∧ (p.dst ≠ x.node → (ent x p.dst).arcs.length = 0 → stepS t x p = ([], p, 1)) ∧
    (p.dst ≠ x.node → 0 < (ent x p.dst).arcs.length → stepS t x p = ((ent x p.dst).arcs, {p with stack := (ent x p.dst).push, hops := p.hops + 1}, 0)) := by
  have e0 : stepS t x p = plainS t x p := by
    unfold stepS
    rw [if_pos ⟨hv, hd⟩, hs, if_neg (by simp)]
    rfl
  have hp : ({p with stack := []} : Pkt) = p := by cases p; simp only at hs; subst hs; rfl
  rw [e0]
  unfold plainS
  refine ⟨fun h => ?_, fun h h' => ?_, fun h h' => ?_⟩
  · rw [if_pos h, hp]
  · rw [if_neg h, if_neg (by omega), if_neg (by omega)]
  · rw [if_neg h, if_neg (by omega), if_pos ⟨hd, h'⟩]
    have hsp := tabB_spec.1 hv
    have hg : x.to[p.dst.toNat]? = some (ent x p.dst) := by
      have hlt : p.dst.toNat < x.to.length := by omega
      rw [ent, List.getD_eq_getElem?_getD, List.getElem?_eq_getElem hlt]; rfl
    have he := entB_spec.1 (hsp.2.2.2.2 _ _ hg)
    unfold enterS leaveS
    cases hr : (ent x p.dst).rep with
    | true =>
      have := he.2.2.1 hr
      rw [if_pos rfl, if_neg (by simp; omega)]
      simp
    | false =>
      have := he.2.2.2.1 hr
      rw [if_neg (by simp)]
      have hn : (ent x p.dst).push = [] := List.eq_nil_of_length_eq_zero this
      rw [hn]

theorem large_no {c : Cas} (h : largeB c = false) : sizeC c ≤ 400 ∧ c.x.to.length ≤ 70 ∧ c.t.ov.length ≤ 100 ∧ c.t.links.length ≤ 40 := by
  simp only [largeB, Bool.or_eq_false_iff, decide_eq_false_iff_not] at h; omega

theorem ent_le {l : List Ety} {e : Ety} (h : e ∈ l) : e.arcs.length + e.push.length ≤ entSum l := by
  induction l with
  | nil => cases h
  | cons a l ih =>
    simp only [entSum, List.map_cons, List.sum_cons]
    rcases List.mem_cons.1 h with h | h
    · subst h; omega
    · have := ih h; simp only [entSum] at this; omega

theorem fit_of {c : Cas} (h : largeB c = false) : Fit c.x c.p := by
  have h1 := (large_no h).1
  simp only [sizeC] at h1
  exact ⟨fun e he => by have := ent_le he; omega, by omega⟩

set_option maxHeartbeats 4000000 in
theorem plain_law (P : Program) (hP : P = Try.prog) (c : Cas) (hs : sizeC c ≤ 10000000) : Ret P n_law23_ForwardPlain [casA c] (bA true) := by
  have haw : Ret P n_law23_awake [] (bA true) := hP ▸ awake_ok
  have hlg := large_ok P hP c hs
  have hval := rtableValid_ok P hP c.t c.x
  have hstep := fun (h : largeB c = false) => step_ok P hP c.t c.x {c.p with stack := []} ⟨(fit_of h).1, by simp⟩
  have hsi := fun a b => sameInts_ok P hP a b
  have hss := fun a b => sameSegs_ok P hP a b
  refine ret_start (hP ▸ mixed) (hP ▸ fn_law23_ForwardPlain) (hP ▸ c_law23_ForwardPlain) (Nat.le_of_ble_eq_true rfl) fun Λ Λo K hK => ?_
  clear hP
  have hsp := fun h1 h2 h3 => @step_plain c.t c.x {c.p with stack := []} h1 h2 h3 rfl
  have htl : tabB c.t c.x = true → (c.x.to.length : Int) = c.t.nodes := fun h => (tabB_spec.1 h).2.2.1
  obtain ⟨t, ⟨node, to, down⟩, ⟨id, src, dst, flow, stack, hops⟩⟩ := c
  simp only at hsp htl hval hstep
  generalize largeB _ = lg at *
  generalize tabB t ⟨node, to, down⟩ = tb at *
  generalize stepS t ⟨node, to, down⟩ ⟨id, src, dst, flow, [], hops⟩ = st at *
  have hent : ∀ n : Int, 0 ≤ n → n < to.length → to[n.toNat]? = some (ent ⟨node, to, down⟩ n) := by
    intro n h0 h1
    have hlt : n.toNat < to.length := by omega
    rw [ent, List.getD_eq_getElem?_getD, List.getElem?_eq_getElem hlt]; rfl
  generalize ent ⟨node, to, down⟩ = en at *
  simp only [casA, tabA, pktA, ansA, tupA, boolsD, linksD, entsD, intsD, segsD, List.map_nil] at *
  generalize down.map encI = dl at *
  generalize stack.map encSeg = sl at *
  generalize elh : List.map encEnt to = el at *
  have eln : Λ el = to.length := by rw [Λo, ← elh]; simp
  obtain ⟨nodes, ov, links⟩ := t
  simp only [topA, boolsD, linksD] at *
  generalize hol : ov.map encB = ol at *
  generalize hll : links.map encLk = ll at *
  have hlo : Λ ol = ov.length := by rw [Λo, ← hol]; simp
  have hls : Λ ll = links.length := by rw [Λo, ← hll]; simp
  cases lg
  case true =>
    conv => cbv
    repeat' first | refine call_b haw rfl rfl ?_ ?_ | refine call_b hlg rfl rfl ?_ ?_ | (intro hc; cases hc; done) | (intro (_ : Unit); first | omega | rfl | exact ⟨rfl, by omega⟩ | (simp only [nI_eq]; omega) | ((repeat' first | rfl | omega | refine And.intro ?_ ?_ | (simp only [nI_eq]; omega) | exact Nat.le_of_ble_eq_true rfl); done)) | exact trivial | refine And.intro ?_ ?_ | (intro hc; exact absurd hc (by decide)) | (intro hc; exfalso; omega) | (intro hc; (first | rw [wrap_small (by omega) (by omega)] at hc | rw [nI_eq] at hc | skip); try (conv => cbv))
    exact hK
  cases tb
  case false =>
    conv => cbv
    repeat' first | refine call_b haw rfl rfl ?_ ?_ | refine call_b hlg rfl rfl ?_ ?_ | refine call_b hval rfl rfl ?_ ?_ | (intro hc; cases hc; done) | (intro (_ : Unit); first | omega | rfl | exact ⟨rfl, by omega⟩ | (simp only [nI_eq]; omega) | ((repeat' first | rfl | omega | refine And.intro ?_ ?_ | (simp only [nI_eq]; omega) | exact Nat.le_of_ble_eq_true rfl); done)) | exact trivial | refine And.intro ?_ ?_ | (intro hc; exact absurd hc (by decide)) | (intro hc; exfalso; omega) | (intro hc; (first | rw [wrap_small (by omega) (by omega)] at hc | rw [nI_eq] at hc | skip); try (conv => cbv))
    exact hK
  have hstep := hstep rfl
  have htl := htl rfl
  by_cases hcd : (0 ≤ dst ∧ dst < nodes) ∧ (0 ≤ hops ∧ hops < 255)
  case neg =>
    conv => cbv
    repeat' first | refine call_b haw rfl rfl ?_ ?_ | refine call_b hlg rfl rfl ?_ ?_ | refine call_b hval rfl rfl ?_ ?_ | (intro hc; cases hc; done) | (intro (_ : Unit); first | omega | rfl | exact ⟨rfl, by omega⟩ | (simp only [nI_eq]; omega) | ((repeat' first | rfl | omega | refine And.intro ?_ ?_ | (simp only [nI_eq]; omega) | exact Nat.le_of_ble_eq_true rfl); done)) | exact trivial | refine And.intro ?_ ?_ | (intro hc; exact absurd hc (by decide)) | (intro hc; exfalso; omega) | (intro hc; (first | rw [wrap_small (by omega) (by omega)] at hc | rw [nI_eq] at hc | skip); try (conv => cbv))
    all_goals first | exact hK | (exfalso; omega)
  obtain ⟨f1, f2, f3⟩ := hsp rfl hcd.1 hcd.2
  clear hsp
  have hx := hent dst hcd.1.1 (by omega)
  generalize en dst = e at *
  obtain ⟨arcs, rep, push⟩ := e
  simp only at f1 f2 f3
  have hxa : el[dst.toNat]? = some (encEnt ⟨arcs, rep, push⟩) := by rw [← elh]; simp [hx]
  have hsi := hsi arcs arcs
  have hss := hss push push
  simp only [encEnt, intsA, intsD, segsA, segsD] at hxa hsi hss
  have hΛ0 : Λ [] = 0 := by rw [Λo]; rfl
  simp only [decide_true] at hsi hss
  have haln : Λ (arcs.map encI) = arcs.length := by rw [Λo]; simp
  by_cases h1 : dst = node
  · have f1 := f1 h1
    subst f1
    generalize hal : arcs.map encI = al at *
    generalize hpl : push.map encSeg = pl at *
    simp only [List.map_nil] at hstep
    conv => cbv
    repeat' first | refine call_b haw rfl rfl ?_ ?_ | refine call_b hlg rfl rfl ?_ ?_ | refine call_b hval rfl rfl ?_ ?_ | (intro hc; cases hc; done) | (refine call_r hstep rfl rfl ?_; conv => cbv) | (intro e he; cases Option.some.inj (he.symm.trans hxa); (conv => cbv)) | (intro (_ : Unit); first | omega | rfl | exact ⟨rfl, by omega⟩ | (simp only [nI_eq]; omega) | ((repeat' first | rfl | omega | refine And.intro ?_ ?_ | (simp only [nI_eq]; omega) | exact Nat.le_of_ble_eq_true rfl); done)) | exact trivial | refine And.intro ?_ ?_ | (intro hc; exact absurd hc (by decide)) | (intro hc; exfalso; omega) | (intro hc; (first | rw [wrap_small (by omega) (by omega)] at hc | rw [nI_eq] at hc | skip); try (conv => cbv))
    all_goals first | exact hK | (exfalso; omega)
  · by_cases h2 : arcs.length = 0
    · have f2 := f2 h1 h2
      subst f2
      generalize hal : arcs.map encI = al at *
      generalize hpl : push.map encSeg = pl at *
      simp only [List.map_nil] at hstep
      conv => cbv
      repeat' first | refine call_b haw rfl rfl ?_ ?_ | refine call_b hlg rfl rfl ?_ ?_ | refine call_b hval rfl rfl ?_ ?_ | (intro hc; cases hc; done) | (refine call_r hstep rfl rfl ?_; conv => cbv) | (intro e he; cases Option.some.inj (he.symm.trans hxa); (conv => cbv)) | (intro (_ : Unit); first | omega | rfl | exact ⟨rfl, by omega⟩ | (simp only [nI_eq]; omega) | ((repeat' first | rfl | omega | refine And.intro ?_ ?_ | (simp only [nI_eq]; omega) | exact Nat.le_of_ble_eq_true rfl); done)) | exact trivial | refine And.intro ?_ ?_ | (intro hc; exact absurd hc (by decide)) | (intro hc; exfalso; omega) | (intro hc; (first | rw [wrap_small (by omega) (by omega)] at hc | rw [nI_eq] at hc | skip); try (conv => cbv))
      all_goals first | exact hK | (exfalso; omega)
    · have f3 := f3 h1 (by omega)
      rw [f3] at hstep
      dsimp only [intsA, intsD] at hstep
      generalize hh1 : hops + 1 = hops1 at *
      generalize hal : arcs.map encI = al at *
      generalize hpl : push.map encSeg = pl at *
      conv => cbv
      repeat' first | refine call_b haw rfl rfl ?_ ?_ | refine call_b hlg rfl rfl ?_ ?_ | refine call_b hval rfl rfl ?_ ?_ | (intro hc; cases hc; done) | (refine call_r hstep rfl rfl ?_; conv => cbv) | (intro e he; cases Option.some.inj (he.symm.trans hxa); (conv => cbv)) | refine call_b hsi rfl rfl ?_ ?_ | refine call_b hss rfl rfl ?_ ?_ | (intro (_ : Unit); first | omega | rfl | exact ⟨rfl, by omega⟩ | (simp only [nI_eq]; omega) | ((repeat' first | rfl | omega | refine And.intro ?_ ?_ | (simp only [nI_eq]; omega) | exact Nat.le_of_ble_eq_true rfl); done)) | exact trivial | refine And.intro ?_ ?_ | (intro hc; exact absurd hc (by decide)) | (intro hc; exfalso; omega) | (intro hc; (first | rw [wrap_small (by omega) (by omega)] at hc | rw [nI_eq] at hc | skip); try (conv => cbv))
      all_goals first | exact hK | (exfalso; omega)

end Go.Ab
