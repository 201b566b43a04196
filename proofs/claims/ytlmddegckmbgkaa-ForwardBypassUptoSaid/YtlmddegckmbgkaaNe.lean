/-
  The statements of chapter 23, part e: packets that are bypassed.
-/
import Derived.Test.YtlmddegckmbgkaaNc
namespace Go.Ab
open Go.Proofs

set_option maxHeartbeats 4000000 in
theorem bypass_law (P : Program) (hP : P = Try.prog) (c : Cas) (hs : sizeC c ≤ 10000000) : Ret P n_law23_ForwardBypass [casA c] (bA true) := by
  have haw : Ret P n_law23_awake [] (bA true) := hP ▸ awake_ok
  have hlg := large_ok P hP c hs
  have hval := rtableValid_ok P hP c.t c.x
  have hstep := fun (h : largeB c = false) => step_ok P hP c.t c.x c.p (fit_of h)
  have hstep2 := fun (h : largeB c = false) => step_ok P hP c.t c.x {c.p with stack := []} ⟨(fit_of h).1, by simp⟩
  have hhas := fun n => has_ok P hP c.x.down n
  have hsi := fun a b => sameInts_ok P hP a b
  have hsm := fun p q => same_ok P hP p q
  refine ret_start (hP ▸ mixed) (hP ▸ fn_law23_ForwardBypass) (hP ▸ c_law23_ForwardBypass) (Nat.le_of_ble_eq_true rfl) fun Λ Λo K hK => ?_
  clear hP
  have hby := fun s r h1 h2 h3 h4 h5 h6 => @bypassed c.t c.x c.p s r h1 h2 h3 h4 h5 h6
  have htl : tabB c.t c.x = true → (c.x.to.length : Int) = c.t.nodes := fun h => (tabB_spec.1 h).2.2.1
  obtain ⟨t, ⟨node, to, down⟩, ⟨id, src, dst, flow, stack, hops⟩⟩ := c
  simp only at hby htl hval hstep hstep2 hhas
  generalize largeB _ = lg at *
  generalize tabB t ⟨node, to, down⟩ = tb at *
  generalize stepS t ⟨node, to, down⟩ ⟨id, src, dst, flow, stack, hops⟩ = st at *
  generalize stepS t ⟨node, to, down⟩ ⟨id, src, dst, flow, [], hops⟩ = st2 at *
  obtain ⟨arcs, p1, r⟩ := st
  obtain ⟨arcs2, p2, r2⟩ := st2
  have hent : ∀ n : Int, 0 ≤ n → n < to.length → to[n.toNat]? = some (ent ⟨node, to, down⟩ n) := by
    intro n h0 h1
    have hlt : n.toNat < to.length := by omega
    rw [ent, List.getD_eq_getElem?_getD, List.getElem?_eq_getElem hlt]; rfl
  generalize ent ⟨node, to, down⟩ = en at *
  simp only [casA, tabA, pktA, ansA, tupA, boolsD, linksD, entsD, intsA, intsD, segsD, List.map_nil] at *
  generalize hdl : down.map encI = dl at *
  generalize elh : List.map encEnt to = el at *
  have eln : Λ el = to.length := by rw [Λo, ← elh]; simp
  obtain ⟨nodes, ov, links⟩ := t
  simp only [topA, boolsD, linksD] at *
  generalize hol : ov.map encB = ol at *
  generalize hll : links.map encLk = ll at *
  have hlo : Λ ol = ov.length := by rw [Λo, ← hol]; simp
  have hls : Λ ll = links.length := by rw [Λo, ← hll]; simp
  have hsln : Λ (stack.map encSeg) = stack.length := by rw [Λo]; simp
  cases lg
  case true =>
    generalize stack.map encSeg = sl at *
    conv => cbv
    repeat' first | refine call_b haw rfl rfl ?_ ?_ | refine call_b hlg rfl rfl ?_ ?_ | (intro hc; cases hc; done) | (intro (_ : Unit); first | omega | rfl | exact ⟨rfl, by omega⟩ | (simp only [nI_eq]; omega) | ((repeat' first | rfl | omega | refine And.intro ?_ ?_ | (simp only [nI_eq]; omega) | exact Nat.le_of_ble_eq_true rfl); done)) | exact trivial | refine And.intro ?_ ?_ | (intro hc; exact absurd hc (by decide)) | (intro hc; exfalso; omega) | (intro hc; (first | rw [wrap_small (by omega) (by omega)] at hc | rw [nI_eq] at hc | skip); try (conv => cbv))
    exact hK
  cases tb
  case false =>
    generalize stack.map encSeg = sl at *
    conv => cbv
    repeat' first | refine call_b haw rfl rfl ?_ ?_ | refine call_b hlg rfl rfl ?_ ?_ | refine call_b hval rfl rfl ?_ ?_ | (intro hc; cases hc; done) | (intro (_ : Unit); first | omega | rfl | exact ⟨rfl, by omega⟩ | (simp only [nI_eq]; omega) | ((repeat' first | rfl | omega | refine And.intro ?_ ?_ | (simp only [nI_eq]; omega) | exact Nat.le_of_ble_eq_true rfl); done)) | exact trivial | refine And.intro ?_ ?_ | (intro hc; exact absurd hc (by decide)) | (intro hc; exfalso; omega) | (intro hc; (first | rw [wrap_small (by omega) (by omega)] at hc | rw [nI_eq] at hc | skip); try (conv => cbv))
    exact hK
  have hs1 := hstep rfl
  have hs2 := hstep2 rfl
  have htn := htl rfl
  clear hstep hstep2 htl
  by_cases hcd : (0 ≤ dst ∧ dst < nodes) ∧ (0 < stack.length ∧ stack.length ≤ 32)
  case neg =>
    generalize stack.map encSeg = sl at *
    conv => cbv
    repeat' first | refine call_b haw rfl rfl ?_ ?_ | refine call_b hlg rfl rfl ?_ ?_ | refine call_b hval rfl rfl ?_ ?_ | (intro hc; cases hc; done) | (intro (_ : Unit); first | omega | rfl | exact ⟨rfl, by omega⟩ | (simp only [nI_eq]; omega) | ((repeat' first | rfl | omega | refine And.intro ?_ ?_ | (simp only [nI_eq]; omega) | exact Nat.le_of_ble_eq_true rfl); done)) | exact trivial | refine And.intro ?_ ?_ | (intro hc; exact absurd hc (by decide)) | (intro hc; exfalso; omega) | (intro hc; (first | rw [wrap_small (by omega) (by omega)] at hc | rw [nI_eq] at hc | skip); try (conv => cbv))
    all_goals first | exact hK | (exfalso; omega)
  cases stack with
  | nil => exfalso; simp at hcd
  | cons s rs =>
  obtain ⟨sk, sn⟩ := s
  have hby := hby ⟨sk, sn⟩ rs rfl hcd.1 hcd.2.2 rfl
  simp only at hby
  generalize slh : List.map encSeg (⟨sk, sn⟩ :: rs) = sl at *
  have sl0 : sl[(0 : Int).toNat]? = some [iD sk, iD sn] := by rw [← slh]; rfl
  have hen : 0 ≤ sn → sn < nodes → ∃ a b c, en sn = ⟨a, b, c⟩ ∧ el[sn.toNat]? = some [.list false 1 (a.map encI), .bool b, .list false 2 (c.map encSeg)] := by
    intro h1 h2
    have hx := hent sn h1 (by omega)
    generalize en sn = e at *
    obtain ⟨a, b, c⟩ := e
    exact ⟨a, b, c, rfl, by rw [← elh]; simp [hx, encEnt]⟩
  have hhas := hhas sn
  have hsi := hsi arcs arcs2
  have hsm := hsm p1 p2
  have hlike : ¬ (hops < 0 ∨ 255 ≤ hops) → ((sk = 2 ∧ sn ∈ down) ∨ (sk = 1 ∧ sn ≠ node ∧ (sn < 0 ∨ sn ≥ nodes ∨ (en sn).arcs.length = 0))) → decide (arcs = arcs2) = true ∧ r = r2 ∧ (0 < r ∨ sameP p1 p2 = true) := fun h h' => by
    obtain ⟨g1, g2, g3⟩ := hby h h'
    refine ⟨decide_eq_true g1, g2, g3.imp (fun g => g) fun g => ?_⟩
    simp only at g; subst g; simp [sameP]
  clear hby hent
  obtain ⟨id1, src1, dst1, flow1, stack1, hops1⟩ := p1
  obtain ⟨id2, src2, dst2, flow2, stack2, hops2⟩ := p2
  generalize sameP _ _ = sam at *
  generalize decide (arcs = arcs2) = sai at *
  generalize arcs.map encI = al at *
  generalize arcs2.map encI = al2 at *
  generalize stack1.map encSeg = sl1 at *
  generalize stack2.map encSeg = sl2 at *
  generalize hdm : decide (sn ∈ down) = dm at *
  have hdm' : sn ∈ down ↔ dm = true := by rw [← hdm]; simp
  simp only [hdm'] at hlike
  clear hdm hdm'
  by_cases hsn : 0 ≤ sn ∧ sn < nodes
  · obtain ⟨ea, eb, ec, he, hxa⟩ := hen hsn.1 hsn.2
    rw [he] at hlike
    simp only at hlike
    clear hen
    have ean : Λ (ea.map encI) = ea.length := by rw [Λo]; simp
    generalize ea.map encI = eal at *
    generalize ec.map encSeg = ecl at *
    conv => cbv
    repeat' first | refine call_b haw rfl rfl ?_ ?_ | refine call_b hlg rfl rfl ?_ ?_ | refine call_b hval rfl rfl ?_ ?_ | (intro e he; cases Option.some.inj (he.symm.trans sl0); (conv => cbv)) | refine call_b hhas rfl rfl ?_ ?_ | (intro e he; cases Option.some.inj (he.symm.trans hxa); (conv => cbv)) | (refine call_r hs1 rfl rfl ?_; conv => cbv) | (refine call_r hs2 rfl rfl ?_; conv => cbv) | refine call_b hsi rfl rfl ?_ ?_ | refine call_b hsm rfl rfl ?_ ?_ | (intro (_ : Unit); first | omega | rfl | exact ⟨rfl, by omega⟩ | (simp only [nI_eq]; omega) | ((repeat' first | rfl | omega | refine And.intro ?_ ?_ | (simp only [nI_eq]; omega) | exact Nat.le_of_ble_eq_true rfl); done)) | exact trivial | refine And.intro ?_ ?_ | (intro hc; exact absurd hc (by decide)) | (intro hc; exfalso; omega) | (intro hc; (first | rw [wrap_small (by omega) (by omega)] at hc | rw [nI_eq] at hc | skip); try (conv => cbv))
    all_goals try exact hK
    all_goals (exfalso; have h := hlike (by omega) (by first | exact .inl ⟨by omega, by assumption⟩ | exact .inr ⟨by omega, by omega, by omega⟩); obtain ⟨g1, g2, g3⟩ := h; first | omega | (exact absurd ‹sai = false› (by rw [g1]; decide)) | (rcases g3 with g3 | g3; omega; exact absurd ‹sam = false› (by rw [g3]; decide)))
  · have hlk : sn < 0 ∨ sn ≥ nodes := by omega
    clear hen
    have hlike := fun h (h' : (sk = 2 ∧ dm = true) ∨ (sk = 1 ∧ sn ≠ node)) => hlike h (h'.imp (fun g => g) fun g => ⟨g.1, g.2, hlk.imp (fun g => g) .inl⟩)
    conv => cbv
    repeat' first | refine call_b haw rfl rfl ?_ ?_ | refine call_b hlg rfl rfl ?_ ?_ | refine call_b hval rfl rfl ?_ ?_ | (intro e he; cases Option.some.inj (he.symm.trans sl0); (conv => cbv)) | refine call_b hhas rfl rfl ?_ ?_ | (refine call_r hs1 rfl rfl ?_; conv => cbv) | (refine call_r hs2 rfl rfl ?_; conv => cbv) | refine call_b hsi rfl rfl ?_ ?_ | refine call_b hsm rfl rfl ?_ ?_ | (intro (_ : Unit); first | omega | rfl | exact ⟨rfl, by omega⟩ | (simp only [nI_eq]; omega) | ((repeat' first | rfl | omega | refine And.intro ?_ ?_ | (simp only [nI_eq]; omega) | exact Nat.le_of_ble_eq_true rfl); done)) | exact trivial | refine And.intro ?_ ?_ | (intro hc; exact absurd hc (by decide)) | (intro hc; exfalso; omega) | (intro hc; (first | rw [wrap_small (by omega) (by omega)] at hc | rw [nI_eq] at hc | skip); try (conv => cbv))
    all_goals try exact hK
    all_goals (exfalso; have h := hlike (by omega) (by first | exact .inl ⟨by omega, by assumption⟩ | exact .inr ⟨by omega, by omega⟩); obtain ⟨g1, g2, g3⟩ := h; first | omega | (exact absurd ‹sai = false› (by rw [g1]; decide)) | (rcases g3 with g3 | g3; omega; exact absurd ‹sam = false› (by rw [g3]; decide)))

end Go.Ab
