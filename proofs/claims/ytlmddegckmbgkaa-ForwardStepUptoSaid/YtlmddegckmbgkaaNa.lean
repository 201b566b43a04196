/-
  The statements of chapter 23, part a: large.
-/
import Derived.Test.YtlmddegckmbgkaaT
namespace Go.Ab
open Go.Proofs

structure Cas where
  (t : Top) (x : Tab) (p : Pkt)
def casA (c : Cas) : AV := .agg [.d (iD c.t.nodes), .d (boolsD c.t.ov), .d (linksD c.t.links), .d (iD c.x.node), .d (entsD c.x.to), .d (intsD c.x.down), .d (iD c.p.id), .d (iD c.p.src), .d (iD c.p.dst), .d (iD c.p.flow), .d (segsD c.p.stack), .d (iD c.p.hops)]
def entSum (l : List Ety) : Nat := (l.map fun e => e.arcs.length + e.push.length).sum
def sizeC (c : Cas) : Nat := c.x.down.length + c.p.stack.length + entSum c.x.to
def largeB (c : Cas) : Bool := decide (sizeC c > 400) || decide (c.x.to.length > 70) || decide (c.t.ov.length > 100) || decide (c.t.links.length > 40)

theorem entSum_take {l : List Ety} {k : Nat} {x : Ety} (h : l[k]? = some x) : entSum (l.take (k + 1)) = entSum (l.take k) + (x.arcs.length + x.push.length) := by
  rw [take_succ_get h]; simp [entSum]
theorem entSum_le (l : List Ety) (k : Nat) : entSum (l.take k) ≤ entSum l := by
  have : entSum l = entSum (l.take k) + entSum (l.drop k) := by
    conv => lhs; rw [← List.take_append_drop k l]
    simp [entSum, -List.take_append_drop]
  omega

theorem large_ok (P : Program) (hP : P = Try.prog) (c : Cas) (hs : sizeC c ≤ 10000000) : Ret P n_law23_large [casA c] (bA (largeB c)) := by
  refine ret_start (hP ▸ mixed) (hP ▸ fn_law23_large) (hP ▸ c_law23_large) (Nat.le_of_ble_eq_true rfl) fun Λ Λo K hK => ?_
  clear hP
  have leaf : ∀ b, largeB c = b → K (bA b) := fun b hb => by rw [← hb]; exact hK
  have hr : largeB c = (decide (sizeC c > 400) || decide (c.x.to.length > 70) || decide (c.t.ov.length > 100) || decide (c.t.links.length > 40)) := rfl
  have hsz : sizeC c = c.x.down.length + c.p.stack.length + entSum c.x.to := rfl
  generalize largeB c = r at *
  generalize sizeC c = S at *
  obtain ⟨t, ⟨node, to, down⟩, ⟨id, src, dst, flow, stack, hops⟩⟩ := c
  simp only [casA, boolsD, linksD, entsD, intsD, segsD] at *
  generalize dlh : List.map encI down = dl at *
  have dln : Λ dl = down.length := by rw [Λo, ← dlh]; simp
  generalize slh : List.map encSeg stack = sl at *
  have sln : Λ sl = stack.length := by rw [Λo, ← slh]; simp
  generalize elh : List.map encEnt to = el at *
  have eln : Λ el = to.length := by rw [Λo, ← elh]; simp
  obtain ⟨nodes, ov, links⟩ := t
  
  generalize hol : ov.map encB = ol at *
  generalize hll : links.map encLk = ll at *
  have hlo : Λ ol = ov.length := by rw [Λo, ← hol]; simp
  have hls : Λ ll = links.length := by rw [Λo, ← hll]; simp
  conv => cbv
  repeat' first | (intro (_ : Unit); first | omega | rfl | exact ⟨rfl, by omega⟩ | (simp only [nI_eq]; omega) | ((repeat' first | rfl | omega | refine And.intro ?_ ?_ | (simp only [nI_eq]; omega) | exact Nat.le_of_ble_eq_true rfl); done)) | exact trivial | refine And.intro ?_ ?_ | (intro hc; exact absurd hc (by decide)) | (intro hc; exfalso; omega) | (intro hc; (first | rw [wrap_small (by omega) (by omega)] at hc | rw [nI_eq] at hc | skip); try (conv => cbv))
  refine loop_up to.length (fun (s : Int × Int) => [(1, .c (.ptr 0 0 0 0)), (3, iA s.2), (17, .c (.d (.list false 3 el))), (18, iA (Λ el)), (19, iA s.1)]) (fun _ => [.bx [.d (iD nodes), .d (.list false 1 ol), .d (.list false 7 ll), .d (iD node), .d (.list false 3 el), .d (.list false 1 dl), .d (iD id), .d (iD src), .d (iD dst), .d (iD flow), .d (.list false 2 sl), .d (iD hops)]])
    (fun k s => s.1 = k ∧ k ≤ to.length ∧ s.2 = down.length + stack.length + entSum (to.take k)) (0, _) (Wk.cut ⟨_, rfl⟩ (Nat.zero_le _) rfl (by repeat' first | exact trivial | refine And.intro ?_ ?_ | rfl)) ⟨rfl, by omega, by simp [entSum]; omega⟩ (fun k s h => h.2.1) ?_
  rintro k ⟨i, q⟩ Q' ⟨hi, hk, hq⟩ norm ex rt
  simp only at hi hq
  have hle := entSum_le to k
  by_cases hlt : k < to.length
  · obtain ⟨x, hx⟩ : ∃ x, to[k]? = some x := ⟨_, List.getElem?_eq_getElem hlt⟩
    have hxa := elt_at elh hi hx
    obtain ⟨arcs, rep, push⟩ := x
    have hst := entSum_take hx
    have hle2 := entSum_le to (k + 1)
    simp only [encEnt, intsD, segsD] at hxa hst
    generalize alh : List.map encI arcs = al at *
    have aln : Λ al = arcs.length := by rw [Λo, ← alh]; simp
    generalize plh : List.map encSeg push = pl at *
    have pln : Λ pl = push.length := by rw [Λo, ← plh]; simp
    conv => cbv
    repeat' first | (refine ex _ _ _ ?_; (conv => cbv)) | (refine rt _ _ ?_; (conv => cbv)) | (intro e he; cases Option.some.inj (he.symm.trans hxa); (conv => cbv)) | (intro (_ : Unit); first | omega | rfl | exact ⟨rfl, by omega⟩ | (simp only [nI_eq]; omega) | ((repeat' first | rfl | omega | refine And.intro ?_ ?_ | (simp only [nI_eq]; omega) | exact Nat.le_of_ble_eq_true rfl); done)) | exact trivial | refine And.intro ?_ ?_ | (intro hc; exact absurd hc (by decide)) | (intro hc; exfalso; omega) | (intro hc; (first | rw [wrap_small (by omega) (by omega)] at hc | rw [nI_eq] at hc | skip); try (conv => cbv))
    refine norm _ _ (_, _) ?_ (Wk.cut ⟨_, rfl⟩ (Nat.zero_le _) rfl (by repeat' first | exact trivial | refine And.intro ?_ ?_ | rfl))
    exact ⟨by simp only; omega, by omega, by simp only; omega⟩
  · conv => cbv
    repeat' first | (refine ex _ _ _ ?_; (conv => cbv)) | (refine rt _ _ ?_; (conv => cbv)) | (intro (_ : Unit); first | omega | rfl | exact ⟨rfl, by omega⟩ | (simp only [nI_eq]; omega) | ((repeat' first | rfl | omega | refine And.intro ?_ ?_ | (simp only [nI_eq]; omega) | exact Nat.le_of_ble_eq_true rfl); done)) | exact trivial | refine And.intro ?_ ?_ | (intro hc; exact absurd hc (by decide)) | (intro hc; exfalso; omega) | (intro hc; (first | rw [wrap_small (by omega) (by omega)] at hc | rw [nI_eq] at hc | skip); try (conv => cbv))
    all_goals rw [List.take_of_length_le (by omega)] at hq
    all_goals (refine leaf _ (hr.trans ?_))
    all_goals first
      | (rw [decide_eq_true (p := S > 400) (by omega)]; rfl)
      | (rw [decide_eq_true (p := to.length > 70) (by omega)]; simp)
      | (rw [decide_eq_true (p := ov.length > 100) (by omega)]; simp)
      | (rw [decide_eq_true (p := links.length > 40) (by omega)]; simp)
      | (rw [decide_eq_false (p := S > 400) (by omega), decide_eq_false (p := to.length > 70) (by omega), decide_eq_false (p := ov.length > 100) (by omega), decide_eq_false (p := links.length > 40) (by omega)]; rfl)

end Go.Ab
