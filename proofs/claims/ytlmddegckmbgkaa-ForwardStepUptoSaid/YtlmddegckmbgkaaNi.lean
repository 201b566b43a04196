/-
  The statements of chapter 23, part i: the two steps compared.
-/
import Derived.Test.YtlmddegckmbgkaaNh
namespace Go.Ab
open Go.Proofs

set_option maxHeartbeats 4000000 in
theorem step_law (P : Program) (hP : P = Try.prog) (c : Cas) (hs : sizeC c ≤ 10000000) : Ret P n_law23_ForwardStep [casA c] (bA true) := by
  have haw : Ret P n_law23_awake [] (bA true) := hP ▸ awake_ok
  have hlg := large_ok P hP c hs
  have hstep := fun (h : largeB c = false) => step_ok P hP c.t c.x c.p (fit_of h)
  have hrst := fun (h : largeB c = false) => rstep_ok P hP c.t c.x c.p (fit_of h)
  have hsk : largeB c = false → c.p.stack.length ≤ 400 := fun h => by have := (large_no h).1; simp only [sizeC] at this; omega
  have hsi := fun a => sameInts_ok P hP a a
  have hsm := fun p => same_refl P hP p
  refine ret_start (hP ▸ mixed) (hP ▸ fn_law23_ForwardStep) (hP ▸ c_law23_ForwardStep) (Nat.le_of_ble_eq_true rfl) fun Λ Λo K hK => ?_
  clear hP
  obtain ⟨t, ⟨node, to, down⟩, ⟨id, src, dst, flow, stack, hops⟩⟩ := c
  simp only at hstep hrst hsk
  generalize largeB _ = lg at *
  have hsm1 := hsm ⟨id, src, dst, flow, stack, hops⟩
  generalize stepS t ⟨node, to, down⟩ ⟨id, src, dst, flow, stack, hops⟩ = st at *
  obtain ⟨arcs, ⟨id1, src1, dst1, flow1, stack1, hops1⟩, r⟩ := st
  have hsm2 := hsm ⟨id1, src1, dst1, flow1, stack1, hops1⟩
  have hsi := hsi arcs
  simp only [decide_true] at hsi
  clear hsm
  simp only [casA, tabA, pktA, ansA, tupA, boolsD, linksD, entsD, intsA, intsD, segsD] at *
  generalize down.map encI = dl at *
  generalize List.map encEnt to = el at *
  generalize slh : List.map encSeg stack = sl at *
  have sln : Λ sl = stack.length := by rw [Λo, ← slh]; simp
  have slL : sl.length = stack.length := by rw [← slh]; simp
  generalize arcs.map encI = al at *
  generalize stack1.map encSeg = sl1 at *
  obtain ⟨nodes, ov, links⟩ := t
  simp only [topA, boolsD, linksD] at *
  generalize hol : ov.map encB = ol at *
  generalize hll : links.map encLk = ll at *
  have hlo : Λ ol = ov.length := by rw [Λo, ← hol]; simp
  have hls : Λ ll = links.length := by rw [Λo, ← hll]; simp
  cases lg
  case true =>
    conv => cbv
    repeat' first | refine call_b haw rfl rfl ?_ ?_ | refine call_b hlg rfl rfl ?_ ?_ | (intro hc; cases hc; done) | (intro (_ : Unit); first | omega | rfl | exact ⟨rfl, by omega⟩ | (simp only [nI_eq]; omega) | ((repeat' first | rfl | omega | refine And.intro ?_ ?_ | (simp only [nI_eq]; omega) | exact Nat.le_of_ble_eq_true rfl); done)) | exact trivial | refine And.intro ?_ ?_ | (intro hc; exact absurd hc (by decide)) | (intro hc; exfalso; omega) | (intro hc; (first | rw [wrap_small (by omega) (by omega)] at hc | rw [nI_eq] at hc | skip); try (conv => cbv))
    exact hK
  have hs1 := hstep rfl
  have hs2 := hrst rfl
  have hsk := hsk rfl
  clear hstep hrst
  conv => cbv
  repeat' first | refine call_b haw rfl rfl ?_ ?_ | refine call_b hlg rfl rfl ?_ ?_ | (intro hc; cases hc; done) | (intro (_ : Unit); first | omega | rfl | exact ⟨rfl, by omega⟩ | (simp only [nI_eq]; omega) | ((repeat' first | rfl | omega | refine And.intro ?_ ?_ | (simp only [nI_eq]; omega) | exact Nat.le_of_ble_eq_true rfl); done)) | exact trivial | refine And.intro ?_ ?_ | (intro hc; exact absurd hc (by decide)) | (intro hc; exfalso; omega) | (intro hc; (first | rw [wrap_small (by omega) (by omega)] at hc | rw [nI_eq] at hc | skip); try (conv => cbv))
  rename_i n1 r1 es1 hn1 hr1
  obtain rfl : es1 = sl := by rw [hc]; simp
  (refine call_z 2 1 2 n1 rfl (by rw [hn1]; simp) (by repeat' first | exact trivial | refine And.intro ?_ ?_ | rfl) (by repeat' first | exact trivial | refine And.intro ?_ ?_ | rfl) ?_; conv => cbv)
  repeat' first | (refine call_r hs1 rfl rfl ?_; conv => cbv) | (refine call_r hs2 rfl rfl ?_; conv => cbv) | refine call_b hsi rfl rfl ?_ ?_ | refine call_b hsm1 rfl rfl ?_ ?_ | refine call_b hsm2 rfl rfl ?_ ?_ | (intro (_ : Unit); first | omega | rfl | exact ⟨rfl, by omega⟩ | (simp only [nI_eq]; omega) | ((repeat' first | rfl | omega | refine And.intro ?_ ?_ | (simp only [nI_eq]; omega) | exact Nat.le_of_ble_eq_true rfl); done)) | exact trivial | refine And.intro ?_ ?_ | (intro hc; exact absurd hc (by decide)) | (intro hc; exfalso; omega) | (intro hc; (first | rw [wrap_small (by omega) (by omega)] at hc | rw [nI_eq] at hc | skip); try (conv => cbv))
  all_goals first | exact hK | (exfalso; omega)

end Go.Ab
