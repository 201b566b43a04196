/-
  Merged texts, part s.
-/
import Derived.Test.YtllgchplnhaplaaZr
/-
  The texts of the laws of the seat.
-/
namespace Go.Ab
open Go.Proofs
set_option maxRecDepth 100000def af_law14_KpathsShortest : AF := (AF.mk 44 [(4, .none)] (.seq (.reg .false [(AO.mk (.some 2) (.box (.t 0)) .none), (AO.mk (.some 3) (.box (.t 1)) .none), (AO.mk (.some 4) (.mv (.k (.c (.d (.bool .false))))) .none)]) (.seq (.seq (.reg .false [(AO.mk (.some 9) (.call 10 []) .none), (AO.mk (.some 10) (.un .not (.t 9)) .none)]) (.cond (.t 10) (.seq (.reg .false [(AO.mk (.some 4) (.mv (.k (.c (.d (.bool .false))))) .none)]) .ret) .skip)) (.seq (.seq (.reg .false [(AO.mk (.some 11) (.ld (.t 2) (.some 3)) .none), (AO.mk (.some 12) (.ld (.t 3) (.some 5)) .none), (AO.mk (.some 13) (.call 11 [(.t 11), (.t 12)]) .none), (AO.mk (.some 14) (.un .not (.t 13)) .none)]) (.cond (.t 14) (.seq (.reg .false [(AO.mk (.some 4) (.mv (.k (.c (.d (.bool .true))))) .none)]) .ret) .skip)) (.seq (.reg .false [(AO.mk (.some 16) (.ld (.t 2) (.some 3)) .none), (AO.mk (.some 17) (.ld (.t 3) (.some 5)) .none), (AO.mk (.some 18) (.call 12 [(.t 16), (.t 17)]) .none), (AO.mk (.some 15) (.mv (.t 18)) .none), (AO.mk (.some 19) (.ext (.t 15) 0) .none), (AO.mk (.some 20) (.ext (.t 15) 1) .none), (AO.mk (.some 5) (.mv (.t 19)) .none), (AO.mk (.some 6) (.mv (.t 20)) .none)]) (.seq (.reg .false [(AO.mk (.some 22) (.ld (.t 2) (.some 3)) .none), (AO.mk (.some 23) (.fa (.t 3) 0) .none), (AO.mk (.some 24) (.ld (.t 23) .none) .none), (AO.mk (.some 25) (.fa (.t 3) 1) .none), (AO.mk (.some 26) (.ld (.t 25) .none) .none), (AO.mk (.some 27) (.fa (.t 3) 2) .none), (AO.mk (.some 28) (.ld (.t 27) .none) .none), (AO.mk (.some 29) (.fa (.t 3) 3) .none), (AO.mk (.some 30) (.ld (.t 29) .none) .none), (AO.mk (.some 31) (.fa (.t 3) 4) .none), (AO.mk (.some 32) (.ld (.t 31) .none) .none), (AO.mk (.some 33) (.call 13 [(.t 22), (.t 24), (.t 26), (.t 28), (.t 30), (.t 32)]) .none), (AO.mk (.some 21) (.mv (.t 33)) .none), (AO.mk (.some 34) (.ext (.t 21) 0) .none), (AO.mk (.some 35) (.ext (.t 21) 1) .none), (AO.mk (.some 7) (.mv (.t 34)) .none), (AO.mk (.some 8) (.mv (.t 35)) .none)]) (.seq (.reg .false [(AO.mk (.some 36) (.mv (.t 6)) .none), (AO.mk (.some 37) (.mv (.t 8)) .none), (AO.mk (.some 38) (.bin .eql (.t 36) (.t 37)) .none), (AO.mk (.some 39) (.mv (.t 38)) .none), (AO.mk (.some 40) (.mv (.t 5)) (.some (39, .true))), (AO.mk (.some 41) (.mv (.t 7)) (.some (39, .true))), (AO.mk (.some 42) (.call 14 [(.t 40), (.t 41)]) (.some (39, .true))), (AO.mk (.some 43) (.pick (.t 39) (.t 42) (.k (.c (.d (.bool .false))))) .none), (AO.mk (.some 4) (.mv (.t 43)) .none)]) .ret)))))))
def af_law14_KpathsCompare : AF := (AF.mk 76 [(6, .none)] (.seq (Rg [(AO.mk (.some 3) (.box (.t 0)) .none),(AO.mk (.some 6) (.mv (Kb .false)) .none)]) (.seq (.seq (Rg [(AO.mk (.some 11) (.call 10 []) .none),(AO.mk (.some 12) (.un .not (.t 11)) .none)]) (.cond (.t 12) (.seq (Rg [(AO.mk (.some 6) (.mv (Kb .false)) .none)]) .ret) .skip)) (.seq (.seq (Rg [(AO.mk (.some 13) (.fa (.t 3) 2) .none),(AO.mk (.some 14) (.ld (.t 13) .none) .none),(AO.mk (.some 15) (.len (.t 14)) .none),(AO.mk (.some 16) (.bin .gtr (.t 15) (Ki 20)) .none),(AO.mk (.some 17) (.mv (.t 16)) .none),(AO.mk (.some 18) (.fa (.t 3) 1) (.some (17, .false))),(AO.mk (.some 19) (.ld (.t 18) .none) (.some (17, .false))),(AO.mk (.some 20) (.len (.t 19)) (.some (17, .false))),(AO.mk (.some 21) (.bin .gtr (.t 20) (Ki 20)) (.some (17, .false))),(AO.mk (.some 22) (.pick (.t 17) (Kb .true) (.t 21)) .none),(AO.mk (.some 23) (.mv (.t 22)) .none),(AO.mk (.some 24) (.mv (.t 1)) (.some (23, .false))),(AO.mk (.some 25) (.len (.t 24)) (.some (23, .false))),(AO.mk (.some 26) (.bin .gtr (.t 25) (Ki 20)) (.some (23, .false))),(AO.mk (.some 27) (.pick (.t 23) (Kb .true) (.t 26)) .none),(AO.mk (.some 28) (.mv (.t 27)) .none),(AO.mk (.some 29) (.mv (.t 2)) (.some (28, .false))),(AO.mk (.some 30) (.len (.t 29)) (.some (28, .false))),(AO.mk (.some 31) (.bin .gtr (.t 30) (Ki 20)) (.some (28, .false))),(AO.mk (.some 32) (.pick (.t 28) (Kb .true) (.t 31)) .none)]) (.cond (.t 32) (.seq (Rg [(AO.mk (.some 6) (.mv (Kb .true)) .none)]) .ret) .skip)) (.seq (Rg [(AO.mk (.some 34) (.ld (.t 3) (.some 3)) .none),(AO.mk (.some 35) (.mv (.t 1)) .none),(AO.mk (.some 36) (.call 17 [(.t 34),(.t 35)]) .none),(AO.mk (.some 33) (.mv (.t 36)) .none),(AO.mk (.some 37) (.ext (.t 33) 0) .none),(AO.mk (.some 38) (.ext (.t 33) 1) .none),(AO.mk (.some 7) (.mv (.t 37)) .none),(AO.mk (.some 8) (.mv (.t 38)) .none)]) (.seq (Rg [(AO.mk (.some 40) (.ld (.t 3) (.some 3)) .none),(AO.mk (.some 41) (.mv (.t 1)) .none),(AO.mk (.some 42) (.call 22 [(.t 40),(.t 41)]) .none),(AO.mk (.some 39) (.mv (.t 42)) .none),(AO.mk (.some 43) (.ext (.t 39) 0) .none),(AO.mk (.some 44) (.ext (.t 39) 1) .none),(AO.mk (.some 9) (.mv (.t 43)) .none),(AO.mk (.some 10) (.mv (.t 44)) .none)]) (.seq (.seq (.reg .true [(AO.mk (.some 45) (.mv (.t 7)) .none),(AO.mk (.some 46) (.mv (.t 9)) .none),(AO.mk (.some 47) (.bin .eql (.t 45) (.t 46)) .none),(AO.mk (.some 48) (.mv (.t 47)) .none),(AO.mk (.some 49) (.mv (.t 8)) (.some (48, .true))),(AO.mk (.some 50) (.mv (.t 10)) (.some (48, .true))),(AO.mk (.some 51) (.bin .eql (.t 49) (.t 50)) (.some (48, .true))),(AO.mk (.some 52) (.pick (.t 48) (.t 51) (Kb .false)) .none),(AO.mk (.some 53) (.mv (.t 52)) .none),(AO.mk (.some 54) (.ld (.t 3) (.some 3)) (.some (53, .true))),(AO.mk (.some 55) (.mv (.t 1)) (.some (53, .true))),(AO.mk (.some 56) (.mv (.t 2)) (.some (53, .true))),(AO.mk (.some 57) (.call 16 [(.t 54),(.t 55),(.t 56)]) (.some (53, .true))),(AO.mk (.some 58) (.ld (.t 3) (.some 3)) (.some (53, .true))),(AO.mk (.some 59) (.mv (.t 1)) (.some (53, .true))),(AO.mk (.some 60) (.mv (.t 2)) (.some (53, .true)))]) (.seq (Rg [(AO.mk (.some 61) (.call 23 [(.t 58),(.t 59),(.t 60)]) (.some (53, .true)))]) (.seq (.reg .true [(AO.mk (.some 62) (.bin .eql (.t 57) (.t 61)) (.some (53, .true))),(AO.mk (.some 63) (.pick (.t 53) (.t 62) (Kb .false)) .none),(AO.mk (.some 64) (.mv (.t 63)) .none),(AO.mk (.some 65) (.ld (.t 3) (.some 3)) (.some (64, .true))),(AO.mk (.some 66) (.mv (.t 2)) (.some (64, .true))),(AO.mk (.some 67) (.mv (.t 1)) (.some (64, .true))),(AO.mk (.some 68) (.call 16 [(.t 65),(.t 66),(.t 67)]) (.some (64, .true))),(AO.mk (.some 69) (.ld (.t 3) (.some 3)) (.some (64, .true))),(AO.mk (.some 70) (.mv (.t 1)) (.some (64, .true))),(AO.mk (.some 71) (.mv (.t 2)) (.some (64, .true)))]) (.seq (Rg [(AO.mk (.some 72) (.call 16 [(.t 69),(.t 70),(.t 71)]) (.some (64, .true)))]) (.reg .true [(AO.mk (.some 73) (.un .neg (.t 72)) (.some (64, .true))),(AO.mk (.some 74) (.bin .eql (.t 68) (.t 73)) (.some (64, .true))),(AO.mk (.some 75) (.pick (.t 64) (.t 74) (Kb .false)) .none),(AO.mk (.some 6) (.mv (.t 75)) .none)]))))) .ret)))))))
abbrev n_law14_KpathsCompare : Nat := 8
theorem fn_law14_KpathsCompare : Try.prog.funcs[n_law14_KpathsCompare]? = some Try.f8 := Try.func8
theorem c_law14_KpathsCompare : compF Try.prog Try.f8 = some af_law14_KpathsCompare := by kernel_rfl
end Go.Ab

/-
  Chapter 14: laws Shortest, Prefix and Compare.
-/
namespace Go.Ab
open Go.Proofs
set_option maxRecDepth 200000 in
set_option maxHeartbeats 4000000 in
theorem compare_law (P : Program) (hP : P = Try.prog) (t : Top) (a b : List Int) : Ret P n_law14_KpathsCompare [topA t, intsA a, intsA b] (bA true) := by
 have haw := awake_ok P hP
 by_cases hs : t.links.length ≤ 20 ∧ t.ov.length ≤ 20 ∧ a.length ≤ 20 ∧ b.length ≤ 20
 ·obtain ⟨s1, s2, s3, s4⟩ := hs
  have h1 := delay_ok P hP t a (by omega) (by omega)
  have h2 := rdelay_ok P hP t a (by omega)
  have h3 := compare_ok P hP t a b (by omega) (by omega) (by omega)
  have h4 := rcmp_ok P hP t a b (by omega) (by omega)
  have h5 := compare_ok P hP t b a (by omega) (by omega) (by omega)
  have hn := ordS_neg (cst t b) (cst t a) b a
  have hr := ordS_rg (cst t a) (cst t b) a b
  refine ret_start (hP ▸ mixed) (hP ▸ fn_law14_KpathsCompare) (hP ▸ c_law14_KpathsCompare) (Nat.le_of_ble_eq_true rfl) fun Λ Λo K hK => ?_
  clear hP
  generalize delS t a = dl at *
  obtain ⟨d1, d2⟩ := dl
  generalize ordS (cst t a) (cst t b) a b = o at *
  generalize ordS (cst t b) (cst t a) b a = o2 at *
  simp only [topA, intsA, intsD, boolsA, boolsD, linksD] at *
  generalize hol : t.ov.map encB = ovl at *
  generalize hll : t.links.map encLk = lkl at *
  generalize hal : a.map encI = al at *
  generalize hbl : b.map encI = bl at *
  have n1 : Λ ovl = t.ov.length := by rw [Λo, ← hol]; simp
  have n2 : Λ lkl = t.links.length := by rw [Λo, ← hll]; simp
  have n3 : Λ al = a.length := by rw [Λo, ← hal]; simp
  have n4 : Λ bl = b.length := by rw [Λo, ← hbl]; simp
  generalize t.nodes = nodes at *
  have ho : (o = -1 ∧ o2 = 1) ∨ (o = 0 ∧ o2 = 0) ∨ (o = 1 ∧ o2 = -1) := by omega
  clear hn hr
  rcases ho with ⟨rfl, rfl⟩ | ⟨rfl, rfl⟩ | ⟨rfl, rfl⟩
  all_goals
   conv => cbv
   repeat' first | (refine call_r haw rfl rfl ?_; conv => cbv) | (refine call_r h1 rfl rfl ?_; conv => cbv) | (refine call_r h2 rfl rfl ?_; conv => cbv) | (refine call_r h3 rfl rfl ?_; conv => cbv) | (refine call_r h4 rfl rfl ?_; conv => cbv) | (refine call_r h5 rfl rfl ?_; conv => cbv) | exact gu | exact trivial | refine And.intro ?_ ?_ | (intro hc; exact absurd hc (by decide)) | (intro hc; exfalso; omega) | (intro hc; (first | rw [wrap_small (by omega) (by omega)] at hc | rw [nI_eq] at hc | skip); try (conv => cbv))
   all_goals first | exact hK | (exfalso; omega)
 ·refine ret_start (hP ▸ mixed) (hP ▸ fn_law14_KpathsCompare) (hP ▸ c_law14_KpathsCompare) (Nat.le_of_ble_eq_true rfl) fun Λ Λo K hK => ?_
  clear hP
  simp only [topA, intsA, intsD, boolsA, boolsD, linksD] at *
  generalize hol : t.ov.map encB = ovl at *
  generalize hll : t.links.map encLk = lkl at *
  generalize hal : a.map encI = al at *
  generalize hbl : b.map encI = bl at *
  have n1 : Λ ovl = t.ov.length := by rw [Λo, ← hol]; simp
  have n2 : Λ lkl = t.links.length := by rw [Λo, ← hll]; simp
  have n3 : Λ al = a.length := by rw [Λo, ← hal]; simp
  have n4 : Λ bl = b.length := by rw [Λo, ← hbl]; simp
  generalize t.nodes = nodes at *
  conv => cbv
  repeat' first | (refine call_r haw rfl rfl ?_; conv => cbv) | exact gu | exact trivial | refine And.intro ?_ ?_ | (intro hc; exact absurd hc (by decide)) | (intro hc; exfalso; omega) | (intro hc; (first | rw [wrap_small (by omega) (by omega)] at hc | rw [nI_eq] at hc | skip); try (conv => cbv))
  all_goals first | exact hK | (exfalso; omega)
end Go.Ab

/-
  Chapter 14: what a row reads.
-/
namespace Go.Ab
open Go.Proofs Go.Proofs.Ytllgchplnhaplaa Go.ChangeShapes Go.WideShapes Go.ChangeAt Go.RowKit
def sizeT (t : Top) : Nat := t.ov.length + t.links.length
theorem dec_top {ds : List D} {n : Nat} (h : FitL shTop ds n) : ∃ c : Top, topA c = .agg (ds.map .d) ∧ sizeT c ≤ n := by
 obtain ⟨d0, ds0, _, _, rfl, rfl, g0, h_0⟩ := h.un
 obtain ⟨nodes, rfl, w_nodes⟩ := g0.i
 obtain ⟨d1, ds1, _, _, rfl, rfl, g1, h_1⟩ := h_0.un
 obtain ⟨ov, rfl, w_ov⟩ := g1.lm encB (fun _ => 1) dec_b
 rw [sum_one] at w_ov
 obtain ⟨d2, ds2, _, _, rfl, rfl, g2, h_2⟩ := h_1.un
 obtain ⟨links, rfl, w_links⟩ := g2.lm encLk (fun _ => 1) dec_lk
 rw [sum_one] at w_links
 rw [h_2.end]
 exact ⟨⟨nodes, ov, links⟩, rfl, by simp only [sizeT]; omega⟩
theorem CsR.head {w : World} {v : Value} {d : D} (h : CsR w [v] [d]) : DR (fun b => b < w.heap.size) w v d := h.2 0 _ _ rfl rfl
end Go.Ab

