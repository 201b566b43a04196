/-
  What a row reads: numbers, lists, topologies.
-/
import Derived.Test.YtjaodmgeonfkiaaCa
import Derived.Test.YtjaodmgeonfkiaaLa
namespace Go.Ab
open Go.Proofs Go.Proofs.Ytjaodmgeonfkiaa Go.ChangeShapes Go.WideShapes Go.ChangeAt Go.RowKit

abbrev shI : Sh := .int .i64
def shTop : List Sh := [shI, .list 1 [.bool], .list 7 [shI, shI, shI, shI, shI, shI, shI]]

theorem dec_i : ∀ e n, FitL [shI] e n → ∃ a : Int, e = encI a ∧ 1 ≤ n := by
  intro e n h
  have hw := h.weight
  obtain ⟨d, ds, a, b, rfl, rfl, h1, h2⟩ := h.un
  obtain ⟨z, rfl, _⟩ := h1.i
  rw [h2.end]
  exact ⟨z, rfl, by simpa using hw⟩
theorem dec_b : ∀ e n, FitL [.bool] e n → ∃ a : Bool, e = encB a ∧ 1 ≤ n := by
  intro e n h
  have hw := h.weight
  obtain ⟨d, ds, a, b, rfl, rfl, h1, h2⟩ := h.un
  obtain ⟨z, rfl⟩ := h1.b
  rw [h2.end]
  exact ⟨z, rfl, by simpa using hw⟩
theorem dec_seg : ∀ e n, FitL [shI, shI] e n → ∃ a : Seg, e = encSeg a ∧ 1 ≤ n := by
  intro e n h
  have hw := h.weight
  simp only [List.length_cons] at hw
  obtain ⟨d0, ds0, _, _, rfl, rfl, g0, h_0⟩ := h.un
  obtain ⟨z1, rfl, w_z1⟩ := g0.i
  obtain ⟨d1, ds1, _, _, rfl, rfl, g1, h_1⟩ := h_0.un
  obtain ⟨z2, rfl, w_z2⟩ := g1.i
  rw [h_1.end]
  exact ⟨⟨z1, z2⟩, rfl, by omega⟩
theorem dec_lk : ∀ e n, FitL [shI, shI, shI, shI, shI, shI, shI] e n → ∃ a : Lk, e = encLk a ∧ 1 ≤ n := by
  intro e n h
  have hw := h.weight
  simp only [List.length_cons] at hw
  obtain ⟨d0, ds0, _, _, rfl, rfl, g0, h_0⟩ := h.un
  obtain ⟨z1, rfl, w_z1⟩ := g0.i
  obtain ⟨d1, ds1, _, _, rfl, rfl, g1, h_1⟩ := h_0.un
  obtain ⟨z2, rfl, w_z2⟩ := g1.i
  obtain ⟨d2, ds2, _, _, rfl, rfl, g2, h_2⟩ := h_1.un
  obtain ⟨z3, rfl, w_z3⟩ := g2.i
  obtain ⟨d3, ds3, _, _, rfl, rfl, g3, h_3⟩ := h_2.un
  obtain ⟨z4, rfl, w_z4⟩ := g3.i
  obtain ⟨d4, ds4, _, _, rfl, rfl, g4, h_4⟩ := h_3.un
  obtain ⟨z5, rfl, w_z5⟩ := g4.i
  obtain ⟨d5, ds5, _, _, rfl, rfl, g5, h_5⟩ := h_4.un
  obtain ⟨z6, rfl, w_z6⟩ := g5.i
  obtain ⟨d6, ds6, _, _, rfl, rfl, g6, h_6⟩ := h_5.un
  obtain ⟨z7, rfl, w_z7⟩ := g6.i
  rw [h_6.end]
  exact ⟨⟨z1, z2, z3, z4, z5, z6, z7⟩, rfl, by omega⟩

theorem kids : Kids Try.prog (· < Try.prog.types.size) := kids_rows (by kernel_rfl) (by kernel_rfl)
theorem full : ∀ t e, t < Try.prog.types.size → Try.prog.underlying t = some (.slice e) → 0 < Try.prog.cellsOf e := slices_full_of Try.prog (by kernel_rfl)
theorem own : ownKnob Try.prog.godebug = none := by kernel_rfl

end Go.Ab
