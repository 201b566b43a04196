/-
  Chapter 23: what a row of one case reads.
-/
import Derived.Test.YtlmddegckmbgkaaCa
import Derived.Test.YtlmddegckmbgkaaNa
namespace Go.Ab
open Go.Proofs Go.Proofs.Ytlmddegckmbgkaa Go.ChangeShapes Go.WideShapes Go.ChangeAt Go.RowKit

abbrev shI : Sh := .int .i64
def shTop : List Sh := [shI, .list 1 [.bool], .list 7 [shI, shI, shI, shI, shI, shI, shI]]
def shTab : List Sh := [shI, .list 3 [.list 1 [shI], .bool, .list 2 [shI, shI]], .list 1 [shI]]
def shPkt : List Sh := [shI, shI, shI, shI, .list 2 [shI, shI], shI]

theorem dec_i : ∀ e n, FitL [shI] e n → ∃ a : Int, e = encI a ∧ 1 ≤ n := by
  intro e n h
  have hw := h.weight
  obtain ⟨d, ds, a, b, rfl, rfl, h1, h2⟩ := h.un
  obtain ⟨z, rfl, _⟩ := h1.i
  rw [h2.end]
  exact ⟨z, rfl, by simpa using hw⟩
theorem dec_b : ∀ e n, FitL [.bool] e n → ∃ a : Bool, e = encB a ∧ 1 ≤ n := by
  intro e n h
  have hw := h.weight
  obtain ⟨d, ds, a, b, rfl, rfl, h1, h2⟩ := h.un
  obtain ⟨z, rfl⟩ := h1.b
  rw [h2.end]
  exact ⟨z, rfl, by simpa using hw⟩
theorem dec_seg : ∀ e n, FitL [shI, shI] e n → ∃ a : Seg, e = encSeg a ∧ 1 ≤ n := by
  intro e n h
  have hw := h.weight
  simp only [List.length_cons] at hw
  obtain ⟨d0, ds0, _, _, rfl, rfl, g0, h_0⟩ := h.un
  obtain ⟨z1, rfl, w_z1⟩ := g0.i
  obtain ⟨d1, ds1, _, _, rfl, rfl, g1, h_1⟩ := h_0.un
  obtain ⟨z2, rfl, w_z2⟩ := g1.i
  rw [h_1.end]
  exact ⟨⟨z1, z2⟩, rfl, by omega⟩
theorem dec_lk : ∀ e n, FitL [shI, shI, shI, shI, shI, shI, shI] e n → ∃ a : Lk, e = encLk a ∧ 1 ≤ n := by
  intro e n h
  have hw := h.weight
  simp only [List.length_cons] at hw
  obtain ⟨d0, ds0, _, _, rfl, rfl, g0, h_0⟩ := h.un
  obtain ⟨z1, rfl, w_z1⟩ := g0.i
  obtain ⟨d1, ds1, _, _, rfl, rfl, g1, h_1⟩ := h_0.un
  obtain ⟨z2, rfl, w_z2⟩ := g1.i
  obtain ⟨d2, ds2, _, _, rfl, rfl, g2, h_2⟩ := h_1.un
  obtain ⟨z3, rfl, w_z3⟩ := g2.i
  obtain ⟨d3, ds3, _, _, rfl, rfl, g3, h_3⟩ := h_2.un
  obtain ⟨z4, rfl, w_z4⟩ := g3.i
  obtain ⟨d4, ds4, _, _, rfl, rfl, g4, h_4⟩ := h_3.un
  obtain ⟨z5, rfl, w_z5⟩ := g4.i
  obtain ⟨d5, ds5, _, _, rfl, rfl, g5, h_5⟩ := h_4.un
  obtain ⟨z6, rfl, w_z6⟩ := g5.i
  obtain ⟨d6, ds6, _, _, rfl, rfl, g6, h_6⟩ := h_5.un
  obtain ⟨z7, rfl, w_z7⟩ := g6.i
  rw [h_6.end]
  exact ⟨⟨z1, z2, z3, z4, z5, z6, z7⟩, rfl, by omega⟩
def wEnt (a : Ety) : Nat := a.arcs.length + a.push.length + 1
theorem dec_ent : ∀ e n, FitL [.list 1 [shI], .bool, .list 2 [shI, shI]] e n → ∃ a : Ety, e = encEnt a ∧ wEnt a ≤ n := by
  intro e n h
  obtain ⟨d0, ds0, _, _, rfl, rfl, g0, h_0⟩ := h.un
  obtain ⟨arcs, rfl, w_arcs⟩ := g0.lm encI (fun _ => 1) dec_i
  rw [sum_one] at w_arcs
  obtain ⟨d1, ds1, _, _, rfl, rfl, g1, h_1⟩ := h_0.un
  obtain ⟨rep, rfl⟩ := g1.b
  obtain ⟨d2, ds2, _, _, rfl, rfl, g2, h_2⟩ := h_1.un
  obtain ⟨push, rfl, w_push⟩ := g2.lm encSeg (fun _ => 1) dec_seg
  rw [sum_one] at w_push
  rw [h_2.end]
  exact ⟨⟨arcs, rep, push⟩, rfl, by simp only [wEnt]; omega⟩

/-- a size of what was read: more than any of its lengths -/
def sizeX (c : Cas) : Nat := sizeC c + c.x.to.length + c.t.ov.length + c.t.links.length

theorem ent_sum (l : List Ety) : (l.map wEnt).sum = entSum l + l.length := by
  induction l with
  | nil => rfl
  | cons a l ih => simp only [List.map_cons, List.sum_cons, ih, entSum, List.length_cons, wEnt]; omega

theorem dec_cas {ds : List D} {n : Nat} (h : FitL (shTop ++ shTab ++ shPkt) ds n) : ∃ c : Cas, casA c = .agg (ds.map .d) ∧ sizeX c ≤ n ∧ (Lit.int .i64 c.p.hops).wf = true := by
  obtain ⟨d0, ds0, _, _, rfl, rfl, g0, h_0⟩ := h.un
  obtain ⟨nodes, rfl, w_nodes⟩ := g0.i
  obtain ⟨d1, ds1, _, _, rfl, rfl, g1, h_1⟩ := h_0.un
  obtain ⟨ov, rfl, w_ov⟩ := g1.lm encB (fun _ => 1) dec_b
  rw [sum_one] at w_ov
  obtain ⟨d2, ds2, _, _, rfl, rfl, g2, h_2⟩ := h_1.un
  obtain ⟨links, rfl, w_links⟩ := g2.lm encLk (fun _ => 1) dec_lk
  rw [sum_one] at w_links
  obtain ⟨d3, ds3, _, _, rfl, rfl, g3, h_3⟩ := h_2.un
  obtain ⟨node, rfl, w_node⟩ := g3.i
  obtain ⟨d4, ds4, _, _, rfl, rfl, g4, h_4⟩ := h_3.un
  obtain ⟨to, rfl, w_to⟩ := g4.lm encEnt wEnt dec_ent
  obtain ⟨d5, ds5, _, _, rfl, rfl, g5, h_5⟩ := h_4.un
  obtain ⟨down, rfl, w_down⟩ := g5.lm encI (fun _ => 1) dec_i
  rw [sum_one] at w_down
  obtain ⟨d6, ds6, _, _, rfl, rfl, g6, h_6⟩ := h_5.un
  obtain ⟨id, rfl, w_id⟩ := g6.i
  obtain ⟨d7, ds7, _, _, rfl, rfl, g7, h_7⟩ := h_6.un
  obtain ⟨src, rfl, w_src⟩ := g7.i
  obtain ⟨d8, ds8, _, _, rfl, rfl, g8, h_8⟩ := h_7.un
  obtain ⟨dst, rfl, w_dst⟩ := g8.i
  obtain ⟨d9, ds9, _, _, rfl, rfl, g9, h_9⟩ := h_8.un
  obtain ⟨flow, rfl, w_flow⟩ := g9.i
  obtain ⟨d10, ds10, _, _, rfl, rfl, g10, h_10⟩ := h_9.un
  obtain ⟨stack, rfl, w_stack⟩ := g10.lm encSeg (fun _ => 1) dec_seg
  rw [sum_one] at w_stack
  obtain ⟨d11, ds11, _, _, rfl, rfl, g11, h_11⟩ := h_10.un
  obtain ⟨hops, rfl, w_hops⟩ := g11.i
  rw [h_11.end]
  rw [ent_sum] at w_to
  exact ⟨⟨⟨nodes, ov, links⟩, ⟨node, to, down⟩, ⟨id, src, dst, flow, stack, hops⟩⟩, rfl, by simp only [sizeX, sizeC]; omega, w_hops⟩

theorem kids : Kids Try.prog (· < Try.prog.types.size) := kids_rows (by kernel_rfl) (by kernel_rfl)
theorem full : ∀ t e, t < Try.prog.types.size → Try.prog.underlying t = some (.slice e) → 0 < Try.prog.cellsOf e := slices_full_of Try.prog (by kernel_rfl)
theorem own : ownKnob Try.prog.godebug = none := by kernel_rfl

end Go.Ab
