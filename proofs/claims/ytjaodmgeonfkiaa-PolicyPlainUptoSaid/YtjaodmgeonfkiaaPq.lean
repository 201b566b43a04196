/-
  Chapter 21: what a row of one query reads.
-/
import Derived.Test.YtjaodmgeonfkiaaPz
import Derived.Test.YtjaodmgeonfkiaaWa
namespace Go.Ab
open Go.Proofs Go.Proofs.Ytjaodmgeonfkiaa Go.ChangeShapes Go.WideShapes Go.ChangeAt Go.RowKit

def shQry : List Sh := shTop ++ [.list 3 [shI, shI, .list 2 [shI, shI]], shI, .list 2 [shI, shI]]
def wPol (p : Pol) : Nat := p.list.length + 1
theorem dec_pol : ∀ e n, FitL [shI, shI, .list 2 [shI, shI]] e n → ∃ a : Pol, e = encPol a ∧ wPol a ≤ n := by
  intro e n h
  obtain ⟨d0, ds0, _, _, rfl, rfl, g0, h_0⟩ := h.un
  obtain ⟨node, rfl, w_node⟩ := g0.i
  obtain ⟨d1, ds1, _, _, rfl, rfl, g1, h_1⟩ := h_0.un
  obtain ⟨bind, rfl, w_bind⟩ := g1.i
  obtain ⟨d2, ds2, _, _, rfl, rfl, g2, h_2⟩ := h_1.un
  obtain ⟨list, rfl, w_list⟩ := g2.lm encSeg (fun _ => 1) dec_seg
  rw [sum_one] at w_list
  rw [h_2.end]
  exact ⟨⟨node, bind, list⟩, rfl, by simp only [wPol]; omega⟩

/-- the lengths of a query -/
def sizeQ (q : Qry) : Nat := q.t.ov.length + q.t.links.length + (q.ps.map wPol).sum + q.list.length

theorem dec_qry {ds : List D} {n : Nat} (h : FitL shQry ds n) : ∃ c : Qry, qryA c = .agg (ds.map .d) ∧ sizeQ c ≤ n := by
  obtain ⟨d0, ds0, _, _, rfl, rfl, g0, h_0⟩ := h.un
  obtain ⟨nodes, rfl, w_nodes⟩ := g0.i
  obtain ⟨d1, ds1, _, _, rfl, rfl, g1, h_1⟩ := h_0.un
  obtain ⟨ov, rfl, w_ov⟩ := g1.lm encB (fun _ => 1) dec_b
  rw [sum_one] at w_ov
  obtain ⟨d2, ds2, _, _, rfl, rfl, g2, h_2⟩ := h_1.un
  obtain ⟨links, rfl, w_links⟩ := g2.lm encLk (fun _ => 1) dec_lk
  rw [sum_one] at w_links
  obtain ⟨d3, ds3, _, _, rfl, rfl, g3, h_3⟩ := h_2.un
  obtain ⟨ps, rfl, w_ps⟩ := g3.lm encPol wPol dec_pol
  obtain ⟨d4, ds4, _, _, rfl, rfl, g4, h_4⟩ := h_3.un
  obtain ⟨node, rfl, w_node⟩ := g4.i
  obtain ⟨d5, ds5, _, _, rfl, rfl, g5, h_5⟩ := h_4.un
  obtain ⟨list, rfl, w_list⟩ := g5.lm encSeg (fun _ => 1) dec_seg
  rw [sum_one] at w_list
  rw [h_5.end]
  exact ⟨⟨⟨nodes, ov, links⟩, ps, node, list⟩, rfl, by simp only [sizeQ]; omega⟩

end Go.Ab
