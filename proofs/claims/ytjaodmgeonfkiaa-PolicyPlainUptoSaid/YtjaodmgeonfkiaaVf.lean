/-
  Chapter 21, part f: where an arc leads.
-/
import Derived.Test.YtjaodmgeonfkiaaVe
namespace Go.Ab
open Go.Proofs

theorem xor_one : ∀ a : Fin 512, IntKind.i64.wrap ((BitVec.ofInt 64 (a.val : Int) ^^^ BitVec.ofInt 64 1).toNat : Int) = if a.val % 2 = 0 then (a.val : Int) + 1 else (a.val : Int) - 1 := by
  decide +kernel

theorem ghead_ok (P : Program) (hP : P = Try.prog) (t : Top) (a : Int) (h0 : 0 ≤ a) (h1 : a < 2 * t.links.length) (h2 : (t.links.length : Int) ≤ 256) : Ret P n_graph_Head [topA t, iA a] (iA (headG t a)) := by
  have hx : IntKind.i64.wrap ((BitVec.ofInt 64 a ^^^ BitVec.ofInt 64 1).toNat : Int) = if a % 2 = 0 then a + 1 else a - 1 := by
    have := xor_one ⟨a.toNat, by omega⟩
    simp only at this
    rw [show ((a.toNat : Nat) : Int) = a by omega] at this
    rw [this]
    by_cases hm : a % 2 = 0
    · rw [if_pos (by omega), if_pos hm]
    · rw [if_neg (by omega), if_neg hm]
  generalize hb : (if a % 2 = 0 then a + 1 else a - 1 : Int) = b at hx
  have ht := gtail_ok P hP t b (by rw [← hb]; split <;> omega) (by rw [← hb]; split <;> omega) h2
  have he : tailG t b = headG t a := by
    rw [← hb]
    unfold tailG headG lkAt
    by_cases hm : a % 2 = 0
    · rw [if_pos hm, if_pos hm, if_neg (by omega), show (a + 1) / 2 = a / 2 by omega]
    · rw [if_neg hm, if_neg hm, if_pos (by omega), show (a - 1) / 2 = a / 2 by omega]
  rw [he] at ht
  refine ret_start (hP ▸ mixed) (hP ▸ fn_graph_Head) (hP ▸ c_graph_Head) (Nat.le_of_ble_eq_true rfl) fun Λ Λo K hK => ?_
  clear hP he
  generalize headG t a = hd at *
  obtain ⟨nodes, ov, links⟩ := t
  simp only [topA, boolsD, linksD] at *
  generalize hol : ov.map encB = ol at *
  generalize hll : links.map encLk = ll at *
  have hlo : Λ ol = ov.length := by rw [Λo, ← hol]; simp
  have hls : Λ ll = links.length := by rw [Λo, ← hll]; simp
  conv => cbv
  repeat' first | (intro (_ : Unit); first | omega | rfl | exact ⟨rfl, by omega⟩ | (simp only [nI_eq]; omega) | ((repeat' first | rfl | omega | refine And.intro ?_ ?_ | (simp only [nI_eq]; omega) | exact Nat.le_of_ble_eq_true rfl); done)) | exact trivial | refine And.intro ?_ ?_ | (intro hc; exact absurd hc (by decide)) | (intro hc; exfalso; omega) | (intro hc; (first | rw [wrap_small (by omega) (by omega)] at hc | rw [nI_eq] at hc | skip); try (conv => cbv))
  refine ⟨.int .i64 b, ?_, ?_⟩
  · rw [← hx]; rfl
  rintro _ rfl
  conv => cbv
  repeat' first | refine call_i ht rfl rfl ?_ | (intro (_ : Unit); first | omega | rfl | exact ⟨rfl, by omega⟩ | (simp only [nI_eq]; omega) | ((repeat' first | rfl | omega | refine And.intro ?_ ?_ | (simp only [nI_eq]; omega) | exact Nat.le_of_ble_eq_true rfl); done)) | exact trivial | refine And.intro ?_ ?_ | (intro hc; exact absurd hc (by decide)) | (intro hc; exfalso; omega) | (intro hc; (first | rw [wrap_small (by omega) (by omega)] at hc | rw [nI_eq] at hc | skip); try (conv => cbv))
  all_goals (subst hc; exact hK)

end Go.Ab
