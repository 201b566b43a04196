/-
  Chapter 21, part e: copies are new memory.
-/
import Derived.Test.YtjaodmgeonfkiaaVd
import Derived.Test.YtjaodmgeonfkiaaFs
namespace Go.Ab
open Go.Proofs

theorem cloneSegs_fr (P : Program) (hP : P = Try.prog) (ll : List (List D)) (hl : ll.length ≤ 1000000) (hsc : ∀ e ∈ ll, ∀ d ∈ e, scalD d = true) : FrS P n_slices_Clone_api_Segment_api_Segment [.c (.d (.list false 2 ll))] (.c (.d (.list false 2 ll))) := by
  refine FrS.of_arr (fn_heap (hP ▸ mixed) (hP ▸ fn_slices_Clone_api_Segment_api_Segment) (hP ▸ c_slices_Clone_api_Segment_api_Segment) (Nat.le_of_ble_eq_true rfl) fun Λ Λo => ?_) hsc
  clear hP hsc
  generalize hK : (fun (r : AV) (h' : Hp) => (∃ l v n rl, r = .c (.arr l v 0 n) ∧ h'[l]? = some (.da rl v 2 ll) ∧ n = ll.length) ∨ (ll = [] ∧ ∃ nl, r = .c (.d (.list nl 2 [])))) = K
  have k1 : ∀ l v n rl (es : List (List D)) h', h'[l]? = some (Blk.da rl v 2 es) → es = ll → n = ll.length → K (.c (.arr l v 0 n)) h' := by
    intro l v n rl es h' h1 h2 h3; rw [← hK]; subst h2; exact .inl ⟨l, v, n, rl, rfl, h1, h3⟩
  have k2 : ll = [] → ∀ nl h', K (.c (.d (.list nl 2 []))) h' := by
    intro h1 nl h'; rw [← hK]; exact .inr ⟨h1, nl, rfl⟩
  clear hK
  have lln := Λo ll
  conv => cbv
  repeat' first | (intro (_ : Unit); first | omega | rfl | exact ⟨rfl, by omega⟩ | (simp only [nI_eq]; omega) | ((repeat' first | rfl | omega | refine And.intro ?_ ?_ | (simp only [nI_eq]; omega) | exact Nat.le_of_ble_eq_true rfl); done)) | exact trivial | refine And.intro ?_ ?_ | (intro hc; exact absurd hc (by decide)) | (intro hc; exfalso; omega) | (intro hc; (first | rw [wrap_small (by omega) (by omega)] at hc | rw [nI_eq] at hc | skip); try (conv => cbv))
  · exact k1 0 1 _ _ _ _ rfl (by rw [hc]; simp) (by rename_i h1 _; rw [h1]; simp)
  · exact k2 (by assumption) _ _

def natCloneL : List AV → Option AV
  | [.c (.d (.list false 2 l))] => if l.length ≤ 1000000 ∧ (l.all fun e => e.all scalD) = true then some (.c (.d (.list false 2 l))) else none
  | _ => none
theorem natCloneL_ok (args : List AV) (r : AV) (h : natCloneL args = some r) : FrS Try.prog n_slices_Clone_api_Segment_api_Segment args r := by
  unfold natCloneL at h
  split at h
  · split at h
    · rename_i l hl
      cases h
      have h2 := hl.2
      simp only [List.all_eq_true] at h2
      exact cloneSegs_fr Try.prog rfl l hl.1 fun e he d hd => h2 e he d hd
    · cases h
  · cases h

end Go.Ab
