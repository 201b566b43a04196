/-
  Contracts, part h: copies; the parts of a step.
-/
import Derived.Test.YtjaodmgeonfkiaaLg
namespace Go.Ab
open Go.Proofs

theorem cloneSegs_raw (P : Program) (hP : P = Try.prog) (ll : List (List D)) (hl : ll.length ≤ 1000000) : Ret P n_slices_Clone_api_Segment_api_Segment [.c (.d (.list false 2 ll))] (.c (.d (.list false 2 ll))) := by
  refine ret_start (hP ▸ mixed) (hP ▸ fn_slices_Clone_api_Segment_api_Segment) (hP ▸ c_slices_Clone_api_Segment_api_Segment) (Nat.le_of_ble_eq_true rfl) fun Λ Λo K hK => ?_
  clear hP
  have h0 : ll = [] → K (.c (.d (.list false 2 []))) := fun h => by rw [h] at hK; exact hK
  have lln := Λo ll
  conv => cbv
  repeat' first | (intro (_ : Unit); first | omega | rfl | exact ⟨rfl, by omega⟩ | (simp only [nI_eq]; omega) | ((repeat' first | rfl | omega | refine And.intro ?_ ?_ | (simp only [nI_eq]; omega) | exact Nat.le_of_ble_eq_true rfl); done)) | exact trivial | refine And.intro ?_ ?_ | (intro hc; exact absurd hc (by decide)) | (intro hc; exfalso; omega) | (intro hc; (first | rw [wrap_small (by omega) (by omega)] at hc | rw [nI_eq] at hc | skip); try (conv => cbv))
  · rename_i m r es hm hr hes ls
    have : ls = ll := by subst hc hes hm; simp
    rw [this]; exact hK
  · exact h0 hc

theorem cloneSegs_ok (P : Program) (hP : P = Try.prog) (l : List Seg) (hl : l.length ≤ 1000000) : Ret P n_slices_Clone_api_Segment_api_Segment [segsA l] (segsA l) :=
  cloneSegs_raw P hP _ (by rw [List.length_map]; exact hl)

/-- lists of lists -/
def encSegs (l : List Seg) : List D := [segsD l]

theorem call_in {P : Program} {m : Nat} {L : Lv} {h : Hp} {f : Nat} {fn : Func} {af : AF} {xs : List X} {K : Lv → AV → Hp → Prop} (hm : P.follows .mixedOrders = true) (hf : P.funcs[f]? = some fn) (hc : compF P fn = some af) (hl : (evsN L xs).length ≤ af.nt)
    (hv : ∀ Λ : Len, (∀ l, Λ l = (l.length : Int)) → vcH P Λ af (evsN L xs) h (K L)) : CallS P m false L h f xs K := .fn (fn_heap hm hf hc hl hv)

def sumLen (l : List (List Seg)) : Nat := (l.map List.length).sum

theorem sumLen_take {l : List (List Seg)} {k : Nat} {x : List Seg} (h : l[k]? = some x) : sumLen (l.take (k + 1)) = sumLen (l.take k) + x.length := by
  rw [take_succ_get h]; simp [sumLen]

theorem sumLen_le (l : List (List Seg)) (k : Nat) : sumLen (l.take k) ≤ sumLen l := by
  have : sumLen l = sumLen (l.take k) + sumLen (l.drop k) := by
    conv => lhs; rw [← List.take_append_drop k l]
    simp [sumLen, -List.take_append_drop]
  omega

theorem flat_len (l : List (List Seg)) : l.flatten.length = sumLen l := by simp [sumLen, List.length_flatten]
end Go.Ab
