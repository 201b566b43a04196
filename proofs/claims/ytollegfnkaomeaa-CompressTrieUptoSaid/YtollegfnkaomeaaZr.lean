/-
  Merged texts, part r.
-/
import Derived.Test.YtollegfnkaomeaaZq
import Derived.KernelRfl
/-
  Compressing, part t: what the law looks at first.
-/
namespace Go.Ab
open Go.Proofs
theorem few_ok (P : Program) (hP : P = Try.prog) (l : List Rt) : Ret P n_law06_few [rtsA l] (bA (decide (l.length ≤ 20))) := by
 refine ret_start (hP ▸ mixed) (hP ▸ fn_law06_few) (hP ▸ c_law06_few) (Nat.le_of_ble_eq_true rfl) fun Λ Λo K hK => ?_
 clear hP
 have yes : l.length ≤ 20 → K (bA true) := fun h => by rw [decide_eq_true h] at hK; exact hK
 have no : ¬ l.length ≤ 20 → K (bA false) := fun h => by rw [decide_eq_false h] at hK; exact hK
 clear hK
 simp only [rtsA, rtsD] at *
 generalize rlh : l.map encRt = rl at *
 have rln : Λ rl = l.length := by rw [Λo, ← rlh]; simp
 conv => cbv
 repeat' first | exact gu | exact trivial | refine And.intro ?_ ?_ | (intro hc; exact absurd hc (by decide)) | (intro hc; exfalso; omega) | (intro hc; (first | rw [wrap_small (by omega) (by omega)] at hc | rw [nI_eq] at hc | skip); try (conv => cbv)) | refine CallG.old ?_
 all_goals first | exact yes (by omega) | exact no (by omega)
theorem route_at (P : Program) (hP : P = Try.prog) (a b n v z : Int)
  (hz : ∀ x y u w, x = IntKind.u32.wrap a → u = IntKind.u32.wrap (x * 2 ^ min (Int.toNat 24) IntKind.u32.bits) → y = IntKind.u32.wrap b → w = IntKind.u32.wrap (y * 2 ^ min (Int.toNat 16) IntKind.u32.bits) → binD BinOp.or (D.int IntKind.u32 u) (D.int IntKind.u32 w) = some (.int .u32 z)) :
  Ret P n_law06_route [iA a, iA b, iA n, iA v] (.agg [.d (u32D z), .d (iD n), .d (iD v)]) := by
 refine ret_start (hP ▸ mixed) (hP ▸ fn_law06_route) (hP ▸ c_law06_route) (Nat.le_of_ble_eq_true rfl) fun Λ Λo K hK => ?_
 clear hP
 conv => cbv
 repeat' first | (refine ⟨.int .u32 z, hz _ _ _ _ (by assumption) (by assumption) (by assumption) (by assumption), ?_⟩; intro d' hd; subst hd; (conv => cbv)) | exact gu | exact trivial | refine And.intro ?_ ?_ | (intro hc; exact absurd hc (by decide)) | (intro hc; exfalso; omega) | (intro hc; (first | rw [wrap_small (by omega) (by omega)] at hc | rw [nI_eq] at hc | skip); try (conv => cbv)) | refine CallG.old ?_
 exact hK
theorem route_z {a b z : Int} (h : binD BinOp.or (D.int IntKind.u32 (IntKind.u32.wrap (IntKind.u32.wrap a * 2 ^ min (Int.toNat 24) IntKind.u32.bits))) (D.int IntKind.u32 (IntKind.u32.wrap (IntKind.u32.wrap b * 2 ^ min (Int.toNat 16) IntKind.u32.bits))) = some (.int .u32 z)) :
  ∀ x y u w, x = IntKind.u32.wrap a → u = IntKind.u32.wrap (x * 2 ^ min (Int.toNat 24) IntKind.u32.bits) → y = IntKind.u32.wrap b → w = IntKind.u32.wrap (y * 2 ^ min (Int.toNat 16) IntKind.u32.bits) → binD BinOp.or (D.int IntKind.u32 u) (D.int IntKind.u32 w) = some (.int .u32 z) := by
 rintro x y u w rfl rfl rfl rfl
 exact h
theorem comp_1 : compS [⟨⟨167772160, 9⟩, 1⟩, ⟨⟨176160768, 9⟩, 1⟩, ⟨⟨171966464, 10⟩, 2⟩] = [⟨⟨167772160, 8⟩, 1⟩, ⟨⟨171966464, 10⟩, 2⟩] := by kernel_rfl
theorem comp_2 : compS [⟨⟨0, 1⟩, 1⟩, ⟨⟨2147483648, 1⟩, 2⟩] = [⟨⟨0, 0⟩, 1⟩, ⟨⟨2147483648, 1⟩, 2⟩] := by kernel_rfl
set_option maxHeartbeats 2000000 in
theorem awake_ok (P : Program) (hP : P = Try.prog) : Ret P n_law06_awake [] (bA true) := by
 have r1 := route_at P hP 10 0 9 1 167772160 (route_z (by kernel_rfl))
 have r2 := route_at P hP 10 128 9 1 176160768 (route_z (by kernel_rfl))
 have r3 := route_at P hP 10 64 10 2 171966464 (route_z (by kernel_rfl))
 have r4 := route_at P hP 0 0 1 1 0 (route_z (by kernel_rfl))
 have r5 := route_at P hP 128 0 1 2 2147483648 (route_z (by kernel_rfl))
 have r6 := route_at P hP 10 0 8 1 167772160 (route_z (by kernel_rfl))
 have c1 := compress_ok P hP [⟨⟨167772160, 9⟩, 1⟩, ⟨⟨176160768, 9⟩, 1⟩, ⟨⟨171966464, 10⟩, 2⟩] (by intro r hr; simp only [List.mem_cons, List.not_mem_nil, or_false] at hr; rcases hr with rfl | rfl | rfl <;> exact ⟨⟨by decide, by decide⟩, by decide, by decide⟩) (by decide)
 have c2 := compress_ok P hP [⟨⟨0, 1⟩, 1⟩, ⟨⟨2147483648, 1⟩, 2⟩] (by intro r hr; simp only [List.mem_cons, List.not_mem_nil, or_false] at hr; rcases hr with rfl | rfl <;> exact ⟨⟨by decide, by decide⟩, by decide, by decide⟩) (by decide)
 rw [comp_1, show validR [⟨⟨167772160, 9⟩, 1⟩, ⟨⟨176160768, 9⟩, 1⟩, ⟨⟨171966464, 10⟩, 2⟩] = true by kernel_rfl] at c1
 rw [comp_2, show validR [⟨⟨0, 1⟩, 1⟩, ⟨⟨2147483648, 1⟩, 2⟩] = true by kernel_rfl] at c2
 simp only [if_true, rtsA, rtsD, encRt, List.map_cons, List.map_nil] at c1 c2
 refine ret_start (hP ▸ mixed) (hP ▸ fn_law06_awake) (hP ▸ c_law06_awake) (Nat.le_of_ble_eq_true rfl) fun Λ Λo K hK => ?_
 clear hP
 have l1 : Λ [[.int .u32 167772160, .int .i64 8, .int .i64 1], [.int .u32 171966464, .int .i64 10, .int .i64 2]] = 2 := by rw [Λo]; rfl
 have l2 : Λ [[.int .u32 0, .int .i64 0, .int .i64 1], [.int .u32 2147483648, .int .i64 1, .int .i64 2]] = 2 := by rw [Λo]; rfl
 have e0 : ([[.int .u32 167772160, .int .i64 8, .int .i64 1], [.int .u32 171966464, .int .i64 10, .int .i64 2]] : List (List D))[Int.toNat 0]? = some [.int .u32 167772160, .int .i64 8, .int .i64 1] := rfl
 have e1 : ([[.int .u32 167772160, .int .i64 8, .int .i64 1], [.int .u32 171966464, .int .i64 10, .int .i64 2]] : List (List D))[Int.toNat 1]? = some [.int .u32 171966464, .int .i64 10, .int .i64 2] := rfl
 conv => cbv
 repeat' first | (refine call_r r1 rfl rfl ?_; conv => cbv) | (refine call_r r2 rfl rfl ?_; conv => cbv) | (refine call_r r3 rfl rfl ?_; conv => cbv) | (refine call_r r4 rfl rfl ?_; conv => cbv) | (refine call_r r5 rfl rfl ?_; conv => cbv) | (refine call_r r6 rfl rfl ?_; conv => cbv) | (refine call_r c1 rfl rfl ?_; conv => cbv) | (refine call_r c2 rfl rfl ?_; conv => cbv) | (refine call_z 0 0 3 3 rfl rfl (by repeat' first | exact trivial | refine And.intro ?_ ?_ | rfl) (by repeat' first | exact trivial | refine And.intro ?_ ?_ | rfl) ?_; conv => cbv) | (refine call_z 1 0 3 2 rfl rfl (by repeat' first | exact trivial | refine And.intro ?_ ?_ | rfl) (by repeat' first | exact trivial | refine And.intro ?_ ?_ | rfl) ?_; conv => cbv) | (intro (e : List D) he; cases Option.some.inj (he.symm.trans e0); (conv => cbv)) | (intro (e : List D) he; cases Option.some.inj (he.symm.trans e1); (conv => cbv)) | exact gu | exact trivial | refine And.intro ?_ ?_ | (intro hc; exact absurd hc (by decide)) | (intro hc; exfalso; omega) | (intro hc; (first | rw [wrap_small (by omega) (by omega)] at hc | rw [nI_eq] at hc | skip); try (conv => cbv)) | refine CallG.old ?_
 exact hK
end Go.Ab

/-
  Compressing, part u: the laws Effect and Least.
-/
namespace Go.Ab
open Go.Proofs
theorem tbl_comp {l : List Rt} (h : validR l = true) : compS l = tblS l := if_pos h
end Go.Ab

