/-
  Merged texts, part s.
-/
import Derived.Test.YtllgchplnhaplaaZr
/-
  The texts of the laws of the seat.
-/
namespace Go.Ab
open Go.Proofs
set_option maxRecDepth 100000
def af_law14_KpathsPrefix : AF := (AF.mk 56 [(4, .none)] (.seq (Rg [(AO.mk (.some 2) (.box (.t 0)) .none),(AO.mk (.some 3) (.box (.t 1)) .none),(AO.mk (.some 4) (.mv (Kb .false)) .none)]) (.seq (.seq (Rg [(AO.mk (.some 9) (.call 10 []) .none),(AO.mk (.some 10) (.un .not (.t 9)) .none)]) (.cond (.t 10) (.seq (Rg [(AO.mk (.some 4) (.mv (Kb .false)) .none)]) .ret) .skip)) (.seq (.seq (Rg [(AO.mk (.some 11) (.ld (.t 2) (.some 3)) .none),(AO.mk (.some 12) (.ld (.t 3) (.some 5)) .none),(AO.mk (.some 13) (.call 11 [(.t 11),(.t 12)]) .none),(AO.mk (.some 14) (.un .not (.t 13)) .none),(AO.mk (.some 15) (.mv (.t 14)) .none),(AO.mk (.some 16) (.fa (.t 3) 3) (.some (15, .false))),(AO.mk (.some 17) (.ld (.t 16) .none) (.some (15, .false))),(AO.mk (.some 18) (.bin .lss (.t 17) (Ki 1)) (.some (15, .false))),(AO.mk (.some 19) (.pick (.t 15) (Kb .true) (.t 18)) .none),(AO.mk (.some 20) (.mv (.t 19)) .none),(AO.mk (.some 21) (.fa (.t 3) 3) (.some (20, .false))),(AO.mk (.some 22) (.ld (.t 21) .none) (.some (20, .false))),(AO.mk (.some 23) (.bin .gtr (.t 22) (Ki 16)) (.some (20, .false))),(AO.mk (.some 24) (.pick (.t 20) (Kb .true) (.t 23)) .none)]) (.cond (.t 24) (.seq (Rg [(AO.mk (.some 4) (.mv (Kb .true)) .none)]) .ret) .skip)) (.seq (Rg [(AO.mk (.some 26) (.ld (.t 2) (.some 3)) .none),(AO.mk (.some 27) (.ld (.t 3) (.some 5)) .none),(AO.mk (.some 28) (.call 12 [(.t 26),(.t 27)]) .none),(AO.mk (.some 25) (.mv (.t 28)) .none),(AO.mk (.some 29) (.ext (.t 25) 0) .none),(AO.mk (.some 30) (.ext (.t 25) 1) .none),(AO.mk (.some 5) (.mv (.t 29)) .none),(AO.mk (.some 6) (.mv (.t 30)) .none)]) (.seq (Rg [(AO.mk (.some 31) (.fa (.t 3) 3) .none),(AO.mk .none (.st (.t 31) (Ki 16) 1) .none)]) (.seq (Rg [(AO.mk (.some 33) (.ld (.t 2) (.some 3)) .none),(AO.mk (.some 34) (.ld (.t 3) (.some 5)) .none),(AO.mk (.some 35) (.call 12 [(.t 33),(.t 34)]) .none),(AO.mk (.some 32) (.mv (.t 35)) .none),(AO.mk (.some 36) (.ext (.t 32) 0) .none),(AO.mk (.some 37) (.ext (.t 32) 1) .none),(AO.mk (.some 7) (.mv (.t 36)) .none),(AO.mk (.some 8) (.mv (.t 37)) .none)]) (.seq (Rg [(AO.mk (.some 38) (.mv (.t 6)) .none),(AO.mk (.some 39) (.mv (.t 8)) .none),(AO.mk (.some 40) (.bin .eql (.t 38) (.t 39)) .none),(AO.mk (.some 41) (.mv (.t 40)) .none),(AO.mk (.some 42) (.mv (.t 5)) (.some (41, .true))),(AO.mk (.some 43) (.len (.t 42)) (.some (41, .true))),(AO.mk (.some 44) (.mv (.t 7)) (.some (41, .true))),(AO.mk (.some 45) (.len (.t 44)) (.some (41, .true))),(AO.mk (.some 46) (.bin .leq (.t 43) (.t 45)) (.some (41, .true))),(AO.mk (.some 47) (.pick (.t 41) (.t 46) (Kb .false)) .none),(AO.mk (.some 48) (.mv (.t 47)) .none),(AO.mk (.some 49) (.mv (.t 5)) (.some (48, .true))),(AO.mk (.some 50) (.mv (.t 7)) (.some (48, .true))),(AO.mk (.some 51) (.mv (.t 5)) (.some (48, .true))),(AO.mk (.some 52) (.len (.t 51)) (.some (48, .true))),(AO.mk (.some 53) (.sl 1 (.t 50) .none (.some (.t 52)) .none) (.some (48, .true))),(AO.mk (.some 54) (.call 14 [(.t 49),(.t 53)]) (.some (48, .true))),(AO.mk (.some 55) (.pick (.t 48) (.t 54) (Kb .false)) .none),(AO.mk (.some 4) (.mv (.t 55)) .none)]) .ret))))))))
abbrev n_law14_KpathsPrefix : Nat := 5
theorem fn_law14_KpathsPrefix : Try.prog.funcs[n_law14_KpathsPrefix]? = some Try.f5 := Try.func5
theorem c_law14_KpathsPrefix : compF Try.prog Try.f5 = some af_law14_KpathsPrefix := by kernel_rfl
def af_law14_awake : AF := (AF.mk 60 [(0, .none)] (.seq (Rg [(AO.mk (.some 0) (.mv (Kb .false)) .none)]) (.seq (Rg [(AO.mk (.some 8) (.call 30 []) .none),(AO.mk (.some 9) (.call 29 [(.t 8),(.k (.c (.d (.list .true 1 [])))),(Ki 0),(Ki 2),(Ki 5),(Ki 0)]) .none),(AO.mk (.some 7) (.mv (.t 9)) .none),(AO.mk (.some 10) (.ext (.t 7) 0) .none),(AO.mk (.some 11) (.ext (.t 7) 1) .none),(AO.mk (.some 1) (.mv (.t 10)) .none),(AO.mk (.some 2) (.mv (.t 11)) .none)]) (.seq (Rg [(AO.mk (.some 13) (.call 30 []) .none),(AO.mk (.some 14) (.call 29 [(.t 13),(.k (.c (.d (.list .true 1 [])))),(Ki 0),(Ki 2),(Ki 5),(Ki 4)]) .none),(AO.mk (.some 12) (.mv (.t 14)) .none),(AO.mk (.some 15) (.ext (.t 12) 0) .none),(AO.mk (.some 16) (.ext (.t 12) 1) .none),(AO.mk (.some 3) (.mv (.t 15)) .none),(AO.mk (.some 4) (.mv (.t 16)) .none)]) (.seq (Rg [(AO.mk (.some 18) (.call 30 []) .none),(AO.mk (.some 19) (.mo (.lit (.list .false 1 [[(.int .i64 7)], [(.int .i64 5)]])) []) .none),(AO.mk (.some 20) (.call 17 [(.t 18),(.t 19)]) .none),(AO.mk (.some 17) (.mv (.t 20)) .none),(AO.mk (.some 21) (.ext (.t 17) 0) .none),(AO.mk (.some 22) (.ext (.t 17) 1) .none),(AO.mk (.some 5) (.mv (.t 21)) .none),(AO.mk (.some 6) (.mv (.t 22)) .none)]) (.seq (.seq (.reg .true [(AO.mk (.some 23) (.mv (.t 2)) .none),(AO.mk (.some 24) (.bin .eql (.t 23) (Ki 0)) .none),(AO.mk (.some 25) (.mv (.t 24)) .none),(AO.mk (.some 26) (.mv (.t 1)) (.some (25, .true))),(AO.mk (.some 27) (.mo (.lit (.list .false 1 [[(.int .i64 0)], [(.int .i64 2)]])) []) (.some (25, .true))),(AO.mk (.some 28) (.mo (.lit (.list .false 1 [[(.int .i64 7)], [(.int .i64 5)]])) []) (.some (25, .true))),(AO.mk (.some 29) (.bsl 1 [(.list .true 1 [])] 2 [(0, (.t 27)),(1, (.t 28))]) (.some (25, .true)))]) (.seq (Rg [(AO.mk (.some 30) (.call 14 [(.t 26),(.t 29)]) (.some (25, .true)))]) (.seq (.reg .true [(AO.mk (.some 31) (.pick (.t 25) (.t 30) (Kb .false)) .none),(AO.mk (.some 32) (.mv (.t 31)) .none),(AO.mk (.some 33) (.mv (.t 4)) (.some (32, .true))),(AO.mk (.some 34) (.bin .eql (.t 33) (Ki 0)) (.some (32, .true))),(AO.mk (.some 35) (.pick (.t 32) (.t 34) (Kb .false)) .none),(AO.mk (.some 36) (.mv (.t 35)) .none),(AO.mk (.some 37) (.mv (.t 3)) (.some (36, .true))),(AO.mk (.some 38) (.len (.t 37)) (.some (36, .true))),(AO.mk (.some 39) (.bin .eql (.t 38) (Ki 1)) (.some (36, .true))),(AO.mk (.some 40) (.pick (.t 36) (.t 39) (Kb .false)) .none),(AO.mk (.some 41) (.mv (.t 40)) .none),(AO.mk (.some 42) (.mv (.t 6)) (.some (41, .true))),(AO.mk (.some 43) (.bin .eql (.t 42) (Ki 0)) (.some (41, .true))),(AO.mk (.some 44) (.pick (.t 41) (.t 43) (Kb .false)) .none),(AO.mk (.some 45) (.mv (.t 44)) .none),(AO.mk (.some 46) (.mv (.t 5)) (.some (45, .true))),(AO.mk (.some 47) (.bin .eql (.t 46) (Ki 7)) (.some (45, .true))),(AO.mk (.some 48) (.pick (.t 45) (.t 47) (Kb .false)) .none),(AO.mk (.some 49) (.mv (.t 48)) .none),(AO.mk (.some 50) (.call 30 []) (.some (49, .true))),(AO.mk (.some 51) (.mv (.t 1)) (.some (49, .true))),(AO.mk (.some 52) (.ias 1 (.t 51) (Ki 0)) (.some (49, .true))),(AO.mk (.some 53) (.ld (.t 52) .none) (.some (49, .true))),(AO.mk (.some 54) (.mv (.t 1)) (.some (49, .true))),(AO.mk (.some 55) (.ias 1 (.t 54) (Ki 1)) (.some (49, .true))),(AO.mk (.some 56) (.ld (.t 55) .none) (.some (49, .true)))]) (.seq (Rg [(AO.mk (.some 57) (.call 16 [(.t 50),(.t 53),(.t 56)]) (.some (49, .true)))]) (.reg .true [(AO.mk (.some 58) (.bin .eql (.t 57) (Ki (-1))) (.some (49, .true))),(AO.mk (.some 59) (.pick (.t 49) (.t 58) (Kb .false)) .none),(AO.mk (.some 0) (.mv (.t 59)) .none)]))))) .ret))))))
abbrev n_law14_awake : Nat := 10
theorem fn_law14_awake : Try.prog.funcs[n_law14_awake]? = some Try.f10 := Try.func10
theorem c_law14_awake : compF Try.prog Try.f10 = some af_law14_awake := by kernel_rfl
def af_law14_small : AF := (AF.mk 31 [(4, .none)] (.seq (Rg [(AO.mk (.some 2) (.box (.t 0)) .none),(AO.mk (.some 3) (.box (.t 1)) .none),(AO.mk (.some 4) (.mv (Kb .false)) .none)]) (.seq (Rg [(AO.mk (.some 5) (.fa (.t 2) 2) .none),(AO.mk (.some 6) (.ld (.t 5) .none) .none),(AO.mk (.some 7) (.len (.t 6)) .none),(AO.mk (.some 8) (.bin .leq (.t 7) (Ki 11)) .none),(AO.mk (.some 9) (.mv (.t 8)) .none),(AO.mk (.some 10) (.fa (.t 2) 1) (.some (9, .true))),(AO.mk (.some 11) (.ld (.t 10) .none) (.some (9, .true))),(AO.mk (.some 12) (.len (.t 11)) (.some (9, .true))),(AO.mk (.some 13) (.bin .leq (.t 12) (Ki 20)) (.some (9, .true))),(AO.mk (.some 14) (.pick (.t 9) (.t 13) (Kb .false)) .none),(AO.mk (.some 15) (.mv (.t 14)) .none),(AO.mk (.some 16) (.fa (.t 3) 0) (.some (15, .true))),(AO.mk (.some 17) (.ld (.t 16) .none) (.some (15, .true))),(AO.mk (.some 18) (.len (.t 17)) (.some (15, .true))),(AO.mk (.some 19) (.bin .leq (.t 18) (Ki 40)) (.some (15, .true))),(AO.mk (.some 20) (.pick (.t 15) (.t 19) (Kb .false)) .none),(AO.mk (.some 21) (.mv (.t 20)) .none),(AO.mk (.some 22) (.ld (.t 2) (.some 3)) (.some (21, .true))),(AO.mk (.some 23) (.call 24 [(.t 22)]) (.some (21, .true))),(AO.mk (.some 24) (.un .not (.t 23)) (.some (21, .true))),(AO.mk (.some 25) (.mv (.t 24)) (.some (21, .true))),(AO.mk (.some 26) (.fa (.t 2) 0) (.some (25, .false))),(AO.mk (.some 27) (.ld (.t 26) .none) (.some (25, .false))),(AO.mk (.some 28) (.bin .leq (.t 27) (Ki 8)) (.some (25, .false))),(AO.mk (.some 29) (.pick (.t 25) (Kb .true) (.t 28)) (.some (21, .true))),(AO.mk (.some 30) (.pick (.t 21) (.t 29) (Kb .false)) .none),(AO.mk (.some 4) (.mv (.t 30)) .none)]) .ret)))
abbrev n_law14_small : Nat := 11
theorem fn_law14_small : Try.prog.funcs[n_law14_small]? = some Try.f11 := Try.func11
theorem c_law14_small : compF Try.prog Try.f11 = some af_law14_small := by kernel_rfl
def af_law14_shortest : AF := (AF.mk 22 [(4, .none),(5, .none)] (.seq (Rg [(AO.mk (.some 2) (.box (.t 0)) .none),(AO.mk (.some 3) (.box (.t 1)) .none),(AO.mk (.some 4) (.mv (.k (.c (.d (.list .true 1 []))))) .none),(AO.mk (.some 5) (.mv (Ki 0)) .none)]) (.seq (.seq (.rgf [[], [], [], [2], [1, 2, 3], [], [5], [], [7], [], [9], [], [11], [0, 1, 2, 3, 4, 5, 6, 7, 8, 9, 10, 11, 12], [0, 1, 2, 3, 4, 5, 6, 7, 8, 9, 10, 11, 12, 13], [0, 1, 2, 3, 4, 5, 6, 7, 8, 9, 10, 11, 12, 13], [0, 1, 2, 3, 4, 5, 6, 7, 8, 9, 10, 11, 12, 13, 14, 15], [0, 1, 2, 3, 4, 5, 6, 7, 8, 9, 10, 11, 12, 13, 14, 15, 16]] 0 [(AO.mk (.some 6) (.ld (.t 2) (.some 3)) .none),(AO.mk (.some 7) (.bsl 1 [(.bool .false)] 0 []) .none),(AO.mk (.some 8) (.fa (.t 3) 0) .none),(AO.mk (.some 9) (.ld (.t 8) .none) .none),(AO.mk (.some 10) (.app 1 1 [(.bool .false)] (.t 7) (.t 9)) .none),(AO.mk (.some 11) (.fa (.t 3) 1) .none),(AO.mk (.some 12) (.ld (.t 11) .none) .none),(AO.mk (.some 13) (.fa (.t 3) 2) .none),(AO.mk (.some 14) (.ld (.t 13) .none) .none),(AO.mk (.some 15) (.fa (.t 3) 3) .none),(AO.mk (.some 16) (.ld (.t 15) .none) .none),(AO.mk (.some 17) (.fa (.t 3) 4) .none),(AO.mk (.some 18) (.ld (.t 17) .none) .none)]) (.seq (Rg [(AO.mk (.some 19) (.call 29 [(.t 6),(.t 10),(.t 12),(.t 14),(.t 16),(.t 18)]) .none)]) (.rgf [[], [], [], [2], [1, 2, 3], [], [5], [], [7], [], [9], [], [11], [0, 1, 2, 3, 4, 5, 6, 7, 8, 9, 10, 11, 12], [0, 1, 2, 3, 4, 5, 6, 7, 8, 9, 10, 11, 12, 13], [0, 1, 2, 3, 4, 5, 6, 7, 8, 9, 10, 11, 12, 13], [0, 1, 2, 3, 4, 5, 6, 7, 8, 9, 10, 11, 12, 13, 14, 15], [0, 1, 2, 3, 4, 5, 6, 7, 8, 9, 10, 11, 12, 13, 14, 15, 16]] 14 [(AO.mk (.some 20) (.ext (.t 19) 0) .none),(AO.mk (.some 21) (.ext (.t 19) 1) .none),(AO.mk (.some 4) (.mv (.t 20)) .none),(AO.mk (.some 5) (.mv (.t 21)) .none)]))) .ret)))
abbrev n_law14_shortest : Nat := 12
theorem fn_law14_shortest : Try.prog.funcs[n_law14_shortest]? = some Try.f12 := Try.func12
theorem c_law14_shortest : compF Try.prog Try.f12 = some af_law14_shortest := by kernel_rfl
def af_ref14_Same : AF := (AF.mk 27 [(4, .none)] (.seq (Rg [(AO.mk (.some 4) (.mv (Kb .false)) .none)]) (.seq (.seq (Rg [(AO.mk (.some 6) (.mv (.t 0)) .none),(AO.mk (.some 7) (.len (.t 6)) .none),(AO.mk (.some 8) (.mv (.t 1)) .none),(AO.mk (.some 9) (.len (.t 8)) .none),(AO.mk (.some 10) (.bin .neq (.t 7) (.t 9)) .none)]) (.cond (.t 10) (.seq (Rg [(AO.mk (.some 4) (.mv (Kb .false)) .none)]) .ret) .skip)) (.seq (.seq (Rg [(AO.mk (.some 5) (.mv (Ki 0)) .none)]) (.block 0 (.loop (.seq (.seq (Rg [(AO.mk (.some 11) (.mv (.t 5)) .none),(AO.mk (.some 12) (.mv (.t 0)) .none),(AO.mk (.some 13) (.len (.t 12)) .none),(AO.mk (.some 14) (.bin .lss (.t 11) (.t 13)) .none)]) (.cond (.t 14) .skip (.exit 0))) (.seq (.block 1 (.seq (.seq (.reg .true [(AO.mk (.some 17) (.mv (.t 0)) .none),(AO.mk (.some 18) (.mv (.t 5)) .none),(AO.mk (.some 19) (.ias 1 (.t 17) (.t 18)) .none),(AO.mk (.some 20) (.ld (.t 19) .none) .none),(AO.mk (.some 21) (.mv (.t 1)) .none),(AO.mk (.some 22) (.mv (.t 5)) .none),(AO.mk (.some 23) (.ias 1 (.t 21) (.t 22)) .none),(AO.mk (.some 24) (.ld (.t 23) .none) .none)]) (.seq (Rg [(AO.mk (.some 25) (.call 28 [(.t 20),(.t 24)]) .none)]) (.reg .true [(AO.mk (.some 26) (.un .not (.t 25)) .none)]))) (.cond (.t 26) (.seq (Rg [(AO.mk (.some 4) (.mv (Kb .false)) .none)]) .ret) .skip))) (Rg [(AO.mk (.some 15) (.mv (.t 5)) .none),(AO.mk (.some 16) (.bin .add (.t 15) (Ki 1)) .none),(AO.mk (.some 5) (.mv (.t 16)) .none)])))))) (.seq (Rg [(AO.mk (.some 4) (.mv (Kb .true)) .none)]) .ret)))))
abbrev n_ref14_Same : Nat := 14
theorem fn_ref14_Same : Try.prog.funcs[n_ref14_Same]? = some Try.f14 := Try.func14
theorem c_ref14_Same : compF Try.prog Try.f14 = some af_ref14_Same := by kernel_rfl
def af_law14_ring : AF := (AF.mk 22 [(0, (.some (.some 3)))] (.seq (Rg [(AO.mk (.some 0) (.box (.k (.agg [Di 0, (.d (.list .true 1 [])),(.d (.list .true 7 []))]))) .none)]) (.seq (Rg [(AO.mk (.some 3) (.build [Di 0, (.d (.list .true 1 [])),(.d (.list .true 7 []))] [(0, (1, (Ki 4)))]) .none),(AO.mk (.some 1) (.box (.k (.agg [Di 0, (.d (.list .true 1 [])),(.d (.list .true 7 []))]))) .none),(AO.mk .none (.st (.t 1) (.t 3) 3) .none)]) (.seq (.seq (Rg [(AO.mk (.some 2) (.mv (Ki 0)) .none)]) (.block 0 (.loop (.seq (.seq (Rg [(AO.mk (.some 4) (.mv (.t 2)) .none),(AO.mk (.some 5) (.bin .lss (.t 4) (Ki 4)) .none)]) (.cond (.t 5) .skip (.exit 0))) (.seq (.block 1 (Rg [(AO.mk (.some 8) (.fa (.t 1) 2) .none),(AO.mk (.some 9) (.ld (.t 8) .none) .none),(AO.mk (.some 10) (.mv (.t 2)) .none),(AO.mk (.some 11) (.mv (.t 2)) .none),(AO.mk (.some 12) (.bin .add (.t 11) (Ki 1)) .none),(AO.mk (.some 13) (.bin .rem (.t 12) (Ki 4)) .none),(AO.mk (.some 14) (.build [Di 0, (.d (.int .i64 0))] [(0, (1, (Ki 1))),(1, (1, (Ki 1)))]) .none),(AO.mk (.some 15) (.mv (.t 2)) .none),(AO.mk (.some 16) (.bin .add (Ki 1) (.t 15)) .none),(AO.mk (.some 17) (.build [Di 0, (.d (.int .i64 0)),(.d (.int .i64 0)),(.d (.int .i64 0)),(.d (.int .i64 0)),(.d (.int .i64 0)),(.d (.int .i64 0))] [(0, (1, (.t 10))),(1, (1, (.t 13))),(2, (2, (.t 14))),(5, (1, (.t 16)))]) .none),(AO.mk (.some 18) (.bsl 7 [(.int .i64 0),(.int .i64 0),(.int .i64 0),(.int .i64 0),(.int .i64 0),(.int .i64 0),(.int .i64 0)] 1 [(0, (.t 17))]) .none),(AO.mk (.some 19) (.app 7 56 [(.int .i64 0),(.int .i64 0),(.int .i64 0),(.int .i64 0),(.int .i64 0),(.int .i64 0),(.int .i64 0)] (.t 9) (.t 18)) .none),(AO.mk (.some 20) (.fa (.t 1) 2) .none),(AO.mk .none (.st (.t 20) (.t 19) 1) .none)])) (Rg [(AO.mk (.some 6) (.mv (.t 2)) .none),(AO.mk (.some 7) (.bin .add (.t 6) (Ki 1)) .none),(AO.mk (.some 2) (.mv (.t 7)) .none)])))))) (.seq (Rg [(AO.mk (.some 21) (.ld (.t 1) (.some 3)) .none),(AO.mk .none (.st (.t 0) (.t 21) 3) .none)]) .ret)))))
abbrev n_law14_ring : Nat := 30
theorem fn_law14_ring : Try.prog.funcs[n_law14_ring]? = some Try.f30 := Try.func30
theorem c_law14_ring : compF Try.prog Try.f30 = some af_law14_ring := by kernel_rfl
end Go.Ab

/-
  The reference's small functions on paths.
-/
namespace Go.Ab
open Go.Proofs
def dnB (down : List Bool) (a : Int) : Bool := decide (0 ≤ a ∧ a < down.length) && down.getD a.toNat false
theorem dnB_up {down : List Bool} {a : Int} (h0 : 0 ≤ a) (h1 : down.length = 0 ∨ a < down.length) : dnB down a = !upB down a := by
 unfold dnB upB
 rcases h1 with h1 | h1
 ·have : ¬ (a < (down.length : Int)) := by omega
  rw [decide_eq_false (fun h => this h.2), decide_eq_true h1]; rfl
 ·rw [decide_eq_true ⟨h0, h1⟩, decide_eq_false (by omega)]; simp
theorem rsame_ok (P : Program) (hP : P = Try.prog) (a b : List (List Int)) (ha : a.length ≤ 1000000) (hb : b.length ≤ 1000000) : Ret P n_ref14_Same [.c (.d (.list false 1 (a.map encRow))), .c (.d (.list false 1 (b.map encRow)))] (bA (decide (a = b))) := by
 have hs := fun x y => sameInts_ok P hP x y
 refine ret_start (hP ▸ mixed) (hP ▸ fn_ref14_Same) (hP ▸ c_ref14_Same) (Nat.le_of_ble_eq_true rfl) fun Λ Λo K hK => ?_
 clear hP
 have yes := yes_of hK
 have no := no_of hK
 clear hK
 have hxa' : ∀ (k : Nat) (x : List Int), a[k]? = some x → (a.map encRow)[k]? = some [.list false 1 (x.map encI)] := fun k x hx => by rw [List.getElem?_map, hx]; rfl
 have hxb' : ∀ (k : Nat) (x : List Int), b[k]? = some x → (b.map encRow)[k]? = some [.list false 1 (x.map encI)] := fun k x hx => by rw [List.getElem?_map, hx]; rfl
 simp only [intsA, intsD] at *
 generalize hal : a.map encRow = al at *
 generalize hbl : b.map encRow = bl at *
 have aln : Λ al = a.length := by rw [Λo, ← hal]; simp
 have bln : Λ bl = b.length := by rw [Λo, ← hbl]; simp
 conv => cbv
 repeat' first | exact gu | exact trivial | refine And.intro ?_ ?_ | (intro hc; exact absurd hc (by decide)) | (intro hc; exfalso; omega) | (intro hc; (first | rw [wrap_small (by omega) (by omega)] at hc | rw [nI_eq] at hc | skip); try (conv => cbv))
 ·exact no fun h => by subst h; omega
 refine loop_up a.length (fun i : Int => [(0, .c (.d (.list false 1 al))), (1, .c (.d (.list false 1 bl))), (5, iA i)]) (fun _ => []) (fun k i => i = k ∧ k ≤ a.length ∧ a.take k = b.take k) 0 (Wk.cw) ⟨rfl, by omega, by simp⟩ (fun k s h => h.2.1) ?_
 rintro k i Q' ⟨hi, hk, hno⟩ norm ex rt
 by_cases hlt : k < a.length
 ·obtain ⟨x, hx⟩ : ∃ x, a[k]? = some x := ⟨_, List.getElem?_eq_getElem hlt⟩
  obtain ⟨y, hy⟩ : ∃ y, b[k]? = some y := ⟨_, List.getElem?_eq_getElem (by omega)⟩
  have hxa := hxa' k x hx
  have hya := hxb' k y hy
  have hsx := hs x y
  have e1 : i.toNat = k := by omega
  rw [← e1] at hxa hya
  by_cases hxy : x = y
  ·rw [decide_eq_true hxy] at hsx
   generalize x.map encI = xl at *
   generalize y.map encI = yl at *
   conv => cbv
   repeat' first | (intro e he; cases Option.some.inj (he.symm.trans hxa); (conv => cbv)) | (intro e he; cases Option.some.inj (he.symm.trans hya); (conv => cbv)) | (refine call_r hsx rfl rfl ?_; conv => cbv) | exact gu | exact trivial | refine And.intro ?_ ?_ | (intro hc; exact absurd hc (by decide)) | (intro hc; exfalso; omega) | (intro hc; (first | rw [wrap_small (by omega) (by omega)] at hc | rw [nI_eq] at hc | skip); try (conv => cbv))
   refine norm _ _ _ ?_ (Wk.cw)
   exact ⟨by omega, by omega, by rw [take_succ_get hx, take_succ_get hy, hno, hxy]⟩
  ·rw [decide_eq_false hxy] at hsx
   generalize x.map encI = xl at *
   generalize y.map encI = yl at *
   conv => cbv
   repeat' first | (intro e he; cases Option.some.inj (he.symm.trans hxa); (conv => cbv)) | (intro e he; cases Option.some.inj (he.symm.trans hya); (conv => cbv)) | (refine call_r hsx rfl rfl ?_; conv => cbv) | exact gu | exact trivial | refine And.intro ?_ ?_ | (intro hc; exact absurd hc (by decide)) | (intro hc; exfalso; omega) | (intro hc; (first | rw [wrap_small (by omega) (by omega)] at hc | rw [nI_eq] at hc | skip); try (conv => cbv))
   refine rt _ _ ?_
   conv => cbv
   refine no fun h => ?_
   subst h; rw [hx] at hy; cases hy; exact hxy rfl
 ·conv => cbv
  repeat' first | exact gu | exact trivial | refine And.intro ?_ ?_ | (intro hc; exact absurd hc (by decide)) | (intro hc; exfalso; omega) | (intro hc; (first | rw [wrap_small (by omega) (by omega)] at hc | rw [nI_eq] at hc | skip); try (conv => cbv))
  refine ex _ _ _ ?_
  conv => cbv
  repeat' first | exact gu | exact trivial | refine And.intro ?_ ?_ | (intro hc; exact absurd hc (by decide)) | (intro hc; exfalso; omega) | (intro hc; (first | rw [wrap_small (by omega) (by omega)] at hc | rw [nI_eq] at hc | skip); try (conv => cbv))
  exact yes (by rw [List.take_of_length_le (by omega), List.take_of_length_le (by omega)] at hno; exact hno)
end Go.Ab

/-
  The reference's enumeration of paths.
-/
namespace Go.Ab
open Go.Proofs
def extS (t : Top) (down : List Bool) (d : Int) : Nat → List Int → Int → List Bool → List (List Int)
 | 0, _, _, _ => []
 | m + 1, path, at', sn => if at' = d then [path] else if path ≠ [] ∧ ovT t at' = true then [] else
  (outT t at').flatMap fun a => if dnB down a = true ∨ sn.getD (headT t a).toNat false = true then [] else extS t down d m (path ++ [a]) (headT t a) (sn.set (headT t a).toNat true)
def freeB (sn : List Bool) : Nat := sn.countP (fun b => !b)
theorem freeB_set {sn : List Bool} {j : Nat} (h : sn[j]? = some false) : freeB (sn.set j true) + 1 = freeB sn := by
 induction sn generalizing j with
 | nil => simp at h
 | cons b r ih =>
  cases j with
  | zero =>
   simp only [List.getElem?_cons_zero, Option.some.injEq] at h
   subst h
   simp [freeB]
  | succ j =>
   have := ih (j := j) (by simpa using h)
   unfold freeB at this ⊢
   rw [List.set_cons_succ, List.countP_cons, List.countP_cons]
   omega
end Go.Ab

/-
  The reference's sorting of paths.
-/
namespace Go.Ab
open Go.Proofs
def insP (t : Top) (x : List Int) : List (List Int) → List (List Int)
 | [] => [x]
 | y :: r => if ordS (cst t y) (cst t x) y x < 0 then y :: insP t x r else x :: y :: r
def sortP (t : Top) (l : List (List Int)) : List (List Int) := l.foldl (fun E x => insP t x E) []
theorem insP_perm (t : Top) (x : List Int) : ∀ E, (insP t x E).Perm (x :: E)
 | [] => .refl _
 |y :: r => by
  rw [insP]
  split
  ·exact ((insP_perm t x r).cons y).trans (.swap _ _ _)
  ·exact .refl _
theorem foldP_perm (t : Top) : ∀ (l E : List (List Int)), (l.foldl (fun E x => insP t x E) E).Perm (l ++ E)
 | [], E => .refl _
 |x :: l, E => by
  rw [List.foldl_cons]
  refine (foldP_perm t l _).trans ?_
  have h1 : (l ++ insP t x E).Perm (l ++ x :: E) := (insP_perm t x E).append_left l
  exact h1.trans List.perm_middle
theorem sortP_perm (t : Top) (l : List (List Int)) : (sortP t l).Perm l := by
 have := foldP_perm t l []
 rwa [List.append_nil] at this
end Go.Ab

/-
  The reference's enumeration of all paths.
-/
namespace Go.Ab
open Go.Proofs
def seen0 (t : Top) (s : Int) : List Bool := (List.replicate t.nodes.toNat false).set s.toNat true
def simpS (t : Top) (down : List Bool) (s d : Int) : List (List Int) := extS t down d 8 [] s (seen0 t s)
end Go.Ab

/-
  The reference's paths are the good ones, each once.
-/
namespace Go.Ab
open Go.Proofs
def ExtP (t : Top) (down : List Bool) (d : Int) : Bool → Int → List Bool → List Int → Prop
 | _, v, _, [] => v = d
 | b, v, sn, a :: r => v ≠ d ∧ (b = true → ovT t v = false) ∧ ((0 ≤ a ∧ a < 2 * t.links.length) ∧ tailG t a = v) ∧ dnB down a = false ∧ sn.getD (headG t a).toNat false = false ∧ ExtP t down d true (headG t a) (sn.set (headG t a).toNat true) r
theorem outT_mem {t : Top} {a n : Int} (hv : validT t = true) : a ∈ outT t n ↔ (0 ≤ a ∧ a < 2 * t.links.length) ∧ tailG t a = n := by
 rw [outT, List.mem_filter, decide_eq_true_eq, arcsTo, List.mem_map]
 constructor
 ·rintro ⟨⟨j, hj, rfl⟩, h2⟩
  rw [List.mem_range, arcsT, if_pos hv] at hj
  have h0 : (0 : Int) ≤ (j : Int) := by omega
  have h1 : (j : Int) < 2 * t.links.length := by omega
  rw [tailT_valid hv h0 h1] at h2
  exact ⟨⟨h0, h1⟩, h2⟩
 ·rintro ⟨⟨h0, h1⟩, h2⟩
  refine ⟨⟨a.toNat, ?_, by omega⟩, by rw [tailT_valid hv h0 h1]; exact h2⟩
  rw [List.mem_range, arcsT, if_pos hv]; omega
theorem headT_valid' {t : Top} {a : Int} (hv : validT t = true) (h0 : 0 ≤ a) (h1 : a < 2 * t.links.length) : headT t a = headG t a := by
 rw [headT, headG, arcsT, if_pos hv, if_pos (show 0 ≤ a ∧ a < 2 * (t.links.length : Int) from ⟨h0, h1⟩)]
theorem head_rg {t : Top} {a : Int} (hv : validT t = true) (h0 : 0 ≤ a) (h1 : a < 2 * t.links.length) : 0 ≤ headG t a ∧ headG t a < t.nodes := by
 have := endG_range hv true h0 h1
 exact this
theorem outT_nodup (t : Top) (n : Int) : (outT t n).Nodup := by
 unfold outT
 refine List.Nodup.sublist List.filter_sublist ?_
 unfold arcsTo
 rw [List.nodup_iff_pairwise_ne, List.pairwise_map]
 refine List.Pairwise.imp ?_ (List.nodup_iff_pairwise_ne.1 List.nodup_range)
 intro a b h e
 exact h (by omega)
theorem extS_mem {t : Top} {down : List Bool} {d : Int} (hv : validT t = true) : ∀ (m : Nat) (path : List Int) (v : Int) (sn : List Bool), freeB sn < m → (sn.length : Int) = t.nodes → ∀ p, p ∈ extS t down d m path v sn ↔ ∃ q, p = path ++ q ∧ ExtP t down d (decide (path ≠ [])) v sn q
 | 0, _, _, _, h, _, _ => by omega
 |m + 1, path, v, sn, hf, hl, p => by
  rw [extS]
  by_cases hvd : v = d
  ·rw [if_pos hvd, List.mem_singleton]
   constructor
   ·intro h; exact ⟨[], by rw [h, List.append_nil], hvd⟩
   ·rintro ⟨q, h1, h2⟩
    cases q with
    | nil => rw [h1, List.append_nil]
    | cons a r => exact absurd hvd h2.1
  ·rw [if_neg hvd]
   by_cases hov : path ≠ [] ∧ ovT t v = true
   ·rw [if_pos hov]
    constructor
    ·intro h; cases h
    ·rintro ⟨q, h1, h2⟩
     cases q with
     | nil => exact absurd h2 hvd
     | cons a r =>
      have := h2.2.1 (decide_eq_true hov.1)
      rw [hov.2] at this; cases this
   ·rw [if_neg hov, List.mem_flatMap]
    have hov2 : decide (path ≠ []) = true → ovT t v = false := fun h => by
     cases hb : ovT t v with
     | false => rfl
     | true => exact absurd ⟨of_decide_eq_true h, hb⟩ hov
    constructor
    ·rintro ⟨a, ha, h⟩
     rw [outT_mem hv] at ha
     have hh := headT_valid' hv ha.1.1 ha.1.2
     have hr := head_rg hv ha.1.1 ha.1.2
     rw [hh] at h
     split at h
     ·cases h
     ·rename_i hn
      rw [not_or] at hn
      have hsn : sn[(headG t a).toNat]? = some false := by
       rw [List.getElem?_eq_getElem (by omega)]
       have := Bool.eq_false_iff.2 hn.2
       rw [List.getD_eq_getElem?_getD, List.getElem?_eq_getElem (by omega)] at this
       exact congrArg some this
      have h3 := freeB_set hsn
      rw [extS_mem hv m _ _ _ (by omega) (by rw [List.length_set]; exact hl)] at h
      obtain ⟨q, hq1, hq2⟩ := h
      refine ⟨a :: q, by rw [hq1]; simp, hvd, hov2, ha, Bool.eq_false_iff.2 hn.1, Bool.eq_false_iff.2 hn.2, ?_⟩
      rw [decide_eq_true (by simp)] at hq2
      exact hq2
    ·rintro ⟨q, h1, h2⟩
     cases q with
     | nil => exact absurd h2 hvd
     | cons a r =>
      obtain ⟨_, _, h3, h4, h5, h6⟩ := h2
      have hh := headT_valid' hv h3.1.1 h3.1.2
      have hr := head_rg hv h3.1.1 h3.1.2
      refine ⟨a, (outT_mem hv).2 h3, ?_⟩
      rw [hh, if_neg (by rw [h4, h5]; simp)]
      have hsn : sn[(headG t a).toNat]? = some false := by
       rw [List.getElem?_eq_getElem (by omega)]
       rw [List.getD_eq_getElem?_getD, List.getElem?_eq_getElem (by omega)] at h5
       exact congrArg some h5
      have h7 := freeB_set hsn
      rw [extS_mem hv m _ _ _ (by omega) (by rw [List.length_set]; exact hl)]
      exact ⟨r, by rw [h1]; simp, by rw [decide_eq_true (by simp)]; exact h6⟩
theorem extS_pre {t : Top} {down : List Bool} {d : Int} : ∀ (m : Nat) (path : List Int) (v : Int) (sn : List Bool) (p : List Int), p ∈ extS t down d m path v sn → ∃ q, p = path ++ q
 | 0, _, _, _, _, h => by cases h
 |m + 1, path, v, sn, p, h => by
  rw [extS] at h
  split at h
  ·rw [List.mem_singleton] at h; exact ⟨[], by rw [h, List.append_nil]⟩
  ·split at h
   ·cases h
   ·rw [List.mem_flatMap] at h
    obtain ⟨a, _, h⟩ := h
    split at h
    ·cases h
    ·obtain ⟨q, rfl⟩ := extS_pre m _ _ _ p h
     exact ⟨a :: q, by simp⟩
theorem extS_nodup {t : Top} {down : List Bool} {d : Int} : ∀ (m : Nat) (path : List Int) (v : Int) (sn : List Bool), (extS t down d m path v sn).Nodup
 | 0, _, _, _ => List.nodup_nil
 |m + 1, path, v, sn => by
  rw [extS]
  split
  ·simp
  ·split
   ·simp
   ·have key : ∀ l : List Int, l.Nodup → (l.flatMap fun a => if dnB down a = true ∨ sn.getD (headT t a).toNat false = true then [] else extS t down d m (path ++ [a]) (headT t a) (sn.set (headT t a).toNat true)).Nodup := by
     intro l
     induction l with
     | nil => intro _; simp
     | cons a r ih =>
      intro hn
      obtain ⟨h1, h2⟩ := List.nodup_cons.1 hn
      rw [List.flatMap_cons, List.nodup_append]
      refine ⟨?_, ih h2, fun x hx y hy e => ?_⟩
      ·split
       ·simp
       ·exact extS_nodup m _ _ _
      ·subst e
       rw [List.mem_flatMap] at hy
       obtain ⟨b, hb, hy⟩ := hy
       split at hx
       ·cases hx
       ·split at hy
        ·cases hy
        ·obtain ⟨q1, e1⟩ := extS_pre m _ _ _ x hx
         obtain ⟨q2, e2⟩ := extS_pre m _ _ _ x hy
         rw [e1, List.append_assoc, List.append_assoc] at e2
         have e3 := List.append_cancel_left e2
         have e4 : a = b := by simpa using (List.cons.inj e3).1
         exact h1 (e4 ▸ hb)
    exact key _ (outT_nodup t v)
theorem getD_set {sn : List Bool} {i j : Nat} (hj : j < sn.length) : (sn.set j true).getD i false = if i = j then true else sn.getD i false := by
 rw [List.getD_eq_getElem?_getD, List.getElem?_set]
 by_cases h : j = i
 ·rw [if_pos h, if_pos hj, if_pos h.symm]; rfl
 ·rw [if_neg h, if_neg (fun e => h e.symm), List.getD_eq_getElem?_getD]
theorem ExtP_flat {t : Top} {down : List Bool} {d : Int} (hv : validT t = true) : ∀ (q : List Int) (b : Bool) (v : Int) (sn : List Bool), (sn.length : Int) = t.nodes → (ExtP t down d b v sn q ↔
  (∀ (p1 : List Int) (a : Int) (p2 : List Int), q = p1 ++ a :: p2 → ((0 ≤ a ∧ a < 2 * t.links.length) ∧ tailG t a = endN (headG t) v p1) ∧ dnB down a = false ∧ ((b = true ∨ p1 ≠ []) → ovT t (endN (headG t) v p1) = false) ∧ endN (headG t) v p1 ≠ d) ∧
   endN (headG t) v q = d ∧ (q.map (headG t)).Nodup ∧ ∀ x ∈ q.map (headG t), sn.getD x.toNat false = false)
 |[], b, v, sn, _ => by
  simp only [ExtP, endN]
  refine ⟨fun h => ⟨fun p1 a p2 e => by simp at e, h, by simp, by simp⟩, fun h => h.2.1⟩
 |a :: r, b, v, sn, hl => by
  simp only [ExtP]
  constructor
  ·rintro ⟨h1, h2, h3, h4, h5, h6⟩
   have hr := head_rg hv h3.1.1 h3.1.2
   have hj : (headG t a).toNat < sn.length := by omega
   obtain ⟨g1, g2, g3, g4⟩ := (ExtP_flat hv r true (headG t a) _ (by rw [List.length_set]; exact hl)).1 h6
   have g5 : ∀ x ∈ r.map (headG t), x ≠ headG t a ∧ sn.getD x.toNat false = false := fun x hx => by
    have := g4 x hx
    rw [getD_set hj] at this
    split at this
    ·cases this
    ·rename_i hne
     exact ⟨fun e => hne (by rw [e]), this⟩
   refine ⟨fun p1 c p2 e => ?_, g2, ?_, fun x hx => ?_⟩
   ·cases p1 with
    | nil =>
     obtain ⟨rfl, rfl⟩ := List.cons.inj e
     exact ⟨h3, h4, fun h => h2 (h.resolve_right (by simp)), h1⟩
    | cons c2 p1 =>
     rw [List.cons_append] at e
     obtain ⟨e7, e8⟩ := List.cons.inj e
     subst e7
     obtain ⟨k1, k2, k3, k4⟩ := g1 p1 c p2 e8
     exact ⟨k1, k2, fun _ => k3 (.inl rfl), k4⟩
   ·rw [List.map_cons, List.nodup_cons]
    exact ⟨fun hm => (g5 _ hm).1 rfl, g3⟩
   ·rw [List.map_cons] at hx
    rcases List.mem_cons.1 hx with rfl | hx
    ·exact h5
    ·exact (g5 x hx).2
  ·rintro ⟨h1, h2, h3, h4⟩
   obtain ⟨k1, k2, k3, k4⟩ := h1 [] a r rfl
   have hr := head_rg hv k1.1.1 k1.1.2
   have hj : (headG t a).toNat < sn.length := by omega
   rw [List.map_cons, List.nodup_cons] at h3
   refine ⟨k4, fun h => k3 (.inl h), k1, k2, h4 _ (by simp), ?_⟩
   rw [ExtP_flat hv r true (headG t a) _ (by rw [List.length_set]; exact hl)]
   refine ⟨fun p1 c p2 e => ?_, h2, h3.2, fun x hx => ?_⟩
   ·obtain ⟨m1, m2, m3, m4⟩ := h1 (a :: p1) c p2 (by rw [e]; rfl)
    exact ⟨m1, m2, fun _ => m3 (.inr (by simp)), m4⟩
   ·have hxr : 0 ≤ x := by
     obtain ⟨c, hc, rfl⟩ := List.mem_map.1 hx
     obtain ⟨p1, p2, e⟩ := List.append_of_mem hc
     obtain ⟨m1, _⟩ := h1 (a :: p1) c p2 (by rw [e]; rfl)
     exact (head_rg hv m1.1.1 m1.1.2).1
    rw [getD_set hj, if_neg (fun e => h3.1 (by
     have : x = headG t a := by omega
     rw [← this]; exact hx))]
    exact h4 x (by simp only [List.map_cons, List.mem_cons]; exact .inr hx)
theorem simpS_mem {t : Top} {down : List Bool} {s d : Int} (hv : validT t = true) (hdn : down.length = 0 ∨ down.length = 2 * t.links.length) (hN8 : t.nodes ≤ 8) (hs : 0 ≤ s ∧ s < t.nodes) (p : List Int) : p ∈ simpS t down s d ↔ GoodP t down s d 0 p := by
 have hsl : ((seen0 t s).length : Int) = t.nodes := by simp [seen0]; omega
 have hfree : freeB (seen0 t s) < 8 := by
  have h1 := freeB_set (sn := List.replicate t.nodes.toNat false) (j := s.toNat) (by rw [List.getElem?_replicate, if_pos (by omega)])
  have h2 : freeB (List.replicate t.nodes.toNat false) ≤ (List.replicate t.nodes.toNat false).length := List.countP_le_length
  rw [List.length_replicate] at h2
  unfold seen0
  omega
 have hse : ∀ x : Int, 0 ≤ x → x < t.nodes → ((seen0 t s).getD x.toNat false = false ↔ x ≠ s) := fun x h0 h1 => by
  rw [seen0, getD_set (by simp; omega)]
  have e : (List.replicate t.nodes.toNat false).getD x.toNat false = false := by
   rw [List.getD_eq_getElem?_getD, List.getElem?_replicate]; split <;> rfl
  rw [e]
  by_cases h : x.toNat = s.toNat
  ·rw [if_pos h]
   have h3 : x = s := by omega
   simp [h3]
  ·rw [if_neg h]; exact ⟨fun _ e => h (by rw [e]), fun _ => rfl⟩
 rw [simpS, extS_mem hv 8 [] s _ hfree hsl]
 have e1 : (∃ q, p = [] ++ q ∧ ExtP t down d (decide (([] : List Int) ≠ [])) s (seen0 t s) q) ↔ ExtP t down d false s (seen0 t s) p := by
  constructor
  ·rintro ⟨q, h1, h2⟩
   rw [List.nil_append] at h1
   rw [h1]; simpa using h2
  ·intro h
   exact ⟨p, rfl, by simpa using h⟩
 rw [e1, ExtP_flat hv p false s _ hsl]
 constructor
 ·rintro ⟨h1, h2, h3, h4⟩
  refine ⟨fun p1 a p2 e => ?_, h2, ?_, fun h => by omega⟩
  ·obtain ⟨k1, k2, k3, _⟩ := h1 p1 a p2 e
   refine ⟨k1.1, k1.2, ?_, fun h => k3 (.inr h)⟩
   rw [dnB_up k1.1.1 (by omega)] at k2
   simpa using k2
  ·rw [List.nodup_cons]
   refine ⟨fun hm => ?_, h3⟩
   exact (hse s hs.1 hs.2).1 (h4 s hm) rfl
 ·intro h
  have hnd := List.nodup_cons.1 h.nd
  refine ⟨fun p1 a p2 e => ?_, h.en, hnd.2, fun x hx => ?_⟩
  ·obtain ⟨k1, k2, k3, k4⟩ := h.st p1 a p2 e
   refine ⟨⟨k1, k2⟩, by rw [dnB_up k1.1 (by omega), k3]; rfl, fun h2 => k4 (h2.resolve_left (by simp)), ?_⟩
   have hi : p1.length < p.length := by rw [e]; simp
   have := (h.root hi).2
   rw [e, List.take_left] at this
   exact this
  ·obtain ⟨a, ha, rfl⟩ := List.mem_map.1 hx
   obtain ⟨p1, p2, e⟩ := List.append_of_mem ha
   have k1 := (h.st p1 a p2 e).1
   have hr := head_rg hv k1.1 k1.2
   rw [hse _ hr.1 hr.2]
   exact fun e2 => hnd.1 (e2 ▸ hx)
theorem insP_srt {t : Top} {x : List Int} : ∀ {E : List (List Int)}, E.Pairwise (fun a b => ordS (cst t a) (cst t b) a b < 0) → x ∉ E → (insP t x E).Pairwise (fun a b => ordS (cst t a) (cst t b) a b < 0)
 | [], _, _ => List.pairwise_singleton _ _
 |y :: r, h, hn => by
  obtain ⟨h1, h2⟩ := List.pairwise_cons.1 h
  rw [insP]
  split
  ·rename_i hx
   refine List.pairwise_cons.2 ⟨fun z hz => ?_, insP_srt h2 fun hm => hn (List.mem_cons_of_mem _ hm)⟩
   rcases List.mem_cons.1 ((insP_perm t x r).mem_iff.1 hz) with rfl | hz
   ·exact hx
   ·exact h1 z hz
  ·rename_i hx
   have hxy : ordS (cst t x) (cst t y) x y < 0 := by
    rw [ordS_neg] at hx
    by_cases e : ordS (cst t x) (cst t y) x y = 0
    ·exact absurd (List.mem_cons_self) ((ordS_z e).2 ▸ hn)
    ·omega
   refine List.pairwise_cons.2 ⟨fun z hz => ?_, h⟩
   rcases List.mem_cons.1 hz with rfl | hz
   ·exact hxy
   ·have h3 := h1 z hz
    have h4 := ordS_trans (ca := cst t x) (cb := cst t y) (cc := cst t z) (a := x) (b := y) (c := z) (by omega) (by omega)
    by_cases e : ordS (cst t x) (cst t z) x z = 0
    ·obtain ⟨e1, rfl⟩ := ordS_z e
     rw [ordS_neg] at h3
     omega
    ·omega
theorem foldP_srt {t : Top} : ∀ (l E : List (List Int)), E.Pairwise (fun a b => ordS (cst t a) (cst t b) a b < 0) → (l ++ E).Nodup → (l.foldl (fun E x => insP t x E) E).Pairwise (fun a b => ordS (cst t a) (cst t b) a b < 0)
 | [], _, h, _ => h
 |x :: l, E, h, hn => by
  rw [List.cons_append, List.nodup_cons] at hn
  rw [List.foldl_cons]
  refine foldP_srt l _ (insP_srt h fun hm => hn.1 (List.mem_append_right _ hm)) ?_
  have h1 : (l ++ insP t x E).Perm (x :: (l ++ E)) := ((insP_perm t x E).append_left l).trans List.perm_middle
  rw [h1.nodup_iff, List.nodup_cons]
  exact hn
theorem cstP {t : Top} {down : List Bool} {s d most : Int} {p : List Int} (hv : validT t = true) (h : GoodP t down s d most p) : cst t p = costP t p := by
 unfold cst costP
 congr 1
 apply List.map_congr_left
 intro a ha
 obtain ⟨p1, p2, e⟩ := List.append_of_mem ha
 have := (h.st p1 a p2 e).1
 have := cost_rg hv this.1 this.2
 omega
def allS (t : Top) (down : List Bool) (s d : Int) : List (List Int) := sortP t (simpS t down s d)
theorem allS_srt {t : Top} {down : List Bool} {s d : Int} (hv : validT t = true) (hdn : down.length = 0 ∨ down.length = 2 * t.links.length) (hN8 : t.nodes ≤ 8) (hs : 0 ≤ s ∧ s < t.nodes) : IsSrt t (GoodP t down s d 0) (allS t down s d) := by
 have hm : ∀ p, p ∈ allS t down s d ↔ GoodP t down s d 0 p := fun p => by rw [allS, (sortP_perm t _).mem_iff, simpS_mem hv hdn hN8 hs]
 refine ⟨?_, hm⟩
 have h1 := foldP_srt (t := t) (simpS t down s d) [] List.Pairwise.nil (by rw [List.append_nil]; exact extS_nodup _ _ _ _)
 refine List.Pairwise.imp_of_mem ?_ h1
 intro a b ha hb h
 have ga := (hm a).1 ha
 have gb := (hm b).1 hb
 unfold ltP
 rw [← cstP hv ga, ← cstP hv gb]
 exact h
end Go.Ab

/-
  The reference's shortest paths.
-/
namespace Go.Ab
open Go.Proofs
def quickB (t : Top) (most : Int) (p : List Int) : Bool := decide (most = 0 ∨ (p.map fun a => (lkAt t a).dl).sum ≤ most)
def quickS (t : Top) (down : List Bool) (s d most : Int) : List (List Int) := (allS t down s d).filter (quickB t most)
theorem GoodP_most {t : Top} {down : List Bool} {s d most : Int} (hm : 0 ≤ most) {p : List Int} : GoodP t down s d most p ↔ GoodP t down s d 0 p ∧ quickB t most p = true := by
 unfold quickB
 rw [decide_eq_true_eq]
 constructor
 ·intro h
  exact ⟨⟨h.st, h.en, h.nd, fun h => by omega⟩, by have := h.de; omega⟩
 ·rintro ⟨h, h2⟩
  exact ⟨h.st, h.en, h.nd, fun h3 => by omega⟩
theorem quickS_srt {t : Top} {down : List Bool} {s d most : Int} (hv : validT t = true) (hdn : down.length = 0 ∨ down.length = 2 * t.links.length) (hN8 : t.nodes ≤ 8) (hs : 0 ≤ s ∧ s < t.nodes) (hm : 0 ≤ most) : IsSrt t (GoodP t down s d most) (quickS t down s d most) := by
 have h := allS_srt (d := d) hv hdn hN8 hs
 refine ⟨h.srt.filter _, fun p => ?_⟩
 rw [quickS, List.mem_filter, h.mem, GoodP_most hm]
end Go.Ab

/-
  Chapter 14, what all laws share: the example, small topologies, the call.
-/
namespace Go.Ab
open Go.Proofs
structure Qk where
 down : List Bool
 (s d k most : Int)
abbrev qkA (q : Qk) : AV := .agg [.d (boolsD q.down), .d (iD q.s), .d (iD q.d), .d (iD q.k), .d (iD q.most)]
def shS (t : Top) (q : Qk) : List (List Int) × Int := shortV t q.down q.s q.d q.k q.most (quickS t q.down q.s q.d q.most)
abbrev rwsA (l : List (List Int)) : AV := .c (.d (.list false 1 (l.map encRow)))
def smallK (t : Top) (q : Qk) : Prop := t.links.length ≤ 11 ∧ t.ov.length ≤ 20 ∧ q.down.length ≤ 40 ∧ (validT t = true → t.nodes ≤ 8)
instance (t : Top) (q : Qk) : Decidable (smallK t q) := by unfold smallK; infer_instance
theorem small_ok (P : Program) (hP : P = Try.prog) (t : Top) (q : Qk) : Ret P n_law14_small [topA t, qkA q] (bA (decide (smallK t q))) := by
 have hv := valid_ok P hP t
 refine ret_start (hP ▸ mixed) (hP ▸ fn_law14_small) (hP ▸ c_law14_small) (Nat.le_of_ble_eq_true rfl) fun Λ Λo K hK => ?_
 clear hP
 have yes := yes_of hK
 have no := no_of hK
 clear hK
 unfold smallK at yes no
 obtain ⟨dn, s, d, k, most⟩ := q
 simp only [topA, qkA, rwsA, intsA, intsD, boolsA, boolsD, linksD] at *
 generalize hol : t.ov.map encB = ovl at *
 generalize hll : t.links.map encLk = lkl at *
 generalize hdl : dn.map encB = dwl at *
 have l1 : Λ ovl = t.ov.length := by rw [Λo, ← hol]; simp
 have l2 : Λ lkl = t.links.length := by rw [Λo, ← hll]; simp
 have l3 : Λ dwl = dn.length := by rw [Λo, ← hdl]; simp
 generalize t.nodes = nodes at *
 cases hvb : validT t
 all_goals
  rw [hvb] at hv
  conv => cbv
  repeat' first | (refine call_r hv rfl rfl ?_; conv => cbv) | exact gu | exact trivial | refine And.intro ?_ ?_ | (intro hc; exact absurd hc (by decide)) | (intro hc; exfalso; omega) | (intro hc; (first | rw [wrap_small (by omega) (by omega)] at hc | rw [nI_eq] at hc | skip); try (conv => cbv))
  all_goals first
   | exact yes ⟨by omega, by omega, by omega, fun h => by rw [hvb] at h; first | (cases h; done) | omega⟩
   |exact no fun h => by
     have h4 := h.2.2.2
     rw [hvb] at h4
     first
      | (have h5 := h4 rfl; omega)
      | omega
theorem shortest_q (P : Program) (hP : P = Try.prog) (t : Top) (q : Qk) (hs : t.links.length ≤ 11) (hn : validT t = true → t.nodes ≤ 8) : Ret P n_kpaths_Shortest [topA t, boolsA q.down, iA q.s, iA q.d, iA q.k, iA q.most] (.tup [rwsA (shS t q).1, iA (shS t q).2]) :=
 shortest_ok P hP t q.down q.s q.d q.k q.most _ hs hn fun hv h1 h2 h3 => quickS_srt hv h1 (hn hv) h3 h2
theorem lshort_ok (P : Program) (hP : P = Try.prog) (t : Top) (q : Qk) (hs : t.links.length ≤ 11) (hn : validT t = true → t.nodes ≤ 8) (hd : q.down.length ≤ 40) : Ret P n_law14_shortest [topA t, qkA q] (.tup [rwsA (shS t q).1, iA (shS t q).2]) := by
 have hsh := shortest_q P hP t q hs hn
 refine ret_start (hP ▸ mixed) (hP ▸ fn_law14_shortest) (hP ▸ c_law14_shortest) (Nat.le_of_ble_eq_true rfl) fun Λ Λo K hK => ?_
 clear hP
 generalize shS t q = r at *
 obtain ⟨l, e⟩ := r
 obtain ⟨dn, s, d, k, most⟩ := q
 simp only [topA, qkA, rwsA, intsA, intsD, boolsA, boolsD, linksD] at *
 generalize l.map encRow = ll at *
 generalize t.ov.map encB = ovl at *
 generalize t.links.map encLk = lkl at *
 obtain ⟨pl, hpth⟩ : ∃ x, x = dn.map encB := ⟨_, rfl⟩
 have hpll : pl.length = dn.length := by rw [hpth]; simp
 have pln : Λ pl = dn.length := by rw [Λo, hpll]
 obtain ⟨np, hnp⟩ : ∃ x, x = dn.length := ⟨_, rfl⟩
 rw [← hpth] at hsh ⊢
 generalize t.nodes = nodes at *
 have hnpl : np = pl.length := by omega
 conv => cbv
 repeat' first | (intro (_ : Unit); show (0 + pl.length) * 1 ≤ _; omega) | (intro (m : Nat) (r : Bool) (y : List (List D)) hm2 hr2 hy2; refine (fun (hz : np = m) (hz2 : pl = y) => ?_) (by rw [hm2]; show np = 0 + pl.length; omega) (by rw [hy2]; try rfl); subst hz hz2; (conv => cbv)) | exact gu | exact trivial | refine And.intro ?_ ?_ | (intro hc; exact absurd hc (by decide)) | (intro hc; exfalso; omega) | (intro hc; (first | rw [wrap_small (by omega) (by omega)] at hc | rw [nI_eq] at hc | skip); try (conv => cbv))
 (refine call_z 2 (1) 1 np rfl hnpl (by simp [okL, okA, okCs, okC, bq_lit]) (by first | (simp [okH, okB, okCs, okC]; done) | simp [okH, okB, okCs, okC, bq_lit]) ?_; simp only [zL, zA, zCs, zC, zH, zB, bq_self, bq_old]; conv => cbv)
 repeat' first | (refine call_r hsh rfl rfl ?_; conv => cbv) | exact gu | exact trivial | refine And.intro ?_ ?_ | (intro hc; exact absurd hc (by decide)) | (intro hc; exfalso; omega) | (intro hc; (first | rw [wrap_small (by omega) (by omega)] at hc | rw [nI_eq] at hc | skip); try (conv => cbv))
 exact hK
def rlinks : List Lk := [⟨0, 1, 1, 1, 0, 1, 0⟩, ⟨1, 2, 1, 1, 0, 2, 0⟩, ⟨2, 3, 1, 1, 0, 3, 0⟩, ⟨3, 0, 1, 1, 0, 4, 0⟩]
def ring14 : Top := ⟨4, [], rlinks⟩
theorem ring_ok (P : Program) (hP : P = Try.prog) : Ret P n_law14_ring [] (topA ring14) := by
 refine ret_start (hP ▸ mixed) (hP ▸ fn_law14_ring) (hP ▸ c_law14_ring) (Nat.le_of_ble_eq_true rfl) fun Λ Λo K hK => ?_
 clear hP
 conv => cbv
 repeat' first | exact gu | exact trivial | refine And.intro ?_ ?_ | (intro hc; exact absurd hc (by decide)) | (intro hc; exfalso; omega) | (intro hc; (first | rw [wrap_small (by omega) (by omega)] at hc | rw [nI_eq] at hc | skip); try (conv => cbv))
 refine loop_up 4 (fun (s : Nat × Int) => [(0, .c (.ptr 0 0 0 0)), (1, .c (.ptr 1 0 0 0)), (2, iA s.2)])
  (fun s => match s.1 with
   | 0 => [.bx [.d (iD 0), .d (.list true 1 []), .d (.list true 7 [])], .bx [.d (iD 4), .d (.list true 1 []), .d (.list true 7 [])]]
   | n + 1 => [.bx [.d (iD 0), .d (.list true 1 []), .d (.list true 7 [])], .bx [.d (iD 4), .d (.list true 1 []), .arr 3 n 0 (n + 1)], .da true 0 7 [encLk ⟨0, 1, 1, 1, 0, 1, 0⟩], .da true n 7 ((rlinks.take (n + 1)).map encLk)])
  (fun k s => s.1 = k ∧ (s = (0, 0) ∨ s = (1, 1) ∨ s = (2, 2) ∨ s = (3, 3) ∨ s = (4, 4))) (0, 0) (Wk.cw) ⟨rfl, .inl rfl⟩ (fun k s h => by obtain ⟨h1, h | h | h | h | h⟩ := h <;> rw [h] at h1 <;> simp only at h1 <;> omega) ?_
 rintro k s Q' ⟨hk, hs⟩ norm ex rt
 rcases hs with rfl | rfl | rfl | rfl | rfl <;> (simp only at hk; subst hk)
 all_goals
  conv => cbv
  repeat' first | (intro (m : Nat) (r : Bool) (y : List (List D)) hm2 hr2 hy2; subst hm2 hr2 hy2; (conv => cbv)) | (intro (x : Int) hx; refine (fun (hz : (0 : Int) = x) => ?_) (by rw [hx]; decide); subst hz; (conv => cbv)) | (intro (x : Int) hx; refine (fun (hz : (1 : Int) = x) => ?_) (by rw [hx]; decide); subst hz; (conv => cbv)) | (intro (x : Int) hx; refine (fun (hz : (2 : Int) = x) => ?_) (by rw [hx]; decide); subst hz; (conv => cbv)) | (intro (x : Int) hx; refine (fun (hz : (3 : Int) = x) => ?_) (by rw [hx]; decide); subst hz; (conv => cbv)) | (intro (x : Int) hx; refine (fun (hz : (4 : Int) = x) => ?_) (by rw [hx]; decide); subst hz; (conv => cbv)) | exact gu | exact trivial | refine And.intro ?_ ?_ | (intro hc; exact absurd hc (by decide)) | (intro hc; exfalso; omega) | (intro hc; (first | rw [wrap_small (by omega) (by omega)] at hc | rw [nI_eq] at hc | skip); try (conv => cbv))
 ·exact norm _ _ (1, 1) ⟨rfl, .inr (.inl rfl)⟩ (Wk.cw)
 ·exact norm _ _ (2, 2) ⟨rfl, .inr (.inr (.inl rfl))⟩ (Wk.cw)
 ·exact norm _ _ (3, 3) ⟨rfl, .inr (.inr (.inr (.inl rfl)))⟩ (Wk.cw)
 ·exact norm _ _ (4, 4) ⟨rfl, .inr (.inr (.inr (.inr rfl)))⟩ (Wk.cw)
 ·refine ex _ _ _ ?_
  conv => cbv
  repeat' first | (intro (x : List (List D)) hx; subst hx; (conv => cbv)) | exact gu | exact trivial | refine And.intro ?_ ?_ | (intro hc; exact absurd hc (by decide)) | (intro hc; exfalso; omega) | (intro hc; (first | rw [wrap_small (by omega) (by omega)] at hc | rw [nI_eq] at hc | skip); try (conv => cbv))
  exact hK
theorem quick_r0 : quickS ring14 [] 0 2 0 = [[0, 2], [7, 5]] := by decide +kernel
theorem quick_r4 : quickS ring14 [] 0 2 4 = [[0, 2]] := by decide +kernel
theorem awake_ok (P : Program) (hP : P = Try.prog) : Ret P n_law14_awake [] (bA true) := by
 have hr := ring_ok P hP
 have h1 := shortest_q P hP ring14 ⟨[], 0, 2, 5, 0⟩ (by decide) (by decide)
 have h2 := shortest_q P hP ring14 ⟨[], 0, 2, 5, 4⟩ (by decide) (by decide)
 have h3 := delay_ok P hP ring14 [7, 5] (by decide) (by decide)
 obtain ⟨l0, hl0⟩ : ∃ x : List (List Int), x = [[0, 2], [7, 5]] := ⟨_, rfl⟩
 have h4 := rsame_ok P hP l0 [[0, 2], [7, 5]] (by rw [hl0]; decide) (by decide)
 have h5 := compare_ok P hP ring14 [0, 2] [7, 5] (by decide) (by decide) (by decide)
 have e1 : shS ring14 ⟨[], 0, 2, 5, 0⟩ = ([[0, 2], [7, 5]], 0) := by
  rw [shS, shortV, if_neg (by decide), if_neg (by decide), quick_r0]; rfl
 have e2 : shS ring14 ⟨[], 0, 2, 5, 4⟩ = ([[0, 2]], 0) := by
  rw [shS, shortV, if_neg (by decide), if_neg (by decide), quick_r4]; rfl
 have e3 : delS ring14 [7, 5] = (7, 0) := by decide
 have e5 : ordS (cst ring14 [0, 2]) (cst ring14 [7, 5]) [0, 2] [7, 5] = -1 := by decide
 rw [e1] at h1
 rw [e2] at h2
 rw [e3] at h3
 rw [e5] at h5
 rw [decide_eq_true hl0] at h4
 rw [← hl0] at h1
 obtain ⟨l4, hl4⟩ : ∃ x : List (List Int), x = [[0, 2]] := ⟨_, rfl⟩
 rw [← hl4] at h2
 have hx4 : (l4.map encRow).length = 1 := by rw [hl4]; rfl
 have hx0 : (l0.map encRow)[0]? = some [.list false 1 [[iD 0], [iD 2]]] := by rw [hl0]; rfl
 have hx1 : (l0.map encRow)[1]? = some [.list false 1 [[iD 7], [iD 5]]] := by rw [hl0]; rfl
 have hxl : (l0.map encRow).length = 2 := by rw [hl0]; rfl
 clear e1 e2 e3 e5
 refine ret_start (hP ▸ mixed) (hP ▸ fn_law14_awake) (hP ▸ c_law14_awake) (Nat.le_of_ble_eq_true rfl) fun Λ Λo K hK => ?_
 clear hP
 have hro : topA ring14 = .agg [.d (iD 4), .d (.list false 1 []), .d (.list false 7 [[iD 0, iD 1, iD 1, iD 1, iD 0, iD 1, iD 0], [iD 1, iD 2, iD 1, iD 1, iD 0, iD 2, iD 0], [iD 2, iD 3, iD 1, iD 1, iD 0, iD 3, iD 0], [iD 3, iD 0, iD 1, iD 1, iD 0, iD 4, iD 0]])] := rfl
 rw [hro] at hr h1 h2 h3 h5
 clear hro
 simp only [rwsA] at *
 generalize l0.map encRow = ll at *
 generalize l4.map encRow = ll4 at *
 have hxn4 : Λ ll4 = 1 := by rw [Λo, hx4]; rfl
 have hxn : Λ ll = 2 := by rw [Λo, hxl]; rfl
 simp only [encRow, intsA, intsD, boolsA, boolsD, encI, List.map_cons, List.map_nil] at *
 conv => cbv
 repeat' first | (refine call_r hr rfl rfl ?_; conv => cbv) | (refine call_r h1 rfl rfl ?_; conv => cbv) | (refine call_r h2 rfl rfl ?_; conv => cbv) | (refine call_r h3 rfl rfl ?_; conv => cbv) | exact gu | exact trivial | refine And.intro ?_ ?_ | (intro hc; exact absurd hc (by decide)) | (intro hc; exfalso; omega) | (intro hc; (first | rw [wrap_small (by omega) (by omega)] at hc | rw [nI_eq] at hc | skip); try (conv => cbv))
 (refine call_z 0 (0) 1 2 rfl rfl (by simp [okL, okA, okCs, okC, bq_lit]) (by first | (simp [okH, okB, okCs, okC]; done) | simp [okH, okB, okCs, okC, bq_lit]) ?_; simp only [zL, zA, zCs, zC, zH, zB, bq_self, bq_old]; conv => cbv)
 repeat' first | (intro (e : List D) he; cases Option.some.inj (he.symm.trans hx0); (conv => cbv)) | (intro (e : List D) he; cases Option.some.inj (he.symm.trans hx1); (conv => cbv)) | (refine call_r hr rfl rfl ?_; conv => cbv) | (refine call_r h4 rfl rfl ?_; conv => cbv) | (refine call_r h5 rfl rfl ?_; conv => cbv) | exact gu | exact trivial | refine And.intro ?_ ?_ | (intro hc; exact absurd hc (by decide)) | (intro hc; exfalso; omega) | (intro hc; (first | rw [wrap_small (by omega) (by omega)] at hc | rw [nI_eq] at hc | skip); try (conv => cbv))
 exact hK
end Go.Ab

/-
  Chapter 14: laws Shortest, Prefix and Compare.
-/
namespace Go.Ab
open Go.Proofs
theorem shS_len (t : Top) (q : Qk) : (shS t q).1.length ≤ 16 := by
 unfold shS shortV
 split
 ·simp
 ·rename_i h
  have h := Classical.not_not.1 h
  split
  ·simp
  ·split
   ·simp
   ·simp only [List.length_take]; omega
theorem take_pre {α : Type} {Q : List α} {k : Nat} (hk : k ≤ 16) : (Q.take 16).take (Q.take k).length = Q.take k := by
 rw [List.take_take, List.length_take, show min (min k Q.length) 16 = min k Q.length by omega]
 rcases Nat.le_total k Q.length with h | h
 ·rw [Nat.min_eq_left h]
 ·rw [Nat.min_eq_right h, List.take_of_length_le (Nat.le_refl _), List.take_of_length_le h]
theorem shS_pre (t : Top) (q : Qk) (hk : 1 ≤ q.k ∧ q.k ≤ 16) : (shS t q).2 = (shS t { q with k := 16 }).2 ∧ (shS t q).1.length ≤ (shS t { q with k := 16 }).1.length ∧ (shS t { q with k := 16 }).1.take (shS t q).1.length = (shS t q).1 := by
 unfold shS shortV
 simp only
 by_cases h1 : validT t = true ∧ (q.down.length = 0 ∨ q.down.length = 2 * t.links.length) ∧ 0 ≤ q.most
 ·have c1 : validT t = true ∧ (q.down.length = 0 ∨ q.down.length = 2 * t.links.length) ∧ 1 ≤ q.k ∧ q.k ≤ 16 ∧ 0 ≤ q.most := ⟨h1.1, h1.2.1, hk.1, hk.2, h1.2.2⟩
  have c2 : validT t = true ∧ (q.down.length = 0 ∨ q.down.length = 2 * t.links.length) ∧ (1 : Int) ≤ 16 ∧ (16 : Int) ≤ 16 ∧ 0 ≤ q.most := ⟨h1.1, h1.2.1, by decide, by decide, h1.2.2⟩
  rw [if_neg (not_not_intro c1), if_neg (not_not_intro c2)]
  by_cases h2 : (0 ≤ q.s ∧ q.s < t.nodes) ∧ 0 ≤ q.d ∧ q.d < t.nodes
  ·rw [if_neg (not_not_intro h2), if_neg (not_not_intro h2)]
   by_cases h3 : quickS t q.down q.s q.d q.most = []
   ·rw [if_pos h3, if_pos h3]; simp
   ·rw [if_neg h3, if_neg h3]
    have h4 : q.k.toNat ≤ 16 := by omega
    refine ⟨rfl, ?_, ?_⟩
    ·simp only [List.length_take, show (16 : Int).toNat = 16 by decide]; omega
    ·simp only [show (16 : Int).toNat = 16 by decide]
     exact take_pre h4
  ·rw [if_pos h2, if_pos h2]; simp
 ·rw [if_pos (fun h => h1 ⟨h.1, h.2.1, h.2.2.2.2⟩), if_pos (fun h => h1 ⟨h.1, h.2.1, h.2.2.2.2⟩)]; simp
set_option maxRecDepth 20000 in
set_option maxHeartbeats 4000000 in
theorem prefix_law (P : Program) (hP : P = Try.prog) (t : Top) (q : Qk) : Ret P n_law14_KpathsPrefix [topA t, qkA q] (bA true) := by
 have haw := awake_ok P hP
 have hsm := small_ok P hP t q
 by_cases hs : smallK t q ∧ 1 ≤ q.k ∧ q.k ≤ 16
 ·obtain ⟨hs, hk⟩ := hs
  rw [decide_eq_true hs] at hsm
  have h1 := lshort_ok P hP t q hs.1 hs.2.2.2 hs.2.2.1
  have h2 := lshort_ok P hP t { q with k := 16 } hs.1 hs.2.2.2 hs.2.2.1
  obtain ⟨e1, e2, e3⟩ := shS_pre t q hk
  have m1 := shS_len t q
  have m2 := shS_len t { q with k := 16 }
  have h3 := rsame_ok P hP (shS t q).1 ((shS t { q with k := 16 }).1.take (shS t q).1.length) (by omega) (by rw [List.length_take]; omega)
  rw [e3, decide_eq_true rfl] at h3
  refine ret_start (hP ▸ mixed) (hP ▸ fn_law14_KpathsPrefix) (hP ▸ c_law14_KpathsPrefix) (Nat.le_of_ble_eq_true rfl) fun Λ Λo K hK => ?_
  clear hP hs
  generalize shS t { q with k := 16 } = r2 at *
  generalize shS t q = r at *
  obtain ⟨l, e⟩ := r
  obtain ⟨l2, e2'⟩ := r2
  obtain ⟨dn, s, d, k, most⟩ := q
  simp only at e1 e2 e3 m1 m2 h1 h2 h3 hk
  subst e1
  obtain ⟨ll, hll⟩ : ∃ x, x = l.map encRow := ⟨_, rfl⟩
  obtain ⟨ll2, hll2⟩ : ∃ x, x = l2.map encRow := ⟨_, rfl⟩
  have n1 : Λ ll = l.length := by rw [Λo, hll]; simp
  have n2 : Λ ll2 = l2.length := by rw [Λo, hll2]; simp
  have htk : ll = ll2.take l.length := by rw [hll, hll2, ← List.map_take, e3]
  simp only [topA, qkA, rwsA, intsA, intsD, boolsA, boolsD, linksD] at *
  rw [← hll] at h1 h3
  rw [← hll2] at h2
  generalize t.ov.map encB = ovl at *
  generalize t.links.map encLk = lkl at *
  generalize dn.map encB = dwl at *
  generalize t.nodes = nodes at *
  conv => cbv
  repeat' first | (refine call_r haw rfl rfl ?_; conv => cbv) | (refine call_r hsm rfl rfl ?_; conv => cbv) | (refine call_r h1 rfl rfl ?_; conv => cbv) | (refine call_r h2 rfl rfl ?_; conv => cbv) | (intro (l' : List (List D)) hl'; refine (fun (hz : ll = l') => ?_) (by rw [hl', show (Λ ll).toNat = l.length by omega]; exact htk); subst hz; (conv => cbv)) | (refine call_r h3 rfl rfl ?_; conv => cbv) | exact gu | exact trivial | refine And.intro ?_ ?_ | (intro hc; exact absurd hc (by decide)) | (intro hc; exfalso; omega) | (intro hc; (first | rw [wrap_small (by omega) (by omega)] at hc | rw [nI_eq] at hc | skip); try (conv => cbv))
  all_goals exact hK
 ·by_cases hs2 : smallK t q
  ·rw [decide_eq_true hs2] at hsm
   have hk : ¬ (1 ≤ q.k ∧ q.k ≤ 16) := fun h => hs ⟨hs2, h⟩
   clear hs hs2
   refine ret_start (hP ▸ mixed) (hP ▸ fn_law14_KpathsPrefix) (hP ▸ c_law14_KpathsPrefix) (Nat.le_of_ble_eq_true rfl) fun Λ Λo K hK => ?_
   clear hP
   obtain ⟨dn, s, d, k, most⟩ := q
   simp only [topA, qkA, rwsA, intsA, intsD, boolsA, boolsD, linksD] at *
   generalize t.ov.map encB = ovl at *
   generalize t.links.map encLk = lkl at *
   generalize dn.map encB = dwl at *
   generalize t.nodes = nodes at *
   conv => cbv
   repeat' first | (refine call_r haw rfl rfl ?_; conv => cbv) | (refine call_r hsm rfl rfl ?_; conv => cbv) | exact gu | exact trivial | refine And.intro ?_ ?_ | (intro hc; exact absurd hc (by decide)) | (intro hc; exfalso; omega) | (intro hc; (first | rw [wrap_small (by omega) (by omega)] at hc | rw [nI_eq] at hc | skip); try (conv => cbv))
   all_goals exact hK
  ·rw [decide_eq_false hs2] at hsm
   refine ret_start (hP ▸ mixed) (hP ▸ fn_law14_KpathsPrefix) (hP ▸ c_law14_KpathsPrefix) (Nat.le_of_ble_eq_true rfl) fun Λ Λo K hK => ?_
   clear hP
   obtain ⟨dn, s, d, k, most⟩ := q
   simp only [topA, qkA, rwsA, intsA, intsD, boolsA, boolsD, linksD] at *
   generalize t.ov.map encB = ovl at *
   generalize t.links.map encLk = lkl at *
   generalize dn.map encB = dwl at *
   generalize t.nodes = nodes at *
   conv => cbv
   repeat' first | (refine call_r haw rfl rfl ?_; conv => cbv) | (refine call_r hsm rfl rfl ?_; conv => cbv) | exact gu | exact trivial | refine And.intro ?_ ?_ | (intro hc; exact absurd hc (by decide)) | (intro hc; exfalso; omega) | (intro hc; (first | rw [wrap_small (by omega) (by omega)] at hc | rw [nI_eq] at hc | skip); try (conv => cbv))
   all_goals exact hK
end Go.Ab

/-
  Chapter 14: what a row reads.
-/
namespace Go.Ab
open Go.Proofs Go.Proofs.Ytllgchplnhaplaa Go.ChangeShapes Go.WideShapes Go.ChangeAt Go.RowKit
def shKq : List Sh := [.list 1 [.bool], shI, shI, shI, shI]
def sizeKq (q : Qk) : Nat := q.down.length
theorem dec_kq {ds : List D} {n : Nat} (h : FitL shKq ds n) : ∃ c : Qk, qkA c = .agg (ds.map .d) ∧ sizeKq c ≤ n := by
 obtain ⟨d0, ds0, _, _, rfl, rfl, g0, h_0⟩ := h.un
 obtain ⟨down, rfl, w_down⟩ := g0.lm encB (fun _ => 1) dec_b
 rw [sum_one] at w_down
 obtain ⟨d1, ds1, _, _, rfl, rfl, g1, h_1⟩ := h_0.un
 obtain ⟨s, rfl, w_s⟩ := g1.i
 obtain ⟨d2, ds2, _, _, rfl, rfl, g2, h_2⟩ := h_1.un
 obtain ⟨d, rfl, w_d⟩ := g2.i
 obtain ⟨d3, ds3, _, _, rfl, rfl, g3, h_3⟩ := h_2.un
 obtain ⟨k, rfl, w_k⟩ := g3.i
 obtain ⟨d4, ds4, _, _, rfl, rfl, g4, h_4⟩ := h_3.un
 obtain ⟨most, rfl, w_most⟩ := g4.i
 rw [h_4.end]
 exact ⟨⟨down, s, d, k, most⟩, rfl, by simp only [sizeKq]; omega⟩
def sizeT (t : Top) : Nat := t.ov.length + t.links.length
theorem dec_top {ds : List D} {n : Nat} (h : FitL shTop ds n) : ∃ c : Top, topA c = .agg (ds.map .d) ∧ sizeT c ≤ n := by
 obtain ⟨d0, ds0, _, _, rfl, rfl, g0, h_0⟩ := h.un
 obtain ⟨nodes, rfl, w_nodes⟩ := g0.i
 obtain ⟨d1, ds1, _, _, rfl, rfl, g1, h_1⟩ := h_0.un
 obtain ⟨ov, rfl, w_ov⟩ := g1.lm encB (fun _ => 1) dec_b
 rw [sum_one] at w_ov
 obtain ⟨d2, ds2, _, _, rfl, rfl, g2, h_2⟩ := h_1.un
 obtain ⟨links, rfl, w_links⟩ := g2.lm encLk (fun _ => 1) dec_lk
 rw [sum_one] at w_links
 rw [h_2.end]
 exact ⟨⟨nodes, ov, links⟩, rfl, by simp only [sizeT]; omega⟩
end Go.Ab

