/-
  Merged texts, part s.
-/
import Derived.Test.YtllgchplnhaplaaZr
/-
  The texts of the laws of the seat.
-/
namespace Go.Ab
open Go.Proofs
set_option maxRecDepth 100000
def af_law14_KpathsOrder : AF := (AF.mk 96 [(4, .none)] (.seq (Rg [(AO.mk (.some 2) (.box (.t 0)) .none),(AO.mk (.some 3) (.box (.t 1)) .none),(AO.mk (.some 4) (.mv (Kb .false)) .none)]) (.seq (.seq (Rg [(AO.mk (.some 10) (.call 10 []) .none),(AO.mk (.some 11) (.un .not (.t 10)) .none)]) (.cond (.t 11) (.seq (Rg [(AO.mk (.some 4) (.mv (Kb .false)) .none)]) .ret) .skip)) (.seq (.seq (Rg [(AO.mk (.some 12) (.ld (.t 2) (.some 3)) .none),(AO.mk (.some 13) (.ld (.t 3) (.some 5)) .none),(AO.mk (.some 14) (.call 11 [(.t 12),(.t 13)]) .none),(AO.mk (.some 15) (.un .not (.t 14)) .none)]) (.cond (.t 15) (.seq (Rg [(AO.mk (.some 4) (.mv (Kb .true)) .none)]) .ret) .skip)) (.seq (Rg [(AO.mk (.some 17) (.ld (.t 2) (.some 3)) .none),(AO.mk (.some 18) (.ld (.t 3) (.some 5)) .none),(AO.mk (.some 19) (.call 12 [(.t 17),(.t 18)]) .none),(AO.mk (.some 16) (.mv (.t 19)) .none),(AO.mk (.some 20) (.ext (.t 16) 0) .none),(AO.mk (.some 21) (.ext (.t 16) 1) .none),(AO.mk (.some 5) (.mv (.t 20)) .none),(AO.mk (.some 6) (.mv (.t 21)) .none)]) (.seq (.seq (Rg [(AO.mk (.some 22) (.mv (.t 6)) .none),(AO.mk (.some 23) (.bin .neq (.t 22) (Ki 0)) .none)]) (.cond (.t 23) (.seq (Rg [(AO.mk (.some 24) (.mv (.t 5)) .none),(AO.mk (.some 25) (.len (.t 24)) .none),(AO.mk (.some 26) (.bin .eql (.t 25) (Ki 0)) .none),(AO.mk (.some 4) (.mv (.t 26)) .none)]) .ret) .skip)) (.seq (.seq (Rg [(AO.mk (.some 27) (.mv (.t 5)) .none),(AO.mk (.some 28) (.len (.t 27)) .none),(AO.mk (.some 29) (.bin .eql (.t 28) (Ki 0)) .none),(AO.mk (.some 30) (.mv (.t 29)) .none),(AO.mk (.some 31) (.mv (.t 5)) (.some (30, .false))),(AO.mk (.some 32) (.len (.t 31)) (.some (30, .false))),(AO.mk (.some 33) (.fa (.t 3) 3) (.some (30, .false))),(AO.mk (.some 34) (.ld (.t 33) .none) (.some (30, .false))),(AO.mk (.some 35) (.bin .gtr (.t 32) (.t 34)) (.some (30, .false))),(AO.mk (.some 36) (.pick (.t 30) (Kb .true) (.t 35)) .none)]) (.cond (.t 36) (.seq (Rg [(AO.mk (.some 4) (.mv (Kb .false)) .none)]) .ret) .skip)) (.seq (.seq (Rg [(AO.mk (.some 7) (.mv (Ki 0)) .none)]) (.block 0 (.loop (.seq (.seq (Rg [(AO.mk (.some 37) (.mv (.t 7)) .none),(AO.mk (.some 38) (.mv (.t 5)) .none),(AO.mk (.some 39) (.len (.t 38)) .none),(AO.mk (.some 40) (.bin .lss (.t 37) (.t 39)) .none)]) (.cond (.t 40) .skip (.exit 0))) (.seq (.block 1 (.seq (.seq (.seq (.reg .true [(AO.mk (.some 43) (.ld (.t 2) (.some 3)) .none),(AO.mk (.some 44) (.fa (.t 3) 0) .none),(AO.mk (.some 45) (.ld (.t 44) .none) .none),(AO.mk (.some 46) (.fa (.t 3) 1) .none),(AO.mk (.some 47) (.ld (.t 46) .none) .none),(AO.mk (.some 48) (.fa (.t 3) 2) .none),(AO.mk (.some 49) (.ld (.t 48) .none) .none),(AO.mk (.some 50) (.mv (.t 5)) .none),(AO.mk (.some 51) (.mv (.t 7)) .none),(AO.mk (.some 52) (.ias 1 (.t 50) (.t 51)) .none),(AO.mk (.some 53) (.ld (.t 52) .none) .none)]) (.seq (Rg [(AO.mk (.some 54) (.call 15 [(.t 43),(.t 45),(.t 47),(.t 49),(.t 53)]) .none)]) (.seq (.reg .true [(AO.mk (.some 55) (.un .not (.t 54)) .none),(AO.mk (.some 56) (.mv (.t 55)) .none),(AO.mk (.some 57) (.mv (.t 7)) (.some (56, .false))),(AO.mk (.some 58) (.bin .gtr (.t 57) (Ki 0)) (.some (56, .false))),(AO.mk (.some 59) (.mv (.t 58)) (.some (56, .false))),(AO.mk (.some 60) (.ld (.t 2) (.some 3)) (.some (59, .true))),(AO.mk (.some 61) (.mv (.t 5)) (.some (59, .true))),(AO.mk (.some 62) (.mv (.t 7)) (.some (59, .true))),(AO.mk (.some 63) (.bin .sub (.t 62) (Ki 1)) (.some (59, .true))),(AO.mk (.some 64) (.ias 1 (.t 61) (.t 63)) (.some (59, .true))),(AO.mk (.some 65) (.ld (.t 64) .none) (.some (59, .true))),(AO.mk (.some 66) (.mv (.t 5)) (.some (59, .true))),(AO.mk (.some 67) (.mv (.t 7)) (.some (59, .true))),(AO.mk (.some 68) (.ias 1 (.t 66) (.t 67)) (.some (59, .true))),(AO.mk (.some 69) (.ld (.t 68) .none) (.some (59, .true)))]) (.seq (Rg [(AO.mk (.some 70) (.call 16 [(.t 60),(.t 65),(.t 69)]) (.some (59, .true)))]) (.reg .true [(AO.mk (.some 71) (.bin .neq (.t 70) (Ki (-1))) (.some (59, .true))),(AO.mk (.some 72) (.pick (.t 59) (.t 71) (Kb .false)) (.some (56, .false))),(AO.mk (.some 73) (.pick (.t 56) (Kb .true) (.t 72)) .none)]))))) (.cond (.t 73) (.seq (Rg [(AO.mk (.some 4) (.mv (Kb .false)) .none)]) .ret) .skip)) (.seq (.seq (.reg .true [(AO.mk (.some 75) (.ld (.t 2) (.some 3)) .none),(AO.mk (.some 76) (.mv (.t 5)) .none),(AO.mk (.some 77) (.mv (.t 7)) .none),(AO.mk (.some 78) (.ias 1 (.t 76) (.t 77)) .none),(AO.mk (.some 79) (.ld (.t 78) .none) .none)]) (.seq (Rg [(AO.mk (.some 80) (.call 17 [(.t 75),(.t 79)]) .none)]) (.reg .true [(AO.mk (.some 74) (.mv (.t 80)) .none),(AO.mk (.some 81) (.ext (.t 74) 0) .none),(AO.mk (.some 82) (.ext (.t 74) 1) .none),(AO.mk (.some 8) (.mv (.t 81)) .none),(AO.mk (.some 9) (.mv (.t 82)) .none)]))) (.seq (Rg [(AO.mk (.some 83) (.mv (.t 9)) .none),(AO.mk (.some 84) (.bin .neq (.t 83) (Ki 0)) .none),(AO.mk (.some 85) (.mv (.t 84)) .none),(AO.mk (.some 86) (.fa (.t 3) 4) (.some (85, .false))),(AO.mk (.some 87) (.ld (.t 86) .none) (.some (85, .false))),(AO.mk (.some 88) (.bin .gtr (.t 87) (Ki 0)) (.some (85, .false))),(AO.mk (.some 89) (.mv (.t 88)) (.some (85, .false))),(AO.mk (.some 90) (.mv (.t 8)) (.some (89, .true))),(AO.mk (.some 91) (.fa (.t 3) 4) (.some (89, .true))),(AO.mk (.some 92) (.ld (.t 91) .none) (.some (89, .true))),(AO.mk (.some 93) (.bin .gtr (.t 90) (.t 92)) (.some (89, .true))),(AO.mk (.some 94) (.pick (.t 89) (.t 93) (Kb .false)) (.some (85, .false))),(AO.mk (.some 95) (.pick (.t 85) (Kb .true) (.t 94)) .none)]) (.cond (.t 95) (.seq (Rg [(AO.mk (.some 4) (.mv (Kb .false)) .none)]) .ret) .skip))))) (Rg [(AO.mk (.some 41) (.mv (.t 7)) .none),(AO.mk (.some 42) (.bin .add (.t 41) (Ki 1)) .none),(AO.mk (.some 7) (.mv (.t 42)) .none)])))))) (.seq (Rg [(AO.mk (.some 4) (.mv (Kb .true)) .none)]) .ret)))))))))
abbrev n_law14_KpathsOrder : Nat := 4
theorem fn_law14_KpathsOrder : Try.prog.funcs[n_law14_KpathsOrder]? = some Try.f4 := Try.func4
theorem c_law14_KpathsOrder : compF Try.prog Try.f4 = some af_law14_KpathsOrder := by kernel_rfl
def af_law14_awake : AF := (AF.mk 60 [(0, .none)] (.seq (Rg [(AO.mk (.some 0) (.mv (Kb .false)) .none)]) (.seq (Rg [(AO.mk (.some 8) (.call 30 []) .none),(AO.mk (.some 9) (.call 29 [(.t 8),(.k (.c (.d (.list .true 1 [])))),(Ki 0),(Ki 2),(Ki 5),(Ki 0)]) .none),(AO.mk (.some 7) (.mv (.t 9)) .none),(AO.mk (.some 10) (.ext (.t 7) 0) .none),(AO.mk (.some 11) (.ext (.t 7) 1) .none),(AO.mk (.some 1) (.mv (.t 10)) .none),(AO.mk (.some 2) (.mv (.t 11)) .none)]) (.seq (Rg [(AO.mk (.some 13) (.call 30 []) .none),(AO.mk (.some 14) (.call 29 [(.t 13),(.k (.c (.d (.list .true 1 [])))),(Ki 0),(Ki 2),(Ki 5),(Ki 4)]) .none),(AO.mk (.some 12) (.mv (.t 14)) .none),(AO.mk (.some 15) (.ext (.t 12) 0) .none),(AO.mk (.some 16) (.ext (.t 12) 1) .none),(AO.mk (.some 3) (.mv (.t 15)) .none),(AO.mk (.some 4) (.mv (.t 16)) .none)]) (.seq (Rg [(AO.mk (.some 18) (.call 30 []) .none),(AO.mk (.some 19) (.mo (.lit (.list .false 1 [[(.int .i64 7)], [(.int .i64 5)]])) []) .none),(AO.mk (.some 20) (.call 17 [(.t 18),(.t 19)]) .none),(AO.mk (.some 17) (.mv (.t 20)) .none),(AO.mk (.some 21) (.ext (.t 17) 0) .none),(AO.mk (.some 22) (.ext (.t 17) 1) .none),(AO.mk (.some 5) (.mv (.t 21)) .none),(AO.mk (.some 6) (.mv (.t 22)) .none)]) (.seq (.seq (.reg .true [(AO.mk (.some 23) (.mv (.t 2)) .none),(AO.mk (.some 24) (.bin .eql (.t 23) (Ki 0)) .none),(AO.mk (.some 25) (.mv (.t 24)) .none),(AO.mk (.some 26) (.mv (.t 1)) (.some (25, .true))),(AO.mk (.some 27) (.mo (.lit (.list .false 1 [[(.int .i64 0)], [(.int .i64 2)]])) []) (.some (25, .true))),(AO.mk (.some 28) (.mo (.lit (.list .false 1 [[(.int .i64 7)], [(.int .i64 5)]])) []) (.some (25, .true))),(AO.mk (.some 29) (.bsl 1 [(.list .true 1 [])] 2 [(0, (.t 27)),(1, (.t 28))]) (.some (25, .true)))]) (.seq (Rg [(AO.mk (.some 30) (.call 14 [(.t 26),(.t 29)]) (.some (25, .true)))]) (.seq (.reg .true [(AO.mk (.some 31) (.pick (.t 25) (.t 30) (Kb .false)) .none),(AO.mk (.some 32) (.mv (.t 31)) .none),(AO.mk (.some 33) (.mv (.t 4)) (.some (32, .true))),(AO.mk (.some 34) (.bin .eql (.t 33) (Ki 0)) (.some (32, .true))),(AO.mk (.some 35) (.pick (.t 32) (.t 34) (Kb .false)) .none),(AO.mk (.some 36) (.mv (.t 35)) .none),(AO.mk (.some 37) (.mv (.t 3)) (.some (36, .true))),(AO.mk (.some 38) (.len (.t 37)) (.some (36, .true))),(AO.mk (.some 39) (.bin .eql (.t 38) (Ki 1)) (.some (36, .true))),(AO.mk (.some 40) (.pick (.t 36) (.t 39) (Kb .false)) .none),(AO.mk (.some 41) (.mv (.t 40)) .none),(AO.mk (.some 42) (.mv (.t 6)) (.some (41, .true))),(AO.mk (.some 43) (.bin .eql (.t 42) (Ki 0)) (.some (41, .true))),(AO.mk (.some 44) (.pick (.t 41) (.t 43) (Kb .false)) .none),(AO.mk (.some 45) (.mv (.t 44)) .none),(AO.mk (.some 46) (.mv (.t 5)) (.some (45, .true))),(AO.mk (.some 47) (.bin .eql (.t 46) (Ki 7)) (.some (45, .true))),(AO.mk (.some 48) (.pick (.t 45) (.t 47) (Kb .false)) .none),(AO.mk (.some 49) (.mv (.t 48)) .none),(AO.mk (.some 50) (.call 30 []) (.some (49, .true))),(AO.mk (.some 51) (.mv (.t 1)) (.some (49, .true))),(AO.mk (.some 52) (.ias 1 (.t 51) (Ki 0)) (.some (49, .true))),(AO.mk (.some 53) (.ld (.t 52) .none) (.some (49, .true))),(AO.mk (.some 54) (.mv (.t 1)) (.some (49, .true))),(AO.mk (.some 55) (.ias 1 (.t 54) (Ki 1)) (.some (49, .true))),(AO.mk (.some 56) (.ld (.t 55) .none) (.some (49, .true)))]) (.seq (Rg [(AO.mk (.some 57) (.call 16 [(.t 50),(.t 53),(.t 56)]) (.some (49, .true)))]) (.reg .true [(AO.mk (.some 58) (.bin .eql (.t 57) (Ki (-1))) (.some (49, .true))),(AO.mk (.some 59) (.pick (.t 49) (.t 58) (Kb .false)) .none),(AO.mk (.some 0) (.mv (.t 59)) .none)]))))) .ret))))))
abbrev n_law14_awake : Nat := 10
theorem fn_law14_awake : Try.prog.funcs[n_law14_awake]? = some Try.f10 := Try.func10
theorem c_law14_awake : compF Try.prog Try.f10 = some af_law14_awake := by kernel_rfl
def af_law14_small : AF := (AF.mk 31 [(4, .none)] (.seq (Rg [(AO.mk (.some 2) (.box (.t 0)) .none),(AO.mk (.some 3) (.box (.t 1)) .none),(AO.mk (.some 4) (.mv (Kb .false)) .none)]) (.seq (Rg [(AO.mk (.some 5) (.fa (.t 2) 2) .none),(AO.mk (.some 6) (.ld (.t 5) .none) .none),(AO.mk (.some 7) (.len (.t 6)) .none),(AO.mk (.some 8) (.bin .leq (.t 7) (Ki 11)) .none),(AO.mk (.some 9) (.mv (.t 8)) .none),(AO.mk (.some 10) (.fa (.t 2) 1) (.some (9, .true))),(AO.mk (.some 11) (.ld (.t 10) .none) (.some (9, .true))),(AO.mk (.some 12) (.len (.t 11)) (.some (9, .true))),(AO.mk (.some 13) (.bin .leq (.t 12) (Ki 20)) (.some (9, .true))),(AO.mk (.some 14) (.pick (.t 9) (.t 13) (Kb .false)) .none),(AO.mk (.some 15) (.mv (.t 14)) .none),(AO.mk (.some 16) (.fa (.t 3) 0) (.some (15, .true))),(AO.mk (.some 17) (.ld (.t 16) .none) (.some (15, .true))),(AO.mk (.some 18) (.len (.t 17)) (.some (15, .true))),(AO.mk (.some 19) (.bin .leq (.t 18) (Ki 40)) (.some (15, .true))),(AO.mk (.some 20) (.pick (.t 15) (.t 19) (Kb .false)) .none),(AO.mk (.some 21) (.mv (.t 20)) .none),(AO.mk (.some 22) (.ld (.t 2) (.some 3)) (.some (21, .true))),(AO.mk (.some 23) (.call 24 [(.t 22)]) (.some (21, .true))),(AO.mk (.some 24) (.un .not (.t 23)) (.some (21, .true))),(AO.mk (.some 25) (.mv (.t 24)) (.some (21, .true))),(AO.mk (.some 26) (.fa (.t 2) 0) (.some (25, .false))),(AO.mk (.some 27) (.ld (.t 26) .none) (.some (25, .false))),(AO.mk (.some 28) (.bin .leq (.t 27) (Ki 8)) (.some (25, .false))),(AO.mk (.some 29) (.pick (.t 25) (Kb .true) (.t 28)) (.some (21, .true))),(AO.mk (.some 30) (.pick (.t 21) (.t 29) (Kb .false)) .none),(AO.mk (.some 4) (.mv (.t 30)) .none)]) .ret)))
abbrev n_law14_small : Nat := 11
theorem fn_law14_small : Try.prog.funcs[n_law14_small]? = some Try.f11 := Try.func11
theorem c_law14_small : compF Try.prog Try.f11 = some af_law14_small := by kernel_rfl
def af_law14_shortest : AF := (AF.mk 22 [(4, .none),(5, .none)] (.seq (Rg [(AO.mk (.some 2) (.box (.t 0)) .none),(AO.mk (.some 3) (.box (.t 1)) .none),(AO.mk (.some 4) (.mv (.k (.c (.d (.list .true 1 []))))) .none),(AO.mk (.some 5) (.mv (Ki 0)) .none)]) (.seq (.seq (.rgf [[], [], [], [2], [1, 2, 3], [], [5], [], [7], [], [9], [], [11], [0, 1, 2, 3, 4, 5, 6, 7, 8, 9, 10, 11, 12], [0, 1, 2, 3, 4, 5, 6, 7, 8, 9, 10, 11, 12, 13], [0, 1, 2, 3, 4, 5, 6, 7, 8, 9, 10, 11, 12, 13], [0, 1, 2, 3, 4, 5, 6, 7, 8, 9, 10, 11, 12, 13, 14, 15], [0, 1, 2, 3, 4, 5, 6, 7, 8, 9, 10, 11, 12, 13, 14, 15, 16]] 0 [(AO.mk (.some 6) (.ld (.t 2) (.some 3)) .none),(AO.mk (.some 7) (.bsl 1 [(.bool .false)] 0 []) .none),(AO.mk (.some 8) (.fa (.t 3) 0) .none),(AO.mk (.some 9) (.ld (.t 8) .none) .none),(AO.mk (.some 10) (.app 1 1 [(.bool .false)] (.t 7) (.t 9)) .none),(AO.mk (.some 11) (.fa (.t 3) 1) .none),(AO.mk (.some 12) (.ld (.t 11) .none) .none),(AO.mk (.some 13) (.fa (.t 3) 2) .none),(AO.mk (.some 14) (.ld (.t 13) .none) .none),(AO.mk (.some 15) (.fa (.t 3) 3) .none),(AO.mk (.some 16) (.ld (.t 15) .none) .none),(AO.mk (.some 17) (.fa (.t 3) 4) .none),(AO.mk (.some 18) (.ld (.t 17) .none) .none)]) (.seq (Rg [(AO.mk (.some 19) (.call 29 [(.t 6),(.t 10),(.t 12),(.t 14),(.t 16),(.t 18)]) .none)]) (.rgf [[], [], [], [2], [1, 2, 3], [], [5], [], [7], [], [9], [], [11], [0, 1, 2, 3, 4, 5, 6, 7, 8, 9, 10, 11, 12], [0, 1, 2, 3, 4, 5, 6, 7, 8, 9, 10, 11, 12, 13], [0, 1, 2, 3, 4, 5, 6, 7, 8, 9, 10, 11, 12, 13], [0, 1, 2, 3, 4, 5, 6, 7, 8, 9, 10, 11, 12, 13, 14, 15], [0, 1, 2, 3, 4, 5, 6, 7, 8, 9, 10, 11, 12, 13, 14, 15, 16]] 14 [(AO.mk (.some 20) (.ext (.t 19) 0) .none),(AO.mk (.some 21) (.ext (.t 19) 1) .none),(AO.mk (.some 4) (.mv (.t 20)) .none),(AO.mk (.some 5) (.mv (.t 21)) .none)]))) .ret)))
abbrev n_law14_shortest : Nat := 12
theorem fn_law14_shortest : Try.prog.funcs[n_law14_shortest]? = some Try.f12 := Try.func12
theorem c_law14_shortest : compF Try.prog Try.f12 = some af_law14_shortest := by kernel_rfl
def af_ref14_Same : AF := (AF.mk 27 [(4, .none)] (.seq (Rg [(AO.mk (.some 4) (.mv (Kb .false)) .none)]) (.seq (.seq (Rg [(AO.mk (.some 6) (.mv (.t 0)) .none),(AO.mk (.some 7) (.len (.t 6)) .none),(AO.mk (.some 8) (.mv (.t 1)) .none),(AO.mk (.some 9) (.len (.t 8)) .none),(AO.mk (.some 10) (.bin .neq (.t 7) (.t 9)) .none)]) (.cond (.t 10) (.seq (Rg [(AO.mk (.some 4) (.mv (Kb .false)) .none)]) .ret) .skip)) (.seq (.seq (Rg [(AO.mk (.some 5) (.mv (Ki 0)) .none)]) (.block 0 (.loop (.seq (.seq (Rg [(AO.mk (.some 11) (.mv (.t 5)) .none),(AO.mk (.some 12) (.mv (.t 0)) .none),(AO.mk (.some 13) (.len (.t 12)) .none),(AO.mk (.some 14) (.bin .lss (.t 11) (.t 13)) .none)]) (.cond (.t 14) .skip (.exit 0))) (.seq (.block 1 (.seq (.seq (.reg .true [(AO.mk (.some 17) (.mv (.t 0)) .none),(AO.mk (.some 18) (.mv (.t 5)) .none),(AO.mk (.some 19) (.ias 1 (.t 17) (.t 18)) .none),(AO.mk (.some 20) (.ld (.t 19) .none) .none),(AO.mk (.some 21) (.mv (.t 1)) .none),(AO.mk (.some 22) (.mv (.t 5)) .none),(AO.mk (.some 23) (.ias 1 (.t 21) (.t 22)) .none),(AO.mk (.some 24) (.ld (.t 23) .none) .none)]) (.seq (Rg [(AO.mk (.some 25) (.call 28 [(.t 20),(.t 24)]) .none)]) (.reg .true [(AO.mk (.some 26) (.un .not (.t 25)) .none)]))) (.cond (.t 26) (.seq (Rg [(AO.mk (.some 4) (.mv (Kb .false)) .none)]) .ret) .skip))) (Rg [(AO.mk (.some 15) (.mv (.t 5)) .none),(AO.mk (.some 16) (.bin .add (.t 15) (Ki 1)) .none),(AO.mk (.some 5) (.mv (.t 16)) .none)])))))) (.seq (Rg [(AO.mk (.some 4) (.mv (Kb .true)) .none)]) .ret)))))
abbrev n_ref14_Same : Nat := 14
theorem fn_ref14_Same : Try.prog.funcs[n_ref14_Same]? = some Try.f14 := Try.func14
theorem c_ref14_Same : compF Try.prog Try.f14 = some af_ref14_Same := by kernel_rfl
def af_ref14_Loopless : AF := (AF.mk 65 [(10, .none)] (.seq (Rg [(AO.mk (.some 5) (.box (.t 0)) .none),(AO.mk (.some 10) (.mv (Kb .false)) .none)]) (.seq (Rg [(AO.mk (.some 18) (.ld (.t 5) (.some 3)) .none),(AO.mk (.some 19) (.mv (.t 2)) .none),(AO.mk (.some 20) (.mv (.t 4)) .none),(AO.mk (.some 21) (.call 33 [(.t 18),(.t 19),(.t 20)]) .none),(AO.mk (.some 17) (.mv (.t 21)) .none),(AO.mk (.some 22) (.ext (.t 17) 0) .none),(AO.mk (.some 23) (.ext (.t 17) 1) .none),(AO.mk (.some 24) (.ext (.t 17) 2) .none),(AO.mk (.some 11) (.mv (.t 22)) .none),(AO.mk (.some 12) (.mv (.t 23)) .none),(AO.mk (.some 13) (.mv (.t 24)) .none)]) (.seq (.seq (Rg [(AO.mk (.some 25) (.mv (.t 13)) .none),(AO.mk (.some 26) (.bin .neq (.t 25) (Ki 0)) .none),(AO.mk (.some 27) (.mv (.t 26)) .none),(AO.mk (.some 28) (.mv (.t 11)) (.some (27, .false))),(AO.mk (.some 29) (.mv (.t 3)) (.some (27, .false))),(AO.mk (.some 30) (.bin .neq (.t 28) (.t 29)) (.some (27, .false))),(AO.mk (.some 31) (.pick (.t 27) (Kb .true) (.t 30)) .none)]) (.cond (.t 31) (.seq (Rg [(AO.mk (.some 10) (.mv (Kb .false)) .none)]) .ret) .skip)) (.seq (Rg [(AO.mk (.some 32) (.fa (.t 5) 0) .none),(AO.mk (.some 33) (.ld (.t 32) .none) .none),(AO.mk (.some 34) (.mks 1 1 [(.bool .false)] (.t 33) (.t 33)) .none),(AO.mk (.some 14) (.mv (.t 34)) .none)]) (.seq (Rg [(AO.mk (.some 35) (.mv (.t 14)) .none),(AO.mk (.some 36) (.mv (.t 2)) .none),(AO.mk (.some 37) (.ias 1 (.t 35) (.t 36)) .none),(AO.mk .none (.st (.t 37) (Kb .true) 1) .none)]) (.seq (.seq (Rg [(AO.mk (.some 15) (.mv (Ki 0)) .none)]) (.block 0 (.loop (.seq (.seq (Rg [(AO.mk (.some 38) (.mv (.t 15)) .none),(AO.mk (.some 39) (.mv (.t 4)) .none),(AO.mk (.some 40) (.len (.t 39)) .none),(AO.mk (.some 41) (.bin .lss (.t 38) (.t 40)) .none)]) (.cond (.t 41) .skip (.exit 0))) (.seq (.block 1 (.seq (.seq (.reg .true [(AO.mk (.some 44) (.ld (.t 5) (.some 3)) .none),(AO.mk (.some 45) (.mv (.t 4)) .none),(AO.mk (.some 46) (.mv (.t 15)) .none),(AO.mk (.some 47) (.ias 1 (.t 45) (.t 46)) .none),(AO.mk (.some 48) (.ld (.t 47) .none) .none)]) (.seq (Rg [(AO.mk (.some 49) (.call 26 [(.t 44),(.t 48)]) .none)]) (.reg .true [(AO.mk (.some 16) (.mv (.t 49)) .none)]))) (.seq (.seq (Rg [(AO.mk (.some 50) (.mv (.t 14)) .none),(AO.mk (.some 51) (.mv (.t 16)) .none),(AO.mk (.some 52) (.ias 1 (.t 50) (.t 51)) .none),(AO.mk (.some 53) (.ld (.t 52) .none) .none),(AO.mk (.some 54) (.mv (.t 53)) .none),(AO.mk (.some 55) (.mv (.t 1)) (.some (54, .false))),(AO.mk (.some 56) (.mv (.t 4)) (.some (54, .false))),(AO.mk (.some 57) (.mv (.t 15)) (.some (54, .false))),(AO.mk (.some 58) (.ias 1 (.t 56) (.t 57)) (.some (54, .false))),(AO.mk (.some 59) (.ld (.t 58) .none) (.some (54, .false))),(AO.mk (.some 60) (.call 20 [(.t 55),(.t 59)]) (.some (54, .false))),(AO.mk (.some 61) (.pick (.t 54) (Kb .true) (.t 60)) .none)]) (.cond (.t 61) (.seq (Rg [(AO.mk (.some 10) (.mv (Kb .false)) .none)]) .ret) .skip)) (Rg [(AO.mk (.some 62) (.mv (.t 14)) .none),(AO.mk (.some 63) (.mv (.t 16)) .none),(AO.mk (.some 64) (.ias 1 (.t 62) (.t 63)) .none),(AO.mk .none (.st (.t 64) (Kb .true) 1) .none)])))) (Rg [(AO.mk (.some 42) (.mv (.t 15)) .none),(AO.mk (.some 43) (.bin .add (.t 42) (Ki 1)) .none),(AO.mk (.some 15) (.mv (.t 43)) .none)])))))) (.seq (Rg [(AO.mk (.some 10) (.mv (Kb .true)) .none)]) .ret))))))))
abbrev n_ref14_Loopless : Nat := 15
theorem fn_ref14_Loopless : Try.prog.funcs[n_ref14_Loopless]? = some Try.f15 := Try.func15
theorem c_ref14_Loopless : compF Try.prog Try.f15 = some af_ref14_Loopless := by kernel_rfl
def af_ref14_Down : AF := (AF.mk 19 [(4, .none)] (.seq (Rg [(AO.mk (.some 4) (.mv (Kb .false)) .none)]) (.seq (Rg [(AO.mk (.some 5) (.mv (.t 1)) .none),(AO.mk (.some 6) (.bin .geq (.t 5) (Ki 0)) .none),(AO.mk (.some 7) (.mv (.t 6)) .none),(AO.mk (.some 8) (.mv (.t 1)) (.some (7, .true))),(AO.mk (.some 9) (.mv (.t 0)) (.some (7, .true))),(AO.mk (.some 10) (.len (.t 9)) (.some (7, .true))),(AO.mk (.some 11) (.bin .lss (.t 8) (.t 10)) (.some (7, .true))),(AO.mk (.some 12) (.pick (.t 7) (.t 11) (Kb .false)) .none),(AO.mk (.some 13) (.mv (.t 12)) .none),(AO.mk (.some 14) (.mv (.t 0)) (.some (13, .true))),(AO.mk (.some 15) (.mv (.t 1)) (.some (13, .true))),(AO.mk (.some 16) (.ias 1 (.t 14) (.t 15)) (.some (13, .true))),(AO.mk (.some 17) (.ld (.t 16) .none) (.some (13, .true))),(AO.mk (.some 18) (.pick (.t 13) (.t 17) (Kb .false)) .none),(AO.mk (.some 4) (.mv (.t 18)) .none)]) .ret)))
abbrev n_ref14_Down : Nat := 20
theorem fn_ref14_Down : Try.prog.funcs[n_ref14_Down]? = some Try.f20 := Try.func20
theorem c_ref14_Down : compF Try.prog Try.f20 = some af_ref14_Down := by kernel_rfl
def af_law14_ring : AF := (AF.mk 22 [(0, (.some (.some 3)))] (.seq (Rg [(AO.mk (.some 0) (.box (.k (.agg [Di 0, (.d (.list .true 1 [])),(.d (.list .true 7 []))]))) .none)]) (.seq (Rg [(AO.mk (.some 3) (.build [Di 0, (.d (.list .true 1 [])),(.d (.list .true 7 []))] [(0, (1, (Ki 4)))]) .none),(AO.mk (.some 1) (.box (.k (.agg [Di 0, (.d (.list .true 1 [])),(.d (.list .true 7 []))]))) .none),(AO.mk .none (.st (.t 1) (.t 3) 3) .none)]) (.seq (.seq (Rg [(AO.mk (.some 2) (.mv (Ki 0)) .none)]) (.block 0 (.loop (.seq (.seq (Rg [(AO.mk (.some 4) (.mv (.t 2)) .none),(AO.mk (.some 5) (.bin .lss (.t 4) (Ki 4)) .none)]) (.cond (.t 5) .skip (.exit 0))) (.seq (.block 1 (Rg [(AO.mk (.some 8) (.fa (.t 1) 2) .none),(AO.mk (.some 9) (.ld (.t 8) .none) .none),(AO.mk (.some 10) (.mv (.t 2)) .none),(AO.mk (.some 11) (.mv (.t 2)) .none),(AO.mk (.some 12) (.bin .add (.t 11) (Ki 1)) .none),(AO.mk (.some 13) (.bin .rem (.t 12) (Ki 4)) .none),(AO.mk (.some 14) (.build [Di 0, (.d (.int .i64 0))] [(0, (1, (Ki 1))),(1, (1, (Ki 1)))]) .none),(AO.mk (.some 15) (.mv (.t 2)) .none),(AO.mk (.some 16) (.bin .add (Ki 1) (.t 15)) .none),(AO.mk (.some 17) (.build [Di 0, (.d (.int .i64 0)),(.d (.int .i64 0)),(.d (.int .i64 0)),(.d (.int .i64 0)),(.d (.int .i64 0)),(.d (.int .i64 0))] [(0, (1, (.t 10))),(1, (1, (.t 13))),(2, (2, (.t 14))),(5, (1, (.t 16)))]) .none),(AO.mk (.some 18) (.bsl 7 [(.int .i64 0),(.int .i64 0),(.int .i64 0),(.int .i64 0),(.int .i64 0),(.int .i64 0),(.int .i64 0)] 1 [(0, (.t 17))]) .none),(AO.mk (.some 19) (.app 7 56 [(.int .i64 0),(.int .i64 0),(.int .i64 0),(.int .i64 0),(.int .i64 0),(.int .i64 0),(.int .i64 0)] (.t 9) (.t 18)) .none),(AO.mk (.some 20) (.fa (.t 1) 2) .none),(AO.mk .none (.st (.t 20) (.t 19) 1) .none)])) (Rg [(AO.mk (.some 6) (.mv (.t 2)) .none),(AO.mk (.some 7) (.bin .add (.t 6) (Ki 1)) .none),(AO.mk (.some 2) (.mv (.t 7)) .none)])))))) (.seq (Rg [(AO.mk (.some 21) (.ld (.t 1) (.some 3)) .none),(AO.mk .none (.st (.t 0) (.t 21) 3) .none)]) .ret)))))
abbrev n_law14_ring : Nat := 30
theorem fn_law14_ring : Try.prog.funcs[n_law14_ring]? = some Try.f30 := Try.func30
theorem c_law14_ring : compF Try.prog Try.f30 = some af_law14_ring := by kernel_rfl
end Go.Ab

/-
  The reference's small functions on paths.
-/
namespace Go.Ab
open Go.Proofs
def dnB (down : List Bool) (a : Int) : Bool := decide (0 ≤ a ∧ a < down.length) && down.getD a.toNat false
theorem dnB_up {down : List Bool} {a : Int} (h0 : 0 ≤ a) (h1 : down.length = 0 ∨ a < down.length) : dnB down a = !upB down a := by
 unfold dnB upB
 rcases h1 with h1 | h1
 ·have : ¬ (a < (down.length : Int)) := by omega
  rw [decide_eq_false (fun h => this h.2), decide_eq_true h1]; rfl
 ·rw [decide_eq_true ⟨h0, h1⟩, decide_eq_false (by omega)]; simp
theorem rdown_ok (P : Program) (hP : P = Try.prog) (down : List Bool) (a : Int) : Ret P n_ref14_Down [boolsA down, iA a] (bA (dnB down a)) := by
 refine ret_start (hP ▸ mixed) (hP ▸ fn_ref14_Down) (hP ▸ c_ref14_Down) (Nat.le_of_ble_eq_true rfl) fun Λ Λo K hK => ?_
 clear hP
 have key : ∀ (b : Bool), 0 ≤ a → a < down.length → down[a.toNat]? = some b → K (bA b) := fun b h0 h1 h2 => by
  rw [dnB, decide_eq_true ⟨h0, h1⟩, List.getD_eq_getElem?_getD, h2] at hK; exact hK
 have no : ¬ (0 ≤ a ∧ a < down.length) → K (bA false) := fun h => by rw [dnB, decide_eq_false h] at hK; exact hK
 clear hK
 simp only [boolsA, boolsD] at *
 generalize hdl : down.map encB = dl at *
 have hln : Λ dl = down.length := by rw [Λo, ← hdl]; simp
 conv => cbv
 repeat' first | (intro e he; obtain ⟨b, hb, rfl⟩ := map_get' hdl he; (conv => cbv)) | exact gu | exact trivial | refine And.intro ?_ ?_ | (intro hc; exact absurd hc (by decide)) | (intro hc; exfalso; omega) | (intro hc; (first | rw [wrap_small (by omega) (by omega)] at hc | rw [nI_eq] at hc | skip); try (conv => cbv))
 all_goals first
  | exact no (by omega)
  | exact key _ (by omega) (by omega) hb
theorem rsame_ok (P : Program) (hP : P = Try.prog) (a b : List (List Int)) (ha : a.length ≤ 1000000) (hb : b.length ≤ 1000000) : Ret P n_ref14_Same [.c (.d (.list false 1 (a.map encRow))), .c (.d (.list false 1 (b.map encRow)))] (bA (decide (a = b))) := by
 have hs := fun x y => sameInts_ok P hP x y
 refine ret_start (hP ▸ mixed) (hP ▸ fn_ref14_Same) (hP ▸ c_ref14_Same) (Nat.le_of_ble_eq_true rfl) fun Λ Λo K hK => ?_
 clear hP
 have yes := yes_of hK
 have no := no_of hK
 clear hK
 have hxa' : ∀ (k : Nat) (x : List Int), a[k]? = some x → (a.map encRow)[k]? = some [.list false 1 (x.map encI)] := fun k x hx => by rw [List.getElem?_map, hx]; rfl
 have hxb' : ∀ (k : Nat) (x : List Int), b[k]? = some x → (b.map encRow)[k]? = some [.list false 1 (x.map encI)] := fun k x hx => by rw [List.getElem?_map, hx]; rfl
 simp only [intsA, intsD] at *
 generalize hal : a.map encRow = al at *
 generalize hbl : b.map encRow = bl at *
 have aln : Λ al = a.length := by rw [Λo, ← hal]; simp
 have bln : Λ bl = b.length := by rw [Λo, ← hbl]; simp
 conv => cbv
 repeat' first | exact gu | exact trivial | refine And.intro ?_ ?_ | (intro hc; exact absurd hc (by decide)) | (intro hc; exfalso; omega) | (intro hc; (first | rw [wrap_small (by omega) (by omega)] at hc | rw [nI_eq] at hc | skip); try (conv => cbv))
 ·exact no fun h => by subst h; omega
 refine loop_up a.length (fun i : Int => [(0, .c (.d (.list false 1 al))), (1, .c (.d (.list false 1 bl))), (5, iA i)]) (fun _ => []) (fun k i => i = k ∧ k ≤ a.length ∧ a.take k = b.take k) 0 (Wk.cw) ⟨rfl, by omega, by simp⟩ (fun k s h => h.2.1) ?_
 rintro k i Q' ⟨hi, hk, hno⟩ norm ex rt
 by_cases hlt : k < a.length
 ·obtain ⟨x, hx⟩ : ∃ x, a[k]? = some x := ⟨_, List.getElem?_eq_getElem hlt⟩
  obtain ⟨y, hy⟩ : ∃ y, b[k]? = some y := ⟨_, List.getElem?_eq_getElem (by omega)⟩
  have hxa := hxa' k x hx
  have hya := hxb' k y hy
  have hsx := hs x y
  have e1 : i.toNat = k := by omega
  rw [← e1] at hxa hya
  by_cases hxy : x = y
  ·rw [decide_eq_true hxy] at hsx
   generalize x.map encI = xl at *
   generalize y.map encI = yl at *
   conv => cbv
   repeat' first | (intro e he; cases Option.some.inj (he.symm.trans hxa); (conv => cbv)) | (intro e he; cases Option.some.inj (he.symm.trans hya); (conv => cbv)) | (refine call_r hsx rfl rfl ?_; conv => cbv) | exact gu | exact trivial | refine And.intro ?_ ?_ | (intro hc; exact absurd hc (by decide)) | (intro hc; exfalso; omega) | (intro hc; (first | rw [wrap_small (by omega) (by omega)] at hc | rw [nI_eq] at hc | skip); try (conv => cbv))
   refine norm _ _ _ ?_ (Wk.cw)
   exact ⟨by omega, by omega, by rw [take_succ_get hx, take_succ_get hy, hno, hxy]⟩
  ·rw [decide_eq_false hxy] at hsx
   generalize x.map encI = xl at *
   generalize y.map encI = yl at *
   conv => cbv
   repeat' first | (intro e he; cases Option.some.inj (he.symm.trans hxa); (conv => cbv)) | (intro e he; cases Option.some.inj (he.symm.trans hya); (conv => cbv)) | (refine call_r hsx rfl rfl ?_; conv => cbv) | exact gu | exact trivial | refine And.intro ?_ ?_ | (intro hc; exact absurd hc (by decide)) | (intro hc; exfalso; omega) | (intro hc; (first | rw [wrap_small (by omega) (by omega)] at hc | rw [nI_eq] at hc | skip); try (conv => cbv))
   refine rt _ _ ?_
   conv => cbv
   refine no fun h => ?_
   subst h; rw [hx] at hy; cases hy; exact hxy rfl
 ·conv => cbv
  repeat' first | exact gu | exact trivial | refine And.intro ?_ ?_ | (intro hc; exact absurd hc (by decide)) | (intro hc; exfalso; omega) | (intro hc; (first | rw [wrap_small (by omega) (by omega)] at hc | rw [nI_eq] at hc | skip); try (conv => cbv))
  refine ex _ _ _ ?_
  conv => cbv
  repeat' first | exact gu | exact trivial | refine And.intro ?_ ?_ | (intro hc; exact absurd hc (by decide)) | (intro hc; exfalso; omega) | (intro hc; (first | rw [wrap_small (by omega) (by omega)] at hc | rw [nI_eq] at hc | skip); try (conv => cbv))
  exact yes (by rw [List.take_of_length_le (by omega), List.take_of_length_le (by omega)] at hno; exact hno)
end Go.Ab

/-
  The reference's enumeration of paths.
-/
namespace Go.Ab
open Go.Proofs
def extS (t : Top) (down : List Bool) (d : Int) : Nat → List Int → Int → List Bool → List (List Int)
 | 0, _, _, _ => []
 | m + 1, path, at', sn => if at' = d then [path] else if path ≠ [] ∧ ovT t at' = true then [] else
  (outT t at').flatMap fun a => if dnB down a = true ∨ sn.getD (headT t a).toNat false = true then [] else extS t down d m (path ++ [a]) (headT t a) (sn.set (headT t a).toNat true)
def freeB (sn : List Bool) : Nat := sn.countP (fun b => !b)
theorem freeB_set {sn : List Bool} {j : Nat} (h : sn[j]? = some false) : freeB (sn.set j true) + 1 = freeB sn := by
 induction sn generalizing j with
 | nil => simp at h
 | cons b r ih =>
  cases j with
  | zero =>
   simp only [List.getElem?_cons_zero, Option.some.injEq] at h
   subst h
   simp [freeB]
  | succ j =>
   have := ih (j := j) (by simpa using h)
   unfold freeB at this ⊢
   rw [List.set_cons_succ, List.countP_cons, List.countP_cons]
   omega
end Go.Ab

/-
  The reference's sorting of paths.
-/
namespace Go.Ab
open Go.Proofs
def insP (t : Top) (x : List Int) : List (List Int) → List (List Int)
 | [] => [x]
 | y :: r => if ordS (cst t y) (cst t x) y x < 0 then y :: insP t x r else x :: y :: r
def sortP (t : Top) (l : List (List Int)) : List (List Int) := l.foldl (fun E x => insP t x E) []
theorem insP_perm (t : Top) (x : List Int) : ∀ E, (insP t x E).Perm (x :: E)
 | [] => .refl _
 |y :: r => by
  rw [insP]
  split
  ·exact ((insP_perm t x r).cons y).trans (.swap _ _ _)
  ·exact .refl _
theorem foldP_perm (t : Top) : ∀ (l E : List (List Int)), (l.foldl (fun E x => insP t x E) E).Perm (l ++ E)
 | [], E => .refl _
 |x :: l, E => by
  rw [List.foldl_cons]
  refine (foldP_perm t l _).trans ?_
  have h1 : (l ++ insP t x E).Perm (l ++ x :: E) := (insP_perm t x E).append_left l
  exact h1.trans List.perm_middle
theorem sortP_perm (t : Top) (l : List (List Int)) : (sortP t l).Perm l := by
 have := foldP_perm t l []
 rwa [List.append_nil] at this
end Go.Ab

/-
  The reference's enumeration of all paths.
-/
namespace Go.Ab
open Go.Proofs
def seen0 (t : Top) (s : Int) : List Bool := (List.replicate t.nodes.toNat false).set s.toNat true
def simpS (t : Top) (down : List Bool) (s d : Int) : List (List Int) := extS t down d 8 [] s (seen0 t s)
end Go.Ab

/-
  The reference's paths are the good ones, each once.
-/
namespace Go.Ab
open Go.Proofs
def ExtP (t : Top) (down : List Bool) (d : Int) : Bool → Int → List Bool → List Int → Prop
 | _, v, _, [] => v = d
 | b, v, sn, a :: r => v ≠ d ∧ (b = true → ovT t v = false) ∧ ((0 ≤ a ∧ a < 2 * t.links.length) ∧ tailG t a = v) ∧ dnB down a = false ∧ sn.getD (headG t a).toNat false = false ∧ ExtP t down d true (headG t a) (sn.set (headG t a).toNat true) r
theorem outT_mem {t : Top} {a n : Int} (hv : validT t = true) : a ∈ outT t n ↔ (0 ≤ a ∧ a < 2 * t.links.length) ∧ tailG t a = n := by
 rw [outT, List.mem_filter, decide_eq_true_eq, arcsTo, List.mem_map]
 constructor
 ·rintro ⟨⟨j, hj, rfl⟩, h2⟩
  rw [List.mem_range, arcsT, if_pos hv] at hj
  have h0 : (0 : Int) ≤ (j : Int) := by omega
  have h1 : (j : Int) < 2 * t.links.length := by omega
  rw [tailT_valid hv h0 h1] at h2
  exact ⟨⟨h0, h1⟩, h2⟩
 ·rintro ⟨⟨h0, h1⟩, h2⟩
  refine ⟨⟨a.toNat, ?_, by omega⟩, by rw [tailT_valid hv h0 h1]; exact h2⟩
  rw [List.mem_range, arcsT, if_pos hv]; omega
theorem headT_valid' {t : Top} {a : Int} (hv : validT t = true) (h0 : 0 ≤ a) (h1 : a < 2 * t.links.length) : headT t a = headG t a := by
 rw [headT, headG, arcsT, if_pos hv, if_pos (show 0 ≤ a ∧ a < 2 * (t.links.length : Int) from ⟨h0, h1⟩)]
theorem head_rg {t : Top} {a : Int} (hv : validT t = true) (h0 : 0 ≤ a) (h1 : a < 2 * t.links.length) : 0 ≤ headG t a ∧ headG t a < t.nodes := by
 have := endG_range hv true h0 h1
 exact this
theorem outT_nodup (t : Top) (n : Int) : (outT t n).Nodup := by
 unfold outT
 refine List.Nodup.sublist List.filter_sublist ?_
 unfold arcsTo
 rw [List.nodup_iff_pairwise_ne, List.pairwise_map]
 refine List.Pairwise.imp ?_ (List.nodup_iff_pairwise_ne.1 List.nodup_range)
 intro a b h e
 exact h (by omega)
theorem extS_mem {t : Top} {down : List Bool} {d : Int} (hv : validT t = true) : ∀ (m : Nat) (path : List Int) (v : Int) (sn : List Bool), freeB sn < m → (sn.length : Int) = t.nodes → ∀ p, p ∈ extS t down d m path v sn ↔ ∃ q, p = path ++ q ∧ ExtP t down d (decide (path ≠ [])) v sn q
 | 0, _, _, _, h, _, _ => by omega
 |m + 1, path, v, sn, hf, hl, p => by
  rw [extS]
  by_cases hvd : v = d
  ·rw [if_pos hvd, List.mem_singleton]
   constructor
   ·intro h; exact ⟨[], by rw [h, List.append_nil], hvd⟩
   ·rintro ⟨q, h1, h2⟩
    cases q with
    | nil => rw [h1, List.append_nil]
    | cons a r => exact absurd hvd h2.1
  ·rw [if_neg hvd]
   by_cases hov : path ≠ [] ∧ ovT t v = true
   ·rw [if_pos hov]
    constructor
    ·intro h; cases h
    ·rintro ⟨q, h1, h2⟩
     cases q with
     | nil => exact absurd h2 hvd
     | cons a r =>
      have := h2.2.1 (decide_eq_true hov.1)
      rw [hov.2] at this; cases this
   ·rw [if_neg hov, List.mem_flatMap]
    have hov2 : decide (path ≠ []) = true → ovT t v = false := fun h => by
     cases hb : ovT t v with
     | false => rfl
     | true => exact absurd ⟨of_decide_eq_true h, hb⟩ hov
    constructor
    ·rintro ⟨a, ha, h⟩
     rw [outT_mem hv] at ha
     have hh := headT_valid' hv ha.1.1 ha.1.2
     have hr := head_rg hv ha.1.1 ha.1.2
     rw [hh] at h
     split at h
     ·cases h
     ·rename_i hn
      rw [not_or] at hn
      have hsn : sn[(headG t a).toNat]? = some false := by
       rw [List.getElem?_eq_getElem (by omega)]
       have := Bool.eq_false_iff.2 hn.2
       rw [List.getD_eq_getElem?_getD, List.getElem?_eq_getElem (by omega)] at this
       exact congrArg some this
      have h3 := freeB_set hsn
      rw [extS_mem hv m _ _ _ (by omega) (by rw [List.length_set]; exact hl)] at h
      obtain ⟨q, hq1, hq2⟩ := h
      refine ⟨a :: q, by rw [hq1]; simp, hvd, hov2, ha, Bool.eq_false_iff.2 hn.1, Bool.eq_false_iff.2 hn.2, ?_⟩
      rw [decide_eq_true (by simp)] at hq2
      exact hq2
    ·rintro ⟨q, h1, h2⟩
     cases q with
     | nil => exact absurd h2 hvd
     | cons a r =>
      obtain ⟨_, _, h3, h4, h5, h6⟩ := h2
      have hh := headT_valid' hv h3.1.1 h3.1.2
      have hr := head_rg hv h3.1.1 h3.1.2
      refine ⟨a, (outT_mem hv).2 h3, ?_⟩
      rw [hh, if_neg (by rw [h4, h5]; simp)]
      have hsn : sn[(headG t a).toNat]? = some false := by
       rw [List.getElem?_eq_getElem (by omega)]
       rw [List.getD_eq_getElem?_getD, List.getElem?_eq_getElem (by omega)] at h5
       exact congrArg some h5
      have h7 := freeB_set hsn
      rw [extS_mem hv m _ _ _ (by omega) (by rw [List.length_set]; exact hl)]
      exact ⟨r, by rw [h1]; simp, by rw [decide_eq_true (by simp)]; exact h6⟩
theorem extS_pre {t : Top} {down : List Bool} {d : Int} : ∀ (m : Nat) (path : List Int) (v : Int) (sn : List Bool) (p : List Int), p ∈ extS t down d m path v sn → ∃ q, p = path ++ q
 | 0, _, _, _, _, h => by cases h
 |m + 1, path, v, sn, p, h => by
  rw [extS] at h
  split at h
  ·rw [List.mem_singleton] at h; exact ⟨[], by rw [h, List.append_nil]⟩
  ·split at h
   ·cases h
   ·rw [List.mem_flatMap] at h
    obtain ⟨a, _, h⟩ := h
    split at h
    ·cases h
    ·obtain ⟨q, rfl⟩ := extS_pre m _ _ _ p h
     exact ⟨a :: q, by simp⟩
theorem extS_nodup {t : Top} {down : List Bool} {d : Int} : ∀ (m : Nat) (path : List Int) (v : Int) (sn : List Bool), (extS t down d m path v sn).Nodup
 | 0, _, _, _ => List.nodup_nil
 |m + 1, path, v, sn => by
  rw [extS]
  split
  ·simp
  ·split
   ·simp
   ·have key : ∀ l : List Int, l.Nodup → (l.flatMap fun a => if dnB down a = true ∨ sn.getD (headT t a).toNat false = true then [] else extS t down d m (path ++ [a]) (headT t a) (sn.set (headT t a).toNat true)).Nodup := by
     intro l
     induction l with
     | nil => intro _; simp
     | cons a r ih =>
      intro hn
      obtain ⟨h1, h2⟩ := List.nodup_cons.1 hn
      rw [List.flatMap_cons, List.nodup_append]
      refine ⟨?_, ih h2, fun x hx y hy e => ?_⟩
      ·split
       ·simp
       ·exact extS_nodup m _ _ _
      ·subst e
       rw [List.mem_flatMap] at hy
       obtain ⟨b, hb, hy⟩ := hy
       split at hx
       ·cases hx
       ·split at hy
        ·cases hy
        ·obtain ⟨q1, e1⟩ := extS_pre m _ _ _ x hx
         obtain ⟨q2, e2⟩ := extS_pre m _ _ _ x hy
         rw [e1, List.append_assoc, List.append_assoc] at e2
         have e3 := List.append_cancel_left e2
         have e4 : a = b := by simpa using (List.cons.inj e3).1
         exact h1 (e4 ▸ hb)
    exact key _ (outT_nodup t v)
theorem getD_set {sn : List Bool} {i j : Nat} (hj : j < sn.length) : (sn.set j true).getD i false = if i = j then true else sn.getD i false := by
 rw [List.getD_eq_getElem?_getD, List.getElem?_set]
 by_cases h : j = i
 ·rw [if_pos h, if_pos hj, if_pos h.symm]; rfl
 ·rw [if_neg h, if_neg (fun e => h e.symm), List.getD_eq_getElem?_getD]
theorem ExtP_flat {t : Top} {down : List Bool} {d : Int} (hv : validT t = true) : ∀ (q : List Int) (b : Bool) (v : Int) (sn : List Bool), (sn.length : Int) = t.nodes → (ExtP t down d b v sn q ↔
  (∀ (p1 : List Int) (a : Int) (p2 : List Int), q = p1 ++ a :: p2 → ((0 ≤ a ∧ a < 2 * t.links.length) ∧ tailG t a = endN (headG t) v p1) ∧ dnB down a = false ∧ ((b = true ∨ p1 ≠ []) → ovT t (endN (headG t) v p1) = false) ∧ endN (headG t) v p1 ≠ d) ∧
   endN (headG t) v q = d ∧ (q.map (headG t)).Nodup ∧ ∀ x ∈ q.map (headG t), sn.getD x.toNat false = false)
 |[], b, v, sn, _ => by
  simp only [ExtP, endN]
  refine ⟨fun h => ⟨fun p1 a p2 e => by simp at e, h, by simp, by simp⟩, fun h => h.2.1⟩
 |a :: r, b, v, sn, hl => by
  simp only [ExtP]
  constructor
  ·rintro ⟨h1, h2, h3, h4, h5, h6⟩
   have hr := head_rg hv h3.1.1 h3.1.2
   have hj : (headG t a).toNat < sn.length := by omega
   obtain ⟨g1, g2, g3, g4⟩ := (ExtP_flat hv r true (headG t a) _ (by rw [List.length_set]; exact hl)).1 h6
   have g5 : ∀ x ∈ r.map (headG t), x ≠ headG t a ∧ sn.getD x.toNat false = false := fun x hx => by
    have := g4 x hx
    rw [getD_set hj] at this
    split at this
    ·cases this
    ·rename_i hne
     exact ⟨fun e => hne (by rw [e]), this⟩
   refine ⟨fun p1 c p2 e => ?_, g2, ?_, fun x hx => ?_⟩
   ·cases p1 with
    | nil =>
     obtain ⟨rfl, rfl⟩ := List.cons.inj e
     exact ⟨h3, h4, fun h => h2 (h.resolve_right (by simp)), h1⟩
    | cons c2 p1 =>
     rw [List.cons_append] at e
     obtain ⟨e7, e8⟩ := List.cons.inj e
     subst e7
     obtain ⟨k1, k2, k3, k4⟩ := g1 p1 c p2 e8
     exact ⟨k1, k2, fun _ => k3 (.inl rfl), k4⟩
   ·rw [List.map_cons, List.nodup_cons]
    exact ⟨fun hm => (g5 _ hm).1 rfl, g3⟩
   ·rw [List.map_cons] at hx
    rcases List.mem_cons.1 hx with rfl | hx
    ·exact h5
    ·exact (g5 x hx).2
  ·rintro ⟨h1, h2, h3, h4⟩
   obtain ⟨k1, k2, k3, k4⟩ := h1 [] a r rfl
   have hr := head_rg hv k1.1.1 k1.1.2
   have hj : (headG t a).toNat < sn.length := by omega
   rw [List.map_cons, List.nodup_cons] at h3
   refine ⟨k4, fun h => k3 (.inl h), k1, k2, h4 _ (by simp), ?_⟩
   rw [ExtP_flat hv r true (headG t a) _ (by rw [List.length_set]; exact hl)]
   refine ⟨fun p1 c p2 e => ?_, h2, h3.2, fun x hx => ?_⟩
   ·obtain ⟨m1, m2, m3, m4⟩ := h1 (a :: p1) c p2 (by rw [e]; rfl)
    exact ⟨m1, m2, fun _ => m3 (.inr (by simp)), m4⟩
   ·have hxr : 0 ≤ x := by
     obtain ⟨c, hc, rfl⟩ := List.mem_map.1 hx
     obtain ⟨p1, p2, e⟩ := List.append_of_mem hc
     obtain ⟨m1, _⟩ := h1 (a :: p1) c p2 (by rw [e]; rfl)
     exact (head_rg hv m1.1.1 m1.1.2).1
    rw [getD_set hj, if_neg (fun e => h3.1 (by
     have : x = headG t a := by omega
     rw [← this]; exact hx))]
    exact h4 x (by simp only [List.map_cons, List.mem_cons]; exact .inr hx)
theorem simpS_mem {t : Top} {down : List Bool} {s d : Int} (hv : validT t = true) (hdn : down.length = 0 ∨ down.length = 2 * t.links.length) (hN8 : t.nodes ≤ 8) (hs : 0 ≤ s ∧ s < t.nodes) (p : List Int) : p ∈ simpS t down s d ↔ GoodP t down s d 0 p := by
 have hsl : ((seen0 t s).length : Int) = t.nodes := by simp [seen0]; omega
 have hfree : freeB (seen0 t s) < 8 := by
  have h1 := freeB_set (sn := List.replicate t.nodes.toNat false) (j := s.toNat) (by rw [List.getElem?_replicate, if_pos (by omega)])
  have h2 : freeB (List.replicate t.nodes.toNat false) ≤ (List.replicate t.nodes.toNat false).length := List.countP_le_length
  rw [List.length_replicate] at h2
  unfold seen0
  omega
 have hse : ∀ x : Int, 0 ≤ x → x < t.nodes → ((seen0 t s).getD x.toNat false = false ↔ x ≠ s) := fun x h0 h1 => by
  rw [seen0, getD_set (by simp; omega)]
  have e : (List.replicate t.nodes.toNat false).getD x.toNat false = false := by
   rw [List.getD_eq_getElem?_getD, List.getElem?_replicate]; split <;> rfl
  rw [e]
  by_cases h : x.toNat = s.toNat
  ·rw [if_pos h]
   have h3 : x = s := by omega
   simp [h3]
  ·rw [if_neg h]; exact ⟨fun _ e => h (by rw [e]), fun _ => rfl⟩
 rw [simpS, extS_mem hv 8 [] s _ hfree hsl]
 have e1 : (∃ q, p = [] ++ q ∧ ExtP t down d (decide (([] : List Int) ≠ [])) s (seen0 t s) q) ↔ ExtP t down d false s (seen0 t s) p := by
  constructor
  ·rintro ⟨q, h1, h2⟩
   rw [List.nil_append] at h1
   rw [h1]; simpa using h2
  ·intro h
   exact ⟨p, rfl, by simpa using h⟩
 rw [e1, ExtP_flat hv p false s _ hsl]
 constructor
 ·rintro ⟨h1, h2, h3, h4⟩
  refine ⟨fun p1 a p2 e => ?_, h2, ?_, fun h => by omega⟩
  ·obtain ⟨k1, k2, k3, _⟩ := h1 p1 a p2 e
   refine ⟨k1.1, k1.2, ?_, fun h => k3 (.inr h)⟩
   rw [dnB_up k1.1.1 (by omega)] at k2
   simpa using k2
  ·rw [List.nodup_cons]
   refine ⟨fun hm => ?_, h3⟩
   exact (hse s hs.1 hs.2).1 (h4 s hm) rfl
 ·intro h
  have hnd := List.nodup_cons.1 h.nd
  refine ⟨fun p1 a p2 e => ?_, h.en, hnd.2, fun x hx => ?_⟩
  ·obtain ⟨k1, k2, k3, k4⟩ := h.st p1 a p2 e
   refine ⟨⟨k1, k2⟩, by rw [dnB_up k1.1 (by omega), k3]; rfl, fun h2 => k4 (h2.resolve_left (by simp)), ?_⟩
   have hi : p1.length < p.length := by rw [e]; simp
   have := (h.root hi).2
   rw [e, List.take_left] at this
   exact this
  ·obtain ⟨a, ha, rfl⟩ := List.mem_map.1 hx
   obtain ⟨p1, p2, e⟩ := List.append_of_mem ha
   have k1 := (h.st p1 a p2 e).1
   have hr := head_rg hv k1.1 k1.2
   rw [hse _ hr.1 hr.2]
   exact fun e2 => hnd.1 (e2 ▸ hx)
theorem insP_srt {t : Top} {x : List Int} : ∀ {E : List (List Int)}, E.Pairwise (fun a b => ordS (cst t a) (cst t b) a b < 0) → x ∉ E → (insP t x E).Pairwise (fun a b => ordS (cst t a) (cst t b) a b < 0)
 | [], _, _ => List.pairwise_singleton _ _
 |y :: r, h, hn => by
  obtain ⟨h1, h2⟩ := List.pairwise_cons.1 h
  rw [insP]
  split
  ·rename_i hx
   refine List.pairwise_cons.2 ⟨fun z hz => ?_, insP_srt h2 fun hm => hn (List.mem_cons_of_mem _ hm)⟩
   rcases List.mem_cons.1 ((insP_perm t x r).mem_iff.1 hz) with rfl | hz
   ·exact hx
   ·exact h1 z hz
  ·rename_i hx
   have hxy : ordS (cst t x) (cst t y) x y < 0 := by
    rw [ordS_neg] at hx
    by_cases e : ordS (cst t x) (cst t y) x y = 0
    ·exact absurd (List.mem_cons_self) ((ordS_z e).2 ▸ hn)
    ·omega
   refine List.pairwise_cons.2 ⟨fun z hz => ?_, h⟩
   rcases List.mem_cons.1 hz with rfl | hz
   ·exact hxy
   ·have h3 := h1 z hz
    have h4 := ordS_trans (ca := cst t x) (cb := cst t y) (cc := cst t z) (a := x) (b := y) (c := z) (by omega) (by omega)
    by_cases e : ordS (cst t x) (cst t z) x z = 0
    ·obtain ⟨e1, rfl⟩ := ordS_z e
     rw [ordS_neg] at h3
     omega
    ·omega
theorem foldP_srt {t : Top} : ∀ (l E : List (List Int)), E.Pairwise (fun a b => ordS (cst t a) (cst t b) a b < 0) → (l ++ E).Nodup → (l.foldl (fun E x => insP t x E) E).Pairwise (fun a b => ordS (cst t a) (cst t b) a b < 0)
 | [], _, h, _ => h
 |x :: l, E, h, hn => by
  rw [List.cons_append, List.nodup_cons] at hn
  rw [List.foldl_cons]
  refine foldP_srt l _ (insP_srt h fun hm => hn.1 (List.mem_append_right _ hm)) ?_
  have h1 : (l ++ insP t x E).Perm (x :: (l ++ E)) := ((insP_perm t x E).append_left l).trans List.perm_middle
  rw [h1.nodup_iff, List.nodup_cons]
  exact hn
theorem cstP {t : Top} {down : List Bool} {s d most : Int} {p : List Int} (hv : validT t = true) (h : GoodP t down s d most p) : cst t p = costP t p := by
 unfold cst costP
 congr 1
 apply List.map_congr_left
 intro a ha
 obtain ⟨p1, p2, e⟩ := List.append_of_mem ha
 have := (h.st p1 a p2 e).1
 have := cost_rg hv this.1 this.2
 omega
def allS (t : Top) (down : List Bool) (s d : Int) : List (List Int) := sortP t (simpS t down s d)
theorem allS_srt {t : Top} {down : List Bool} {s d : Int} (hv : validT t = true) (hdn : down.length = 0 ∨ down.length = 2 * t.links.length) (hN8 : t.nodes ≤ 8) (hs : 0 ≤ s ∧ s < t.nodes) : IsSrt t (GoodP t down s d 0) (allS t down s d) := by
 have hm : ∀ p, p ∈ allS t down s d ↔ GoodP t down s d 0 p := fun p => by rw [allS, (sortP_perm t _).mem_iff, simpS_mem hv hdn hN8 hs]
 refine ⟨?_, hm⟩
 have h1 := foldP_srt (t := t) (simpS t down s d) [] List.Pairwise.nil (by rw [List.append_nil]; exact extS_nodup _ _ _ _)
 refine List.Pairwise.imp_of_mem ?_ h1
 intro a b ha hb h
 have ga := (hm a).1 ha
 have gb := (hm b).1 hb
 unfold ltP
 rw [← cstP hv ga, ← cstP hv gb]
 exact h
end Go.Ab

/-
  The reference's shortest paths.
-/
namespace Go.Ab
open Go.Proofs
def quickB (t : Top) (most : Int) (p : List Int) : Bool := decide (most = 0 ∨ (p.map fun a => (lkAt t a).dl).sum ≤ most)
def quickS (t : Top) (down : List Bool) (s d most : Int) : List (List Int) := (allS t down s d).filter (quickB t most)
theorem GoodP_most {t : Top} {down : List Bool} {s d most : Int} (hm : 0 ≤ most) {p : List Int} : GoodP t down s d most p ↔ GoodP t down s d 0 p ∧ quickB t most p = true := by
 unfold quickB
 rw [decide_eq_true_eq]
 constructor
 ·intro h
  exact ⟨⟨h.st, h.en, h.nd, fun h => by omega⟩, by have := h.de; omega⟩
 ·rintro ⟨h, h2⟩
  exact ⟨h.st, h.en, h.nd, fun h3 => by omega⟩
theorem quickS_srt {t : Top} {down : List Bool} {s d most : Int} (hv : validT t = true) (hdn : down.length = 0 ∨ down.length = 2 * t.links.length) (hN8 : t.nodes ≤ 8) (hs : 0 ≤ s ∧ s < t.nodes) (hm : 0 ≤ most) : IsSrt t (GoodP t down s d most) (quickS t down s d most) := by
 have h := allS_srt (d := d) hv hdn hN8 hs
 refine ⟨h.srt.filter _, fun p => ?_⟩
 rw [quickS, List.mem_filter, h.mem, GoodP_most hm]
end Go.Ab

/-
  Chapter 14, what all laws share: the example, small topologies, the call.
-/
namespace Go.Ab
open Go.Proofs
structure Qk where
 down : List Bool
 (s d k most : Int)
abbrev qkA (q : Qk) : AV := .agg [.d (boolsD q.down), .d (iD q.s), .d (iD q.d), .d (iD q.k), .d (iD q.most)]
def shS (t : Top) (q : Qk) : List (List Int) × Int := shortV t q.down q.s q.d q.k q.most (quickS t q.down q.s q.d q.most)
abbrev rwsA (l : List (List Int)) : AV := .c (.d (.list false 1 (l.map encRow)))
def smallK (t : Top) (q : Qk) : Prop := t.links.length ≤ 11 ∧ t.ov.length ≤ 20 ∧ q.down.length ≤ 40 ∧ (validT t = true → t.nodes ≤ 8)
instance (t : Top) (q : Qk) : Decidable (smallK t q) := by unfold smallK; infer_instance
theorem small_ok (P : Program) (hP : P = Try.prog) (t : Top) (q : Qk) : Ret P n_law14_small [topA t, qkA q] (bA (decide (smallK t q))) := by
 have hv := valid_ok P hP t
 refine ret_start (hP ▸ mixed) (hP ▸ fn_law14_small) (hP ▸ c_law14_small) (Nat.le_of_ble_eq_true rfl) fun Λ Λo K hK => ?_
 clear hP
 have yes := yes_of hK
 have no := no_of hK
 clear hK
 unfold smallK at yes no
 obtain ⟨dn, s, d, k, most⟩ := q
 simp only [topA, qkA, rwsA, intsA, intsD, boolsA, boolsD, linksD] at *
 generalize hol : t.ov.map encB = ovl at *
 generalize hll : t.links.map encLk = lkl at *
 generalize hdl : dn.map encB = dwl at *
 have l1 : Λ ovl = t.ov.length := by rw [Λo, ← hol]; simp
 have l2 : Λ lkl = t.links.length := by rw [Λo, ← hll]; simp
 have l3 : Λ dwl = dn.length := by rw [Λo, ← hdl]; simp
 generalize t.nodes = nodes at *
 cases hvb : validT t
 all_goals
  rw [hvb] at hv
  conv => cbv
  repeat' first | (refine call_r hv rfl rfl ?_; conv => cbv) | exact gu | exact trivial | refine And.intro ?_ ?_ | (intro hc; exact absurd hc (by decide)) | (intro hc; exfalso; omega) | (intro hc; (first | rw [wrap_small (by omega) (by omega)] at hc | rw [nI_eq] at hc | skip); try (conv => cbv))
  all_goals first
   | exact yes ⟨by omega, by omega, by omega, fun h => by rw [hvb] at h; first | (cases h; done) | omega⟩
   |exact no fun h => by
     have h4 := h.2.2.2
     rw [hvb] at h4
     first
      | (have h5 := h4 rfl; omega)
      | omega
theorem shortest_q (P : Program) (hP : P = Try.prog) (t : Top) (q : Qk) (hs : t.links.length ≤ 11) (hn : validT t = true → t.nodes ≤ 8) : Ret P n_kpaths_Shortest [topA t, boolsA q.down, iA q.s, iA q.d, iA q.k, iA q.most] (.tup [rwsA (shS t q).1, iA (shS t q).2]) :=
 shortest_ok P hP t q.down q.s q.d q.k q.most _ hs hn fun hv h1 h2 h3 => quickS_srt hv h1 (hn hv) h3 h2
theorem lshort_ok (P : Program) (hP : P = Try.prog) (t : Top) (q : Qk) (hs : t.links.length ≤ 11) (hn : validT t = true → t.nodes ≤ 8) (hd : q.down.length ≤ 40) : Ret P n_law14_shortest [topA t, qkA q] (.tup [rwsA (shS t q).1, iA (shS t q).2]) := by
 have hsh := shortest_q P hP t q hs hn
 refine ret_start (hP ▸ mixed) (hP ▸ fn_law14_shortest) (hP ▸ c_law14_shortest) (Nat.le_of_ble_eq_true rfl) fun Λ Λo K hK => ?_
 clear hP
 generalize shS t q = r at *
 obtain ⟨l, e⟩ := r
 obtain ⟨dn, s, d, k, most⟩ := q
 simp only [topA, qkA, rwsA, intsA, intsD, boolsA, boolsD, linksD] at *
 generalize l.map encRow = ll at *
 generalize t.ov.map encB = ovl at *
 generalize t.links.map encLk = lkl at *
 obtain ⟨pl, hpth⟩ : ∃ x, x = dn.map encB := ⟨_, rfl⟩
 have hpll : pl.length = dn.length := by rw [hpth]; simp
 have pln : Λ pl = dn.length := by rw [Λo, hpll]
 obtain ⟨np, hnp⟩ : ∃ x, x = dn.length := ⟨_, rfl⟩
 rw [← hpth] at hsh ⊢
 generalize t.nodes = nodes at *
 have hnpl : np = pl.length := by omega
 conv => cbv
 repeat' first | (intro (_ : Unit); show (0 + pl.length) * 1 ≤ _; omega) | (intro (m : Nat) (r : Bool) (y : List (List D)) hm2 hr2 hy2; refine (fun (hz : np = m) (hz2 : pl = y) => ?_) (by rw [hm2]; show np = 0 + pl.length; omega) (by rw [hy2]; try rfl); subst hz hz2; (conv => cbv)) | exact gu | exact trivial | refine And.intro ?_ ?_ | (intro hc; exact absurd hc (by decide)) | (intro hc; exfalso; omega) | (intro hc; (first | rw [wrap_small (by omega) (by omega)] at hc | rw [nI_eq] at hc | skip); try (conv => cbv))
 (refine call_z 2 (1) 1 np rfl hnpl (by simp [okL, okA, okCs, okC, bq_lit]) (by first | (simp [okH, okB, okCs, okC]; done) | simp [okH, okB, okCs, okC, bq_lit]) ?_; simp only [zL, zA, zCs, zC, zH, zB, bq_self, bq_old]; conv => cbv)
 repeat' first | (refine call_r hsh rfl rfl ?_; conv => cbv) | exact gu | exact trivial | refine And.intro ?_ ?_ | (intro hc; exact absurd hc (by decide)) | (intro hc; exfalso; omega) | (intro hc; (first | rw [wrap_small (by omega) (by omega)] at hc | rw [nI_eq] at hc | skip); try (conv => cbv))
 exact hK
def rlinks : List Lk := [⟨0, 1, 1, 1, 0, 1, 0⟩, ⟨1, 2, 1, 1, 0, 2, 0⟩, ⟨2, 3, 1, 1, 0, 3, 0⟩, ⟨3, 0, 1, 1, 0, 4, 0⟩]
def ring14 : Top := ⟨4, [], rlinks⟩
theorem ring_ok (P : Program) (hP : P = Try.prog) : Ret P n_law14_ring [] (topA ring14) := by
 refine ret_start (hP ▸ mixed) (hP ▸ fn_law14_ring) (hP ▸ c_law14_ring) (Nat.le_of_ble_eq_true rfl) fun Λ Λo K hK => ?_
 clear hP
 conv => cbv
 repeat' first | exact gu | exact trivial | refine And.intro ?_ ?_ | (intro hc; exact absurd hc (by decide)) | (intro hc; exfalso; omega) | (intro hc; (first | rw [wrap_small (by omega) (by omega)] at hc | rw [nI_eq] at hc | skip); try (conv => cbv))
 refine loop_up 4 (fun (s : Nat × Int) => [(0, .c (.ptr 0 0 0 0)), (1, .c (.ptr 1 0 0 0)), (2, iA s.2)])
  (fun s => match s.1 with
   | 0 => [.bx [.d (iD 0), .d (.list true 1 []), .d (.list true 7 [])], .bx [.d (iD 4), .d (.list true 1 []), .d (.list true 7 [])]]
   | n + 1 => [.bx [.d (iD 0), .d (.list true 1 []), .d (.list true 7 [])], .bx [.d (iD 4), .d (.list true 1 []), .arr 3 n 0 (n + 1)], .da true 0 7 [encLk ⟨0, 1, 1, 1, 0, 1, 0⟩], .da true n 7 ((rlinks.take (n + 1)).map encLk)])
  (fun k s => s.1 = k ∧ (s = (0, 0) ∨ s = (1, 1) ∨ s = (2, 2) ∨ s = (3, 3) ∨ s = (4, 4))) (0, 0) (Wk.cw) ⟨rfl, .inl rfl⟩ (fun k s h => by obtain ⟨h1, h | h | h | h | h⟩ := h <;> rw [h] at h1 <;> simp only at h1 <;> omega) ?_
 rintro k s Q' ⟨hk, hs⟩ norm ex rt
 rcases hs with rfl | rfl | rfl | rfl | rfl <;> (simp only at hk; subst hk)
 all_goals
  conv => cbv
  repeat' first | (intro (m : Nat) (r : Bool) (y : List (List D)) hm2 hr2 hy2; subst hm2 hr2 hy2; (conv => cbv)) | (intro (x : Int) hx; refine (fun (hz : (0 : Int) = x) => ?_) (by rw [hx]; decide); subst hz; (conv => cbv)) | (intro (x : Int) hx; refine (fun (hz : (1 : Int) = x) => ?_) (by rw [hx]; decide); subst hz; (conv => cbv)) | (intro (x : Int) hx; refine (fun (hz : (2 : Int) = x) => ?_) (by rw [hx]; decide); subst hz; (conv => cbv)) | (intro (x : Int) hx; refine (fun (hz : (3 : Int) = x) => ?_) (by rw [hx]; decide); subst hz; (conv => cbv)) | (intro (x : Int) hx; refine (fun (hz : (4 : Int) = x) => ?_) (by rw [hx]; decide); subst hz; (conv => cbv)) | exact gu | exact trivial | refine And.intro ?_ ?_ | (intro hc; exact absurd hc (by decide)) | (intro hc; exfalso; omega) | (intro hc; (first | rw [wrap_small (by omega) (by omega)] at hc | rw [nI_eq] at hc | skip); try (conv => cbv))
 ·exact norm _ _ (1, 1) ⟨rfl, .inr (.inl rfl)⟩ (Wk.cw)
 ·exact norm _ _ (2, 2) ⟨rfl, .inr (.inr (.inl rfl))⟩ (Wk.cw)
 ·exact norm _ _ (3, 3) ⟨rfl, .inr (.inr (.inr (.inl rfl)))⟩ (Wk.cw)
 ·exact norm _ _ (4, 4) ⟨rfl, .inr (.inr (.inr (.inr rfl)))⟩ (Wk.cw)
 ·refine ex _ _ _ ?_
  conv => cbv
  repeat' first | (intro (x : List (List D)) hx; subst hx; (conv => cbv)) | exact gu | exact trivial | refine And.intro ?_ ?_ | (intro hc; exact absurd hc (by decide)) | (intro hc; exfalso; omega) | (intro hc; (first | rw [wrap_small (by omega) (by omega)] at hc | rw [nI_eq] at hc | skip); try (conv => cbv))
  exact hK
theorem quick_r0 : quickS ring14 [] 0 2 0 = [[0, 2], [7, 5]] := by decide +kernel
theorem quick_r4 : quickS ring14 [] 0 2 4 = [[0, 2]] := by decide +kernel
theorem awake_ok (P : Program) (hP : P = Try.prog) : Ret P n_law14_awake [] (bA true) := by
 have hr := ring_ok P hP
 have h1 := shortest_q P hP ring14 ⟨[], 0, 2, 5, 0⟩ (by decide) (by decide)
 have h2 := shortest_q P hP ring14 ⟨[], 0, 2, 5, 4⟩ (by decide) (by decide)
 have h3 := delay_ok P hP ring14 [7, 5] (by decide) (by decide)
 obtain ⟨l0, hl0⟩ : ∃ x : List (List Int), x = [[0, 2], [7, 5]] := ⟨_, rfl⟩
 have h4 := rsame_ok P hP l0 [[0, 2], [7, 5]] (by rw [hl0]; decide) (by decide)
 have h5 := compare_ok P hP ring14 [0, 2] [7, 5] (by decide) (by decide) (by decide)
 have e1 : shS ring14 ⟨[], 0, 2, 5, 0⟩ = ([[0, 2], [7, 5]], 0) := by
  rw [shS, shortV, if_neg (by decide), if_neg (by decide), quick_r0]; rfl
 have e2 : shS ring14 ⟨[], 0, 2, 5, 4⟩ = ([[0, 2]], 0) := by
  rw [shS, shortV, if_neg (by decide), if_neg (by decide), quick_r4]; rfl
 have e3 : delS ring14 [7, 5] = (7, 0) := by decide
 have e5 : ordS (cst ring14 [0, 2]) (cst ring14 [7, 5]) [0, 2] [7, 5] = -1 := by decide
 rw [e1] at h1
 rw [e2] at h2
 rw [e3] at h3
 rw [e5] at h5
 rw [decide_eq_true hl0] at h4
 rw [← hl0] at h1
 obtain ⟨l4, hl4⟩ : ∃ x : List (List Int), x = [[0, 2]] := ⟨_, rfl⟩
 rw [← hl4] at h2
 have hx4 : (l4.map encRow).length = 1 := by rw [hl4]; rfl
 have hx0 : (l0.map encRow)[0]? = some [.list false 1 [[iD 0], [iD 2]]] := by rw [hl0]; rfl
 have hx1 : (l0.map encRow)[1]? = some [.list false 1 [[iD 7], [iD 5]]] := by rw [hl0]; rfl
 have hxl : (l0.map encRow).length = 2 := by rw [hl0]; rfl
 clear e1 e2 e3 e5
 refine ret_start (hP ▸ mixed) (hP ▸ fn_law14_awake) (hP ▸ c_law14_awake) (Nat.le_of_ble_eq_true rfl) fun Λ Λo K hK => ?_
 clear hP
 have hro : topA ring14 = .agg [.d (iD 4), .d (.list false 1 []), .d (.list false 7 [[iD 0, iD 1, iD 1, iD 1, iD 0, iD 1, iD 0], [iD 1, iD 2, iD 1, iD 1, iD 0, iD 2, iD 0], [iD 2, iD 3, iD 1, iD 1, iD 0, iD 3, iD 0], [iD 3, iD 0, iD 1, iD 1, iD 0, iD 4, iD 0]])] := rfl
 rw [hro] at hr h1 h2 h3 h5
 clear hro
 simp only [rwsA] at *
 generalize l0.map encRow = ll at *
 generalize l4.map encRow = ll4 at *
 have hxn4 : Λ ll4 = 1 := by rw [Λo, hx4]; rfl
 have hxn : Λ ll = 2 := by rw [Λo, hxl]; rfl
 simp only [encRow, intsA, intsD, boolsA, boolsD, encI, List.map_cons, List.map_nil] at *
 conv => cbv
 repeat' first | (refine call_r hr rfl rfl ?_; conv => cbv) | (refine call_r h1 rfl rfl ?_; conv => cbv) | (refine call_r h2 rfl rfl ?_; conv => cbv) | (refine call_r h3 rfl rfl ?_; conv => cbv) | exact gu | exact trivial | refine And.intro ?_ ?_ | (intro hc; exact absurd hc (by decide)) | (intro hc; exfalso; omega) | (intro hc; (first | rw [wrap_small (by omega) (by omega)] at hc | rw [nI_eq] at hc | skip); try (conv => cbv))
 (refine call_z 0 (0) 1 2 rfl rfl (by simp [okL, okA, okCs, okC, bq_lit]) (by first | (simp [okH, okB, okCs, okC]; done) | simp [okH, okB, okCs, okC, bq_lit]) ?_; simp only [zL, zA, zCs, zC, zH, zB, bq_self, bq_old]; conv => cbv)
 repeat' first | (intro (e : List D) he; cases Option.some.inj (he.symm.trans hx0); (conv => cbv)) | (intro (e : List D) he; cases Option.some.inj (he.symm.trans hx1); (conv => cbv)) | (refine call_r hr rfl rfl ?_; conv => cbv) | (refine call_r h4 rfl rfl ?_; conv => cbv) | (refine call_r h5 rfl rfl ?_; conv => cbv) | exact gu | exact trivial | refine And.intro ?_ ?_ | (intro hc; exact absurd hc (by decide)) | (intro hc; exfalso; omega) | (intro hc; (first | rw [wrap_small (by omega) (by omega)] at hc | rw [nI_eq] at hc | skip); try (conv => cbv))
 exact hK
end Go.Ab

/-
  Chapter 14: laws Shortest, Prefix and Compare.
-/
namespace Go.Ab
open Go.Proofs
theorem shS_len (t : Top) (q : Qk) : (shS t q).1.length ≤ 16 := by
 unfold shS shortV
 split
 ·simp
 ·rename_i h
  have h := Classical.not_not.1 h
  split
  ·simp
  ·split
   ·simp
   ·simp only [List.length_take]; omega
end Go.Ab

/-
  Chapter 14: law Delay.
-/
namespace Go.Ab
open Go.Proofs
theorem good_del {t : Top} {down : List Bool} {s d most : Int} {p : List Int} (hv : validT t = true) (h : GoodP t down s d most p) : delS t p = ((p.map fun a => (lkAt t a).dl).sum, 0) := by
 rw [delS, if_pos hv, if_pos fun a ha => ?_]
 obtain ⟨p1, p2, e⟩ := List.append_of_mem ha
 exact (h.st p1 a p2 e).1
theorem shS_mem {t : Top} {q : Qk} (hN8 : validT t = true → t.nodes ≤ 8) {p : List Int} (h : p ∈ (shS t q).1) : validT t = true ∧ (0 ≤ q.s ∧ q.s < t.nodes) ∧ GoodP t q.down q.s q.d q.most p := by
 unfold shS shortV at h
 split at h
 ·cases h
 ·rename_i h1
  have h1 := Classical.not_not.1 h1
  split at h
  ·cases h
  ·rename_i h2
   have h2 := Classical.not_not.1 h2
   split at h
   ·cases h
   ·have hm := List.mem_of_mem_take h
    exact ⟨h1.1, h2.1, ((quickS_srt h1.1 h1.2.1 (hN8 h1.1) h2.1 h1.2.2.2.2).mem p).1 hm⟩
theorem shS_plen {t : Top} {q : Qk} (hN8 : validT t = true → t.nodes ≤ 8) {p : List Int} (h : p ∈ (shS t q).1) : p.length ≤ 7 := by
 obtain ⟨h1, h2, h3⟩ := shS_mem hN8 h
 have := good_len h3 h1 h2
 have := hN8 h1
 omega
end Go.Ab

/-
  Chapter 14: law Order.
-/
namespace Go.Ab
open Go.Proofs
theorem path_good (P : Program) (hP : P = Try.prog) (t : Top) (down : List Bool) (s d most : Int) (p : List Int) (hv : validT t = true) (hs : 0 ≤ s ∧ s < t.nodes) (hp : p.length ≤ 1000) (hg : GoodP t down s d most p) :
    Ret P n_ref09_Path [topA t, iA s, intsA p] (.tup [iA d, iA (costP t p), iA 0]) := by
  have hva := valid_ok P hP t
  have har := arcs_ok P hP t
  have htl := fun a => tail_ok P hP t a
  have hhd := fun a => head_ok P hP t a
  have hov := fun n => overloaded_ok P hP t n
  have hco := fun a => cost_ok P hP t a
  refine ret_start (hP ▸ mixed) (hP ▸ fn_ref09_Path) (hP ▸ c_ref09_Path) (Nat.le_of_ble_eq_true rfl) fun Λ Λo K hK => ?_
  clear hP
  rw [hv] at hva
  rw [arcsT, if_pos hv] at har
  have hst : ∀ (k : Nat) (a : Int), p[k]? = some a → (0 ≤ a ∧ a < 2 * t.links.length) ∧ tailT t a = endN (headG t) s (p.take k) ∧ headT t a = headG t a ∧ (k ≠ 0 → ovT t (endN (headG t) s (p.take k)) = false) ∧ (1 ≤ costT t a ∧ costT t a ≤ 65535) := fun k a ha => by
    have hk := get_lt ha
    have e : p = p.take k ++ a :: p.drop (k + 1) := by
      have h1 := List.drop_eq_getElem_cons hk
      rw [List.getElem?_eq_getElem hk] at ha
      rw [Option.some.inj ha] at h1
      rw [← h1, List.take_append_drop]
    obtain ⟨k1, k2, k3, k4⟩ := hg.st _ _ _ e
    refine ⟨k1, by rw [tailT_valid hv k1.1 k1.2]; exact k2, headT_valid' hv k1.1 k1.2, fun h0 => k4 fun hn => ?_, cost_rg hv k1.1 k1.2⟩
    have := congrArg List.length hn
    rw [List.length_take, List.length_nil] at this
    omega
  have hend := hg.en
  have hcs : ∀ (k : Nat) (a : Int), p[k]? = some a → ((p.take (k + 1)).map (costT t)).sum = ((p.take k).map (costT t)).sum + costT t a := fun k a ha => by rw [take_succ_get ha]; simp
  have hen : ∀ (k : Nat) (a : Int), p[k]? = some a → endN (headG t) s (p.take (k + 1)) = headG t a := fun k a ha => by rw [take_succ_get ha, endN_app]; rfl
  have hcp : costP t p = (p.map (costT t)).sum := rfl
  rw [hcp] at hK
  clear hcp hg
  obtain ⟨M, hM⟩ : ∃ M : Int, M = 2 * t.links.length := ⟨_, rfl⟩
  rw [← hM] at har hst
  have hML : 0 ≤ M := by omega
  clear hM
  simp only [topA, intsA, intsD, boolsD, linksD] at *
  generalize t.ov.map encB = ovl at *
  generalize t.links.map encLk = lkl at *
  generalize t.nodes = nodes at *
  generalize plh : List.map encI p = pl at *
  have pln : Λ pl = p.length := by rw [Λo, ← plh]; simp
  conv => cbv
  repeat' first | (refine call_r hva rfl rfl ?_; conv => cbv) | exact gu | exact trivial | refine And.intro ?_ ?_ | (intro hc; exact absurd hc (by decide)) | (intro hc; exfalso; omega) | (intro hc; (first | rw [wrap_small (by omega) (by omega)] at hc | rw [nI_eq] at hc | skip); try (conv => cbv))
  refine loop_up p.length (fun (s : Int × Int × Int) => [(1, iA s.1), (2, .c (.d (.list false 1 pl))), (3, .c (.ptr 0 0 0 0)), (6, iA 0), (7, iA 0), (8, iA 0), (9, iA s.2.1), (10, iA s.2.2)])
    (fun _ => [.bx [.d (iD nodes), .d (.list false 1 ovl), .d (.list false 7 lkl)]])
    (fun k x => x.2.2 = k ∧ k ≤ p.length ∧ x.1 = endN (headG t) s (p.take k) ∧ x.2.1 = ((p.take k).map (costT t)).sum ∧ 0 ≤ x.2.1 ∧ x.2.1 ≤ 65535 * k) (s, 0, 0) (Wk.cw) ⟨rfl, by omega, by simp [endN], by simp, by simp, by simp⟩ (fun k s h => h.2.1) ?_
  rintro k ⟨n, c, i⟩ Q' ⟨hi, hk, hn, hc, hc0, hc1⟩ norm ex rt
  simp only at hi hn hc hc0 hc1
  by_cases hlt : k < p.length
  · obtain ⟨x, hx⟩ : ∃ x, p[k]? = some x := ⟨_, List.getElem?_eq_getElem hlt⟩
    have hxa := elt_at plh hi hx
    obtain ⟨x1, x2, x3, x4, x5⟩ := hst k x hx
    rw [← hn] at x2 x4
    have htx := htl x
    have hhx := hhd x
    have hcx := hco x
    have hon := hov n
    rw [x2] at htx
    rw [x3] at hhx
    have he1 := hen k x hx
    have hc2 := hcs k x hx
    rw [← hc] at hc2
    generalize headG t x = hdx at *
    generalize costT t x = cx at *
    by_cases hk0 : k = 0
    · have hi0 : i = 0 := by omega
      conv => cbv
      repeat' first | (intro e he; cases Option.some.inj (he.symm.trans hxa); (conv => cbv)) | (refine call_r har rfl rfl ?_; conv => cbv) | (refine call_r htx rfl rfl ?_; conv => cbv) | (refine call_r hhx rfl rfl ?_; conv => cbv) | (refine call_r hcx rfl rfl ?_; conv => cbv) | exact gu | exact trivial | refine And.intro ?_ ?_ | (intro hc; exact absurd hc (by decide)) | (intro hc; exfalso; omega) | (intro hc; (first | rw [wrap_small (by omega) (by omega)] at hc | rw [nI_eq] at hc | skip); try (conv => cbv))
      all_goals first
        | (exfalso; omega)
        | (refine norm _ _ (hdx, _, _) ?_ (Wk.cw)
           exact ⟨by simp only; omega, by omega, he1.symm, by simp only; rw [hc2]; omega, by simp only; omega, by simp only; omega⟩)
    · rw [x4 hk0] at hon
      conv => cbv
      repeat' first | (intro e he; cases Option.some.inj (he.symm.trans hxa); (conv => cbv)) | (refine call_r har rfl rfl ?_; conv => cbv) | (refine call_r htx rfl rfl ?_; conv => cbv) | (refine call_r hhx rfl rfl ?_; conv => cbv) | (refine call_r hcx rfl rfl ?_; conv => cbv) | (refine call_r hon rfl rfl ?_; conv => cbv) | exact gu | exact trivial | refine And.intro ?_ ?_ | (intro hc; exact absurd hc (by decide)) | (intro hc; exfalso; omega) | (intro hc; (first | rw [wrap_small (by omega) (by omega)] at hc | rw [nI_eq] at hc | skip); try (conv => cbv))
      all_goals first
        | (exfalso; omega)
        | (refine norm _ _ (hdx, _, _) ?_ (Wk.cw)
           exact ⟨by simp only; omega, by omega, he1.symm, by simp only; rw [hc2]; omega, by simp only; omega, by simp only; omega⟩)
  · rw [List.take_of_length_le (by omega)] at hn hc
    rw [hend] at hn
    rw [← hn, ← hc] at hK
    conv => cbv
    repeat' first | exact gu | exact trivial | refine And.intro ?_ ?_ | (intro hc; exact absurd hc (by decide)) | (intro hc; exfalso; omega) | (intro hc; (first | rw [wrap_small (by omega) (by omega)] at hc | rw [nI_eq] at hc | skip); try (conv => cbv))
    refine ex _ _ _ ?_
    conv => cbv
    repeat' first | exact gu | exact trivial | refine And.intro ?_ ?_ | (intro hc; exact absurd hc (by decide)) | (intro hc; exfalso; omega) | (intro hc; (first | rw [wrap_small (by omega) (by omega)] at hc | rw [nI_eq] at hc | skip); try (conv => cbv))
    exact hK
theorem loopless_good (P : Program) (hP : P = Try.prog) (t : Top) (down : List Bool) (s d most : Int) (p : List Int) (hv : validT t = true) (hN8 : t.nodes ≤ 8) (hdn : down.length = 0 ∨ down.length = 2 * t.links.length) (hs : 0 ≤ s ∧ s < t.nodes) (hp : p.length ≤ 1000) (hg : GoodP t down s d most p) :
  Ret P n_ref14_Loopless [topA t, boolsA down, iA s, iA d, intsA p] (bA true) := by
 have hpa := path_good P hP t down s d most p hv hs hp hg
 have hhd := fun a => head_ok P hP t a
 have hdo := fun a => rdown_ok P hP down a
 refine ret_start (hP ▸ mixed) (hP ▸ fn_ref14_Loopless) (hP ▸ c_ref14_Loopless) (Nat.le_of_ble_eq_true rfl) fun Λ Λo K hK => ?_
 clear hP
 have hst : ∀ (k : Nat) (a : Int), p[k]? = some a → headT t a = headG t a ∧ (0 ≤ headG t a ∧ headG t a < t.nodes) ∧ dnB down a = false ∧ headG t a ≠ s ∧ headG t a ∉ (p.take k).map (headG t) := fun k a ha => by
  have hk := get_lt ha
  have e : p = p.take k ++ a :: p.drop (k + 1) := by
   have h1 := List.drop_eq_getElem_cons hk
   rw [List.getElem?_eq_getElem hk] at ha
   rw [Option.some.inj ha] at h1
   rw [← h1, List.take_append_drop]
  obtain ⟨k1, k2, k3, k4⟩ := hg.st _ _ _ e
  have hnd := hg.nd
  rw [e, List.map_append, List.map_cons, ← List.cons_append, List.nodup_append] at hnd
  have hno : ¬ headG t a ∈ s :: (p.take k).map (headG t) := fun h => hnd.2.2 (headG t a) h (headG t a) (by simp) rfl
  rw [List.mem_cons, not_or] at hno
  exact ⟨headT_valid' hv k1.1 k1.2, head_rg hv k1.1 k1.2, by rw [dnB_up k1.1 (by omega), k3]; rfl, hno.1, hno.2⟩
 obtain ⟨nN, hnN⟩ : ∃ n : Nat, (n : Int) = t.nodes := ⟨t.nodes.toNat, by omega⟩
 obtain ⟨e0, he0⟩ : ∃ x : List (List D), x = (List.replicate nN false).map encB := ⟨_, rfl⟩
 obtain ⟨sj, hsj⟩ : ∃ j : Nat, (j : Int) = s := ⟨s.toNat, by omega⟩
 obtain ⟨e1, he1⟩ : ∃ x, x = e0.set sj [.bool true] := ⟨_, rfl⟩
 have he12 : e1 = ((List.replicate nN false).set sj true).map encB := by rw [he1, he0, List.map_set]; rfl
 have he0l : e0.length = nN := by rw [he0]; simp
 have hea : e0[sj]? = some [.bool false] := by rw [he0, List.getElem?_map, List.getElem?_replicate, if_pos (by omega)]; rfl
 have hmo : ∀ (k : Nat) (a : Int), p[k]? = some a → (p.take (k + 1)).map (headG t) = (p.take k).map (headG t) ++ [headG t a] := fun k a ha => by rw [take_succ_get ha]; simp
 clear hg
 generalize costP t p = cp at *
 simp only [topA, intsA, intsD, boolsA, boolsD, linksD] at *
 generalize t.ov.map encB = ovl at *
 generalize t.links.map encLk = lkl at *
 generalize down.map encB = dwl at *
 generalize t.nodes = nodes at *
 generalize plh : List.map encI p = pl at *
 have pln : Λ pl = p.length := by rw [Λo, ← plh]; simp
 conv => cbv
 repeat' first | (refine call_r hpa rfl rfl ?_; conv => cbv) | (intro (m : Nat) (y : List (List D)) hm2 hy2; refine (fun (hz : nN = m) (hz2 : e0 = y) => ?_) (by omega) (by rw [hy2, he0, List.map_replicate]; congr 1; omega); subst hz hz2; (conv => cbv)) | (intro (k : Nat) hk; refine (fun (hz : sj = k) => ?_) ?_; rotate_left; omega; subst hz; (conv => cbv)) | (intro (e : List D) he; cases Option.some.inj (he.symm.trans hea); (conv => cbv)) | (intro (x : List (List D)) (hx : x = e0.set sj [.bool true]); refine (fun (hz : e1 = x) => ?_) (he1.trans hx.symm); subst hz; (conv => cbv)) | exact gu | exact trivial | refine And.intro ?_ ?_ | (intro hc; exact absurd hc (by decide)) | (intro hc; exfalso; omega) | (intro hc; (first | rw [wrap_small (by omega) (by omega)] at hc | rw [nI_eq] at hc | skip); try (conv => cbv))
 all_goals try (exfalso; omega)
 refine loop_up p.length (fun (x : List Bool × Int) => [(1, .c (.d (.list false 1 dwl))), (4, .c (.d (.list false 1 pl))), (5, .c (.ptr 0 0 0 0)), (10, bA false), (14, .c (.arr 1 0 0 nN)), (15, iA x.2)])
  (fun x => [.bx [.d (iD nodes), .d (.list false 1 ovl), .d (.list false 7 lkl)], .da true 0 1 (x.1.map encB)])
  (fun k x => x.2 = k ∧ k ≤ p.length ∧ x.1.length = nN ∧ ∀ v : Int, 0 ≤ v → v < nN → (x.1[v.toNat]? = some true ↔ v = s ∨ v ∈ (p.take k).map (headG t))) ((List.replicate nN false).set sj true, 0) (by rw [← he12]; exact (Wk.ca)) ⟨rfl, by omega, by simp, fun v h0 h1 => by
   rw [List.getElem?_set]
   by_cases h2 : sj = v.toNat
   ·rw [if_pos h2, if_pos (by simp; omega)]; simp; omega
   ·rw [if_neg h2, List.getElem?_replicate, if_pos (by omega)]; simp; omega⟩ (fun k s h => h.2.1) ?_
 clear he1 he12 hea he0 he0l
 rintro k ⟨sn, i⟩ Q' ⟨hi, hk, hsl, hsn⟩ norm ex rt
 simp only at hi hsl hsn
 by_cases hlt : k < p.length
 ·obtain ⟨x, hx⟩ : ∃ x, p[k]? = some x := ⟨_, List.getElem?_eq_getElem hlt⟩
  have hxa := elt_at plh hi hx
  obtain ⟨x1, x2, x3, x4, x5⟩ := hst k x hx
  have hhx := hhd x
  rw [x1] at hhx
  have hdx := hdo x
  rw [x3] at hdx
  have hmx := hmo k x hx
  generalize headG t x = hdx2 at *
  obtain ⟨hj, hhj⟩ : ∃ j : Nat, (j : Int) = hdx2 := ⟨hdx2.toNat, by omega⟩
  obtain ⟨es, hes⟩ : ∃ y, y = sn.map encB := ⟨_, rfl⟩
  have hesl : es.length = nN := by rw [hes, List.length_map, hsl]
  have hb : sn[hj]? = some false := by
   have h1 : sn[hj]? = some (sn[hj]'(by omega)) := List.getElem?_eq_getElem _
   rw [h1]
   cases hb : sn[hj]'(by omega) with
   | false => rfl
   | true =>
    rw [hb] at h1
    have := (hsn hdx2 (by omega) (by omega)).1 (by rw [show hdx2.toNat = hj by omega]; exact h1)
    rcases this with h | h
    ·exact absurd h x4
    ·exact absurd h x5
  have hja : es[hj]? = some [.bool false] := by rw [hes, List.getElem?_map, hb]; rfl
  obtain ⟨es2, hes2⟩ : ∃ y, y = es.set hj [.bool true] := ⟨_, rfl⟩
  have hes3 : es2 = (sn.set hj true).map encB := by rw [hes2, hes, List.map_set]; rfl
  simp only
  rw [← hes]
  conv => cbv
  repeat' first | (intro (k : Nat) hk; refine (fun (hz : hj = k) => ?_) ?_; rotate_left; omega; subst hz; (conv => cbv)) | (intro e he; cases Option.some.inj (he.symm.trans hxa); (conv => cbv)) | (intro (e : List D) he; cases Option.some.inj (he.symm.trans hja); (conv => cbv)) | (refine call_r hhx rfl rfl ?_; conv => cbv) | (refine call_r hdx rfl rfl ?_; conv => cbv) | (intro (x : List (List D)) (hx : x = es.set hj [.bool true]); refine (fun (hz : es2 = x) => ?_) (hes2.trans hx.symm); subst hz; (conv => cbv)) | exact gu | exact trivial | refine And.intro ?_ ?_ | (intro hc; exact absurd hc (by decide)) | (intro hc; exfalso; omega) | (intro hc; (first | rw [wrap_small (by omega) (by omega)] at hc | rw [nI_eq] at hc | skip); try (conv => cbv))
  refine norm _ _ (sn.set hj true, _) ?_ (by simp only; rw [← hes3]; exact (Wk.ca))
  refine ⟨by simp only; omega, by omega, by simp only [List.length_set]; exact hsl, fun v h0 h1 => ?_⟩
  simp only
  rw [hmx, List.getElem?_set, List.mem_append, List.mem_singleton]
  by_cases h2 : hj = v.toNat
  ·rw [if_pos h2, if_pos (by omega)]
   have h3 : v = hdx2 := by omega
   simp [h3]
  ·rw [if_neg h2, hsn v h0 h1]
   have h3 : ¬ v = hdx2 := by omega
   simp [h3]
 ·conv => cbv
  repeat' first | exact gu | exact trivial | refine And.intro ?_ ?_ | (intro hc; exact absurd hc (by decide)) | (intro hc; exfalso; omega) | (intro hc; (first | rw [wrap_small (by omega) (by omega)] at hc | rw [nI_eq] at hc | skip); try (conv => cbv))
  refine ex _ _ _ ?_
  conv => cbv
  repeat' first | exact gu | exact trivial | refine And.intro ?_ ?_ | (intro hc; exact absurd hc (by decide)) | (intro hc; exfalso; omega) | (intro hc; (first | rw [wrap_small (by omega) (by omega)] at hc | rw [nI_eq] at hc | skip); try (conv => cbv))
  exact hK
theorem shS_zero {t : Top} {q : Qk} (h : (shS t q).2 ≠ 0) : (shS t q).1 = [] := by
 unfold shS shortV at *
 split at h <;> rename_i h1
 ·rw [if_pos h1]
 ·rw [if_neg h1]
  split at h <;> rename_i h2
  ·rw [if_pos h2]
  ·rw [if_neg h2]
   split at h <;> rename_i h3
   ·rw [if_pos h3]
   ·exact absurd rfl h
theorem shS_ok {t : Top} {q : Qk} (hN8 : validT t = true → t.nodes ≤ 8) (h : (shS t q).2 = 0) : validT t = true ∧ (q.down.length = 0 ∨ q.down.length = 2 * t.links.length) ∧ (1 ≤ q.k ∧ q.k ≤ 16 ∧ 0 ≤ q.most) ∧ (0 ≤ q.s ∧ q.s < t.nodes) ∧ (shS t q).1 ≠ [] ∧ ((shS t q).1.length : Int) ≤ q.k ∧ (shS t q).1.Pairwise (ltP t) ∧ ∀ p ∈ (shS t q).1, GoodP t q.down q.s q.d q.most p := by
 have hmem := fun p hp => @shS_mem t q hN8 p hp
 unfold shS shortV at *
 split at h <;> rename_i h1
 ·cases h
 ·have h1 := Classical.not_not.1 h1
  rw [if_neg (not_not_intro h1)] at *
  split at h <;> rename_i h2
  ·cases h
  ·have h2 := Classical.not_not.1 h2
   rw [if_neg (not_not_intro h2)] at *
   split at h <;> rename_i h3
   ·cases h
   ·rw [if_neg h3] at *
    have hs := quickS_srt (d := q.d) h1.1 h1.2.1 (hN8 h1.1) h2.1 h1.2.2.2.2
    refine ⟨h1.1, h1.2.1, ⟨h1.2.2.1, h1.2.2.2.1, h1.2.2.2.2⟩, h2.1, fun e => ?_, ?_, hs.srt.sublist (List.take_sublist _ _), fun p hp => (hmem p hp).2.2⟩
    ·have := congrArg List.length e
     have h5 := List.length_pos_iff.2 h3
     rw [List.length_take, List.length_nil] at this
     omega
    ·simp only [List.length_take]; omega
set_option maxRecDepth 20000 in
set_option maxHeartbeats 4000000 in
theorem order_law (P : Program) (hP : P = Try.prog) (t : Top) (q : Qk) : Ret P n_law14_KpathsOrder [topA t, qkA q] (bA true) := by
  have haw := awake_ok P hP
  have hsm := small_ok P hP t q
  by_cases hs2 : smallK t q
  rotate_left
  · rw [decide_eq_false hs2] at hsm
    refine ret_start (hP ▸ mixed) (hP ▸ fn_law14_KpathsOrder) (hP ▸ c_law14_KpathsOrder) (Nat.le_of_ble_eq_true rfl) fun Λ Λo K hK => ?_
    clear hP
    obtain ⟨dn, s, d, k, most⟩ := q
    simp only [topA, qkA, rwsA, intsA, intsD, boolsA, boolsD, linksD] at *
    generalize t.ov.map encB = ovl at *
    generalize t.links.map encLk = lkl at *
    generalize dn.map encB = dwl at *
    generalize t.nodes = nodes at *
    conv => cbv
    repeat' first | (refine call_r haw rfl rfl ?_; conv => cbv) | (refine call_r hsm rfl rfl ?_; conv => cbv) | exact gu | exact trivial | refine And.intro ?_ ?_ | (intro hc; exact absurd hc (by decide)) | (intro hc; exfalso; omega) | (intro hc; (first | rw [wrap_small (by omega) (by omega)] at hc | rw [nI_eq] at hc | skip); try (conv => cbv))
    all_goals exact hK
  rw [decide_eq_true hs2] at hsm
  have h1 := lshort_ok P hP t q hs2.1 hs2.2.2.2 hs2.2.2.1
  by_cases he : (shS t q).2 = 0
  rotate_left
  · have hz := shS_zero he
    refine ret_start (hP ▸ mixed) (hP ▸ fn_law14_KpathsOrder) (hP ▸ c_law14_KpathsOrder) (Nat.le_of_ble_eq_true rfl) fun Λ Λo K hK => ?_
    clear hP hs2
    generalize shS t q = r at *
    obtain ⟨l, e⟩ := r
    simp only at he hz
    subst hz
    obtain ⟨dn, s, d, k, most⟩ := q
    simp only [topA, qkA, rwsA, intsA, intsD, boolsA, boolsD, linksD, List.map_nil] at *
    generalize t.ov.map encB = ovl at *
    generalize t.links.map encLk = lkl at *
    generalize dn.map encB = dwl at *
    generalize t.nodes = nodes at *
    have l0 : Λ [] = 0 := by rw [Λo]; rfl
    conv => cbv
    repeat' first | (refine call_r haw rfl rfl ?_; conv => cbv) | (refine call_r hsm rfl rfl ?_; conv => cbv) | (refine call_r h1 rfl rfl ?_; conv => cbv) | exact gu | exact trivial | refine And.intro ?_ ?_ | (intro hc; exact absurd hc (by decide)) | (intro hc; exfalso; omega) | (intro hc; (first | rw [wrap_small (by omega) (by omega)] at hc | rw [nI_eq] at hc | skip); try (conv => cbv))
    all_goals first | exact hK | (exfalso; omega)
  obtain ⟨hv, hdn, hk, hs, hne, hlk, hpw, hgd⟩ := shS_ok hs2.2.2.2 he
  have hN8 := hs2.2.2.2 hv
  have hL11 := hs2.1
  have hpl : ∀ p ∈ (shS t q).1, p.length ≤ 7 := fun p hp => shS_plen hs2.2.2.2 hp
  have hlo := fun p hp => loopless_good P hP t q.down q.s q.d q.most p hv hN8 hdn hs (by have := hpl p hp; omega) (hgd p hp)
  have hcm := fun a b ha hb => compare_ok P hP t a b (by omega) ha hb
  have hde := fun p hp => delay_ok P hP t p (by omega) hp
  have hdl : ∀ p ∈ (shS t q).1, delS t p = ((p.map fun a => (lkAt t a).dl).sum, 0) ∧ (0 < q.most → (p.map fun a => (lkAt t a).dl).sum ≤ q.most) := fun p hp => ⟨good_del hv (hgd p hp), (hgd p hp).de⟩
  have hor : ∀ (k : Nat) (a b : List Int), (shS t q).1[k]? = some a → (shS t q).1[k + 1]? = some b → ordS (cst t a) (cst t b) a b = -1 := fun k a b ha hb => by
    have h2 : ltP t a b := by
      rw [List.pairwise_iff_getElem] at hpw
      have i1 := get_lt ha
      have i2 := get_lt hb
      rw [List.getElem?_eq_getElem i1, Option.some.injEq] at ha
      rw [List.getElem?_eq_getElem i2, Option.some.injEq] at hb
      rw [← ha, ← hb]
      exact hpw k (k + 1) i1 i2 (by omega)
    unfold ltP at h2
    rw [← cst_good hv (hgd a (List.mem_of_getElem? ha)), ← cst_good hv (hgd b (List.mem_of_getElem? hb))] at h2
    have := ordS_rg (cst t a) (cst t b) a b
    omega
  have hlen := List.length_pos_iff.2 hne
  have l16 := shS_len t q
  refine ret_start (hP ▸ mixed) (hP ▸ fn_law14_KpathsOrder) (hP ▸ c_law14_KpathsOrder) (Nat.le_of_ble_eq_true rfl) fun Λ Λo K hK => ?_
  clear hP hs2 hpw hgd hne
  generalize shS t q = r at *
  obtain ⟨l, e⟩ := r
  simp only at he
  subst he
  obtain ⟨dn, s, d, k, most⟩ := q
  simp only at hlk hpl hlo hdl hor hlen l16 h1 hk
  have hlx : ∀ (k : Nat) (x : List Int), l[k]? = some x → (l.map encRow)[k]? = some [.list false 1 (x.map encI)] := fun k x hx => by rw [List.getElem?_map, hx]; rfl
  simp only [topA, qkA, rwsA, intsA, intsD, boolsA, boolsD, linksD] at *
  generalize hll : l.map encRow = ll at *
  have lln : Λ ll = l.length := by rw [Λo, ← hll]; simp
  generalize t.ov.map encB = ovl at *
  generalize t.links.map encLk = lkl at *
  generalize dn.map encB = dwl at *
  generalize t.nodes = nodes at *
  conv => cbv
  repeat' first | (refine call_r haw rfl rfl ?_; conv => cbv) | (refine call_r hsm rfl rfl ?_; conv => cbv) | (refine call_r h1 rfl rfl ?_; conv => cbv) | exact gu | exact trivial | refine And.intro ?_ ?_ | (intro hc; exact absurd hc (by decide)) | (intro hc; exfalso; omega) | (intro hc; (first | rw [wrap_small (by omega) (by omega)] at hc | rw [nI_eq] at hc | skip); try (conv => cbv))
  all_goals try (exfalso; omega)
  refine loop_up l.length (fun (i : Int) => [(2, .c (.ptr 0 0 0 0)), (3, .c (.ptr 1 0 0 0)), (4, bA false), (5, .c (.d (.list false 1 ll))), (7, iA i)])
    (fun _ => [.bx [.d (iD nodes), .d (.list false 1 ovl), .d (.list false 7 lkl)], .bx [.d (.list false 1 dwl), .d (iD s), .d (iD d), .d (iD k), .d (iD most)]])
    (fun j i => i = j ∧ j ≤ l.length) 0 (Wk.ca) ⟨rfl, by omega⟩ (fun k s h => h.2) ?_
  rintro j i Q' ⟨hi, hj⟩ norm ex rt
  by_cases hlt : j < l.length
  · obtain ⟨x, hx⟩ : ∃ x, l[j]? = some x := ⟨_, List.getElem?_eq_getElem hlt⟩
    have hxm := List.mem_of_getElem? hx
    have hxa := hlx j x hx
    have ij : i.toNat = j := by omega
    rw [← ij] at hxa
    have hlox := hlo x hxm
    have hdex := hde x (by have := hpl x hxm; omega)
    obtain ⟨d1, d2⟩ := hdl x hxm
    rw [d1] at hdex
    simp only at hdex
    generalize (x.map fun a => (lkAt t a).dl).sum = dx at *
    by_cases hj0 : j = 0
    · generalize x.map encI = xl at *
      conv => cbv
      repeat' first | (intro e he; cases Option.some.inj (he.symm.trans hxa); (conv => cbv)) | (refine call_r hlox rfl rfl ?_; conv => cbv) | (refine call_r hdex rfl rfl ?_; conv => cbv) | exact gu | exact trivial | refine And.intro ?_ ?_ | (intro hc; exact absurd hc (by decide)) | (intro hc; exfalso; omega) | (intro hc; (first | rw [wrap_small (by omega) (by omega)] at hc | rw [nI_eq] at hc | skip); try (conv => cbv))
      all_goals first
        | (exfalso; omega)
        | (refine norm _ _ _ ?_ (Wk.ca)
           exact ⟨by omega, by omega⟩)
    · obtain ⟨j1, hj1⟩ : ∃ j1, j = j1 + 1 := ⟨j - 1, by omega⟩
      obtain ⟨y, hy⟩ : ∃ y, l[j1]? = some y := ⟨_, List.getElem?_eq_getElem (by omega)⟩
      have hym := List.mem_of_getElem? hy
      have hya := hlx j1 y hy
      obtain ⟨i1, hi1⟩ : ∃ i1 : Int, i1 = i - 1 := ⟨_, rfl⟩
      have ij1 : i1.toNat = j1 := by omega
      rw [← ij1] at hya
      have hcx := hcm y x (by have := hpl y hym; omega) (by have := hpl x hxm; omega)
      rw [hor j1 y x hy (by rw [← hj1]; exact hx)] at hcx
      generalize x.map encI = xl at *
      generalize y.map encI = yl at *
      conv => cbv
      repeat' first | (intro (k : Int) hk; rw [wrap_small (by omega) (by omega)] at hk; refine (fun (hz : i1 = k) => ?_) ?_; rotate_left; omega; subst hz; (conv => cbv)) | (intro e he; cases Option.some.inj (he.symm.trans hxa); (conv => cbv)) | (intro e he; cases Option.some.inj (he.symm.trans hya); (conv => cbv)) | (refine call_r hlox rfl rfl ?_; conv => cbv) | (refine call_r hdex rfl rfl ?_; conv => cbv) | (refine call_r hcx rfl rfl ?_; conv => cbv) | exact gu | exact trivial | refine And.intro ?_ ?_ | (intro hc; exact absurd hc (by decide)) | (intro hc; exfalso; omega) | (intro hc; (first | rw [wrap_small (by omega) (by omega)] at hc | rw [nI_eq] at hc | skip); try (conv => cbv))
      all_goals first
        | (exfalso; omega)
        | (refine norm _ _ _ ?_ (Wk.ca)
           exact ⟨by omega, by omega⟩)
  · conv => cbv
    repeat' first | exact gu | exact trivial | refine And.intro ?_ ?_ | (intro hc; exact absurd hc (by decide)) | (intro hc; exfalso; omega) | (intro hc; (first | rw [wrap_small (by omega) (by omega)] at hc | rw [nI_eq] at hc | skip); try (conv => cbv))
    refine ex _ _ _ ?_
    conv => cbv
    repeat' first | exact gu | exact trivial | refine And.intro ?_ ?_ | (intro hc; exact absurd hc (by decide)) | (intro hc; exfalso; omega) | (intro hc; (first | rw [wrap_small (by omega) (by omega)] at hc | rw [nI_eq] at hc | skip); try (conv => cbv))
    exact hK
end Go.Ab

/-
  Chapter 14: what a row reads.
-/
namespace Go.Ab
open Go.Proofs Go.Proofs.Ytllgchplnhaplaa Go.ChangeShapes Go.WideShapes Go.ChangeAt Go.RowKit
def shKq : List Sh := [.list 1 [.bool], shI, shI, shI, shI]
def sizeKq (q : Qk) : Nat := q.down.length
theorem dec_kq {ds : List D} {n : Nat} (h : FitL shKq ds n) : ∃ c : Qk, qkA c = .agg (ds.map .d) ∧ sizeKq c ≤ n := by
 obtain ⟨d0, ds0, _, _, rfl, rfl, g0, h_0⟩ := h.un
 obtain ⟨down, rfl, w_down⟩ := g0.lm encB (fun _ => 1) dec_b
 rw [sum_one] at w_down
 obtain ⟨d1, ds1, _, _, rfl, rfl, g1, h_1⟩ := h_0.un
 obtain ⟨s, rfl, w_s⟩ := g1.i
 obtain ⟨d2, ds2, _, _, rfl, rfl, g2, h_2⟩ := h_1.un
 obtain ⟨d, rfl, w_d⟩ := g2.i
 obtain ⟨d3, ds3, _, _, rfl, rfl, g3, h_3⟩ := h_2.un
 obtain ⟨k, rfl, w_k⟩ := g3.i
 obtain ⟨d4, ds4, _, _, rfl, rfl, g4, h_4⟩ := h_3.un
 obtain ⟨most, rfl, w_most⟩ := g4.i
 rw [h_4.end]
 exact ⟨⟨down, s, d, k, most⟩, rfl, by simp only [sizeKq]; omega⟩
def sizeT (t : Top) : Nat := t.ov.length + t.links.length
theorem dec_top {ds : List D} {n : Nat} (h : FitL shTop ds n) : ∃ c : Top, topA c = .agg (ds.map .d) ∧ sizeT c ≤ n := by
 obtain ⟨d0, ds0, _, _, rfl, rfl, g0, h_0⟩ := h.un
 obtain ⟨nodes, rfl, w_nodes⟩ := g0.i
 obtain ⟨d1, ds1, _, _, rfl, rfl, g1, h_1⟩ := h_0.un
 obtain ⟨ov, rfl, w_ov⟩ := g1.lm encB (fun _ => 1) dec_b
 rw [sum_one] at w_ov
 obtain ⟨d2, ds2, _, _, rfl, rfl, g2, h_2⟩ := h_1.un
 obtain ⟨links, rfl, w_links⟩ := g2.lm encLk (fun _ => 1) dec_lk
 rw [sum_one] at w_links
 rw [h_2.end]
 exact ⟨⟨nodes, ov, links⟩, rfl, by simp only [sizeT]; omega⟩
end Go.Ab

