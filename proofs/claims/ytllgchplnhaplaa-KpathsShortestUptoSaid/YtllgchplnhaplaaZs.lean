/-
  Merged texts, part s.
-/
import Derived.Test.YtllgchplnhaplaaZr
/-
  The texts of the laws of the seat.
-/
namespace Go.Ab
open Go.Proofs
set_option maxRecDepth 100000
def af_law14_KpathsShortest : AF := (AF.mk 44 [(4, .none)] (.seq (Rg [(AO.mk (.some 2) (.box (.t 0)) .none),(AO.mk (.some 3) (.box (.t 1)) .none),(AO.mk (.some 4) (.mv (Kb .false)) .none)]) (.seq (.seq (Rg [(AO.mk (.some 9) (.call 10 []) .none),(AO.mk (.some 10) (.un .not (.t 9)) .none)]) (.cond (.t 10) (.seq (Rg [(AO.mk (.some 4) (.mv (Kb .false)) .none)]) .ret) .skip)) (.seq (.seq (Rg [(AO.mk (.some 11) (.ld (.t 2) (.some 3)) .none),(AO.mk (.some 12) (.ld (.t 3) (.some 5)) .none),(AO.mk (.some 13) (.call 11 [(.t 11),(.t 12)]) .none),(AO.mk (.some 14) (.un .not (.t 13)) .none)]) (.cond (.t 14) (.seq (Rg [(AO.mk (.some 4) (.mv (Kb .true)) .none)]) .ret) .skip)) (.seq (Rg [(AO.mk (.some 16) (.ld (.t 2) (.some 3)) .none),(AO.mk (.some 17) (.ld (.t 3) (.some 5)) .none),(AO.mk (.some 18) (.call 12 [(.t 16),(.t 17)]) .none),(AO.mk (.some 15) (.mv (.t 18)) .none),(AO.mk (.some 19) (.ext (.t 15) 0) .none),(AO.mk (.some 20) (.ext (.t 15) 1) .none),(AO.mk (.some 5) (.mv (.t 19)) .none),(AO.mk (.some 6) (.mv (.t 20)) .none)]) (.seq (Rg [(AO.mk (.some 22) (.ld (.t 2) (.some 3)) .none),(AO.mk (.some 23) (.fa (.t 3) 0) .none),(AO.mk (.some 24) (.ld (.t 23) .none) .none),(AO.mk (.some 25) (.fa (.t 3) 1) .none),(AO.mk (.some 26) (.ld (.t 25) .none) .none),(AO.mk (.some 27) (.fa (.t 3) 2) .none),(AO.mk (.some 28) (.ld (.t 27) .none) .none),(AO.mk (.some 29) (.fa (.t 3) 3) .none),(AO.mk (.some 30) (.ld (.t 29) .none) .none),(AO.mk (.some 31) (.fa (.t 3) 4) .none),(AO.mk (.some 32) (.ld (.t 31) .none) .none),(AO.mk (.some 33) (.call 13 [(.t 22),(.t 24),(.t 26),(.t 28),(.t 30),(.t 32)]) .none),(AO.mk (.some 21) (.mv (.t 33)) .none),(AO.mk (.some 34) (.ext (.t 21) 0) .none),(AO.mk (.some 35) (.ext (.t 21) 1) .none),(AO.mk (.some 7) (.mv (.t 34)) .none),(AO.mk (.some 8) (.mv (.t 35)) .none)]) (.seq (Rg [(AO.mk (.some 36) (.mv (.t 6)) .none),(AO.mk (.some 37) (.mv (.t 8)) .none),(AO.mk (.some 38) (.bin .eql (.t 36) (.t 37)) .none),(AO.mk (.some 39) (.mv (.t 38)) .none),(AO.mk (.some 40) (.mv (.t 5)) (.some (39, .true))),(AO.mk (.some 41) (.mv (.t 7)) (.some (39, .true))),(AO.mk (.some 42) (.call 14 [(.t 40),(.t 41)]) (.some (39, .true))),(AO.mk (.some 43) (.pick (.t 39) (.t 42) (Kb .false)) .none),(AO.mk (.some 4) (.mv (.t 43)) .none)]) .ret)))))))
abbrev n_law14_KpathsShortest : Nat := 3
theorem fn_law14_KpathsShortest : Try.prog.funcs[n_law14_KpathsShortest]? = some Try.f3 := Try.func3
theorem c_law14_KpathsShortest : compF Try.prog Try.f3 = some af_law14_KpathsShortest := by kernel_rfl
def af_law14_awake : AF := (AF.mk 60 [(0, .none)] (.seq (Rg [(AO.mk (.some 0) (.mv (Kb .false)) .none)]) (.seq (Rg [(AO.mk (.some 8) (.call 30 []) .none),(AO.mk (.some 9) (.call 29 [(.t 8),(.k (.c (.d (.list .true 1 [])))),(Ki 0),(Ki 2),(Ki 5),(Ki 0)]) .none),(AO.mk (.some 7) (.mv (.t 9)) .none),(AO.mk (.some 10) (.ext (.t 7) 0) .none),(AO.mk (.some 11) (.ext (.t 7) 1) .none),(AO.mk (.some 1) (.mv (.t 10)) .none),(AO.mk (.some 2) (.mv (.t 11)) .none)]) (.seq (Rg [(AO.mk (.some 13) (.call 30 []) .none),(AO.mk (.some 14) (.call 29 [(.t 13),(.k (.c (.d (.list .true 1 [])))),(Ki 0),(Ki 2),(Ki 5),(Ki 4)]) .none),(AO.mk (.some 12) (.mv (.t 14)) .none),(AO.mk (.some 15) (.ext (.t 12) 0) .none),(AO.mk (.some 16) (.ext (.t 12) 1) .none),(AO.mk (.some 3) (.mv (.t 15)) .none),(AO.mk (.some 4) (.mv (.t 16)) .none)]) (.seq (Rg [(AO.mk (.some 18) (.call 30 []) .none),(AO.mk (.some 19) (.mo (.lit (.list .false 1 [[(.int .i64 7)], [(.int .i64 5)]])) []) .none),(AO.mk (.some 20) (.call 17 [(.t 18),(.t 19)]) .none),(AO.mk (.some 17) (.mv (.t 20)) .none),(AO.mk (.some 21) (.ext (.t 17) 0) .none),(AO.mk (.some 22) (.ext (.t 17) 1) .none),(AO.mk (.some 5) (.mv (.t 21)) .none),(AO.mk (.some 6) (.mv (.t 22)) .none)]) (.seq (.seq (.reg .true [(AO.mk (.some 23) (.mv (.t 2)) .none),(AO.mk (.some 24) (.bin .eql (.t 23) (Ki 0)) .none),(AO.mk (.some 25) (.mv (.t 24)) .none),(AO.mk (.some 26) (.mv (.t 1)) (.some (25, .true))),(AO.mk (.some 27) (.mo (.lit (.list .false 1 [[(.int .i64 0)], [(.int .i64 2)]])) []) (.some (25, .true))),(AO.mk (.some 28) (.mo (.lit (.list .false 1 [[(.int .i64 7)], [(.int .i64 5)]])) []) (.some (25, .true))),(AO.mk (.some 29) (.bsl 1 [(.list .true 1 [])] 2 [(0, (.t 27)),(1, (.t 28))]) (.some (25, .true)))]) (.seq (Rg [(AO.mk (.some 30) (.call 14 [(.t 26),(.t 29)]) (.some (25, .true)))]) (.seq (.reg .true [(AO.mk (.some 31) (.pick (.t 25) (.t 30) (Kb .false)) .none),(AO.mk (.some 32) (.mv (.t 31)) .none),(AO.mk (.some 33) (.mv (.t 4)) (.some (32, .true))),(AO.mk (.some 34) (.bin .eql (.t 33) (Ki 0)) (.some (32, .true))),(AO.mk (.some 35) (.pick (.t 32) (.t 34) (Kb .false)) .none),(AO.mk (.some 36) (.mv (.t 35)) .none),(AO.mk (.some 37) (.mv (.t 3)) (.some (36, .true))),(AO.mk (.some 38) (.len (.t 37)) (.some (36, .true))),(AO.mk (.some 39) (.bin .eql (.t 38) (Ki 1)) (.some (36, .true))),(AO.mk (.some 40) (.pick (.t 36) (.t 39) (Kb .false)) .none),(AO.mk (.some 41) (.mv (.t 40)) .none),(AO.mk (.some 42) (.mv (.t 6)) (.some (41, .true))),(AO.mk (.some 43) (.bin .eql (.t 42) (Ki 0)) (.some (41, .true))),(AO.mk (.some 44) (.pick (.t 41) (.t 43) (Kb .false)) .none),(AO.mk (.some 45) (.mv (.t 44)) .none),(AO.mk (.some 46) (.mv (.t 5)) (.some (45, .true))),(AO.mk (.some 47) (.bin .eql (.t 46) (Ki 7)) (.some (45, .true))),(AO.mk (.some 48) (.pick (.t 45) (.t 47) (Kb .false)) .none),(AO.mk (.some 49) (.mv (.t 48)) .none),(AO.mk (.some 50) (.call 30 []) (.some (49, .true))),(AO.mk (.some 51) (.mv (.t 1)) (.some (49, .true))),(AO.mk (.some 52) (.ias 1 (.t 51) (Ki 0)) (.some (49, .true))),(AO.mk (.some 53) (.ld (.t 52) .none) (.some (49, .true))),(AO.mk (.some 54) (.mv (.t 1)) (.some (49, .true))),(AO.mk (.some 55) (.ias 1 (.t 54) (Ki 1)) (.some (49, .true))),(AO.mk (.some 56) (.ld (.t 55) .none) (.some (49, .true)))]) (.seq (Rg [(AO.mk (.some 57) (.call 16 [(.t 50),(.t 53),(.t 56)]) (.some (49, .true)))]) (.reg .true [(AO.mk (.some 58) (.bin .eql (.t 57) (Ki (-1))) (.some (49, .true))),(AO.mk (.some 59) (.pick (.t 49) (.t 58) (Kb .false)) .none),(AO.mk (.some 0) (.mv (.t 59)) .none)]))))) .ret))))))
abbrev n_law14_awake : Nat := 10
theorem fn_law14_awake : Try.prog.funcs[n_law14_awake]? = some Try.f10 := Try.func10
theorem c_law14_awake : compF Try.prog Try.f10 = some af_law14_awake := by kernel_rfl
def af_law14_small : AF := (AF.mk 31 [(4, .none)] (.seq (Rg [(AO.mk (.some 2) (.box (.t 0)) .none),(AO.mk (.some 3) (.box (.t 1)) .none),(AO.mk (.some 4) (.mv (Kb .false)) .none)]) (.seq (Rg [(AO.mk (.some 5) (.fa (.t 2) 2) .none),(AO.mk (.some 6) (.ld (.t 5) .none) .none),(AO.mk (.some 7) (.len (.t 6)) .none),(AO.mk (.some 8) (.bin .leq (.t 7) (Ki 11)) .none),(AO.mk (.some 9) (.mv (.t 8)) .none),(AO.mk (.some 10) (.fa (.t 2) 1) (.some (9, .true))),(AO.mk (.some 11) (.ld (.t 10) .none) (.some (9, .true))),(AO.mk (.some 12) (.len (.t 11)) (.some (9, .true))),(AO.mk (.some 13) (.bin .leq (.t 12) (Ki 20)) (.some (9, .true))),(AO.mk (.some 14) (.pick (.t 9) (.t 13) (Kb .false)) .none),(AO.mk (.some 15) (.mv (.t 14)) .none),(AO.mk (.some 16) (.fa (.t 3) 0) (.some (15, .true))),(AO.mk (.some 17) (.ld (.t 16) .none) (.some (15, .true))),(AO.mk (.some 18) (.len (.t 17)) (.some (15, .true))),(AO.mk (.some 19) (.bin .leq (.t 18) (Ki 40)) (.some (15, .true))),(AO.mk (.some 20) (.pick (.t 15) (.t 19) (Kb .false)) .none),(AO.mk (.some 21) (.mv (.t 20)) .none),(AO.mk (.some 22) (.ld (.t 2) (.some 3)) (.some (21, .true))),(AO.mk (.some 23) (.call 24 [(.t 22)]) (.some (21, .true))),(AO.mk (.some 24) (.un .not (.t 23)) (.some (21, .true))),(AO.mk (.some 25) (.mv (.t 24)) (.some (21, .true))),(AO.mk (.some 26) (.fa (.t 2) 0) (.some (25, .false))),(AO.mk (.some 27) (.ld (.t 26) .none) (.some (25, .false))),(AO.mk (.some 28) (.bin .leq (.t 27) (Ki 8)) (.some (25, .false))),(AO.mk (.some 29) (.pick (.t 25) (Kb .true) (.t 28)) (.some (21, .true))),(AO.mk (.some 30) (.pick (.t 21) (.t 29) (Kb .false)) .none),(AO.mk (.some 4) (.mv (.t 30)) .none)]) .ret)))
abbrev n_law14_small : Nat := 11
theorem fn_law14_small : Try.prog.funcs[n_law14_small]? = some Try.f11 := Try.func11
theorem c_law14_small : compF Try.prog Try.f11 = some af_law14_small := by kernel_rfl
def af_law14_shortest : AF := (AF.mk 22 [(4, .none),(5, .none)] (.seq (Rg [(AO.mk (.some 2) (.box (.t 0)) .none),(AO.mk (.some 3) (.box (.t 1)) .none),(AO.mk (.some 4) (.mv (.k (.c (.d (.list .true 1 []))))) .none),(AO.mk (.some 5) (.mv (Ki 0)) .none)]) (.seq (.seq (.rgf [[], [], [], [2], [1, 2, 3], [], [5], [], [7], [], [9], [], [11], [0, 1, 2, 3, 4, 5, 6, 7, 8, 9, 10, 11, 12], [0, 1, 2, 3, 4, 5, 6, 7, 8, 9, 10, 11, 12, 13], [0, 1, 2, 3, 4, 5, 6, 7, 8, 9, 10, 11, 12, 13], [0, 1, 2, 3, 4, 5, 6, 7, 8, 9, 10, 11, 12, 13, 14, 15], [0, 1, 2, 3, 4, 5, 6, 7, 8, 9, 10, 11, 12, 13, 14, 15, 16]] 0 [(AO.mk (.some 6) (.ld (.t 2) (.some 3)) .none),(AO.mk (.some 7) (.bsl 1 [(.bool .false)] 0 []) .none),(AO.mk (.some 8) (.fa (.t 3) 0) .none),(AO.mk (.some 9) (.ld (.t 8) .none) .none),(AO.mk (.some 10) (.app 1 1 [(.bool .false)] (.t 7) (.t 9)) .none),(AO.mk (.some 11) (.fa (.t 3) 1) .none),(AO.mk (.some 12) (.ld (.t 11) .none) .none),(AO.mk (.some 13) (.fa (.t 3) 2) .none),(AO.mk (.some 14) (.ld (.t 13) .none) .none),(AO.mk (.some 15) (.fa (.t 3) 3) .none),(AO.mk (.some 16) (.ld (.t 15) .none) .none),(AO.mk (.some 17) (.fa (.t 3) 4) .none),(AO.mk (.some 18) (.ld (.t 17) .none) .none)]) (.seq (Rg [(AO.mk (.some 19) (.call 29 [(.t 6),(.t 10),(.t 12),(.t 14),(.t 16),(.t 18)]) .none)]) (.rgf [[], [], [], [2], [1, 2, 3], [], [5], [], [7], [], [9], [], [11], [0, 1, 2, 3, 4, 5, 6, 7, 8, 9, 10, 11, 12], [0, 1, 2, 3, 4, 5, 6, 7, 8, 9, 10, 11, 12, 13], [0, 1, 2, 3, 4, 5, 6, 7, 8, 9, 10, 11, 12, 13], [0, 1, 2, 3, 4, 5, 6, 7, 8, 9, 10, 11, 12, 13, 14, 15], [0, 1, 2, 3, 4, 5, 6, 7, 8, 9, 10, 11, 12, 13, 14, 15, 16]] 14 [(AO.mk (.some 20) (.ext (.t 19) 0) .none),(AO.mk (.some 21) (.ext (.t 19) 1) .none),(AO.mk (.some 4) (.mv (.t 20)) .none),(AO.mk (.some 5) (.mv (.t 21)) .none)]))) .ret)))
abbrev n_law14_shortest : Nat := 12
theorem fn_law14_shortest : Try.prog.funcs[n_law14_shortest]? = some Try.f12 := Try.func12
theorem c_law14_shortest : compF Try.prog Try.f12 = some af_law14_shortest := by kernel_rfl
def af_ref14_Shortest : AF := (AF.mk 106 [(12, .none),(13, .none)] (.seq (Rg [(AO.mk (.some 6) (.box (.t 0)) .none),(AO.mk (.some 12) (.mv (.k (.c (.d (.list .true 1 []))))) .none),(AO.mk (.some 13) (.mv (Ki 0)) .none)]) (.seq (.block 0 (.seq (Rg [(AO.mk (.some 20) (.ld (.t 6) (.some 3)) .none),(AO.mk (.some 21) (.call 24 [(.t 20)]) .none),(AO.mk (.some 22) (.un .not (.t 21)) .none),(AO.mk (.some 23) (.mv (.t 22)) .none),(AO.mk (.some 24) (.ld (.t 6) (.some 3)) (.some (23, .false))),(AO.mk (.some 25) (.mv (.t 1)) (.some (23, .false))),(AO.mk (.some 26) (.call 19 [(.t 24),(.t 25)]) (.some (23, .false))),(AO.mk (.some 27) (.un .not (.t 26)) (.some (23, .false))),(AO.mk (.some 28) (.pick (.t 23) (Kb .true) (.t 27)) .none),(AO.mk (.some 29) (.mv (.t 28)) .none),(AO.mk (.some 30) (.mv (.t 4)) (.some (29, .false))),(AO.mk (.some 31) (.bin .lss (.t 30) (Ki 1)) (.some (29, .false))),(AO.mk (.some 32) (.pick (.t 29) (Kb .true) (.t 31)) .none),(AO.mk (.some 33) (.mv (.t 32)) .none),(AO.mk (.some 34) (.mv (.t 4)) (.some (33, .false))),(AO.mk (.some 35) (.bin .gtr (.t 34) (Ki 16)) (.some (33, .false))),(AO.mk (.some 36) (.pick (.t 33) (Kb .true) (.t 35)) .none),(AO.mk (.some 37) (.mv (.t 36)) .none),(AO.mk (.some 38) (.mv (.t 5)) (.some (37, .false))),(AO.mk (.some 39) (.bin .lss (.t 38) (Ki 0)) (.some (37, .false))),(AO.mk (.some 40) (.pick (.t 37) (Kb .true) (.t 39)) .none),(AO.mk (.some 19) (.mv (.t 40)) .none)]) (.cond (.t 19) (.seq (Rg [(AO.mk (.some 12) (.mv (.k (.c (.d (.list .true 1 []))))) .none),(AO.mk (.some 13) (.mv (Ki 1)) .none)]) .ret) (.seq (Rg [(AO.mk (.some 42) (.mv (.t 2)) .none),(AO.mk (.some 43) (.bin .lss (.t 42) (Ki 0)) .none),(AO.mk (.some 44) (.mv (.t 43)) .none),(AO.mk (.some 45) (.mv (.t 2)) (.some (44, .false))),(AO.mk (.some 46) (.fa (.t 6) 0) (.some (44, .false))),(AO.mk (.some 47) (.ld (.t 46) .none) (.some (44, .false))),(AO.mk (.some 48) (.bin .geq (.t 45) (.t 47)) (.some (44, .false))),(AO.mk (.some 49) (.pick (.t 44) (Kb .true) (.t 48)) .none),(AO.mk (.some 50) (.mv (.t 49)) .none),(AO.mk (.some 51) (.mv (.t 3)) (.some (50, .false))),(AO.mk (.some 52) (.bin .lss (.t 51) (Ki 0)) (.some (50, .false))),(AO.mk (.some 53) (.pick (.t 50) (Kb .true) (.t 52)) .none),(AO.mk (.some 54) (.mv (.t 53)) .none),(AO.mk (.some 55) (.mv (.t 3)) (.some (54, .false))),(AO.mk (.some 56) (.fa (.t 6) 0) (.some (54, .false))),(AO.mk (.some 57) (.ld (.t 56) .none) (.some (54, .false))),(AO.mk (.some 58) (.bin .geq (.t 55) (.t 57)) (.some (54, .false))),(AO.mk (.some 59) (.pick (.t 54) (Kb .true) (.t 58)) .none),(AO.mk (.some 41) (.mv (.t 59)) .none)]) (.cond (.t 41) (.seq (Rg [(AO.mk (.some 12) (.mv (.k (.c (.d (.list .true 1 []))))) .none),(AO.mk (.some 13) (.mv (Ki 2)) .none)]) .ret) .skip))))) (.seq (.seq (.reg .true [(AO.mk (.some 60) (.ld (.t 6) (.some 3)) .none),(AO.mk (.some 61) (.ld (.t 6) (.some 3)) .none),(AO.mk (.some 62) (.mv (.t 1)) .none),(AO.mk (.some 63) (.mv (.t 2)) .none),(AO.mk (.some 64) (.mv (.t 3)) .none),(AO.mk (.some 65) (.call 32 [(.t 61),(.t 62),(.t 63),(.t 64)]) .none)]) (.seq (Rg [(AO.mk (.some 66) (.call 31 [(.t 60),(.t 65)]) .none)]) (.reg .true [(AO.mk (.some 14) (.mv (.t 66)) .none)]))) (.seq (Rg [(AO.mk (.some 15) (.mv (.k (.c (.d (.list .true 1 []))))) .none)]) (.seq (.seq (Rg [(AO.mk (.some 16) (.mv (Ki 0)) .none)]) (.block 1 (.loop (.seq (.seq (Rg [(AO.mk (.some 67) (.mv (.t 16)) .none),(AO.mk (.some 68) (.mv (.t 14)) .none),(AO.mk (.some 69) (.len (.t 68)) .none),(AO.mk (.some 70) (.bin .lss (.t 67) (.t 69)) .none),(AO.mk (.some 71) (.mv (.t 70)) .none),(AO.mk (.some 72) (.mv (.t 15)) (.some (71, .true))),(AO.mk (.some 73) (.len (.t 72)) (.some (71, .true))),(AO.mk (.some 74) (.mv (.t 4)) (.some (71, .true))),(AO.mk (.some 75) (.bin .lss (.t 73) (.t 74)) (.some (71, .true))),(AO.mk (.some 76) (.pick (.t 71) (.t 75) (Kb .false)) .none)]) (.cond (.t 76) .skip (.exit 1))) (.seq (.block 2 (.seq (.seq (.reg .true [(AO.mk (.some 80) (.ld (.t 6) (.some 3)) .none),(AO.mk (.some 81) (.mv (.t 14)) .none),(AO.mk (.some 82) (.mv (.t 16)) .none),(AO.mk (.some 83) (.ias 1 (.t 81) (.t 82)) .none),(AO.mk (.some 84) (.ld (.t 83) .none) .none)]) (.seq (Rg [(AO.mk (.some 85) (.call 22 [(.t 80),(.t 84)]) .none)]) (.reg .true [(AO.mk (.some 79) (.mv (.t 85)) .none),(AO.mk (.some 86) (.ext (.t 79) 0) .none),(AO.mk (.some 87) (.ext (.t 79) 1) .none),(AO.mk (.some 17) (.mv (.t 86)) .none),(AO.mk (.some 18) (.mv (.t 87)) .none)]))) (.seq (Rg [(AO.mk (.some 88) (.mv (.t 5)) .none),(AO.mk (.some 89) (.bin .eql (.t 88) (Ki 0)) .none),(AO.mk (.some 90) (.mv (.t 89)) .none),(AO.mk (.some 91) (.mv (.t 17)) (.some (90, .false))),(AO.mk (.some 92) (.mv (.t 5)) (.some (90, .false))),(AO.mk (.some 93) (.bin .leq (.t 91) (.t 92)) (.some (90, .false))),(AO.mk (.some 94) (.pick (.t 90) (Kb .true) (.t 93)) .none)]) (.cond (.t 94) (Rg [(AO.mk (.some 95) (.mv (.t 15)) .none),(AO.mk (.some 96) (.mv (.t 14)) .none),(AO.mk (.some 97) (.mv (.t 16)) .none),(AO.mk (.some 98) (.ias 1 (.t 96) (.t 97)) .none),(AO.mk (.some 99) (.ld (.t 98) .none) .none),(AO.mk (.some 100) (.bsl 1 [(.list .true 1 [])] 1 [(0, (.t 99))]) .none),(AO.mk (.some 101) (.app 1 24 [(.list .true 1 [])] (.t 95) (.t 100)) .none),(AO.mk (.some 15) (.mv (.t 101)) .none)]) .skip)))) (Rg [(AO.mk (.some 77) (.mv (.t 16)) .none),(AO.mk (.some 78) (.bin .add (.t 77) (Ki 1)) .none),(AO.mk (.some 16) (.mv (.t 78)) .none)])))))) (.seq (.seq (Rg [(AO.mk (.some 102) (.mv (.t 15)) .none),(AO.mk (.some 103) (.len (.t 102)) .none),(AO.mk (.some 104) (.bin .eql (.t 103) (Ki 0)) .none)]) (.cond (.t 104) (.seq (Rg [(AO.mk (.some 12) (.mv (.k (.c (.d (.list .true 1 []))))) .none),(AO.mk (.some 13) (.mv (Ki 11)) .none)]) .ret) .skip)) (.seq (Rg [(AO.mk (.some 105) (.mv (.t 15)) .none),(AO.mk (.some 12) (.mv (.t 105)) .none),(AO.mk (.some 13) (.mv (Ki 0)) .none)]) .ret))))))))
abbrev n_ref14_Shortest : Nat := 13
theorem fn_ref14_Shortest : Try.prog.funcs[n_ref14_Shortest]? = some Try.f13 := Try.func13
theorem c_ref14_Shortest : compF Try.prog Try.f13 = some af_ref14_Shortest := by kernel_rfl
def af_ref14_Same : AF := (AF.mk 27 [(4, .none)] (.seq (Rg [(AO.mk (.some 4) (.mv (Kb .false)) .none)]) (.seq (.seq (Rg [(AO.mk (.some 6) (.mv (.t 0)) .none),(AO.mk (.some 7) (.len (.t 6)) .none),(AO.mk (.some 8) (.mv (.t 1)) .none),(AO.mk (.some 9) (.len (.t 8)) .none),(AO.mk (.some 10) (.bin .neq (.t 7) (.t 9)) .none)]) (.cond (.t 10) (.seq (Rg [(AO.mk (.some 4) (.mv (Kb .false)) .none)]) .ret) .skip)) (.seq (.seq (Rg [(AO.mk (.some 5) (.mv (Ki 0)) .none)]) (.block 0 (.loop (.seq (.seq (Rg [(AO.mk (.some 11) (.mv (.t 5)) .none),(AO.mk (.some 12) (.mv (.t 0)) .none),(AO.mk (.some 13) (.len (.t 12)) .none),(AO.mk (.some 14) (.bin .lss (.t 11) (.t 13)) .none)]) (.cond (.t 14) .skip (.exit 0))) (.seq (.block 1 (.seq (.seq (.reg .true [(AO.mk (.some 17) (.mv (.t 0)) .none),(AO.mk (.some 18) (.mv (.t 5)) .none),(AO.mk (.some 19) (.ias 1 (.t 17) (.t 18)) .none),(AO.mk (.some 20) (.ld (.t 19) .none) .none),(AO.mk (.some 21) (.mv (.t 1)) .none),(AO.mk (.some 22) (.mv (.t 5)) .none),(AO.mk (.some 23) (.ias 1 (.t 21) (.t 22)) .none),(AO.mk (.some 24) (.ld (.t 23) .none) .none)]) (.seq (Rg [(AO.mk (.some 25) (.call 28 [(.t 20),(.t 24)]) .none)]) (.reg .true [(AO.mk (.some 26) (.un .not (.t 25)) .none)]))) (.cond (.t 26) (.seq (Rg [(AO.mk (.some 4) (.mv (Kb .false)) .none)]) .ret) .skip))) (Rg [(AO.mk (.some 15) (.mv (.t 5)) .none),(AO.mk (.some 16) (.bin .add (.t 15) (Ki 1)) .none),(AO.mk (.some 5) (.mv (.t 16)) .none)])))))) (.seq (Rg [(AO.mk (.some 4) (.mv (Kb .true)) .none)]) .ret)))))
abbrev n_ref14_Same : Nat := 14
theorem fn_ref14_Same : Try.prog.funcs[n_ref14_Same]? = some Try.f14 := Try.func14
theorem c_ref14_Same : compF Try.prog Try.f14 = some af_ref14_Same := by kernel_rfl
def af_ref14_Mask : AF := (AF.mk 15 [(4, .none)] (.seq (Rg [(AO.mk (.some 2) (.box (.t 0)) .none),(AO.mk (.some 4) (.mv (Kb .false)) .none)]) (.seq (Rg [(AO.mk (.some 5) (.mv (.t 1)) .none),(AO.mk (.some 6) (.len (.t 5)) .none),(AO.mk (.some 7) (.bin .eql (.t 6) (Ki 0)) .none),(AO.mk (.some 8) (.mv (.t 7)) .none),(AO.mk (.some 9) (.mv (.t 1)) (.some (8, .false))),(AO.mk (.some 10) (.len (.t 9)) (.some (8, .false))),(AO.mk (.some 11) (.ld (.t 2) (.some 3)) (.some (8, .false))),(AO.mk (.some 12) (.call 18 [(.t 11)]) (.some (8, .false))),(AO.mk (.some 13) (.bin .eql (.t 10) (.t 12)) (.some (8, .false))),(AO.mk (.some 14) (.pick (.t 8) (Kb .true) (.t 13)) .none),(AO.mk (.some 4) (.mv (.t 14)) .none)]) .ret)))
abbrev n_ref14_Mask : Nat := 19
theorem fn_ref14_Mask : Try.prog.funcs[n_ref14_Mask]? = some Try.f19 := Try.func19
theorem c_ref14_Mask : compF Try.prog Try.f19 = some af_ref14_Mask := by kernel_rfl
def af_ref14_Down : AF := (AF.mk 19 [(4, .none)] (.seq (Rg [(AO.mk (.some 4) (.mv (Kb .false)) .none)]) (.seq (Rg [(AO.mk (.some 5) (.mv (.t 1)) .none),(AO.mk (.some 6) (.bin .geq (.t 5) (Ki 0)) .none),(AO.mk (.some 7) (.mv (.t 6)) .none),(AO.mk (.some 8) (.mv (.t 1)) (.some (7, .true))),(AO.mk (.some 9) (.mv (.t 0)) (.some (7, .true))),(AO.mk (.some 10) (.len (.t 9)) (.some (7, .true))),(AO.mk (.some 11) (.bin .lss (.t 8) (.t 10)) (.some (7, .true))),(AO.mk (.some 12) (.pick (.t 7) (.t 11) (Kb .false)) .none),(AO.mk (.some 13) (.mv (.t 12)) .none),(AO.mk (.some 14) (.mv (.t 0)) (.some (13, .true))),(AO.mk (.some 15) (.mv (.t 1)) (.some (13, .true))),(AO.mk (.some 16) (.ias 1 (.t 14) (.t 15)) (.some (13, .true))),(AO.mk (.some 17) (.ld (.t 16) .none) (.some (13, .true))),(AO.mk (.some 18) (.pick (.t 13) (.t 17) (Kb .false)) .none),(AO.mk (.some 4) (.mv (.t 18)) .none)]) .ret)))
abbrev n_ref14_Down : Nat := 20
theorem fn_ref14_Down : Try.prog.funcs[n_ref14_Down]? = some Try.f20 := Try.func20
theorem c_ref14_Down : compF Try.prog Try.f20 = some af_ref14_Down := by kernel_rfl
def af_ref14_Delay : AF := (AF.mk 44 [(4, .none),(5, .none)] (.seq (Rg [(AO.mk (.some 2) (.box (.t 0)) .none),(AO.mk (.some 4) (.mv (Ki 0)) .none),(AO.mk (.some 5) (.mv (Ki 0)) .none)]) (.seq (.seq (Rg [(AO.mk (.some 8) (.ld (.t 2) (.some 3)) .none),(AO.mk (.some 9) (.call 24 [(.t 8)]) .none),(AO.mk (.some 10) (.un .not (.t 9)) .none)]) (.cond (.t 10) (.seq (Rg [(AO.mk (.some 4) (.mv (Ki 0)) .none),(AO.mk (.some 5) (.mv (Ki 1)) .none)]) .ret) .skip)) (.seq (Rg [(AO.mk (.some 6) (.mv (Ki 0)) .none)]) (.seq (.seq (Rg [(AO.mk (.some 7) (.mv (Ki 0)) .none)]) (.block 0 (.loop (.seq (.seq (Rg [(AO.mk (.some 11) (.mv (.t 7)) .none),(AO.mk (.some 12) (.mv (.t 1)) .none),(AO.mk (.some 13) (.len (.t 12)) .none),(AO.mk (.some 14) (.bin .lss (.t 11) (.t 13)) .none)]) (.cond (.t 14) .skip (.exit 0))) (.seq (.block 1 (.seq (.seq (.reg .true [(AO.mk (.some 17) (.mv (.t 1)) .none),(AO.mk (.some 18) (.mv (.t 7)) .none),(AO.mk (.some 19) (.ias 1 (.t 17) (.t 18)) .none),(AO.mk (.some 20) (.ld (.t 19) .none) .none),(AO.mk (.some 21) (.bin .lss (.t 20) (Ki 0)) .none),(AO.mk (.some 22) (.mv (.t 21)) .none),(AO.mk (.some 23) (.mv (.t 1)) (.some (22, .false))),(AO.mk (.some 24) (.mv (.t 7)) (.some (22, .false))),(AO.mk (.some 25) (.ias 1 (.t 23) (.t 24)) (.some (22, .false))),(AO.mk (.some 26) (.ld (.t 25) .none) (.some (22, .false))),(AO.mk (.some 27) (.ld (.t 2) (.some 3)) (.some (22, .false))),(AO.mk (.some 28) (.call 18 [(.t 27)]) (.some (22, .false))),(AO.mk (.some 29) (.bin .geq (.t 26) (.t 28)) (.some (22, .false))),(AO.mk (.some 30) (.pick (.t 22) (Kb .true) (.t 29)) .none)]) (.cond (.t 30) (.seq (Rg [(AO.mk (.some 4) (.mv (Ki 0)) .none),(AO.mk (.some 5) (.mv (Ki 2)) .none)]) .ret) .skip)) (.reg .true [(AO.mk (.some 31) (.mv (.t 6)) .none),(AO.mk (.some 32) (.fa (.t 2) 2) .none),(AO.mk (.some 33) (.ld (.t 32) .none) .none),(AO.mk (.some 34) (.mv (.t 1)) .none),(AO.mk (.some 35) (.mv (.t 7)) .none),(AO.mk (.some 36) (.ias 1 (.t 34) (.t 35)) .none),(AO.mk (.some 37) (.ld (.t 36) .none) .none),(AO.mk (.some 38) (.bin .quo (.t 37) (Ki 2)) .none),(AO.mk (.some 39) (.ias 7 (.t 33) (.t 38)) .none),(AO.mk (.some 40) (.fa (.t 39) 5) .none),(AO.mk (.some 41) (.ld (.t 40) .none) .none),(AO.mk (.some 42) (.bin .add (.t 31) (.t 41)) .none),(AO.mk (.some 6) (.mv (.t 42)) .none)]))) (Rg [(AO.mk (.some 15) (.mv (.t 7)) .none),(AO.mk (.some 16) (.bin .add (.t 15) (Ki 1)) .none),(AO.mk (.some 7) (.mv (.t 16)) .none)])))))) (.seq (Rg [(AO.mk (.some 43) (.mv (.t 6)) .none),(AO.mk (.some 4) (.mv (.t 43)) .none),(AO.mk (.some 5) (.mv (Ki 0)) .none)]) .ret))))))
abbrev n_ref14_Delay : Nat := 22
theorem fn_ref14_Delay : Try.prog.funcs[n_ref14_Delay]? = some Try.f22 := Try.func22
theorem c_ref14_Delay : compF Try.prog Try.f22 = some af_ref14_Delay := by kernel_rfl
def af_ref14_Compare : AF := (AF.mk 58 [(6, .none)] (.seq (Rg [(AO.mk (.some 3) (.box (.t 0)) .none),(AO.mk (.some 6) (.mv (Ki 0)) .none)]) (.seq (.seq (.reg .true [(AO.mk (.some 10) (.ld (.t 3) (.some 3)) .none),(AO.mk (.some 11) (.mv (.t 1)) .none),(AO.mk (.some 12) (.call 39 [(.t 10),(.t 11)]) .none),(AO.mk (.some 13) (.ld (.t 3) (.some 3)) .none),(AO.mk (.some 14) (.mv (.t 2)) .none)]) (.seq (Rg [(AO.mk (.some 15) (.call 39 [(.t 13),(.t 14)]) .none)]) (.reg .true [(AO.mk (.some 7) (.mv (.t 12)) .none),(AO.mk (.some 8) (.mv (.t 15)) .none)]))) (.seq (.seq (Rg [(AO.mk (.some 16) (.mv (.t 7)) .none),(AO.mk (.some 17) (.mv (.t 8)) .none),(AO.mk (.some 18) (.bin .neq (.t 16) (.t 17)) .none)]) (.cond (.t 18) (.seq (Rg [(AO.mk (.some 19) (.mv (.t 7)) .none),(AO.mk (.some 20) (.mv (.t 8)) .none),(AO.mk (.some 21) (.bin .sub (.t 19) (.t 20)) .none),(AO.mk (.some 22) (.call 40 [(.t 21)]) .none),(AO.mk (.some 6) (.mv (.t 22)) .none)]) .ret) .skip)) (.seq (.seq (Rg [(AO.mk (.some 23) (.mv (.t 1)) .none),(AO.mk (.some 24) (.len (.t 23)) .none),(AO.mk (.some 25) (.mv (.t 2)) .none),(AO.mk (.some 26) (.len (.t 25)) .none),(AO.mk (.some 27) (.bin .neq (.t 24) (.t 26)) .none)]) (.cond (.t 27) (.seq (Rg [(AO.mk (.some 28) (.mv (.t 1)) .none),(AO.mk (.some 29) (.len (.t 28)) .none),(AO.mk (.some 30) (.mv (.t 2)) .none),(AO.mk (.some 31) (.len (.t 30)) .none),(AO.mk (.some 32) (.bin .sub (.t 29) (.t 31)) .none),(AO.mk (.some 33) (.call 40 [(.t 32)]) .none),(AO.mk (.some 6) (.mv (.t 33)) .none)]) .ret) .skip)) (.seq (.seq (Rg [(AO.mk (.some 9) (.mv (Ki 0)) .none)]) (.block 0 (.loop (.seq (.seq (Rg [(AO.mk (.some 34) (.mv (.t 9)) .none),(AO.mk (.some 35) (.mv (.t 1)) .none),(AO.mk (.some 36) (.len (.t 35)) .none),(AO.mk (.some 37) (.bin .lss (.t 34) (.t 36)) .none)]) (.cond (.t 37) .skip (.exit 0))) (.seq (.block 1 (.seq (.seq (.reg .true [(AO.mk (.some 40) (.mv (.t 1)) .none),(AO.mk (.some 41) (.mv (.t 9)) .none),(AO.mk (.some 42) (.ias 1 (.t 40) (.t 41)) .none),(AO.mk (.some 43) (.ld (.t 42) .none) .none),(AO.mk (.some 44) (.mv (.t 2)) .none),(AO.mk (.some 45) (.mv (.t 9)) .none),(AO.mk (.some 46) (.ias 1 (.t 44) (.t 45)) .none),(AO.mk (.some 47) (.ld (.t 46) .none) .none),(AO.mk (.some 48) (.bin .lss (.t 43) (.t 47)) .none)]) (.cond (.t 48) (.seq (Rg [(AO.mk (.some 6) (.mv (Ki (-1))) .none)]) .ret) .skip)) (.seq (.reg .true [(AO.mk (.some 49) (.mv (.t 1)) .none),(AO.mk (.some 50) (.mv (.t 9)) .none),(AO.mk (.some 51) (.ias 1 (.t 49) (.t 50)) .none),(AO.mk (.some 52) (.ld (.t 51) .none) .none),(AO.mk (.some 53) (.mv (.t 2)) .none),(AO.mk (.some 54) (.mv (.t 9)) .none),(AO.mk (.some 55) (.ias 1 (.t 53) (.t 54)) .none),(AO.mk (.some 56) (.ld (.t 55) .none) .none),(AO.mk (.some 57) (.bin .gtr (.t 52) (.t 56)) .none)]) (.cond (.t 57) (.seq (Rg [(AO.mk (.some 6) (.mv (Ki 1)) .none)]) .ret) .skip)))) (Rg [(AO.mk (.some 38) (.mv (.t 9)) .none),(AO.mk (.some 39) (.bin .add (.t 38) (Ki 1)) .none),(AO.mk (.some 9) (.mv (.t 39)) .none)])))))) (.seq (Rg [(AO.mk (.some 6) (.mv (Ki 0)) .none)]) .ret)))))))
abbrev n_ref14_Compare : Nat := 23
theorem fn_ref14_Compare : Try.prog.funcs[n_ref14_Compare]? = some Try.f23 := Try.func23
theorem c_ref14_Compare : compF Try.prog Try.f23 = some af_ref14_Compare := by kernel_rfl
def af_law14_ring : AF := (AF.mk 22 [(0, (.some (.some 3)))] (.seq (Rg [(AO.mk (.some 0) (.box (.k (.agg [Di 0, (.d (.list .true 1 [])),(.d (.list .true 7 []))]))) .none)]) (.seq (Rg [(AO.mk (.some 3) (.build [Di 0, (.d (.list .true 1 [])),(.d (.list .true 7 []))] [(0, (1, (Ki 4)))]) .none),(AO.mk (.some 1) (.box (.k (.agg [Di 0, (.d (.list .true 1 [])),(.d (.list .true 7 []))]))) .none),(AO.mk .none (.st (.t 1) (.t 3) 3) .none)]) (.seq (.seq (Rg [(AO.mk (.some 2) (.mv (Ki 0)) .none)]) (.block 0 (.loop (.seq (.seq (Rg [(AO.mk (.some 4) (.mv (.t 2)) .none),(AO.mk (.some 5) (.bin .lss (.t 4) (Ki 4)) .none)]) (.cond (.t 5) .skip (.exit 0))) (.seq (.block 1 (Rg [(AO.mk (.some 8) (.fa (.t 1) 2) .none),(AO.mk (.some 9) (.ld (.t 8) .none) .none),(AO.mk (.some 10) (.mv (.t 2)) .none),(AO.mk (.some 11) (.mv (.t 2)) .none),(AO.mk (.some 12) (.bin .add (.t 11) (Ki 1)) .none),(AO.mk (.some 13) (.bin .rem (.t 12) (Ki 4)) .none),(AO.mk (.some 14) (.build [Di 0, (.d (.int .i64 0))] [(0, (1, (Ki 1))),(1, (1, (Ki 1)))]) .none),(AO.mk (.some 15) (.mv (.t 2)) .none),(AO.mk (.some 16) (.bin .add (Ki 1) (.t 15)) .none),(AO.mk (.some 17) (.build [Di 0, (.d (.int .i64 0)),(.d (.int .i64 0)),(.d (.int .i64 0)),(.d (.int .i64 0)),(.d (.int .i64 0)),(.d (.int .i64 0))] [(0, (1, (.t 10))),(1, (1, (.t 13))),(2, (2, (.t 14))),(5, (1, (.t 16)))]) .none),(AO.mk (.some 18) (.bsl 7 [(.int .i64 0),(.int .i64 0),(.int .i64 0),(.int .i64 0),(.int .i64 0),(.int .i64 0),(.int .i64 0)] 1 [(0, (.t 17))]) .none),(AO.mk (.some 19) (.app 7 56 [(.int .i64 0),(.int .i64 0),(.int .i64 0),(.int .i64 0),(.int .i64 0),(.int .i64 0),(.int .i64 0)] (.t 9) (.t 18)) .none),(AO.mk (.some 20) (.fa (.t 1) 2) .none),(AO.mk .none (.st (.t 20) (.t 19) 1) .none)])) (Rg [(AO.mk (.some 6) (.mv (.t 2)) .none),(AO.mk (.some 7) (.bin .add (.t 6) (Ki 1)) .none),(AO.mk (.some 2) (.mv (.t 7)) .none)])))))) (.seq (Rg [(AO.mk (.some 21) (.ld (.t 1) (.some 3)) .none),(AO.mk .none (.st (.t 0) (.t 21) 3) .none)]) .ret)))))
abbrev n_law14_ring : Nat := 30
theorem fn_law14_ring : Try.prog.funcs[n_law14_ring]? = some Try.f30 := Try.func30
theorem c_law14_ring : compF Try.prog Try.f30 = some af_law14_ring := by kernel_rfl
def af_ref14_sorted : AF := (AF.mk 61 [(4, .none)] (.seq (Rg [(AO.mk (.some 2) (.box (.t 0)) .none),(AO.mk (.some 4) (.mv (.k (.c (.d (.list .true 1 []))))) .none)]) (.seq (Rg [(AO.mk (.some 5) (.mv (.k (.c (.d (.list .true 1 []))))) .none)]) (.seq (.seq (Rg [(AO.mk (.some 6) (.mv (Ki 0)) .none)]) (.block 0 (.loop (.seq (.seq (Rg [(AO.mk (.some 9) (.mv (.t 6)) .none),(AO.mk (.some 10) (.mv (.t 1)) .none),(AO.mk (.some 11) (.len (.t 10)) .none),(AO.mk (.some 12) (.bin .lss (.t 9) (.t 11)) .none)]) (.cond (.t 12) .skip (.exit 0))) (.seq (.block 1 (.seq (Rg [(AO.mk (.some 7) (.mv (Ki 0)) .none)]) (.seq (.block 2 (.loop (.seq (.seq (.seq (.reg .true [(AO.mk (.some 15) (.mv (.t 7)) .none),(AO.mk (.some 16) (.mv (.t 5)) .none),(AO.mk (.some 17) (.len (.t 16)) .none),(AO.mk (.some 18) (.bin .lss (.t 15) (.t 17)) .none),(AO.mk (.some 19) (.mv (.t 18)) .none),(AO.mk (.some 20) (.ld (.t 2) (.some 3)) (.some (19, .true))),(AO.mk (.some 21) (.mv (.t 5)) (.some (19, .true))),(AO.mk (.some 22) (.mv (.t 7)) (.some (19, .true))),(AO.mk (.some 23) (.ias 1 (.t 21) (.t 22)) (.some (19, .true))),(AO.mk (.some 24) (.ld (.t 23) .none) (.some (19, .true))),(AO.mk (.some 25) (.mv (.t 1)) (.some (19, .true))),(AO.mk (.some 26) (.mv (.t 6)) (.some (19, .true))),(AO.mk (.some 27) (.ias 1 (.t 25) (.t 26)) (.some (19, .true))),(AO.mk (.some 28) (.ld (.t 27) .none) (.some (19, .true)))]) (.seq (Rg [(AO.mk (.some 29) (.call 23 [(.t 20),(.t 24),(.t 28)]) (.some (19, .true)))]) (.reg .true [(AO.mk (.some 30) (.bin .lss (.t 29) (Ki 0)) (.some (19, .true))),(AO.mk (.some 31) (.pick (.t 19) (.t 30) (Kb .false)) .none)]))) (.cond (.t 31) .skip (.exit 2))) (.block 3 (Rg [(AO.mk (.some 32) (.mv (.t 7)) .none),(AO.mk (.some 33) (.bin .add (.t 32) (Ki 1)) .none),(AO.mk (.some 7) (.mv (.t 33)) .none)]))))) (.seq (Rg [(AO.mk (.some 34) (.mv (.t 5)) .none),(AO.mk (.some 35) (.mo (.lit (.list .false 1 [[(.list .false 1 [])]])) []) .none),(AO.mk (.some 36) (.app 1 24 [(.list .true 1 [])] (.t 34) (.t 35)) .none),(AO.mk (.some 5) (.mv (.t 36)) .none)]) (.seq (.seq (Rg [(AO.mk (.some 37) (.mv (.t 5)) .none),(AO.mk (.some 38) (.len (.t 37)) .none),(AO.mk (.some 39) (.bin .sub (.t 38) (Ki 1)) .none),(AO.mk (.some 8) (.mv (.t 39)) .none)]) (.block 4 (.loop (.seq (.seq (Rg [(AO.mk (.some 40) (.mv (.t 8)) .none),(AO.mk (.some 41) (.mv (.t 7)) .none),(AO.mk (.some 42) (.bin .gtr (.t 40) (.t 41)) .none)]) (.cond (.t 42) .skip (.exit 4))) (.seq (.block 5 (Rg [(AO.mk (.some 45) (.mv (.t 5)) .none),(AO.mk (.some 46) (.mv (.t 8)) .none),(AO.mk (.some 47) (.mv (.t 5)) .none),(AO.mk (.some 48) (.mv (.t 8)) .none),(AO.mk (.some 49) (.bin .sub (.t 48) (Ki 1)) .none),(AO.mk (.some 50) (.ias 1 (.t 47) (.t 49)) .none),(AO.mk (.some 51) (.ld (.t 50) .none) .none),(AO.mk (.some 52) (.ias 1 (.t 45) (.t 46)) .none),(AO.mk .none (.st (.t 52) (.t 51) 1) .none)])) (Rg [(AO.mk (.some 43) (.mv (.t 8)) .none),(AO.mk (.some 44) (.bin .sub (.t 43) (Ki 1)) .none),(AO.mk (.some 8) (.mv (.t 44)) .none)])))))) (Rg [(AO.mk (.some 53) (.mv (.t 5)) .none),(AO.mk (.some 54) (.mv (.t 7)) .none),(AO.mk (.some 55) (.mv (.t 1)) .none),(AO.mk (.some 56) (.mv (.t 6)) .none),(AO.mk (.some 57) (.ias 1 (.t 55) (.t 56)) .none),(AO.mk (.some 58) (.ld (.t 57) .none) .none),(AO.mk (.some 59) (.ias 1 (.t 53) (.t 54)) .none),(AO.mk .none (.st (.t 59) (.t 58) 1) .none)])))))) (Rg [(AO.mk (.some 13) (.mv (.t 6)) .none),(AO.mk (.some 14) (.bin .add (.t 13) (Ki 1)) .none),(AO.mk (.some 6) (.mv (.t 14)) .none)])))))) (.seq (Rg [(AO.mk (.some 60) (.mv (.t 5)) .none),(AO.mk (.some 4) (.mv (.t 60)) .none)]) .ret)))))
abbrev n_ref14_sorted : Nat := 31
theorem fn_ref14_sorted : Try.prog.funcs[n_ref14_sorted]? = some Try.f31 := Try.func31
theorem c_ref14_sorted : compF Try.prog Try.f31 = some af_ref14_sorted := by kernel_rfl
def af_ref14_Simple : AF := (AF.mk 22 [(8, .none)] (.seq (Rg [(AO.mk (.some 4) (.box (.t 0)) .none),(AO.mk (.some 8) (.mv (.k (.c (.d (.list .true 1 []))))) .none)]) (.seq (Rg [(AO.mk (.some 10) (.fa (.t 4) 0) .none),(AO.mk (.some 11) (.ld (.t 10) .none) .none),(AO.mk (.some 12) (.mks 1 1 [(.bool .false)] (.t 11) (.t 11)) .none),(AO.mk (.some 9) (.mv (.t 12)) .none)]) (.seq (Rg [(AO.mk (.some 13) (.mv (.t 9)) .none),(AO.mk (.some 14) (.mv (.t 2)) .none),(AO.mk (.some 15) (.ias 1 (.t 13) (.t 14)) .none),(AO.mk .none (.st (.t 15) (Kb .true) 1) .none)]) (.seq (Rg [(AO.mk (.some 16) (.ld (.t 4) (.some 3)) .none),(AO.mk (.some 17) (.mv (.t 1)) .none),(AO.mk (.some 18) (.mv (.t 2)) .none),(AO.mk (.some 19) (.mv (.t 3)) .none),(AO.mk (.some 20) (.mv (.t 9)) .none),(AO.mk (.some 21) (.call 50 [(.t 16),(.t 17),(.k (.c (.d (.list .true 1 [])))),(.t 18),(.t 19),(.t 20),(.k (.c (.d (.list .true 1 []))))]) .none),(AO.mk (.some 8) (.mv (.t 21)) .none)]) .ret)))))
abbrev n_ref14_Simple : Nat := 32
theorem fn_ref14_Simple : Try.prog.funcs[n_ref14_Simple]? = some Try.f32 := Try.func32
theorem c_ref14_Simple : compF Try.prog Try.f32 = some af_ref14_Simple := by kernel_rfl
def af_ref14_cost : AF := (AF.mk 23 [(4, .none)] (.seq (Rg [(AO.mk (.some 2) (.box (.t 0)) .none),(AO.mk (.some 4) (.mv (Ki 0)) .none)]) (.seq (Rg [(AO.mk (.some 5) (.mv (Ki 0)) .none)]) (.seq (.seq (Rg [(AO.mk (.some 6) (.mv (Ki 0)) .none)]) (.block 0 (.loop (.seq (.seq (Rg [(AO.mk (.some 7) (.mv (.t 6)) .none),(AO.mk (.some 8) (.mv (.t 1)) .none),(AO.mk (.some 9) (.len (.t 8)) .none),(AO.mk (.some 10) (.bin .lss (.t 7) (.t 9)) .none)]) (.cond (.t 10) .skip (.exit 0))) (.seq (.block 1 (.reg .true [(AO.mk (.some 13) (.mv (.t 5)) .none),(AO.mk (.some 14) (.ld (.t 2) (.some 3)) .none),(AO.mk (.some 15) (.mv (.t 1)) .none),(AO.mk (.some 16) (.mv (.t 6)) .none),(AO.mk (.some 17) (.ias 1 (.t 15) (.t 16)) .none),(AO.mk (.some 18) (.ld (.t 17) .none) .none),(AO.mk (.some 19) (.call 51 [(.t 14),(.t 18)]) .none),(AO.mk (.some 20) (.mo (.mm .true) [(Ki 0),(.t 19)]) .none),(AO.mk (.some 21) (.bin .add (.t 13) (.t 20)) .none),(AO.mk (.some 5) (.mv (.t 21)) .none)])) (Rg [(AO.mk (.some 11) (.mv (.t 6)) .none),(AO.mk (.some 12) (.bin .add (.t 11) (Ki 1)) .none),(AO.mk (.some 6) (.mv (.t 12)) .none)])))))) (.seq (Rg [(AO.mk (.some 22) (.mv (.t 5)) .none),(AO.mk (.some 4) (.mv (.t 22)) .none)]) .ret)))))
abbrev n_ref14_cost : Nat := 39
theorem fn_ref14_cost : Try.prog.funcs[n_ref14_cost]? = some Try.f39 := Try.func39
theorem c_ref14_cost : compF Try.prog Try.f39 = some af_ref14_cost := by kernel_rfl
def af_ref14_sign : AF := (AF.mk 9 [(2, .none)] (.seq (Rg [(AO.mk (.some 2) (.mv (Ki 0)) .none)]) (.seq (.block 0 (.seq (Rg [(AO.mk (.some 4) (.mv (.t 0)) .none),(AO.mk (.some 5) (.bin .lss (.t 4) (Ki 0)) .none),(AO.mk (.some 3) (.mv (.t 5)) .none)]) (.cond (.t 3) (.seq (Rg [(AO.mk (.some 2) (.mv (Ki (-1))) .none)]) .ret) (.seq (Rg [(AO.mk (.some 7) (.mv (.t 0)) .none),(AO.mk (.some 8) (.bin .gtr (.t 7) (Ki 0)) .none),(AO.mk (.some 6) (.mv (.t 8)) .none)]) (.cond (.t 6) (.seq (Rg [(AO.mk (.some 2) (.mv (Ki 1)) .none)]) .ret) .skip))))) (.seq (Rg [(AO.mk (.some 2) (.mv (Ki 0)) .none)]) .ret))))
abbrev n_ref14_sign : Nat := 40
theorem fn_ref14_sign : Try.prog.funcs[n_ref14_sign]? = some Try.f40 := Try.func40
theorem c_ref14_sign : compF Try.prog Try.f40 = some af_ref14_sign := by kernel_rfl
def af_ref14_extend : AF := (AF.mk 86 [(14, .none)] (.seq (Rg [(AO.mk (.some 7) (.box (.t 0)) .none),(AO.mk (.some 14) (.mv (.k (.c (.d (.list .true 1 []))))) .none)]) (.seq (.seq (Rg [(AO.mk (.some 18) (.mv (.t 3)) .none),(AO.mk (.some 19) (.mv (.t 4)) .none),(AO.mk (.some 20) (.bin .eql (.t 18) (.t 19)) .none)]) (.cond (.t 20) (.seq (Rg [(AO.mk (.some 21) (.mv (.t 6)) .none),(AO.mk (.some 22) (.bsl 1 [(.int .i64 0)] 0 []) .none),(AO.mk (.some 23) (.mv (.t 2)) .none),(AO.mk (.some 24) (.app 1 8 [(.int .i64 0)] (.t 22) (.t 23)) .none),(AO.mk (.some 25) (.bsl 1 [(.list .true 1 [])] 1 [(0, (.t 24))]) .none),(AO.mk (.some 26) (.app 1 24 [(.list .true 1 [])] (.t 21) (.t 25)) .none),(AO.mk (.some 14) (.mv (.t 26)) .none)]) .ret) .skip)) (.seq (.seq (Rg [(AO.mk (.some 27) (.mv (.t 2)) .none),(AO.mk (.some 28) (.len (.t 27)) .none),(AO.mk (.some 29) (.bin .gtr (.t 28) (Ki 0)) .none),(AO.mk (.some 30) (.mv (.t 29)) .none),(AO.mk (.some 31) (.ld (.t 7) (.some 3)) (.some (30, .true))),(AO.mk (.some 32) (.mv (.t 3)) (.some (30, .true))),(AO.mk (.some 33) (.call 27 [(.t 31),(.t 32)]) (.some (30, .true))),(AO.mk (.some 34) (.pick (.t 30) (.t 33) (Kb .false)) .none)]) (.cond (.t 34) (.seq (Rg [(AO.mk (.some 35) (.mv (.t 6)) .none),(AO.mk (.some 14) (.mv (.t 35)) .none)]) .ret) .skip)) (.seq (Rg [(AO.mk (.some 36) (.ld (.t 7) (.some 3)) .none),(AO.mk (.some 37) (.mv (.t 3)) .none),(AO.mk (.some 38) (.call 25 [(.t 36),(.t 37)]) .none),(AO.mk (.some 15) (.mv (.t 38)) .none)]) (.seq (.seq (Rg [(AO.mk (.some 16) (.mv (Ki 0)) .none)]) (.block 0 (.loop (.seq (.seq (Rg [(AO.mk (.some 39) (.mv (.t 16)) .none),(AO.mk (.some 40) (.mv (.t 15)) .none),(AO.mk (.some 41) (.len (.t 40)) .none),(AO.mk (.some 42) (.bin .lss (.t 39) (.t 41)) .none)]) (.cond (.t 42) .skip (.exit 0))) (.seq (.block 1 (.seq (.seq (.reg .true [(AO.mk (.some 45) (.ld (.t 7) (.some 3)) .none),(AO.mk (.some 46) (.mv (.t 15)) .none),(AO.mk (.some 47) (.mv (.t 16)) .none),(AO.mk (.some 48) (.ias 1 (.t 46) (.t 47)) .none),(AO.mk (.some 49) (.ld (.t 48) .none) .none)]) (.seq (Rg [(AO.mk (.some 50) (.call 26 [(.t 45),(.t 49)]) .none)]) (.reg .true [(AO.mk (.some 17) (.mv (.t 50)) .none)]))) (.seq (.seq (Rg [(AO.mk (.some 51) (.mv (.t 1)) .none),(AO.mk (.some 52) (.mv (.t 15)) .none),(AO.mk (.some 53) (.mv (.t 16)) .none),(AO.mk (.some 54) (.ias 1 (.t 52) (.t 53)) .none),(AO.mk (.some 55) (.ld (.t 54) .none) .none),(AO.mk (.some 56) (.call 20 [(.t 51),(.t 55)]) .none),(AO.mk (.some 57) (.mv (.t 56)) .none),(AO.mk (.some 58) (.mv (.t 5)) (.some (57, .false))),(AO.mk (.some 59) (.mv (.t 17)) (.some (57, .false))),(AO.mk (.some 60) (.ias 1 (.t 58) (.t 59)) (.some (57, .false))),(AO.mk (.some 61) (.ld (.t 60) .none) (.some (57, .false))),(AO.mk (.some 62) (.pick (.t 57) (Kb .true) (.t 61)) .none)]) (.cond (.t 62) (.exit 1) .skip)) (.seq (Rg [(AO.mk (.some 63) (.mv (.t 5)) .none),(AO.mk (.some 64) (.mv (.t 17)) .none),(AO.mk (.some 65) (.ias 1 (.t 63) (.t 64)) .none),(AO.mk .none (.st (.t 65) (Kb .true) 1) .none)]) (.seq (.seq (.rgf [[], [], [], [], [2, 3], [], [], [5, 6], [5, 6, 7], [5, 6, 7, 8], [2, 3, 4, 5, 6, 7, 8, 9], [], [], [], [], [0, 1, 2, 3, 4, 5, 6, 7, 8, 9, 10, 11, 12, 13, 14], [0, 1, 2, 3, 4, 5, 6, 7, 8, 9, 10, 11, 12, 13, 14, 15]] 0 [(AO.mk (.some 66) (.ld (.t 7) (.some 3)) .none),(AO.mk (.some 67) (.mv (.t 1)) .none),(AO.mk (.some 68) (.bsl 1 [(.int .i64 0)] 0 []) .none),(AO.mk (.some 69) (.mv (.t 2)) .none),(AO.mk (.some 70) (.app 1 8 [(.int .i64 0)] (.t 68) (.t 69)) .none),(AO.mk (.some 71) (.mv (.t 15)) .none),(AO.mk (.some 72) (.mv (.t 16)) .none),(AO.mk (.some 73) (.ias 1 (.t 71) (.t 72)) .none),(AO.mk (.some 74) (.ld (.t 73) .none) .none),(AO.mk (.some 75) (.bsl 1 [(.int .i64 0)] 1 [(0, (.t 74))]) .none),(AO.mk (.some 76) (.app 1 8 [(.int .i64 0)] (.t 70) (.t 75)) .none),(AO.mk (.some 77) (.mv (.t 17)) .none),(AO.mk (.some 78) (.mv (.t 4)) .none),(AO.mk (.some 79) (.mv (.t 5)) .none),(AO.mk (.some 80) (.mv (.t 6)) .none)]) (.seq (Rg [(AO.mk (.some 81) (.call 50 [(.t 66),(.t 67),(.t 76),(.t 77),(.t 78),(.t 79),(.t 80)]) .none)]) (.rgf [[], [], [], [], [2, 3], [], [], [5, 6], [5, 6, 7], [5, 6, 7, 8], [2, 3, 4, 5, 6, 7, 8, 9], [], [], [], [], [0, 1, 2, 3, 4, 5, 6, 7, 8, 9, 10, 11, 12, 13, 14], [0, 1, 2, 3, 4, 5, 6, 7, 8, 9, 10, 11, 12, 13, 14, 15]] 16 [(AO.mk (.some 6) (.mv (.t 81)) .none)]))) (Rg [(AO.mk (.some 82) (.mv (.t 5)) .none),(AO.mk (.some 83) (.mv (.t 17)) .none),(AO.mk (.some 84) (.ias 1 (.t 82) (.t 83)) .none),(AO.mk .none (.st (.t 84) (Kb .false) 1) .none)])))))) (Rg [(AO.mk (.some 43) (.mv (.t 16)) .none),(AO.mk (.some 44) (.bin .add (.t 43) (Ki 1)) .none),(AO.mk (.some 16) (.mv (.t 44)) .none)])))))) (.seq (Rg [(AO.mk (.some 85) (.mv (.t 6)) .none),(AO.mk (.some 14) (.mv (.t 85)) .none)]) .ret)))))))
abbrev n_ref14_extend : Nat := 50
theorem fn_ref14_extend : Try.prog.funcs[n_ref14_extend]? = some Try.f50 := Try.func50
theorem c_ref14_extend : compF Try.prog Try.f50 = some af_ref14_extend := by kernel_rfl
end Go.Ab

/-
  The reference's small functions on paths.
-/
namespace Go.Ab
open Go.Proofs
def dnB (down : List Bool) (a : Int) : Bool := decide (0 ≤ a ∧ a < down.length) && down.getD a.toNat false
theorem dnB_up {down : List Bool} {a : Int} (h0 : 0 ≤ a) (h1 : down.length = 0 ∨ a < down.length) : dnB down a = !upB down a := by
 unfold dnB upB
 rcases h1 with h1 | h1
 ·have : ¬ (a < (down.length : Int)) := by omega
  rw [decide_eq_false (fun h => this h.2), decide_eq_true h1]; rfl
 ·rw [decide_eq_true ⟨h0, h1⟩, decide_eq_false (by omega)]; simp
theorem rdown_ok (P : Program) (hP : P = Try.prog) (down : List Bool) (a : Int) : Ret P n_ref14_Down [boolsA down, iA a] (bA (dnB down a)) := by
 refine ret_start (hP ▸ mixed) (hP ▸ fn_ref14_Down) (hP ▸ c_ref14_Down) (nle rfl) fun Λ Λo K hK => ?_
 clear hP
 have key : ∀ (b : Bool), 0 ≤ a → a < down.length → down[a.toNat]? = some b → K (bA b) := fun b h0 h1 h2 => by
  rw [dnB, decide_eq_true ⟨h0, h1⟩, List.getD_eq_getElem?_getD, h2] at hK; exact hK
 have no : ¬ (0 ≤ a ∧ a < down.length) → K (bA false) := fun h => by rw [dnB, decide_eq_false h] at hK; exact hK
 clear hK
 simp only [boolsA, boolsD] at *
 generalize hdl : down.map encB = dl at *
 have hln : Λ dl = down.length := by rw [Λo, ← hdl]; simp
 conv => cbv
 repeat' first | (intro e he; obtain ⟨b, hb, rfl⟩ := map_get' hdl he; (conv => cbv)) | exact gu | exact trivial | refine And.intro ?_ ?_ | (intro hc; exact absurd hc (by decide)) | (intro hc; exfalso; omega) | (intro hc; (first | rw [wS (by omega) (by omega)] at hc | rw [nI_eq] at hc | skip); try (conv => cbv))
 all_goals first
  | exact no (by omega)
  | exact key _ (by omega) (by omega) hb
theorem mask_ok (P : Program) (hP : P = Try.prog) (t : Top) (down : List Bool) : Ret P n_ref14_Mask [topA t, boolsA down] (bA (decide (down.length = 0 ∨ (down.length : Int) = arcsT t))) := by
 have ha := arcs_ok P hP t
 refine ret_start (hP ▸ mixed) (hP ▸ fn_ref14_Mask) (hP ▸ c_ref14_Mask) (nle rfl) fun Λ Λo K hK => ?_
 clear hP
 have yes := yes_of hK
 have no := no_of hK
 clear hK
 have har := arcsT_le t
 simp only [topA, boolsA, boolsD, linksD] at *
 generalize t.ov.map encB = ovl at *
 generalize t.links.map encLk = lkl at *
 generalize hdl : down.map encB = dl at *
 generalize t.nodes = nodes at *
 have hln : Λ dl = down.length := by rw [Λo, ← hdl]; simp
 generalize arcsT t = ar at *
 conv => cbv
 repeat' first | (refine call_r ha rfl rfl ?_; conv => cbv) | exact gu | exact trivial | refine And.intro ?_ ?_ | (intro hc; exact absurd hc (by decide)) | (intro hc; exfalso; omega) | (intro hc; (first | rw [wS (by omega) (by omega)] at hc | rw [nI_eq] at hc | skip); try (conv => cbv))
 all_goals first
  | exact yes (by omega)
  | exact no (by omega)
theorem rcost_ok (P : Program) (hP : P = Try.prog) (t : Top) (p : List Int) (hp : p.length ≤ 1000) : Ret P n_ref14_cost [topA t, intsA p] (iA (cst t p)) := by
 have hc := fun a => cost_ok P hP t a
 refine ret_start (hP ▸ mixed) (hP ▸ fn_ref14_cost) (hP ▸ c_ref14_cost) (nle rfl) fun Λ Λo K hK => ?_
 clear hP
 have hb : ∀ a : Int, -1 ≤ costT t a ∧ costT t a ≤ 65535 := fun a => by
  by_cases h : validT t = true ∧ 0 ≤ a ∧ a < 2 * t.links.length
  ·have := cost_rg h.1 h.2.1 h.2.2; omega
  ·rw [costT, arcsT]
   by_cases hv : validT t = true
   ·rw [if_pos hv, if_neg (fun e => h ⟨hv, e⟩)]; omega
   ·rw [if_neg hv, if_neg (by omega)]; omega
 have hcs : cst t p = (p.map fun a => max 0 (costT t a)).sum := rfl
 rw [hcs] at hK
 clear hcs
 simp only [topA, intsA, intsD, boolsD, linksD] at *
 generalize t.ov.map encB = ovl at *
 generalize t.links.map encLk = lkl at *
 generalize t.nodes = nodes at *
 generalize costT t = co at *
 generalize plh : List.map encI p = pl at *
 have pln : Λ pl = p.length := by rw [Λo, ← plh]; simp
 conv => cbv
 repeat' first | exact gu | exact trivial | refine And.intro ?_ ?_ | (intro hc; exact absurd hc (by decide)) | (intro hc; exfalso; omega) | (intro hc; (first | rw [wS (by omega) (by omega)] at hc | rw [nI_eq] at hc | skip); try (conv => cbv))
 refine loop_up p.length (fun (s : Int × Int) => [(1, .c (.d (.list false 1 pl))), (2, .c (.ptr 0 0 0 0)), (5, iA s.1), (6, iA s.2)])
  (fun _ => [.bx [.d (iD nodes), .d (.list false 1 ovl), .d (.list false 7 lkl)]])
  (fun k s => s.2 = k ∧ k ≤ p.length ∧ s.1 = ((p.take k).map fun a => max 0 (co a)).sum ∧ 0 ≤ s.1 ∧ s.1 ≤ 65535 * k) (0, 0) (Wk.cw) ⟨rfl, by omega, by simp, by simp, by simp⟩ (fun k s h => h.2.1) ?_
 rintro k ⟨sm, i⟩ Q' ⟨hi, hk, hsm, hs0, hs1⟩ norm ex rt
 simp only at hi hsm hs0 hs1
 by_cases hlt : k < p.length
 ·obtain ⟨x, hx⟩ : ∃ x, p[k]? = some x := ⟨_, lgE hlt⟩
  have hxa := elt_at plh hi hx
  have hcx := hc x
  have hbx := hb x
  have htk : ((p.take (k + 1)).map fun a => max 0 (co a)).sum = sm + max 0 (co x) := by rw [take_succ_get hx]; simp [hsm]
  generalize co x = cx at *
  obtain ⟨mx, hmx⟩ : ∃ m, m = max 0 cx := ⟨_, rfl⟩
  rw [← hmx] at htk
  conv => cbv
  repeat' first | (intro e he; cases osj (he.symm.trans hxa); (conv => cbv)) | (refine call_r hcx rfl rfl ?_; conv => cbv) | exact gu | exact trivial | refine And.intro ?_ ?_ | (intro hc; exact absurd hc (by decide)) | (intro hc; exfalso; omega) | (intro hc; (first | rw [wS (by omega) (by omega)] at hc | rw [nI_eq] at hc | skip); try (conv => cbv))
  refine norm _ _ (_, _) ?_ (Wk.cw)
  exact ⟨by simp only; omega, by omega, by simp only; rw [htk]; omega, by simp only; omega, by simp only; omega⟩
 ·rw [List.take_of_length_le (by omega)] at hsm
  rw [← hsm] at hK
  conv => cbv
  repeat' first | exact gu | exact trivial | refine And.intro ?_ ?_ | (intro hc; exact absurd hc (by decide)) | (intro hc; exfalso; omega) | (intro hc; (first | rw [wS (by omega) (by omega)] at hc | rw [nI_eq] at hc | skip); try (conv => cbv))
  refine ex _ _ _ ?_
  conv => cbv
  repeat' first | exact gu | exact trivial | refine And.intro ?_ ?_ | (intro hc; exact absurd hc (by decide)) | (intro hc; exfalso; omega) | (intro hc; (first | rw [wS (by omega) (by omega)] at hc | rw [nI_eq] at hc | skip); try (conv => cbv))
  exact hK
theorem sign_ok (P : Program) (hP : P = Try.prog) (n : Int) : Ret P n_ref14_sign [iA n] (iA (cmI n 0)) := by
 refine ret_start (hP ▸ mixed) (hP ▸ fn_ref14_sign) (hP ▸ c_ref14_sign) (nle rfl) fun Λ Λo K hK => ?_
 clear hP
 have k1 : n < 0 → K (iA (-1)) := fun h => by rw [cmI, if_pos h] at hK; exact hK
 have k2 : 0 < n → K (iA 1) := fun h => by rw [cmI, if_neg (by omega), if_pos h] at hK; exact hK
 have k3 : n = 0 → K (iA 0) := fun h => by rw [cmI, if_neg (by omega), if_neg (by omega)] at hK; exact hK
 clear hK
 conv => cbv
 repeat' first | exact gu | exact trivial | refine And.intro ?_ ?_ | (intro hc; exact absurd hc (by decide)) | (intro hc; exfalso; omega) | (intro hc; (first | rw [wS (by omega) (by omega)] at hc | rw [nI_eq] at hc | skip); try (conv => cbv))
 all_goals first
  | exact k1 (by omega)
  | exact k2 (by omega)
  | exact k3 (by omega)
theorem rsame_ok (P : Program) (hP : P = Try.prog) (a b : List (List Int)) (ha : a.length ≤ 1000000) (hb : b.length ≤ 1000000) : Ret P n_ref14_Same [.c (.d (.list false 1 (a.map encRow))), .c (.d (.list false 1 (b.map encRow)))] (bA (decide (a = b))) := by
 have hs := fun x y => sameInts_ok P hP x y
 refine ret_start (hP ▸ mixed) (hP ▸ fn_ref14_Same) (hP ▸ c_ref14_Same) (nle rfl) fun Λ Λo K hK => ?_
 clear hP
 have yes := yes_of hK
 have no := no_of hK
 clear hK
 have hxa' : ∀ (k : Nat) (x : List Int), a[k]? = some x → (a.map encRow)[k]? = some [.list false 1 (x.map encI)] := fun k x hx => by rw [List.getElem?_map, hx]; rfl
 have hxb' : ∀ (k : Nat) (x : List Int), b[k]? = some x → (b.map encRow)[k]? = some [.list false 1 (x.map encI)] := fun k x hx => by rw [List.getElem?_map, hx]; rfl
 simp only [intsA, intsD] at *
 generalize hal : a.map encRow = al at *
 generalize hbl : b.map encRow = bl at *
 have aln : Λ al = a.length := by rw [Λo, ← hal]; simp
 have bln : Λ bl = b.length := by rw [Λo, ← hbl]; simp
 conv => cbv
 repeat' first | exact gu | exact trivial | refine And.intro ?_ ?_ | (intro hc; exact absurd hc (by decide)) | (intro hc; exfalso; omega) | (intro hc; (first | rw [wS (by omega) (by omega)] at hc | rw [nI_eq] at hc | skip); try (conv => cbv))
 ·exact no fun h => by subst h; omega
 refine loop_up a.length (fun i : Int => [(0, .c (.d (.list false 1 al))), (1, .c (.d (.list false 1 bl))), (5, iA i)]) (fun _ => []) (fun k i => i = k ∧ k ≤ a.length ∧ a.take k = b.take k) 0 (Wk.cw) ⟨rfl, by omega, by simp⟩ (fun k s h => h.2.1) ?_
 rintro k i Q' ⟨hi, hk, hno⟩ norm ex rt
 by_cases hlt : k < a.length
 ·obtain ⟨x, hx⟩ : ∃ x, a[k]? = some x := ⟨_, lgE hlt⟩
  obtain ⟨y, hy⟩ : ∃ y, b[k]? = some y := ⟨_, lgE (by omega)⟩
  have hxa := hxa' k x hx
  have hya := hxb' k y hy
  have hsx := hs x y
  have e1 : i.toNat = k := by omega
  rw [← e1] at hxa hya
  by_cases hxy : x = y
  ·rw [decide_eq_true hxy] at hsx
   generalize x.map encI = xl at *
   generalize y.map encI = yl at *
   conv => cbv
   repeat' first | (intro e he; cases osj (he.symm.trans hxa); (conv => cbv)) | (intro e he; cases osj (he.symm.trans hya); (conv => cbv)) | (refine call_r hsx rfl rfl ?_; conv => cbv) | exact gu | exact trivial | refine And.intro ?_ ?_ | (intro hc; exact absurd hc (by decide)) | (intro hc; exfalso; omega) | (intro hc; (first | rw [wS (by omega) (by omega)] at hc | rw [nI_eq] at hc | skip); try (conv => cbv))
   refine norm _ _ _ ?_ (Wk.cw)
   exact ⟨by omega, by omega, by rw [take_succ_get hx, take_succ_get hy, hno, hxy]⟩
  ·rw [decide_eq_false hxy] at hsx
   generalize x.map encI = xl at *
   generalize y.map encI = yl at *
   conv => cbv
   repeat' first | (intro e he; cases osj (he.symm.trans hxa); (conv => cbv)) | (intro e he; cases osj (he.symm.trans hya); (conv => cbv)) | (refine call_r hsx rfl rfl ?_; conv => cbv) | exact gu | exact trivial | refine And.intro ?_ ?_ | (intro hc; exact absurd hc (by decide)) | (intro hc; exfalso; omega) | (intro hc; (first | rw [wS (by omega) (by omega)] at hc | rw [nI_eq] at hc | skip); try (conv => cbv))
   refine rt _ _ ?_
   conv => cbv
   refine no fun h => ?_
   subst h; rw [hx] at hy; cases hy; exact hxy rfl
 ·conv => cbv
  repeat' first | exact gu | exact trivial | refine And.intro ?_ ?_ | (intro hc; exact absurd hc (by decide)) | (intro hc; exfalso; omega) | (intro hc; (first | rw [wS (by omega) (by omega)] at hc | rw [nI_eq] at hc | skip); try (conv => cbv))
  refine ex _ _ _ ?_
  conv => cbv
  repeat' first | exact gu | exact trivial | refine And.intro ?_ ?_ | (intro hc; exact absurd hc (by decide)) | (intro hc; exfalso; omega) | (intro hc; (first | rw [wS (by omega) (by omega)] at hc | rw [nI_eq] at hc | skip); try (conv => cbv))
  exact yes (by rw [List.take_of_length_le (by omega), List.take_of_length_le (by omega)] at hno; exact hno)
theorem rcmp_ok (P : Program) (hP : P = Try.prog) (t : Top) (a b : List Int) (ha : a.length ≤ 1000) (hb : b.length ≤ 1000) :
  Ret P n_ref14_Compare [topA t, intsA a, intsA b] (iA (ordS (cst t a) (cst t b) a b)) := by
 have h1 := rcost_ok P hP t a ha
 have h2 := rcost_ok P hP t b hb
 have h3 := fun n => sign_ok P hP n
 have c1 := cst_bound (t := t) (p := a)
 have c2 := cst_bound (t := t) (p := b)
 refine ret_start (hP ▸ mixed) (hP ▸ fn_ref14_Compare) (hP ▸ c_ref14_Compare) (nle rfl) fun Λ Λo K hK => ?_
 clear hP
 generalize cst t a = ca at *
 generalize cst t b = cb at *
 have k1 : ca ≠ cb → K (iA (cmI (ca - cb) 0)) := fun h => by
  rw [ordS, if_neg (fun e => h (cmI_z.1 e))] at hK
  rw [show cmI (ca - cb) 0 = cmI ca cb by unfold cmI; split <;> split <;> (try split) <;> (try split) <;> omega]; exact hK
 have k2 : ca = cb → a.length ≠ b.length → K (iA (cmI ((a.length : Int) - b.length) 0)) := fun h0 h => by
  rw [ordS, if_pos (cmI_z.2 h0), if_neg (fun e => h (by have := cmI_z.1 e; omega))] at hK
  rw [show cmI ((a.length : Int) - b.length) 0 = cmI a.length b.length by unfold cmI; split <;> split <;> (try split) <;> (try split) <;> omega]; exact hK
 have k3 : ca = cb → a.length = b.length → K (iA (lexC a b)) := fun h0 h => by
  rw [ordS, if_pos (cmI_z.2 h0), if_pos (cmI_z.2 (by omega))] at hK; exact hK
 clear hK
 have lz := @lexC_drop a b
 have l0 : lexC (a.drop 0) (b.drop 0) = lexC a b := by simp
 simp only [topA, intsA, intsD, boolsD, linksD] at *
 generalize t.ov.map encB = ovl at *
 generalize t.links.map encLk = lkl at *
 generalize t.nodes = nodes at *
 by_cases hca : ca = cb
 rotate_left
 ·have h3 := h3 (ca - cb)
  have k1 := k1 hca
  generalize cmI (ca - cb) 0 = r at *
  generalize a.map encI = al at *
  generalize b.map encI = bl at *
  obtain ⟨df, hdf⟩ : ∃ x, x = ca - cb := ⟨_, rfl⟩
  rw [← hdf] at h3
  conv => cbv
  repeat' first | (refine call_r h1 rfl rfl ?_; conv => cbv) | (refine call_r h2 rfl rfl ?_; conv => cbv) | (intro (k : Int) hk; rw [wS (by omega) (by omega)] at hk; refine (fun (hz : df = k) => ?_) ?_; rotate_left; omega; subst hz; (conv => cbv)) | (refine call_r h3 rfl rfl ?_; conv => cbv) | exact gu | exact trivial | refine And.intro ?_ ?_ | (intro hc; exact absurd hc (by decide)) | (intro hc; exfalso; omega) | (intro hc; (first | rw [wS (by omega) (by omega)] at hc | rw [nI_eq] at hc | skip); try (conv => cbv))
  exact k1
 subst hca
 generalize alh : List.map encI a = al at *
 have aln : Λ al = a.length := by rw [Λo, ← alh]; simp
 generalize blh : List.map encI b = bl at *
 have bln : Λ bl = b.length := by rw [Λo, ← blh]; simp
 by_cases hlen : a.length = b.length
 rotate_left
 ·have h3 := h3 ((a.length : Int) - b.length)
  have k2 := k2 rfl hlen
  generalize cmI ((a.length : Int) - b.length) 0 = r at *
  obtain ⟨df, hdf⟩ : ∃ x, x = (a.length : Int) - b.length := ⟨_, rfl⟩
  rw [← hdf] at h3
  conv => cbv
  repeat' first | (refine call_r h1 rfl rfl ?_; conv => cbv) | (refine call_r h2 rfl rfl ?_; conv => cbv) | (intro (k : Int) hk; rw [wS (by omega) (by omega)] at hk; refine (fun (hz : df = k) => ?_) ?_; rotate_left; omega; subst hz; (conv => cbv)) | (refine call_r h3 rfl rfl ?_; conv => cbv) | exact gu | exact trivial | refine And.intro ?_ ?_ | (intro hc; exact absurd hc (by decide)) | (intro hc; exfalso; omega) | (intro hc; (first | rw [wS (by omega) (by omega)] at hc | rw [nI_eq] at hc | skip); try (conv => cbv))
  exact k2
 have k3 := k3 rfl hlen
 clear k1 k2 h3
 rw [← l0] at k3
 conv => cbv
 repeat' first | (refine call_r h1 rfl rfl ?_; conv => cbv) | (refine call_r h2 rfl rfl ?_; conv => cbv) | exact gu | exact trivial | refine And.intro ?_ ?_ | (intro hc; exact absurd hc (by decide)) | (intro hc; exfalso; omega) | (intro hc; (first | rw [wS (by omega) (by omega)] at hc | rw [nI_eq] at hc | skip); try (conv => cbv))
 refine loop_up a.length (fun i : Int => [(1, .c (.d (.list false 1 al))), (2, .c (.d (.list false 1 bl))), (9, iA i)]) (fun _ => []) (fun k i => i = k ∧ k ≤ a.length ∧ lexC (a.drop k) (b.drop k) = lexC (a.drop 0) (b.drop 0)) 0 (Wk.cw) ⟨rfl, by omega, rfl⟩ (fun k s h => h.2.1) ?_
 rintro k i Q' ⟨hi, hk, hno⟩ norm ex rt
 rw [← hno] at k3
 by_cases hlt : k < a.length
 ·obtain ⟨x, hx⟩ : ∃ x, a[k]? = some x := ⟨_, lgE hlt⟩
  obtain ⟨y, hy⟩ : ∃ y, b[k]? = some y := ⟨_, lgE (by omega)⟩
  have hxa := elt_at alh hi hx
  have hya := elt_at blh hi hy
  have hl := lz hx hy
  rw [hl] at k3
  by_cases h1 : x < y
  ·rw [if_pos h1] at k3
   conv => cbv
   repeat' first | (intro e he; cases osj (he.symm.trans hxa); (conv => cbv)) | (intro e he; cases osj (he.symm.trans hya); (conv => cbv)) | (intro (e : List D) he; cases osj (he.symm.trans hxa); (conv => cbv)) | (intro (e : List D) he; cases osj (he.symm.trans hya); (conv => cbv)) | exact gu | exact trivial | refine And.intro ?_ ?_ | (intro hc; exact absurd hc (by decide)) | (intro hc; exfalso; omega) | (intro hc; (first | rw [wS (by omega) (by omega)] at hc | rw [nI_eq] at hc | skip); try (conv => cbv))
   refine rt _ _ ?_
   conv => cbv
   exact k3
  ·rw [if_neg h1] at k3 hl
   by_cases h2 : y < x
   ·rw [if_pos h2] at k3
    conv => cbv
    repeat' first | (intro e he; cases osj (he.symm.trans hxa); (conv => cbv)) | (intro e he; cases osj (he.symm.trans hya); (conv => cbv)) | (intro (e : List D) he; cases osj (he.symm.trans hxa); (conv => cbv)) | (intro (e : List D) he; cases osj (he.symm.trans hya); (conv => cbv)) | exact gu | exact trivial | refine And.intro ?_ ?_ | (intro hc; exact absurd hc (by decide)) | (intro hc; exfalso; omega) | (intro hc; (first | rw [wS (by omega) (by omega)] at hc | rw [nI_eq] at hc | skip); try (conv => cbv))
    refine rt _ _ ?_
    conv => cbv
    exact k3
   ·rw [if_neg h2] at hl
    conv => cbv
    repeat' first | (intro e he; cases osj (he.symm.trans hxa); (conv => cbv)) | (intro e he; cases osj (he.symm.trans hya); (conv => cbv)) | (intro (e : List D) he; cases osj (he.symm.trans hxa); (conv => cbv)) | (intro (e : List D) he; cases osj (he.symm.trans hya); (conv => cbv)) | exact gu | exact trivial | refine And.intro ?_ ?_ | (intro hc; exact absurd hc (by decide)) | (intro hc; exfalso; omega) | (intro hc; (first | rw [wS (by omega) (by omega)] at hc | rw [nI_eq] at hc | skip); try (conv => cbv))
    refine norm _ _ _ ?_ (Wk.cw)
    exact ⟨by omega, by omega, by rw [← hl, hno]⟩
 ·rw [List.drop_of_length_le (by omega), List.drop_of_length_le (by omega)] at k3
  conv => cbv
  repeat' first | exact gu | exact trivial | refine And.intro ?_ ?_ | (intro hc; exact absurd hc (by decide)) | (intro hc; exfalso; omega) | (intro hc; (first | rw [wS (by omega) (by omega)] at hc | rw [nI_eq] at hc | skip); try (conv => cbv))
  refine ex _ _ _ ?_
  conv => cbv
  repeat' first | exact gu | exact trivial | refine And.intro ?_ ?_ | (intro hc; exact absurd hc (by decide)) | (intro hc; exfalso; omega) | (intro hc; (first | rw [wS (by omega) (by omega)] at hc | rw [nI_eq] at hc | skip); try (conv => cbv))
  exact k3
theorem rdelay_ok (P : Program) (hP : P = Try.prog) (t : Top) (p : List Int) (hp : p.length ≤ 1000) : Ret P n_ref14_Delay [topA t, intsA p] (.tup [iA (delS t p).1, iA (delS t p).2]) := by
 have harc := arcs_ok P hP t
 have hv := valid_ok P hP t
 refine ret_start (hP ▸ mixed) (hP ▸ fn_ref14_Delay) (hP ▸ c_ref14_Delay) (nle rfl) fun Λ Λo K hK => ?_
 clear hP
 have hdl : validT t = true → ∀ a : Int, 0 ≤ a → a < 2 * t.links.length → 1 ≤ (lkAt t a).dl ∧ (lkAt t a).dl ≤ 65536 := fun hv a h0 h1 => (okLk_spec.1 (lk_ok hv h0 h1)).2.2.2.2.2.2.1
 have hat : ∀ (a : Int) x, t.links[(a / 2).toNat]? = some x → lkAt t a = x := fun a x hx => by simp [lkAt, hx]
 have kv : validT t = true → (∀ a ∈ p, 0 ≤ a ∧ a < 2 * t.links.length) → K (.tup [iA ((p.map fun a => (lkAt t a).dl).sum), iA 0]) := fun h1 h2 => by rw [delS, if_pos h1, if_pos h2] at hK; exact hK
 have kr : validT t = true → ¬ (∀ a ∈ p, 0 ≤ a ∧ a < 2 * t.links.length) → K (.tup [iA 0, iA 2]) := fun h1 h2 => by rw [delS, if_pos h1, if_neg h2] at hK; exact hK
 have kn : validT t = false → K (.tup [iA 0, iA 1]) := fun h1 => by rw [delS, if_neg (by rw [h1]; decide)] at hK; exact hK
 clear hK
 generalize lkAt t = lk at *
 simp only [intsA, intsD] at *
 cases hvb : validT t
 ·rw [hvb] at hv
  have kn := kn hvb
  simp only [topA, boolsD, linksD] at *
  generalize t.ov.map encB = ovl at *
  generalize t.links.map encLk = lkl at *
  generalize p.map encI = pl at *
  conv => cbv
  repeat' first | (refine call_r hv rfl rfl ?_; conv => cbv) | exact gu | exact trivial | refine And.intro ?_ ?_ | (intro hc; exact absurd hc (by decide)) | (intro hc; exfalso; omega) | (intro hc; (first | rw [wS (by omega) (by omega)] at hc | rw [nI_eq] at hc | skip); try (conv => cbv))
  exact kn
 ·rw [hvb] at hv
  rw [arcsT, if_pos hvb] at harc
  have kr := kr hvb
  have kv := kv hvb
  have hdl := hdl hvb
  have hL := (validT_spec.1 hvb).2.2.1
  clear kn hvb
  obtain ⟨nodes, ov, links⟩ := t
  simp only [topA, boolsD, linksD] at *
  generalize hol : ov.map encB = ol at *
  generalize hll : links.map encLk = ll at *
  have hlo : Λ ol = ov.length := by rw [Λo, ← hol]; simp
  have hls : Λ ll = links.length := by rw [Λo, ← hll]; simp
  generalize plh : List.map encI p = pl at *
  have pln : Λ pl = p.length := by rw [Λo, ← plh]; simp
  obtain ⟨M, hM⟩ : ∃ M : Int, M = 2 * links.length := ⟨_, rfl⟩
  rw [← hM] at harc
  conv => cbv
  repeat' first | (refine call_r hv rfl rfl ?_; conv => cbv) | exact gu | exact trivial | refine And.intro ?_ ?_ | (intro hc; exact absurd hc (by decide)) | (intro hc; exfalso; omega) | (intro hc; (first | rw [wS (by omega) (by omega)] at hc | rw [nI_eq] at hc | skip); try (conv => cbv))
  refine loop_up p.length (fun (s : Int × Int) => [(1, .c (.d (.list false 1 pl))), (2, .c (.ptr 0 0 0 0)), (4, iA 0), (5, iA 0), (6, iA s.1), (7, iA s.2)])
   (fun _ => [.bx [.d (.int .i64 nodes), .d (.list false 1 ol), .d (.list false 7 ll)]])
   (fun k s => s.2 = k ∧ k ≤ p.length ∧ s.1 = ((p.take k).map fun a => (lk a).dl).sum ∧ 0 ≤ s.1 ∧ s.1 ≤ 65536 * k ∧ ∀ a ∈ p.take k, 0 ≤ a ∧ a < 2 * links.length) (0, 0) (Wk.cw) ⟨rfl, by omega, by simp, by simp, by simp, by simp⟩ (fun k s h => h.2.1) ?_
  rintro k ⟨sm, i⟩ Q' ⟨hi, hk, hsm, hs0, hs1, hal⟩ norm ex rt
  simp only at hi hsm hs0 hs1 hal
  by_cases hlt : k < p.length
  ·obtain ⟨x, hx⟩ : ∃ x, p[k]? = some x := ⟨_, lgE hlt⟩
   have hxa := elt_at plh hi hx
   have hdx := hdl x
   have hatx := hat x
   have htk : ((p.take (k + 1)).map fun a => (lk a).dl).sum = sm + (lk x).dl := by rw [take_succ_get hx]; simp [hsm]
   by_cases hr : 0 ≤ x ∧ x < 2 * links.length
   ·have hdx := hdx hr.1 hr.2
    conv => cbv
    repeat' first | (intro e he; cases osj (he.symm.trans hxa); (conv => cbv)) | (refine call_r harc rfl rfl ?_; conv => cbv) | (intro hc; rw [tdiv2 (by omega) (by omega)] at hc; conv => cbv) | (intro (_ : Unit); decide) | (intro e he; obtain ⟨⟨xa, xb, xc, xd, xe, xf, xg⟩, hlx, rfl⟩ := map_get' hll he; have hlk := hatx _ (get_at hlx (by omega)); rw [hlk] at hdx htk; simp only at hdx htk; (conv => cbv)) | exact gu | exact trivial | refine And.intro ?_ ?_ | (intro hc; exact absurd hc (by decide)) | (intro hc; exfalso; omega) | (intro hc; (first | rw [wS (by omega) (by omega)] at hc | rw [nI_eq] at hc | skip); try (conv => cbv))
    refine norm _ _ (_, _) ?_ (Wk.cw)
    refine ⟨by simp only; omega, by omega, by simp only; rw [htk]; omega, by simp only; omega, by simp only; omega, fun a ha => ?_⟩
    rw [take_succ_get hx] at ha
    rcases List.mem_append.1 ha with ha | ha
    ·exact hal a ha
    ·rw [List.mem_singleton.1 ha]; exact hr
   ·have kr := kr (fun h => hr (h x (List.mem_of_getElem? hx)))
    conv => cbv
    repeat' first | (intro e he; cases osj (he.symm.trans hxa); (conv => cbv)) | (refine call_r harc rfl rfl ?_; conv => cbv) | exact gu | exact trivial | refine And.intro ?_ ?_ | (intro hc; exact absurd hc (by decide)) | (intro hc; exfalso; omega) | (intro hc; (first | rw [wS (by omega) (by omega)] at hc | rw [nI_eq] at hc | skip); try (conv => cbv))
    all_goals
     refine rt _ _ ?_
     conv => cbv
     exact kr
  ·rw [List.take_of_length_le (by omega)] at hsm hal
   have kv := kv hal
   rw [← hsm] at kv
   conv => cbv
   repeat' first | exact gu | exact trivial | refine And.intro ?_ ?_ | (intro hc; exact absurd hc (by decide)) | (intro hc; exfalso; omega) | (intro hc; (first | rw [wS (by omega) (by omega)] at hc | rw [nI_eq] at hc | skip); try (conv => cbv))
   refine ex _ _ _ ?_
   conv => cbv
   repeat' first | exact gu | exact trivial | refine And.intro ?_ ?_ | (intro hc; exact absurd hc (by decide)) | (intro hc; exfalso; omega) | (intro hc; (first | rw [wS (by omega) (by omega)] at hc | rw [nI_eq] at hc | skip); try (conv => cbv))
   exact kv
end Go.Ab

/-
  The reference's enumeration of paths.
-/
namespace Go.Ab
open Go.Proofs
def extS (t : Top) (down : List Bool) (d : Int) : Nat → List Int → Int → List Bool → List (List Int)
 | 0, _, _, _ => []
 | m + 1, path, at', sn => if at' = d then [path] else if path ≠ [] ∧ ovT t at' = true then [] else
  (outT t at').flatMap fun a => if dnB down a = true ∨ sn.getD (headT t a).toNat false = true then [] else extS t down d m (path ++ [a]) (headT t a) (sn.set (headT t a).toNat true)
theorem extS_len (t : Top) (down : List Bool) (d : Int) (h : ∀ n, (outT t n).length ≤ 22) : ∀ m path at' sn, (extS t down d m path at' sn).length ≤ 23 ^ m
 | 0, _, _, _ => by simp [extS]
 |m + 1, path, at', sn => by
  have hp : 0 < 23 ^ m := Nat.pow_pos (by decide)
  rw [extS]
  split
  ·simp only [List.length_cons, List.length_nil, Nat.pow_succ]; omega
  ·split
   ·simp
   ·have key : ∀ l : List Int, (l.flatMap fun a => if dnB down a = true ∨ sn.getD (headT t a).toNat false = true then [] else extS t down d m (path ++ [a]) (headT t a) (sn.set (headT t a).toNat true)).length ≤ l.length * 23 ^ m := by
     intro l
     induction l with
     | nil => simp
     | cons a r ih =>
      rw [List.flatMap_cons, List.length_append, List.length_cons, Nat.succ_mul]
      have : (if dnB down a = true ∨ sn.getD (headT t a).toNat false = true then [] else extS t down d m (path ++ [a]) (headT t a) (sn.set (headT t a).toNat true)).length ≤ 23 ^ m := by
       split
       ·simp
       ·exact extS_len t down d h m _ _ _
      omega
    have h1 := key (outT t at')
    have h2 := h at'
    have h3 : (outT t at').length * 23 ^ m ≤ 22 * 23 ^ m := Nat.mul_le_mul_right _ h2
    rw [Nat.pow_succ]
    omega
def freeB (sn : List Bool) : Nat := sn.countP (fun b => !b)
theorem freeB_set {sn : List Bool} {j : Nat} (h : sn[j]? = some false) : freeB (sn.set j true) + 1 = freeB sn := by
 induction sn generalizing j with
 | nil => simp at h
 | cons b r ih =>
  cases j with
  | zero =>
   simp only [List.getElem?_cons_zero, osi] at h
   subst h
   simp [freeB]
  | succ j =>
   have := ih (j := j) (by simpa using h)
   unfold freeB at this ⊢
   rw [List.set_cons_succ, List.countP_cons, List.countP_cons]
   omega
set_option maxRecDepth 20000 in
set_option maxHeartbeats 4000000 in
theorem extend_ok (P : Program) (hP : P = Try.prog) (t : Top) (down : List Bool) (d : Int) (hv : validT t = true) (hL : t.links.length ≤ 11) (ho22 : ∀ n, (outT t n).length ≤ 22) :
  ∀ (m : Nat) (path : List Int) (at' : Int) (sn : List Bool) (O : List (List Int)) (sv ov : Nat) (ro : Bool), freeB sn < m → (0 ≤ at' ∧ at' < t.nodes) → (sn.length : Int) = t.nodes → path.length + m ≤ 100 → O.length + 23 ^ m ≤ 1801152661463 →
  FnS P n_ref14_extend [topA t, boolsA down, intsA path, iA at', iA d, .c (.arr 0 sv 0 sn.length), .c (.arr 1 ov 0 O.length)] [.da true sv 1 (sn.map encB), .da ro ov 1 (O.map encRow)] fun r h' =>
   ∃ ov' ro', r = .c (.arr 1 ov' 0 (O ++ extS t down d m path at' sn).length) ∧ h' = [.da true sv 1 (sn.map encB), .da ro' ov' 1 ((O ++ extS t down d m path at' sn).map encRow)] := by
 intro m
 induction m with
 | zero => intro path at' sn O sv ov ro hf; omega
 | succ m ih =>
  intro path at' sn O sv ov ro hfr hat hsl hpl hOl
  have hov := fun n => overloaded_ok P hP t n
  have hout := out_ok P hP t at'
  have hhd := fun a => head_ok P hP t a
  have hdn := fun a => rdown_ok P hP down a
  have hlen := extS_len t down d ho22 (m + 1) path at' sn
  have h23 : (23 : Nat) ^ (m + 1) = 23 * 23 ^ m := by rw [Nat.pow_succ, Nat.mul_comm]
  have hp23 : 0 < 23 ^ m := Nat.pow_pos (by decide)
  have hraw : FnS P n_ref14_extend [topA t, boolsA down, intsA path, iA at', iA d, .c (.arr 0 sv 0 sn.length), .c (.arr 1 ov 0 O.length)] [.da true sv 1 (sn.map encB), .da ro ov 1 (O.map encRow)] fun r h' =>
   ∃ ov' ro', r = .c (.arr 1 ov' 0 (O ++ extS t down d (m + 1) path at' sn).length) ∧ ∃ b, h' = [.da true sv 1 (sn.map encB), .da ro' ov' 1 ((O ++ extS t down d (m + 1) path at' sn).map encRow)] ++ b := by
   have hfo : True := trivial
   refine heap_start (hP ▸ mixed) (hP ▸ fn_ref14_extend) (hP ▸ c_ref14_extend) (nle rfl) fun Λ Λo K hK => ?_
   clear hP
   have hK : ∀ (O' : List (List Int)) ov' ro' b, O' = O ++ extS t down d (m + 1) path at' sn → K (.c (.arr 1 ov' 0 O'.length)) ([.da true sv 1 (sn.map encB), .da ro' ov' 1 (O'.map encRow)] ++ b) := fun O' ov' ro' b e => by subst e; exact hK _ _ ⟨ov', ro', rfl, b, rfl⟩
   have hoin : ∀ a ∈ outT t at', 0 ≤ a ∧ a < 2 * t.links.length ∧ tailT t a = at' := fun a ha => by
    rw [outT, List.mem_filter, decide_eq_true_eq] at ha
    obtain ⟨h1, h2⟩ := ha
    rw [arcsTo, List.mem_map] at h1
    obtain ⟨j, hj, rfl⟩ := h1
    rw [List.mem_range, arcsT, if_pos hv] at hj
    exact ⟨by omega, by omega, h2⟩
   have hhr : ∀ a : Int, 0 ≤ a → a < 2 * t.links.length → 0 ≤ headT t a ∧ headT t a < t.nodes := fun a h0 h1 => by
    have := endG_range hv true h0 h1
    have e : headT t a = endG t true a := by rw [headT, arcsT, if_pos hv, if_pos ⟨h0, h1⟩]; rfl
    rw [e]; exact this
   simp only [topA, intsA, intsD, boolsA, boolsD, linksD] at *
   generalize t.ov.map encB = ovl at *
   generalize t.links.map encLk = lkl at *
   generalize down.map encB = dwl at *
   obtain ⟨nS, hnS⟩ : ∃ x, x = sn.length := ⟨_, rfl⟩
   obtain ⟨nO, hnO⟩ : ∃ x, x = O.length := ⟨_, rfl⟩
   obtain ⟨Oe, hOe⟩ : ∃ x, x = O.map encRow := ⟨_, rfl⟩
   obtain ⟨pl, hpth⟩ : ∃ x, x = path.map encI := ⟨_, rfl⟩
   have pln : Λ pl = path.length := by rw [Λo, hpth]; simp
   obtain ⟨np, hnp⟩ : ∃ x, x = path.length := ⟨_, rfl⟩
   have hpll : pl.length = path.length := by rw [hpth]; simp
   obtain ⟨se, hse⟩ : ∃ x, x = sn.map encB := ⟨_, rfl⟩
   have hsel : se.length = sn.length := by rw [hse]; simp
   rw [← hse, ← hOe, ← hpth, ← hnS, ← hnO]
   rw [← hse] at hK
   by_cases had : at' = d
   ·have hK := fun ov' ro' b => hK (O ++ [path]) ov' ro' b (by rw [extS, if_pos had])
    obtain ⟨n1, hnn1⟩ : ∃ y, y = nO + 1 := ⟨_, rfl⟩
    obtain ⟨ye, hye⟩ : ∃ y, y = (O ++ [path]).map encRow := ⟨_, rfl⟩
    have hye2 : ye = (Oe.drop 0).take nO ++ [[.list false 1 (pl.take np)]] := by
     rw [hye, List.drop_zero, List.map_append, ← hOe, List.take_of_length_le (by rw [hOe, List.length_map]; omega), List.take_of_length_le (by omega), hpth]; rfl
    have hl1 : (O ++ [path]).length = n1 := by rw [List.length_append, ← hnO, hnn1]; rfl
    rw [hl1, ← hye] at hK
    clear hov hout hhd hdn ih hlen
    generalize t.nodes = nodes at *
    conv => cbv
    repeat' first | (intro (_ : Unit); show (0 + pl.length) * 8 ≤ _; omega) | (intro (m : Nat) (r : Bool) (y : List (List D)) hm2 hr2 hy2; refine (fun (hz : np = m) (hz2 : pl = y) => ?_) (by rw [hm2]; show np = 0 + pl.length; omega) (by rw [hy2]; try rfl); subst hz hz2; (conv => cbv)) | (intro (m : Nat) (r : Bool) (y : List (List D)) hm2 hr2 hy2; refine (fun (hz : n1 = m) (hz2 : ye = y) => ?_) (by rw [hm2, hnn1]; rfl) (by rw [hye2, hy2]; first | rfl | (cases np <;> cases pl <;> rfl)); subst hz hz2; (conv => cbv)) | exact gu | exact trivial | refine And.intro ?_ ?_ | (intro hc; exact absurd hc (by decide)) | (intro hc; exfalso; omega) | (intro hc; (first | rw [wS (by omega) (by omega)] at hc | rw [nI_eq] at hc | skip); try (conv => cbv))
    exact hK _ _ _
   have hat3 : extS t down d (m + 1) path at' sn = if path ≠ [] ∧ ovT t at' = true then [] else
     (outT t at').flatMap fun a => if dnB down a = true ∨ sn.getD (headT t a).toNat false = true then [] else extS t down d m (path ++ [a]) (headT t a) (sn.set (headT t a).toNat true) := by rw [extS, if_neg had]
   have hova := hov at'
   by_cases hcv : path ≠ [] ∧ ovT t at' = true
   ·have hK := fun ov' ro' b => hK O ov' ro' b (by rw [hat3, if_pos hcv, List.append_nil])
    rw [← hnO, ← hOe] at hK
    rw [hcv.2] at hova
    have := List.length_pos_iff.2 hcv.1
    clear hov hout hhd hdn ih hlen hat3
    generalize t.nodes = nodes at *
    conv => cbv
    repeat' first | (refine call_r hova rfl rfl ?_; conv => cbv) | exact gu | exact trivial | refine And.intro ?_ ?_ | (intro hc; exact absurd hc (by decide)) | (intro hc; exfalso; omega) | (intro hc; (first | rw [wS (by omega) (by omega)] at hc | rw [nI_eq] at hc | skip); try (conv => cbv))
    exact hK _ _ _
   rw [if_neg hcv] at hat3
   rw [hat3] at hK hlen
   clear hat3
   obtain ⟨f, hf⟩ : ∃ f : Int → List (List Int), f = fun a => if dnB down a = true ∨ sn.getD (headT t a).toNat false = true then [] else extS t down d m (path ++ [a]) (headT t a) (sn.set (headT t a).toNat true) := ⟨_, rfl⟩
   rw [← hf] at hK hlen
   have hcv2 : path = [] ∨ ovT t at' = false := by
    by_cases h1 : path = []
    ·exact .inl h1
    ·exact .inr (by
      cases hb : ovT t at' with
      | false => rfl
      | true => exact absurd ⟨h1, hb⟩ hcv)
   have hf0 : ∀ a, dnB down a = true ∨ sn.getD (headT t a).toNat false = true → f a = [] := fun a h => by rw [hf]; exact if_pos h
   have hf1 : ∀ a, ¬ (dnB down a = true ∨ sn.getD (headT t a).toNat false = true) → f a = extS t down d m (path ++ [a]) (headT t a) (sn.set (headT t a).toNat true) := fun a h => by rw [hf]; exact if_neg h
   have hfl : ∀ a, (f a).length ≤ 23 ^ m := fun a => by
    by_cases h : dnB down a = true ∨ sn.getD (headT t a).toNat false = true
    ·rw [hf0 a h]; simp
    ·rw [hf1 a h]; exact extS_len t down d ho22 m _ _ _
   clear hf hcv hov hlen
   have hor22 := ho22 at'
   obtain ⟨arcs, harcs⟩ : ∃ x, x = outT t at' := ⟨_, rfl⟩
   rw [← harcs] at hK hout hoin hor22
   obtain ⟨al, hal⟩ : ∃ x, x = arcs.map encI := ⟨_, rfl⟩
   rw [← hal] at hout
   have aln : Λ al = arcs.length := by rw [Λo, hal]; simp
   generalize ovT t at' = ova at *
   generalize t.nodes = nodes at *
   have hcases : (path = [] ∧ np = 0) ∨ (0 < np ∧ ova = false) := by
    rcases hcv2 with h | h
    ·left; rw [hnp, h]; exact ⟨rfl, rfl⟩
    ·by_cases h2 : path = []
     ·left; rw [hnp, h2]; exact ⟨rfl, rfl⟩
     ·right; exact ⟨by rw [hnp]; exact List.length_pos_iff.2 h2, h⟩
   rcases hcases with ⟨hp0, hnp0⟩ | ⟨hnp0, hva⟩
   all_goals try rw [hva] at hova
   all_goals
    conv => cbv
    repeat' first | (refine call_r hova rfl rfl ?_; conv => cbv) | (refine call_r hout rfl rfl ?_; conv => cbv) | exact gu | exact trivial | refine And.intro ?_ ?_ | (intro hc; exact absurd hc (by decide)) | (intro hc; exfalso; omega) | (intro hc; (first | rw [wS (by omega) (by omega)] at hc | rw [nI_eq] at hc | skip); try (conv => cbv))
    refine loop_up arcs.length (fun (s : List (List Int) × Nat × Bool × Int) => [(1, .c (.d (.list false 1 dwl))), (2, .c (.d (.list false 1 pl))), (4, iA d), (5, .c (.arr 0 sv 0 nS)), (6, .c (.arr 1 s.2.1 0 s.1.length)), (7, .c (.ptr 2 0 0 0)), (14, .c (.d (.list true 1 []))), (15, .c (.d (.list false 1 al))), (16, iA s.2.2.2)])
     (fun s => [.da true sv 1 se, .da s.2.2.1 s.2.1 1 (s.1.map encRow), .bx [.d (iD nodes), .d (.list false 1 ovl), .d (.list false 7 lkl)]])
     (fun k s => s.2.2.2 = k ∧ k ≤ arcs.length ∧ s.1 = O ++ (arcs.take k).flatMap f ∧ s.1.length ≤ nO + k * 23 ^ m) (O, ov, ro, 0) (by rw [hnO, hOe]; exact (Wk.ca)) ⟨rfl, by omega, by simp, by simp only; omega⟩ (fun k s h => h.2.1) ?_
    rintro k ⟨Ok, ov, ro, i⟩ Q' ⟨hi, hk, hOk, hOkl⟩ norm ex rt
    simp only at hi hOk hOkl
    have hk22 : k * 23 ^ m ≤ 22 * 23 ^ m := Nat.mul_le_mul_right _ (by omega)
    obtain ⟨nOk, hnOk⟩ : ∃ x, x = Ok.length := ⟨_, rfl⟩
    obtain ⟨Oke, hOke⟩ : ∃ x, x = Ok.map encRow := ⟨_, rfl⟩
    simp only
    rw [← hnOk, ← hOke]
    by_cases hlt : k < arcs.length
    ·obtain ⟨x, hx⟩ : ∃ x, arcs[k]? = some x := ⟨_, lgE hlt⟩
     have hxa := elt_at hal.symm hi hx
     have hxm := hoin x (List.mem_of_getElem? hx)
     have hxr := hhr x hxm.1 hxm.2.1
     have hhx := hhd x
     have hdx := hdn x
     have hf0x := hf0 x
     have hf1x := hf1 x
     have hflx := hfl x
     have htk : (arcs.take (k + 1)).flatMap f = (arcs.take k).flatMap f ++ f x := by rw [take_succ_get hx]; simp
     obtain ⟨hdn', hhd'⟩ : ∃ j : Nat, (j : Int) = headT t x := ⟨(headT t x).toNat, by omega⟩
     have hsj : ∃ b, sn[hdn']? = some b := ⟨_, lgE (by omega)⟩
     obtain ⟨bj, hbj⟩ := hsj
     have hja : se[hdn']? = some [.bool bj] := by rw [hse, List.getElem?_map, hbj]; rfl
     have hgd : sn.getD (headT t x).toNat false = bj := by rw [List.getD_eq_getElem?_getD, show (headT t x).toNat = hdn' by omega, hbj]; rfl
     rw [hgd] at hf0x hf1x
     have hsm : (k + 1) * 23 ^ m = k * 23 ^ m + 23 ^ m := Nat.succ_mul k _
     by_cases hskip : dnB down x = true ∨ bj = true
     ·have hnx : Ok = O ++ (arcs.take (k + 1)).flatMap f := by rw [htk, hf0x hskip, List.append_nil, hOk]
      generalize headT t x = hdx2 at *
      by_cases hd1 : dnB down x = true
      ·rw [hd1] at hdx
       conv => cbv
       repeat' first | (intro (k : Nat) hk; refine (fun (hz : hdn' = k) => ?_) ?_; rotate_left; omega; subst hz; (conv => cbv)) | (intro e he; cases osj (he.symm.trans hxa); (conv => cbv)) | (intro (e : List D) he; cases osj (he.symm.trans hxa); (conv => cbv)) | (intro (e : List D) he; cases osj (he.symm.trans hja); (conv => cbv)) | (refine call_r hhx rfl rfl ?_; conv => cbv) | (refine call_r hdx rfl rfl ?_; conv => cbv) | exact gu | exact trivial | refine And.intro ?_ ?_ | (intro hc; exact absurd hc (by decide)) | (intro hc; exfalso; omega) | (intro hc; (first | rw [wS (by omega) (by omega)] at hc | rw [nI_eq] at hc | skip); try (conv => cbv))
       refine norm _ _ (Ok, ov, ro, _) ?_ (by simp only; rw [← hnOk, ← hOke]; exact (Wk.ca))
       exact ⟨by simp only; omega, by omega, hnx, by simp only; omega⟩
      ·rw [Bool.eq_false_iff.2 hd1] at hdx
       have hb1 : bj = true := hskip.resolve_left hd1
       rw [hb1] at hja
       conv => cbv
       repeat' first | (intro (k : Nat) hk; refine (fun (hz : hdn' = k) => ?_) ?_; rotate_left; omega; subst hz; (conv => cbv)) | (intro e he; cases osj (he.symm.trans hxa); (conv => cbv)) | (intro (e : List D) he; cases osj (he.symm.trans hxa); (conv => cbv)) | (intro (e : List D) he; cases osj (he.symm.trans hja); (conv => cbv)) | (refine call_r hhx rfl rfl ?_; conv => cbv) | (refine call_r hdx rfl rfl ?_; conv => cbv) | exact gu | exact trivial | refine And.intro ?_ ?_ | (intro hc; exact absurd hc (by decide)) | (intro hc; exfalso; omega) | (intro hc; (first | rw [wS (by omega) (by omega)] at hc | rw [nI_eq] at hc | skip); try (conv => cbv))
       refine norm _ _ (Ok, ov, ro, _) ?_ (by simp only; rw [← hnOk, ← hOke]; exact (Wk.ca))
       exact ⟨by simp only; omega, by omega, hnx, by simp only; omega⟩
     rw [not_or] at hskip
     have hd1 := Bool.eq_false_iff.2 hskip.1
     have hb1 := Bool.eq_false_iff.2 hskip.2
     subst hb1
     have hfx := hf1x (not_or.2 hskip)
     rw [hd1] at hdx
     have hjn : (headT t x).toNat = hdn' := by omega
     rw [hjn] at hfx
     have hfr2 := freeB_set hbj
     have hih := ih (path ++ [x]) (headT t x) (sn.set hdn' true) Ok sv ov ro (by omega) hxr (by rw [List.length_set]; exact hsl) (by rw [List.length_append, List.length_cons, List.length_nil]; omega) (by rw [← hnOk] at hOkl; rw [← hnOk]; omega)
     rw [← hfx, List.length_set, ← hnS, ← hnOk, ← hOke] at hih
     obtain ⟨np1, hnp1⟩ : ∃ y, y = np + 1 := ⟨_, rfl⟩
     obtain ⟨pl1, hpl1⟩ : ∃ y, y = (path ++ [x]).map encI := ⟨_, rfl⟩
     have hpl12 : pl1 = pl.take np ++ [[iD x]] := by rw [hpl1, List.map_append, ← hpth, List.take_of_length_le (by omega)]; rfl
     have hpl1l : np1 = pl1.length := by rw [hpl1, List.length_map, List.length_append, hnp1, hnp]; rfl
     rw [← hpl1] at hih
     obtain ⟨es2, hes2⟩ : ∃ y, y = se.set hdn' [.bool true] := ⟨_, rfl⟩
     have hes22 : es2 = (sn.set hdn' true).map encB := by rw [hes2, hse, List.map_set]; rfl
     rw [← hes22] at hih
     obtain ⟨se3, hse3⟩ : ∃ y, y = es2.set hdn' [.bool false] := ⟨_, rfl⟩
     have hse4 : se3 = se := by
      rw [hse3, hes2, List.set_set]
      apply List.ext_getElem?
      intro j
      rw [List.getElem?_set]
      split
      ·rename_i e; subst e
       rw [if_pos (get_lt hja), hja]
      ·rfl
     have hjb : es2[hdn']? = some [.bool true] := by rw [hes2, List.getElem?_set, if_pos rfl, if_pos (get_lt hja)]
     have hesl : es2.length = sn.length := by rw [hes2, List.length_set]; exact hsel
     clear hf0x hf1x ih hf0 hf1 hhd hdn
     generalize headT t x = hdx2 at *
     generalize f x = fx at *
     have hOk2 : Ok ++ fx = O ++ (arcs.take (k + 1)).flatMap f := by rw [htk, hOk, List.append_assoc]
     have hOk2l : (Ok ++ fx).length ≤ nO + (k + 1) * 23 ^ m := by rw [List.length_append]; omega
     obtain ⟨nO2, hnO2⟩ : ∃ y, y = (Ok ++ fx).length := ⟨_, rfl⟩
     obtain ⟨Oe2, hOe2⟩ : ∃ y, y = (Ok ++ fx).map encRow := ⟨_, rfl⟩
     rw [← hnO2, ← hOe2] at hih
     conv => cbv
     repeat' first | (intro (k : Nat) hk; refine (fun (hz : hdn' = k) => ?_) ?_; rotate_left; omega; subst hz; (conv => cbv)) | (intro e he; cases osj (he.symm.trans hxa); (conv => cbv)) | (intro (e : List D) he; cases osj (he.symm.trans hxa); (conv => cbv)) | (intro (e : List D) he; cases osj (he.symm.trans hja); (conv => cbv)) | (refine call_r hhx rfl rfl ?_; conv => cbv) | (refine call_r hdx rfl rfl ?_; conv => cbv) | (intro (x : List (List D)) (hx : x = se.set hdn' [.bool true]); refine (fun (hz : es2 = x) => ?_) (hes2.trans hx.symm); subst hz; (conv => cbv)) | (intro (_ : Unit); show (0 + pl.length) * 8 ≤ _; omega) | (intro (m : Nat) (r : Bool) (y : List (List D)) hm2 hr2 hy2; refine (fun (hz : np = m) (hz2 : pl = y) => ?_) (by rw [hm2]; show np = 0 + pl.length; omega) (by rw [hy2]; try rfl); subst hz hz2; (conv => cbv)) | (intro (m : Nat) (r : Bool) (y : List (List D)) hm2 hr2 hy2; refine (fun (hz : np1 = m) (hz2 : pl1 = y) => ?_) (by rw [hm2, hnp1]; rfl) (by rw [hpl12, hy2]; first | rfl | (cases np <;> cases pl <;> rfl)); subst hz hz2; (conv => cbv)) | exact gu | exact trivial | refine And.intro ?_ ?_ | (intro hc; exact absurd hc (by decide)) | (intro hc; exfalso; omega) | (intro hc; (first | rw [wS (by omega) (by omega)] at hc | rw [nI_eq] at hc | skip); try (conv => cbv))
     (refine call_z 3 (2) 1 np1 rfl hpl1l (by simp [okL, okA, okCs, okC, bq_lit]) (by first | (simp [okH, okB, okCs, okC]; done) | simp [okH, okB, okCs, okC, bq_lit]) ?_; simp only [zL, zA, zCs, zC, zH, zB, bq_self, bq_old]; conv => cbv)
     refine call_fr [0, 1] hih rfl rfl (by decide) (by repeat' first | exact trivial | refine And.intro ?_ ?_ | rfl) rfl rfl ?_
     rintro r hc ⟨ov', ro', rfl, rfl⟩
     conv => cbv
     repeat' first | (intro (k : Nat) hk; refine (fun (hz : hdn' = k) => ?_) ?_; rotate_left; omega; subst hz; (conv => cbv)) | (intro (e : List D) he; cases osj (he.symm.trans hjb); (conv => cbv)) | (intro (x : List (List D)) (hx : x = es2.set hdn' [.bool false]); refine (fun (hz : se3 = x) => ?_) (hse3.trans hx.symm); subst hz; (conv => cbv)) | exact gu | exact trivial | refine And.intro ?_ ?_ | (intro hc; exact absurd hc (by decide)) | (intro hc; exfalso; omega) | (intro hc; (first | rw [wS (by omega) (by omega)] at hc | rw [nI_eq] at hc | skip); try (conv => cbv))
     rw [hse4]
     refine norm _ _ (Ok ++ fx, ov', ro', _) ?_ (by simp only; rw [← hnO2, ← hOe2]; exact (Wk.ca))
     exact ⟨by simp only; omega, by omega, hOk2, hOk2l⟩
    ·rw [List.take_of_length_le (by omega)] at hOk
     have hK := fun b => hK Ok ov ro b hOk
     rw [← hnOk, ← hOke] at hK
     conv => cbv
     repeat' first | exact gu | exact trivial | refine And.intro ?_ ?_ | (intro hc; exact absurd hc (by decide)) | (intro hc; exfalso; omega) | (intro hc; (first | rw [wS (by omega) (by omega)] at hc | rw [nI_eq] at hc | skip); try (conv => cbv))
     refine ex _ _ _ ?_
     conv => cbv
     repeat' first | exact gu | exact trivial | refine And.intro ?_ ?_ | (intro hc; exact absurd hc (by decide)) | (intro hc; exfalso; omega) | (intro hc; (first | rw [wS (by omega) (by omega)] at hc | rw [nI_eq] at hc | skip); try (conv => cbv))
     exact hK _
  refine (FnS.cut hraw ?_).mono ?_
  ·rintro r h' ⟨ov', ro', rfl, b, rfl⟩
   exact ⟨rfl, rfl⟩
  ·rintro r h1 ⟨h2, ⟨ov', ro', rfl, b, e⟩, hl⟩
   exact ⟨ov', ro', rfl, (List.append_inj e hl).1⟩
end Go.Ab

/-
  The reference's sorting of paths.
-/
namespace Go.Ab
open Go.Proofs
theorem FnS.frz1 {P : Program} {f : Nat} {args : List AV} {h0 : Hp} {sz : Nat} {Q : List (List D) → Prop} (hrefs : refsH h0.length h0 = true)
  (hf : FnS P f args h0 fun r h' => ∃ k ve rr es, Q es ∧ r = .c (.arr k ve 0 es.length) ∧ h'[k]? = some (.da rr ve sz es) ∧ h0.length ≤ k ∧ ∃ t, h' = h0 ++ t) :
  FnS P f args h0 fun r h' => (∃ es, Q es ∧ r = .c (.d (.list false sz es))) ∧ h' = h0 := by
 have h1 : FnS P f args h0 fun r h' => ∃ es h2, Q es ∧ r = .c (.d (.list false sz es)) ∧ h' = h0 ++ h2 := by
  refine ⟨fun G ι w vs hr hv => (hf.out G ι w vs hr hv).mono fun e w2 ⟨u, r, G2, ι2, h', he, ⟨k, ve, rr, es, hQ, hre, hk, hle, t, ht⟩, hr2, hvr, hx⟩ => ?_⟩
  subst hre
  cases hvr with
  | c _ _ hc =>
   have hfz : frz h' (.arr k ve 0 es.length) = some (.list false sz es, h'.set k Blk.dead) := by
    simp [frz, hk]
   obtain ⟨G', q1, q2, q3⟩ := frz_sound hr2 hc hfz
   refine ⟨u, _, G', ι2, _, he, ⟨es, (h'.set k Blk.dead).drop h0.length, hQ, rfl, ?_⟩, q1, .c _ _ (.d _ _ q2), hx.trans q3⟩
   subst ht
   rw [List.set_append_right _ _ hle]
   simp
 refine (FnS.cut h1 ?_).mono ?_
 ·rintro r h' ⟨es, h2, _, rfl, rfl⟩
  refine ⟨rfl, ?_⟩
  rw [List.take_append_of_le_length (Nat.le_refl _), List.take_length]
  exact hrefs
 ·rintro r h1 ⟨h2, ⟨es, h3, hQ, rfl, e⟩, hl⟩
  exact ⟨⟨es, hQ, rfl⟩, (List.append_inj e hl).1⟩
def insP (t : Top) (x : List Int) : List (List Int) → List (List Int)
 | [] => [x]
 | y :: r => if ordS (cst t y) (cst t x) y x < 0 then y :: insP t x r else x :: y :: r
def sortP (t : Top) (l : List (List Int)) : List (List Int) := l.foldl (fun E x => insP t x E) []
theorem insP_perm (t : Top) (x : List Int) : ∀ E, (insP t x E).Perm (x :: E)
 | [] => .refl _
 |y :: r => by
  rw [insP]
  split
  ·exact ((insP_perm t x r).cons y).trans (.swap _ _ _)
  ·exact .refl _
theorem foldP_perm (t : Top) : ∀ (l E : List (List Int)), (l.foldl (fun E x => insP t x E) E).Perm (l ++ E)
 | [], E => .refl _
 |x :: l, E => by
  rw [List.foldl_cons]
  refine (foldP_perm t l _).trans ?_
  have h1 : (l ++ insP t x E).Perm (l ++ x :: E) := (insP_perm t x E).append_left l
  exact h1.trans List.perm_middle
theorem sortP_perm (t : Top) (l : List (List Int)) : (sortP t l).Perm l := by
 have := foldP_perm t l []
 rwa [List.append_nil] at this
theorem insP_at (t : Top) (x : List Int) : ∀ (E : List (List Int)) (k : Nat), (∀ j y, j < k → E[j]? = some y → ordS (cst t y) (cst t x) y x < 0) → k ≤ E.length → (∀ y, E[k]? = some y → ¬ ordS (cst t y) (cst t x) y x < 0) → insP t x E = E.take k ++ x :: E.drop k
 | [], k, _, hk, _ => by simp at hk; subst hk; rfl
 | y :: r, 0, _, _, h2 => by rw [insP, if_neg (h2 y rfl)]; rfl
 |y :: r, k + 1, h1, hk, h2 => by
  rw [insP, if_pos (h1 0 y (by omega) rfl), insP_at t x r k (fun j z hj hz => h1 (j + 1) z (by omega) (by simpa using hz)) (by simpa using hk) (fun z hz => h2 z (by simpa using hz))]
  rfl
theorem set_mid {α : Type} {A B : List α} {h x : α} : (A ++ h :: B).set A.length x = A ++ x :: B := by
 rw [List.set_append_right _ _ (Nat.le_refl _), Nat.sub_self]; rfl
theorem set_shift {α : Type} {E : List α} {m : Nat} {h y : α} (hm : m + 1 ≤ E.length) (hy : E[m]? = some y) : (E.take (m + 1) ++ h :: E.drop (m + 1)).set (m + 1) y = E.take m ++ y :: E.drop m := by
 have h1 : (E.take (m + 1)).length = m + 1 := by rw [List.length_take]; omega
 have h2 := @set_mid _ (E.take (m + 1)) (E.drop (m + 1)) h y
 rw [h1] at h2
 have h3 : E.drop m = y :: E.drop (m + 1) := by
  rw [List.drop_eq_getElem_cons (by omega)]
  rw [lgE (by omega)] at hy
  rw [osj hy]
 rw [h2, h3, take_succ_get hy, List.append_assoc]
 rfl
set_option maxRecDepth 20000 in
set_option maxHeartbeats 4000000 in
theorem sorted_ok (P : Program) (hP : P = Try.prog) (t : Top) (l : List (List Int)) (hl : ∀ x ∈ l, x.length ≤ 1000) (hll : l.length ≤ 1000000000000) :
  Ret P n_ref14_sorted [topA t, .c (.d (.list false 1 (l.map encRow)))] (.c (.d (.list false 1 ((sortP t l).map encRow)))) := by
 have hcm := fun a b ha hb => rcmp_ok P hP t a b ha hb
 have h1 : FnS P n_ref14_sorted [topA t, .c (.d (.list false 1 (l.map encRow)))] [] fun r h' => ∃ k ve rr es, es = (sortP t l).map encRow ∧ r = .c (.arr k ve 0 es.length) ∧ h'[k]? = some (.da rr ve 1 es) ∧ ([] : Hp).length ≤ k ∧ ∃ t, h' = [] ++ t := by
  refine heap_start (hP ▸ mixed) (hP ▸ fn_ref14_sorted) (hP ▸ c_ref14_sorted) (nle rfl) fun Λ Λo K hK => ?_
  clear hP
  have leaf : ∀ (E : List (List Int)) ve rr b0 bs, E = sortP t l → K (.c (.arr 1 ve 0 E.length)) ([b0, .da rr ve 1 (E.map encRow)] ++ bs) := fun E ve rr b0 bs e => hK _ _ ⟨1, ve, rr, E.map encRow, by rw [e], by rw [List.length_map], rfl, Nat.zero_le _, _, rfl⟩
  clear hK
  have hfold : ∀ (k : Nat) (x : List Int), l[k]? = some x → (l.take (k + 1)).foldl (fun E x => insP t x E) [] = insP t x ((l.take k).foldl (fun E x => insP t x E) []) := fun k x hx => by rw [take_succ_get hx, List.foldl_append]; rfl
  have hfp := fun k => foldP_perm t (l.take k) []
  have hat := fun x E k => insP_at t x E k
  have hlx : ∀ (k : Nat) (x : List Int), l[k]? = some x → (l.map encRow)[k]? = some [.list false 1 (x.map encI)] := fun k x hx => by rw [List.getElem?_map, hx]; rfl
  have hin := fun x E => insP_perm t x E
  rw [show sortP t l = l.foldl (fun E x => insP t x E) [] from rfl] at leaf
  simp only [topA, intsA, intsD, boolsD, linksD] at *
  generalize t.ov.map encB = ovl at *
  generalize t.links.map encLk = lkl at *
  generalize t.nodes = nodes at *
  generalize hal : l.map encRow = al at *
  have aln : Λ al = l.length := by rw [Λo, ← hal]; simp
  conv => cbv
  repeat' first | exact gu | exact trivial | refine And.intro ?_ ?_ | (intro hc; exact absurd hc (by decide)) | (intro hc; exfalso; omega) | (intro hc; (first | rw [wS (by omega) (by omega)] at hc | rw [nI_eq] at hc | skip); try (conv => cbv))
  refine loop_up l.length (fun (s : List (List Int) × Nat × Bool × Int) => [(1, .c (.d (.list false 1 al))), (2, .c (.ptr 0 0 0 0)), (4, .c (.d (.list true 1 []))), (5, .c (.arr 1 s.2.1 0 s.1.length)), (6, iA s.2.2.2)])
   (fun s => [.bx [.d (iD nodes), .d (.list false 1 ovl), .d (.list false 7 lkl)], .da s.2.2.1 s.2.1 1 (s.1.map encRow)])
   (fun k s => s.2.2.2 = k ∧ k ≤ l.length ∧ s.1 = (l.take k).foldl (fun E x => insP t x E) []) ([], 0, false, 0) (.trans (.nilS 5 1 rfl) (Wk.ca)) ⟨rfl, by omega, by simp⟩ (fun k s h => h.2.1) ?_
  rintro k ⟨E, ve, rr, i⟩ Q' ⟨hi, hk, hE⟩ norm ex rt
  simp only at hi hE
  have hEp := hfp k
  rw [← hE, List.append_nil] at hEp
  have hEl : E.length = k := by have := hEp.length_eq; rw [List.length_take] at this; omega
  have hEx : ∀ x ∈ E, x.length ≤ 1000 := fun x hx => hl x (List.mem_of_mem_take (hEp.mem_iff.1 hx))
  obtain ⟨nE, hnE⟩ : ∃ x, x = E.length := ⟨_, rfl⟩
  obtain ⟨Ee, hEe⟩ : ∃ x, x = E.map encRow := ⟨_, rfl⟩
  have hEel : Ee.length = E.length := by rw [hEe]; simp
  simp only
  rw [← hnE, ← hEe]
  by_cases hlt : k < l.length
  ·obtain ⟨x, hx⟩ : ∃ x, l[k]? = some x := ⟨_, lgE hlt⟩
   have hxa := hlx k x hx
   have ik : i.toNat = k := by omega
   rw [← ik] at hxa
   have hf := hfold k x hx
   rw [← hE] at hf
   have hxl := hl x (List.mem_of_getElem? hx)
   have hatx := hat x E
   have hcmx := fun y hy => hcm y x hy hxl
   generalize hxl' : x.map encI = xl at *
   conv => cbv
   repeat' first | exact gu | exact trivial | refine And.intro ?_ ?_ | (intro hc; exact absurd hc (by decide)) | (intro hc; exfalso; omega) | (intro hc; (first | rw [wS (by omega) (by omega)] at hc | rw [nI_eq] at hc | skip); try (conv => cbv))
   refine loop_upx nE (fun (q : Int) => [(1, .c (.d (.list false 1 al))), (2, .c (.ptr 0 0 0 0)), (4, .c (.d (.list true 1 []))), (5, .c (.arr 1 ve 0 nE)), (6, iA i), (7, iA q)])
    (fun _ => [.bx [.d (iD nodes), .d (.list false 1 ovl), .d (.list false 7 lkl)], .da rr ve 1 Ee])
    (fun j q => q = j ∧ j ≤ nE ∧ ∀ i y, i < j → E[i]? = some y → ordS (cst t y) (cst t x) y x < 0) 0 2
    (fun (q : Int) => [(1, .c (.d (.list false 1 al))), (2, .c (.ptr 0 0 0 0)), (4, .c (.d (.list true 1 []))), (5, .c (.arr 1 ve 0 nE)), (6, iA i), (7, iA q)]) (fun _ => [.bx [.d (iD nodes), .d (.list false 1 ovl), .d (.list false 7 lkl)], .da rr ve 1 Ee])
    (fun q => ∃ j : Nat, q = j ∧ j ≤ nE ∧ insP t x E = E.take j ++ x :: E.drop j) (Wk.ca) ⟨rfl, by omega, fun i y h => by omega⟩ (fun k s h => h.2.1) ?_ ?_
   ·clear norm ex rt leaf
    rintro j q Q2 ⟨hq, hj, hlt2⟩ norm ex rt
    by_cases hje : j < nE
    ·obtain ⟨y, hy⟩ : ∃ y, E[j]? = some y := ⟨_, lgE (by omega)⟩
     have hya : Ee[j]? = some [.list false 1 (y.map encI)] := by rw [hEe, List.getElem?_map, hy]; rfl
     have hcy := hcmx y (hEx y (List.mem_of_getElem? hy))
     by_cases hc : ordS (cst t y) (cst t x) y x < 0
     ·have h3 : ∀ i z, i < j + 1 → E[i]? = some z → ordS (cst t z) (cst t x) z x < 0 := fun i z hi hz => by
       rcases Nat.lt_or_ge i j with h | h
       ·exact hlt2 i z h hz
       ·have : i = j := by omega
        subst this
        rw [hy] at hz; cases hz; exact hc
      generalize ordS (cst t y) (cst t x) y x = o at *
      generalize y.map encI = yl at *
      conv => cbv
      repeat' first | (intro hc; exfalso; revert hc; clear norm ex rt hlt2 hat hatx hcm hcmx hfold hfp hf hlx hin; cases nE <;> cases Ee <;> (intro hc; rw [Λo] at hc; simp only [List.length_cons, List.length_nil, List.length_take] at *; omega)) | (intro (k : Nat) hk; refine (fun (hz : j = k) => ?_) ?_; rotate_left; omega; subst hz; (conv => cbv)) | (intro e he; cases osj (he.symm.trans hxa); (conv => cbv)) | (intro (e : List D) he; cases osj (he.symm.trans hya); (conv => cbv)) | (refine call_r hcy rfl rfl ?_; conv => cbv) | exact gu | exact trivial | refine And.intro ?_ ?_ | (intro hc; exact absurd hc (by decide)) | (intro hc; exfalso; omega) | (intro hc; (first | rw [wS (by omega) (by omega)] at hc | rw [nI_eq] at hc | skip); try (conv => cbv))
      refine norm _ _ _ ?_ (Wk.ca)
      exact ⟨by omega, by omega, h3⟩
     ·have h3 := hatx j hlt2 (by omega) (fun z hz => by rw [hy] at hz; cases hz; exact hc)
      generalize ordS (cst t y) (cst t x) y x = o at *
      generalize y.map encI = yl at *
      conv => cbv
      repeat' first | (intro hc; exfalso; revert hc; clear norm ex rt hlt2 hat hatx hcm hcmx hfold hfp hf hlx hin; cases nE <;> cases Ee <;> (intro hc; rw [Λo] at hc; simp only [List.length_cons, List.length_nil, List.length_take] at *; omega)) | (intro (k : Nat) hk; refine (fun (hz : j = k) => ?_) ?_; rotate_left; omega; subst hz; (conv => cbv)) | (intro e he; cases osj (he.symm.trans hxa); (conv => cbv)) | (intro (e : List D) he; cases osj (he.symm.trans hya); (conv => cbv)) | (refine call_r hcy rfl rfl ?_; conv => cbv) | exact gu | exact trivial | refine And.intro ?_ ?_ | (intro hc; exact absurd hc (by decide)) | (intro hc; exfalso; omega) | (intro hc; (first | rw [wS (by omega) (by omega)] at hc | rw [nI_eq] at hc | skip); try (conv => cbv))
      exact ex _ _ q ⟨j, hq, by omega, h3⟩ (Wk.ca)
    ·have h3 := hatx j hlt2 (by omega) (fun z hz => by have := get_lt hz; omega)
     conv => cbv
     repeat' first | (intro hc; exfalso; revert hc; clear norm ex rt hlt2 hat hatx hcm hcmx hfold hfp hf hlx hin; cases nE <;> cases Ee <;> (intro hc; rw [Λo] at hc; simp only [List.length_cons, List.length_nil, List.length_take] at *; omega)) | exact gu | exact trivial | refine And.intro ?_ ?_ | (intro hc; exact absurd hc (by decide)) | (intro hc; exfalso; omega) | (intro hc; (first | rw [wS (by omega) (by omega)] at hc | rw [nI_eq] at hc | skip); try (conv => cbv))
     exact ex _ _ q ⟨j, hq, by omega, h3⟩ (Wk.ca)
   rintro q ⟨j, hqj, hqn, hins⟩
   obtain ⟨n1, hn1⟩ : ∃ y, y = nE + 1 := ⟨_, rfl⟩
   obtain ⟨e1, he1⟩ : ∃ y, y = Ee ++ [[.list false 1 []]] := ⟨_, rfl⟩
   have he12 : e1 = (Ee.drop 0).take nE ++ [[.list false 1 []]] := by rw [he1, List.drop_zero, List.take_of_length_le (by omega)]
   conv => cbv
   repeat' first | (intro (m : Nat) (r : Bool) (y : List (List D)) hm2 hr2 hy2; refine (fun (hz : n1 = m) (hz2 : e1 = y) => ?_) (by rw [hm2, hn1]; rfl) (by rw [he12, hy2]; all_goals first | rfl | (cases nE <;> cases Ee <;> rfl)); subst hz hz2; (conv => cbv)) | exact gu | exact trivial | refine And.intro ?_ ?_ | (intro hc; exact absurd hc (by decide)) | (intro hc; exfalso; omega) | (intro hc; (first | rw [wS (by omega) (by omega)] at hc | rw [nI_eq] at hc | skip); try (conv => cbv))
   refine loop_upx nE (fun (s : Int × Bool × List (List D)) => [(1, .c (.d (.list false 1 al))), (2, .c (.ptr 0 0 0 0)), (4, .c (.d (.list true 1 []))), (5, .c (.arr 1 (ve + 1) 0 n1)), (6, iA i), (7, iA q), (8, iA s.1)])
    (fun s => [.bx [.d (iD nodes), .d (.list false 1 ovl), .d (.list false 7 lkl)], .da s.2.1 (ve + 1) 1 s.2.2])
    (fun k' s => ∃ m : Nat, m + k' = nE ∧ s.1 = m ∧ j ≤ m ∧ ∃ h : D, s.2.2 = Ee.take m ++ [h] :: Ee.drop m) (_, _, e1) 4
    (fun (_ : Bool × List (List D)) => [(1, .c (.d (.list false 1 al))), (2, .c (.ptr 0 0 0 0)), (4, .c (.d (.list true 1 []))), (5, .c (.arr 1 (ve + 1) 0 n1)), (6, iA i), (7, iA q)]) (fun s => [.bx [.d (iD nodes), .d (.list false 1 ovl), .d (.list false 7 lkl)], .da s.1 (ve + 1) 1 s.2])
    (fun s => ∃ h : D, s.2 = Ee.take j ++ [h] :: Ee.drop j) (Wk.ca) ⟨nE, rfl, by simp only; omega, hqn, .list false 1 [], by simp only; rw [he1, List.take_of_length_le (by omega), List.drop_of_length_le (by omega)]⟩ (fun k s h => by obtain ⟨m, h1, _⟩ := h; omega) ?_ ?_
   ·clear norm ex rt leaf hlx hfold hfp hat hatx hcm hcmx hins hin hf
    rintro k' ⟨n, rb, es⟩ Q2 ⟨m, hmk, hn, hjm, h0, hes⟩ norm ex rt
    simp only at hn hes
    have hesl : es.length = n1 := by rw [hes, List.length_append, List.length_cons, List.length_take, List.length_drop]; omega
    by_cases hjl : j < m
    ·obtain ⟨m1, hm1⟩ : ∃ m1, m = m1 + 1 := ⟨m - 1, by omega⟩
     obtain ⟨y, hy⟩ : ∃ y, E[m1]? = some y := ⟨_, lgE (by omega)⟩
     have hya : Ee[m1]? = some [.list false 1 (y.map encI)] := by rw [hEe, List.getElem?_map, hy]; rfl
     have heb : es[m]? = some [h0] := by
      rw [hes, List.getElem?_append_right (by rw [List.length_take]; omega), List.length_take, show m - min m Ee.length = 0 by omega]; rfl
     have hea : es[m1]? = some [.list false 1 (y.map encI)] := by
      rw [hes, List.getElem?_append_left (by rw [List.length_take]; omega), List.getElem?_take, if_pos (by omega), hya]
     obtain ⟨es2, hes2⟩ : ∃ x, x = es.set m [.list false 1 (y.map encI)] := ⟨_, rfl⟩
     have hes3 : es2 = Ee.take m1 ++ [.list false 1 (y.map encI)] :: Ee.drop m1 := by
      rw [hes2, hes, hm1]
      exact set_shift (by omega) hya
     generalize y.map encI = yl at *
     conv => cbv
     repeat' first | (intro (k : Nat) hk; refine (fun (hz : m1 = k) => ?_) ?_; rotate_left; omega; subst hz; (conv => cbv)) | (intro (k : Nat) hk; refine (fun (hz : m = k) => ?_) ?_; rotate_left; omega; subst hz; (conv => cbv)) | (intro (e : List D) he; cases osj (he.symm.trans hea); (conv => cbv)) | (intro (e : List D) he; cases osj (he.symm.trans heb); (conv => cbv)) | (intro (x : List (List D)) (hx : x = es.set m [.list false 1 yl]); refine (fun (hz : es2 = x) => ?_) (hes2.trans hx.symm); subst hz; (conv => cbv)) | exact gu | exact trivial | refine And.intro ?_ ?_ | (intro hc; exact absurd hc (by decide)) | (intro hc; exfalso; omega) | (intro hc; (first | rw [wS (by omega) (by omega)] at hc | rw [nI_eq] at hc | skip); try (conv => cbv))
     refine norm _ _ (_, rb, es2) ?_ (Wk.ca)
     exact ⟨m1, by omega, by simp only; omega, by omega, _, hes3⟩
    ·have hmj : m = j := by omega
     conv => cbv
     repeat' first | exact gu | exact trivial | refine And.intro ?_ ?_ | (intro hc; exact absurd hc (by decide)) | (intro hc; exfalso; omega) | (intro hc; (first | rw [wS (by omega) (by omega)] at hc | rw [nI_eq] at hc | skip); try (conv => cbv))
     refine ex _ _ (rb, es) ?_ (Wk.ca)
     exact ⟨h0, by rw [← hmj]; exact hes⟩
   rintro ⟨rb, es⟩ ⟨h0, hes⟩
   simp only at hes
   have hesl : es.length = n1 := by rw [hes, List.length_append, List.length_cons, List.length_take, List.length_drop]; omega
   have heb : es[j]? = some [h0] := by
    rw [hes, List.getElem?_append_right (by rw [List.length_take]; omega), List.length_take, show j - min j Ee.length = 0 by omega]; rfl
   obtain ⟨es2, hes2⟩ : ∃ x, x = es.set j [.list false 1 xl] := ⟨_, rfl⟩
   have hes3 : es2 = (insP t x E).map encRow := by
    have h1 := @set_mid _ (Ee.take j) (Ee.drop j) [h0] [.list false 1 xl]
    rw [List.length_take, show min j Ee.length = j by omega] at h1
    rw [hes2, hes, h1, hins, List.map_append, List.map_cons, List.map_take, List.map_drop, ← hEe, encRow, intsD, hxl']
   have hil : (insP t x E).length = n1 := by rw [(hin x E).length_eq, List.length_cons, ← hnE, hn1]
   conv => cbv
   repeat' first | (intro (k : Nat) hk; refine (fun (hz : j = k) => ?_) ?_; rotate_left; omega; subst hz; (conv => cbv)) | (intro e he; cases osj (he.symm.trans hxa); (conv => cbv)) | (intro (e : List D) he; cases osj (he.symm.trans heb); (conv => cbv)) | (intro (x : List (List D)) (hx : x = es.set j [.list false 1 xl]); refine (fun (hz : es2 = x) => ?_) (hes2.trans hx.symm); subst hz; (conv => cbv)) | exact gu | exact trivial | refine And.intro ?_ ?_ | (intro hc; exact absurd hc (by decide)) | (intro hc; exfalso; omega) | (intro hc; (first | rw [wS (by omega) (by omega)] at hc | rw [nI_eq] at hc | skip); try (conv => cbv))
   refine norm _ _ (insP t x E, ve + 1, _, _) ?_ (by simp only; rw [hil, ← hes3]; exact (Wk.ca))
   exact ⟨by simp only; omega, by omega, hf.symm⟩
  ·rw [List.take_of_length_le (by omega)] at hE
   have leaf := fun b0 bs => leaf E ve rr b0 bs hE
   rw [← hnE, ← hEe] at leaf
   conv => cbv
   repeat' first | exact gu | exact trivial | refine And.intro ?_ ?_ | (intro hc; exact absurd hc (by decide)) | (intro hc; exfalso; omega) | (intro hc; (first | rw [wS (by omega) (by omega)] at hc | rw [nI_eq] at hc | skip); try (conv => cbv))
   refine ex _ _ _ ?_
   conv => cbv
   repeat' first | exact gu | exact trivial | refine And.intro ?_ ?_ | (intro hc; exact absurd hc (by decide)) | (intro hc; exfalso; omega) | (intro hc; (first | rw [wS (by omega) (by omega)] at hc | rw [nI_eq] at hc | skip); try (conv => cbv))
   exact leaf _ _
 refine (FnS.frz1 (sz := 1) (Q := fun es => es = (sortP t l).map encRow) rfl (h1.mono ?_)).mono ?_
 ·rintro r h' ⟨k, ve, rr, es, he, h2⟩
  exact ⟨k, ve, rr, es, he, h2⟩
 ·rintro r h' ⟨⟨es, rfl, rfl⟩, rfl⟩
  exact ⟨rfl, rfl⟩
end Go.Ab

/-
  The reference's enumeration of all paths.
-/
namespace Go.Ab
open Go.Proofs
theorem FnS.nilA {P : Program} {f : Nat} {pre : List AV} {sz : Nat} {h : Hp} {R : AV → Hp → Prop} (hf : FnS P f (pre ++ [.c (.arr h.length 0 0 0)]) (h ++ [.da false 0 sz []]) R) : FnS P f (pre ++ [.c (.d (.list true sz []))]) h R := by
 refine ⟨fun G ι w vs hr hv => ?_⟩
 obtain ⟨q1, q2, q3⟩ := new_nil (sz := sz) hr
 refine (hf.out G _ w vs q1 ⟨by have := hv.1; simpa using this, fun i v u h1 h2 => ?_⟩).mono fun e w' ⟨v, r, G', ι', h', a1, a2, a3, a4, a5⟩ => ⟨v, r, G', ι', h', a1, a2, a3, a4, q3.trans a5⟩
 rcases Nat.lt_or_ge i pre.length with hi | hi
 ·rw [List.getElem?_append_left hi] at h2
  exact (hv.2 i v u h1 (by rw [List.getElem?_append_left hi]; exact h2)).ext q3 hr
 ·have hl := hv.1
  have hi2 := get_lt h1
  rw [hl, List.length_append, List.length_singleton] at hi2
  obtain rfl : i = pre.length := by omega
  rw [List.getElem?_append_right (by omega)] at h2
  simp at h2
  subst h2
  have hd := inv_d (hv.2 pre.length v _ h1 (by rw [List.getElem?_append_right (by omega)]; simp; rfl))
  rw [nil_value hd]
  exact q2
theorem outT_len {t : Top} (hL : t.links.length ≤ 11) (n : Int) : (outT t n).length ≤ 22 := by
 have h1 : (outT t n).length ≤ (arcsT t).toNat := by
  unfold outT
  refine Nat.le_trans (List.length_filter_le _ _) ?_
  simp [arcsTo]
 have := arcsT_le t
 omega
def seen0 (t : Top) (s : Int) : List Bool := (List.replicate t.nodes.toNat false).set s.toNat true
def simpS (t : Top) (down : List Bool) (s d : Int) : List (List Int) := extS t down d 8 [] s (seen0 t s)
theorem extend_nil (P : Program) (hP : P = Try.prog) (t : Top) (down : List Bool) (s d : Int) (sn : List Bool) (sv : Nat) (hv : validT t = true) (hL : t.links.length ≤ 11) (hf : freeB sn < 8) (hs : 0 ≤ s ∧ s < t.nodes) (hsl : (sn.length : Int) = t.nodes) :
  FnS P n_ref14_extend [topA t, boolsA down, .c (.d (.list true 1 [])), iA s, iA d, .c (.arr 0 sv 0 sn.length), .c (.d (.list true 1 []))] [.da true sv 1 (sn.map encB)] fun r h' =>
   ∃ ov' ro', r = .c (.arr 1 ov' 0 (extS t down d 8 [] s sn).length) ∧ h' = [.da true sv 1 (sn.map encB), .da ro' ov' 1 ((extS t down d 8 [] s sn).map encRow)] := by
 have h1 := extend_ok P hP t down d hv hL (outT_len hL) 8 [] s sn [] sv 0 false hf hs hsl (by simp) (by simp)
 have h2 : FnS P n_ref14_extend ([topA t, boolsA down, .c (.d (.list true 1 [])), iA s, iA d, .c (.arr 0 sv 0 sn.length)] ++ [.c (.arr ([Blk.da true sv 1 (sn.map encB)] : Hp).length 0 0 0)]) ([.da true sv 1 (sn.map encB)] ++ [.da false 0 1 []]) fun r h' =>
   ∃ ov' ro', r = .c (.arr 1 ov' 0 (extS t down d 8 [] s sn).length) ∧ h' = [.da true sv 1 (sn.map encB), .da ro' ov' 1 ((extS t down d 8 [] s sn).map encRow)] := FnS.fg h1
 exact FnS.nilA h2
set_option maxHeartbeats 2000000 in
theorem simple_ok (P : Program) (hP : P = Try.prog) (t : Top) (down : List Bool) (s d : Int) (hv : validT t = true) (hL : t.links.length ≤ 11) (hN8 : t.nodes ≤ 8) (hs : 0 ≤ s ∧ s < t.nodes) :
  Ret P n_ref14_Simple [topA t, boolsA down, iA s, iA d] (.c (.d (.list false 1 ((simpS t down s d).map encRow)))) := by
 have hfree : freeB (seen0 t s) < 8 := by
  have h1 := freeB_set (sn := List.replicate t.nodes.toNat false) (j := s.toNat) (by rw [List.getElem?_replicate, if_pos (by omega)])
  have h2 : freeB (List.replicate t.nodes.toNat false) ≤ (List.replicate t.nodes.toNat false).length := List.countP_le_length
  rw [List.length_replicate] at h2
  unfold seen0
  omega
 have hsl : ((seen0 t s).length : Int) = t.nodes := by simp [seen0]; omega
 have hex := extend_nil P hP t down s d (seen0 t s) 0 hv hL hfree hs hsl
 have h1 : FnS P n_ref14_Simple [topA t, boolsA down, iA s, iA d] [] fun r h' => ∃ k ve rr es, es = (simpS t down s d).map encRow ∧ r = .c (.arr k ve 0 es.length) ∧ h'[k]? = some (.da rr ve 1 es) ∧ ([] : Hp).length ≤ k ∧ ∃ t, h' = [] ++ t := by
  refine heap_start (hP ▸ mixed) (hP ▸ fn_ref14_Simple) (hP ▸ c_ref14_Simple) (nle rfl) fun Λ Λo K hK => ?_
  clear hP
  have leaf : ∀ ve rr b0 b1 bs, K (.c (.arr 2 ve 0 (simpS t down s d).length)) ([b0, b1, .da rr ve 1 ((simpS t down s d).map encRow)] ++ bs) := fun ve rr b0 b1 bs => hK _ _ ⟨2, ve, rr, _, rfl, by rw [List.length_map], rfl, Nat.zero_le _, _, rfl⟩
  clear hK
  rw [show extS t down d 8 [] s (seen0 t s) = simpS t down s d from rfl] at hex
  obtain ⟨sj, hsj⟩ : ∃ j : Nat, (j : Int) = s := ⟨s.toNat, by omega⟩
  obtain ⟨e0, he0⟩ : ∃ x : List (List D), x = List.replicate t.nodes.toNat [.bool false] := ⟨_, rfl⟩
  obtain ⟨e1, he1⟩ : ∃ x, x = e0.set sj [.bool true] := ⟨_, rfl⟩
  have he12 : (seen0 t s).map encB = e1 := by rw [he1, he0, seen0, List.map_set, List.map_replicate, show s.toNat = sj by omega]; rfl
  have he0l : e0.length = t.nodes.toNat := by rw [he0]; simp
  have hea : e0[sj]? = some [.bool false] := by rw [he0, List.getElem?_replicate, if_pos (by omega)]
  obtain ⟨nS, hnS⟩ : ∃ x, x = (seen0 t s).length := ⟨_, rfl⟩
  rw [he12, ← hnS] at hex
  rw [← hnS] at hsl
  clear he12
  generalize simpS t down s d = L at *
  obtain ⟨nL, hnL⟩ : ∃ x, x = L.length := ⟨_, rfl⟩
  obtain ⟨Le, hLe⟩ : ∃ x, x = L.map encRow := ⟨_, rfl⟩
  rw [← hnL, ← hLe] at hex leaf
  simp only [topA, intsA, intsD, boolsA, boolsD, linksD] at *
  generalize t.ov.map encB = ovl at *
  generalize t.links.map encLk = lkl at *
  generalize down.map encB = dwl at *
  generalize t.nodes = nodes at *
  conv => cbv
  repeat' first | (intro (m : Nat) (y : List (List D)) hm2 hy2; refine (fun (hz : nS = m) (hz2 : e0 = y) => ?_) (by omega) (by rw [hy2]; first | exact he0 | (rw [he0]; congr 1; omega)); subst hz hz2; (conv => cbv)) | (intro (k : Nat) hk; refine (fun (hz : sj = k) => ?_) ?_; rotate_left; omega; subst hz; (conv => cbv)) | (intro (e : List D) he; cases osj (he.symm.trans hea); (conv => cbv)) | (intro (x : List (List D)) (hx : x = e0.set sj [.bool true]); refine (fun (hz : e1 = x) => ?_) (he1.trans hx.symm); subst hz; (conv => cbv)) | exact gu | exact trivial | refine And.intro ?_ ?_ | (intro hc; exact absurd hc (by decide)) | (intro hc; exfalso; omega) | (intro hc; (first | rw [wS (by omega) (by omega)] at hc | rw [nI_eq] at hc | skip); try (conv => cbv))
  refine call_fr [1] hex rfl rfl (by decide) (by repeat' first | exact trivial | refine And.intro ?_ ?_ | rfl) rfl rfl ?_
  rintro r hc ⟨ov', ro', rfl, rfl⟩
  conv => cbv
  repeat' first | exact gu | exact trivial | refine And.intro ?_ ?_ | (intro hc; exact absurd hc (by decide)) | (intro hc; exfalso; omega) | (intro hc; (first | rw [wS (by omega) (by omega)] at hc | rw [nI_eq] at hc | skip); try (conv => cbv))
  exact leaf _ _ _ _ _
 refine (FnS.frz1 (sz := 1) (Q := fun es => es = (simpS t down s d).map encRow) rfl (h1.mono ?_)).mono ?_
 ·rintro r h' ⟨k, ve, rr, es, he, h2⟩
  exact ⟨k, ve, rr, es, he, h2⟩
 ·rintro r h' ⟨⟨es, rfl, rfl⟩, rfl⟩
  exact ⟨rfl, rfl⟩
end Go.Ab

/-
  The reference's paths are the good ones, each once.
-/
namespace Go.Ab
open Go.Proofs
def ExtP (t : Top) (down : List Bool) (d : Int) : Bool → Int → List Bool → List Int → Prop
 | _, v, _, [] => v = d
 | b, v, sn, a :: r => v ≠ d ∧ (b = true → ovT t v = false) ∧ ((0 ≤ a ∧ a < 2 * t.links.length) ∧ tailG t a = v) ∧ dnB down a = false ∧ sn.getD (headG t a).toNat false = false ∧ ExtP t down d true (headG t a) (sn.set (headG t a).toNat true) r
theorem outT_mem {t : Top} {a n : Int} (hv : validT t = true) : a ∈ outT t n ↔ (0 ≤ a ∧ a < 2 * t.links.length) ∧ tailG t a = n := by
 rw [outT, List.mem_filter, decide_eq_true_eq, arcsTo, List.mem_map]
 constructor
 ·rintro ⟨⟨j, hj, rfl⟩, h2⟩
  rw [List.mem_range, arcsT, if_pos hv] at hj
  have h0 : (0 : Int) ≤ (j : Int) := by omega
  have h1 : (j : Int) < 2 * t.links.length := by omega
  rw [tailT_valid hv h0 h1] at h2
  exact ⟨⟨h0, h1⟩, h2⟩
 ·rintro ⟨⟨h0, h1⟩, h2⟩
  refine ⟨⟨a.toNat, ?_, by omega⟩, by rw [tailT_valid hv h0 h1]; exact h2⟩
  rw [List.mem_range, arcsT, if_pos hv]; omega
theorem headT_valid' {t : Top} {a : Int} (hv : validT t = true) (h0 : 0 ≤ a) (h1 : a < 2 * t.links.length) : headT t a = headG t a := by
 rw [headT, headG, arcsT, if_pos hv, if_pos (show 0 ≤ a ∧ a < 2 * (t.links.length : Int) from ⟨h0, h1⟩)]
theorem head_rg {t : Top} {a : Int} (hv : validT t = true) (h0 : 0 ≤ a) (h1 : a < 2 * t.links.length) : 0 ≤ headG t a ∧ headG t a < t.nodes := by
 have := endG_range hv true h0 h1
 exact this
theorem outT_nodup (t : Top) (n : Int) : (outT t n).Nodup := by
 unfold outT
 refine List.Nodup.sublist List.filter_sublist ?_
 unfold arcsTo
 rw [List.nodup_iff_pairwise_ne, List.pairwise_map]
 refine List.Pairwise.imp ?_ (List.nodup_iff_pairwise_ne.1 List.nodup_range)
 intro a b h e
 exact h (by omega)
theorem extS_mem {t : Top} {down : List Bool} {d : Int} (hv : validT t = true) : ∀ (m : Nat) (path : List Int) (v : Int) (sn : List Bool), freeB sn < m → (sn.length : Int) = t.nodes → ∀ p, p ∈ extS t down d m path v sn ↔ ∃ q, p = path ++ q ∧ ExtP t down d (decide (path ≠ [])) v sn q
 | 0, _, _, _, h, _, _ => by omega
 |m + 1, path, v, sn, hf, hl, p => by
  rw [extS]
  by_cases hvd : v = d
  ·rw [if_pos hvd, List.mem_singleton]
   constructor
   ·intro h; exact ⟨[], by rw [h, List.append_nil], hvd⟩
   ·rintro ⟨q, h1, h2⟩
    cases q with
    | nil => rw [h1, List.append_nil]
    | cons a r => exact absurd hvd h2.1
  ·rw [if_neg hvd]
   by_cases hov : path ≠ [] ∧ ovT t v = true
   ·rw [if_pos hov]
    constructor
    ·intro h; cases h
    ·rintro ⟨q, h1, h2⟩
     cases q with
     | nil => exact absurd h2 hvd
     | cons a r =>
      have := h2.2.1 (decide_eq_true hov.1)
      rw [hov.2] at this; cases this
   ·rw [if_neg hov, List.mem_flatMap]
    have hov2 : decide (path ≠ []) = true → ovT t v = false := fun h => by
     cases hb : ovT t v with
     | false => rfl
     | true => exact absurd ⟨of_decide_eq_true h, hb⟩ hov
    constructor
    ·rintro ⟨a, ha, h⟩
     rw [outT_mem hv] at ha
     have hh := headT_valid' hv ha.1.1 ha.1.2
     have hr := head_rg hv ha.1.1 ha.1.2
     rw [hh] at h
     split at h
     ·cases h
     ·rename_i hn
      rw [not_or] at hn
      have hsn : sn[(headG t a).toNat]? = some false := by
       rw [lgE (by omega)]
       have := Bool.eq_false_iff.2 hn.2
       rw [List.getD_eq_getElem?_getD, lgE (by omega)] at this
       exact congrArg some this
      have h3 := freeB_set hsn
      rw [extS_mem hv m _ _ _ (by omega) (by rw [List.length_set]; exact hl)] at h
      obtain ⟨q, hq1, hq2⟩ := h
      refine ⟨a :: q, by rw [hq1]; simp, hvd, hov2, ha, Bool.eq_false_iff.2 hn.1, Bool.eq_false_iff.2 hn.2, ?_⟩
      rw [decide_eq_true (by simp)] at hq2
      exact hq2
    ·rintro ⟨q, h1, h2⟩
     cases q with
     | nil => exact absurd h2 hvd
     | cons a r =>
      obtain ⟨_, _, h3, h4, h5, h6⟩ := h2
      have hh := headT_valid' hv h3.1.1 h3.1.2
      have hr := head_rg hv h3.1.1 h3.1.2
      refine ⟨a, (outT_mem hv).2 h3, ?_⟩
      rw [hh, if_neg (by rw [h4, h5]; simp)]
      have hsn : sn[(headG t a).toNat]? = some false := by
       rw [lgE (by omega)]
       rw [List.getD_eq_getElem?_getD, lgE (by omega)] at h5
       exact congrArg some h5
      have h7 := freeB_set hsn
      rw [extS_mem hv m _ _ _ (by omega) (by rw [List.length_set]; exact hl)]
      exact ⟨r, by rw [h1]; simp, by rw [decide_eq_true (by simp)]; exact h6⟩
theorem extS_pre {t : Top} {down : List Bool} {d : Int} : ∀ (m : Nat) (path : List Int) (v : Int) (sn : List Bool) (p : List Int), p ∈ extS t down d m path v sn → ∃ q, p = path ++ q
 | 0, _, _, _, _, h => by cases h
 |m + 1, path, v, sn, p, h => by
  rw [extS] at h
  split at h
  ·rw [List.mem_singleton] at h; exact ⟨[], by rw [h, List.append_nil]⟩
  ·split at h
   ·cases h
   ·rw [List.mem_flatMap] at h
    obtain ⟨a, _, h⟩ := h
    split at h
    ·cases h
    ·obtain ⟨q, rfl⟩ := extS_pre m _ _ _ p h
     exact ⟨a :: q, by simp⟩
theorem extS_nodup {t : Top} {down : List Bool} {d : Int} : ∀ (m : Nat) (path : List Int) (v : Int) (sn : List Bool), (extS t down d m path v sn).Nodup
 | 0, _, _, _ => List.nodup_nil
 |m + 1, path, v, sn => by
  rw [extS]
  split
  ·simp
  ·split
   ·simp
   ·have key : ∀ l : List Int, l.Nodup → (l.flatMap fun a => if dnB down a = true ∨ sn.getD (headT t a).toNat false = true then [] else extS t down d m (path ++ [a]) (headT t a) (sn.set (headT t a).toNat true)).Nodup := by
     intro l
     induction l with
     | nil => intro _; simp
     | cons a r ih =>
      intro hn
      obtain ⟨h1, h2⟩ := List.nodup_cons.1 hn
      rw [List.flatMap_cons, List.nodup_append]
      refine ⟨?_, ih h2, fun x hx y hy e => ?_⟩
      ·split
       ·simp
       ·exact extS_nodup m _ _ _
      ·subst e
       rw [List.mem_flatMap] at hy
       obtain ⟨b, hb, hy⟩ := hy
       split at hx
       ·cases hx
       ·split at hy
        ·cases hy
        ·obtain ⟨q1, e1⟩ := extS_pre m _ _ _ x hx
         obtain ⟨q2, e2⟩ := extS_pre m _ _ _ x hy
         rw [e1, List.append_assoc, List.append_assoc] at e2
         have e3 := List.append_cancel_left e2
         have e4 : a = b := by simpa using (List.cons.inj e3).1
         exact h1 (e4 ▸ hb)
    exact key _ (outT_nodup t v)
theorem getD_set {sn : List Bool} {i j : Nat} (hj : j < sn.length) : (sn.set j true).getD i false = if i = j then true else sn.getD i false := by
 rw [List.getD_eq_getElem?_getD, List.getElem?_set]
 by_cases h : j = i
 ·rw [if_pos h, if_pos hj, if_pos h.symm]; rfl
 ·rw [if_neg h, if_neg (fun e => h e.symm), List.getD_eq_getElem?_getD]
theorem ExtP_flat {t : Top} {down : List Bool} {d : Int} (hv : validT t = true) : ∀ (q : List Int) (b : Bool) (v : Int) (sn : List Bool), (sn.length : Int) = t.nodes → (ExtP t down d b v sn q ↔
  (∀ (p1 : List Int) (a : Int) (p2 : List Int), q = p1 ++ a :: p2 → ((0 ≤ a ∧ a < 2 * t.links.length) ∧ tailG t a = endN (headG t) v p1) ∧ dnB down a = false ∧ ((b = true ∨ p1 ≠ []) → ovT t (endN (headG t) v p1) = false) ∧ endN (headG t) v p1 ≠ d) ∧
   endN (headG t) v q = d ∧ (q.map (headG t)).Nodup ∧ ∀ x ∈ q.map (headG t), sn.getD x.toNat false = false)
 |[], b, v, sn, _ => by
  simp only [ExtP, endN]
  refine ⟨fun h => ⟨fun p1 a p2 e => by simp at e, h, by simp, by simp⟩, fun h => h.2.1⟩
 |a :: r, b, v, sn, hl => by
  simp only [ExtP]
  constructor
  ·rintro ⟨h1, h2, h3, h4, h5, h6⟩
   have hr := head_rg hv h3.1.1 h3.1.2
   have hj : (headG t a).toNat < sn.length := by omega
   obtain ⟨g1, g2, g3, g4⟩ := (ExtP_flat hv r true (headG t a) _ (by rw [List.length_set]; exact hl)).1 h6
   have g5 : ∀ x ∈ r.map (headG t), x ≠ headG t a ∧ sn.getD x.toNat false = false := fun x hx => by
    have := g4 x hx
    rw [getD_set hj] at this
    split at this
    ·cases this
    ·rename_i hne
     exact ⟨fun e => hne (by rw [e]), this⟩
   refine ⟨fun p1 c p2 e => ?_, g2, ?_, fun x hx => ?_⟩
   ·cases p1 with
    | nil =>
     obtain ⟨rfl, rfl⟩ := List.cons.inj e
     exact ⟨h3, h4, fun h => h2 (h.resolve_right (by simp)), h1⟩
    | cons c2 p1 =>
     rw [List.cons_append] at e
     obtain ⟨e7, e8⟩ := List.cons.inj e
     subst e7
     obtain ⟨k1, k2, k3, k4⟩ := g1 p1 c p2 e8
     exact ⟨k1, k2, fun _ => k3 (.inl rfl), k4⟩
   ·rw [List.map_cons, List.nodup_cons]
    exact ⟨fun hm => (g5 _ hm).1 rfl, g3⟩
   ·rw [List.map_cons] at hx
    rcases List.mem_cons.1 hx with rfl | hx
    ·exact h5
    ·exact (g5 x hx).2
  ·rintro ⟨h1, h2, h3, h4⟩
   obtain ⟨k1, k2, k3, k4⟩ := h1 [] a r rfl
   have hr := head_rg hv k1.1.1 k1.1.2
   have hj : (headG t a).toNat < sn.length := by omega
   rw [List.map_cons, List.nodup_cons] at h3
   refine ⟨k4, fun h => k3 (.inl h), k1, k2, h4 _ (by simp), ?_⟩
   rw [ExtP_flat hv r true (headG t a) _ (by rw [List.length_set]; exact hl)]
   refine ⟨fun p1 c p2 e => ?_, h2, h3.2, fun x hx => ?_⟩
   ·obtain ⟨m1, m2, m3, m4⟩ := h1 (a :: p1) c p2 (by rw [e]; rfl)
    exact ⟨m1, m2, fun _ => m3 (.inr (by simp)), m4⟩
   ·have hxr : 0 ≤ x := by
     obtain ⟨c, hc, rfl⟩ := List.mem_map.1 hx
     obtain ⟨p1, p2, e⟩ := List.append_of_mem hc
     obtain ⟨m1, _⟩ := h1 (a :: p1) c p2 (by rw [e]; rfl)
     exact (head_rg hv m1.1.1 m1.1.2).1
    rw [getD_set hj, if_neg (fun e => h3.1 (by
     have : x = headG t a := by omega
     rw [← this]; exact hx))]
    exact h4 x (by simp only [List.map_cons, List.mem_cons]; exact .inr hx)
theorem simpS_mem {t : Top} {down : List Bool} {s d : Int} (hv : validT t = true) (hdn : down.length = 0 ∨ down.length = 2 * t.links.length) (hN8 : t.nodes ≤ 8) (hs : 0 ≤ s ∧ s < t.nodes) (p : List Int) : p ∈ simpS t down s d ↔ GoodP t down s d 0 p := by
 have hsl : ((seen0 t s).length : Int) = t.nodes := by simp [seen0]; omega
 have hfree : freeB (seen0 t s) < 8 := by
  have h1 := freeB_set (sn := List.replicate t.nodes.toNat false) (j := s.toNat) (by rw [List.getElem?_replicate, if_pos (by omega)])
  have h2 : freeB (List.replicate t.nodes.toNat false) ≤ (List.replicate t.nodes.toNat false).length := List.countP_le_length
  rw [List.length_replicate] at h2
  unfold seen0
  omega
 have hse : ∀ x : Int, 0 ≤ x → x < t.nodes → ((seen0 t s).getD x.toNat false = false ↔ x ≠ s) := fun x h0 h1 => by
  rw [seen0, getD_set (by simp; omega)]
  have e : (List.replicate t.nodes.toNat false).getD x.toNat false = false := by
   rw [List.getD_eq_getElem?_getD, List.getElem?_replicate]; split <;> rfl
  rw [e]
  by_cases h : x.toNat = s.toNat
  ·rw [if_pos h]
   have h3 : x = s := by omega
   simp [h3]
  ·rw [if_neg h]; exact ⟨fun _ e => h (by rw [e]), fun _ => rfl⟩
 rw [simpS, extS_mem hv 8 [] s _ hfree hsl]
 have e1 : (∃ q, p = [] ++ q ∧ ExtP t down d (decide (([] : List Int) ≠ [])) s (seen0 t s) q) ↔ ExtP t down d false s (seen0 t s) p := by
  constructor
  ·rintro ⟨q, h1, h2⟩
   rw [List.nil_append] at h1
   rw [h1]; simpa using h2
  ·intro h
   exact ⟨p, rfl, by simpa using h⟩
 rw [e1, ExtP_flat hv p false s _ hsl]
 constructor
 ·rintro ⟨h1, h2, h3, h4⟩
  refine ⟨fun p1 a p2 e => ?_, h2, ?_, fun h => by omega⟩
  ·obtain ⟨k1, k2, k3, _⟩ := h1 p1 a p2 e
   refine ⟨k1.1, k1.2, ?_, fun h => k3 (.inr h)⟩
   rw [dnB_up k1.1.1 (by omega)] at k2
   simpa using k2
  ·rw [List.nodup_cons]
   refine ⟨fun hm => ?_, h3⟩
   exact (hse s hs.1 hs.2).1 (h4 s hm) rfl
 ·intro h
  have hnd := List.nodup_cons.1 h.nd
  refine ⟨fun p1 a p2 e => ?_, h.en, hnd.2, fun x hx => ?_⟩
  ·obtain ⟨k1, k2, k3, k4⟩ := h.st p1 a p2 e
   refine ⟨⟨k1, k2⟩, by rw [dnB_up k1.1 (by omega), k3]; rfl, fun h2 => k4 (h2.resolve_left (by simp)), ?_⟩
   have hi : p1.length < p.length := by rw [e]; simp
   have := (h.root hi).2
   rw [e, List.take_left] at this
   exact this
  ·obtain ⟨a, ha, rfl⟩ := List.mem_map.1 hx
   obtain ⟨p1, p2, e⟩ := List.append_of_mem ha
   have k1 := (h.st p1 a p2 e).1
   have hr := head_rg hv k1.1 k1.2
   rw [hse _ hr.1 hr.2]
   exact fun e2 => hnd.1 (e2 ▸ hx)
theorem insP_srt {t : Top} {x : List Int} : ∀ {E : List (List Int)}, E.Pairwise (fun a b => ordS (cst t a) (cst t b) a b < 0) → x ∉ E → (insP t x E).Pairwise (fun a b => ordS (cst t a) (cst t b) a b < 0)
 | [], _, _ => List.pairwise_singleton _ _
 |y :: r, h, hn => by
  obtain ⟨h1, h2⟩ := List.pairwise_cons.1 h
  rw [insP]
  split
  ·rename_i hx
   refine List.pairwise_cons.2 ⟨fun z hz => ?_, insP_srt h2 fun hm => hn (List.mem_cons_of_mem _ hm)⟩
   rcases List.mem_cons.1 ((insP_perm t x r).mem_iff.1 hz) with rfl | hz
   ·exact hx
   ·exact h1 z hz
  ·rename_i hx
   have hxy : ordS (cst t x) (cst t y) x y < 0 := by
    rw [ordS_neg] at hx
    by_cases e : ordS (cst t x) (cst t y) x y = 0
    ·exact absurd (List.mem_cons_self) ((ordS_z e).2 ▸ hn)
    ·omega
   refine List.pairwise_cons.2 ⟨fun z hz => ?_, h⟩
   rcases List.mem_cons.1 hz with rfl | hz
   ·exact hxy
   ·have h3 := h1 z hz
    have h4 := ordS_trans (ca := cst t x) (cb := cst t y) (cc := cst t z) (a := x) (b := y) (c := z) (by omega) (by omega)
    by_cases e : ordS (cst t x) (cst t z) x z = 0
    ·obtain ⟨e1, rfl⟩ := ordS_z e
     rw [ordS_neg] at h3
     omega
    ·omega
theorem foldP_srt {t : Top} : ∀ (l E : List (List Int)), E.Pairwise (fun a b => ordS (cst t a) (cst t b) a b < 0) → (l ++ E).Nodup → (l.foldl (fun E x => insP t x E) E).Pairwise (fun a b => ordS (cst t a) (cst t b) a b < 0)
 | [], _, h, _ => h
 |x :: l, E, h, hn => by
  rw [List.cons_append, List.nodup_cons] at hn
  rw [List.foldl_cons]
  refine foldP_srt l _ (insP_srt h fun hm => hn.1 (List.mem_append_right _ hm)) ?_
  have h1 : (l ++ insP t x E).Perm (x :: (l ++ E)) := ((insP_perm t x E).append_left l).trans List.perm_middle
  rw [h1.nodup_iff, List.nodup_cons]
  exact hn
theorem cstP {t : Top} {down : List Bool} {s d most : Int} {p : List Int} (hv : validT t = true) (h : GoodP t down s d most p) : cst t p = costP t p := by
 unfold cst costP
 congr 1
 apply List.map_congr_left
 intro a ha
 obtain ⟨p1, p2, e⟩ := List.append_of_mem ha
 have := (h.st p1 a p2 e).1
 have := cost_rg hv this.1 this.2
 omega
def allS (t : Top) (down : List Bool) (s d : Int) : List (List Int) := sortP t (simpS t down s d)
theorem allS_srt {t : Top} {down : List Bool} {s d : Int} (hv : validT t = true) (hdn : down.length = 0 ∨ down.length = 2 * t.links.length) (hN8 : t.nodes ≤ 8) (hs : 0 ≤ s ∧ s < t.nodes) : IsSrt t (GoodP t down s d 0) (allS t down s d) := by
 have hm : ∀ p, p ∈ allS t down s d ↔ GoodP t down s d 0 p := fun p => by rw [allS, (sortP_perm t _).mem_iff, simpS_mem hv hdn hN8 hs]
 refine ⟨?_, hm⟩
 have h1 := foldP_srt (t := t) (simpS t down s d) [] List.Pairwise.nil (by rw [List.append_nil]; exact extS_nodup _ _ _ _)
 refine List.Pairwise.imp_of_mem ?_ h1
 intro a b ha hb h
 have ga := (hm a).1 ha
 have gb := (hm b).1 hb
 unfold ltP
 rw [← cstP hv ga, ← cstP hv gb]
 exact h
end Go.Ab

