/-
  Merged texts, part s.
-/
import Derived.Test.YtllgchplnhaplaaZr
/-
  The texts of the laws of the seat.
-/
namespace Go.Ab
open Go.Proofs
set_option maxRecDepth 100000
def af_law14_KpathsMask : AF := (AF.mk 118 [(6, .none)] (.seq (Rg [(AO.mk (.some 3) (.box (.t 0)) .none),(AO.mk (.some 4) (.box (.t 1)) .none),(AO.mk (.some 6) (.mv (Kb .false)) .none)]) (.seq (.seq (Rg [(AO.mk (.some 15) (.call 10 []) .none),(AO.mk (.some 16) (.un .not (.t 15)) .none)]) (.cond (.t 16) (.seq (Rg [(AO.mk (.some 6) (.mv (Kb .false)) .none)]) .ret) .skip)) (.seq (.seq (Rg [(AO.mk (.some 17) (.ld (.t 3) (.some 3)) .none),(AO.mk (.some 18) (.ld (.t 4) (.some 5)) .none),(AO.mk (.some 19) (.call 11 [(.t 17),(.t 18)]) .none),(AO.mk (.some 20) (.un .not (.t 19)) .none),(AO.mk (.some 21) (.mv (.t 20)) .none),(AO.mk (.some 22) (.mv (.t 2)) (.some (21, .false))),(AO.mk (.some 23) (.bin .lss (.t 22) (Ki 0)) (.some (21, .false))),(AO.mk (.some 24) (.pick (.t 21) (Kb .true) (.t 23)) .none),(AO.mk (.some 25) (.mv (.t 24)) .none),(AO.mk (.some 26) (.mv (.t 2)) (.some (25, .false))),(AO.mk (.some 27) (.ld (.t 3) (.some 3)) (.some (25, .false))),(AO.mk (.some 28) (.call 18 [(.t 27)]) (.some (25, .false))),(AO.mk (.some 29) (.bin .geq (.t 26) (.t 28)) (.some (25, .false))),(AO.mk (.some 30) (.pick (.t 25) (Kb .true) (.t 29)) .none),(AO.mk (.some 31) (.mv (.t 30)) .none),(AO.mk (.some 32) (.ld (.t 3) (.some 3)) (.some (31, .false))),(AO.mk (.some 33) (.fa (.t 4) 0) (.some (31, .false))),(AO.mk (.some 34) (.ld (.t 33) .none) (.some (31, .false))),(AO.mk (.some 35) (.call 19 [(.t 32),(.t 34)]) (.some (31, .false))),(AO.mk (.some 36) (.un .not (.t 35)) (.some (31, .false))),(AO.mk (.some 37) (.pick (.t 31) (Kb .true) (.t 36)) .none)]) (.cond (.t 37) (.seq (Rg [(AO.mk (.some 6) (.mv (Kb .true)) .none)]) .ret) .skip)) (.seq (Rg [(AO.mk (.some 38) (.fa (.t 4) 3) .none),(AO.mk .none (.st (.t 38) (Ki 16) 1) .none)]) (.seq (Rg [(AO.mk (.some 40) (.ld (.t 3) (.some 3)) .none),(AO.mk (.some 41) (.ld (.t 4) (.some 5)) .none),(AO.mk (.some 42) (.call 12 [(.t 40),(.t 41)]) .none),(AO.mk (.some 39) (.mv (.t 42)) .none),(AO.mk (.some 43) (.ext (.t 39) 0) .none),(AO.mk (.some 44) (.ext (.t 39) 1) .none),(AO.mk (.some 7) (.mv (.t 43)) .none),(AO.mk (.some 8) (.mv (.t 44)) .none)]) (.seq (.seq (Rg [(AO.mk (.some 45) (.mv (.t 8)) .none),(AO.mk (.some 46) (.bin .neq (.t 45) (Ki 0)) .none),(AO.mk (.some 47) (.mv (.t 46)) .none),(AO.mk (.some 48) (.mv (.t 7)) (.some (47, .false))),(AO.mk (.some 49) (.len (.t 48)) (.some (47, .false))),(AO.mk (.some 50) (.bin .eql (.t 49) (Ki 16)) (.some (47, .false))),(AO.mk (.some 51) (.pick (.t 47) (Kb .true) (.t 50)) .none)]) (.cond (.t 51) (.seq (Rg [(AO.mk (.some 6) (.mv (Kb .true)) .none)]) .ret) .skip)) (.seq (Rg [(AO.mk (.some 52) (.ld (.t 3) (.some 3)) .none),(AO.mk (.some 53) (.call 18 [(.t 52)]) .none),(AO.mk (.some 54) (.mks 1 1 [(.bool .false)] (.t 53) (.t 53)) .none),(AO.mk (.some 9) (.mv (.t 54)) .none)]) (.seq (.seq (Rg [(AO.mk (.some 10) (.mv (Ki 0)) .none)]) (.block 0 (.loop (.seq (.seq (Rg [(AO.mk (.some 55) (.mv (.t 10)) .none),(AO.mk (.some 56) (.mv (.t 9)) .none),(AO.mk (.some 57) (.len (.t 56)) .none),(AO.mk (.some 58) (.bin .lss (.t 55) (.t 57)) .none)]) (.cond (.t 58) .skip (.exit 0))) (.seq (.block 1 (Rg [(AO.mk (.some 61) (.mv (.t 9)) .none),(AO.mk (.some 62) (.mv (.t 10)) .none),(AO.mk (.some 63) (.fa (.t 4) 0) .none),(AO.mk (.some 64) (.ld (.t 63) .none) .none),(AO.mk (.some 65) (.mv (.t 10)) .none),(AO.mk (.some 66) (.call 20 [(.t 64),(.t 65)]) .none),(AO.mk (.some 67) (.mv (.t 66)) .none),(AO.mk (.some 68) (.mv (.t 10)) (.some (67, .false))),(AO.mk (.some 69) (.mv (.t 2)) (.some (67, .false))),(AO.mk (.some 70) (.bin .eql (.t 68) (.t 69)) (.some (67, .false))),(AO.mk (.some 71) (.pick (.t 67) (Kb .true) (.t 70)) .none),(AO.mk (.some 72) (.ias 1 (.t 61) (.t 62)) .none),(AO.mk .none (.st (.t 72) (.t 71) 1) .none)])) (Rg [(AO.mk (.some 59) (.mv (.t 10)) .none),(AO.mk (.some 60) (.bin .add (.t 59) (Ki 1)) .none),(AO.mk (.some 10) (.mv (.t 60)) .none)])))))) (.seq (Rg [(AO.mk (.some 73) (.mv (.t 9)) .none),(AO.mk (.some 74) (.fa (.t 4) 0) .none),(AO.mk .none (.st (.t 74) (.t 73) 1) .none)]) (.seq (Rg [(AO.mk (.some 76) (.ld (.t 3) (.some 3)) .none),(AO.mk (.some 77) (.ld (.t 4) (.some 5)) .none),(AO.mk (.some 78) (.call 12 [(.t 76),(.t 77)]) .none),(AO.mk (.some 75) (.mv (.t 78)) .none),(AO.mk (.some 79) (.ext (.t 75) 0) .none),(AO.mk (.some 80) (.ext (.t 75) 1) .none),(AO.mk (.some 11) (.mv (.t 79)) .none),(AO.mk (.some 12) (.mv (.t 80)) .none)]) (.seq (Rg [(AO.mk (.some 13) (.mv (.k (.c (.d (.list .true 1 []))))) .none)]) (.seq (.seq (Rg [(AO.mk (.some 14) (.mv (Ki 0)) .none)]) (.block 2 (.loop (.seq (.seq (Rg [(AO.mk (.some 81) (.mv (.t 14)) .none),(AO.mk (.some 82) (.mv (.t 7)) .none),(AO.mk (.some 83) (.len (.t 82)) .none),(AO.mk (.some 84) (.bin .lss (.t 81) (.t 83)) .none)]) (.cond (.t 84) .skip (.exit 2))) (.seq (.block 3 (.seq (Rg [(AO.mk (.some 87) (.mv (.t 7)) .none),(AO.mk (.some 88) (.mv (.t 14)) .none),(AO.mk (.some 89) (.ias 1 (.t 87) (.t 88)) .none),(AO.mk (.some 90) (.ld (.t 89) .none) .none),(AO.mk (.some 91) (.mv (.t 2)) .none),(AO.mk (.some 92) (.call 21 [(.t 90),(.t 91)]) .none),(AO.mk (.some 93) (.un .not (.t 92)) .none)]) (.cond (.t 93) (Rg [(AO.mk (.some 94) (.mv (.t 13)) .none),(AO.mk (.some 95) (.mv (.t 7)) .none),(AO.mk (.some 96) (.mv (.t 14)) .none),(AO.mk (.some 97) (.ias 1 (.t 95) (.t 96)) .none),(AO.mk (.some 98) (.ld (.t 97) .none) .none),(AO.mk (.some 99) (.bsl 1 [(.list .true 1 [])] 1 [(0, (.t 98))]) .none),(AO.mk (.some 100) (.app 1 24 [(.list .true 1 [])] (.t 94) (.t 99)) .none),(AO.mk (.some 13) (.mv (.t 100)) .none)]) .skip))) (Rg [(AO.mk (.some 85) (.mv (.t 14)) .none),(AO.mk (.some 86) (.bin .add (.t 85) (Ki 1)) .none),(AO.mk (.some 14) (.mv (.t 86)) .none)])))))) (.seq (.seq (Rg [(AO.mk (.some 101) (.mv (.t 13)) .none),(AO.mk (.some 102) (.len (.t 101)) .none),(AO.mk (.some 103) (.bin .eql (.t 102) (Ki 0)) .none)]) (.cond (.t 103) (.seq (Rg [(AO.mk (.some 104) (.mv (.t 12)) .none),(AO.mk (.some 105) (.bin .eql (.t 104) (Ki 11)) .none),(AO.mk (.some 106) (.mv (.t 105)) .none),(AO.mk (.some 107) (.mv (.t 11)) (.some (106, .true))),(AO.mk (.some 108) (.len (.t 107)) (.some (106, .true))),(AO.mk (.some 109) (.bin .eql (.t 108) (Ki 0)) (.some (106, .true))),(AO.mk (.some 110) (.pick (.t 106) (.t 109) (Kb .false)) .none),(AO.mk (.some 6) (.mv (.t 110)) .none)]) .ret) .skip)) (.seq (Rg [(AO.mk (.some 111) (.mv (.t 12)) .none),(AO.mk (.some 112) (.bin .eql (.t 111) (Ki 0)) .none),(AO.mk (.some 113) (.mv (.t 112)) .none),(AO.mk (.some 114) (.mv (.t 11)) (.some (113, .true))),(AO.mk (.some 115) (.mv (.t 13)) (.some (113, .true))),(AO.mk (.some 116) (.call 14 [(.t 114),(.t 115)]) (.some (113, .true))),(AO.mk (.some 117) (.pick (.t 113) (.t 116) (Kb .false)) .none),(AO.mk (.some 6) (.mv (.t 117)) .none)]) .ret)))))))))))))))
abbrev n_law14_KpathsMask : Nat := 7
theorem fn_law14_KpathsMask : Try.prog.funcs[n_law14_KpathsMask]? = some Try.f7 := Try.func7
theorem c_law14_KpathsMask : compF Try.prog Try.f7 = some af_law14_KpathsMask := by kernel_rfl
def af_law14_awake : AF := (AF.mk 60 [(0, .none)] (.seq (Rg [(AO.mk (.some 0) (.mv (Kb .false)) .none)]) (.seq (Rg [(AO.mk (.some 8) (.call 30 []) .none),(AO.mk (.some 9) (.call 29 [(.t 8),(.k (.c (.d (.list .true 1 [])))),(Ki 0),(Ki 2),(Ki 5),(Ki 0)]) .none),(AO.mk (.some 7) (.mv (.t 9)) .none),(AO.mk (.some 10) (.ext (.t 7) 0) .none),(AO.mk (.some 11) (.ext (.t 7) 1) .none),(AO.mk (.some 1) (.mv (.t 10)) .none),(AO.mk (.some 2) (.mv (.t 11)) .none)]) (.seq (Rg [(AO.mk (.some 13) (.call 30 []) .none),(AO.mk (.some 14) (.call 29 [(.t 13),(.k (.c (.d (.list .true 1 [])))),(Ki 0),(Ki 2),(Ki 5),(Ki 4)]) .none),(AO.mk (.some 12) (.mv (.t 14)) .none),(AO.mk (.some 15) (.ext (.t 12) 0) .none),(AO.mk (.some 16) (.ext (.t 12) 1) .none),(AO.mk (.some 3) (.mv (.t 15)) .none),(AO.mk (.some 4) (.mv (.t 16)) .none)]) (.seq (Rg [(AO.mk (.some 18) (.call 30 []) .none),(AO.mk (.some 19) (.mo (.lit (.list .false 1 [[(.int .i64 7)], [(.int .i64 5)]])) []) .none),(AO.mk (.some 20) (.call 17 [(.t 18),(.t 19)]) .none),(AO.mk (.some 17) (.mv (.t 20)) .none),(AO.mk (.some 21) (.ext (.t 17) 0) .none),(AO.mk (.some 22) (.ext (.t 17) 1) .none),(AO.mk (.some 5) (.mv (.t 21)) .none),(AO.mk (.some 6) (.mv (.t 22)) .none)]) (.seq (.seq (.reg .true [(AO.mk (.some 23) (.mv (.t 2)) .none),(AO.mk (.some 24) (.bin .eql (.t 23) (Ki 0)) .none),(AO.mk (.some 25) (.mv (.t 24)) .none),(AO.mk (.some 26) (.mv (.t 1)) (.some (25, .true))),(AO.mk (.some 27) (.mo (.lit (.list .false 1 [[(.int .i64 0)], [(.int .i64 2)]])) []) (.some (25, .true))),(AO.mk (.some 28) (.mo (.lit (.list .false 1 [[(.int .i64 7)], [(.int .i64 5)]])) []) (.some (25, .true))),(AO.mk (.some 29) (.bsl 1 [(.list .true 1 [])] 2 [(0, (.t 27)),(1, (.t 28))]) (.some (25, .true)))]) (.seq (Rg [(AO.mk (.some 30) (.call 14 [(.t 26),(.t 29)]) (.some (25, .true)))]) (.seq (.reg .true [(AO.mk (.some 31) (.pick (.t 25) (.t 30) (Kb .false)) .none),(AO.mk (.some 32) (.mv (.t 31)) .none),(AO.mk (.some 33) (.mv (.t 4)) (.some (32, .true))),(AO.mk (.some 34) (.bin .eql (.t 33) (Ki 0)) (.some (32, .true))),(AO.mk (.some 35) (.pick (.t 32) (.t 34) (Kb .false)) .none),(AO.mk (.some 36) (.mv (.t 35)) .none),(AO.mk (.some 37) (.mv (.t 3)) (.some (36, .true))),(AO.mk (.some 38) (.len (.t 37)) (.some (36, .true))),(AO.mk (.some 39) (.bin .eql (.t 38) (Ki 1)) (.some (36, .true))),(AO.mk (.some 40) (.pick (.t 36) (.t 39) (Kb .false)) .none),(AO.mk (.some 41) (.mv (.t 40)) .none),(AO.mk (.some 42) (.mv (.t 6)) (.some (41, .true))),(AO.mk (.some 43) (.bin .eql (.t 42) (Ki 0)) (.some (41, .true))),(AO.mk (.some 44) (.pick (.t 41) (.t 43) (Kb .false)) .none),(AO.mk (.some 45) (.mv (.t 44)) .none),(AO.mk (.some 46) (.mv (.t 5)) (.some (45, .true))),(AO.mk (.some 47) (.bin .eql (.t 46) (Ki 7)) (.some (45, .true))),(AO.mk (.some 48) (.pick (.t 45) (.t 47) (Kb .false)) .none),(AO.mk (.some 49) (.mv (.t 48)) .none),(AO.mk (.some 50) (.call 30 []) (.some (49, .true))),(AO.mk (.some 51) (.mv (.t 1)) (.some (49, .true))),(AO.mk (.some 52) (.ias 1 (.t 51) (Ki 0)) (.some (49, .true))),(AO.mk (.some 53) (.ld (.t 52) .none) (.some (49, .true))),(AO.mk (.some 54) (.mv (.t 1)) (.some (49, .true))),(AO.mk (.some 55) (.ias 1 (.t 54) (Ki 1)) (.some (49, .true))),(AO.mk (.some 56) (.ld (.t 55) .none) (.some (49, .true)))]) (.seq (Rg [(AO.mk (.some 57) (.call 16 [(.t 50),(.t 53),(.t 56)]) (.some (49, .true)))]) (.reg .true [(AO.mk (.some 58) (.bin .eql (.t 57) (Ki (-1))) (.some (49, .true))),(AO.mk (.some 59) (.pick (.t 49) (.t 58) (Kb .false)) .none),(AO.mk (.some 0) (.mv (.t 59)) .none)]))))) .ret))))))
abbrev n_law14_awake : Nat := 10
theorem fn_law14_awake : Try.prog.funcs[n_law14_awake]? = some Try.f10 := Try.func10
theorem c_law14_awake : compF Try.prog Try.f10 = some af_law14_awake := by kernel_rfl
def af_law14_small : AF := (AF.mk 31 [(4, .none)] (.seq (Rg [(AO.mk (.some 2) (.box (.t 0)) .none),(AO.mk (.some 3) (.box (.t 1)) .none),(AO.mk (.some 4) (.mv (Kb .false)) .none)]) (.seq (Rg [(AO.mk (.some 5) (.fa (.t 2) 2) .none),(AO.mk (.some 6) (.ld (.t 5) .none) .none),(AO.mk (.some 7) (.len (.t 6)) .none),(AO.mk (.some 8) (.bin .leq (.t 7) (Ki 11)) .none),(AO.mk (.some 9) (.mv (.t 8)) .none),(AO.mk (.some 10) (.fa (.t 2) 1) (.some (9, .true))),(AO.mk (.some 11) (.ld (.t 10) .none) (.some (9, .true))),(AO.mk (.some 12) (.len (.t 11)) (.some (9, .true))),(AO.mk (.some 13) (.bin .leq (.t 12) (Ki 20)) (.some (9, .true))),(AO.mk (.some 14) (.pick (.t 9) (.t 13) (Kb .false)) .none),(AO.mk (.some 15) (.mv (.t 14)) .none),(AO.mk (.some 16) (.fa (.t 3) 0) (.some (15, .true))),(AO.mk (.some 17) (.ld (.t 16) .none) (.some (15, .true))),(AO.mk (.some 18) (.len (.t 17)) (.some (15, .true))),(AO.mk (.some 19) (.bin .leq (.t 18) (Ki 40)) (.some (15, .true))),(AO.mk (.some 20) (.pick (.t 15) (.t 19) (Kb .false)) .none),(AO.mk (.some 21) (.mv (.t 20)) .none),(AO.mk (.some 22) (.ld (.t 2) (.some 3)) (.some (21, .true))),(AO.mk (.some 23) (.call 24 [(.t 22)]) (.some (21, .true))),(AO.mk (.some 24) (.un .not (.t 23)) (.some (21, .true))),(AO.mk (.some 25) (.mv (.t 24)) (.some (21, .true))),(AO.mk (.some 26) (.fa (.t 2) 0) (.some (25, .false))),(AO.mk (.some 27) (.ld (.t 26) .none) (.some (25, .false))),(AO.mk (.some 28) (.bin .leq (.t 27) (Ki 8)) (.some (25, .false))),(AO.mk (.some 29) (.pick (.t 25) (Kb .true) (.t 28)) (.some (21, .true))),(AO.mk (.some 30) (.pick (.t 21) (.t 29) (Kb .false)) .none),(AO.mk (.some 4) (.mv (.t 30)) .none)]) .ret)))
abbrev n_law14_small : Nat := 11
theorem fn_law14_small : Try.prog.funcs[n_law14_small]? = some Try.f11 := Try.func11
theorem c_law14_small : compF Try.prog Try.f11 = some af_law14_small := by kernel_rfl
def af_law14_shortest : AF := (AF.mk 22 [(4, .none),(5, .none)] (.seq (Rg [(AO.mk (.some 2) (.box (.t 0)) .none),(AO.mk (.some 3) (.box (.t 1)) .none),(AO.mk (.some 4) (.mv (.k (.c (.d (.list .true 1 []))))) .none),(AO.mk (.some 5) (.mv (Ki 0)) .none)]) (.seq (.seq (.rgf [[], [], [], [2], [1, 2, 3], [], [5], [], [7], [], [9], [], [11], [0, 1, 2, 3, 4, 5, 6, 7, 8, 9, 10, 11, 12], [0, 1, 2, 3, 4, 5, 6, 7, 8, 9, 10, 11, 12, 13], [0, 1, 2, 3, 4, 5, 6, 7, 8, 9, 10, 11, 12, 13], [0, 1, 2, 3, 4, 5, 6, 7, 8, 9, 10, 11, 12, 13, 14, 15], [0, 1, 2, 3, 4, 5, 6, 7, 8, 9, 10, 11, 12, 13, 14, 15, 16]] 0 [(AO.mk (.some 6) (.ld (.t 2) (.some 3)) .none),(AO.mk (.some 7) (.bsl 1 [(.bool .false)] 0 []) .none),(AO.mk (.some 8) (.fa (.t 3) 0) .none),(AO.mk (.some 9) (.ld (.t 8) .none) .none),(AO.mk (.some 10) (.app 1 1 [(.bool .false)] (.t 7) (.t 9)) .none),(AO.mk (.some 11) (.fa (.t 3) 1) .none),(AO.mk (.some 12) (.ld (.t 11) .none) .none),(AO.mk (.some 13) (.fa (.t 3) 2) .none),(AO.mk (.some 14) (.ld (.t 13) .none) .none),(AO.mk (.some 15) (.fa (.t 3) 3) .none),(AO.mk (.some 16) (.ld (.t 15) .none) .none),(AO.mk (.some 17) (.fa (.t 3) 4) .none),(AO.mk (.some 18) (.ld (.t 17) .none) .none)]) (.seq (Rg [(AO.mk (.some 19) (.call 29 [(.t 6),(.t 10),(.t 12),(.t 14),(.t 16),(.t 18)]) .none)]) (.rgf [[], [], [], [2], [1, 2, 3], [], [5], [], [7], [], [9], [], [11], [0, 1, 2, 3, 4, 5, 6, 7, 8, 9, 10, 11, 12], [0, 1, 2, 3, 4, 5, 6, 7, 8, 9, 10, 11, 12, 13], [0, 1, 2, 3, 4, 5, 6, 7, 8, 9, 10, 11, 12, 13], [0, 1, 2, 3, 4, 5, 6, 7, 8, 9, 10, 11, 12, 13, 14, 15], [0, 1, 2, 3, 4, 5, 6, 7, 8, 9, 10, 11, 12, 13, 14, 15, 16]] 14 [(AO.mk (.some 20) (.ext (.t 19) 0) .none),(AO.mk (.some 21) (.ext (.t 19) 1) .none),(AO.mk (.some 4) (.mv (.t 20)) .none),(AO.mk (.some 5) (.mv (.t 21)) .none)]))) .ret)))
abbrev n_law14_shortest : Nat := 12
theorem fn_law14_shortest : Try.prog.funcs[n_law14_shortest]? = some Try.f12 := Try.func12
theorem c_law14_shortest : compF Try.prog Try.f12 = some af_law14_shortest := by kernel_rfl
def af_ref14_Same : AF := (AF.mk 27 [(4, .none)] (.seq (Rg [(AO.mk (.some 4) (.mv (Kb .false)) .none)]) (.seq (.seq (Rg [(AO.mk (.some 6) (.mv (.t 0)) .none),(AO.mk (.some 7) (.len (.t 6)) .none),(AO.mk (.some 8) (.mv (.t 1)) .none),(AO.mk (.some 9) (.len (.t 8)) .none),(AO.mk (.some 10) (.bin .neq (.t 7) (.t 9)) .none)]) (.cond (.t 10) (.seq (Rg [(AO.mk (.some 4) (.mv (Kb .false)) .none)]) .ret) .skip)) (.seq (.seq (Rg [(AO.mk (.some 5) (.mv (Ki 0)) .none)]) (.block 0 (.loop (.seq (.seq (Rg [(AO.mk (.some 11) (.mv (.t 5)) .none),(AO.mk (.some 12) (.mv (.t 0)) .none),(AO.mk (.some 13) (.len (.t 12)) .none),(AO.mk (.some 14) (.bin .lss (.t 11) (.t 13)) .none)]) (.cond (.t 14) .skip (.exit 0))) (.seq (.block 1 (.seq (.seq (.reg .true [(AO.mk (.some 17) (.mv (.t 0)) .none),(AO.mk (.some 18) (.mv (.t 5)) .none),(AO.mk (.some 19) (.ias 1 (.t 17) (.t 18)) .none),(AO.mk (.some 20) (.ld (.t 19) .none) .none),(AO.mk (.some 21) (.mv (.t 1)) .none),(AO.mk (.some 22) (.mv (.t 5)) .none),(AO.mk (.some 23) (.ias 1 (.t 21) (.t 22)) .none),(AO.mk (.some 24) (.ld (.t 23) .none) .none)]) (.seq (Rg [(AO.mk (.some 25) (.call 28 [(.t 20),(.t 24)]) .none)]) (.reg .true [(AO.mk (.some 26) (.un .not (.t 25)) .none)]))) (.cond (.t 26) (.seq (Rg [(AO.mk (.some 4) (.mv (Kb .false)) .none)]) .ret) .skip))) (Rg [(AO.mk (.some 15) (.mv (.t 5)) .none),(AO.mk (.some 16) (.bin .add (.t 15) (Ki 1)) .none),(AO.mk (.some 5) (.mv (.t 16)) .none)])))))) (.seq (Rg [(AO.mk (.some 4) (.mv (Kb .true)) .none)]) .ret)))))
abbrev n_ref14_Same : Nat := 14
theorem fn_ref14_Same : Try.prog.funcs[n_ref14_Same]? = some Try.f14 := Try.func14
theorem c_ref14_Same : compF Try.prog Try.f14 = some af_ref14_Same := by kernel_rfl
def af_ref14_Mask : AF := (AF.mk 15 [(4, .none)] (.seq (Rg [(AO.mk (.some 2) (.box (.t 0)) .none),(AO.mk (.some 4) (.mv (Kb .false)) .none)]) (.seq (Rg [(AO.mk (.some 5) (.mv (.t 1)) .none),(AO.mk (.some 6) (.len (.t 5)) .none),(AO.mk (.some 7) (.bin .eql (.t 6) (Ki 0)) .none),(AO.mk (.some 8) (.mv (.t 7)) .none),(AO.mk (.some 9) (.mv (.t 1)) (.some (8, .false))),(AO.mk (.some 10) (.len (.t 9)) (.some (8, .false))),(AO.mk (.some 11) (.ld (.t 2) (.some 3)) (.some (8, .false))),(AO.mk (.some 12) (.call 18 [(.t 11)]) (.some (8, .false))),(AO.mk (.some 13) (.bin .eql (.t 10) (.t 12)) (.some (8, .false))),(AO.mk (.some 14) (.pick (.t 8) (Kb .true) (.t 13)) .none),(AO.mk (.some 4) (.mv (.t 14)) .none)]) .ret)))
abbrev n_ref14_Mask : Nat := 19
theorem fn_ref14_Mask : Try.prog.funcs[n_ref14_Mask]? = some Try.f19 := Try.func19
theorem c_ref14_Mask : compF Try.prog Try.f19 = some af_ref14_Mask := by kernel_rfl
def af_ref14_Down : AF := (AF.mk 19 [(4, .none)] (.seq (Rg [(AO.mk (.some 4) (.mv (Kb .false)) .none)]) (.seq (Rg [(AO.mk (.some 5) (.mv (.t 1)) .none),(AO.mk (.some 6) (.bin .geq (.t 5) (Ki 0)) .none),(AO.mk (.some 7) (.mv (.t 6)) .none),(AO.mk (.some 8) (.mv (.t 1)) (.some (7, .true))),(AO.mk (.some 9) (.mv (.t 0)) (.some (7, .true))),(AO.mk (.some 10) (.len (.t 9)) (.some (7, .true))),(AO.mk (.some 11) (.bin .lss (.t 8) (.t 10)) (.some (7, .true))),(AO.mk (.some 12) (.pick (.t 7) (.t 11) (Kb .false)) .none),(AO.mk (.some 13) (.mv (.t 12)) .none),(AO.mk (.some 14) (.mv (.t 0)) (.some (13, .true))),(AO.mk (.some 15) (.mv (.t 1)) (.some (13, .true))),(AO.mk (.some 16) (.ias 1 (.t 14) (.t 15)) (.some (13, .true))),(AO.mk (.some 17) (.ld (.t 16) .none) (.some (13, .true))),(AO.mk (.some 18) (.pick (.t 13) (.t 17) (Kb .false)) .none),(AO.mk (.some 4) (.mv (.t 18)) .none)]) .ret)))
abbrev n_ref14_Down : Nat := 20
theorem fn_ref14_Down : Try.prog.funcs[n_ref14_Down]? = some Try.f20 := Try.func20
theorem c_ref14_Down : compF Try.prog Try.f20 = some af_ref14_Down := by kernel_rfl
def af_law14_ring : AF := (AF.mk 22 [(0, (.some (.some 3)))] (.seq (Rg [(AO.mk (.some 0) (.box (.k (.agg [Di 0, (.d (.list .true 1 [])),(.d (.list .true 7 []))]))) .none)]) (.seq (Rg [(AO.mk (.some 3) (.build [Di 0, (.d (.list .true 1 [])),(.d (.list .true 7 []))] [(0, (1, (Ki 4)))]) .none),(AO.mk (.some 1) (.box (.k (.agg [Di 0, (.d (.list .true 1 [])),(.d (.list .true 7 []))]))) .none),(AO.mk .none (.st (.t 1) (.t 3) 3) .none)]) (.seq (.seq (Rg [(AO.mk (.some 2) (.mv (Ki 0)) .none)]) (.block 0 (.loop (.seq (.seq (Rg [(AO.mk (.some 4) (.mv (.t 2)) .none),(AO.mk (.some 5) (.bin .lss (.t 4) (Ki 4)) .none)]) (.cond (.t 5) .skip (.exit 0))) (.seq (.block 1 (Rg [(AO.mk (.some 8) (.fa (.t 1) 2) .none),(AO.mk (.some 9) (.ld (.t 8) .none) .none),(AO.mk (.some 10) (.mv (.t 2)) .none),(AO.mk (.some 11) (.mv (.t 2)) .none),(AO.mk (.some 12) (.bin .add (.t 11) (Ki 1)) .none),(AO.mk (.some 13) (.bin .rem (.t 12) (Ki 4)) .none),(AO.mk (.some 14) (.build [Di 0, (.d (.int .i64 0))] [(0, (1, (Ki 1))),(1, (1, (Ki 1)))]) .none),(AO.mk (.some 15) (.mv (.t 2)) .none),(AO.mk (.some 16) (.bin .add (Ki 1) (.t 15)) .none),(AO.mk (.some 17) (.build [Di 0, (.d (.int .i64 0)),(.d (.int .i64 0)),(.d (.int .i64 0)),(.d (.int .i64 0)),(.d (.int .i64 0)),(.d (.int .i64 0))] [(0, (1, (.t 10))),(1, (1, (.t 13))),(2, (2, (.t 14))),(5, (1, (.t 16)))]) .none),(AO.mk (.some 18) (.bsl 7 [(.int .i64 0),(.int .i64 0),(.int .i64 0),(.int .i64 0),(.int .i64 0),(.int .i64 0),(.int .i64 0)] 1 [(0, (.t 17))]) .none),(AO.mk (.some 19) (.app 7 56 [(.int .i64 0),(.int .i64 0),(.int .i64 0),(.int .i64 0),(.int .i64 0),(.int .i64 0),(.int .i64 0)] (.t 9) (.t 18)) .none),(AO.mk (.some 20) (.fa (.t 1) 2) .none),(AO.mk .none (.st (.t 20) (.t 19) 1) .none)])) (Rg [(AO.mk (.some 6) (.mv (.t 2)) .none),(AO.mk (.some 7) (.bin .add (.t 6) (Ki 1)) .none),(AO.mk (.some 2) (.mv (.t 7)) .none)])))))) (.seq (Rg [(AO.mk (.some 21) (.ld (.t 1) (.some 3)) .none),(AO.mk .none (.st (.t 0) (.t 21) 3) .none)]) .ret)))))
abbrev n_law14_ring : Nat := 30
theorem fn_law14_ring : Try.prog.funcs[n_law14_ring]? = some Try.f30 := Try.func30
theorem c_law14_ring : compF Try.prog Try.f30 = some af_law14_ring := by kernel_rfl
end Go.Ab

/-
  The reference's small functions on paths.
-/
namespace Go.Ab
open Go.Proofs
def dnB (down : List Bool) (a : Int) : Bool := decide (0 ≤ a ∧ a < down.length) && down.getD a.toNat false
theorem dnB_up {down : List Bool} {a : Int} (h0 : 0 ≤ a) (h1 : down.length = 0 ∨ a < down.length) : dnB down a = !upB down a := by
 unfold dnB upB
 rcases h1 with h1 | h1
 ·have : ¬ (a < (down.length : Int)) := by omega
  rw [decide_eq_false (fun h => this h.2), decide_eq_true h1]; rfl
 ·rw [decide_eq_true ⟨h0, h1⟩, decide_eq_false (by omega)]; simp
theorem rdown_ok (P : Program) (hP : P = Try.prog) (down : List Bool) (a : Int) : Ret P n_ref14_Down [boolsA down, iA a] (bA (dnB down a)) := by
 refine ret_start (hP ▸ mixed) (hP ▸ fn_ref14_Down) (hP ▸ c_ref14_Down) (Nat.le_of_ble_eq_true rfl) fun Λ Λo K hK => ?_
 clear hP
 have key : ∀ (b : Bool), 0 ≤ a → a < down.length → down[a.toNat]? = some b → K (bA b) := fun b h0 h1 h2 => by
  rw [dnB, decide_eq_true ⟨h0, h1⟩, List.getD_eq_getElem?_getD, h2] at hK; exact hK
 have no : ¬ (0 ≤ a ∧ a < down.length) → K (bA false) := fun h => by rw [dnB, decide_eq_false h] at hK; exact hK
 clear hK
 simp only [boolsA, boolsD] at *
 generalize hdl : down.map encB = dl at *
 have hln : Λ dl = down.length := by rw [Λo, ← hdl]; simp
 conv => cbv
 repeat' first | (intro e he; obtain ⟨b, hb, rfl⟩ := map_get' hdl he; (conv => cbv)) | exact gu | exact trivial | refine And.intro ?_ ?_ | (intro hc; exact absurd hc (by decide)) | (intro hc; exfalso; omega) | (intro hc; (first | rw [wrap_small (by omega) (by omega)] at hc | rw [nI_eq] at hc | skip); try (conv => cbv))
 all_goals first
  | exact no (by omega)
  | exact key _ (by omega) (by omega) hb
theorem mask_ok (P : Program) (hP : P = Try.prog) (t : Top) (down : List Bool) : Ret P n_ref14_Mask [topA t, boolsA down] (bA (decide (down.length = 0 ∨ (down.length : Int) = arcsT t))) := by
 have ha := arcs_ok P hP t
 refine ret_start (hP ▸ mixed) (hP ▸ fn_ref14_Mask) (hP ▸ c_ref14_Mask) (Nat.le_of_ble_eq_true rfl) fun Λ Λo K hK => ?_
 clear hP
 have yes := yes_of hK
 have no := no_of hK
 clear hK
 have har := arcsT_le t
 simp only [topA, boolsA, boolsD, linksD] at *
 generalize t.ov.map encB = ovl at *
 generalize t.links.map encLk = lkl at *
 generalize hdl : down.map encB = dl at *
 generalize t.nodes = nodes at *
 have hln : Λ dl = down.length := by rw [Λo, ← hdl]; simp
 generalize arcsT t = ar at *
 conv => cbv
 repeat' first | (refine call_r ha rfl rfl ?_; conv => cbv) | exact gu | exact trivial | refine And.intro ?_ ?_ | (intro hc; exact absurd hc (by decide)) | (intro hc; exfalso; omega) | (intro hc; (first | rw [wrap_small (by omega) (by omega)] at hc | rw [nI_eq] at hc | skip); try (conv => cbv))
 all_goals first
  | exact yes (by omega)
  | exact no (by omega)
theorem rsame_ok (P : Program) (hP : P = Try.prog) (a b : List (List Int)) (ha : a.length ≤ 1000000) (hb : b.length ≤ 1000000) : Ret P n_ref14_Same [.c (.d (.list false 1 (a.map encRow))), .c (.d (.list false 1 (b.map encRow)))] (bA (decide (a = b))) := by
 have hs := fun x y => sameInts_ok P hP x y
 refine ret_start (hP ▸ mixed) (hP ▸ fn_ref14_Same) (hP ▸ c_ref14_Same) (Nat.le_of_ble_eq_true rfl) fun Λ Λo K hK => ?_
 clear hP
 have yes := yes_of hK
 have no := no_of hK
 clear hK
 have hxa' : ∀ (k : Nat) (x : List Int), a[k]? = some x → (a.map encRow)[k]? = some [.list false 1 (x.map encI)] := fun k x hx => by rw [List.getElem?_map, hx]; rfl
 have hxb' : ∀ (k : Nat) (x : List Int), b[k]? = some x → (b.map encRow)[k]? = some [.list false 1 (x.map encI)] := fun k x hx => by rw [List.getElem?_map, hx]; rfl
 simp only [intsA, intsD] at *
 generalize hal : a.map encRow = al at *
 generalize hbl : b.map encRow = bl at *
 have aln : Λ al = a.length := by rw [Λo, ← hal]; simp
 have bln : Λ bl = b.length := by rw [Λo, ← hbl]; simp
 conv => cbv
 repeat' first | exact gu | exact trivial | refine And.intro ?_ ?_ | (intro hc; exact absurd hc (by decide)) | (intro hc; exfalso; omega) | (intro hc; (first | rw [wrap_small (by omega) (by omega)] at hc | rw [nI_eq] at hc | skip); try (conv => cbv))
 ·exact no fun h => by subst h; omega
 refine loop_up a.length (fun i : Int => [(0, .c (.d (.list false 1 al))), (1, .c (.d (.list false 1 bl))), (5, iA i)]) (fun _ => []) (fun k i => i = k ∧ k ≤ a.length ∧ a.take k = b.take k) 0 (Wk.cw) ⟨rfl, by omega, by simp⟩ (fun k s h => h.2.1) ?_
 rintro k i Q' ⟨hi, hk, hno⟩ norm ex rt
 by_cases hlt : k < a.length
 ·obtain ⟨x, hx⟩ : ∃ x, a[k]? = some x := ⟨_, List.getElem?_eq_getElem hlt⟩
  obtain ⟨y, hy⟩ : ∃ y, b[k]? = some y := ⟨_, List.getElem?_eq_getElem (by omega)⟩
  have hxa := hxa' k x hx
  have hya := hxb' k y hy
  have hsx := hs x y
  have e1 : i.toNat = k := by omega
  rw [← e1] at hxa hya
  by_cases hxy : x = y
  ·rw [decide_eq_true hxy] at hsx
   generalize x.map encI = xl at *
   generalize y.map encI = yl at *
   conv => cbv
   repeat' first | (intro e he; cases Option.some.inj (he.symm.trans hxa); (conv => cbv)) | (intro e he; cases Option.some.inj (he.symm.trans hya); (conv => cbv)) | (refine call_r hsx rfl rfl ?_; conv => cbv) | exact gu | exact trivial | refine And.intro ?_ ?_ | (intro hc; exact absurd hc (by decide)) | (intro hc; exfalso; omega) | (intro hc; (first | rw [wrap_small (by omega) (by omega)] at hc | rw [nI_eq] at hc | skip); try (conv => cbv))
   refine norm _ _ _ ?_ (Wk.cw)
   exact ⟨by omega, by omega, by rw [take_succ_get hx, take_succ_get hy, hno, hxy]⟩
  ·rw [decide_eq_false hxy] at hsx
   generalize x.map encI = xl at *
   generalize y.map encI = yl at *
   conv => cbv
   repeat' first | (intro e he; cases Option.some.inj (he.symm.trans hxa); (conv => cbv)) | (intro e he; cases Option.some.inj (he.symm.trans hya); (conv => cbv)) | (refine call_r hsx rfl rfl ?_; conv => cbv) | exact gu | exact trivial | refine And.intro ?_ ?_ | (intro hc; exact absurd hc (by decide)) | (intro hc; exfalso; omega) | (intro hc; (first | rw [wrap_small (by omega) (by omega)] at hc | rw [nI_eq] at hc | skip); try (conv => cbv))
   refine rt _ _ ?_
   conv => cbv
   refine no fun h => ?_
   subst h; rw [hx] at hy; cases hy; exact hxy rfl
 ·conv => cbv
  repeat' first | exact gu | exact trivial | refine And.intro ?_ ?_ | (intro hc; exact absurd hc (by decide)) | (intro hc; exfalso; omega) | (intro hc; (first | rw [wrap_small (by omega) (by omega)] at hc | rw [nI_eq] at hc | skip); try (conv => cbv))
  refine ex _ _ _ ?_
  conv => cbv
  repeat' first | exact gu | exact trivial | refine And.intro ?_ ?_ | (intro hc; exact absurd hc (by decide)) | (intro hc; exfalso; omega) | (intro hc; (first | rw [wrap_small (by omega) (by omega)] at hc | rw [nI_eq] at hc | skip); try (conv => cbv))
  exact yes (by rw [List.take_of_length_le (by omega), List.take_of_length_le (by omega)] at hno; exact hno)
end Go.Ab

/-
  The reference's enumeration of paths.
-/
namespace Go.Ab
open Go.Proofs
def extS (t : Top) (down : List Bool) (d : Int) : Nat → List Int → Int → List Bool → List (List Int)
 | 0, _, _, _ => []
 | m + 1, path, at', sn => if at' = d then [path] else if path ≠ [] ∧ ovT t at' = true then [] else
  (outT t at').flatMap fun a => if dnB down a = true ∨ sn.getD (headT t a).toNat false = true then [] else extS t down d m (path ++ [a]) (headT t a) (sn.set (headT t a).toNat true)
def freeB (sn : List Bool) : Nat := sn.countP (fun b => !b)
theorem freeB_set {sn : List Bool} {j : Nat} (h : sn[j]? = some false) : freeB (sn.set j true) + 1 = freeB sn := by
 induction sn generalizing j with
 | nil => simp at h
 | cons b r ih =>
  cases j with
  | zero =>
   simp only [List.getElem?_cons_zero, Option.some.injEq] at h
   subst h
   simp [freeB]
  | succ j =>
   have := ih (j := j) (by simpa using h)
   unfold freeB at this ⊢
   rw [List.set_cons_succ, List.countP_cons, List.countP_cons]
   omega
end Go.Ab

/-
  The reference's sorting of paths.
-/
namespace Go.Ab
open Go.Proofs
def insP (t : Top) (x : List Int) : List (List Int) → List (List Int)
 | [] => [x]
 | y :: r => if ordS (cst t y) (cst t x) y x < 0 then y :: insP t x r else x :: y :: r
def sortP (t : Top) (l : List (List Int)) : List (List Int) := l.foldl (fun E x => insP t x E) []
theorem insP_perm (t : Top) (x : List Int) : ∀ E, (insP t x E).Perm (x :: E)
 | [] => .refl _
 |y :: r => by
  rw [insP]
  split
  ·exact ((insP_perm t x r).cons y).trans (.swap _ _ _)
  ·exact .refl _
theorem foldP_perm (t : Top) : ∀ (l E : List (List Int)), (l.foldl (fun E x => insP t x E) E).Perm (l ++ E)
 | [], E => .refl _
 |x :: l, E => by
  rw [List.foldl_cons]
  refine (foldP_perm t l _).trans ?_
  have h1 : (l ++ insP t x E).Perm (l ++ x :: E) := (insP_perm t x E).append_left l
  exact h1.trans List.perm_middle
theorem sortP_perm (t : Top) (l : List (List Int)) : (sortP t l).Perm l := by
 have := foldP_perm t l []
 rwa [List.append_nil] at this
end Go.Ab

/-
  The reference's enumeration of all paths.
-/
namespace Go.Ab
open Go.Proofs
def seen0 (t : Top) (s : Int) : List Bool := (List.replicate t.nodes.toNat false).set s.toNat true
def simpS (t : Top) (down : List Bool) (s d : Int) : List (List Int) := extS t down d 8 [] s (seen0 t s)
end Go.Ab

/-
  The reference's paths are the good ones, each once.
-/
namespace Go.Ab
open Go.Proofs
def ExtP (t : Top) (down : List Bool) (d : Int) : Bool → Int → List Bool → List Int → Prop
 | _, v, _, [] => v = d
 | b, v, sn, a :: r => v ≠ d ∧ (b = true → ovT t v = false) ∧ ((0 ≤ a ∧ a < 2 * t.links.length) ∧ tailG t a = v) ∧ dnB down a = false ∧ sn.getD (headG t a).toNat false = false ∧ ExtP t down d true (headG t a) (sn.set (headG t a).toNat true) r
theorem outT_mem {t : Top} {a n : Int} (hv : validT t = true) : a ∈ outT t n ↔ (0 ≤ a ∧ a < 2 * t.links.length) ∧ tailG t a = n := by
 rw [outT, List.mem_filter, decide_eq_true_eq, arcsTo, List.mem_map]
 constructor
 ·rintro ⟨⟨j, hj, rfl⟩, h2⟩
  rw [List.mem_range, arcsT, if_pos hv] at hj
  have h0 : (0 : Int) ≤ (j : Int) := by omega
  have h1 : (j : Int) < 2 * t.links.length := by omega
  rw [tailT_valid hv h0 h1] at h2
  exact ⟨⟨h0, h1⟩, h2⟩
 ·rintro ⟨⟨h0, h1⟩, h2⟩
  refine ⟨⟨a.toNat, ?_, by omega⟩, by rw [tailT_valid hv h0 h1]; exact h2⟩
  rw [List.mem_range, arcsT, if_pos hv]; omega
theorem headT_valid' {t : Top} {a : Int} (hv : validT t = true) (h0 : 0 ≤ a) (h1 : a < 2 * t.links.length) : headT t a = headG t a := by
 rw [headT, headG, arcsT, if_pos hv, if_pos (show 0 ≤ a ∧ a < 2 * (t.links.length : Int) from ⟨h0, h1⟩)]
theorem head_rg {t : Top} {a : Int} (hv : validT t = true) (h0 : 0 ≤ a) (h1 : a < 2 * t.links.length) : 0 ≤ headG t a ∧ headG t a < t.nodes := by
 have := endG_range hv true h0 h1
 exact this
theorem outT_nodup (t : Top) (n : Int) : (outT t n).Nodup := by
 unfold outT
 refine List.Nodup.sublist List.filter_sublist ?_
 unfold arcsTo
 rw [List.nodup_iff_pairwise_ne, List.pairwise_map]
 refine List.Pairwise.imp ?_ (List.nodup_iff_pairwise_ne.1 List.nodup_range)
 intro a b h e
 exact h (by omega)
theorem extS_mem {t : Top} {down : List Bool} {d : Int} (hv : validT t = true) : ∀ (m : Nat) (path : List Int) (v : Int) (sn : List Bool), freeB sn < m → (sn.length : Int) = t.nodes → ∀ p, p ∈ extS t down d m path v sn ↔ ∃ q, p = path ++ q ∧ ExtP t down d (decide (path ≠ [])) v sn q
 | 0, _, _, _, h, _, _ => by omega
 |m + 1, path, v, sn, hf, hl, p => by
  rw [extS]
  by_cases hvd : v = d
  ·rw [if_pos hvd, List.mem_singleton]
   constructor
   ·intro h; exact ⟨[], by rw [h, List.append_nil], hvd⟩
   ·rintro ⟨q, h1, h2⟩
    cases q with
    | nil => rw [h1, List.append_nil]
    | cons a r => exact absurd hvd h2.1
  ·rw [if_neg hvd]
   by_cases hov : path ≠ [] ∧ ovT t v = true
   ·rw [if_pos hov]
    constructor
    ·intro h; cases h
    ·rintro ⟨q, h1, h2⟩
     cases q with
     | nil => exact absurd h2 hvd
     | cons a r =>
      have := h2.2.1 (decide_eq_true hov.1)
      rw [hov.2] at this; cases this
   ·rw [if_neg hov, List.mem_flatMap]
    have hov2 : decide (path ≠ []) = true → ovT t v = false := fun h => by
     cases hb : ovT t v with
     | false => rfl
     | true => exact absurd ⟨of_decide_eq_true h, hb⟩ hov
    constructor
    ·rintro ⟨a, ha, h⟩
     rw [outT_mem hv] at ha
     have hh := headT_valid' hv ha.1.1 ha.1.2
     have hr := head_rg hv ha.1.1 ha.1.2
     rw [hh] at h
     split at h
     ·cases h
     ·rename_i hn
      rw [not_or] at hn
      have hsn : sn[(headG t a).toNat]? = some false := by
       rw [List.getElem?_eq_getElem (by omega)]
       have := Bool.eq_false_iff.2 hn.2
       rw [List.getD_eq_getElem?_getD, List.getElem?_eq_getElem (by omega)] at this
       exact congrArg some this
      have h3 := freeB_set hsn
      rw [extS_mem hv m _ _ _ (by omega) (by rw [List.length_set]; exact hl)] at h
      obtain ⟨q, hq1, hq2⟩ := h
      refine ⟨a :: q, by rw [hq1]; simp, hvd, hov2, ha, Bool.eq_false_iff.2 hn.1, Bool.eq_false_iff.2 hn.2, ?_⟩
      rw [decide_eq_true (by simp)] at hq2
      exact hq2
    ·rintro ⟨q, h1, h2⟩
     cases q with
     | nil => exact absurd h2 hvd
     | cons a r =>
      obtain ⟨_, _, h3, h4, h5, h6⟩ := h2
      have hh := headT_valid' hv h3.1.1 h3.1.2
      have hr := head_rg hv h3.1.1 h3.1.2
      refine ⟨a, (outT_mem hv).2 h3, ?_⟩
      rw [hh, if_neg (by rw [h4, h5]; simp)]
      have hsn : sn[(headG t a).toNat]? = some false := by
       rw [List.getElem?_eq_getElem (by omega)]
       rw [List.getD_eq_getElem?_getD, List.getElem?_eq_getElem (by omega)] at h5
       exact congrArg some h5
      have h7 := freeB_set hsn
      rw [extS_mem hv m _ _ _ (by omega) (by rw [List.length_set]; exact hl)]
      exact ⟨r, by rw [h1]; simp, by rw [decide_eq_true (by simp)]; exact h6⟩
theorem extS_pre {t : Top} {down : List Bool} {d : Int} : ∀ (m : Nat) (path : List Int) (v : Int) (sn : List Bool) (p : List Int), p ∈ extS t down d m path v sn → ∃ q, p = path ++ q
 | 0, _, _, _, _, h => by cases h
 |m + 1, path, v, sn, p, h => by
  rw [extS] at h
  split at h
  ·rw [List.mem_singleton] at h; exact ⟨[], by rw [h, List.append_nil]⟩
  ·split at h
   ·cases h
   ·rw [List.mem_flatMap] at h
    obtain ⟨a, _, h⟩ := h
    split at h
    ·cases h
    ·obtain ⟨q, rfl⟩ := extS_pre m _ _ _ p h
     exact ⟨a :: q, by simp⟩
theorem extS_nodup {t : Top} {down : List Bool} {d : Int} : ∀ (m : Nat) (path : List Int) (v : Int) (sn : List Bool), (extS t down d m path v sn).Nodup
 | 0, _, _, _ => List.nodup_nil
 |m + 1, path, v, sn => by
  rw [extS]
  split
  ·simp
  ·split
   ·simp
   ·have key : ∀ l : List Int, l.Nodup → (l.flatMap fun a => if dnB down a = true ∨ sn.getD (headT t a).toNat false = true then [] else extS t down d m (path ++ [a]) (headT t a) (sn.set (headT t a).toNat true)).Nodup := by
     intro l
     induction l with
     | nil => intro _; simp
     | cons a r ih =>
      intro hn
      obtain ⟨h1, h2⟩ := List.nodup_cons.1 hn
      rw [List.flatMap_cons, List.nodup_append]
      refine ⟨?_, ih h2, fun x hx y hy e => ?_⟩
      ·split
       ·simp
       ·exact extS_nodup m _ _ _
      ·subst e
       rw [List.mem_flatMap] at hy
       obtain ⟨b, hb, hy⟩ := hy
       split at hx
       ·cases hx
       ·split at hy
        ·cases hy
        ·obtain ⟨q1, e1⟩ := extS_pre m _ _ _ x hx
         obtain ⟨q2, e2⟩ := extS_pre m _ _ _ x hy
         rw [e1, List.append_assoc, List.append_assoc] at e2
         have e3 := List.append_cancel_left e2
         have e4 : a = b := by simpa using (List.cons.inj e3).1
         exact h1 (e4 ▸ hb)
    exact key _ (outT_nodup t v)
theorem getD_set {sn : List Bool} {i j : Nat} (hj : j < sn.length) : (sn.set j true).getD i false = if i = j then true else sn.getD i false := by
 rw [List.getD_eq_getElem?_getD, List.getElem?_set]
 by_cases h : j = i
 ·rw [if_pos h, if_pos hj, if_pos h.symm]; rfl
 ·rw [if_neg h, if_neg (fun e => h e.symm), List.getD_eq_getElem?_getD]
theorem ExtP_flat {t : Top} {down : List Bool} {d : Int} (hv : validT t = true) : ∀ (q : List Int) (b : Bool) (v : Int) (sn : List Bool), (sn.length : Int) = t.nodes → (ExtP t down d b v sn q ↔
  (∀ (p1 : List Int) (a : Int) (p2 : List Int), q = p1 ++ a :: p2 → ((0 ≤ a ∧ a < 2 * t.links.length) ∧ tailG t a = endN (headG t) v p1) ∧ dnB down a = false ∧ ((b = true ∨ p1 ≠ []) → ovT t (endN (headG t) v p1) = false) ∧ endN (headG t) v p1 ≠ d) ∧
   endN (headG t) v q = d ∧ (q.map (headG t)).Nodup ∧ ∀ x ∈ q.map (headG t), sn.getD x.toNat false = false)
 |[], b, v, sn, _ => by
  simp only [ExtP, endN]
  refine ⟨fun h => ⟨fun p1 a p2 e => by simp at e, h, by simp, by simp⟩, fun h => h.2.1⟩
 |a :: r, b, v, sn, hl => by
  simp only [ExtP]
  constructor
  ·rintro ⟨h1, h2, h3, h4, h5, h6⟩
   have hr := head_rg hv h3.1.1 h3.1.2
   have hj : (headG t a).toNat < sn.length := by omega
   obtain ⟨g1, g2, g3, g4⟩ := (ExtP_flat hv r true (headG t a) _ (by rw [List.length_set]; exact hl)).1 h6
   have g5 : ∀ x ∈ r.map (headG t), x ≠ headG t a ∧ sn.getD x.toNat false = false := fun x hx => by
    have := g4 x hx
    rw [getD_set hj] at this
    split at this
    ·cases this
    ·rename_i hne
     exact ⟨fun e => hne (by rw [e]), this⟩
   refine ⟨fun p1 c p2 e => ?_, g2, ?_, fun x hx => ?_⟩
   ·cases p1 with
    | nil =>
     obtain ⟨rfl, rfl⟩ := List.cons.inj e
     exact ⟨h3, h4, fun h => h2 (h.resolve_right (by simp)), h1⟩
    | cons c2 p1 =>
     rw [List.cons_append] at e
     obtain ⟨e7, e8⟩ := List.cons.inj e
     subst e7
     obtain ⟨k1, k2, k3, k4⟩ := g1 p1 c p2 e8
     exact ⟨k1, k2, fun _ => k3 (.inl rfl), k4⟩
   ·rw [List.map_cons, List.nodup_cons]
    exact ⟨fun hm => (g5 _ hm).1 rfl, g3⟩
   ·rw [List.map_cons] at hx
    rcases List.mem_cons.1 hx with rfl | hx
    ·exact h5
    ·exact (g5 x hx).2
  ·rintro ⟨h1, h2, h3, h4⟩
   obtain ⟨k1, k2, k3, k4⟩ := h1 [] a r rfl
   have hr := head_rg hv k1.1.1 k1.1.2
   have hj : (headG t a).toNat < sn.length := by omega
   rw [List.map_cons, List.nodup_cons] at h3
   refine ⟨k4, fun h => k3 (.inl h), k1, k2, h4 _ (by simp), ?_⟩
   rw [ExtP_flat hv r true (headG t a) _ (by rw [List.length_set]; exact hl)]
   refine ⟨fun p1 c p2 e => ?_, h2, h3.2, fun x hx => ?_⟩
   ·obtain ⟨m1, m2, m3, m4⟩ := h1 (a :: p1) c p2 (by rw [e]; rfl)
    exact ⟨m1, m2, fun _ => m3 (.inr (by simp)), m4⟩
   ·have hxr : 0 ≤ x := by
     obtain ⟨c, hc, rfl⟩ := List.mem_map.1 hx
     obtain ⟨p1, p2, e⟩ := List.append_of_mem hc
     obtain ⟨m1, _⟩ := h1 (a :: p1) c p2 (by rw [e]; rfl)
     exact (head_rg hv m1.1.1 m1.1.2).1
    rw [getD_set hj, if_neg (fun e => h3.1 (by
     have : x = headG t a := by omega
     rw [← this]; exact hx))]
    exact h4 x (by simp only [List.map_cons, List.mem_cons]; exact .inr hx)
theorem simpS_mem {t : Top} {down : List Bool} {s d : Int} (hv : validT t = true) (hdn : down.length = 0 ∨ down.length = 2 * t.links.length) (hN8 : t.nodes ≤ 8) (hs : 0 ≤ s ∧ s < t.nodes) (p : List Int) : p ∈ simpS t down s d ↔ GoodP t down s d 0 p := by
 have hsl : ((seen0 t s).length : Int) = t.nodes := by simp [seen0]; omega
 have hfree : freeB (seen0 t s) < 8 := by
  have h1 := freeB_set (sn := List.replicate t.nodes.toNat false) (j := s.toNat) (by rw [List.getElem?_replicate, if_pos (by omega)])
  have h2 : freeB (List.replicate t.nodes.toNat false) ≤ (List.replicate t.nodes.toNat false).length := List.countP_le_length
  rw [List.length_replicate] at h2
  unfold seen0
  omega
 have hse : ∀ x : Int, 0 ≤ x → x < t.nodes → ((seen0 t s).getD x.toNat false = false ↔ x ≠ s) := fun x h0 h1 => by
  rw [seen0, getD_set (by simp; omega)]
  have e : (List.replicate t.nodes.toNat false).getD x.toNat false = false := by
   rw [List.getD_eq_getElem?_getD, List.getElem?_replicate]; split <;> rfl
  rw [e]
  by_cases h : x.toNat = s.toNat
  ·rw [if_pos h]
   have h3 : x = s := by omega
   simp [h3]
  ·rw [if_neg h]; exact ⟨fun _ e => h (by rw [e]), fun _ => rfl⟩
 rw [simpS, extS_mem hv 8 [] s _ hfree hsl]
 have e1 : (∃ q, p = [] ++ q ∧ ExtP t down d (decide (([] : List Int) ≠ [])) s (seen0 t s) q) ↔ ExtP t down d false s (seen0 t s) p := by
  constructor
  ·rintro ⟨q, h1, h2⟩
   rw [List.nil_append] at h1
   rw [h1]; simpa using h2
  ·intro h
   exact ⟨p, rfl, by simpa using h⟩
 rw [e1, ExtP_flat hv p false s _ hsl]
 constructor
 ·rintro ⟨h1, h2, h3, h4⟩
  refine ⟨fun p1 a p2 e => ?_, h2, ?_, fun h => by omega⟩
  ·obtain ⟨k1, k2, k3, _⟩ := h1 p1 a p2 e
   refine ⟨k1.1, k1.2, ?_, fun h => k3 (.inr h)⟩
   rw [dnB_up k1.1.1 (by omega)] at k2
   simpa using k2
  ·rw [List.nodup_cons]
   refine ⟨fun hm => ?_, h3⟩
   exact (hse s hs.1 hs.2).1 (h4 s hm) rfl
 ·intro h
  have hnd := List.nodup_cons.1 h.nd
  refine ⟨fun p1 a p2 e => ?_, h.en, hnd.2, fun x hx => ?_⟩
  ·obtain ⟨k1, k2, k3, k4⟩ := h.st p1 a p2 e
   refine ⟨⟨k1, k2⟩, by rw [dnB_up k1.1 (by omega), k3]; rfl, fun h2 => k4 (h2.resolve_left (by simp)), ?_⟩
   have hi : p1.length < p.length := by rw [e]; simp
   have := (h.root hi).2
   rw [e, List.take_left] at this
   exact this
  ·obtain ⟨a, ha, rfl⟩ := List.mem_map.1 hx
   obtain ⟨p1, p2, e⟩ := List.append_of_mem ha
   have k1 := (h.st p1 a p2 e).1
   have hr := head_rg hv k1.1 k1.2
   rw [hse _ hr.1 hr.2]
   exact fun e2 => hnd.1 (e2 ▸ hx)
theorem insP_srt {t : Top} {x : List Int} : ∀ {E : List (List Int)}, E.Pairwise (fun a b => ordS (cst t a) (cst t b) a b < 0) → x ∉ E → (insP t x E).Pairwise (fun a b => ordS (cst t a) (cst t b) a b < 0)
 | [], _, _ => List.pairwise_singleton _ _
 |y :: r, h, hn => by
  obtain ⟨h1, h2⟩ := List.pairwise_cons.1 h
  rw [insP]
  split
  ·rename_i hx
   refine List.pairwise_cons.2 ⟨fun z hz => ?_, insP_srt h2 fun hm => hn (List.mem_cons_of_mem _ hm)⟩
   rcases List.mem_cons.1 ((insP_perm t x r).mem_iff.1 hz) with rfl | hz
   ·exact hx
   ·exact h1 z hz
  ·rename_i hx
   have hxy : ordS (cst t x) (cst t y) x y < 0 := by
    rw [ordS_neg] at hx
    by_cases e : ordS (cst t x) (cst t y) x y = 0
    ·exact absurd (List.mem_cons_self) ((ordS_z e).2 ▸ hn)
    ·omega
   refine List.pairwise_cons.2 ⟨fun z hz => ?_, h⟩
   rcases List.mem_cons.1 hz with rfl | hz
   ·exact hxy
   ·have h3 := h1 z hz
    have h4 := ordS_trans (ca := cst t x) (cb := cst t y) (cc := cst t z) (a := x) (b := y) (c := z) (by omega) (by omega)
    by_cases e : ordS (cst t x) (cst t z) x z = 0
    ·obtain ⟨e1, rfl⟩ := ordS_z e
     rw [ordS_neg] at h3
     omega
    ·omega
theorem foldP_srt {t : Top} : ∀ (l E : List (List Int)), E.Pairwise (fun a b => ordS (cst t a) (cst t b) a b < 0) → (l ++ E).Nodup → (l.foldl (fun E x => insP t x E) E).Pairwise (fun a b => ordS (cst t a) (cst t b) a b < 0)
 | [], _, h, _ => h
 |x :: l, E, h, hn => by
  rw [List.cons_append, List.nodup_cons] at hn
  rw [List.foldl_cons]
  refine foldP_srt l _ (insP_srt h fun hm => hn.1 (List.mem_append_right _ hm)) ?_
  have h1 : (l ++ insP t x E).Perm (x :: (l ++ E)) := ((insP_perm t x E).append_left l).trans List.perm_middle
  rw [h1.nodup_iff, List.nodup_cons]
  exact hn
theorem cstP {t : Top} {down : List Bool} {s d most : Int} {p : List Int} (hv : validT t = true) (h : GoodP t down s d most p) : cst t p = costP t p := by
 unfold cst costP
 congr 1
 apply List.map_congr_left
 intro a ha
 obtain ⟨p1, p2, e⟩ := List.append_of_mem ha
 have := (h.st p1 a p2 e).1
 have := cost_rg hv this.1 this.2
 omega
def allS (t : Top) (down : List Bool) (s d : Int) : List (List Int) := sortP t (simpS t down s d)
theorem allS_srt {t : Top} {down : List Bool} {s d : Int} (hv : validT t = true) (hdn : down.length = 0 ∨ down.length = 2 * t.links.length) (hN8 : t.nodes ≤ 8) (hs : 0 ≤ s ∧ s < t.nodes) : IsSrt t (GoodP t down s d 0) (allS t down s d) := by
 have hm : ∀ p, p ∈ allS t down s d ↔ GoodP t down s d 0 p := fun p => by rw [allS, (sortP_perm t _).mem_iff, simpS_mem hv hdn hN8 hs]
 refine ⟨?_, hm⟩
 have h1 := foldP_srt (t := t) (simpS t down s d) [] List.Pairwise.nil (by rw [List.append_nil]; exact extS_nodup _ _ _ _)
 refine List.Pairwise.imp_of_mem ?_ h1
 intro a b ha hb h
 have ga := (hm a).1 ha
 have gb := (hm b).1 hb
 unfold ltP
 rw [← cstP hv ga, ← cstP hv gb]
 exact h
end Go.Ab

/-
  The reference's shortest paths.
-/
namespace Go.Ab
open Go.Proofs
def quickB (t : Top) (most : Int) (p : List Int) : Bool := decide (most = 0 ∨ (p.map fun a => (lkAt t a).dl).sum ≤ most)
def quickS (t : Top) (down : List Bool) (s d most : Int) : List (List Int) := (allS t down s d).filter (quickB t most)
theorem GoodP_most {t : Top} {down : List Bool} {s d most : Int} (hm : 0 ≤ most) {p : List Int} : GoodP t down s d most p ↔ GoodP t down s d 0 p ∧ quickB t most p = true := by
 unfold quickB
 rw [decide_eq_true_eq]
 constructor
 ·intro h
  exact ⟨⟨h.st, h.en, h.nd, fun h => by omega⟩, by have := h.de; omega⟩
 ·rintro ⟨h, h2⟩
  exact ⟨h.st, h.en, h.nd, fun h3 => by omega⟩
theorem quickS_srt {t : Top} {down : List Bool} {s d most : Int} (hv : validT t = true) (hdn : down.length = 0 ∨ down.length = 2 * t.links.length) (hN8 : t.nodes ≤ 8) (hs : 0 ≤ s ∧ s < t.nodes) (hm : 0 ≤ most) : IsSrt t (GoodP t down s d most) (quickS t down s d most) := by
 have h := allS_srt (d := d) hv hdn hN8 hs
 refine ⟨h.srt.filter _, fun p => ?_⟩
 rw [quickS, List.mem_filter, h.mem, GoodP_most hm]
end Go.Ab

/-
  Chapter 14, what all laws share: the example, small topologies, the call.
-/
namespace Go.Ab
open Go.Proofs
structure Qk where
 down : List Bool
 (s d k most : Int)
abbrev qkA (q : Qk) : AV := .agg [.d (boolsD q.down), .d (iD q.s), .d (iD q.d), .d (iD q.k), .d (iD q.most)]
def shS (t : Top) (q : Qk) : List (List Int) × Int := shortV t q.down q.s q.d q.k q.most (quickS t q.down q.s q.d q.most)
abbrev rwsA (l : List (List Int)) : AV := .c (.d (.list false 1 (l.map encRow)))
def smallK (t : Top) (q : Qk) : Prop := t.links.length ≤ 11 ∧ t.ov.length ≤ 20 ∧ q.down.length ≤ 40 ∧ (validT t = true → t.nodes ≤ 8)
instance (t : Top) (q : Qk) : Decidable (smallK t q) := by unfold smallK; infer_instance
theorem small_ok (P : Program) (hP : P = Try.prog) (t : Top) (q : Qk) : Ret P n_law14_small [topA t, qkA q] (bA (decide (smallK t q))) := by
 have hv := valid_ok P hP t
 refine ret_start (hP ▸ mixed) (hP ▸ fn_law14_small) (hP ▸ c_law14_small) (Nat.le_of_ble_eq_true rfl) fun Λ Λo K hK => ?_
 clear hP
 have yes := yes_of hK
 have no := no_of hK
 clear hK
 unfold smallK at yes no
 obtain ⟨dn, s, d, k, most⟩ := q
 simp only [topA, qkA, rwsA, intsA, intsD, boolsA, boolsD, linksD] at *
 generalize hol : t.ov.map encB = ovl at *
 generalize hll : t.links.map encLk = lkl at *
 generalize hdl : dn.map encB = dwl at *
 have l1 : Λ ovl = t.ov.length := by rw [Λo, ← hol]; simp
 have l2 : Λ lkl = t.links.length := by rw [Λo, ← hll]; simp
 have l3 : Λ dwl = dn.length := by rw [Λo, ← hdl]; simp
 generalize t.nodes = nodes at *
 cases hvb : validT t
 all_goals
  rw [hvb] at hv
  conv => cbv
  repeat' first | (refine call_r hv rfl rfl ?_; conv => cbv) | exact gu | exact trivial | refine And.intro ?_ ?_ | (intro hc; exact absurd hc (by decide)) | (intro hc; exfalso; omega) | (intro hc; (first | rw [wrap_small (by omega) (by omega)] at hc | rw [nI_eq] at hc | skip); try (conv => cbv))
  all_goals first
   | exact yes ⟨by omega, by omega, by omega, fun h => by rw [hvb] at h; first | (cases h; done) | omega⟩
   |exact no fun h => by
     have h4 := h.2.2.2
     rw [hvb] at h4
     first
      | (have h5 := h4 rfl; omega)
      | omega
theorem shortest_q (P : Program) (hP : P = Try.prog) (t : Top) (q : Qk) (hs : t.links.length ≤ 11) (hn : validT t = true → t.nodes ≤ 8) : Ret P n_kpaths_Shortest [topA t, boolsA q.down, iA q.s, iA q.d, iA q.k, iA q.most] (.tup [rwsA (shS t q).1, iA (shS t q).2]) :=
 shortest_ok P hP t q.down q.s q.d q.k q.most _ hs hn fun hv h1 h2 h3 => quickS_srt hv h1 (hn hv) h3 h2
theorem lshort_ok (P : Program) (hP : P = Try.prog) (t : Top) (q : Qk) (hs : t.links.length ≤ 11) (hn : validT t = true → t.nodes ≤ 8) (hd : q.down.length ≤ 40) : Ret P n_law14_shortest [topA t, qkA q] (.tup [rwsA (shS t q).1, iA (shS t q).2]) := by
 have hsh := shortest_q P hP t q hs hn
 refine ret_start (hP ▸ mixed) (hP ▸ fn_law14_shortest) (hP ▸ c_law14_shortest) (Nat.le_of_ble_eq_true rfl) fun Λ Λo K hK => ?_
 clear hP
 generalize shS t q = r at *
 obtain ⟨l, e⟩ := r
 obtain ⟨dn, s, d, k, most⟩ := q
 simp only [topA, qkA, rwsA, intsA, intsD, boolsA, boolsD, linksD] at *
 generalize l.map encRow = ll at *
 generalize t.ov.map encB = ovl at *
 generalize t.links.map encLk = lkl at *
 obtain ⟨pl, hpth⟩ : ∃ x, x = dn.map encB := ⟨_, rfl⟩
 have hpll : pl.length = dn.length := by rw [hpth]; simp
 have pln : Λ pl = dn.length := by rw [Λo, hpll]
 obtain ⟨np, hnp⟩ : ∃ x, x = dn.length := ⟨_, rfl⟩
 rw [← hpth] at hsh ⊢
 generalize t.nodes = nodes at *
 have hnpl : np = pl.length := by omega
 conv => cbv
 repeat' first | (intro (_ : Unit); show (0 + pl.length) * 1 ≤ _; omega) | (intro (m : Nat) (r : Bool) (y : List (List D)) hm2 hr2 hy2; refine (fun (hz : np = m) (hz2 : pl = y) => ?_) (by rw [hm2]; show np = 0 + pl.length; omega) (by rw [hy2]; try rfl); subst hz hz2; (conv => cbv)) | exact gu | exact trivial | refine And.intro ?_ ?_ | (intro hc; exact absurd hc (by decide)) | (intro hc; exfalso; omega) | (intro hc; (first | rw [wrap_small (by omega) (by omega)] at hc | rw [nI_eq] at hc | skip); try (conv => cbv))
 (refine call_z 2 (1) 1 np rfl hnpl (by simp [okL, okA, okCs, okC, bq_lit]) (by first | (simp [okH, okB, okCs, okC]; done) | simp [okH, okB, okCs, okC, bq_lit]) ?_; simp only [zL, zA, zCs, zC, zH, zB, bq_self, bq_old]; conv => cbv)
 repeat' first | (refine call_r hsh rfl rfl ?_; conv => cbv) | exact gu | exact trivial | refine And.intro ?_ ?_ | (intro hc; exact absurd hc (by decide)) | (intro hc; exfalso; omega) | (intro hc; (first | rw [wrap_small (by omega) (by omega)] at hc | rw [nI_eq] at hc | skip); try (conv => cbv))
 exact hK
def rlinks : List Lk := [⟨0, 1, 1, 1, 0, 1, 0⟩, ⟨1, 2, 1, 1, 0, 2, 0⟩, ⟨2, 3, 1, 1, 0, 3, 0⟩, ⟨3, 0, 1, 1, 0, 4, 0⟩]
def ring14 : Top := ⟨4, [], rlinks⟩
theorem ring_ok (P : Program) (hP : P = Try.prog) : Ret P n_law14_ring [] (topA ring14) := by
 refine ret_start (hP ▸ mixed) (hP ▸ fn_law14_ring) (hP ▸ c_law14_ring) (Nat.le_of_ble_eq_true rfl) fun Λ Λo K hK => ?_
 clear hP
 conv => cbv
 repeat' first | exact gu | exact trivial | refine And.intro ?_ ?_ | (intro hc; exact absurd hc (by decide)) | (intro hc; exfalso; omega) | (intro hc; (first | rw [wrap_small (by omega) (by omega)] at hc | rw [nI_eq] at hc | skip); try (conv => cbv))
 refine loop_up 4 (fun (s : Nat × Int) => [(0, .c (.ptr 0 0 0 0)), (1, .c (.ptr 1 0 0 0)), (2, iA s.2)])
  (fun s => match s.1 with
   | 0 => [.bx [.d (iD 0), .d (.list true 1 []), .d (.list true 7 [])], .bx [.d (iD 4), .d (.list true 1 []), .d (.list true 7 [])]]
   | n + 1 => [.bx [.d (iD 0), .d (.list true 1 []), .d (.list true 7 [])], .bx [.d (iD 4), .d (.list true 1 []), .arr 3 n 0 (n + 1)], .da true 0 7 [encLk ⟨0, 1, 1, 1, 0, 1, 0⟩], .da true n 7 ((rlinks.take (n + 1)).map encLk)])
  (fun k s => s.1 = k ∧ (s = (0, 0) ∨ s = (1, 1) ∨ s = (2, 2) ∨ s = (3, 3) ∨ s = (4, 4))) (0, 0) (Wk.cw) ⟨rfl, .inl rfl⟩ (fun k s h => by obtain ⟨h1, h | h | h | h | h⟩ := h <;> rw [h] at h1 <;> simp only at h1 <;> omega) ?_
 rintro k s Q' ⟨hk, hs⟩ norm ex rt
 rcases hs with rfl | rfl | rfl | rfl | rfl <;> (simp only at hk; subst hk)
 all_goals
  conv => cbv
  repeat' first | (intro (m : Nat) (r : Bool) (y : List (List D)) hm2 hr2 hy2; subst hm2 hr2 hy2; (conv => cbv)) | (intro (x : Int) hx; refine (fun (hz : (0 : Int) = x) => ?_) (by rw [hx]; decide); subst hz; (conv => cbv)) | (intro (x : Int) hx; refine (fun (hz : (1 : Int) = x) => ?_) (by rw [hx]; decide); subst hz; (conv => cbv)) | (intro (x : Int) hx; refine (fun (hz : (2 : Int) = x) => ?_) (by rw [hx]; decide); subst hz; (conv => cbv)) | (intro (x : Int) hx; refine (fun (hz : (3 : Int) = x) => ?_) (by rw [hx]; decide); subst hz; (conv => cbv)) | (intro (x : Int) hx; refine (fun (hz : (4 : Int) = x) => ?_) (by rw [hx]; decide); subst hz; (conv => cbv)) | exact gu | exact trivial | refine And.intro ?_ ?_ | (intro hc; exact absurd hc (by decide)) | (intro hc; exfalso; omega) | (intro hc; (first | rw [wrap_small (by omega) (by omega)] at hc | rw [nI_eq] at hc | skip); try (conv => cbv))
 ·exact norm _ _ (1, 1) ⟨rfl, .inr (.inl rfl)⟩ (Wk.cw)
 ·exact norm _ _ (2, 2) ⟨rfl, .inr (.inr (.inl rfl))⟩ (Wk.cw)
 ·exact norm _ _ (3, 3) ⟨rfl, .inr (.inr (.inr (.inl rfl)))⟩ (Wk.cw)
 ·exact norm _ _ (4, 4) ⟨rfl, .inr (.inr (.inr (.inr rfl)))⟩ (Wk.cw)
 ·refine ex _ _ _ ?_
  conv => cbv
  repeat' first | (intro (x : List (List D)) hx; subst hx; (conv => cbv)) | exact gu | exact trivial | refine And.intro ?_ ?_ | (intro hc; exact absurd hc (by decide)) | (intro hc; exfalso; omega) | (intro hc; (first | rw [wrap_small (by omega) (by omega)] at hc | rw [nI_eq] at hc | skip); try (conv => cbv))
  exact hK
theorem quick_r0 : quickS ring14 [] 0 2 0 = [[0, 2], [7, 5]] := by decide +kernel
theorem quick_r4 : quickS ring14 [] 0 2 4 = [[0, 2]] := by decide +kernel
theorem awake_ok (P : Program) (hP : P = Try.prog) : Ret P n_law14_awake [] (bA true) := by
 have hr := ring_ok P hP
 have h1 := shortest_q P hP ring14 ⟨[], 0, 2, 5, 0⟩ (by decide) (by decide)
 have h2 := shortest_q P hP ring14 ⟨[], 0, 2, 5, 4⟩ (by decide) (by decide)
 have h3 := delay_ok P hP ring14 [7, 5] (by decide) (by decide)
 obtain ⟨l0, hl0⟩ : ∃ x : List (List Int), x = [[0, 2], [7, 5]] := ⟨_, rfl⟩
 have h4 := rsame_ok P hP l0 [[0, 2], [7, 5]] (by rw [hl0]; decide) (by decide)
 have h5 := compare_ok P hP ring14 [0, 2] [7, 5] (by decide) (by decide) (by decide)
 have e1 : shS ring14 ⟨[], 0, 2, 5, 0⟩ = ([[0, 2], [7, 5]], 0) := by
  rw [shS, shortV, if_neg (by decide), if_neg (by decide), quick_r0]; rfl
 have e2 : shS ring14 ⟨[], 0, 2, 5, 4⟩ = ([[0, 2]], 0) := by
  rw [shS, shortV, if_neg (by decide), if_neg (by decide), quick_r4]; rfl
 have e3 : delS ring14 [7, 5] = (7, 0) := by decide
 have e5 : ordS (cst ring14 [0, 2]) (cst ring14 [7, 5]) [0, 2] [7, 5] = -1 := by decide
 rw [e1] at h1
 rw [e2] at h2
 rw [e3] at h3
 rw [e5] at h5
 rw [decide_eq_true hl0] at h4
 rw [← hl0] at h1
 obtain ⟨l4, hl4⟩ : ∃ x : List (List Int), x = [[0, 2]] := ⟨_, rfl⟩
 rw [← hl4] at h2
 have hx4 : (l4.map encRow).length = 1 := by rw [hl4]; rfl
 have hx0 : (l0.map encRow)[0]? = some [.list false 1 [[iD 0], [iD 2]]] := by rw [hl0]; rfl
 have hx1 : (l0.map encRow)[1]? = some [.list false 1 [[iD 7], [iD 5]]] := by rw [hl0]; rfl
 have hxl : (l0.map encRow).length = 2 := by rw [hl0]; rfl
 clear e1 e2 e3 e5
 refine ret_start (hP ▸ mixed) (hP ▸ fn_law14_awake) (hP ▸ c_law14_awake) (Nat.le_of_ble_eq_true rfl) fun Λ Λo K hK => ?_
 clear hP
 have hro : topA ring14 = .agg [.d (iD 4), .d (.list false 1 []), .d (.list false 7 [[iD 0, iD 1, iD 1, iD 1, iD 0, iD 1, iD 0], [iD 1, iD 2, iD 1, iD 1, iD 0, iD 2, iD 0], [iD 2, iD 3, iD 1, iD 1, iD 0, iD 3, iD 0], [iD 3, iD 0, iD 1, iD 1, iD 0, iD 4, iD 0]])] := rfl
 rw [hro] at hr h1 h2 h3 h5
 clear hro
 simp only [rwsA] at *
 generalize l0.map encRow = ll at *
 generalize l4.map encRow = ll4 at *
 have hxn4 : Λ ll4 = 1 := by rw [Λo, hx4]; rfl
 have hxn : Λ ll = 2 := by rw [Λo, hxl]; rfl
 simp only [encRow, intsA, intsD, boolsA, boolsD, encI, List.map_cons, List.map_nil] at *
 conv => cbv
 repeat' first | (refine call_r hr rfl rfl ?_; conv => cbv) | (refine call_r h1 rfl rfl ?_; conv => cbv) | (refine call_r h2 rfl rfl ?_; conv => cbv) | (refine call_r h3 rfl rfl ?_; conv => cbv) | exact gu | exact trivial | refine And.intro ?_ ?_ | (intro hc; exact absurd hc (by decide)) | (intro hc; exfalso; omega) | (intro hc; (first | rw [wrap_small (by omega) (by omega)] at hc | rw [nI_eq] at hc | skip); try (conv => cbv))
 (refine call_z 0 (0) 1 2 rfl rfl (by simp [okL, okA, okCs, okC, bq_lit]) (by first | (simp [okH, okB, okCs, okC]; done) | simp [okH, okB, okCs, okC, bq_lit]) ?_; simp only [zL, zA, zCs, zC, zH, zB, bq_self, bq_old]; conv => cbv)
 repeat' first | (intro (e : List D) he; cases Option.some.inj (he.symm.trans hx0); (conv => cbv)) | (intro (e : List D) he; cases Option.some.inj (he.symm.trans hx1); (conv => cbv)) | (refine call_r hr rfl rfl ?_; conv => cbv) | (refine call_r h4 rfl rfl ?_; conv => cbv) | (refine call_r h5 rfl rfl ?_; conv => cbv) | exact gu | exact trivial | refine And.intro ?_ ?_ | (intro hc; exact absurd hc (by decide)) | (intro hc; exfalso; omega) | (intro hc; (first | rw [wrap_small (by omega) (by omega)] at hc | rw [nI_eq] at hc | skip); try (conv => cbv))
 exact hK
end Go.Ab

/-
  Chapter 14: laws Shortest, Prefix and Compare.
-/
namespace Go.Ab
open Go.Proofs
theorem shS_len (t : Top) (q : Qk) : (shS t q).1.length ≤ 16 := by
 unfold shS shortV
 split
 ·simp
 ·rename_i h
  have h := Classical.not_not.1 h
  split
  ·simp
  ·split
   ·simp
   ·simp only [List.length_take]; omega
end Go.Ab

/-
  Chapter 14: law Mask.
-/
namespace Go.Ab
open Go.Proofs
def maskD (dn : List Bool) (arc : Int) (n : Nat) : List Bool := (List.range n).map fun (a : Nat) => dnB dn (a : Int) || decide ((a : Int) = arc)
theorem maskD_up {t : Top} {dn : List Bool} {arc a : Int} (hf : dn.length = 0 ∨ dn.length = 2 * t.links.length) (h0 : 0 ≤ a) (h1 : a < 2 * t.links.length) : (upB (maskD dn arc (2 * t.links.length)) a = true) ↔ upB dn a = true ∧ a ≠ arc := by
 have hl : (maskD dn arc (2 * t.links.length)).length = 2 * t.links.length := by simp [maskD]
 have hg : (maskD dn arc (2 * t.links.length)).getD a.toNat false = (dnB dn a || decide (a = arc)) := by
  rw [List.getD_eq_getElem?_getD, maskD, List.getElem?_map, List.getElem?_range (by omega)]
  simp only [Option.map_some, Option.getD_some]
  rw [show ((a.toNat : Nat) : Int) = a by omega]
 rw [dnB_up h0 (by omega)] at hg
 have e : upB (maskD dn arc (2 * t.links.length)) a = !((!upB dn a) || decide (a = arc)) := by
  show (decide ((maskD dn arc (2 * t.links.length)).length = 0) || !(maskD dn arc (2 * t.links.length)).getD a.toNat false) = _
  rw [hg, decide_eq_false (by omega), Bool.false_or]
 rw [e]
 by_cases h2 : a = arc
 ·simp [h2]
 ·simp [h2]
theorem mask_good {t : Top} {dn : List Bool} {arc s d most : Int} {p : List Int} (hf : dn.length = 0 ∨ dn.length = 2 * t.links.length) : GoodP t (maskD dn arc (2 * t.links.length)) s d most p ↔ GoodP t dn s d most p ∧ arc ∉ p := by
 constructor
 ·intro h
  refine ⟨⟨fun p1 a p2 e => ?_, h.en, h.nd, h.de⟩, fun hm => ?_⟩
  ·obtain ⟨k1, k2, k3, k4⟩ := h.st p1 a p2 e
   exact ⟨k1, k2, ((maskD_up hf k1.1 k1.2).1 k3).1, k4⟩
  ·obtain ⟨p1, p2, e⟩ := List.append_of_mem hm
   obtain ⟨k1, k2, k3, k4⟩ := h.st p1 arc p2 e
   exact ((maskD_up hf k1.1 k1.2).1 k3).2 rfl
 ·rintro ⟨h, hn⟩
  refine ⟨fun p1 a p2 e => ?_, h.en, h.nd, h.de⟩
  obtain ⟨k1, k2, k3, k4⟩ := h.st p1 a p2 e
  refine ⟨k1, k2, (maskD_up hf k1.1 k1.2).2 ⟨k3, ?_⟩, k4⟩
  rintro rfl
  exact hn (by rw [e]; simp)
theorem mask_plain {t : Top} {q : Qk} {arc : Int} (hN8 : validT t = true → t.nodes ≤ 8) (he : (shS t { q with k := 16 }).2 = 0) (hl : (shS t { q with k := 16 }).1.length ≠ 16) :
  ((shS t { q with k := 16 }).1.filter (fun p => decide (arc ∉ p)) = [] → (shS t { q with down := maskD q.down arc (2 * t.links.length), k := 16 }).2 = 11 ∧ (shS t { q with down := maskD q.down arc (2 * t.links.length), k := 16 }).1 = []) ∧
  ((shS t { q with k := 16 }).1.filter (fun p => decide (arc ∉ p)) ≠ [] → (shS t { q with down := maskD q.down arc (2 * t.links.length), k := 16 }).2 = 0 ∧ (shS t { q with down := maskD q.down arc (2 * t.links.length), k := 16 }).1 = (shS t { q with k := 16 }).1.filter (fun p => decide (arc ∉ p))) := by
 unfold shS shortV at *
 simp only at *
 by_cases h1 : validT t = true ∧ (q.down.length = 0 ∨ q.down.length = 2 * t.links.length) ∧ (1 : Int) ≤ 16 ∧ (16 : Int) ≤ 16 ∧ 0 ≤ q.most
 ·rw [if_neg (not_not_intro h1)] at *
  have c1 : validT t = true ∧ ((maskD q.down arc (2 * t.links.length)).length = 0 ∨ (maskD q.down arc (2 * t.links.length)).length = 2 * t.links.length) ∧ (1 : Int) ≤ 16 ∧ (16 : Int) ≤ 16 ∧ 0 ≤ q.most := ⟨h1.1, .inr (by simp [maskD]), h1.2.2⟩
  rw [if_neg (not_not_intro c1)]
  by_cases h2 : (0 ≤ q.s ∧ q.s < t.nodes) ∧ 0 ≤ q.d ∧ q.d < t.nodes
  ·rw [if_neg (not_not_intro h2)] at *
   rw [if_neg (not_not_intro h2)]
   have s1 := quickS_srt (d := q.d) h1.1 h1.2.1 (hN8 h1.1) h2.1 h1.2.2.2.2
   have s2 := quickS_srt (d := q.d) h1.1 c1.2.1 (hN8 h1.1) h2.1 h1.2.2.2.2
   have s3 : IsSrt t (GoodP t (maskD q.down arc (2 * t.links.length)) q.s q.d q.most) ((quickS t q.down q.s q.d q.most).filter (fun p => decide (arc ∉ p))) := by
    refine ⟨s1.srt.filter _, fun p => ?_⟩
    rw [List.mem_filter, s1.mem, mask_good h1.2.1, decide_eq_true_eq]
   have e := s2.uniq s3
   rw [e]
   generalize quickS t q.down q.s q.d q.most = A at *
   by_cases h3 : A = []
   ·rw [if_pos h3] at he
    cases he
   ·rw [if_neg h3] at *
    simp only [show (16 : Int).toNat = 16 by decide] at *
    have hAl : A.length < 16 := by rw [List.length_take] at hl; omega
    rw [List.take_of_length_le (by omega)]
    have hfl : (A.filter (fun p => decide (arc ∉ p))).length ≤ A.length := List.length_filter_le _ _
    refine ⟨fun h => by rw [if_pos h]; exact ⟨rfl, rfl⟩, fun h => ?_⟩
    rw [if_neg h, List.take_of_length_le (by omega)]
    exact ⟨rfl, rfl⟩
  ·rw [if_pos h2] at he
   cases he
 ·rw [if_pos h1] at he
  cases he
set_option maxRecDepth 20000 in
set_option maxHeartbeats 4000000 in
theorem mask_law (P : Program) (hP : P = Try.prog) (t : Top) (q : Qk) (arc : Int) : Ret P n_law14_KpathsMask [topA t, qkA q, iA arc] (bA true) := by
  have haw := awake_ok P hP
  have hsm := small_ok P hP t q
  have har := arcs_ok P hP t
  have hma := mask_ok P hP t q.down
  by_cases hs2 : smallK t q
  rotate_left
  · rw [decide_eq_false hs2] at hsm
    refine ret_start (hP ▸ mixed) (hP ▸ fn_law14_KpathsMask) (hP ▸ c_law14_KpathsMask) (Nat.le_of_ble_eq_true rfl) fun Λ Λo K hK => ?_
    clear hP
    obtain ⟨dn, s, d, k, most⟩ := q
    simp only [topA, qkA, rwsA, intsA, intsD, boolsA, boolsD, linksD] at *
    generalize t.ov.map encB = ovl at *
    generalize t.links.map encLk = lkl at *
    generalize dn.map encB = dwl at *
    generalize t.nodes = nodes at *
    conv => cbv
    repeat' first | (refine call_r haw rfl rfl ?_; conv => cbv) | (refine call_r hsm rfl rfl ?_; conv => cbv) | exact gu | exact trivial | refine And.intro ?_ ?_ | (intro hc; exact absurd hc (by decide)) | (intro hc; exfalso; omega) | (intro hc; (first | rw [wrap_small (by omega) (by omega)] at hc | rw [nI_eq] at hc | skip); try (conv => cbv))
    all_goals exact hK
  rw [decide_eq_true hs2] at hsm
  by_cases hg : (0 ≤ arc ∧ arc < arcsT t) ∧ (q.down.length = 0 ∨ (q.down.length : Int) = arcsT t)
  rotate_left
  · refine ret_start (hP ▸ mixed) (hP ▸ fn_law14_KpathsMask) (hP ▸ c_law14_KpathsMask) (Nat.le_of_ble_eq_true rfl) fun Λ Λo K hK => ?_
    clear hP
    obtain ⟨dn, s, d, k, most⟩ := q
    simp only at hg hma
    by_cases hf : dn.length = 0 ∨ (dn.length : Int) = arcsT t
    all_goals first | rw [decide_eq_true hf] at hma | rw [decide_eq_false hf] at hma
    all_goals
      simp only [topA, qkA, rwsA, intsA, intsD, boolsA, boolsD, linksD] at *
      generalize t.ov.map encB = ovl at *
      generalize t.links.map encLk = lkl at *
      generalize dn.map encB = dwl at *
      generalize t.nodes = nodes at *
      generalize arcsT t = ar at *
      conv => cbv
      repeat' first | (refine call_r haw rfl rfl ?_; conv => cbv) | (refine call_r hsm rfl rfl ?_; conv => cbv) | (refine call_r har rfl rfl ?_; conv => cbv) | (refine call_r hma rfl rfl ?_; conv => cbv) | exact gu | exact trivial | refine And.intro ?_ ?_ | (intro hc; exact absurd hc (by decide)) | (intro hc; exfalso; omega) | (intro hc; (first | rw [wrap_small (by omega) (by omega)] at hc | rw [nI_eq] at hc | skip); try (conv => cbv))
      all_goals first | exact hK | (exfalso; omega)
  obtain ⟨⟨ha0, ha1⟩, hf⟩ := hg
  have hv : validT t = true := by
    cases hb : validT t with
    | true => rfl
    | false => rw [arcsT, if_neg (by rw [hb]; decide)] at ha1; omega
  have hav : arcsT t = 2 * t.links.length := by rw [arcsT, if_pos hv]
  rw [decide_eq_true hf] at hma
  have h1 := lshort_ok P hP t { q with k := 16 } hs2.1 hs2.2.2.2 hs2.2.2.1
  have hmdl : (maskD q.down arc (2 * t.links.length)).length = 2 * t.links.length := by simp [maskD]
  have h2 := lshort_ok P hP t { q with down := maskD q.down arc (2 * t.links.length), k := 16 } hs2.1 hs2.2.2.2 (by simp only; have := hs2.1; omega)
  have hdn := fun a => rdown_ok P hP q.down a
  have hha := fun l => has_ok P hP l arc
  have l1 := shS_len t { q with k := 16 }
  have l2 := shS_len t { q with down := maskD q.down arc (2 * t.links.length), k := 16 }
  have hsa := fun a b ha hb => rsame_ok P hP a b ha hb
  have hpn := @mask_plain t q arc hs2.2.2.2
  have hL11 := hs2.1
  have hmda : ∀ j : Nat, j < 2 * t.links.length → (maskD q.down arc (2 * t.links.length))[j]? = some (dnB q.down (j : Int) || decide ((j : Int) = arc)) := fun j hj => by
    rw [maskD, List.getElem?_map, List.getElem?_range hj]; rfl
  refine ret_start (hP ▸ mixed) (hP ▸ fn_law14_KpathsMask) (hP ▸ c_law14_KpathsMask) (Nat.le_of_ble_eq_true rfl) fun Λ Λo K hK => ?_
  clear hP hs2 hf
  generalize maskD q.down arc (2 * t.links.length) = md at *
  generalize shS t { q with down := md, k := 16 } = r2 at *
  generalize shS t { q with k := 16 } = r1 at *
  obtain ⟨B, fe⟩ := r2
  obtain ⟨A, e⟩ := r1
  obtain ⟨dn, s, d, k, most⟩ := q
  simp only at hpn l1 l2 h1 h2 hdn hmda hma
  rw [hav] at har ha1
  clear hav
  obtain ⟨nM, hnM⟩ : ∃ x : Nat, x = 2 * t.links.length := ⟨_, rfl⟩
  rw [← hnM] at hmdl hmda
  obtain ⟨M, hM⟩ : ∃ x : Int, x = 2 * t.links.length := ⟨_, rfl⟩
  rw [← hM] at har ha1
  have hAx : ∀ (k : Nat) (x : List Int), A[k]? = some x → (A.map encRow)[k]? = some [.list false 1 (x.map encI)] := fun k x hx => by rw [List.getElem?_map, hx]; rfl
  simp only [topA, qkA, rwsA, intsA, intsD, boolsA, boolsD, linksD] at *
  generalize hAe : A.map encRow = Ae at *
  have Aln : Λ Ae = A.length := by rw [Λo, ← hAe]; simp
  obtain ⟨Be, hBe⟩ : ∃ x, x = B.map encRow := ⟨_, rfl⟩
  have Bln : Λ Be = B.length := by rw [Λo, hBe]; simp
  rw [← hBe] at h2
  obtain ⟨mde, hmde⟩ : ∃ x, x = md.map encB := ⟨_, rfl⟩
  have hmdel : nM = mde.length := by rw [hmde, List.length_map, hmdl]
  rw [← hmde] at h2
  generalize t.ov.map encB = ovl at *
  generalize t.links.map encLk = lkl at *
  generalize dn.map encB = dwl at *
  generalize t.nodes = nodes at *
  by_cases hl16 : ¬ e = 0 ∨ A.length = 16
  · conv => cbv
    repeat' first | (refine call_r haw rfl rfl ?_; conv => cbv) | (refine call_r hsm rfl rfl ?_; conv => cbv) | (refine call_r har rfl rfl ?_; conv => cbv) | (refine call_r hma rfl rfl ?_; conv => cbv) | (refine call_r h1 rfl rfl ?_; conv => cbv) | exact gu | exact trivial | refine And.intro ?_ ?_ | (intro hc; exact absurd hc (by decide)) | (intro hc; exfalso; omega) | (intro hc; (first | rw [wrap_small (by omega) (by omega)] at hc | rw [nI_eq] at hc | skip); try (conv => cbv))
    all_goals first | exact hK | (exfalso; omega)
  rw [not_or] at hl16
  obtain ⟨he0, hl16⟩ := hl16
  have he0 : e = 0 := Classical.not_not.1 he0
  subst he0
  obtain ⟨hp1, hp2⟩ := hpn rfl hl16
  clear hpn
  obtain ⟨e0, he0⟩ : ∃ x : List (List D), x = (List.replicate nM false).map encB := ⟨_, rfl⟩
  conv => cbv
  repeat' first | (refine call_r haw rfl rfl ?_; conv => cbv) | (refine call_r hsm rfl rfl ?_; conv => cbv) | (refine call_r har rfl rfl ?_; conv => cbv) | (refine call_r hma rfl rfl ?_; conv => cbv) | (refine call_r h1 rfl rfl ?_; conv => cbv) | (intro (m : Nat) (y : List (List D)) hm2 hy2; refine (fun (hz : nM = m) (hz2 : e0 = y) => ?_) (by omega) (by rw [hy2, he0, List.map_replicate]; congr 1; omega); subst hz hz2; (conv => cbv)) | exact gu | exact trivial | refine And.intro ?_ ?_ | (intro hc; exact absurd hc (by decide)) | (intro hc; exfalso; omega) | (intro hc; (first | rw [wrap_small (by omega) (by omega)] at hc | rw [nI_eq] at hc | skip); try (conv => cbv))
  all_goals try (exfalso; omega)
  refine loop_upx nM (fun (x : List Bool × Int) => [(2, iA arc), (3, .c (.ptr 0 0 0 0)), (4, .c (.ptr 1 0 0 0)), (6, bA false), (7, .c (.d (.list false 1 Ae))), (9, .c (.arr 2 0 0 nM)), (10, iA x.2)])
    (fun x => [.bx [.d (iD nodes), .d (.list false 1 ovl), .d (.list false 7 lkl)], .bx [.d (.list false 1 dwl), .d (iD s), .d (iD d), .d (iD 16), .d (iD most)], .da true 0 1 (x.1.map encB)])
    (fun k x => x.2 = k ∧ k ≤ nM ∧ x.1.length = nM ∧ ∀ j : Nat, j < k → x.1[j]? = some (dnB dn (j : Int) || decide ((j : Int) = arc))) (List.replicate nM false, 0) 0
    (fun (_ : Unit) => [(2, iA arc), (3, .c (.ptr 0 0 0 0)), (4, .c (.ptr 1 0 0 0)), (6, bA false), (7, .c (.d (.list false 1 Ae))), (9, .c (.arr 2 0 0 nM))])
    (fun _ => [.bx [.d (iD nodes), .d (.list false 1 ovl), .d (.list false 7 lkl)], .bx [.d (.list false 1 dwl), .d (iD s), .d (iD d), .d (iD 16), .d (iD most)], .da true 0 1 mde]) (fun _ => True)
    (by rw [← he0]; exact (Wk.ca)) ⟨rfl, by omega, by simp, fun j hj => by omega⟩ (fun k s h => h.2.1) ?_ ?_
  · clear h1 h2 hp1 hp2 hsa hha
    rintro kk ⟨ds, i⟩ Q' ⟨hi, hk, hdl, hds⟩ norm ex rt
    simp only at hi hdl hds
    obtain ⟨es, hes⟩ : ∃ y, y = ds.map encB := ⟨_, rfl⟩
    have hesl : es.length = nM := by rw [hes, List.length_map, hdl]
    simp only
    rw [← hes]
    by_cases hlt : kk < nM
    · obtain ⟨b0, hb0⟩ : ∃ b, ds[kk]? = some b := ⟨_, List.getElem?_eq_getElem (by omega)⟩
      have hja : es[kk]? = some [.bool b0] := by rw [hes, List.getElem?_map, hb0]; rfl
      have hdi := hdn i
      have step : ∀ v, v = (dnB dn i || decide (i = arc)) → ∀ j : Nat, j < kk + 1 → (ds.set kk v)[j]? = some (dnB dn (j : Int) || decide ((j : Int) = arc)) := fun v hv2 j hj => by
        rw [List.getElem?_set]
        by_cases h3 : kk = j
        · rw [if_pos h3, if_pos (by omega), hv2, hi, h3]
        · rw [if_neg h3]; exact hds j (by omega)
      have hset : ∀ v, (ds.set kk v).map encB = es.set kk [.bool v] := fun v => by rw [hes, List.map_set]; rfl
      obtain ⟨est, hest⟩ : ∃ y, y = es.set kk [.bool true] := ⟨_, rfl⟩
      obtain ⟨esf, hesf⟩ : ∃ y, y = es.set kk [.bool false] := ⟨_, rfl⟩
      have st := hset true
      have sf := hset false
      rw [← hest] at st
      rw [← hesf] at sf
      have gt := step true
      have gf := step false
      clear step hset
      generalize dnB dn i = db at *
      cases db
      · by_cases hia : i = arc
        · have gt := gt (by simp [hia])
          conv => cbv
          repeat' first | (intro (k : Nat) hk; refine (fun (hz : kk = k) => ?_) ?_; rotate_left; omega; subst hz; (conv => cbv)) | (intro (e : List D) he; cases Option.some.inj (he.symm.trans hja); (conv => cbv)) | (refine call_r hdi rfl rfl ?_; conv => cbv) | (intro (x : List (List D)) (hx : x = es.set kk [.bool true]); refine (fun (hz : est = x) => ?_) (hest.trans hx.symm); subst hz; (conv => cbv)) | (intro (x : List (List D)) (hx : x = es.set kk [.bool false]); refine (fun (hz : esf = x) => ?_) (hesf.trans hx.symm); subst hz; (conv => cbv)) | exact gu | exact trivial | refine And.intro ?_ ?_ | (intro hc; exact absurd hc (by decide)) | (intro hc; exfalso; omega) | (intro hc; (first | rw [wrap_small (by omega) (by omega)] at hc | rw [nI_eq] at hc | skip); try (conv => cbv))
          all_goals first
            | (exfalso; omega)
            | (refine norm _ _ (ds.set kk true, _) ?_ (by simp only; rw [st]; exact (Wk.ca))
               exact ⟨by simp only; omega, by omega, by simp only [List.length_set]; exact hdl, gt⟩)
        · have gf := gf (by simp [hia])
          conv => cbv
          repeat' first | (intro (k : Nat) hk; refine (fun (hz : kk = k) => ?_) ?_; rotate_left; omega; subst hz; (conv => cbv)) | (intro (e : List D) he; cases Option.some.inj (he.symm.trans hja); (conv => cbv)) | (refine call_r hdi rfl rfl ?_; conv => cbv) | (intro (x : List (List D)) (hx : x = es.set kk [.bool true]); refine (fun (hz : est = x) => ?_) (hest.trans hx.symm); subst hz; (conv => cbv)) | (intro (x : List (List D)) (hx : x = es.set kk [.bool false]); refine (fun (hz : esf = x) => ?_) (hesf.trans hx.symm); subst hz; (conv => cbv)) | exact gu | exact trivial | refine And.intro ?_ ?_ | (intro hc; exact absurd hc (by decide)) | (intro hc; exfalso; omega) | (intro hc; (first | rw [wrap_small (by omega) (by omega)] at hc | rw [nI_eq] at hc | skip); try (conv => cbv))
          all_goals first
            | (exfalso; omega)
            | (refine norm _ _ (ds.set kk false, _) ?_ (by simp only; rw [sf]; exact (Wk.ca))
               exact ⟨by simp only; omega, by omega, by simp only [List.length_set]; exact hdl, gf⟩)
      · have gt := gt rfl
        conv => cbv
        repeat' first | (intro (k : Nat) hk; refine (fun (hz : kk = k) => ?_) ?_; rotate_left; omega; subst hz; (conv => cbv)) | (intro (e : List D) he; cases Option.some.inj (he.symm.trans hja); (conv => cbv)) | (refine call_r hdi rfl rfl ?_; conv => cbv) | (intro (x : List (List D)) (hx : x = es.set kk [.bool true]); refine (fun (hz : est = x) => ?_) (hest.trans hx.symm); subst hz; (conv => cbv)) | (intro (x : List (List D)) (hx : x = es.set kk [.bool false]); refine (fun (hz : esf = x) => ?_) (hesf.trans hx.symm); subst hz; (conv => cbv)) | exact gu | exact trivial | refine And.intro ?_ ?_ | (intro hc; exact absurd hc (by decide)) | (intro hc; exfalso; omega) | (intro hc; (first | rw [wrap_small (by omega) (by omega)] at hc | rw [nI_eq] at hc | skip); try (conv => cbv))
        all_goals first
          | (exfalso; omega)
          | (refine norm _ _ (ds.set kk true, _) ?_ (by simp only; rw [st]; exact (Wk.ca))
             exact ⟨by simp only; omega, by omega, by simp only [List.length_set]; exact hdl, gt⟩)
    · have hdm : ds = md := by
        apply List.ext_getElem?
        intro j
        by_cases hj : j < nM
        · rw [hds j (by omega), hmda j (by omega)]
        · rw [List.getElem?_eq_none (by omega), List.getElem?_eq_none (by omega)]
      have hem : es = mde := by rw [hes, hmde, hdm]
      conv => cbv
      repeat' first | exact gu | exact trivial | refine And.intro ?_ ?_ | (intro hc; exact absurd hc (by decide)) | (intro hc; exfalso; omega) | (intro hc; (first | rw [wrap_small (by omega) (by omega)] at hc | rw [nI_eq] at hc | skip); try (conv => cbv))
      exact ex _ _ () trivial (by rw [hem]; exact (Wk.ca))
  rintro ⟨⟩ -
  clear hdn hmda
  conv => cbv
  repeat' first | exact gu | exact trivial | refine And.intro ?_ ?_ | (intro hc; exact absurd hc (by decide)) | (intro hc; exfalso; omega) | (intro hc; (first | rw [wrap_small (by omega) (by omega)] at hc | rw [nI_eq] at hc | skip); try (conv => cbv))
  (refine call_z 2 (0) 1 nM rfl hmdel (by simp [okL, okA, okCs, okC, bq_lit]) (by first | (simp [okH, okB, okCs, okC]; done) | simp [okH, okB, okCs, okC, bq_lit]) ?_; simp only [zL, zA, zCs, zC, zH, zB, bq_self, bq_old]; conv => cbv)
  repeat' first | (refine call_r h2 rfl rfl ?_; conv => cbv) | exact gu | exact trivial | refine And.intro ?_ ?_ | (intro hc; exact absurd hc (by decide)) | (intro hc; exfalso; omega) | (intro hc; (first | rw [wrap_small (by omega) (by omega)] at hc | rw [nI_eq] at hc | skip); try (conv => cbv))
  obtain ⟨f, hf⟩ : ∃ f : List Int → Bool, f = fun p => decide (arc ∉ p) := ⟨_, rfl⟩
  rw [← hf] at hp1 hp2
  have hfx : ∀ p, f p = decide (arc ∉ p) := fun p => by rw [hf]
  clear hf
  refine loop_upx A.length (fun (x : List (List Int) × Nat × Bool × Int) => [(2, iA arc), (6, bA false), (7, .c (.d (.list false 1 Ae))), (11, .c (.d (.list false 1 Be))), (12, iA fe), (13, .c (.arr 3 x.2.1 0 x.1.length)), (14, iA x.2.2.2)])
    (fun x => [.bx [.d (iD nodes), .d (.list false 1 ovl), .d (.list false 7 lkl)], .bx [.d (.list false 1 mde), .d (iD s), .d (iD d), .d (iD 16), .d (iD most)], .dead, .da x.2.2.1 x.2.1 1 (x.1.map encRow)])
    (fun j x => x.2.2.2 = j ∧ j ≤ A.length ∧ x.1 = (A.take j).filter f) ([], 0, false, 0) 2
    (fun (x : List (List Int) × Nat × Bool) => [(6, bA false), (11, .c (.d (.list false 1 Be))), (12, iA fe), (13, .c (.arr 3 x.2.1 0 x.1.length))])
    (fun x => [.bx [.d (iD nodes), .d (.list false 1 ovl), .d (.list false 7 lkl)], .bx [.d (.list false 1 mde), .d (iD s), .d (iD d), .d (iD 16), .d (iD most)], .dead, .da x.2.2 x.2.1 1 (x.1.map encRow)])
    (fun x => x.1 = A.filter f) (.trans (.nilS 13 1 rfl) (Wk.ca)) ⟨rfl, by omega, by simp⟩ (fun k s h => h.2.1) ?_ ?_
  · clear hp1 hp2
    rintro j ⟨O, ve, rr, i⟩ Q' ⟨hi, hj, hO⟩ norm ex rt
    simp only at hi hO
    obtain ⟨nO, hnO⟩ : ∃ x, x = O.length := ⟨_, rfl⟩
    obtain ⟨Oe, hOe⟩ : ∃ x, x = O.map encRow := ⟨_, rfl⟩
    have hOl : nO ≤ 16 := by
      have h5 : ((A.take j).filter f).length ≤ (A.take j).length := List.length_filter_le _ _
      rw [← hO, List.length_take] at h5
      omega
    simp only
    rw [← hnO, ← hOe]
    by_cases hlt : j < A.length
    · obtain ⟨x, hx⟩ : ∃ x, A[j]? = some x := ⟨_, List.getElem?_eq_getElem hlt⟩
      have hxa := hAx j x hx
      have ij : i.toNat = j := by omega
      rw [← ij] at hxa
      have hax := hha x
      have hfxx := hfx x
      have htk : (A.take (j + 1)).filter f = O ++ if f x = true then [x] else [] := by
        rw [take_succ_get hx, List.filter_append, ← hO]
        congr 1
        by_cases h : f x = true
        · rw [if_pos h]; simp [h]
        · rw [if_neg h]; simp [h]
      obtain ⟨n1, hnn1⟩ : ∃ y, y = nO + 1 := ⟨_, rfl⟩
      obtain ⟨ye, hye⟩ : ∃ y, y = (O ++ [x]).map encRow := ⟨_, rfl⟩
      have hye2 : ye = (Oe.drop 0).take nO ++ [[.list false 1 (x.map encI)]] := by
        rw [hye, List.drop_zero, List.map_append, ← hOe, List.take_of_length_le (by rw [hOe, List.length_map]; omega)]; rfl
      have hl1 : (O ++ [x]).length = n1 := by rw [List.length_append, ← hnO, hnn1]; rfl
      by_cases hm : arc ∈ x
      · rw [decide_eq_true hm] at hax
        rw [decide_eq_false (fun h => h hm)] at hfxx
        rw [hfxx, if_neg (by decide), List.append_nil] at htk
        generalize x.map encI = xl at *
        conv => cbv
        repeat' first | (intro e he; cases Option.some.inj (he.symm.trans hxa); (conv => cbv)) | (refine call_r hax rfl rfl ?_; conv => cbv) | exact gu | exact trivial | refine And.intro ?_ ?_ | (intro hc; exact absurd hc (by decide)) | (intro hc; exfalso; omega) | (intro hc; (first | rw [wrap_small (by omega) (by omega)] at hc | rw [nI_eq] at hc | skip); try (conv => cbv))
        all_goals first
          | (exfalso; omega)
          | (refine norm _ _ (O, ve, rr, _) ?_ (by simp only; rw [← hnO, ← hOe]; exact (Wk.ca))
             exact ⟨by simp only; omega, by omega, htk.symm⟩)
      · rw [decide_eq_false hm] at hax
        rw [decide_eq_true hm] at hfxx
        rw [if_pos hfxx] at htk
        generalize x.map encI = xl at *
        conv => cbv
        repeat' first | (intro e he; cases Option.some.inj (he.symm.trans hxa); (conv => cbv)) | (refine call_r hax rfl rfl ?_; conv => cbv) | (intro (m : Nat) (r : Bool) (y : List (List D)) hm2 hr2 hy2; refine (fun (hz : n1 = m) (hz2 : ye = y) => ?_) (by rw [hm2, hnn1]; rfl) (by rw [hye2, hy2]; all_goals first | rfl | (cases nO <;> cases Oe <;> rfl)); subst hz hz2; (conv => cbv)) | exact gu | exact trivial | refine And.intro ?_ ?_ | (intro hc; exact absurd hc (by decide)) | (intro hc; exfalso; omega) | (intro hc; (first | rw [wrap_small (by omega) (by omega)] at hc | rw [nI_eq] at hc | skip); try (conv => cbv))
        all_goals first
          | (exfalso; omega)
          | (refine norm _ _ (O ++ [x], ve + 1, _, _) ?_ (by simp only; rw [hl1, ← hye]; exact (Wk.ca))
             exact ⟨by simp only; omega, by omega, htk.symm⟩)
    · rw [List.take_of_length_le (by omega)] at hO
      conv => cbv
      repeat' first | exact gu | exact trivial | refine And.intro ?_ ?_ | (intro hc; exact absurd hc (by decide)) | (intro hc; exfalso; omega) | (intro hc; (first | rw [wrap_small (by omega) (by omega)] at hc | rw [nI_eq] at hc | skip); try (conv => cbv))
      refine ex _ _ (O, ve, rr) hO (by simp only; rw [← hnO, ← hOe]; exact (Wk.ca))
  rintro ⟨O, ve, rr⟩ hO
  simp only at hO
  rw [← hO] at hp1 hp2
  obtain ⟨nO, hnO⟩ : ∃ x, x = O.length := ⟨_, rfl⟩
  obtain ⟨Oe, hOe⟩ : ∃ x, x = O.map encRow := ⟨_, rfl⟩
  have hOn : nO = Oe.length := by rw [hOe, hnO]; simp
  have hOl : nO ≤ 16 := by
    have h5 : (A.filter f).length ≤ A.length := List.length_filter_le _ _
    rw [← hO] at h5
    omega
  simp only
  rw [← hnO, ← hOe]
  by_cases hz : nO = 0
  · obtain ⟨q1, q2⟩ := hp1 (List.eq_nil_of_length_eq_zero (by omega))
    have hB0 : B.length = 0 := by rw [q2]; rfl
    conv => cbv
    repeat' first | exact gu | exact trivial | refine And.intro ?_ ?_ | (intro hc; exact absurd hc (by decide)) | (intro hc; exfalso; omega) | (intro hc; (first | rw [wrap_small (by omega) (by omega)] at hc | rw [nI_eq] at hc | skip); try (conv => cbv))
    all_goals first | exact hK | (exfalso; omega)
  · obtain ⟨q1, q2⟩ := hp2 fun h => hz (by rw [hnO, h]; rfl)
    have hss := hsa B O (by omega) (by omega)
    rw [q2, decide_eq_true rfl, ← hOe] at hss
    have hBO : Be = Oe := by rw [hBe, hOe, q2]
    rw [hBO]
    conv => cbv
    repeat' first | (refine call_z 3 (ve) 1 nO rfl hOn (by simp [okL, okA, okCs, okC, bq_lit]) (by first | (simp [okH, okB, okCs, okC]; done) | simp [okH, okB, okCs, okC, bq_lit]) ?_; simp only [zL, zA, zCs, zC, zH, zB, bq_self, bq_old]; conv => cbv) | (refine call_r hss rfl rfl ?_; conv => cbv) | exact gu | exact trivial | refine And.intro ?_ ?_ | (intro hc; exact absurd hc (by decide)) | (intro hc; exfalso; omega) | (intro hc; (first | rw [wrap_small (by omega) (by omega)] at hc | rw [nI_eq] at hc | skip); try (conv => cbv))
    all_goals first | exact hK | (exfalso; omega)
end Go.Ab

/-
  Chapter 14: what a row reads.
-/
namespace Go.Ab
open Go.Proofs Go.Proofs.Ytllgchplnhaplaa Go.ChangeShapes Go.WideShapes Go.ChangeAt Go.RowKit
def shKq : List Sh := [.list 1 [.bool], shI, shI, shI, shI]
def sizeKq (q : Qk) : Nat := q.down.length
theorem dec_kq {ds : List D} {n : Nat} (h : FitL shKq ds n) : ∃ c : Qk, qkA c = .agg (ds.map .d) ∧ sizeKq c ≤ n := by
 obtain ⟨d0, ds0, _, _, rfl, rfl, g0, h_0⟩ := h.un
 obtain ⟨down, rfl, w_down⟩ := g0.lm encB (fun _ => 1) dec_b
 rw [sum_one] at w_down
 obtain ⟨d1, ds1, _, _, rfl, rfl, g1, h_1⟩ := h_0.un
 obtain ⟨s, rfl, w_s⟩ := g1.i
 obtain ⟨d2, ds2, _, _, rfl, rfl, g2, h_2⟩ := h_1.un
 obtain ⟨d, rfl, w_d⟩ := g2.i
 obtain ⟨d3, ds3, _, _, rfl, rfl, g3, h_3⟩ := h_2.un
 obtain ⟨k, rfl, w_k⟩ := g3.i
 obtain ⟨d4, ds4, _, _, rfl, rfl, g4, h_4⟩ := h_3.un
 obtain ⟨most, rfl, w_most⟩ := g4.i
 rw [h_4.end]
 exact ⟨⟨down, s, d, k, most⟩, rfl, by simp only [sizeKq]; omega⟩
def sizeT (t : Top) : Nat := t.ov.length + t.links.length
theorem dec_top {ds : List D} {n : Nat} (h : FitL shTop ds n) : ∃ c : Top, topA c = .agg (ds.map .d) ∧ sizeT c ≤ n := by
 obtain ⟨d0, ds0, _, _, rfl, rfl, g0, h_0⟩ := h.un
 obtain ⟨nodes, rfl, w_nodes⟩ := g0.i
 obtain ⟨d1, ds1, _, _, rfl, rfl, g1, h_1⟩ := h_0.un
 obtain ⟨ov, rfl, w_ov⟩ := g1.lm encB (fun _ => 1) dec_b
 rw [sum_one] at w_ov
 obtain ⟨d2, ds2, _, _, rfl, rfl, g2, h_2⟩ := h_1.un
 obtain ⟨links, rfl, w_links⟩ := g2.lm encLk (fun _ => 1) dec_lk
 rw [sum_one] at w_links
 rw [h_2.end]
 exact ⟨⟨nodes, ov, links⟩, rfl, by simp only [sizeT]; omega⟩
end Go.Ab

