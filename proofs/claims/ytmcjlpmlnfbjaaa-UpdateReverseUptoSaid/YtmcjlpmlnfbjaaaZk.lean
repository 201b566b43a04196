/-
  Merged texts, part k.
-/
import Derived.Test.YtmcjlpmlnfbjaaaZj
import Derived.Test.YtmcjlpmlnfbjaaaProg
/-
  The texts of the seat's functions, as the engine has them (printed by gen.sh and mkf.py).
-/
namespace Go.Ab
open Go.Proofs
set_option maxRecDepth 100000
def af_law48_UpdateReverse : AF := (AF.mk 64 [(4, .none)] (.seq (.reg .false [⟨.some 2,.box (.t 0),.none⟩,⟨.some 3,.box (.t 1),.none⟩,⟨.some 4,.mv (.k (.c (.d (.bool .false)))),.none⟩]) (.seq (.seq (.reg .false [⟨.some 13,.call 10 [],.none⟩,⟨.some 14,.un .not (.t 13),.none⟩]) (.cond (.t 14) (.seq (.reg .false [⟨.some 4,.mv (.k (.c (.d (.bool .false)))),.none⟩]) .ret) .skip)) (.seq (.seq (.reg .false [⟨.some 15,.ld (.t 2) (.some 3),.none⟩,⟨.some 16,.ld (.t 3) (.some 2),.none⟩,⟨.some 17,.call 11 [(.t 15), (.t 16), (.k (.c (.d (.int .i64 8))))],.none⟩,⟨.some 18,.un .not (.t 17),.none⟩]) (.cond (.t 18) (.seq (.reg .false [⟨.some 4,.mv (.k (.c (.d (.bool .true)))),.none⟩]) .ret) .skip)) (.seq (.seq (.reg .true [⟨.some 19,.fa (.t 3) 0,.none⟩,⟨.some 20,.ld (.t 19) .none,.none⟩,⟨.some 21,.call 14 [(.t 20)],.none⟩,⟨.some 22,.fa (.t 3) 1,.none⟩,⟨.some 23,.ld (.t 22) .none,.none⟩]) (.seq (.reg .false [⟨.some 24,.call 14 [(.t 23)],.none⟩]) (.reg .true [⟨.some 5,.mv (.t 21),.none⟩,⟨.some 6,.mv (.t 24),.none⟩]))) (.seq (.reg .false [⟨.some 26,.ld (.t 2) (.some 3),.none⟩,⟨.some 27,.mv (.t 5),.none⟩,⟨.some 28,.mv (.t 6),.none⟩,⟨.some 29,.call 13 [(.t 26), (.t 27), (.t 28)],.none⟩,⟨.some 25,.mv (.t 29),.none⟩,⟨.some 30,.ext (.t 25) 0,.none⟩,⟨.some 31,.ext (.t 25) 1,.none⟩,⟨.some 7,.mv (.t 30),.none⟩,⟨.some 8,.mv (.t 31),.none⟩]) (.seq (.reg .false [⟨.some 33,.ld (.t 2) (.some 3),.none⟩,⟨.some 34,.mv (.t 6),.none⟩,⟨.some 35,.mv (.t 5),.none⟩,⟨.some 36,.call 13 [(.t 33), (.t 34), (.t 35)],.none⟩,⟨.some 32,.mv (.t 36),.none⟩,⟨.some 37,.ext (.t 32) 0,.none⟩,⟨.some 38,.ext (.t 32) 1,.none⟩,⟨.some 9,.mv (.t 37),.none⟩,⟨.some 10,.mv (.t 38),.none⟩]) (.seq (.seq (.reg .false [⟨.some 39,.mv (.t 8),.none⟩,⟨.some 40,.mv (.t 10),.none⟩,⟨.some 41,.bin .neq (.t 39) (.t 40),.none⟩]) (.cond (.t 41) (.seq (.reg .false [⟨.some 4,.mv (.k (.c (.d (.bool .false)))),.none⟩]) .ret) .skip)) (.seq (.seq (.reg .false [⟨.some 42,.mv (.t 8),.none⟩,⟨.some 43,.bin .neq (.t 42) (.k (.c (.d (.int .i64 0)))),.none⟩]) (.cond (.t 43) (.seq (.reg .false [⟨.some 4,.mv (.k (.c (.d (.bool .true)))),.none⟩]) .ret) .skip)) (.seq (.reg .false [⟨.some 11,.mv (.k (.c (.d (.list .true 1 [])))),.none⟩]) (.seq (.seq (.reg .false [⟨.some 44,.mv (.t 7),.none⟩,⟨.some 45,.len (.t 44),.none⟩,⟨.some 46,.bin .sub (.t 45) (.k (.c (.d (.int .i64 1)))),.none⟩,⟨.some 12,.mv (.t 46),.none⟩]) (.block 0 (.loop (.seq (.seq (.reg .false [⟨.some 47,.mv (.t 12),.none⟩,⟨.some 48,.bin .geq (.t 47) (.k (.c (.d (.int .i64 0)))),.none⟩]) (.cond (.t 48) .skip (.exit 0))) (.seq (.block 1 (.reg .false [⟨.some 51,.mv (.t 11),.none⟩,⟨.some 52,.mv (.t 7),.none⟩,⟨.some 53,.mv (.t 12),.none⟩,⟨.some 54,.ias 1 (.t 52) (.t 53),.none⟩,⟨.some 55,.ld (.t 54) .none,.none⟩,⟨.some 56,.bsl 1 [(.int .i64 0)] 1 [(0, (.t 55))],.none⟩,⟨.some 57,.app 1 8 [(.int .i64 0)] (.t 51) (.t 56),.none⟩,⟨.some 11,.mv (.t 57),.none⟩])) (.reg .false [⟨.some 49,.mv (.t 12),.none⟩,⟨.some 50,.bin .sub (.t 49) (.k (.c (.d (.int .i64 1)))),.none⟩,⟨.some 12,.mv (.t 50),.none⟩])))))) (.seq (.reg .false [⟨.some 58,.ld (.t 2) (.some 3),.none⟩,⟨.some 59,.mv (.t 6),.none⟩,⟨.some 60,.mv (.t 5),.none⟩,⟨.some 61,.mv (.t 11),.none⟩,⟨.some 62,.call 22 [(.t 58), (.t 59), (.t 60), (.t 61)],.none⟩,⟨.some 63,.bin .eql (.t 62) (.k (.c (.d (.int .i64 0)))),.none⟩,⟨.some 4,.mv (.t 63),.none⟩]) .ret))))))))))))
abbrev n_law48_UpdateReverse : Nat := 9
theorem fn_law48_UpdateReverse : Try.prog.funcs[n_law48_UpdateReverse]? = some Try.f9 := Try.func9
theorem c_law48_UpdateReverse : compF Try.prog Try.f9 = some af_law48_UpdateReverse := by kernel_rfl
def af_law48_awake : AF := (AF.mk 59 [(0, .none)] (.seq (.reg .false [⟨.some 0,.mv (.k (.c (.d (.bool .false)))),.none⟩]) (.seq (.reg .false [⟨.some 7,.bsl 1 [(.int .i64 0)] 1 [(0, (.k (.c (.d (.int .i64 0)))))],.none⟩,⟨.some 8,.build [(.d (.int .i64 0)), (.d (.list .true 1 [])), (.d (.int .i64 0))] [(0, (1, (.k (.c (.d (.int .i64 1)))))), (1, (1, (.t 7))), (2, (1, (.k (.c (.d (.int .i64 1))))))],.none⟩,⟨.some 9,.bsl 1 [(.int .i64 0)] 1 [(0, (.k (.c (.d (.int .i64 2)))))],.none⟩,⟨.some 10,.build [(.d (.int .i64 0)), (.d (.list .true 1 [])), (.d (.int .i64 0))] [(0, (1, (.k (.c (.d (.int .i64 2)))))), (1, (1, (.t 9))), (2, (1, (.k (.c (.d (.int .i64 1))))))],.none⟩,⟨.some 11,.bsl 3 [(.int .i64 0), (.list .true 1 []), (.int .i64 0)] 2 [(0, (.t 8)), (1, (.t 10))],.none⟩,⟨.some 1,.mv (.t 11),.none⟩]) (.seq (.reg .false [⟨.some 12,.bsl 1 [(.int .i64 0)] 1 [(0, (.k (.c (.d (.int .i64 2)))))],.none⟩,⟨.some 13,.build [(.d (.int .i64 0)), (.d (.list .true 1 [])), (.d (.int .i64 0))] [(0, (1, (.k (.c (.d (.int .i64 1)))))), (1, (1, (.t 12))), (2, (1, (.k (.c (.d (.int .i64 1))))))],.none⟩,⟨.some 14,.bsl 1 [(.int .i64 0)] 1 [(0, (.k (.c (.d (.int .i64 0)))))],.none⟩,⟨.some 15,.build [(.d (.int .i64 0)), (.d (.list .true 1 [])), (.d (.int .i64 0))] [(0, (1, (.k (.c (.d (.int .i64 2)))))), (1, (1, (.t 14))), (2, (1, (.k (.c (.d (.int .i64 1))))))],.none⟩,⟨.some 16,.bsl 3 [(.int .i64 0), (.list .true 1 []), (.int .i64 0)] 2 [(0, (.t 13)), (1, (.t 15))],.none⟩,⟨.some 2,.mv (.t 16),.none⟩]) (.seq (.reg .false [⟨.some 18,.call 25 [],.none⟩,⟨.some 19,.mv (.t 1),.none⟩,⟨.some 20,.mv (.t 2),.none⟩,⟨.some 21,.call 13 [(.t 18), (.t 19), (.t 20)],.none⟩,⟨.some 17,.mv (.t 21),.none⟩,⟨.some 22,.ext (.t 17) 0,.none⟩,⟨.some 23,.ext (.t 17) 1,.none⟩,⟨.some 3,.mv (.t 22),.none⟩,⟨.some 4,.mv (.t 23),.none⟩]) (.seq (.reg .false [⟨.some 24,.mv (.t 1),.none⟩,⟨.some 25,.mv (.t 1),.none⟩,⟨.some 26,.mv (.t 2),.none⟩,⟨.some 27,.mv (.t 2),.none⟩,⟨.some 28,.ias 3 (.t 24) (.k (.c (.d (.int .i64 0)))),.none⟩,⟨.some 29,.fa (.t 28) 2,.none⟩,⟨.none,.st (.t 29) (.k (.c (.d (.int .i64 2)))) 1,.none⟩,⟨.some 30,.ias 3 (.t 25) (.k (.c (.d (.int .i64 1)))),.none⟩,⟨.some 31,.fa (.t 30) 2,.none⟩,⟨.none,.st (.t 31) (.k (.c (.d (.int .i64 2)))) 1,.none⟩,⟨.some 32,.ias 3 (.t 26) (.k (.c (.d (.int .i64 0)))),.none⟩,⟨.some 33,.fa (.t 32) 2,.none⟩,⟨.none,.st (.t 33) (.k (.c (.d (.int .i64 2)))) 1,.none⟩,⟨.some 34,.ias 3 (.t 27) (.k (.c (.d (.int .i64 1)))),.none⟩,⟨.some 35,.fa (.t 34) 2,.none⟩,⟨.none,.st (.t 35) (.k (.c (.d (.int .i64 2)))) 1,.none⟩]) (.seq (.reg .false [⟨.some 37,.call 25 [],.none⟩,⟨.some 38,.mv (.t 1),.none⟩,⟨.some 39,.mv (.t 2),.none⟩,⟨.some 40,.call 13 [(.t 37), (.t 38), (.t 39)],.none⟩,⟨.some 36,.mv (.t 40),.none⟩,⟨.some 41,.ext (.t 36) 0,.none⟩,⟨.some 42,.ext (.t 36) 1,.none⟩,⟨.some 5,.mv (.t 41),.none⟩,⟨.some 6,.mv (.t 42),.none⟩]) (.seq (.reg .false [⟨.some 43,.mv (.t 4),.none⟩,⟨.some 44,.bin .eql (.t 43) (.k (.c (.d (.int .i64 0)))),.none⟩,⟨.some 45,.mv (.t 44),.none⟩,⟨.some 46,.mv (.t 3),.some (45, .true)⟩,⟨.some 47,.bsl 1 [(.int .i64 0)] 2 [(0, (.k (.c (.d (.int .i64 1))))), (1, (.k (.c (.d (.int .i64 2)))))],.some (45, .true)⟩,⟨.some 48,.call 16 [(.t 46), (.t 47)],.some (45, .true)⟩,⟨.some 49,.pick (.t 45) (.t 48) (.k (.c (.d (.bool .false)))),.none⟩,⟨.some 50,.mv (.t 49),.none⟩,⟨.some 51,.mv (.t 6),.some (50, .true)⟩,⟨.some 52,.bin .eql (.t 51) (.k (.c (.d (.int .i64 8)))),.some (50, .true)⟩,⟨.some 53,.pick (.t 50) (.t 52) (.k (.c (.d (.bool .false)))),.none⟩,⟨.some 54,.mv (.t 53),.none⟩,⟨.some 55,.call 25 [],.some (54, .true)⟩,⟨.some 56,.mv (.t 1),.some (54, .true)⟩,⟨.some 57,.call 21 [(.t 55), (.t 56)],.some (54, .true)⟩,⟨.some 58,.pick (.t 54) (.t 57) (.k (.c (.d (.bool .false)))),.none⟩,⟨.some 0,.mv (.t 58),.none⟩]) .ret))))))))
abbrev n_law48_awake : Nat := 10
theorem fn_law48_awake : Try.prog.funcs[n_law48_awake]? = some Try.f10 := Try.func10
theorem c_law48_awake : compF Try.prog Try.f10 = some af_law48_awake := by kernel_rfl
def af_law48_small : AF := (AF.mk 29 [(6, .none)] (.seq (.reg .false [⟨.some 3,.box (.t 0),.none⟩,⟨.some 4,.box (.t 1),.none⟩,⟨.some 6,.mv (.k (.c (.d (.bool .false)))),.none⟩]) (.seq (.reg .false [⟨.some 7,.fa (.t 3) 2,.none⟩,⟨.some 8,.ld (.t 7) .none,.none⟩,⟨.some 9,.len (.t 8),.none⟩,⟨.some 10,.bin .leq (.t 9) (.k (.c (.d (.int .i64 10)))),.none⟩,⟨.some 11,.mv (.t 10),.none⟩,⟨.some 12,.fa (.t 3) 1,.some (11, .true)⟩,⟨.some 13,.ld (.t 12) .none,.some (11, .true)⟩,⟨.some 14,.len (.t 13),.some (11, .true)⟩,⟨.some 15,.bin .leq (.t 14) (.k (.c (.d (.int .i64 20)))),.some (11, .true)⟩,⟨.some 16,.pick (.t 11) (.t 15) (.k (.c (.d (.bool .false)))),.none⟩,⟨.some 17,.mv (.t 16),.none⟩,⟨.some 18,.fa (.t 4) 0,.some (17, .true)⟩,⟨.some 19,.ld (.t 18) .none,.some (17, .true)⟩,⟨.some 20,.mv (.t 2),.some (17, .true)⟩,⟨.some 21,.call 26 [(.t 19), (.t 20)],.some (17, .true)⟩,⟨.some 22,.pick (.t 17) (.t 21) (.k (.c (.d (.bool .false)))),.none⟩,⟨.some 23,.mv (.t 22),.none⟩,⟨.some 24,.fa (.t 4) 1,.some (23, .true)⟩,⟨.some 25,.ld (.t 24) .none,.some (23, .true)⟩,⟨.some 26,.mv (.t 2),.some (23, .true)⟩,⟨.some 27,.call 26 [(.t 25), (.t 26)],.some (23, .true)⟩,⟨.some 28,.pick (.t 23) (.t 27) (.k (.c (.d (.bool .false)))),.none⟩,⟨.some 6,.mv (.t 28),.none⟩]) .ret)))
abbrev n_law48_small : Nat := 11
theorem fn_law48_small : Try.prog.funcs[n_law48_small]? = some Try.f11 := Try.func11
theorem c_law48_small : compF Try.prog Try.f11 = some af_law48_small := by kernel_rfl
def af_update_Order : AF := (AF.mk 75 [(6, .none), (7, .none)] (.seq (.reg .false [⟨.some 3,.box (.t 0),.none⟩,⟨.some 6,.mv (.k (.c (.d (.list .true 1 [])))),.none⟩,⟨.some 7,.mv (.k (.c (.d (.int .i64 0)))),.none⟩]) (.seq (.reg .false [⟨.some 16,.ld (.t 3) (.some 3),.none⟩,⟨.some 17,.mv (.t 1),.none⟩,⟨.some 18,.mv (.t 2),.none⟩,⟨.some 19,.call 30 [(.t 16), (.t 17), (.t 18)],.none⟩,⟨.some 15,.mv (.t 19),.none⟩,⟨.some 20,.ext (.t 15) 0,.none⟩,⟨.some 21,.ext (.t 15) 1,.none⟩,⟨.some 8,.box (.k (.c (.d .nilp))),.none⟩,⟨.none,.st (.t 8) (.t 20) 1,.none⟩,⟨.some 9,.mv (.t 21),.none⟩]) (.seq (.seq (.reg .false [⟨.some 22,.mv (.t 9),.none⟩,⟨.some 23,.bin .neq (.t 22) (.k (.c (.d (.int .i64 0)))),.none⟩]) (.cond (.t 23) (.seq (.reg .false [⟨.some 24,.mv (.t 9),.none⟩,⟨.some 6,.mv (.k (.c (.d (.list .true 1 [])))),.none⟩,⟨.some 7,.mv (.t 24),.none⟩]) .ret) .skip)) (.seq (.seq (.seq (.reg .true [⟨.some 25,.ld (.t 8) .none,.none⟩]) (.seq (.reg .false [⟨.some 26,.call 31 [(.t 25), (.k (.c (.d (.int .u32 0)))), (.k (.c (.d (.int .i64 (-1)))))],.none⟩]) (.seq (.reg .true [⟨.some 27,.un .not (.t 26),.none⟩,⟨.some 28,.mv (.t 27),.none⟩,⟨.some 29,.ld (.t 8) .none,.some (28, .false)⟩,⟨.some 30,.ld (.t 8) .none,.some (28, .false)⟩,⟨.some 31,.nilc (.t 30),.some (28, .false)⟩,⟨.some 32,.fa (.t 31) 3,.some (28, .false)⟩,⟨.some 33,.ld (.t 32) .none,.some (28, .false)⟩,⟨.some 34,.len (.t 33),.some (28, .false)⟩,⟨.some 35,.bin .shl (.k (.c (.d (.int .u32 1)))) (.t 34),.some (28, .false)⟩,⟨.some 36,.bin .sub (.t 35) (.k (.c (.d (.int .u32 1)))),.some (28, .false)⟩]) (.seq (.reg .false [⟨.some 37,.call 31 [(.t 29), (.t 36), (.k (.c (.d (.int .i64 (-1)))))],.some (28, .false)⟩]) (.reg .true [⟨.some 38,.un .not (.t 37),.some (28, .false)⟩,⟨.some 39,.pick (.t 28) (.k (.c (.d (.bool .true)))) (.t 38),.none⟩]))))) (.cond (.t 39) (.seq (.reg .false [⟨.some 6,.mv (.k (.c (.d (.list .true 1 [])))),.none⟩,⟨.some 7,.mv (.k (.c (.d (.int .i64 12)))),.none⟩]) .ret) .skip)) (.seq (.reg .false [⟨.some 10,.box (.k (.c (.d .nilf))),.none⟩,⟨.none,.st (.t 10) (.k (.c (.fn .false 32 []))) 1,.none⟩]) (.seq (.seq (.reg .true [⟨.some 41,.ld (.t 8) .none,.none⟩,⟨.some 42,.nilc (.t 41),.none⟩,⟨.some 43,.fa (.t 42) 3,.none⟩,⟨.some 44,.ld (.t 43) .none,.none⟩,⟨.some 45,.len (.t 44),.none⟩,⟨.some 46,.ld (.t 8) .none,.none⟩,⟨.some 47,.mkf .true 31 [(.t 46)],.none⟩,⟨.some 48,.mkf .false 34 [(.t 10), (.t 8)],.none⟩,⟨.some 49,.mkf .false 35 [(.t 10), (.t 8)],.none⟩,⟨.some 50,.build [(.d (.int .i64 0)), (.d .nilf), (.d .nilf), (.d .nilf)] [(0, (1, (.t 45))), (1, (1, (.t 47))), (2, (1, (.t 48))), (3, (1, (.t 49)))],.none⟩]) (.seq (.reg .false [⟨.some 51,.call 33 [(.t 50)],.none⟩]) (.reg .true [⟨.some 40,.mv (.t 51),.none⟩,⟨.some 52,.ext (.t 40) 0,.none⟩,⟨.some 53,.ext (.t 40) 1,.none⟩,⟨.some 11,.mv (.t 52),.none⟩,⟨.some 12,.mv (.t 53),.none⟩]))) (.seq (.seq (.reg .false [⟨.some 54,.mv (.t 12),.none⟩,⟨.some 55,.un .not (.t 54),.none⟩]) (.cond (.t 55) (.seq (.reg .false [⟨.some 6,.mv (.k (.c (.d (.list .true 1 [])))),.none⟩,⟨.some 7,.mv (.k (.c (.d (.int .i64 8)))),.none⟩]) .ret) .skip)) (.seq (.seq (.reg .false [⟨.some 56,.mv (.t 11),.none⟩,⟨.some 57,.len (.t 56),.none⟩,⟨.some 58,.mv (.k (.c (.d (.int .i64 0)))),.none⟩]) (.block 0 (.loop (.seq (.reg .false [⟨.some 59,.bin .lss (.t 58) (.t 57),.none⟩]) (.seq (.cond (.t 59) .skip (.exit 0)) (.seq (.block 1 (.seq (.reg .false [⟨.some 60,.mv (.t 58),.none⟩,⟨.some 61,.ias 1 (.t 56) (.t 58),.none⟩,⟨.some 62,.ld (.t 61) .none,.none⟩,⟨.some 13,.mv (.t 60),.none⟩,⟨.some 14,.mv (.t 62),.none⟩]) (.reg .false [⟨.some 63,.mv (.t 11),.none⟩,⟨.some 64,.mv (.t 13),.none⟩,⟨.some 65,.ld (.t 8) .none,.none⟩,⟨.some 66,.nilc (.t 65),.none⟩,⟨.some 67,.fa (.t 66) 3,.none⟩,⟨.some 68,.ld (.t 67) .none,.none⟩,⟨.some 69,.mv (.t 14),.none⟩,⟨.some 70,.ias 1 (.t 68) (.t 69),.none⟩,⟨.some 71,.ld (.t 70) .none,.none⟩,⟨.some 72,.ias 1 (.t 63) (.t 64),.none⟩,⟨.none,.st (.t 72) (.t 71) 1,.none⟩]))) (.reg .false [⟨.some 73,.bin .add (.t 58) (.k (.c (.d (.int .i64 1)))),.none⟩,⟨.some 58,.mv (.t 73),.none⟩]))))))) (.seq (.reg .false [⟨.some 74,.mv (.t 11),.none⟩,⟨.some 6,.mv (.t 74),.none⟩,⟨.some 7,.mv (.k (.c (.d (.int .i64 0)))),.none⟩]) .ret))))))))))
abbrev n_update_Order : Nat := 13
theorem fn_update_Order : Try.prog.funcs[n_update_Order]? = some Try.f13 := Try.func13
theorem c_update_Order : compF Try.prog Try.f13 = some af_update_Order := by kernel_rfl
def af_law48_program : AF := (AF.mk 33 [(2, .none)] (.seq (.reg .false [⟨.some 2,.mv (.k (.c (.d (.list .true 3 [])))),.none⟩]) (.seq (.reg .false [⟨.some 3,.mv (.k (.c (.d (.list .true 3 [])))),.none⟩]) (.seq (.seq (.reg .false [⟨.some 4,.mv (.k (.c (.d (.int .i64 0)))),.none⟩]) (.block 0 (.loop (.seq (.seq (.reg .false [⟨.some 5,.mv (.t 4),.none⟩,⟨.some 6,.mv (.t 0),.none⟩,⟨.some 7,.len (.t 6),.none⟩,⟨.some 8,.bin .lss (.t 5) (.t 7),.none⟩]) (.cond (.t 8) .skip (.exit 0))) (.seq (.block 1 (.rgc [⟨.some 11,.mv (.t 3),.none⟩,⟨.some 12,.mv (.t 0),.none⟩,⟨.some 13,.mv (.t 4),.none⟩,⟨.some 14,.ias 3 (.t 12) (.t 13),.none⟩,⟨.some 15,.fa (.t 14) 0,.none⟩,⟨.some 16,.ld (.t 15) .none,.none⟩,⟨.some 18,.mv (.t 0),.none⟩,⟨.some 19,.mv (.t 4),.none⟩,⟨.some 20,.ias 3 (.t 18) (.t 19),.none⟩,⟨.some 21,.fa (.t 20) 1,.none⟩,⟨.some 22,.ld (.t 21) .none,.none⟩,⟨.some 24,.mv (.t 0),.none⟩,⟨.some 25,.mv (.t 4),.none⟩,⟨.some 26,.ias 3 (.t 24) (.t 25),.none⟩,⟨.some 27,.fa (.t 26) 2,.none⟩,⟨.some 28,.ld (.t 27) .none,.none⟩] [⟨.some 17,.bsl 1 [(.int .i64 0)] 0 [],.none⟩,⟨.some 23,.app 1 8 [(.int .i64 0)] (.t 17) (.t 22),.none⟩,⟨.some 29,.build [(.d (.int .i64 0)), (.d (.list .true 1 [])), (.d (.int .i64 0))] [(0, (1, (.t 16))), (1, (1, (.t 23))), (2, (1, (.t 28)))],.none⟩,⟨.some 30,.bsl 3 [(.int .i64 0), (.list .true 1 []), (.int .i64 0)] 1 [(0, (.t 29))],.none⟩,⟨.some 31,.app 3 40 [(.int .i64 0), (.list .true 1 []), (.int .i64 0)] (.t 11) (.t 30),.none⟩,⟨.some 3,.mv (.t 31),.none⟩] [12, 13, 14, 15, 18, 19, 20, 21, 24, 25, 26, 27])) (.reg .false [⟨.some 9,.mv (.t 4),.none⟩,⟨.some 10,.bin .add (.t 9) (.k (.c (.d (.int .i64 1)))),.none⟩,⟨.some 4,.mv (.t 10),.none⟩])))))) (.seq (.reg .false [⟨.some 32,.mv (.t 3),.none⟩,⟨.some 2,.mv (.t 32),.none⟩]) .ret)))))
abbrev n_law48_program : Nat := 14
theorem fn_law48_program : Try.prog.funcs[n_law48_program]? = some Try.f14 := Try.func14
theorem c_law48_program : compF Try.prog Try.f14 = some af_law48_program := by kernel_rfl
def af_ref09_SameInts : AF := (AF.mk 26 [(4, .none)] (.seq (.reg .false [⟨.some 4,.mv (.k (.c (.d (.bool .false)))),.none⟩]) (.seq (.seq (.reg .false [⟨.some 6,.mv (.t 0),.none⟩,⟨.some 7,.len (.t 6),.none⟩,⟨.some 8,.mv (.t 1),.none⟩,⟨.some 9,.len (.t 8),.none⟩,⟨.some 10,.bin .neq (.t 7) (.t 9),.none⟩]) (.cond (.t 10) (.seq (.reg .false [⟨.some 4,.mv (.k (.c (.d (.bool .false)))),.none⟩]) .ret) .skip)) (.seq (.seq (.reg .false [⟨.some 5,.mv (.k (.c (.d (.int .i64 0)))),.none⟩]) (.block 0 (.loop (.seq (.seq (.reg .false [⟨.some 11,.mv (.t 5),.none⟩,⟨.some 12,.mv (.t 0),.none⟩,⟨.some 13,.len (.t 12),.none⟩,⟨.some 14,.bin .lss (.t 11) (.t 13),.none⟩]) (.cond (.t 14) .skip (.exit 0))) (.seq (.block 1 (.seq (.reg .true [⟨.some 17,.mv (.t 0),.none⟩,⟨.some 18,.mv (.t 5),.none⟩,⟨.some 19,.ias 1 (.t 17) (.t 18),.none⟩,⟨.some 20,.ld (.t 19) .none,.none⟩,⟨.some 21,.mv (.t 1),.none⟩,⟨.some 22,.mv (.t 5),.none⟩,⟨.some 23,.ias 1 (.t 21) (.t 22),.none⟩,⟨.some 24,.ld (.t 23) .none,.none⟩,⟨.some 25,.bin .neq (.t 20) (.t 24),.none⟩]) (.cond (.t 25) (.seq (.reg .false [⟨.some 4,.mv (.k (.c (.d (.bool .false)))),.none⟩]) .ret) .skip))) (.reg .false [⟨.some 15,.mv (.t 5),.none⟩,⟨.some 16,.bin .add (.t 15) (.k (.c (.d (.int .i64 1)))),.none⟩,⟨.some 5,.mv (.t 16),.none⟩])))))) (.seq (.reg .false [⟨.some 4,.mv (.k (.c (.d (.bool .true)))),.none⟩]) .ret)))))
abbrev n_ref09_SameInts : Nat := 16
theorem fn_ref09_SameInts : Try.prog.funcs[n_ref09_SameInts]? = some Try.f16 := Try.func16
theorem c_ref09_SameInts : compF Try.prog Try.f16 = some af_ref09_SameInts := by kernel_rfl
def af_update_Changed : AF := (AF.mk 52 [(4, .none)] (.seq (.reg .false [⟨.some 4,.mv (.k (.c (.d (.list .true 1 [])))),.none⟩]) (.seq (.seq (.reg .false [⟨.some 12,.mv (.t 0),.none⟩,⟨.some 13,.call 45 [(.t 12)],.none⟩,⟨.some 14,.un .not (.t 13),.none⟩,⟨.some 15,.mv (.t 14),.none⟩,⟨.some 16,.mv (.t 1),.some (15, .false)⟩,⟨.some 17,.call 45 [(.t 16)],.some (15, .false)⟩,⟨.some 18,.un .not (.t 17),.some (15, .false)⟩,⟨.some 19,.pick (.t 15) (.k (.c (.d (.bool .true)))) (.t 18),.none⟩]) (.cond (.t 19) (.seq (.reg .false [⟨.some 4,.mv (.k (.c (.d (.list .true 1 [])))),.none⟩]) .ret) .skip)) (.seq (.reg .false [⟨.some 5,.box (.k (.c (.d .nilf))),.none⟩,⟨.none,.st (.t 5) (.k (.c (.fn .false 46 []))) 1,.none⟩]) (.seq (.reg .false [⟨.some 20,.mo .mkm [],.none⟩,⟨.some 6,.mv (.t 20),.none⟩]) (.seq (.seq (.reg .false [⟨.some 21,.mv (.t 0),.none⟩,⟨.some 22,.mv (.t 1),.none⟩,⟨.some 23,.build [(.d (.list .true 3 [])), (.d (.list .true 3 []))] [(0, (1, (.t 21))), (1, (1, (.t 22)))],.none⟩,⟨.some 24,.mv (.t 1),.none⟩,⟨.some 25,.mv (.t 0),.none⟩,⟨.some 26,.build [(.d (.list .true 3 [])), (.d (.list .true 3 []))] [(0, (1, (.t 24))), (1, (1, (.t 25)))],.none⟩,⟨.some 27,.build [(.d (.list .true 3 [])), (.d (.list .true 3 [])), (.d (.list .true 3 [])), (.d (.list .true 3 []))] [(0, (2, (.t 23))), (2, (2, (.t 26)))],.none⟩,⟨.some 28,.mv (.k (.c (.d (.int .i64 0)))),.none⟩]) (.block 0 (.loop (.seq (.reg .false [⟨.some 29,.bin .lss (.t 28) (.k (.c (.d (.int .i64 2)))),.none⟩]) (.seq (.cond (.t 29) .skip (.exit 0)) (.seq (.block 1 (.seq (.reg .false [⟨.some 30,.ixa 2 2 .true (.t 27) (.t 28),.none⟩,⟨.some 8,.box (.k (.agg [(.d (.list .true 3 [])), (.d (.list .true 3 []))])),.none⟩,⟨.none,.st (.t 8) (.t 30) 2,.none⟩]) (.seq (.reg .false [⟨.some 31,.iaa 2 1 (.t 8) (.k (.c (.d (.int .i64 0)))),.none⟩,⟨.some 32,.ld (.t 31) .none,.none⟩,⟨.some 33,.len (.t 32),.none⟩,⟨.some 34,.mv (.k (.c (.d (.int .i64 0)))),.none⟩]) (.block 2 (.loop (.seq (.reg .false [⟨.some 35,.bin .lss (.t 34) (.t 33),.none⟩]) (.seq (.cond (.t 35) .skip (.exit 2)) (.seq (.block 3 (.seq (.reg .false [⟨.some 36,.ias 3 (.t 32) (.t 34),.none⟩,⟨.some 37,.ld (.t 36) (.some 3),.none⟩,⟨.some 10,.box (.k (.agg [(.d (.int .i64 0)), (.d (.list .true 1 [])), (.d (.int .i64 0))])),.none⟩,⟨.none,.st (.t 10) (.t 37) 3,.none⟩]) (.seq (.reg .false [⟨.some 38,.mkf .false 48 [(.t 5), (.t 10)],.none⟩,⟨.some 11,.mv (.t 38),.none⟩]) (.seq (.reg .false [⟨.some 39,.iaa 2 1 (.t 8) (.k (.c (.d (.int .i64 1)))),.none⟩,⟨.some 40,.ld (.t 39) .none,.none⟩,⟨.some 41,.mv (.t 11),.none⟩,⟨.some 42,.call 49 [(.t 40), (.t 41)],.none⟩,⟨.some 43,.un .not (.t 42),.none⟩]) (.cond (.t 43) (.reg .false [⟨.some 44,.mv (.t 6),.none⟩,⟨.some 45,.fa (.t 10) 0,.none⟩,⟨.some 46,.ld (.t 45) .none,.none⟩,⟨.none,.mo (.up .true 1 [(0, 0)]) [(.t 44), (.t 46), (.k (.c (.d (.bool .true))))],.none⟩]) .skip))))) (.reg .false [⟨.some 47,.bin .add (.t 34) (.k (.c (.d (.int .i64 1)))),.none⟩,⟨.some 34,.mv (.t 47),.none⟩]))))))))) (.reg .false [⟨.some 48,.bin .add (.t 28) (.k (.c (.d (.int .i64 1)))),.none⟩,⟨.some 28,.mv (.t 48),.none⟩]))))))) (.seq (.reg .false [⟨.some 49,.mv (.t 6),.none⟩,⟨.some 50,.call 51 [(.t 49)],.none⟩,⟨.some 51,.call 50 [(.t 50)],.none⟩,⟨.some 4,.mv (.t 51),.none⟩]) .ret)))))))
abbrev n_update_Changed : Nat := 20
theorem fn_update_Changed : Try.prog.funcs[n_update_Changed]? = some Try.f20 := Try.func20
theorem c_update_Changed : compF Try.prog Try.f20 = some af_update_Changed := by kernel_rfl
def af_update_Proper : AF := (AF.mk 70 [(4, .none)] (.seq (.reg .false [⟨.some 2,.box (.t 0),.none⟩,⟨.some 4,.mv (.k (.c (.d (.bool .false)))),.none⟩]) (.seq (.seq (.reg .false [⟨.some 9,.ld (.t 2) (.some 3),.none⟩,⟨.some 10,.call 52 [(.t 9)],.none⟩,⟨.some 11,.un .not (.t 10),.none⟩,⟨.some 12,.mv (.t 11),.none⟩,⟨.some 13,.mv (.t 1),.some (12, .false)⟩,⟨.some 14,.call 45 [(.t 13)],.some (12, .false)⟩,⟨.some 15,.un .not (.t 14),.some (12, .false)⟩,⟨.some 16,.pick (.t 12) (.k (.c (.d (.bool .true)))) (.t 15),.none⟩]) (.cond (.t 16) (.seq (.reg .false [⟨.some 4,.mv (.k (.c (.d (.bool .false)))),.none⟩]) .ret) .skip)) (.seq (.seq (.reg .false [⟨.some 17,.mv (.t 1),.none⟩,⟨.some 18,.len (.t 17),.none⟩,⟨.some 19,.mv (.k (.c (.d (.int .i64 0)))),.none⟩]) (.block 0 (.loop (.seq (.reg .false [⟨.some 20,.bin .lss (.t 19) (.t 18),.none⟩]) (.seq (.cond (.t 20) .skip (.exit 0)) (.seq (.block 1 (.seq (.reg .false [⟨.some 21,.ias 3 (.t 17) (.t 19),.none⟩,⟨.some 22,.ld (.t 21) (.some 3),.none⟩,⟨.some 6,.box (.k (.agg [(.d (.int .i64 0)), (.d (.list .true 1 [])), (.d (.int .i64 0))])),.none⟩,⟨.none,.st (.t 6) (.t 22) 3,.none⟩]) (.seq (.seq (.reg .false [⟨.some 23,.fa (.t 6) 0,.none⟩,⟨.some 24,.ld (.t 23) .none,.none⟩,⟨.some 25,.bin .lss (.t 24) (.k (.c (.d (.int .i64 0)))),.none⟩,⟨.some 26,.mv (.t 25),.none⟩,⟨.some 27,.fa (.t 6) 2,.some (26, .false)⟩,⟨.some 28,.ld (.t 27) .none,.some (26, .false)⟩,⟨.some 29,.bin .lss (.t 28) (.k (.c (.d (.int .i64 1)))),.some (26, .false)⟩,⟨.some 30,.pick (.t 26) (.k (.c (.d (.bool .true)))) (.t 29),.none⟩,⟨.some 31,.mv (.t 30),.none⟩,⟨.some 32,.fa (.t 6) 2,.some (31, .false)⟩,⟨.some 33,.ld (.t 32) .none,.some (31, .false)⟩,⟨.some 34,.bin .gtr (.t 33) (.k (.c (.d (.int .i64 1048576)))),.some (31, .false)⟩,⟨.some 35,.pick (.t 31) (.k (.c (.d (.bool .true)))) (.t 34),.none⟩,⟨.some 36,.mv (.t 35),.none⟩,⟨.some 37,.fa (.t 6) 1,.some (36, .false)⟩,⟨.some 38,.ld (.t 37) .none,.some (36, .false)⟩,⟨.some 39,.len (.t 38),.some (36, .false)⟩,⟨.some 40,.bin .lss (.t 39) (.k (.c (.d (.int .i64 1)))),.some (36, .false)⟩,⟨.some 41,.pick (.t 36) (.k (.c (.d (.bool .true)))) (.t 40),.none⟩,⟨.some 42,.mv (.t 41),.none⟩,⟨.some 43,.fa (.t 6) 1,.some (42, .false)⟩,⟨.some 44,.ld (.t 43) .none,.some (42, .false)⟩,⟨.some 45,.len (.t 44),.some (42, .false)⟩,⟨.some 46,.bin .gtr (.t 45) (.k (.c (.d (.int .i64 64)))),.some (42, .false)⟩,⟨.some 47,.pick (.t 42) (.k (.c (.d (.bool .true)))) (.t 46),.none⟩]) (.cond (.t 47) (.seq (.reg .false [⟨.some 4,.mv (.k (.c (.d (.bool .false)))),.none⟩]) .ret) .skip)) (.seq (.reg .false [⟨.some 48,.fa (.t 6) 1,.none⟩,⟨.some 49,.ld (.t 48) .none,.none⟩,⟨.some 50,.len (.t 49),.none⟩,⟨.some 51,.mv (.k (.c (.d (.int .i64 0)))),.none⟩]) (.block 2 (.loop (.seq (.reg .false [⟨.some 52,.bin .lss (.t 51) (.t 50),.none⟩]) (.seq (.cond (.t 52) .skip (.exit 2)) (.seq (.block 3 (.seq (.reg .false [⟨.some 53,.mv (.t 51),.none⟩,⟨.some 54,.ias 1 (.t 49) (.t 51),.none⟩,⟨.some 55,.ld (.t 54) .none,.none⟩,⟨.some 7,.mv (.t 53),.none⟩,⟨.some 8,.mv (.t 55),.none⟩]) (.seq (.reg .false [⟨.some 56,.ld (.t 2) (.some 3),.none⟩,⟨.some 57,.mv (.t 8),.none⟩,⟨.some 58,.call 53 [(.t 56), (.t 57)],.none⟩,⟨.some 59,.un .not (.t 58),.none⟩,⟨.some 60,.mv (.t 59),.none⟩,⟨.some 61,.fa (.t 6) 1,.some (60, .false)⟩,⟨.some 62,.ld (.t 61) .none,.some (60, .false)⟩,⟨.some 63,.mv (.t 7),.some (60, .false)⟩,⟨.some 64,.sl 1 (.t 62) .none (.some (.t 63)) .none,.some (60, .false)⟩,⟨.some 65,.mv (.t 8),.some (60, .false)⟩,⟨.some 66,.call 54 [(.t 64), (.t 65)],.some (60, .false)⟩,⟨.some 67,.pick (.t 60) (.k (.c (.d (.bool .true)))) (.t 66),.none⟩]) (.cond (.t 67) (.seq (.reg .false [⟨.some 4,.mv (.k (.c (.d (.bool .false)))),.none⟩]) .ret) .skip)))) (.reg .false [⟨.some 68,.bin .add (.t 51) (.k (.c (.d (.int .i64 1)))),.none⟩,⟨.some 51,.mv (.t 68),.none⟩])))))))))) (.reg .false [⟨.some 69,.bin .add (.t 19) (.k (.c (.d (.int .i64 1)))),.none⟩,⟨.some 19,.mv (.t 69),.none⟩]))))))) (.seq (.reg .false [⟨.some 4,.mv (.k (.c (.d (.bool .true)))),.none⟩]) .ret)))))
abbrev n_update_Proper : Nat := 21
theorem fn_update_Proper : Try.prog.funcs[n_update_Proper]? = some Try.f21 := Try.func21
theorem c_update_Proper : compF Try.prog Try.f21 = some af_update_Proper := by kernel_rfl
def af_update_Check : AF := (AF.mk 84 [(8, .none)] (.seq (.reg .false [⟨.some 4,.box (.t 0),.none⟩,⟨.some 8,.mv (.k (.c (.d (.int .i64 0)))),.none⟩]) (.seq (.reg .false [⟨.some 20,.ld (.t 4) (.some 3),.none⟩,⟨.some 21,.mv (.t 1),.none⟩,⟨.some 22,.mv (.t 2),.none⟩,⟨.some 23,.call 30 [(.t 20), (.t 21), (.t 22)],.none⟩,⟨.some 19,.mv (.t 23),.none⟩,⟨.some 24,.ext (.t 19) 0,.none⟩,⟨.some 25,.ext (.t 19) 1,.none⟩,⟨.some 9,.mv (.t 24),.none⟩,⟨.some 10,.mv (.t 25),.none⟩]) (.seq (.seq (.reg .false [⟨.some 26,.mv (.t 10),.none⟩,⟨.some 27,.bin .neq (.t 26) (.k (.c (.d (.int .i64 0)))),.none⟩]) (.cond (.t 27) (.seq (.reg .false [⟨.some 28,.mv (.t 10),.none⟩,⟨.some 8,.mv (.t 28),.none⟩]) .ret) .skip)) (.seq (.seq (.reg .false [⟨.some 30,.mv (.t 9),.none⟩,⟨.some 31,.mv (.t 3),.none⟩,⟨.some 32,.call 42 [(.t 30), (.t 31)],.none⟩,⟨.some 29,.mv (.t 32),.none⟩,⟨.some 33,.ext (.t 29) 0,.none⟩,⟨.some 34,.ext (.t 29) 1,.none⟩,⟨.some 11,.mv (.t 33),.none⟩,⟨.some 12,.mv (.t 34),.none⟩]) (.seq (.reg .false [⟨.some 35,.mv (.t 12),.none⟩,⟨.some 36,.un .not (.t 35),.none⟩,⟨.some 37,.mv (.t 36),.none⟩,⟨.some 38,.mv (.t 3),.some (37, .false)⟩,⟨.some 39,.len (.t 38),.some (37, .false)⟩,⟨.some 40,.mv (.t 9),.some (37, .false)⟩,⟨.some 41,.nilc (.t 40),.some (37, .false)⟩,⟨.some 42,.fa (.t 41) 3,.some (37, .false)⟩,⟨.some 43,.ld (.t 42) .none,.some (37, .false)⟩,⟨.some 44,.len (.t 43),.some (37, .false)⟩,⟨.some 45,.bin .neq (.t 39) (.t 44),.some (37, .false)⟩,⟨.some 46,.pick (.t 37) (.k (.c (.d (.bool .true)))) (.t 45),.none⟩]) (.cond (.t 46) (.seq (.reg .false [⟨.some 8,.mv (.k (.c (.d (.int .i64 1)))),.none⟩]) .ret) .skip))) (.seq (.reg .false [⟨.some 47,.mv (.t 9),.none⟩,⟨.some 48,.call 31 [(.t 47), (.k (.c (.d (.int .u32 0)))), (.k (.c (.d (.int .i64 (-1)))))],.none⟩,⟨.some 13,.mv (.t 48),.none⟩]) (.seq (.reg .false [⟨.some 14,.mv (.k (.c (.d (.int .u32 0)))),.none⟩]) (.seq (.seq (.reg .false [⟨.some 49,.mv (.t 3),.none⟩,⟨.some 50,.len (.t 49),.none⟩,⟨.some 51,.mv (.k (.c (.d (.int .i64 0)))),.none⟩]) (.block 0 (.loop (.seq (.reg .false [⟨.some 52,.bin .lss (.t 51) (.t 50),.none⟩]) (.seq (.cond (.t 52) .skip (.exit 0)) (.seq (.block 1 (.seq (.reg .false [⟨.some 53,.ias 1 (.t 49) (.t 51),.none⟩,⟨.some 54,.ld (.t 53) .none,.none⟩,⟨.some 16,.mv (.t 54),.none⟩]) (.seq (.reg .false [⟨.some 56,.mv (.t 9),.none⟩,⟨.some 57,.nilc (.t 56),.none⟩,⟨.some 58,.fa (.t 57) 3,.none⟩,⟨.some 59,.ld (.t 58) .none,.none⟩,⟨.some 60,.mv (.t 16),.none⟩,⟨.some 61,.call 43 [(.t 59), (.t 60)],.none⟩,⟨.some 55,.mv (.t 61),.none⟩,⟨.some 62,.ext (.t 55) 0,.none⟩,⟨.some 63,.ext (.t 55) 1,.none⟩,⟨.some 17,.mv (.t 62),.none⟩,⟨.some 18,.mv (.t 63),.none⟩]) (.seq (.reg .false [⟨.some 64,.mv (.t 13),.none⟩,⟨.some 65,.mv (.t 64),.none⟩,⟨.some 66,.mv (.t 9),.some (65, .true)⟩,⟨.some 67,.mv (.t 14),.some (65, .true)⟩,⟨.some 68,.mv (.t 17),.some (65, .true)⟩,⟨.some 69,.call 31 [(.t 66), (.t 67), (.t 68)],.some (65, .true)⟩,⟨.some 70,.pick (.t 65) (.t 69) (.k (.c (.d (.bool .false)))),.none⟩,⟨.some 13,.mv (.t 70),.none⟩]) (.seq (.reg .false [⟨.some 71,.mv (.t 14),.none⟩,⟨.some 72,.mv (.t 17),.none⟩,⟨.some 73,.bin .shl (.k (.c (.d (.int .u32 1)))) (.t 72),.none⟩,⟨.some 74,.bin .or (.t 71) (.t 73),.none⟩,⟨.some 14,.mv (.t 74),.none⟩]) (.reg .false [⟨.some 75,.mv (.t 13),.none⟩,⟨.some 76,.mv (.t 75),.none⟩,⟨.some 77,.mv (.t 9),.some (76, .true)⟩,⟨.some 78,.mv (.t 14),.some (76, .true)⟩,⟨.some 79,.call 31 [(.t 77), (.t 78), (.k (.c (.d (.int .i64 (-1)))))],.some (76, .true)⟩,⟨.some 80,.pick (.t 76) (.t 79) (.k (.c (.d (.bool .false)))),.none⟩,⟨.some 13,.mv (.t 80),.none⟩])))))) (.reg .false [⟨.some 81,.bin .add (.t 51) (.k (.c (.d (.int .i64 1)))),.none⟩,⟨.some 51,.mv (.t 81),.none⟩]))))))) (.seq (.seq (.reg .false [⟨.some 82,.mv (.t 13),.none⟩,⟨.some 83,.un .not (.t 82),.none⟩]) (.cond (.t 83) (.seq (.reg .false [⟨.some 8,.mv (.k (.c (.d (.int .i64 12)))),.none⟩]) .ret) .skip)) (.seq (.reg .false [⟨.some 8,.mv (.k (.c (.d (.int .i64 0)))),.none⟩]) .ret))))))))))
abbrev n_update_Check : Nat := 22
theorem fn_update_Check : Try.prog.funcs[n_update_Check]? = some Try.f22 := Try.func22
theorem c_update_Check : compF Try.prog Try.f22 = some af_update_Check := by kernel_rfl
def af_law48_parallel : AF := (AF.mk 8 [(0, (.some (.some 3)))] (.seq (.reg .false [⟨.some 0,.box (.k (.agg [(.d (.int .i64 0)), (.d (.list .true 1 [])), (.d (.list .true 7 []))])),.none⟩]) (.seq (.reg .false [⟨.some 2,.build [(.d (.int .i64 0)), (.d (.int .i64 0))] [(0, (1, (.k (.c (.d (.int .i64 1)))))), (1, (1, (.k (.c (.d (.int .i64 1))))))],.none⟩,⟨.some 3,.build [(.d (.int .i64 0)), (.d (.int .i64 0)), (.d (.int .i64 0)), (.d (.int .i64 0)), (.d (.int .i64 0)), (.d (.int .i64 0)), (.d (.int .i64 0))] [(0, (1, (.k (.c (.d (.int .i64 0)))))), (1, (1, (.k (.c (.d (.int .i64 1)))))), (2, (2, (.t 2))), (4, (1, (.k (.c (.d (.int .i64 2)))))), (5, (1, (.k (.c (.d (.int .i64 1))))))],.none⟩,⟨.some 1,.box (.k (.agg [(.d (.int .i64 0)), (.d (.int .i64 0)), (.d (.int .i64 0)), (.d (.int .i64 0)), (.d (.int .i64 0)), (.d (.int .i64 0)), (.d (.int .i64 0))])),.none⟩,⟨.none,.st (.t 1) (.t 3) 7,.none⟩]) (.seq (.reg .false [⟨.some 4,.ld (.t 1) (.some 7),.none⟩,⟨.some 5,.ld (.t 1) (.some 7),.none⟩,⟨.some 6,.bsl 7 [(.int .i64 0), (.int .i64 0), (.int .i64 0), (.int .i64 0), (.int .i64 0), (.int .i64 0), (.int .i64 0)] 2 [(0, (.t 4)), (1, (.t 5))],.none⟩,⟨.some 7,.build [(.d (.int .i64 0)), (.d (.list .true 1 [])), (.d (.list .true 7 []))] [(0, (1, (.k (.c (.d (.int .i64 2)))))), (2, (1, (.t 6)))],.none⟩,⟨.none,.st (.t 0) (.t 7) 3,.none⟩]) .ret))))
abbrev n_law48_parallel : Nat := 25
theorem fn_law48_parallel : Try.prog.funcs[n_law48_parallel]? = some Try.f25 := Try.func25
theorem c_law48_parallel : compF Try.prog Try.f25 = some af_law48_parallel := by kernel_rfl
def af_ref48_Few : AF := (AF.mk 23 [(4, .none)] (.seq (.reg .false [⟨.some 4,.mv (.k (.c (.d (.bool .false)))),.none⟩]) (.seq (.seq (.reg .false [⟨.some 5,.mv (.k (.c (.d (.int .i64 0)))),.none⟩]) (.block 0 (.loop (.seq (.seq (.reg .false [⟨.some 6,.mv (.t 5),.none⟩,⟨.some 7,.mv (.t 0),.none⟩,⟨.some 8,.len (.t 7),.none⟩,⟨.some 9,.bin .lss (.t 6) (.t 8),.none⟩]) (.cond (.t 9) .skip (.exit 0))) (.seq (.block 1 (.seq (.reg .false [⟨.some 12,.mv (.t 0),.none⟩,⟨.some 13,.mv (.t 5),.none⟩,⟨.some 14,.ias 3 (.t 12) (.t 13),.none⟩,⟨.some 15,.fa (.t 14) 1,.none⟩,⟨.some 16,.ld (.t 15) .none,.none⟩,⟨.some 17,.len (.t 16),.none⟩,⟨.some 18,.bin .gtr (.t 17) (.k (.c (.d (.int .i64 70)))),.none⟩]) (.cond (.t 18) (.seq (.reg .false [⟨.some 4,.mv (.k (.c (.d (.bool .false)))),.none⟩]) .ret) .skip))) (.reg .false [⟨.some 10,.mv (.t 5),.none⟩,⟨.some 11,.bin .add (.t 10) (.k (.c (.d (.int .i64 1)))),.none⟩,⟨.some 5,.mv (.t 11),.none⟩])))))) (.seq (.reg .false [⟨.some 19,.mv (.t 0),.none⟩,⟨.some 20,.len (.t 19),.none⟩,⟨.some 21,.mv (.t 1),.none⟩,⟨.some 22,.bin .leq (.t 20) (.t 21),.none⟩,⟨.some 4,.mv (.t 22),.none⟩]) .ret))))
abbrev n_ref48_Few : Nat := 26
theorem fn_ref48_Few : Try.prog.funcs[n_ref48_Few]? = some Try.f26 := Try.func26
theorem c_ref48_Few : compF Try.prog Try.f26 = some af_ref48_Few := by kernel_rfl
def af_update_prepare : AF := (AF.mk 57 [(6, .none), (7, .none)] (.seq (.reg .false [⟨.some 3,.box (.t 0),.none⟩,⟨.some 6,.mv (.k (.c (.d .nilp))),.none⟩,⟨.some 7,.mv (.k (.c (.d (.int .i64 0)))),.none⟩]) (.seq (.seq (.reg .false [⟨.some 11,.ld (.t 3) (.some 3),.none⟩,⟨.some 12,.mv (.t 1),.none⟩,⟨.some 13,.call 21 [(.t 11), (.t 12)],.none⟩,⟨.some 14,.un .not (.t 13),.none⟩,⟨.some 15,.mv (.t 14),.none⟩,⟨.some 16,.ld (.t 3) (.some 3),.some (15, .false)⟩,⟨.some 17,.mv (.t 2),.some (15, .false)⟩,⟨.some 18,.call 21 [(.t 16), (.t 17)],.some (15, .false)⟩,⟨.some 19,.un .not (.t 18),.some (15, .false)⟩,⟨.some 20,.pick (.t 15) (.k (.c (.d (.bool .true)))) (.t 19),.none⟩]) (.cond (.t 20) (.seq (.reg .false [⟨.some 6,.mv (.k (.c (.d .nilp))),.none⟩,⟨.some 7,.mv (.k (.c (.d (.int .i64 1)))),.none⟩]) .ret) .skip)) (.seq (.rgf [[], [], [], [1, 2], [], [1, 2, 3, 4], [1, 2, 3, 4, 5], [0, 1, 2, 3, 4, 5, 6], [0, 1, 2, 3, 4, 5, 6, 7], [], [0, 1, 2, 3, 4, 5, 6, 7, 8, 9]] 0 [⟨.some 21,.ld (.t 3) (.some 3),.none⟩,⟨.some 22,.mv (.t 1),.none⟩,⟨.some 23,.mv (.t 2),.none⟩,⟨.some 24,.call 20 [(.t 22), (.t 23)],.none⟩,⟨.some 25,.ld (.t 3) (.some 3),.none⟩,⟨.some 26,.call 56 [(.t 25)],.none⟩,⟨.some 27,.mks 1 8 [(.int .i64 0)] (.t 26) (.t 26),.none⟩,⟨.some 28,.build [(.d (.int .i64 0)), (.d (.list .true 1 [])), (.d (.list .true 7 [])), (.d (.list .true 1 [])), (.d (.list .true 1 [])), (.d (.list .true 1 [])), (.d (.list .true 1 []))] [(0, (3, (.t 21))), (3, (1, (.t 24))), (4, (1, (.t 27)))],.none⟩,⟨.some 29,.box (.t 28),.none⟩,⟨.some 8,.box (.k (.c (.d .nilp))),.none⟩,⟨.none,.st (.t 8) (.t 29) 1,.none⟩]) (.seq (.reg .false [⟨.some 30,.mkf .false 57 [(.t 8), (.t 3)],.none⟩,⟨.some 9,.mv (.t 30),.none⟩]) (.seq (.rgc [⟨.some 31,.ld (.t 8) .none,.none⟩,⟨.some 32,.ld (.t 8) .none,.none⟩,⟨.some 33,.mv (.t 9),.none⟩,⟨.some 35,.mv (.t 9),.none⟩] [⟨.some 34,.callv (.t 33) [],.none⟩,⟨.some 36,.callv (.t 35) [],.none⟩,⟨.some 37,.nilc (.t 31),.none⟩,⟨.some 38,.fa (.t 37) 5,.none⟩,⟨.none,.st (.t 38) (.t 34) 1,.none⟩,⟨.some 39,.nilc (.t 32),.none⟩,⟨.some 40,.fa (.t 39) 6,.none⟩,⟨.none,.st (.t 40) (.t 36) 1,.none⟩] [8, 8]) (.seq (.reg .false [⟨.some 41,.mkf .false 58 [(.t 8)],.none⟩,⟨.some 10,.mv (.t 41),.none⟩]) (.seq (.reg .false [⟨.some 42,.mv (.t 10),.none⟩,⟨.some 43,.mv (.t 1),.none⟩,⟨.some 44,.ld (.t 8) .none,.none⟩,⟨.some 45,.nilc (.t 44),.none⟩,⟨.some 46,.fa (.t 45) 5,.none⟩,⟨.some 47,.ld (.t 46) .none,.none⟩,⟨.some 48,.callv (.t 42) [(.t 43), (.t 47), (.k (.c (.d (.bool .true))))],.none⟩]) (.seq (.reg .false [⟨.some 49,.mv (.t 10),.none⟩,⟨.some 50,.mv (.t 2),.none⟩,⟨.some 51,.ld (.t 8) .none,.none⟩,⟨.some 52,.nilc (.t 51),.none⟩,⟨.some 53,.fa (.t 52) 6,.none⟩,⟨.some 54,.ld (.t 53) .none,.none⟩,⟨.some 55,.callv (.t 49) [(.t 50), (.t 54), (.k (.c (.d (.bool .false))))],.none⟩]) (.seq (.reg .false [⟨.some 56,.ld (.t 8) .none,.none⟩,⟨.some 6,.mv (.t 56),.none⟩,⟨.some 7,.mv (.k (.c (.d (.int .i64 0)))),.none⟩]) .ret))))))))))
abbrev n_update_prepare : Nat := 30
theorem fn_update_prepare : Try.prog.funcs[n_update_prepare]? = some Try.f30 := Try.func30
theorem c_update_prepare : compF Try.prog Try.f30 = some af_update_prepare := by kernel_rfl
def af_update_job_fits : AF := (AF.mk 32 [(6, .none)] (.seq (.reg .false [⟨.some 6,.mv (.k (.c (.d (.bool .false)))),.none⟩]) (.seq (.seq (.reg .false [⟨.some 9,.mv (.t 0),.none⟩,⟨.some 10,.mv (.t 1),.none⟩,⟨.some 11,.mv (.t 2),.none⟩,⟨.some 12,.call 44 [(.t 9), (.t 10), (.t 11)],.none⟩,⟨.some 13,.len (.t 12),.none⟩,⟨.some 14,.mv (.k (.c (.d (.int .i64 0)))),.none⟩]) (.block 0 (.loop (.seq (.reg .false [⟨.some 15,.bin .lss (.t 14) (.t 13),.none⟩]) (.seq (.cond (.t 15) .skip (.exit 0)) (.seq (.block 1 (.seq (.reg .false [⟨.some 16,.mv (.t 14),.none⟩,⟨.some 17,.ias 1 (.t 12) (.t 14),.none⟩,⟨.some 18,.ld (.t 17) .none,.none⟩,⟨.some 7,.mv (.t 16),.none⟩,⟨.some 8,.mv (.t 18),.none⟩]) (.seq (.reg .false [⟨.some 19,.mv (.t 8),.none⟩,⟨.some 20,.mv (.t 0),.none⟩,⟨.some 21,.nilc (.t 20),.none⟩,⟨.some 22,.fa (.t 21) 0,.none⟩,⟨.some 23,.fa (.t 22) 2,.none⟩,⟨.some 24,.ld (.t 23) .none,.none⟩,⟨.some 25,.mv (.t 7),.none⟩,⟨.some 26,.bin .quo (.t 25) (.k (.c (.d (.int .i64 2)))),.none⟩,⟨.some 27,.ias 7 (.t 24) (.t 26),.none⟩,⟨.some 28,.fa (.t 27) 4,.none⟩,⟨.some 29,.ld (.t 28) .none,.none⟩,⟨.some 30,.bin .gtr (.t 19) (.t 29),.none⟩]) (.cond (.t 30) (.seq (.reg .false [⟨.some 6,.mv (.k (.c (.d (.bool .false)))),.none⟩]) .ret) .skip)))) (.reg .false [⟨.some 31,.bin .add (.t 14) (.k (.c (.d (.int .i64 1)))),.none⟩,⟨.some 14,.mv (.t 31),.none⟩]))))))) (.seq (.reg .false [⟨.some 6,.mv (.k (.c (.d (.bool .true)))),.none⟩]) .ret))))
abbrev n_update_job_fits : Nat := 31
theorem fn_update_job_fits : Try.prog.funcs[n_update_job_fits]? = some Try.f31 := Try.func31
theorem c_update_job_fits : compF Try.prog Try.f31 = some af_update_job_fits := by kernel_rfl
def af_update_Order_1 : AF := (AF.mk 21 [(4, .none)] (.seq (.reg .false [⟨.some 4,.mv (.k (.c (.d (.bool .false)))),.none⟩]) (.seq (.seq (.reg .false [⟨.some 7,.mv (.t 0),.none⟩,⟨.some 8,.len (.t 7),.none⟩,⟨.some 9,.mv (.k (.c (.d (.int .i64 0)))),.none⟩]) (.block 0 (.loop (.seq (.reg .false [⟨.some 10,.bin .lss (.t 9) (.t 8),.none⟩]) (.seq (.cond (.t 10) .skip (.exit 0)) (.seq (.block 1 (.seq (.reg .false [⟨.some 11,.mv (.t 9),.none⟩,⟨.some 12,.ias 1 (.t 7) (.t 9),.none⟩,⟨.some 13,.ld (.t 12) .none,.none⟩,⟨.some 5,.mv (.t 11),.none⟩,⟨.some 6,.mv (.t 13),.none⟩]) (.seq (.reg .false [⟨.some 14,.mv (.t 6),.none⟩,⟨.some 15,.mv (.t 1),.none⟩,⟨.some 16,.mv (.t 5),.none⟩,⟨.some 17,.ias 1 (.t 15) (.t 16),.none⟩,⟨.some 18,.ld (.t 17) .none,.none⟩,⟨.some 19,.bin .gtr (.t 14) (.t 18),.none⟩]) (.cond (.t 19) (.seq (.reg .false [⟨.some 4,.mv (.k (.c (.d (.bool .false)))),.none⟩]) .ret) .skip)))) (.reg .false [⟨.some 20,.bin .add (.t 9) (.k (.c (.d (.int .i64 1)))),.none⟩,⟨.some 9,.mv (.t 20),.none⟩]))))))) (.seq (.reg .false [⟨.some 4,.mv (.k (.c (.d (.bool .true)))),.none⟩]) .ret))))
abbrev n_update_Order_1 : Nat := 32
theorem fn_update_Order_1 : Try.prog.funcs[n_update_Order_1]? = some Try.f32 := Try.func32
theorem c_update_Order_1 : compF Try.prog Try.f32 = some af_update_Order_1 := by kernel_rfl
def af_sequence_First : AF := (AF.mk 81 [(2, .none), (3, .none)] (.seq (.reg .false [⟨.some 1,.box (.t 0),.none⟩,⟨.some 2,.mv (.k (.c (.d (.list .true 1 [])))),.none⟩,⟨.some 3,.mv (.k (.c (.d (.bool .false)))),.none⟩]) (.seq (.reg .false [⟨.some 10,.ld (.t 1) (.some 4),.none⟩,⟨.some 11,.mo .mkm [],.none⟩,⟨.some 12,.build [(.d (.int .i64 0)), (.d .nilf), (.d .nilf), (.d .nilf), (.d (.int .u32 0)), (.d (.int .u32 0)), (.d .nilm)] [(0, (4, (.t 10))), (6, (1, (.t 11)))],.none⟩,⟨.some 4,.box (.k (.agg [(.d (.int .i64 0)), (.d .nilf), (.d .nilf), (.d .nilf), (.d (.int .u32 0)), (.d (.int .u32 0)), (.d .nilm)])),.none⟩,⟨.none,.st (.t 4) (.t 12) 7,.none⟩]) (.seq (.seq (.reg .false [⟨.some 13,.fa (.t 1) 0,.none⟩,⟨.some 14,.ld (.t 13) .none,.none⟩,⟨.some 15,.mv (.k (.c (.d (.int .i64 0)))),.none⟩]) (.block 0 (.loop (.seq (.reg .false [⟨.some 16,.bin .lss (.t 15) (.t 14),.none⟩]) (.seq (.cond (.t 16) .skip (.exit 0)) (.seq (.block 1 (.seq (.reg .false [⟨.some 17,.mv (.t 15),.none⟩,⟨.some 5,.mv (.t 17),.none⟩]) (.block 2 (.seq (.reg .false [⟨.some 19,.fa (.t 1) 2,.none⟩,⟨.some 20,.ld (.t 19) .none,.none⟩,⟨.some 21,.mv (.t 5),.none⟩,⟨.some 22,.callv (.t 20) [(.t 21)],.none⟩,⟨.some 18,.mv (.t 22),.none⟩]) (.cond (.t 18) (.reg .true [⟨.some 23,.fa (.t 4) 4,.none⟩,⟨.some 24,.ld (.t 23) .none,.none⟩,⟨.some 25,.mv (.t 5),.none⟩,⟨.some 26,.bin .shl (.k (.c (.d (.int .u32 1)))) (.t 25),.none⟩,⟨.some 27,.bin .or (.t 24) (.t 26),.none⟩,⟨.some 28,.fa (.t 4) 4,.none⟩,⟨.none,.st (.t 28) (.t 27) 1,.none⟩]) (.seq (.reg .false [⟨.some 30,.fa (.t 1) 3,.none⟩,⟨.some 31,.ld (.t 30) .none,.none⟩,⟨.some 32,.mv (.t 5),.none⟩,⟨.some 33,.callv (.t 31) [(.t 32)],.none⟩,⟨.some 34,.un .not (.t 33),.none⟩,⟨.some 29,.mv (.t 34),.none⟩]) (.cond (.t 29) (.reg .true [⟨.some 35,.fa (.t 4) 5,.none⟩,⟨.some 36,.ld (.t 35) .none,.none⟩,⟨.some 37,.mv (.t 5),.none⟩,⟨.some 38,.bin .shl (.k (.c (.d (.int .u32 1)))) (.t 37),.none⟩,⟨.some 39,.bin .or (.t 36) (.t 38),.none⟩,⟨.some 40,.fa (.t 4) 5,.none⟩,⟨.none,.st (.t 40) (.t 39) 1,.none⟩]) .skip))))))) (.reg .false [⟨.some 41,.bin .add (.t 15) (.k (.c (.d (.int .i64 1)))),.none⟩,⟨.some 15,.mv (.t 41),.none⟩]))))))) (.seq (.reg .false [⟨.some 6,.mv (.k (.c (.d (.list .true 1 [])))),.none⟩]) (.seq (.reg .false [⟨.some 7,.mv (.k (.c (.d (.int .u32 0)))),.none⟩]) (.seq .skip (.seq (.block 3 (.loop (.seq (.seq (.reg .false [⟨.some 42,.mv (.t 6),.none⟩,⟨.some 43,.len (.t 42),.none⟩,⟨.some 44,.fa (.t 1) 0,.none⟩,⟨.some 45,.ld (.t 44) .none,.none⟩,⟨.some 46,.bin .lss (.t 43) (.t 45),.none⟩]) (.cond (.t 46) .skip (.exit 3))) (.block 4 (.seq (.seq (.reg .false [⟨.some 47,.fa (.t 1) 0,.none⟩,⟨.some 48,.ld (.t 47) .none,.none⟩,⟨.some 49,.mv (.k (.c (.d (.int .i64 0)))),.none⟩]) (.block 5 (.loop (.seq (.reg .false [⟨.some 50,.bin .lss (.t 49) (.t 48),.none⟩]) (.seq (.cond (.t 50) .skip (.exit 5)) (.seq (.block 6 (.seq (.reg .false [⟨.some 51,.mv (.t 49),.none⟩,⟨.some 8,.mv (.t 51),.none⟩]) (.seq (.reg .false [⟨.some 52,.mv (.t 8),.none⟩,⟨.some 53,.bin .shl (.k (.c (.d (.int .u32 1)))) (.t 52),.none⟩,⟨.some 9,.mv (.t 53),.none⟩]) (.seq (.reg .false [⟨.some 54,.mv (.t 7),.none⟩,⟨.some 55,.mv (.t 9),.none⟩,⟨.some 56,.bin .and (.t 54) (.t 55),.none⟩,⟨.some 57,.bin .eql (.t 56) (.k (.c (.d (.int .u32 0)))),.none⟩,⟨.some 58,.mv (.t 57),.none⟩,⟨.some 59,.fa (.t 1) 1,.some (58, .true)⟩,⟨.some 60,.ld (.t 59) .none,.some (58, .true)⟩,⟨.some 61,.mv (.t 7),.some (58, .true)⟩,⟨.some 62,.mv (.t 8),.some (58, .true)⟩,⟨.some 63,.callv (.t 60) [(.t 61), (.t 62)],.some (58, .true)⟩,⟨.some 64,.pick (.t 58) (.t 63) (.k (.c (.d (.bool .false)))),.none⟩,⟨.some 65,.mv (.t 64),.none⟩,⟨.some 66,.ld (.t 4) (.some 7),.some (65, .true)⟩,⟨.some 67,.mv (.t 7),.some (65, .true)⟩,⟨.some 68,.mv (.t 9),.some (65, .true)⟩,⟨.some 69,.bin .or (.t 67) (.t 68),.some (65, .true)⟩,⟨.some 70,.call 59 [(.t 66), (.t 69)],.some (65, .true)⟩,⟨.some 71,.pick (.t 65) (.t 70) (.k (.c (.d (.bool .false)))),.none⟩]) (.cond (.t 71) (.seq (.reg .false [⟨.some 72,.mv (.t 6),.none⟩,⟨.some 73,.mv (.t 8),.none⟩,⟨.some 74,.bsl 1 [(.int .i64 0)] 1 [(0, (.t 73))],.none⟩,⟨.some 75,.app 1 8 [(.int .i64 0)] (.t 72) (.t 74),.none⟩,⟨.some 6,.mv (.t 75),.none⟩]) (.seq (.reg .false [⟨.some 76,.mv (.t 7),.none⟩,⟨.some 77,.mv (.t 9),.none⟩,⟨.some 78,.bin .or (.t 76) (.t 77),.none⟩,⟨.some 7,.mv (.t 78),.none⟩]) (.exit 4))) .skip))))) (.reg .false [⟨.some 79,.bin .add (.t 49) (.k (.c (.d (.int .i64 1)))),.none⟩,⟨.some 49,.mv (.t 79),.none⟩]))))))) (.seq (.reg .false [⟨.some 2,.mv (.k (.c (.d (.list .true 1 [])))),.none⟩,⟨.some 3,.mv (.k (.c (.d (.bool .false)))),.none⟩]) .ret)))))) (.seq (.reg .false [⟨.some 80,.mv (.t 6),.none⟩,⟨.some 2,.mv (.t 80),.none⟩,⟨.some 3,.mv (.k (.c (.d (.bool .true)))),.none⟩]) .ret)))))))))
abbrev n_sequence_First : Nat := 33
theorem fn_sequence_First : Try.prog.funcs[n_sequence_First]? = some Try.f33 := Try.func33
theorem c_sequence_First : compF Try.prog Try.f33 = some af_sequence_First := by kernel_rfl
def af_update_Order_2 : AF := (AF.mk 21 [(4, .none)] (.seq (.reg .false [⟨.some 4,.mv (.k (.c (.d (.bool .false)))),.none⟩]) (.seq (.seq (.reg .true [⟨.some 5,.ld (.t 1) .none,.none⟩,⟨.some 6,.ld (.t 2) .none,.none⟩,⟨.some 7,.nilc (.t 6),.none⟩,⟨.some 8,.fa (.t 7) 6,.none⟩,⟨.some 9,.ld (.t 8) .none,.none⟩,⟨.some 10,.mv (.t 0),.none⟩,⟨.some 11,.ias 1 (.t 9) (.t 10),.none⟩,⟨.some 12,.ld (.t 11) .none,.none⟩,⟨.some 13,.ld (.t 2) .none,.none⟩,⟨.some 14,.nilc (.t 13),.none⟩,⟨.some 15,.fa (.t 14) 5,.none⟩,⟨.some 16,.ld (.t 15) .none,.none⟩,⟨.some 17,.mv (.t 0),.none⟩,⟨.some 18,.ias 1 (.t 16) (.t 17),.none⟩,⟨.some 19,.ld (.t 18) .none,.none⟩]) (.seq (.reg .false [⟨.some 20,.callv (.t 5) [(.t 12), (.t 19)],.none⟩]) (.reg .true [⟨.some 4,.mv (.t 20),.none⟩]))) .ret)))
abbrev n_update_Order_2 : Nat := 34
theorem fn_update_Order_2 : Try.prog.funcs[n_update_Order_2]? = some Try.f34 := Try.func34
theorem c_update_Order_2 : compF Try.prog Try.f34 = some af_update_Order_2 := by kernel_rfl
def af_update_Order_3 : AF := (AF.mk 21 [(4, .none)] (.seq (.reg .false [⟨.some 4,.mv (.k (.c (.d (.bool .false)))),.none⟩]) (.seq (.seq (.reg .true [⟨.some 5,.ld (.t 1) .none,.none⟩,⟨.some 6,.ld (.t 2) .none,.none⟩,⟨.some 7,.nilc (.t 6),.none⟩,⟨.some 8,.fa (.t 7) 5,.none⟩,⟨.some 9,.ld (.t 8) .none,.none⟩,⟨.some 10,.mv (.t 0),.none⟩,⟨.some 11,.ias 1 (.t 9) (.t 10),.none⟩,⟨.some 12,.ld (.t 11) .none,.none⟩,⟨.some 13,.ld (.t 2) .none,.none⟩,⟨.some 14,.nilc (.t 13),.none⟩,⟨.some 15,.fa (.t 14) 6,.none⟩,⟨.some 16,.ld (.t 15) .none,.none⟩,⟨.some 17,.mv (.t 0),.none⟩,⟨.some 18,.ias 1 (.t 16) (.t 17),.none⟩,⟨.some 19,.ld (.t 18) .none,.none⟩]) (.seq (.reg .false [⟨.some 20,.callv (.t 5) [(.t 12), (.t 19)],.none⟩]) (.reg .true [⟨.some 4,.mv (.t 20),.none⟩]))) .ret)))
abbrev n_update_Order_3 : Nat := 35
theorem fn_update_Order_3 : Try.prog.funcs[n_update_Order_3]? = some Try.f35 := Try.func35
theorem c_update_Order_3 : compF Try.prog Try.f35 = some af_update_Order_3 := by kernel_rfl
def af_update_job_set : AF := (AF.mk 41 [(4, .none), (5, .none)] (.seq (.reg .false [⟨.some 4,.mv (.k (.c (.d (.int .u32 0)))),.none⟩,⟨.some 5,.mv (.k (.c (.d (.bool .false)))),.none⟩]) (.seq (.reg .false [⟨.some 6,.mv (.k (.c (.d (.int .u32 0)))),.none⟩]) (.seq (.seq (.reg .false [⟨.some 11,.mv (.t 1),.none⟩,⟨.some 12,.len (.t 11),.none⟩,⟨.some 13,.mv (.k (.c (.d (.int .i64 0)))),.none⟩]) (.block 0 (.loop (.seq (.reg .false [⟨.some 14,.bin .lss (.t 13) (.t 12),.none⟩]) (.seq (.cond (.t 14) .skip (.exit 0)) (.seq (.block 1 (.seq (.reg .false [⟨.some 15,.ias 1 (.t 11) (.t 13),.none⟩,⟨.some 16,.ld (.t 15) .none,.none⟩,⟨.some 8,.mv (.t 16),.none⟩]) (.seq (.reg .false [⟨.some 18,.mv (.t 0),.none⟩,⟨.some 19,.nilc (.t 18),.none⟩,⟨.some 20,.fa (.t 19) 3,.none⟩,⟨.some 21,.ld (.t 20) .none,.none⟩,⟨.some 22,.mv (.t 8),.none⟩,⟨.some 23,.call 43 [(.t 21), (.t 22)],.none⟩,⟨.some 17,.mv (.t 23),.none⟩,⟨.some 24,.ext (.t 17) 0,.none⟩,⟨.some 25,.ext (.t 17) 1,.none⟩,⟨.some 9,.mv (.t 24),.none⟩,⟨.some 10,.mv (.t 25),.none⟩]) (.seq (.seq (.reg .false [⟨.some 26,.mv (.t 10),.none⟩,⟨.some 27,.un .not (.t 26),.none⟩,⟨.some 28,.mv (.t 27),.none⟩,⟨.some 29,.mv (.t 6),.some (28, .false)⟩,⟨.some 30,.mv (.t 9),.some (28, .false)⟩,⟨.some 31,.bin .shr (.t 29) (.t 30),.some (28, .false)⟩,⟨.some 32,.bin .and (.t 31) (.k (.c (.d (.int .u32 1)))),.some (28, .false)⟩,⟨.some 33,.bin .eql (.t 32) (.k (.c (.d (.int .u32 1)))),.some (28, .false)⟩,⟨.some 34,.pick (.t 28) (.k (.c (.d (.bool .true)))) (.t 33),.none⟩]) (.cond (.t 34) (.seq (.reg .false [⟨.some 4,.mv (.k (.c (.d (.int .u32 0)))),.none⟩,⟨.some 5,.mv (.k (.c (.d (.bool .false)))),.none⟩]) .ret) .skip)) (.reg .false [⟨.some 35,.mv (.t 6),.none⟩,⟨.some 36,.mv (.t 9),.none⟩,⟨.some 37,.bin .shl (.k (.c (.d (.int .u32 1)))) (.t 36),.none⟩,⟨.some 38,.bin .or (.t 35) (.t 37),.none⟩,⟨.some 6,.mv (.t 38),.none⟩]))))) (.reg .false [⟨.some 39,.bin .add (.t 13) (.k (.c (.d (.int .i64 1)))),.none⟩,⟨.some 13,.mv (.t 39),.none⟩]))))))) (.seq (.reg .false [⟨.some 40,.mv (.t 6),.none⟩,⟨.some 4,.mv (.t 40),.none⟩,⟨.some 5,.mv (.k (.c (.d (.bool .true)))),.none⟩]) .ret)))))
abbrev n_update_job_set : Nat := 42
theorem fn_update_job_set : Try.prog.funcs[n_update_job_set]? = some Try.f42 := Try.func42
theorem c_update_job_set : compF Try.prog Try.f42 = some af_update_job_set := by kernel_rfl
def af_slices_BinarySearch_int_int : AF := (AF.mk 54 [(4, .none), (5, .none)] (.seq (.reg .false [⟨.some 4,.mv (.k (.c (.d (.int .i64 0)))),.none⟩,⟨.some 5,.mv (.k (.c (.d (.bool .false)))),.none⟩]) (.seq (.reg .false [⟨.some 10,.mv (.t 0),.none⟩,⟨.some 11,.len (.t 10),.none⟩,⟨.some 6,.mv (.t 11),.none⟩]) (.seq (.reg .false [⟨.some 12,.mv (.t 6),.none⟩,⟨.some 7,.mv (.k (.c (.d (.int .i64 0)))),.none⟩,⟨.some 8,.mv (.t 12),.none⟩]) (.seq (.block 0 (.loop (.seq (.seq (.reg .false [⟨.some 13,.mv (.t 7),.none⟩,⟨.some 14,.mv (.t 8),.none⟩,⟨.some 15,.bin .lss (.t 13) (.t 14),.none⟩]) (.cond (.t 15) .skip (.exit 0))) (.block 1 (.seq (.reg .false [⟨.some 16,.mv (.t 7),.none⟩,⟨.some 17,.mv (.t 8),.none⟩,⟨.some 18,.bin .add (.t 16) (.t 17),.none⟩,⟨.some 19,.cvi .u64 (.t 18),.none⟩,⟨.some 20,.bin .shr (.t 19) (.k (.c (.d (.int .u64 1)))),.none⟩,⟨.some 21,.cvi .i64 (.t 20),.none⟩,⟨.some 9,.mv (.t 21),.none⟩]) (.seq (.reg .false [⟨.some 22,.mv (.t 0),.none⟩,⟨.some 23,.mv (.t 9),.none⟩,⟨.some 24,.ias 1 (.t 22) (.t 23),.none⟩,⟨.some 25,.ld (.t 24) .none,.none⟩,⟨.some 26,.mv (.t 1),.none⟩,⟨.some 27,.call 62 [(.t 25), (.t 26)],.none⟩]) (.cond (.t 27) (.reg .false [⟨.some 28,.mv (.t 9),.none⟩,⟨.some 29,.bin .add (.t 28) (.k (.c (.d (.int .i64 1)))),.none⟩,⟨.some 7,.mv (.t 29),.none⟩]) (.reg .false [⟨.some 30,.mv (.t 9),.none⟩,⟨.some 8,.mv (.t 30),.none⟩])))))))) (.seq (.reg .false [⟨.some 31,.mv (.t 7),.none⟩,⟨.some 32,.mv (.t 7),.none⟩,⟨.some 33,.mv (.t 6),.none⟩,⟨.some 34,.bin .lss (.t 32) (.t 33),.none⟩,⟨.some 35,.mv (.t 34),.none⟩,⟨.some 36,.mv (.t 0),.some (35, .true)⟩,⟨.some 37,.mv (.t 7),.some (35, .true)⟩,⟨.some 38,.ias 1 (.t 36) (.t 37),.some (35, .true)⟩,⟨.some 39,.ld (.t 38) .none,.some (35, .true)⟩,⟨.some 40,.mv (.t 1),.some (35, .true)⟩,⟨.some 41,.bin .eql (.t 39) (.t 40),.some (35, .true)⟩,⟨.some 42,.mv (.t 41),.some (35, .true)⟩,⟨.some 43,.mv (.t 0),.some (42, .false)⟩,⟨.some 44,.mv (.t 7),.some (42, .false)⟩,⟨.some 45,.ias 1 (.t 43) (.t 44),.some (42, .false)⟩,⟨.some 46,.ld (.t 45) .none,.some (42, .false)⟩,⟨.some 47,.call 63 [(.t 46)],.some (42, .false)⟩,⟨.some 48,.mv (.t 47),.some (42, .false)⟩,⟨.some 49,.mv (.t 1),.some (48, .true)⟩,⟨.some 50,.call 63 [(.t 49)],.some (48, .true)⟩,⟨.some 51,.pick (.t 48) (.t 50) (.k (.c (.d (.bool .false)))),.some (42, .false)⟩,⟨.some 52,.pick (.t 42) (.k (.c (.d (.bool .true)))) (.t 51),.some (35, .true)⟩,⟨.some 53,.pick (.t 35) (.t 52) (.k (.c (.d (.bool .false)))),.none⟩,⟨.some 4,.mv (.t 31),.none⟩,⟨.some 5,.mv (.t 53),.none⟩]) .ret))))))
abbrev n_slices_BinarySearch_int_int : Nat := 43
theorem fn_slices_BinarySearch_int_int : Try.prog.funcs[n_slices_BinarySearch_int_int]? = some Try.f43 := Try.func43
theorem c_slices_BinarySearch_int_int : compF Try.prog Try.f43 = some af_slices_BinarySearch_int_int := by kernel_rfl
def af_update_job_loads : AF := (AF.mk 100 [(6, .none)] (.seq (.reg .false [⟨.some 6,.mv (.k (.c (.d (.list .true 1 [])))),.none⟩]) (.seq (.reg .false [⟨.some 10,.mv (.t 0),.none⟩,⟨.some 11,.nilc (.t 10),.none⟩,⟨.some 12,.fa (.t 11) 4,.none⟩,⟨.some 13,.ld (.t 12) .none,.none⟩,⟨.some 14,.call 64 [(.t 13)],.none⟩,⟨.some 7,.mv (.t 14),.none⟩]) (.seq (.seq (.reg .false [⟨.some 15,.mv (.t 0),.none⟩,⟨.some 16,.nilc (.t 15),.none⟩,⟨.some 17,.fa (.t 16) 3,.none⟩,⟨.some 18,.ld (.t 17) .none,.none⟩,⟨.some 19,.len (.t 18),.none⟩,⟨.some 20,.mv (.k (.c (.d (.int .i64 0)))),.none⟩]) (.block 0 (.loop (.seq (.reg .false [⟨.some 21,.bin .lss (.t 20) (.t 19),.none⟩]) (.seq (.cond (.t 21) .skip (.exit 0)) (.seq (.block 1 (.seq (.reg .false [⟨.some 22,.mv (.t 20),.none⟩,⟨.some 8,.mv (.t 22),.none⟩]) (.seq (.reg .false [⟨.some 23,.mv (.t 7),.none⟩,⟨.some 24,.len (.t 23),.none⟩,⟨.some 25,.mv (.k (.c (.d (.int .i64 0)))),.none⟩]) (.block 2 (.loop (.seq (.reg .false [⟨.some 26,.bin .lss (.t 25) (.t 24),.none⟩]) (.seq (.cond (.t 26) .skip (.exit 2)) (.seq (.block 3 (.seq (.reg .false [⟨.some 27,.mv (.t 25),.none⟩,⟨.some 9,.mv (.t 27),.none⟩]) (.block 4 (.seq (.reg .false [⟨.some 45,.mv (.t 8),.none⟩,⟨.some 46,.mv (.t 2),.none⟩,⟨.some 47,.bin .eql (.t 45) (.t 46),.none⟩,⟨.some 44,.mv (.t 47),.none⟩]) (.cond (.t 44) (.reg .true [⟨.some 48,.mv (.t 7),.none⟩,⟨.some 49,.mv (.t 9),.none⟩,⟨.some 50,.ias 1 (.t 48) (.t 49),.none⟩,⟨.some 51,.ld (.t 50) .none,.none⟩,⟨.some 52,.mv (.t 0),.none⟩,⟨.some 53,.nilc (.t 52),.none⟩,⟨.some 54,.fa (.t 53) 5,.none⟩,⟨.some 55,.ld (.t 54) .none,.none⟩,⟨.some 56,.mv (.t 8),.none⟩,⟨.some 57,.ias 1 (.t 55) (.t 56),.none⟩,⟨.some 58,.ld (.t 57) .none,.none⟩,⟨.some 59,.mv (.t 9),.none⟩,⟨.some 60,.ias 1 (.t 58) (.t 59),.none⟩,⟨.some 61,.ld (.t 60) .none,.none⟩,⟨.some 62,.mv (.t 0),.none⟩,⟨.some 63,.nilc (.t 62),.none⟩,⟨.some 64,.fa (.t 63) 6,.none⟩,⟨.some 65,.ld (.t 64) .none,.none⟩,⟨.some 66,.mv (.t 8),.none⟩,⟨.some 67,.ias 1 (.t 65) (.t 66),.none⟩,⟨.some 68,.ld (.t 67) .none,.none⟩,⟨.some 69,.mv (.t 9),.none⟩,⟨.some 70,.ias 1 (.t 68) (.t 69),.none⟩,⟨.some 71,.ld (.t 70) .none,.none⟩,⟨.some 72,.mo (.mm .true) [(.t 61), (.t 71)],.none⟩,⟨.some 73,.bin .add (.t 51) (.t 72),.none⟩,⟨.some 74,.ias 1 (.t 48) (.t 49),.none⟩,⟨.none,.st (.t 74) (.t 73) 1,.none⟩]) (.seq (.reg .false [⟨.some 76,.mv (.t 1),.none⟩,⟨.some 77,.mv (.t 8),.none⟩,⟨.some 78,.bin .shr (.t 76) (.t 77),.none⟩,⟨.some 79,.bin .and (.t 78) (.k (.c (.d (.int .u32 1)))),.none⟩,⟨.some 80,.bin .eql (.t 79) (.k (.c (.d (.int .u32 1)))),.none⟩,⟨.some 75,.mv (.t 80),.none⟩]) (.cond (.t 75) (.reg .true [⟨.some 81,.mv (.t 7),.none⟩,⟨.some 82,.mv (.t 9),.none⟩,⟨.some 83,.ias 1 (.t 81) (.t 82),.none⟩,⟨.some 84,.ld (.t 83) .none,.none⟩,⟨.some 85,.mv (.t 0),.none⟩,⟨.some 86,.nilc (.t 85),.none⟩,⟨.some 87,.fa (.t 86) 6,.none⟩,⟨.some 88,.ld (.t 87) .none,.none⟩,⟨.some 89,.mv (.t 8),.none⟩,⟨.some 90,.ias 1 (.t 88) (.t 89),.none⟩,⟨.some 91,.ld (.t 90) .none,.none⟩,⟨.some 92,.mv (.t 9),.none⟩,⟨.some 93,.ias 1 (.t 91) (.t 92),.none⟩,⟨.some 94,.ld (.t 93) .none,.none⟩,⟨.some 95,.bin .add (.t 84) (.t 94),.none⟩,⟨.some 96,.ias 1 (.t 81) (.t 82),.none⟩,⟨.none,.st (.t 96) (.t 95) 1,.none⟩]) (.reg .true [⟨.some 28,.mv (.t 7),.none⟩,⟨.some 29,.mv (.t 9),.none⟩,⟨.some 30,.ias 1 (.t 28) (.t 29),.none⟩,⟨.some 31,.ld (.t 30) .none,.none⟩,⟨.some 32,.mv (.t 0),.none⟩,⟨.some 33,.nilc (.t 32),.none⟩,⟨.some 34,.fa (.t 33) 5,.none⟩,⟨.some 35,.ld (.t 34) .none,.none⟩,⟨.some 36,.mv (.t 8),.none⟩,⟨.some 37,.ias 1 (.t 35) (.t 36),.none⟩,⟨.some 38,.ld (.t 37) .none,.none⟩,⟨.some 39,.mv (.t 9),.none⟩,⟨.some 40,.ias 1 (.t 38) (.t 39),.none⟩,⟨.some 41,.ld (.t 40) .none,.none⟩,⟨.some 42,.bin .add (.t 31) (.t 41),.none⟩,⟨.some 43,.ias 1 (.t 28) (.t 29),.none⟩,⟨.none,.st (.t 43) (.t 42) 1,.none⟩])))))))) (.reg .false [⟨.some 97,.bin .add (.t 25) (.k (.c (.d (.int .i64 1)))),.none⟩,⟨.some 25,.mv (.t 97),.none⟩]))))))))) (.reg .false [⟨.some 98,.bin .add (.t 20) (.k (.c (.d (.int .i64 1)))),.none⟩,⟨.some 20,.mv (.t 98),.none⟩]))))))) (.seq (.reg .false [⟨.some 99,.mv (.t 7),.none⟩,⟨.some 6,.mv (.t 99),.none⟩]) .ret)))))
abbrev n_update_job_loads : Nat := 44
theorem fn_update_job_loads : Try.prog.funcs[n_update_job_loads]? = some Try.f44 := Try.func44
theorem c_update_job_loads : compF Try.prog Try.f44 = some af_update_job_loads := by kernel_rfl
def af_update_distinct : AF := (AF.mk 24 [(2, .none)] (.seq (.reg .false [⟨.some 2,.mv (.k (.c (.d (.bool .false)))),.none⟩]) (.seq (.seq (.reg .false [⟨.some 6,.mv (.t 0),.none⟩,⟨.some 7,.len (.t 6),.none⟩,⟨.some 8,.bin .gtr (.t 7) (.k (.c (.d (.int .i64 12)))),.none⟩]) (.cond (.t 8) (.seq (.reg .false [⟨.some 2,.mv (.k (.c (.d (.bool .false)))),.none⟩]) .ret) .skip)) (.seq (.reg .false [⟨.some 9,.mo .mkm [],.none⟩,⟨.some 3,.mv (.t 9),.none⟩]) (.seq (.seq (.reg .false [⟨.some 10,.mv (.t 0),.none⟩,⟨.some 11,.len (.t 10),.none⟩,⟨.some 12,.mv (.k (.c (.d (.int .i64 0)))),.none⟩]) (.block 0 (.loop (.seq (.reg .false [⟨.some 13,.bin .lss (.t 12) (.t 11),.none⟩]) (.seq (.cond (.t 13) .skip (.exit 0)) (.seq (.block 1 (.seq (.reg .false [⟨.some 14,.ias 3 (.t 10) (.t 12),.none⟩,⟨.some 15,.ld (.t 14) (.some 3),.none⟩,⟨.some 5,.box (.k (.agg [(.d (.int .i64 0)), (.d (.list .true 1 [])), (.d (.int .i64 0))])),.none⟩,⟨.none,.st (.t 5) (.t 15) 3,.none⟩]) (.seq (.seq (.reg .false [⟨.some 16,.mv (.t 3),.none⟩,⟨.some 17,.fa (.t 5) 0,.none⟩,⟨.some 18,.ld (.t 17) .none,.none⟩,⟨.some 19,.mo (.lk .true 1 [(0, 0)] .false (.c (.d (.bool .false)))) [(.t 16), (.t 18)],.none⟩]) (.cond (.t 19) (.seq (.reg .false [⟨.some 2,.mv (.k (.c (.d (.bool .false)))),.none⟩]) .ret) .skip)) (.reg .false [⟨.some 20,.mv (.t 3),.none⟩,⟨.some 21,.fa (.t 5) 0,.none⟩,⟨.some 22,.ld (.t 21) .none,.none⟩,⟨.none,.mo (.up .true 1 [(0, 0)]) [(.t 20), (.t 22), (.k (.c (.d (.bool .true))))],.none⟩])))) (.reg .false [⟨.some 23,.bin .add (.t 12) (.k (.c (.d (.int .i64 1)))),.none⟩,⟨.some 12,.mv (.t 23),.none⟩]))))))) (.seq (.reg .false [⟨.some 2,.mv (.k (.c (.d (.bool .true)))),.none⟩]) .ret))))))
abbrev n_update_distinct : Nat := 45
theorem fn_update_distinct : Try.prog.funcs[n_update_distinct]? = some Try.f45 := Try.func45
theorem c_update_distinct : compF Try.prog Try.f45 = some af_update_distinct := by kernel_rfl
def af_update_Changed_1 : AF := (AF.mk 24 [(4, .none)] (.seq (.reg .false [⟨.some 2,.box (.t 0),.none⟩,⟨.some 3,.box (.t 1),.none⟩,⟨.some 4,.mv (.k (.c (.d (.bool .false)))),.none⟩]) (.seq (.reg .false [⟨.some 5,.fa (.t 2) 0,.none⟩,⟨.some 6,.ld (.t 5) .none,.none⟩,⟨.some 7,.fa (.t 3) 0,.none⟩,⟨.some 8,.ld (.t 7) .none,.none⟩,⟨.some 9,.bin .eql (.t 6) (.t 8),.none⟩,⟨.some 10,.mv (.t 9),.none⟩,⟨.some 11,.fa (.t 2) 2,.some (10, .true)⟩,⟨.some 12,.ld (.t 11) .none,.some (10, .true)⟩,⟨.some 13,.fa (.t 3) 2,.some (10, .true)⟩,⟨.some 14,.ld (.t 13) .none,.some (10, .true)⟩,⟨.some 15,.bin .eql (.t 12) (.t 14),.some (10, .true)⟩,⟨.some 16,.pick (.t 10) (.t 15) (.k (.c (.d (.bool .false)))),.none⟩,⟨.some 17,.mv (.t 16),.none⟩,⟨.some 18,.fa (.t 2) 1,.some (17, .true)⟩,⟨.some 19,.ld (.t 18) .none,.some (17, .true)⟩,⟨.some 20,.fa (.t 3) 1,.some (17, .true)⟩,⟨.some 21,.ld (.t 20) .none,.some (17, .true)⟩,⟨.some 22,.call 47 [(.t 19), (.t 21)],.some (17, .true)⟩,⟨.some 23,.pick (.t 17) (.t 22) (.k (.c (.d (.bool .false)))),.none⟩,⟨.some 4,.mv (.t 23),.none⟩]) .ret)))
abbrev n_update_Changed_1 : Nat := 46
theorem fn_update_Changed_1 : Try.prog.funcs[n_update_Changed_1]? = some Try.f46 := Try.func46
theorem c_update_Changed_1 : compF Try.prog Try.f46 = some af_update_Changed_1 := by kernel_rfl
def af_slices_Equal_int_int : AF := (AF.mk 26 [(4, .none)] (.seq (.reg .false [⟨.some 4,.mv (.k (.c (.d (.bool .false)))),.none⟩]) (.seq (.seq (.reg .false [⟨.some 6,.mv (.t 0),.none⟩,⟨.some 7,.len (.t 6),.none⟩,⟨.some 8,.mv (.t 1),.none⟩,⟨.some 9,.len (.t 8),.none⟩,⟨.some 10,.bin .neq (.t 7) (.t 9),.none⟩]) (.cond (.t 10) (.seq (.reg .false [⟨.some 4,.mv (.k (.c (.d (.bool .false)))),.none⟩]) .ret) .skip)) (.seq (.seq (.reg .false [⟨.some 11,.mv (.t 0),.none⟩,⟨.some 12,.len (.t 11),.none⟩,⟨.some 13,.mv (.k (.c (.d (.int .i64 0)))),.none⟩]) (.block 0 (.loop (.seq (.reg .false [⟨.some 14,.bin .lss (.t 13) (.t 12),.none⟩]) (.seq (.cond (.t 14) .skip (.exit 0)) (.seq (.block 1 (.seq (.reg .false [⟨.some 15,.mv (.t 13),.none⟩,⟨.some 5,.mv (.t 15),.none⟩]) (.seq (.reg .true [⟨.some 16,.mv (.t 0),.none⟩,⟨.some 17,.mv (.t 5),.none⟩,⟨.some 18,.ias 1 (.t 16) (.t 17),.none⟩,⟨.some 19,.ld (.t 18) .none,.none⟩,⟨.some 20,.mv (.t 1),.none⟩,⟨.some 21,.mv (.t 5),.none⟩,⟨.some 22,.ias 1 (.t 20) (.t 21),.none⟩,⟨.some 23,.ld (.t 22) .none,.none⟩,⟨.some 24,.bin .neq (.t 19) (.t 23),.none⟩]) (.cond (.t 24) (.seq (.reg .false [⟨.some 4,.mv (.k (.c (.d (.bool .false)))),.none⟩]) .ret) .skip)))) (.reg .false [⟨.some 25,.bin .add (.t 13) (.k (.c (.d (.int .i64 1)))),.none⟩,⟨.some 13,.mv (.t 25),.none⟩]))))))) (.seq (.reg .false [⟨.some 4,.mv (.k (.c (.d (.bool .true)))),.none⟩]) .ret)))))
abbrev n_slices_Equal_int_int : Nat := 47
theorem fn_slices_Equal_int_int : Try.prog.funcs[n_slices_Equal_int_int]? = some Try.f47 := Try.func47
theorem c_slices_Equal_int_int : compF Try.prog Try.f47 = some af_slices_Equal_int_int := by kernel_rfl
def af_update_Changed_2 : AF := (AF.mk 9 [(4, .none)] (.seq (.reg .false [⟨.some 3,.box (.t 0),.none⟩,⟨.some 4,.mv (.k (.c (.d (.bool .false)))),.none⟩]) (.seq (.reg .false [⟨.some 5,.ld (.t 1) .none,.none⟩,⟨.some 6,.ld (.t 2) (.some 3),.none⟩,⟨.some 7,.ld (.t 3) (.some 3),.none⟩,⟨.some 8,.callv (.t 5) [(.t 6), (.t 7)],.none⟩,⟨.some 4,.mv (.t 8),.none⟩]) .ret)))
abbrev n_update_Changed_2 : Nat := 48
theorem fn_update_Changed_2 : Try.prog.funcs[n_update_Changed_2]? = some Try.f48 := Try.func48
theorem c_update_Changed_2 : compF Try.prog Try.f48 = some af_update_Changed_2 := by kernel_rfl
def af_slices_ContainsFunc_update_Tunnel_update_Tunnel : AF := (AF.mk 9 [(4, .none)] (.seq (.reg .false [⟨.some 4,.mv (.k (.c (.d (.bool .false)))),.none⟩]) (.seq (.reg .false [⟨.some 5,.mv (.t 0),.none⟩,⟨.some 6,.mv (.t 1),.none⟩,⟨.some 7,.call 65 [(.t 5), (.t 6)],.none⟩,⟨.some 8,.bin .geq (.t 7) (.k (.c (.d (.int .i64 0)))),.none⟩,⟨.some 4,.mv (.t 8),.none⟩]) .ret)))
abbrev n_slices_ContainsFunc_update_Tunnel_update_Tunnel : Nat := 49
theorem fn_slices_ContainsFunc_update_Tunnel_update_Tunnel : Try.prog.funcs[n_slices_ContainsFunc_update_Tunnel_update_Tunnel]? = some Try.f49 := Try.func49
theorem c_slices_ContainsFunc_update_Tunnel_update_Tunnel : compF Try.prog Try.f49 = some af_slices_ContainsFunc_update_Tunnel_update_Tunnel := by kernel_rfl
abbrev n_slices_Sorted_int : Nat := 50
def af_maps_Keys_map_int_bool_int_bool : AF := (AF.mk 4 [(2, .none)] (.seq (.reg .false [⟨.some 1,.box (.t 0),.none⟩,⟨.some 2,.mv (.k (.c (.d .nilf))),.none⟩]) (.seq (.reg .false [⟨.some 3,.mkf .false 68 [(.t 1)],.none⟩,⟨.some 2,.mv (.t 3),.none⟩]) .ret)))
abbrev n_maps_Keys_map_int_bool_int_bool : Nat := 51
theorem fn_maps_Keys_map_int_bool_int_bool : Try.prog.funcs[n_maps_Keys_map_int_bool_int_bool]? = some Try.f51 := Try.func51
theorem c_maps_Keys_map_int_bool_int_bool : compF Try.prog Try.f51 = some af_maps_Keys_map_int_bool_int_bool := by kernel_rfl
def af_topology_Valid : AF := (AF.mk 103 [(2, .none)] (.seq (.reg .false [⟨.some 1,.box (.t 0),.none⟩,⟨.some 2,.mv (.k (.c (.d (.bool .false)))),.none⟩]) (.seq (.seq (.reg .false [⟨.some 5,.fa (.t 1) 0,.none⟩,⟨.some 6,.ld (.t 5) .none,.none⟩,⟨.some 7,.call 69 [(.t 6), (.k (.c (.d (.int .i64 1)))), (.k (.c (.d (.int .i64 64))))],.none⟩,⟨.some 8,.un .not (.t 7),.none⟩,⟨.some 9,.mv (.t 8),.none⟩,⟨.some 10,.fa (.t 1) 2,.some (9, .false)⟩,⟨.some 11,.ld (.t 10) .none,.some (9, .false)⟩,⟨.some 12,.len (.t 11),.some (9, .false)⟩,⟨.some 13,.bin .gtr (.t 12) (.k (.c (.d (.int .i64 256)))),.some (9, .false)⟩,⟨.some 14,.pick (.t 9) (.k (.c (.d (.bool .true)))) (.t 13),.none⟩]) (.cond (.t 14) (.seq (.reg .false [⟨.some 2,.mv (.k (.c (.d (.bool .false)))),.none⟩]) .ret) .skip)) (.seq (.seq (.reg .false [⟨.some 15,.fa (.t 1) 1,.none⟩,⟨.some 16,.ld (.t 15) .none,.none⟩,⟨.some 17,.len (.t 16),.none⟩,⟨.some 18,.bin .neq (.t 17) (.k (.c (.d (.int .i64 0)))),.none⟩,⟨.some 19,.mv (.t 18),.none⟩,⟨.some 20,.fa (.t 1) 1,.some (19, .true)⟩,⟨.some 21,.ld (.t 20) .none,.some (19, .true)⟩,⟨.some 22,.len (.t 21),.some (19, .true)⟩,⟨.some 23,.fa (.t 1) 0,.some (19, .true)⟩,⟨.some 24,.ld (.t 23) .none,.some (19, .true)⟩,⟨.some 25,.bin .neq (.t 22) (.t 24),.some (19, .true)⟩,⟨.some 26,.pick (.t 19) (.t 25) (.k (.c (.d (.bool .false)))),.none⟩]) (.cond (.t 26) (.seq (.reg .false [⟨.some 2,.mv (.k (.c (.d (.bool .false)))),.none⟩]) .ret) .skip)) (.seq (.seq (.reg .false [⟨.some 27,.fa (.t 1) 2,.none⟩,⟨.some 28,.ld (.t 27) .none,.none⟩,⟨.some 29,.len (.t 28),.none⟩,⟨.some 30,.mv (.k (.c (.d (.int .i64 0)))),.none⟩]) (.block 0 (.loop (.seq (.reg .false [⟨.some 31,.bin .lss (.t 30) (.t 29),.none⟩]) (.seq (.cond (.t 31) .skip (.exit 0)) (.seq (.block 1 (.seq (.reg .false [⟨.some 32,.mv (.t 30),.none⟩,⟨.some 3,.mv (.t 32),.none⟩]) (.seq (.reg .false [⟨.some 33,.fa (.t 1) 2,.none⟩,⟨.some 34,.ld (.t 33) .none,.none⟩,⟨.some 35,.mv (.t 3),.none⟩,⟨.some 36,.ias 7 (.t 34) (.t 35),.none⟩,⟨.some 4,.mv (.t 36),.none⟩]) (.seq (.seq (.seq (.reg .true [⟨.some 37,.mv (.t 4),.none⟩,⟨.some 38,.nilc (.t 37),.none⟩,⟨.some 39,.fa (.t 38) 0,.none⟩,⟨.some 40,.ld (.t 39) .none,.none⟩,⟨.some 41,.mv (.t 4),.none⟩,⟨.some 42,.nilc (.t 41),.none⟩,⟨.some 43,.fa (.t 42) 1,.none⟩,⟨.some 44,.ld (.t 43) .none,.none⟩,⟨.some 45,.bin .eql (.t 40) (.t 44),.none⟩,⟨.some 46,.mv (.t 45),.none⟩,⟨.some 47,.ld (.t 1) (.some 3),.some (46, .false)⟩,⟨.some 48,.mv (.t 4),.some (46, .false)⟩,⟨.some 49,.nilc (.t 48),.some (46, .false)⟩,⟨.some 50,.fa (.t 49) 0,.some (46, .false)⟩,⟨.some 51,.ld (.t 50) .none,.some (46, .false)⟩]) (.seq (.reg .false [⟨.some 52,.call 70 [(.t 47), (.t 51)],.some (46, .false)⟩]) (.seq (.reg .true [⟨.some 53,.un .not (.t 52),.some (46, .false)⟩,⟨.some 54,.pick (.t 46) (.k (.c (.d (.bool .true)))) (.t 53),.none⟩,⟨.some 55,.mv (.t 54),.none⟩,⟨.some 56,.ld (.t 1) (.some 3),.some (55, .false)⟩,⟨.some 57,.mv (.t 4),.some (55, .false)⟩,⟨.some 58,.nilc (.t 57),.some (55, .false)⟩,⟨.some 59,.fa (.t 58) 1,.some (55, .false)⟩,⟨.some 60,.ld (.t 59) .none,.some (55, .false)⟩]) (.seq (.reg .false [⟨.some 61,.call 70 [(.t 56), (.t 60)],.some (55, .false)⟩]) (.reg .true [⟨.some 62,.un .not (.t 61),.some (55, .false)⟩,⟨.some 63,.pick (.t 55) (.k (.c (.d (.bool .true)))) (.t 62),.none⟩]))))) (.cond (.t 63) (.seq (.reg .false [⟨.some 2,.mv (.k (.c (.d (.bool .false)))),.none⟩]) .ret) .skip)) (.seq (.seq (.reg .false [⟨.some 64,.mv (.t 4),.none⟩,⟨.some 65,.nilc (.t 64),.none⟩,⟨.some 66,.fa (.t 65) 2,.none⟩,⟨.some 67,.iaa 2 1 (.t 66) (.k (.c (.d (.int .i64 0)))),.none⟩,⟨.some 68,.ld (.t 67) .none,.none⟩,⟨.some 69,.call 69 [(.t 68), (.k (.c (.d (.int .i64 1)))), (.k (.c (.d (.int .i64 65535))))],.none⟩,⟨.some 70,.un .not (.t 69),.none⟩,⟨.some 71,.mv (.t 70),.none⟩,⟨.some 72,.mv (.t 4),.some (71, .false)⟩,⟨.some 73,.nilc (.t 72),.some (71, .false)⟩,⟨.some 74,.fa (.t 73) 2,.some (71, .false)⟩,⟨.some 75,.iaa 2 1 (.t 74) (.k (.c (.d (.int .i64 1)))),.some (71, .false)⟩,⟨.some 76,.ld (.t 75) .none,.some (71, .false)⟩,⟨.some 77,.call 69 [(.t 76), (.k (.c (.d (.int .i64 1)))), (.k (.c (.d (.int .i64 65535))))],.some (71, .false)⟩,⟨.some 78,.un .not (.t 77),.some (71, .false)⟩,⟨.some 79,.pick (.t 71) (.k (.c (.d (.bool .true)))) (.t 78),.none⟩]) (.cond (.t 79) (.seq (.reg .false [⟨.some 2,.mv (.k (.c (.d (.bool .false)))),.none⟩]) .ret) .skip)) (.seq (.reg .false [⟨.some 80,.mv (.t 4),.none⟩,⟨.some 81,.nilc (.t 80),.none⟩,⟨.some 82,.fa (.t 81) 4,.none⟩,⟨.some 83,.ld (.t 82) .none,.none⟩,⟨.some 84,.call 69 [(.t 83), (.k (.c (.d (.int .i64 0)))), (.k (.c (.d (.int .i64 1048576))))],.none⟩,⟨.some 85,.un .not (.t 84),.none⟩,⟨.some 86,.mv (.t 85),.none⟩,⟨.some 87,.mv (.t 4),.some (86, .false)⟩,⟨.some 88,.nilc (.t 87),.some (86, .false)⟩,⟨.some 89,.fa (.t 88) 5,.some (86, .false)⟩,⟨.some 90,.ld (.t 89) .none,.some (86, .false)⟩,⟨.some 91,.call 69 [(.t 90), (.k (.c (.d (.int .i64 1)))), (.k (.c (.d (.int .i64 65536))))],.some (86, .false)⟩,⟨.some 92,.un .not (.t 91),.some (86, .false)⟩,⟨.some 93,.pick (.t 86) (.k (.c (.d (.bool .true)))) (.t 92),.none⟩,⟨.some 94,.mv (.t 93),.none⟩,⟨.some 95,.mv (.t 4),.some (94, .false)⟩,⟨.some 96,.nilc (.t 95),.some (94, .false)⟩,⟨.some 97,.fa (.t 96) 6,.some (94, .false)⟩,⟨.some 98,.ld (.t 97) .none,.some (94, .false)⟩,⟨.some 99,.call 69 [(.t 98), (.k (.c (.d (.int .i64 0)))), (.k (.c (.d (.int .i64 64))))],.some (94, .false)⟩,⟨.some 100,.un .not (.t 99),.some (94, .false)⟩,⟨.some 101,.pick (.t 94) (.k (.c (.d (.bool .true)))) (.t 100),.none⟩]) (.cond (.t 101) (.seq (.reg .false [⟨.some 2,.mv (.k (.c (.d (.bool .false)))),.none⟩]) .ret) .skip))))))) (.reg .false [⟨.some 102,.bin .add (.t 30) (.k (.c (.d (.int .i64 1)))),.none⟩,⟨.some 30,.mv (.t 102),.none⟩]))))))) (.seq (.reg .false [⟨.some 2,.mv (.k (.c (.d (.bool .true)))),.none⟩]) .ret))))))
abbrev n_topology_Valid : Nat := 52
theorem fn_topology_Valid : Try.prog.funcs[n_topology_Valid]? = some Try.f52 := Try.func52
theorem c_topology_Valid : compF Try.prog Try.f52 = some af_topology_Valid := by kernel_rfl
def af_graph_Arc : AF := (AF.mk 13 [(4, .none)] (.seq (.reg .false [⟨.some 2,.box (.t 0),.none⟩,⟨.some 4,.mv (.k (.c (.d (.bool .false)))),.none⟩]) (.seq (.reg .false [⟨.some 5,.mv (.t 1),.none⟩,⟨.some 6,.bin .geq (.t 5) (.k (.c (.d (.int .i64 0)))),.none⟩,⟨.some 7,.mv (.t 6),.none⟩,⟨.some 8,.mv (.t 1),.some (7, .true)⟩,⟨.some 9,.ld (.t 2) (.some 3),.some (7, .true)⟩,⟨.some 10,.call 56 [(.t 9)],.some (7, .true)⟩,⟨.some 11,.bin .lss (.t 8) (.t 10),.some (7, .true)⟩,⟨.some 12,.pick (.t 7) (.t 11) (.k (.c (.d (.bool .false)))),.none⟩,⟨.some 4,.mv (.t 12),.none⟩]) .ret)))
abbrev n_graph_Arc : Nat := 53
theorem fn_graph_Arc : Try.prog.funcs[n_graph_Arc]? = some Try.f53 := Try.func53
theorem c_graph_Arc : compF Try.prog Try.f53 = some af_graph_Arc := by kernel_rfl
def af_slices_Contains_int_int : AF := (AF.mk 9 [(4, .none)] (.seq (.reg .false [⟨.some 4,.mv (.k (.c (.d (.bool .false)))),.none⟩]) (.seq (.reg .false [⟨.some 5,.mv (.t 0),.none⟩,⟨.some 6,.mv (.t 1),.none⟩,⟨.some 7,.call 71 [(.t 5), (.t 6)],.none⟩,⟨.some 8,.bin .geq (.t 7) (.k (.c (.d (.int .i64 0)))),.none⟩,⟨.some 4,.mv (.t 8),.none⟩]) .ret)))
abbrev n_slices_Contains_int_int : Nat := 54
theorem fn_slices_Contains_int_int : Try.prog.funcs[n_slices_Contains_int_int]? = some Try.f54 := Try.func54
theorem c_slices_Contains_int_int : compF Try.prog Try.f54 = some af_slices_Contains_int_int := by kernel_rfl
def af_graph_Arcs : AF := (AF.mk 7 [(2, .none)] (.seq (.reg .false [⟨.some 1,.box (.t 0),.none⟩,⟨.some 2,.mv (.k (.c (.d (.int .i64 0)))),.none⟩]) (.seq (.reg .false [⟨.some 3,.fa (.t 1) 2,.none⟩,⟨.some 4,.ld (.t 3) .none,.none⟩,⟨.some 5,.len (.t 4),.none⟩,⟨.some 6,.bin .mul (.k (.c (.d (.int .i64 2)))) (.t 5),.none⟩,⟨.some 2,.mv (.t 6),.none⟩]) .ret)))
abbrev n_graph_Arcs : Nat := 56
theorem fn_graph_Arcs : Try.prog.funcs[n_graph_Arcs]? = some Try.f56 := Try.func56
theorem c_graph_Arcs : compF Try.prog Try.f56 = some af_graph_Arcs := by kernel_rfl
def af_update_prepare_1 : AF := (AF.mk 24 [(2, .none)] (.seq (.reg .false [⟨.some 2,.mv (.k (.c (.d (.list .true 1 [])))),.none⟩]) (.seq (.reg .false [⟨.some 5,.ld (.t 0) .none,.none⟩,⟨.some 6,.nilc (.t 5),.none⟩,⟨.some 7,.fa (.t 6) 3,.none⟩,⟨.some 8,.ld (.t 7) .none,.none⟩,⟨.some 9,.len (.t 8),.none⟩,⟨.some 10,.mks 1 24 [(.list .true 1 [])] (.t 9) (.t 9),.none⟩,⟨.some 3,.mv (.t 10),.none⟩]) (.seq (.seq (.reg .false [⟨.some 11,.mv (.t 3),.none⟩,⟨.some 12,.len (.t 11),.none⟩,⟨.some 13,.mv (.k (.c (.d (.int .i64 0)))),.none⟩]) (.block 0 (.loop (.seq (.reg .false [⟨.some 14,.bin .lss (.t 13) (.t 12),.none⟩]) (.seq (.cond (.t 14) .skip (.exit 0)) (.seq (.block 1 (.seq (.reg .false [⟨.some 15,.mv (.t 13),.none⟩,⟨.some 4,.mv (.t 15),.none⟩]) (.reg .false [⟨.some 16,.mv (.t 3),.none⟩,⟨.some 17,.mv (.t 4),.none⟩,⟨.some 18,.ld (.t 1) (.some 3),.none⟩,⟨.some 19,.call 56 [(.t 18)],.none⟩,⟨.some 20,.mks 1 8 [(.int .i64 0)] (.t 19) (.t 19),.none⟩,⟨.some 21,.ias 1 (.t 16) (.t 17),.none⟩,⟨.none,.st (.t 21) (.t 20) 1,.none⟩]))) (.reg .false [⟨.some 22,.bin .add (.t 13) (.k (.c (.d (.int .i64 1)))),.none⟩,⟨.some 13,.mv (.t 22),.none⟩]))))))) (.seq (.reg .false [⟨.some 23,.mv (.t 3),.none⟩,⟨.some 2,.mv (.t 23),.none⟩]) .ret)))))
abbrev n_update_prepare_1 : Nat := 57
theorem fn_update_prepare_1 : Try.prog.funcs[n_update_prepare_1]? = some Try.f57 := Try.func57
theorem c_update_prepare_1 : compF Try.prog Try.f57 = some af_update_prepare_1 := by kernel_rfl
def af_update_prepare_2 : AF := (AF.mk 59 [] (.seq (.reg .false [⟨.some 13,.mv (.t 0),.none⟩,⟨.some 14,.len (.t 13),.none⟩,⟨.some 15,.mv (.k (.c (.d (.int .i64 0)))),.none⟩]) (.block 0 (.loop (.seq (.reg .false [⟨.some 16,.bin .lss (.t 15) (.t 14),.none⟩]) (.seq (.cond (.t 16) .skip (.exit 0)) (.seq (.block 1 (.seq (.reg .false [⟨.some 17,.ias 3 (.t 13) (.t 15),.none⟩,⟨.some 18,.ld (.t 17) (.some 3),.none⟩,⟨.some 8,.box (.k (.agg [(.d (.int .i64 0)), (.d (.list .true 1 [])), (.d (.int .i64 0))])),.none⟩,⟨.none,.st (.t 8) (.t 18) 3,.none⟩]) (.seq (.seq (.reg .true [⟨.some 20,.ld (.t 3) .none,.none⟩,⟨.some 21,.nilc (.t 20),.none⟩,⟨.some 22,.fa (.t 21) 3,.none⟩,⟨.some 23,.ld (.t 22) .none,.none⟩,⟨.some 24,.fa (.t 8) 0,.none⟩,⟨.some 25,.ld (.t 24) .none,.none⟩]) (.seq (.reg .false [⟨.some 26,.call 43 [(.t 23), (.t 25)],.none⟩]) (.reg .true [⟨.some 19,.mv (.t 26),.none⟩,⟨.some 27,.ext (.t 19) 0,.none⟩,⟨.some 28,.ext (.t 19) 1,.none⟩,⟨.some 9,.mv (.t 27),.none⟩,⟨.some 10,.mv (.t 28),.none⟩]))) (.seq (.reg .false [⟨.some 29,.fa (.t 8) 1,.none⟩,⟨.some 30,.ld (.t 29) .none,.none⟩,⟨.some 31,.len (.t 30),.none⟩,⟨.some 32,.mv (.k (.c (.d (.int .i64 0)))),.none⟩]) (.block 2 (.loop (.seq (.reg .false [⟨.some 33,.bin .lss (.t 32) (.t 31),.none⟩]) (.seq (.cond (.t 33) .skip (.exit 2)) (.seq (.block 3 (.seq (.reg .false [⟨.some 34,.ias 1 (.t 30) (.t 32),.none⟩,⟨.some 35,.ld (.t 34) .none,.none⟩,⟨.some 12,.mv (.t 35),.none⟩]) (.seq (.reg .false [⟨.some 36,.mv (.t 10),.none⟩]) (.cond (.t 36) (.rgc [⟨.some 37,.mv (.t 1),.none⟩,⟨.some 38,.mv (.t 9),.none⟩,⟨.some 39,.ias 1 (.t 37) (.t 38),.none⟩,⟨.some 40,.ld (.t 39) .none,.none⟩,⟨.some 41,.mv (.t 12),.none⟩,⟨.some 42,.fa (.t 8) 2,.none⟩,⟨.some 43,.ld (.t 42) .none,.none⟩] [⟨.some 44,.ias 1 (.t 40) (.t 41),.none⟩,⟨.none,.st (.t 44) (.t 43) 1,.none⟩] [37, 38, 39, 8, 42]) (.seq (.reg .false [⟨.some 45,.mv (.t 2),.none⟩]) (.cond (.t 45) (.reg .true [⟨.some 46,.ld (.t 3) .none,.none⟩,⟨.some 47,.nilc (.t 46),.none⟩,⟨.some 48,.fa (.t 47) 4,.none⟩,⟨.some 49,.ld (.t 48) .none,.none⟩,⟨.some 50,.mv (.t 12),.none⟩,⟨.some 51,.ias 1 (.t 49) (.t 50),.none⟩,⟨.some 52,.ld (.t 51) .none,.none⟩,⟨.some 53,.fa (.t 8) 2,.none⟩,⟨.some 54,.ld (.t 53) .none,.none⟩,⟨.some 55,.bin .add (.t 52) (.t 54),.none⟩,⟨.some 56,.ias 1 (.t 49) (.t 50),.none⟩,⟨.none,.st (.t 56) (.t 55) 1,.none⟩]) .skip)))))) (.reg .false [⟨.some 57,.bin .add (.t 32) (.k (.c (.d (.int .i64 1)))),.none⟩,⟨.some 32,.mv (.t 57),.none⟩])))))))))) (.reg .false [⟨.some 58,.bin .add (.t 15) (.k (.c (.d (.int .i64 1)))),.none⟩,⟨.some 15,.mv (.t 58),.none⟩]))))))))
abbrev n_update_prepare_2 : Nat := 58
theorem fn_update_prepare_2 : Try.prog.funcs[n_update_prepare_2]? = some Try.f58 := Try.func58
theorem c_update_prepare_2 : compF Try.prog Try.f58 = some af_update_prepare_2 := by kernel_rfl
def af_sequence_search_complete : AF := (AF.mk 58 [(4, .none)] (.seq (.reg .false [⟨.some 2,.box (.t 0),.none⟩,⟨.some 4,.mv (.k (.c (.d (.bool .false)))),.none⟩]) (.seq (.reg .false [⟨.some 7,.mv (.t 1),.none⟩,⟨.some 8,.fa (.t 2) 4,.none⟩,⟨.some 9,.ld (.t 8) .none,.none⟩,⟨.some 10,.bin .or (.t 7) (.t 9),.none⟩,⟨.some 1,.mv (.t 10),.none⟩]) (.seq (.seq (.reg .false [⟨.some 11,.fa (.t 2) 5,.none⟩,⟨.some 12,.ld (.t 11) .none,.none⟩,⟨.some 13,.mv (.t 1),.none⟩,⟨.some 14,.bin .andNot (.t 12) (.t 13),.none⟩,⟨.some 15,.bin .eql (.t 14) (.k (.c (.d (.int .u32 0)))),.none⟩]) (.cond (.t 15) (.seq (.reg .false [⟨.some 4,.mv (.k (.c (.d (.bool .true)))),.none⟩]) .ret) .skip)) (.seq (.seq (.reg .false [⟨.some 16,.fa (.t 2) 6,.none⟩,⟨.some 17,.ld (.t 16) .none,.none⟩,⟨.some 18,.mv (.t 1),.none⟩,⟨.some 19,.mo (.lk .true 1 [(0, 0)] .false (.c (.d (.bool .false)))) [(.t 17), (.t 18)],.none⟩]) (.cond (.t 19) (.seq (.reg .false [⟨.some 4,.mv (.k (.c (.d (.bool .false)))),.none⟩]) .ret) .skip)) (.seq (.seq (.reg .false [⟨.some 20,.fa (.t 2) 0,.none⟩,⟨.some 21,.fa (.t 20) 0,.none⟩,⟨.some 22,.ld (.t 21) .none,.none⟩,⟨.some 23,.mv (.k (.c (.d (.int .i64 0)))),.none⟩]) (.block 0 (.loop (.seq (.reg .false [⟨.some 24,.bin .lss (.t 23) (.t 22),.none⟩]) (.seq (.cond (.t 24) .skip (.exit 0)) (.seq (.block 1 (.seq (.reg .false [⟨.some 25,.mv (.t 23),.none⟩,⟨.some 5,.mv (.t 25),.none⟩]) (.seq (.reg .false [⟨.some 26,.mv (.t 5),.none⟩,⟨.some 27,.bin .shl (.k (.c (.d (.int .u32 1)))) (.t 26),.none⟩,⟨.some 6,.mv (.t 27),.none⟩]) (.seq (.reg .false [⟨.some 28,.fa (.t 2) 5,.none⟩,⟨.some 29,.ld (.t 28) .none,.none⟩,⟨.some 30,.mv (.t 6),.none⟩,⟨.some 31,.bin .and (.t 29) (.t 30),.none⟩,⟨.some 32,.bin .neq (.t 31) (.k (.c (.d (.int .u32 0)))),.none⟩,⟨.some 33,.mv (.t 32),.none⟩,⟨.some 34,.mv (.t 1),.some (33, .true)⟩,⟨.some 35,.mv (.t 6),.some (33, .true)⟩,⟨.some 36,.bin .and (.t 34) (.t 35),.some (33, .true)⟩,⟨.some 37,.bin .eql (.t 36) (.k (.c (.d (.int .u32 0)))),.some (33, .true)⟩,⟨.some 38,.pick (.t 33) (.t 37) (.k (.c (.d (.bool .false)))),.none⟩,⟨.some 39,.mv (.t 38),.none⟩,⟨.some 40,.fa (.t 2) 0,.some (39, .true)⟩,⟨.some 41,.fa (.t 40) 1,.some (39, .true)⟩,⟨.some 42,.ld (.t 41) .none,.some (39, .true)⟩,⟨.some 43,.mv (.t 1),.some (39, .true)⟩,⟨.some 44,.mv (.t 5),.some (39, .true)⟩,⟨.some 45,.callv (.t 42) [(.t 43), (.t 44)],.some (39, .true)⟩,⟨.some 46,.pick (.t 39) (.t 45) (.k (.c (.d (.bool .false)))),.none⟩,⟨.some 47,.mv (.t 46),.none⟩,⟨.some 48,.ld (.t 2) (.some 7),.some (47, .true)⟩,⟨.some 49,.mv (.t 1),.some (47, .true)⟩,⟨.some 50,.mv (.t 6),.some (47, .true)⟩,⟨.some 51,.bin .or (.t 49) (.t 50),.some (47, .true)⟩,⟨.some 52,.call 59 [(.t 48), (.t 51)],.some (47, .true)⟩,⟨.some 53,.pick (.t 47) (.t 52) (.k (.c (.d (.bool .false)))),.none⟩]) (.cond (.t 53) (.seq (.reg .false [⟨.some 4,.mv (.k (.c (.d (.bool .true)))),.none⟩]) .ret) .skip))))) (.reg .false [⟨.some 54,.bin .add (.t 23) (.k (.c (.d (.int .i64 1)))),.none⟩,⟨.some 23,.mv (.t 54),.none⟩]))))))) (.seq (.reg .false [⟨.some 55,.fa (.t 2) 6,.none⟩,⟨.some 56,.ld (.t 55) .none,.none⟩,⟨.some 57,.mv (.t 1),.none⟩,⟨.none,.mo (.up .true 1 [(0, 0)]) [(.t 56), (.t 57), (.k (.c (.d (.bool .true))))],.none⟩]) (.seq (.reg .false [⟨.some 4,.mv (.k (.c (.d (.bool .false)))),.none⟩]) .ret))))))))
abbrev n_sequence_search_complete : Nat := 59
theorem fn_sequence_search_complete : Try.prog.funcs[n_sequence_search_complete]? = some Try.f59 := Try.func59
theorem c_sequence_search_complete : compF Try.prog Try.f59 = some af_sequence_search_complete := by kernel_rfl
def af_cmp_Less_int : AF := (AF.mk 17 [(4, .none)] (.seq (.reg .false [⟨.some 4,.mv (.k (.c (.d (.bool .false)))),.none⟩]) (.seq (.reg .false [⟨.some 5,.mv (.t 0),.none⟩,⟨.some 6,.call 72 [(.t 5)],.none⟩,⟨.some 7,.mv (.t 6),.none⟩,⟨.some 8,.mv (.t 1),.some (7, .true)⟩,⟨.some 9,.call 72 [(.t 8)],.some (7, .true)⟩,⟨.some 10,.un .not (.t 9),.some (7, .true)⟩,⟨.some 11,.pick (.t 7) (.t 10) (.k (.c (.d (.bool .false)))),.none⟩,⟨.some 12,.mv (.t 11),.none⟩,⟨.some 13,.mv (.t 0),.some (12, .false)⟩,⟨.some 14,.mv (.t 1),.some (12, .false)⟩,⟨.some 15,.bin .lss (.t 13) (.t 14),.some (12, .false)⟩,⟨.some 16,.pick (.t 12) (.k (.c (.d (.bool .true)))) (.t 15),.none⟩,⟨.some 4,.mv (.t 16),.none⟩]) .ret)))
abbrev n_cmp_Less_int : Nat := 62
theorem fn_cmp_Less_int : Try.prog.funcs[n_cmp_Less_int]? = some Try.f62 := Try.func62
theorem c_cmp_Less_int : compF Try.prog Try.f62 = some af_cmp_Less_int := by kernel_rfl
def af_slices_isNaN_int : AF := (AF.mk 6 [(2, .none)] (.seq (.reg .false [⟨.some 2,.mv (.k (.c (.d (.bool .false)))),.none⟩]) (.seq (.reg .false [⟨.some 3,.mv (.t 0),.none⟩,⟨.some 4,.mv (.t 0),.none⟩,⟨.some 5,.bin .neq (.t 3) (.t 4),.none⟩,⟨.some 2,.mv (.t 5),.none⟩]) .ret)))
abbrev n_slices_isNaN_int : Nat := 63
theorem fn_slices_isNaN_int : Try.prog.funcs[n_slices_isNaN_int]? = some Try.f63 := Try.func63
theorem c_slices_isNaN_int : compF Try.prog Try.f63 = some af_slices_isNaN_int := by kernel_rfl
def af_slices_Clone_int_int : AF := (AF.mk 8 [(2, .none)] (.seq (.reg .false [⟨.some 2,.mv (.k (.c (.d (.list .true 1 [])))),.none⟩]) (.seq (.seq (.reg .false [⟨.some 3,.mv (.t 0),.none⟩,⟨.some 4,.isnil 0 .false (.t 3),.none⟩]) (.cond (.t 4) (.seq (.reg .false [⟨.some 2,.mv (.k (.c (.d (.list .true 1 [])))),.none⟩]) .ret) .skip)) (.seq (.reg .false [⟨.some 5,.bsl 1 [(.int .i64 0)] 0 [],.none⟩,⟨.some 6,.mv (.t 0),.none⟩,⟨.some 7,.app 1 8 [(.int .i64 0)] (.t 5) (.t 6),.none⟩,⟨.some 2,.mv (.t 7),.none⟩]) .ret))))
abbrev n_slices_Clone_int_int : Nat := 64
theorem fn_slices_Clone_int_int : Try.prog.funcs[n_slices_Clone_int_int]? = some Try.f64 := Try.func64
theorem c_slices_Clone_int_int : compF Try.prog Try.f64 = some af_slices_Clone_int_int := by kernel_rfl
def af_slices_IndexFunc_update_Tunnel_update_Tunnel : AF := (AF.mk 19 [(4, .none)] (.seq (.reg .false [⟨.some 4,.mv (.k (.c (.d (.int .i64 0)))),.none⟩]) (.seq (.seq (.reg .false [⟨.some 6,.mv (.t 0),.none⟩,⟨.some 7,.len (.t 6),.none⟩,⟨.some 8,.mv (.k (.c (.d (.int .i64 0)))),.none⟩]) (.block 0 (.loop (.seq (.reg .false [⟨.some 9,.bin .lss (.t 8) (.t 7),.none⟩]) (.seq (.cond (.t 9) .skip (.exit 0)) (.seq (.block 1 (.seq (.reg .false [⟨.some 10,.mv (.t 8),.none⟩,⟨.some 5,.mv (.t 10),.none⟩]) (.seq (.reg .false [⟨.some 11,.mv (.t 1),.none⟩,⟨.some 12,.mv (.t 0),.none⟩,⟨.some 13,.mv (.t 5),.none⟩,⟨.some 14,.ias 3 (.t 12) (.t 13),.none⟩,⟨.some 15,.ld (.t 14) (.some 3),.none⟩,⟨.some 16,.callv (.t 11) [(.t 15)],.none⟩]) (.cond (.t 16) (.seq (.reg .false [⟨.some 17,.mv (.t 5),.none⟩,⟨.some 4,.mv (.t 17),.none⟩]) .ret) .skip)))) (.reg .false [⟨.some 18,.bin .add (.t 8) (.k (.c (.d (.int .i64 1)))),.none⟩,⟨.some 8,.mv (.t 18),.none⟩]))))))) (.seq (.reg .false [⟨.some 4,.mv (.k (.c (.d (.int .i64 (-1))))),.none⟩]) .ret))))
abbrev n_slices_IndexFunc_update_Tunnel_update_Tunnel : Nat := 65
theorem fn_slices_IndexFunc_update_Tunnel_update_Tunnel : Try.prog.funcs[n_slices_IndexFunc_update_Tunnel_update_Tunnel]? = some Try.f65 := Try.func65
theorem c_slices_IndexFunc_update_Tunnel_update_Tunnel : compF Try.prog Try.f65 = some af_slices_IndexFunc_update_Tunnel_update_Tunnel := by kernel_rfl
abbrev n_slices_Sort_int_int : Nat := 67
abbrev n_maps_Keys_map_int_bool_int_bool_1 : Nat := 68
def af_topology_within : AF := (AF.mk 15 [(6, .none)] (.seq (.reg .false [⟨.some 6,.mv (.k (.c (.d (.bool .false)))),.none⟩]) (.seq (.reg .false [⟨.some 7,.mv (.t 0),.none⟩,⟨.some 8,.mv (.t 1),.none⟩,⟨.some 9,.bin .geq (.t 7) (.t 8),.none⟩,⟨.some 10,.mv (.t 9),.none⟩,⟨.some 11,.mv (.t 0),.some (10, .true)⟩,⟨.some 12,.mv (.t 2),.some (10, .true)⟩,⟨.some 13,.bin .leq (.t 11) (.t 12),.some (10, .true)⟩,⟨.some 14,.pick (.t 10) (.t 13) (.k (.c (.d (.bool .false)))),.none⟩,⟨.some 6,.mv (.t 14),.none⟩]) .ret)))
abbrev n_topology_within : Nat := 69
theorem fn_topology_within : Try.prog.funcs[n_topology_within]? = some Try.f69 := Try.func69
theorem c_topology_within : compF Try.prog Try.f69 = some af_topology_within := by kernel_rfl
def af_graph_Node : AF := (AF.mk 13 [(4, .none)] (.seq (.reg .false [⟨.some 2,.box (.t 0),.none⟩,⟨.some 4,.mv (.k (.c (.d (.bool .false)))),.none⟩]) (.seq (.reg .false [⟨.some 5,.mv (.t 1),.none⟩,⟨.some 6,.bin .geq (.t 5) (.k (.c (.d (.int .i64 0)))),.none⟩,⟨.some 7,.mv (.t 6),.none⟩,⟨.some 8,.mv (.t 1),.some (7, .true)⟩,⟨.some 9,.fa (.t 2) 0,.some (7, .true)⟩,⟨.some 10,.ld (.t 9) .none,.some (7, .true)⟩,⟨.some 11,.bin .lss (.t 8) (.t 10),.some (7, .true)⟩,⟨.some 12,.pick (.t 7) (.t 11) (.k (.c (.d (.bool .false)))),.none⟩,⟨.some 4,.mv (.t 12),.none⟩]) .ret)))
abbrev n_graph_Node : Nat := 70
theorem fn_graph_Node : Try.prog.funcs[n_graph_Node]? = some Try.f70 := Try.func70
theorem c_graph_Node : compF Try.prog Try.f70 = some af_graph_Node := by kernel_rfl
def af_slices_Index_int_int : AF := (AF.mk 19 [(4, .none)] (.seq (.reg .false [⟨.some 4,.mv (.k (.c (.d (.int .i64 0)))),.none⟩]) (.seq (.seq (.reg .false [⟨.some 6,.mv (.t 0),.none⟩,⟨.some 7,.len (.t 6),.none⟩,⟨.some 8,.mv (.k (.c (.d (.int .i64 0)))),.none⟩]) (.block 0 (.loop (.seq (.reg .false [⟨.some 9,.bin .lss (.t 8) (.t 7),.none⟩]) (.seq (.cond (.t 9) .skip (.exit 0)) (.seq (.block 1 (.seq (.reg .false [⟨.some 10,.mv (.t 8),.none⟩,⟨.some 5,.mv (.t 10),.none⟩]) (.seq (.reg .false [⟨.some 11,.mv (.t 1),.none⟩,⟨.some 12,.mv (.t 0),.none⟩,⟨.some 13,.mv (.t 5),.none⟩,⟨.some 14,.ias 1 (.t 12) (.t 13),.none⟩,⟨.some 15,.ld (.t 14) .none,.none⟩,⟨.some 16,.bin .eql (.t 11) (.t 15),.none⟩]) (.cond (.t 16) (.seq (.reg .false [⟨.some 17,.mv (.t 5),.none⟩,⟨.some 4,.mv (.t 17),.none⟩]) .ret) .skip)))) (.reg .false [⟨.some 18,.bin .add (.t 8) (.k (.c (.d (.int .i64 1)))),.none⟩,⟨.some 8,.mv (.t 18),.none⟩]))))))) (.seq (.reg .false [⟨.some 4,.mv (.k (.c (.d (.int .i64 (-1))))),.none⟩]) .ret))))
abbrev n_slices_Index_int_int : Nat := 71
theorem fn_slices_Index_int_int : Try.prog.funcs[n_slices_Index_int_int]? = some Try.f71 := Try.func71
theorem c_slices_Index_int_int : compF Try.prog Try.f71 = some af_slices_Index_int_int := by kernel_rfl
def af_cmp_isNaN_int : AF := (AF.mk 6 [(2, .none)] (.seq (.reg .false [⟨.some 2,.mv (.k (.c (.d (.bool .false)))),.none⟩]) (.seq (.reg .false [⟨.some 3,.mv (.t 0),.none⟩,⟨.some 4,.mv (.t 0),.none⟩,⟨.some 5,.bin .neq (.t 3) (.t 4),.none⟩,⟨.some 2,.mv (.t 5),.none⟩]) .ret)))
abbrev n_cmp_isNaN_int : Nat := 72
theorem fn_cmp_isNaN_int : Try.prog.funcs[n_cmp_isNaN_int]? = some Try.f72 := Try.func72
theorem c_cmp_isNaN_int : compF Try.prog Try.f72 = some af_cmp_isNaN_int := by kernel_rfl
theorem mixed : Try.prog.follows .mixedOrders = true := by decide
end Go.Ab

/-
  Contracts, part a: what a contract says; the data of the program and how they are laid.
-/
namespace Go.Ab
open Go.Proofs
abbrev iA (n : Int) : AV := .c (.d (.int .i64 n))
abbrev bA (b : Bool) : AV := .c (.d (.bool b))
def Ret (P : Program) (f : Nat) (args : List AV) (r : AV) : Prop := FnS P f args [] fun r' _ => pureA r' = true ∧ r' = r
theorem ret_start {P : Program} {f : Nat} {fn : Func} {af : AF} {args : List AV} {r : AV} (hm : P.follows .mixedOrders = true) (hf : P.funcs[f]? = some fn) (hc : compF P fn = some af) (hl : args.length ≤ af.nt)
  (hv : ∀ (Λ : Len), (∀ l, Λ l = (l.length : Int)) → ∀ (K : AV → Prop), K r → vcF P Λ af args K) : Ret P f args r :=
 fn_pure (K := fun r' => r' = r) hm hf hc hl fun Λ h => hv Λ h _ rfl
theorem wrap64 (x : Int) : IntKind.i64.wrap x = (x + 9223372036854775808) % 18446744073709551616 - 9223372036854775808 := by
 simp only [IntKind.wrap, IntKind.bits, IntKind.signed, Bool.true_and, decide_eq_true_eq, Nat.reduceSub, ge_iff_le]
 have e1 : (2 : Int) ^ 64 = 18446744073709551616 := by decide
 have e2 : (2 : Int) ^ 63 = 9223372036854775808 := by decide
 rw [e1, e2]
 split <;> omega
theorem wrap_small {x : Int} (h : -9223372036854775808 ≤ x) (h' : x < 9223372036854775808) : IntKind.i64.wrap x = x := by
 rw [wrap64]; omega
theorem call_b {P : Program} {m : Nat} {d : Bool} {L : Lv} {h : Hp} {f : Nat} {xs : List X} {args' : List AV} {K : Lv → AV → Hp → Prop} {b : Bool} (hf : Ret P f args' (bA b)) (ha : (evsN L xs).map fgA = args') (hp : args'.all pureA = true)
  (k1 : b = true → K L (bA true) h) (k2 : b = false → K L (bA false) h) : CallS P m d L h f xs K := by
 refine CallS.pure (r := bA b) (Or.inl ⟨args', .inl ha.symm, hp, hf⟩) ?_
 cases b
 ·exact k2 rfl
 ·exact k1 rfl
theorem call_i {P : Program} {m : Nat} {d : Bool} {L : Lv} {h : Hp} {f : Nat} {xs : List X} {args' : List AV} {K : Lv → AV → Hp → Prop} {n : Int} (hf : Ret P f args' (iA n)) (ha : (evsN L xs).map fgA = args') (hp : args'.all pureA = true)
  (k : ∀ c, c = n → K L (iA c) h) : CallS P m d L h f xs K :=
 CallS.pure (r := iA n) (Or.inl ⟨args', .inl ha.symm, hp, hf⟩) (k n rfl)
theorem call_r {P : Program} {m : Nat} {d : Bool} {L : Lv} {h : Hp} {f : Nat} {xs : List X} {args' : List AV} {K : Lv → AV → Hp → Prop} {r : AV} (hf : Ret P f args' r) (ha : (evsN L xs).map fgA = args') (hp : args'.all pureA = true)
  (k : K L r h) : CallS P m d L h f xs K :=
 CallS.pure (r := r) (Or.inl ⟨args', .inl ha.symm, hp, hf⟩) k
theorem look_b {P : Program} {m : Nat} {d : Bool} {L : Lv} {h : Hp} {f : Nat} {xs : List X} {vargs : List AV} {K : Lv → AV → Hp → Prop} {b : Bool} (hf : Ret P f vargs (bA b)) (ha : viewAs h (evsN L xs) = some vargs)
  (k1 : b = true → K L (bA true) h) (k2 : b = false → K L (bA false) h) : CallS P m d L h f xs K := by
 refine CallS.pure (r := bA b) (Or.inr ⟨vargs, ha, .inl (hf.mono fun r _ ⟨_, e⟩ => ⟨by rw [e]; rfl, e⟩)⟩) ?_
 cases b
 ·exact k2 rfl
 ·exact k1 rfl
theorem call_z {P : Program} {m : Nat} {L : Lv} {h : Hp} {f : Nat} {xs : List X} {K : Lv → AV → Hp → Prop} (l v sz k : Nat) {r : Bool} {es : List (List D)} (hl : h[l]? = some (.da r v sz es)) (hk : k = es.length) (h1 : okL l v k L) (h2 : okH l v k h)
  (hc : CallS P m false (zL l v sz es L) (zH l v sz es 0 h) f xs K) : CallS P m false L h f xs K :=
 .wk (.fz l v sz r es hl (fun i => .inr (by rw [← lkN_eq, ← lkN_eq, lkN_z]; exact zA_ok hk (okL_get h1 i))) (zH_ok hk h2)) hc
theorem gu {p : Prop} (h : Unit → p := by
  intro (_ : Unit)
  first
   | omega
   | rfl
   | exact ⟨rfl, by omega⟩
   | (simp only [nI_eq]; omega)
   | ((repeat' first | rfl | omega | refine And.intro ?_ ?_ | (simp only [nI_eq]; omega) | (simp only [List.length_cons, List.length_nil]; omega) | exact Nat.le_of_ble_eq_true rfl); fail_if_success intros)) : Unit → p := h
theorem Wk.cw {m : Nat} {L : Lv} {h : Hp} {L' : Lv} {h' : Hp} (heap : ∃ t, h = h' ++ t := by exact ⟨_, rfl⟩) (least : m ≤ h'.length := by exact Nat.zero_le _) (refs : refsH h'.length h' = true := by rfl)
  (env : KeepL h'.length L L' := by repeat' first | exact trivial | refine And.intro ?_ ?_ | rfl) : Wk m L h L' h' := .cut heap least refs env
theorem Wk.ca {m : Nat} {L : Lv} {h : Hp} {L' : Lv} {h' : Hp} (heap : ∃ t, h = h' ++ t := by exact ⟨_, rfl⟩) (least : m ≤ h'.length := by exact Nat.le_of_ble_eq_true rfl) (refs : refsH h'.length h' = true := by rfl)
  (env : KeepL h'.length L L' := by repeat' first | exact trivial | refine And.intro ?_ ?_ | rfl) : Wk m L h L' h' := .cut heap least refs env
theorem Wk.ch {m : Nat} {L : Lv} {h : Hp} {L' : Lv} (least : m ≤ h.length := by exact Nat.le_of_ble_eq_true rfl) (refs : refsH h.length h = true := by rfl)
  (env : KeepL h.length L L' := by repeat' first | exact trivial | refine And.intro ?_ ?_ | rfl) : Wk m L h L' h := .cut ⟨[], (List.append_nil h).symm⟩ least refs env
structure Lk where
 (a b c0 c1 cap dl gr : Int)
structure Top where
 (nodes : Int) (ov : List Bool) (links : List Lk)
structure Seg where
 (kind num : Int)
 deriving DecidableEq
structure Ety where
 (arcs : List Int) (rep : Bool) (push : List Seg)
instance : Inhabited Lk := ⟨⟨0, 0, 0, 0, 0, 0, 0⟩⟩
instance : Inhabited Seg := ⟨⟨0, 0⟩⟩
instance : Inhabited Ety := ⟨⟨[], false, []⟩⟩
abbrev iD (n : Int) : D := .int .i64 n
def encB (b : Bool) : List D := [.bool b]
def encI (n : Int) : List D := [.int .i64 n]
def encLk (l : Lk) : List D := [iD l.a, iD l.b, iD l.c0, iD l.c1, iD l.cap, iD l.dl, iD l.gr]
abbrev intsD (l : List Int) : D := .list false 1 (l.map encI)
abbrev boolsD (l : List Bool) : D := .list false 1 (l.map encB)
abbrev linksD (l : List Lk) : D := .list false 7 (l.map encLk)
def topA (t : Top) : AV := .agg [.d (iD t.nodes), .d (boolsD t.ov), .d (linksD t.links)]
abbrev intsA (l : List Int) : AV := .c (.d (intsD l))
theorem map_get {α β : Type} {f : α → β} {l : List α} {i : Nat} {y : β} (h : (l.map f)[i]? = some y) : ∃ x, l[i]? = some x ∧ y = f x := by
 simp only [List.getElem?_map, Option.map_eq_some_iff] at h
 obtain ⟨x, h1, h2⟩ := h
 exact ⟨x, h1, h2.symm⟩
theorem map_get' {α β : Type} {f : α → β} {l : List α} {ll : List β} {i : Nat} {y : β} (hl : l.map f = ll) (h : ll[i]? = some y) : ∃ x, l[i]? = some x ∧ y = f x := by
 subst hl; exact map_get h
theorem get_at {α : Type} {l : List α} {i j : Nat} {x : α} (h : l[i]? = some x) (e : i = j) : l[j]? = some x := e ▸ h
theorem elt_at {α β : Type} {f : α → β} {l : List α} {ll : List β} (hl : l.map f = ll) {k : Nat} {i : Int} (hi : i = k) {x : α} (h : l[k]? = some x) : ll[i.toNat]? = some (f x) := by
 subst hi hl; simp [h]
theorem take_succ_get {α : Type} {l : List α} {k : Nat} {x : α} (h : l[k]? = some x) : l.take (k + 1) = l.take k ++ [x] := by
 rw [List.take_add_one, h]; rfl
theorem loop_up {m : Nat} {body : Lv → Hp → Post → Prop} {L : Lv} {h : Hp} {Q : Post} {σ : Type} (N : Nat) (S : σ → Lv) (H : σ → Hp) (Inv : Nat → σ → Prop) (s0 : σ) (wk : Wk m L h (S s0) (H s0)) (h0 : Inv 0 s0)
  (hle : ∀ k s, Inv k s → k ≤ N)
  (round : ∀ k s (Q' : Post), Inv k s → (∀ L' h' s', Inv (k + 1) s' → Wk m L' h' (S s') (H s') → Q' .normal L' h') → (∀ i L' h', Q (.exit i) L' h' → Q' (.exit i) L' h') → (∀ L' h', Q .ret L' h' → Q' .ret L' h') → body (S s) (H s) Q') :
  LoopI m body L h Q := by
 refine LoopI.mk (fun n L h => ∃ k s, Inv k s ∧ n = N - k ∧ L = S s ∧ h = H s) N (S s0) (H s0) wk ⟨0, s0, h0, rfl, rfl, rfl⟩ ?_
 rintro n L h ⟨k, s, hi, rfl, rfl, rfl⟩
 refine round k s _ hi (fun L' h' s' hi' hw => ?_) (fun i L' h' hq => ⟨L', h', .same rfl fun _ => .inr rfl, hq⟩) fun L' h' hq => hq
 have h1 := hle _ _ hi
 have h2 := hle _ _ hi'
 exact ⟨N - (k + 1), _, _, by omega, hw, k + 1, s', hi', rfl, rfl, rfl⟩
theorem loop_upx {m : Nat} {body : Lv → Hp → Post → Prop} {L : Lv} {h : Hp} {Q : Post} {σ τ : Type} (N : Nat) (S : σ → Lv) (H : σ → Hp) (Inv : Nat → σ → Prop) (s0 : σ) (i0 : Nat) (S' : τ → Lv) (H' : τ → Hp) (E : τ → Prop) (wk : Wk m L h (S s0) (H s0)) (h0 : Inv 0 s0)
  (hle : ∀ k s, Inv k s → k ≤ N)
  (round : ∀ k s (Q' : Post), Inv k s → (∀ L' h' s', Inv (k + 1) s' → Wk m L' h' (S s') (H s') → Q' .normal L' h') → (∀ L' h' s', E s' → Wk m L' h' (S' s') (H' s') → Q' (.exit i0) L' h') → (∀ i L' h', Q (.exit i) L' h' → Q' (.exit i) L' h') → (∀ L' h', Q .ret L' h' → Q' .ret L' h') → body (S s) (H s) Q')
  (rest : ∀ s, E s → Q (.exit i0) (S' s) (H' s)) :
  LoopI m body L h Q := by
 refine LoopI.mk (fun n L h => ∃ k s, Inv k s ∧ n = N - k ∧ L = S s ∧ h = H s) N (S s0) (H s0) wk ⟨0, s0, h0, rfl, rfl, rfl⟩ ?_
 rintro n L h ⟨k, s, hi, rfl, rfl, rfl⟩
 refine round k s _ hi (fun L' h' s' hi' hw => ?_) (fun L' h' s' he hw => ⟨_, _, hw, rest s' he⟩) (fun i L' h' hq => ⟨L', h', .same rfl fun _ => .inr rfl, hq⟩) fun L' h' hq => hq
 have h1 := hle _ _ hi
 have h2 := hle _ _ hi'
 exact ⟨N - (k + 1), _, _, by omega, hw, k + 1, s', hi', rfl, rfl, rfl⟩
end Go.Ab

/-
  Updates, part a: steps that replace parts of a load, plainly.
-/
namespace Go.Ab
open Go.Proofs
structure Stps where
 (n w : Nat)
 (B A : Nat → Nat → Int)
 (S C : Nat → Int)
def sumN (f : Nat → Int) : Nat → Int
 | 0 => 0
 | k + 1 => sumN f k + f k
def Stps.tm (J : Stps) (m : Nat) (mv : Int) (e i : Nat) : Int := if (i : Int) = mv then max (J.B i e) (J.A i e) else if m.testBit i = true then J.A i e else J.B i e
def Stps.load (J : Stps) (m : Nat) (mv : Int) (e : Nat) : Int := J.S e + sumN (J.tm m mv e) J.n
def Stps.Fit (J : Stps) (m : Nat) (mv : Int) : Prop := ∀ e, e < J.w → J.load m mv e ≤ J.C e
instance (J : Stps) (m : Nat) (mv : Int) : Decidable (J.Fit m mv) := by unfold Stps.Fit; infer_instance
theorem sumN_le {f g : Nat → Int} : ∀ n, (∀ i, i < n → f i ≤ g i) → sumN f n ≤ sumN g n := by
 intro n
 induction n with
 | zero => intro _; exact Int.le_refl _
 | succ n ih =>
  intro h
  have h1 := ih fun i hi => h i (by omega)
  have h2 := h n (by omega)
  simp only [sumN]; omega
theorem sumN_congr {f g : Nat → Int} : ∀ n, (∀ i, i < n → f i = g i) → sumN f n = sumN g n := by
 intro n
 induction n with
 | zero => intro _; rfl
 | succ n ih =>
  intro h
  simp only [sumN, ih fun i hi => h i (by omega), h n (by omega)]
theorem Stps.Fit.le {J : Stps} {m m' : Nat} {mv mv' : Int} (h : J.Fit m mv) (hle : ∀ e, e < J.w → ∀ i, i < J.n → J.tm m' mv' e i ≤ J.tm m mv e i) : J.Fit m' mv' := by
 intro e he
 have h1 := h e he
 have h2 := sumN_le J.n (hle e he)
 simp only [Stps.load] at *; omega
def bitS (m i : Nat) : Nat := m ||| 2 ^ i
theorem tb_set (m i j : Nat) : (bitS m i).testBit j = (m.testBit j || decide (i = j)) := by
 rw [bitS, Nat.testBit_or, Nat.testBit_two_pow]
theorem tb_set_self (m i : Nat) : (bitS m i).testBit i = true := by rw [tb_set]; simp
theorem tb_set_ne {m i j : Nat} (h : i ≠ j) : (bitS m i).testBit j = m.testBit j := by rw [tb_set]; simp [h]
theorem tb_set_of {m i j : Nat} (h : m.testBit j = true) : (bitS m i).testBit j = true := by rw [tb_set, h]; rfl
def cnt : Nat → Nat → Nat
 | 0, _ => 0
 | n + 1, m => cnt n m + if m.testBit n = true then 0 else 1
theorem cnt_out {m i : Nat} : ∀ {n : Nat}, n ≤ i → cnt n (bitS m i) = cnt n m := by
 intro n
 induction n with
 | zero => intro _; rfl
 | succ n ih =>
  intro h
  rw [cnt, cnt, ih (by omega), tb_set_ne (by omega)]
theorem cnt_set {m i : Nat} (hm : m.testBit i = false) : ∀ {n : Nat}, i < n → cnt n (bitS m i) + 1 = cnt n m := by
 intro n
 induction n with
 | zero => intro h; omega
 | succ n ih =>
  intro h
  rw [cnt, cnt]
  by_cases e : i = n
  ·subst e
   rw [cnt_out (Nat.le_refl _), tb_set_self, hm]; simp
  ·rw [tb_set_ne e]
   have := ih (by omega)
   omega
theorem cnt_zero {m : Nat} : ∀ {n : Nat}, cnt n m = 0 → ∀ i, i < n → m.testBit i = true := by
 intro n
 induction n with
 | zero => intro _ i hi; omega
 | succ n ih =>
  intro h i hi
  rw [cnt] at h
  by_cases e : i = n
  ·subst e
   cases hb : m.testBit i with
   | true => rfl
   | false => rw [hb] at h; simp at h
  ·exact ih (by omega) i (by omega)
theorem cnt_none : ∀ {n : Nat}, cnt n 0 = n := by
 intro n
 induction n with
 | zero => rfl
 | succ n ih => rw [cnt, ih]; simp
def Can (J : Stps) : Nat → Nat → Prop
 | 0, _ => True
 | k + 1, m => ∃ i, i < J.n ∧ m.testBit i = false ∧ J.Fit m i ∧ Can J k (bitS m i)
def Stps.shr (J : Stps) (i : Nat) : Prop := ∀ e, e < J.w → J.A i e ≤ J.B i e
def Stps.gro (J : Stps) (i : Nat) : Prop := ∀ e, e < J.w → J.B i e ≤ J.A i e
structure Kinds (J : Stps) (sh mx : Nat) : Prop where
 sh : ∀ i, sh.testBit i = true ↔ i < J.n ∧ J.shr i
 mx : ∀ i, mx.testBit i = true ↔ i < J.n ∧ ¬ J.shr i ∧ ¬ J.gro i
def CM (J : Stps) (mx : Nat) : Nat → Nat → Prop
 | 0, _ => True
 | k + 1, m => (∀ i, mx.testBit i = true → m.testBit i = true) ∨ ∃ i, i < J.n ∧ mx.testBit i = true ∧ m.testBit i = false ∧ J.Fit m i ∧ CM J mx k (bitS m i)
structure Ahead (J : Stps) (mx m m' : Nat) : Prop where
 s : ∀ i, i < J.n → J.shr i → m'.testBit i = true
 x : ∀ i, mx.testBit i = true → m'.testBit i = m.testBit i
 g : ∀ i, i < J.n → ¬ J.shr i → J.gro i → m'.testBit i = true → m.testBit i = true
theorem Ahead.fit {J : Stps} {sh mx m m' : Nat} (hk : Kinds J sh mx) (h : Ahead J mx m m') {i : Nat} (hf : J.Fit m i) : J.Fit m' i := by
 refine hf.le fun e he j hj => ?_
 unfold Stps.tm
 by_cases e1 : (j : Int) = i
 ·rw [if_pos e1, if_pos e1]; exact Int.le_refl _
 rw [if_neg e1, if_neg e1]
 by_cases h1 : J.shr j
 ·rw [if_pos (h.s j hj h1)]
  have := h1 e he
  split <;> omega
 ·by_cases h2 : J.gro j
  ·have h3 := h.g j hj h1 h2
   have := h2 e he
   cases hb : m'.testBit j with
   | true => rw [h3 hb]; exact Int.le_refl _
   | false =>
    rw [if_neg (by simp)]
    split <;> omega
  ·rw [h.x j ((hk.mx j).2 ⟨hj, h1, h2⟩)]; exact Int.le_refl _
theorem can_cm {J : Stps} {sh mx : Nat} (hk : Kinds J sh mx) : ∀ (k m m' : Nat), cnt J.n m = k → Ahead J mx m m' → Can J k m → CM J mx (cnt J.n m') m' := by
  intro k
  induction k with
  | zero =>
    intro m m' hc ha _
    have hf := cnt_zero hc
    have : ∀ i, mx.testBit i = true → m'.testBit i = true := fun i hi => by
      rw [ha.x i hi]; exact hf i ((hk.mx i).1 hi).1
    cases hc' : cnt J.n m' with
    | zero => trivial
    | succ k' => exact .inl this
  | succ k ih =>
    rintro m m' hc ha ⟨i, hi, hb, hf, hcan⟩
    have hc1 := cnt_set hb hi
    by_cases hx : mx.testBit i = true
    · have hb' : m'.testBit i = false := by rw [ha.x i hx]; exact hb
      have hc2 := cnt_set hb' hi
      have h1 : Ahead J mx (bitS m i) (bitS m' i) :=
        { s := fun j hj h => tb_set_of (ha.s j hj h)
          x := fun j hj => by rw [tb_set, tb_set, ha.x j hj]
          g := fun j hj h h' hb => by
            rw [tb_set, Bool.or_eq_true] at hb ⊢
            rcases hb with hb | hb
            · exact .inl (ha.g j hj h h' hb)
            · exact .inr hb }
      have h2 := ih (bitS m i) (bitS m' i) (by omega) h1 hcan
      rw [← hc2]
      exact .inr ⟨i, hi, hx, hb', ha.fit hk hf, h2⟩
    · have h1 : Ahead J mx (bitS m i) m' :=
        { s := ha.s
          x := fun j hj => by
            rw [tb_set_ne (fun e => by subst e; exact hx hj)]; exact ha.x j hj
          g := fun j hj h h' hb => tb_set_of (ha.g j hj h h' hb) }
      exact ih (bitS m i) m' (by omega) h1 hcan
theorem cm_can {J : Stps} {sh mx : Nat} (hk : Kinds J sh mx) {fu : Nat} (hfu : ∀ i, i < J.n → fu.testBit i = true) (hfit : J.Fit fu (-1)) :
  ∀ (k m : Nat), cnt J.n m = k → (∀ i, sh.testBit i = true → m.testBit i = true) → CM J mx k m → Can J k m := by
 intro k
 induction k with
 | zero => intro _ _ _ _; trivial
 | succ k ih =>
  intro m hc hs hcm
  rcases hcm with h1 | ⟨i, hi, hx, hb, hf, hcm⟩
  ·have : ∃ i, i < J.n ∧ m.testBit i = false := by
    apply Classical.byContradiction
    intro hno
    have : ∀ n, n ≤ J.n → cnt n m = 0 := by
     intro n
     induction n with
     | zero => intro _; rfl
     | succ n ih =>
      intro hn
      have hb : m.testBit n = true := by
       cases hb : m.testBit n with
       | true => rfl
       | false => exact absurd ⟨n, by omega, hb⟩ hno
      rw [cnt, ih (by omega), if_pos hb]
    have := this J.n (Nat.le_refl _)
    omega
   obtain ⟨i, hi, hb⟩ := this
   have hc1 := cnt_set hb hi
   have gr : ∀ j, j < J.n → m.testBit j = false → J.gro j := fun j hj hbj => by
    apply Classical.byContradiction
    intro hg
    by_cases hsj : J.shr j
    ·have := hs j ((hk.sh j).2 ⟨hj, hsj⟩)
     rw [hbj] at this; cases this
    ·have := h1 j ((hk.mx j).2 ⟨hj, hsj, hg⟩)
     rw [hbj] at this; cases this
   have hf : J.Fit m i := hfit.le fun e he j hj => by
    unfold Stps.tm
    rw [if_neg (show ¬ (j : Int) = -1 by omega), hfu j hj, if_pos rfl]
    cases hbj : m.testBit j with
    | true =>
     by_cases e1 : (j : Int) = i
     ·have : j = i := by omega
      subst this; rw [hb] at hbj; cases hbj
     ·rw [if_neg e1, if_pos rfl]; exact Int.le_refl _
    | false =>
     have := gr j hj hbj e he
     split
     ·omega
     ·rw [if_neg (by simp)]; exact this
   refine ⟨i, hi, hb, hf, ih (bitS m i) (by omega) (fun j hj => tb_set_of (hs j hj)) ?_⟩
   cases k with
   | zero => trivial
   | succ k => exact .inl fun j hj => tb_set_of (h1 j hj)
  ·have hc1 := cnt_set hb hi
   exact ⟨i, hi, hb, hf, ih (bitS m i) (by omega) (fun j hj => tb_set_of (hs j hj)) hcm⟩
theorem fit_after {J : Stps} {m i : Nat} (hb : m.testBit i = false) (h : J.Fit m i) : J.Fit (bitS m i) (-1) := h.le fun e _ j _ => by
 unfold Stps.tm
 rw [if_neg (show ¬ (j : Int) = -1 by omega)]
 by_cases e1 : (j : Int) = i
 ·have : j = i := by omega
  subst this
  rw [if_pos rfl, tb_set_self, if_pos rfl]; omega
 ·rw [if_neg e1, tb_set_ne (by omega)]; exact Int.le_refl _
theorem can_sh {J : Stps} {sh mx : Nat} (hk : Kinds J sh mx) : ∀ (k m : Nat), cnt J.n m = k → J.Fit m (-1) → Can J (cnt J.n (m ||| sh)) (m ||| sh) → Can J k m := by
 intro k
 induction k with
 | zero => intro _ _ _ _; trivial
 | succ k ih =>
  intro m hc hf hcan
  by_cases hall : ∀ i, sh.testBit i = true → m.testBit i = true
  ·have : m ||| sh = m := by
    apply Nat.eq_of_testBit_eq
    intro i
    rw [Nat.testBit_or]
    cases hb : sh.testBit i with
    | true => rw [hall i hb]; rfl
    | false => simp
   rw [this, hc] at hcan
   exact hcan
  ·obtain ⟨i, hi⟩ := Classical.not_forall.1 hall
   obtain ⟨hsi, hb⟩ := Classical.not_imp.1 hi
   have hb : m.testBit i = false := by simpa using hb
   obtain ⟨hin, hsh⟩ := (hk.sh i).1 hsi
   have hc1 := cnt_set hb hin
   have hfi : J.Fit m i := hf.le fun e he j hj => by
    unfold Stps.tm
    rw [if_neg (show ¬ (j : Int) = -1 by omega)]
    by_cases e1 : (j : Int) = i
    ·have : j = i := by omega
     subst this
     have := hsh e he
     rw [if_pos rfl, hb, if_neg (by simp)]; omega
    ·rw [if_neg e1]; exact Int.le_refl _
   have e2 : bitS m i ||| sh = m ||| sh := by
    apply Nat.eq_of_testBit_eq
    intro j
    rw [Nat.testBit_or, Nat.testBit_or, tb_set]
    by_cases e : i = j
    ·subst e; rw [hsi]; simp
    ·simp [e]
   refine ⟨i, hin, hb, hfi, ih (bitS m i) (by omega) (fit_after hb hfi) (by rw [e2]; exact hcan)⟩
theorem complete_spec {J : Stps} {sh mx : Nat} (hk : Kinds J sh mx) {fu : Nat} (hfu : ∀ i, i < J.n → fu.testBit i = true) (hfit : J.Fit fu (-1)) {m : Nat} (hf : J.Fit m (-1)) :
  CM J mx (cnt J.n (m ||| sh)) (m ||| sh) ↔ Can J (cnt J.n m) m := by
 constructor
 ·intro h
  exact can_sh hk _ m rfl hf (cm_can hk hfu hfit _ _ rfl (fun i hi => by rw [Nat.testBit_or, hi]; simp) h)
 ·intro h
  refine can_cm hk _ m (m ||| sh) rfl ⟨fun i hi hs => ?_, fun i hi => ?_, fun i hi h1 _ hb => ?_⟩ h
  ·rw [Nat.testBit_or, (hk.sh i).2 ⟨hi, hs⟩]; simp
  ·have : sh.testBit i = false := by
    cases hb : sh.testBit i with
    | false => rfl
    | true => exact absurd ((hk.sh i).1 hb).2 ((hk.mx i).1 hi).2.1
   rw [Nat.testBit_or, this]; simp
  ·rw [Nat.testBit_or, Bool.or_eq_true] at hb
   rcases hb with hb | hb
   ·exact hb
   ·exact absurd ((hk.sh i).1 hb).2 h1
def fndN {α : Type} (p : Nat → Option α) : Nat → Nat → Option α
 | 0, _ => none
 | f + 1, i => match p i with
  | some x => some x
  | none => fndN p f (i + 1)
theorem fndN_hit {α : Type} {p : Nat → Option α} {x : Option α} {i : Nat} (hx : p i = x) (hs : x.isSome = true) : ∀ {f i0 : Nat}, i0 ≤ i → i < i0 + f → (∀ j, i0 ≤ j → j < i → p j = none) → fndN p f i0 = x := by
 intro f
 induction f with
 | zero => intro i0 h1 h2; omega
 | succ f ih =>
  intro i0 h1 h2 h3
  rw [fndN]
  by_cases e : i0 = i
  ·subst e
   rw [hx]
   cases x with
   | none => cases hs
   | some x => rfl
  ·rw [h3 i0 (Nat.le_refl _) (by omega)]
   exact ih (by omega) (by omega) fun j hj => h3 j (by omega)
theorem fndN_no {α : Type} {p : Nat → Option α} : ∀ {f i0 : Nat}, (∀ j, i0 ≤ j → j < i0 + f → p j = none) → fndN p f i0 = none := by
 intro f
 induction f with
 | zero => intro i0 _; rfl
 | succ f ih =>
  intro i0 h
  rw [fndN, h i0 (Nat.le_refl _) (by omega)]
  exact ih fun j h1 h2 => h j (by omega) (by omega)
theorem fndN_some {α : Type} {p : Nat → Option α} {x : α} : ∀ {f i0 : Nat}, fndN p f i0 = some x → ∃ j, i0 ≤ j ∧ j < i0 + f ∧ p j = some x := by
 intro f
 induction f with
 | zero => intro i0 h; cases h
 | succ f ih =>
  intro i0 h
  rw [fndN] at h
  split at h
  ·rename_i y hy
   cases h
   exact ⟨i0, Nat.le_refl _, by omega, hy⟩
  ·obtain ⟨j, h1, h2, h3⟩ := ih h
   exact ⟨j, by omega, by omega, h3⟩
theorem fndN_none {α : Type} {p : Nat → Option α} : ∀ {f i0 : Nat}, fndN p f i0 = none → ∀ j, i0 ≤ j → j < i0 + f → p j = none := by
 intro f
 induction f with
 | zero => intro i0 _ j h1 h2; omega
 | succ f ih =>
  intro i0 h j h1 h2
  rw [fndN] at h
  split at h
  ·cases h
  ·rename_i hy
   by_cases e : i0 = j
   ·subst e; exact hy
   ·exact ih h j (by omega) (by omega)
def dfs (J : Stps) : Nat → Nat → List Nat → Option (List Nat)
 | 0, _, acc => some acc
 | k + 1, m, acc => fndN (fun i => if m.testBit i = false ∧ J.Fit m i then dfs J k (bitS m i) (acc ++ [i]) else none) J.n 0
theorem dfs_can {J : Stps} : ∀ (k m : Nat) (acc : List Nat), (dfs J k m acc).isSome = true ↔ Can J k m := by
 intro k
 induction k with
 | zero => intro m acc; simp [dfs, Can]
 | succ k ih =>
  intro m acc
  constructor
  ·intro h
   obtain ⟨x, hx⟩ := Option.isSome_iff_exists.1 h
   obtain ⟨i, _, h2, h3⟩ := fndN_some hx
   split at h3
   ·rename_i hc
    exact ⟨i, by omega, hc.1, hc.2, (ih _ (acc ++ [i])).1 (by rw [h3]; rfl)⟩
   ·cases h3
  ·rintro ⟨i, h1, h2, h3, h4⟩
   cases hd : dfs J (k + 1) m acc with
   | some x => rfl
   | none =>
    have := fndN_none hd i (Nat.zero_le _) (by omega)
    rw [if_pos ⟨h2, h3⟩] at this
    have h5 := (ih (bitS m i) (acc ++ [i])).2 h4
    rw [this] at h5; cases h5
def Good (J : Stps) (k m i : Nat) : Prop := m.testBit i = false ∧ J.Fit m i ∧ Can J k (bitS m i)
theorem dfs_bad {J : Stps} {k m i : Nat} {acc : List Nat} (h : ¬ Good J k m i) : (if m.testBit i = false ∧ J.Fit m i then dfs J k (bitS m i) (acc ++ [i]) else none) = none := by
 split
 ·rename_i hc
  cases hd : dfs J k (bitS m i) (acc ++ [i]) with
  | none => rfl
  | some x => exact absurd ⟨hc.1, hc.2, (dfs_can _ _ (acc ++ [i])).1 (by rw [hd]; rfl)⟩ h
 ·rfl
theorem dfs_step {J : Stps} {k m i : Nat} {acc : List Nat} (hi : i < J.n) (h : Good J k m i) (hb : ∀ j, j < i → ¬ Good J k m j) : dfs J (k + 1) m acc = dfs J k (bitS m i) (acc ++ [i]) := by
 rw [dfs]
 exact fndN_hit (by rw [if_pos ⟨h.1, h.2.1⟩]) ((dfs_can _ _ _).2 h.2.2) (Nat.zero_le _) (by omega) fun j _ hj => dfs_bad (hb j hj)
theorem dfs_none {J : Stps} {k m : Nat} {acc : List Nat} (hb : ∀ j, j < J.n → ¬ Good J k m j) : dfs J (k + 1) m acc = none :=
 fndN_no fun j _ hj => dfs_bad (hb j (by omega))
def Seq (J : Stps) : Nat → List Nat → Prop
 | _, [] => True
 | m, i :: s => J.Fit m i ∧ J.Fit (bitS m i) (-1) ∧ Seq J (bitS m i) s
def Fresh (J : Stps) : Nat → List Nat → Prop
 | _, [] => True
 | m, i :: s => i < J.n ∧ m.testBit i = false ∧ Fresh J (bitS m i) s
theorem dfs_seq {J : Stps} : ∀ (k m : Nat) (acc o : List Nat), dfs J k m acc = some o → ∃ s, o = acc ++ s ∧ s.length = k ∧ Fresh J m s ∧ Seq J m s := by
 intro k
 induction k with
 | zero => intro m acc o h; cases h; exact ⟨[], by simp, rfl, trivial, trivial⟩
 | succ k ih =>
  intro m acc o h
  obtain ⟨i, _, h2, h3⟩ := fndN_some h
  split at h3
  ·rename_i hc
   obtain ⟨s, g1, g2, g3, g4⟩ := ih _ _ _ h3
   exact ⟨i :: s, by rw [g1]; simp, by simp [g2], ⟨by omega, hc.1, g3⟩, ⟨hc.2, fit_after hc.1 hc.2, g4⟩⟩
  ·cases h3
theorem seq_can {J : Stps} : ∀ (s : List Nat) (m : Nat), Fresh J m s → Seq J m s → Can J s.length m := by
 intro s
 induction s with
 | nil => intro m _ _; trivial
 | cons i s ih => intro m h1 h2; exact ⟨i, h1.1, h1.2.1, h2.1, ih _ h1.2.2 h2.2.2⟩
end Go.Ab

/-
  Contracts, part b: topologies.
-/
namespace Go.Ab
open Go.Proofs
def okLk (n : Int) (l : Lk) : Bool :=
 decide (0 ≤ l.a ∧ l.a ≤ n - 1) && decide (0 ≤ l.b ∧ l.b ≤ n - 1) && !decide (l.a = l.b) && decide (1 ≤ l.c0 ∧ l.c0 ≤ 65535) && decide (1 ≤ l.c1 ∧ l.c1 ≤ 65535) &&
 decide (0 ≤ l.cap ∧ l.cap ≤ 1048576) && decide (1 ≤ l.dl ∧ l.dl ≤ 65536) && decide (0 ≤ l.gr ∧ l.gr ≤ 64)
def validT (t : Top) : Bool :=
 decide (1 ≤ t.nodes ∧ t.nodes ≤ 64) && (decide (t.ov.length = 0) || decide ((t.ov.length : Int) = t.nodes)) && decide (t.links.length ≤ 256) && t.links.all (okLk t.nodes)
theorem okLk_spec {n : Int} {l : Lk} : okLk n l = true ↔ (0 ≤ l.a ∧ l.a ≤ n - 1) ∧ (0 ≤ l.b ∧ l.b ≤ n - 1) ∧ l.a ≠ l.b ∧ (1 ≤ l.c0 ∧ l.c0 ≤ 65535) ∧ (1 ≤ l.c1 ∧ l.c1 ≤ 65535) ∧
  (0 ≤ l.cap ∧ l.cap ≤ 1048576) ∧ (1 ≤ l.dl ∧ l.dl ≤ 65536) ∧ (0 ≤ l.gr ∧ l.gr ≤ 64) := by
 simp only [okLk, Bool.and_eq_true, decide_eq_true_eq, Bool.not_eq_true', decide_eq_false_iff_not, and_assoc, ne_eq]
theorem validT_spec {t : Top} : validT t = true ↔ (1 ≤ t.nodes ∧ t.nodes ≤ 64) ∧ ((t.ov.length : Int) = 0 ∨ (t.ov.length : Int) = t.nodes) ∧ (t.links.length : Int) ≤ 256 ∧ ∀ l ∈ t.links, okLk t.nodes l = true := by
 simp only [validT, Bool.and_eq_true, Bool.or_eq_true, decide_eq_true_eq, List.all_eq_true, and_assoc]
 constructor
 ·rintro ⟨h1, h2, h3, h4, h5⟩; exact ⟨h1, h2, by omega, by omega, h5⟩
 ·rintro ⟨h1, h2, h3, h4, h5⟩; exact ⟨h1, h2, by omega, by omega, h5⟩
def lkAt (t : Top) (a : Int) : Lk := (t.links[(a / 2).toNat]?).getD default
theorem tdiv2 {x : Int} (h1 : 0 ≤ x) (h2 : x < 9223372036854775808) : IntKind.i64.wrap (x.tdiv 2) = x / 2 := by
 rw [Int.tdiv_eq_ediv_of_nonneg h1, wrap64]; omega
end Go.Ab

/-
  Updates, part b: sets of tunnels, what they put on the arcs, and orders, plainly.
-/
namespace Go.Ab
open Go.Proofs
structure Tn where
 (id : Int) (arcs : List Int) (rate : Int)
 deriving DecidableEq
def encTn (x : Tn) : List D := [iD x.id, intsD x.arcs, iD x.rate]
abbrev tnsD (l : List Tn) : D := .list false 3 (l.map encTn)
abbrev tnsA (l : List Tn) : AV := .c (.d (tnsD l))
def tnA (x : Tn) : AV := .agg [.d (iD x.id), .d (intsD x.arcs), .d (iD x.rate)]
def namedS (l : List Tn) : Bool := decide ((l.map (·.id)).Nodup) && decide (l.length ≤ 12)
def okTn (n : Int) (x : Tn) : Prop := 0 ≤ x.id ∧ (1 ≤ x.arcs.length ∧ x.arcs.length ≤ 64) ∧ (1 ≤ x.rate ∧ x.rate ≤ 1048576) ∧ x.arcs.Nodup ∧ ∀ a ∈ x.arcs, 0 ≤ a ∧ a < n
instance (n : Int) (x : Tn) : Decidable (okTn n x) := by unfold okTn; infer_instance
def properS (t : Top) (l : List Tn) : Bool := validT t && namedS l && decide (∀ x ∈ l, okTn (2 * (t.links.length : Int)) x)
def findS (l : List Tn) (id : Int) : Option Tn := l.find? fun x => decide (x.id = id)
def eqS (a b : List Tn) (id : Int) : Bool := decide (findS a id = findS b id)
def insS : List Int → Int → List Int
 | [], n => [n]
 | x :: r, n => if x < n then x :: insS r n else if x = n then x :: r else n :: x :: r
def chS (a b : List Tn) : List Int := ((a ++ b).map (·.id)).foldl (fun l i => if eqS a b i = true then l else insS l i) []
def changedS (a b : List Tn) : List Int := if namedS a = true ∧ namedS b = true then chS a b else []
def idsS (a b : List Tn) : List Int := (b.map (·.id)).foldl insS ((a.map (·.id)).foldl insS [])
def rateS (l : List Tn) (id arc : Int) : Int := match findS l id with
 | none => 0
 | some x => if arc ∈ x.arcs then x.rate else 0
def ctS (a b : List Tn) (done : List Int) (mv n id : Int) : Int := if id ∈ done then rateS b id n else if id = mv then max (rateS a id n) (rateS b id n) else rateS a id n
def loadS (a b : List Tn) (done : List Int) (mv n : Int) : Int := ((idsS a b).map (ctS a b done mv n)).sum
def loadsS (t : Top) (a b : List Tn) (done : List Int) (mv : Int) : List Int := (List.range (2 * t.links.length)).map fun (n : Nat) => loadS a b done mv n
def fitsS (t : Top) (l : List Int) : Bool := decide (∀ e, e < l.length → (l[e]?).getD 0 ≤ (lkAt t e).cap)
def stayS (a b : List Tn) (e : Int) : Int := (a.map fun x => if x.id ∈ changedS a b then 0 else if e ∈ x.arcs then x.rate else 0).sum
def stepsT (t : Top) (a b : List Tn) : Stps :=
 { n := (changedS a b).length, w := 2 * t.links.length, B := fun i e => rateS a ((changedS a b).getD i 0) e, A := fun i e => rateS b ((changedS a b).getD i 0) e, S := fun e => stayS a b e, C := fun e => (lkAt t e).cap }
def fullM (n : Nat) : Nat := 2 ^ n - 1
def maskS (ch done : List Int) : Nat := done.foldl (fun m id => bitS m (ch.idxOf id)) 0
def goodD (ch done : List Int) : Prop := done.Nodup ∧ ∀ x ∈ done, x ∈ ch
instance (ch done : List Int) : Decidable (goodD ch done) := by unfold goodD; infer_instance
def loadsRes (t : Top) (a b : List Tn) (done : List Int) (mv : Int) : List Int × Int :=
 if ¬ (properS t a = true ∧ properS t b = true) then ([], 1) else if ¬ goodD (changedS a b) done then ([], 1) else if mv ≠ -1 ∧ ¬ (mv ∈ changedS a b ∧ mv ∉ done) then ([], 1) else (loadsS t a b done mv, 0)
instance Seq.dec (J : Stps) : ∀ (l : List Nat) (m : Nat), Decidable (Seq J m l)
 | [], _ => isTrue trivial
 | i :: s, m => by
  have := Seq.dec J s (bitS m i)
  unfold Seq
  infer_instance
def checkRes (t : Top) (a b : List Tn) (order : List Int) : Int :=
 if ¬ (properS t a = true ∧ properS t b = true) then 1 else if ¬ (goodD (changedS a b) order ∧ order.length = (changedS a b).length) then 1
 else if (stepsT t a b).Fit 0 (-1) ∧ Seq (stepsT t a b) 0 (order.map (changedS a b).idxOf) then 0 else 12
def orderRes (t : Top) (a b : List Tn) : List Int × Int :=
 if ¬ (properS t a = true ∧ properS t b = true) then ([], 1) else if ¬ ((stepsT t a b).Fit 0 (-1) ∧ (stepsT t a b).Fit (fullM (changedS a b).length) (-1)) then ([], 12)
 else match dfs (stepsT t a b) (changedS a b).length 0 [] with
  | none => ([], 8)
  | some o => (o.map fun i => (changedS a b).getD i 0, 0)
/-! increasing lists -/
theorem mem_ins {n z : Int} : ∀ {l : List Int}, z ∈ insS l n ↔ z = n ∨ z ∈ l := by
 intro l
 induction l with
 | nil => simp [insS]
 | cons x r ih =>
  rw [insS]
  split
  ·rw [List.mem_cons, ih, List.mem_cons]; exact or_left_comm
  ·split
   ·rename_i h; subst h; simp
   ·rw [List.mem_cons]
theorem sinc_ins {n : Int} : ∀ {l : List Int}, l.Pairwise (· < ·) → (insS l n).Pairwise (· < ·) := by
 intro l
 induction l with
 | nil => intro _; simp [insS]
 | cons x r ih =>
  intro h
  obtain ⟨h1, h2⟩ := List.pairwise_cons.1 h
  rw [insS]
  split
  ·rename_i hx
   refine List.pairwise_cons.2 ⟨fun z hz => ?_, ih h2⟩
   rcases mem_ins.1 hz with rfl | hz
   ·exact hx
   ·exact h1 z hz
  ·split
   ·exact h
   ·refine List.pairwise_cons.2 ⟨fun z hz => ?_, h⟩
    rcases List.mem_cons.1 hz with rfl | hz
    ·omega
    ·have := h1 z hz; omega
theorem fold_ins : ∀ (l : List Int) (s : List Int), s.Pairwise (· < ·) → (l.foldl insS s).Pairwise (· < ·) ∧ ∀ z, z ∈ l.foldl insS s ↔ z ∈ s ∨ z ∈ l := by
 intro l
 induction l with
 | nil => intro s h; exact ⟨h, by simp⟩
 | cons x r ih =>
  intro s h
  obtain ⟨h1, h2⟩ := ih (insS s x) (sinc_ins h)
  refine ⟨h1, fun z => ?_⟩
  rw [List.foldl_cons, h2, mem_ins, List.mem_cons]
  constructor
  ·rintro ((h | h) | h)
   ·exact .inr (.inl h)
   ·exact .inl h
   ·exact .inr (.inr h)
  ·rintro (h | h | h)
   ·exact .inl (.inr h)
   ·exact .inl (.inl h)
   ·exact .inr h
theorem fold_insP {p : Int → Bool} : ∀ (l : List Int) (s : List Int), s.Pairwise (· < ·) →
  (l.foldl (fun l i => if p i = true then l else insS l i) s).Pairwise (· < ·) ∧ ∀ z, z ∈ l.foldl (fun l i => if p i = true then l else insS l i) s ↔ z ∈ s ∨ (z ∈ l ∧ p z = false) := by
 intro l
 induction l with
 | nil => intro s h; exact ⟨h, by simp⟩
 | cons x r ih =>
  intro s h
  rw [List.foldl_cons]
  by_cases hp : p x = true
  ·rw [if_pos hp]
   obtain ⟨h1, h2⟩ := ih s h
   refine ⟨h1, fun z => ?_⟩
   rw [h2, List.mem_cons]
   constructor
   ·rintro (h | h)
    ·exact .inl h
    ·exact .inr ⟨.inr h.1, h.2⟩
   ·rintro (h | ⟨rfl | h, hz⟩)
    ·exact .inl h
    ·rw [hp] at hz; cases hz
    ·exact .inr ⟨h, hz⟩
  ·rw [if_neg hp]
   have hp : p x = false := by simpa using hp
   obtain ⟨h1, h2⟩ := ih (insS s x) (sinc_ins h)
   refine ⟨h1, fun z => ?_⟩
   rw [h2, mem_ins, List.mem_cons]
   constructor
   ·rintro ((rfl | h) | h)
    ·exact .inr ⟨.inl rfl, hp⟩
    ·exact .inl h
    ·exact .inr ⟨.inr h.1, h.2⟩
   ·rintro (h | ⟨rfl | h, hz⟩)
    ·exact .inl (.inr h)
    ·exact .inl (.inl rfl)
    ·exact .inr ⟨h, hz⟩
theorem lt_nodup {l : List Int} (h : l.Pairwise (· < ·)) : l.Nodup := h.imp fun h e => by omega
theorem chS_inc (a b : List Tn) : (chS a b).Pairwise (· < ·) := (fold_insP _ [] .nil).1
theorem chS_mem {a b : List Tn} {z : Int} : z ∈ chS a b ↔ (z ∈ a.map (·.id) ∨ z ∈ b.map (·.id)) ∧ eqS a b z = false := by
 rw [chS, (fold_insP _ [] .nil).2]
 simp only [List.not_mem_nil, false_or, List.map_append, List.mem_append]
theorem changed_inc (a b : List Tn) : (changedS a b).Pairwise (· < ·) := by
 unfold changedS
 split
 ·exact chS_inc a b
 ·exact .nil
theorem idsS_inc (a b : List Tn) : (idsS a b).Pairwise (· < ·) := (fold_ins _ _ (fold_ins _ [] .nil).1).1
theorem idsS_mem {a b : List Tn} {z : Int} : z ∈ idsS a b ↔ z ∈ a.map (·.id) ∨ z ∈ b.map (·.id) := by
 rw [idsS, (fold_ins _ _ (fold_ins _ [] .nil).1).2, (fold_ins _ [] .nil).2]
 simp only [List.not_mem_nil, false_or]
/-! finding -/
theorem findS_none {l : List Tn} {id : Int} : findS l id = none ↔ id ∉ l.map (·.id) := by
 rw [findS, List.find?_eq_none]
 simp only [decide_eq_true_eq, List.mem_map, not_exists, not_and]
theorem findS_some {l : List Tn} {id : Int} {x : Tn} (h : findS l id = some x) : x ∈ l ∧ x.id = id := by
 rw [findS] at h
 exact ⟨List.mem_of_find?_eq_some h, by simpa using List.find?_some h⟩
theorem findS_of {l : List Tn} (hn : (l.map (·.id)).Nodup) {x : Tn} (hx : x ∈ l) : findS l x.id = some x := by
 induction l with
 | nil => cases hx
 | cons y l ih =>
  simp only [List.map_cons, List.nodup_cons] at hn
  rw [findS, List.find?_cons]
  by_cases e : y.id = x.id
  ·rw [decide_eq_true e]
   rcases List.mem_cons.1 hx with rfl | h
   ·rfl
   ·exact absurd (List.mem_map.2 ⟨x, h, e.symm⟩) hn.1
  ·rw [decide_eq_false e]
   rcases List.mem_cons.1 hx with rfl | h
   ·exact absurd rfl e
   ·exact ih hn.2 h
/-! sums -/
theorem sum_split (p : Int → Bool) (f : Int → Int) : ∀ l : List Int, (l.map f).sum = ((l.filter p).map f).sum + ((l.filter fun x => !p x).map f).sum := by
 intro l
 induction l with
 | nil => rfl
 | cons x l ih =>
  rw [List.map_cons, List.sum_cons, ih, List.filter_cons, List.filter_cons]
  cases p x <;> simp <;> omega
theorem sum_same {f : Int → Int} : ∀ {a b : List Int}, a.Nodup → b.Nodup → (∀ z, z ∈ a ↔ z ∈ b) → (a.map f).sum = (b.map f).sum := by
 intro a
 induction a with
 | nil =>
  intro b _ _ h
  cases b with
  | nil => rfl
  | cons y b => exact absurd ((h y).2 (by simp)) (by simp)
 | cons x a ih =>
  intro b ha hb h
  obtain ⟨s, t, rfl⟩ := List.append_of_mem ((h x).1 (by simp))
  obtain ⟨h1, h2⟩ := List.nodup_cons.1 ha
  have hp : (s ++ x :: t).Perm (x :: (s ++ t)) := List.perm_middle
  obtain ⟨h3, h4⟩ := List.nodup_cons.1 (hp.nodup_iff.1 hb)
  have := ih h2 h4 fun z => by
   constructor
   ·intro hz
    have h5 := (h z).1 (by simp [hz])
    rcases List.mem_cons.1 (hp.mem_iff.1 h5) with rfl | h6
    ·exact absurd hz h1
    ·exact h6
   ·intro hz
    have h5 := (h z).2 (hp.mem_iff.2 (by simp [hz]))
    rcases List.mem_cons.1 h5 with rfl | h6
    ·exact absurd hz h3
    ·exact h6
  rw [List.map_cons, List.sum_cons, this]
  simp only [List.map_append, List.map_cons, List.sum_append, List.sum_cons]
  omega
theorem sum_map_eq {f g : Int → Int} : ∀ {l : List Int}, (∀ x ∈ l, f x = g x) → (l.map f).sum = (l.map g).sum := by
 intro l h
 rw [List.map_congr_left h]
theorem sumN_list (f : Int → Int) : ∀ l : List Int, sumN (fun i => f (l.getD i 0)) l.length = (l.map f).sum := by
 intro l
 have h : ∀ k, k ≤ l.length → sumN (fun i => f (l.getD i 0)) k = ((l.take k).map f).sum := by
  intro k
  induction k with
  | zero => intro _; simp [sumN]
  | succ k ih =>
   intro hk
   have hx : l[k]? = some (l[k]'(by omega)) := List.getElem?_eq_getElem _
   rw [sumN, ih (by omega), take_succ_get hx, List.map_append, List.sum_append, List.getD_eq_getElem?_getD, hx]
   simp
 rw [h l.length (Nat.le_refl _), List.take_length]
/-! sets of changed IDs -/
theorem nodup_idx {l : List Int} (h : l.Nodup) {i : Nat} {x : Int} (hi : l[i]? = some x) : l.idxOf x = i := by
 induction l generalizing i with
 | nil => simp at hi
 | cons y l ih =>
  obtain ⟨h1, h2⟩ := List.nodup_cons.1 h
  cases i with
  | zero => simp at hi; subst hi; simp
  | succ i =>
   have hi : l[i]? = some x := by simpa using hi
   have hne : y ≠ x := fun e => h1 (by rw [e]; exact List.mem_of_getElem? hi)
   rw [List.idxOf_cons, beq_eq_false_iff_ne.2 hne, cond_false, ih h2 hi]
theorem idx_get {l : List Int} {x : Int} (h : x ∈ l) : l[l.idxOf x]? = some x := by
 induction l with
 | nil => cases h
 | cons y l ih =>
  by_cases e : y = x
  ·subst e; simp
  ·rw [List.idxOf_cons, beq_eq_false_iff_ne.2 e, cond_false, List.getElem?_cons_succ]
   rcases List.mem_cons.1 h with rfl | h
   ·exact absurd rfl e
   ·exact ih h
theorem idx_lt {l : List Int} {x : Int} (h : x ∈ l) : l.idxOf x < l.length := (List.getElem?_eq_some_iff.1 (idx_get h)).1
theorem fold_tb (f : Int → Nat) (i : Nat) : ∀ (done : List Int) (m : Nat), (done.foldl (fun m id => bitS m (f id)) m).testBit i = true ↔ m.testBit i = true ∨ ∃ x ∈ done, f x = i := by
 intro done
 induction done with
 | nil => intro m; simp
 | cons x r ih =>
  intro m
  rw [List.foldl_cons, ih, tb_set, Bool.or_eq_true, decide_eq_true_eq]
  simp only [List.mem_cons, exists_eq_or_imp, or_assoc]
theorem mask_tb {ch done : List Int} (hc : ch.Nodup) (hd : ∀ x ∈ done, x ∈ ch) {i : Nat} {x : Int} (hi : ch[i]? = some x) : (maskS ch done).testBit i = true ↔ x ∈ done := by
 rw [maskS, fold_tb]
 simp only [Nat.zero_testBit, Bool.false_eq_true, false_or]
 constructor
 ·rintro ⟨y, hy, e⟩
  have := idx_get (hd y hy)
  rw [e, hi] at this
  cases this; exact hy
 ·intro h
  exact ⟨x, h, nodup_idx hc hi⟩
theorem mask_snoc (ch done : List Int) (x : Int) : maskS ch (done ++ [x]) = bitS (maskS ch done) (ch.idxOf x) := by
 simp [maskS]
/-! the loads of the steps -/
theorem namedS_spec {l : List Tn} : namedS l = true ↔ (l.map (·.id)).Nodup ∧ l.length ≤ 12 := by simp [namedS]
theorem properS_spec {t : Top} {l : List Tn} : properS t l = true ↔ validT t = true ∧ ((l.map (·.id)).Nodup ∧ l.length ≤ 12) ∧ ∀ x ∈ l, okTn (2 * (t.links.length : Int)) x := by
 simp only [properS, Bool.and_eq_true, namedS_spec, decide_eq_true_eq, and_assoc]
theorem changed_eq {t : Top} {a b : List Tn} (ha : properS t a = true) (hb : properS t b = true) : changedS a b = chS a b := by
 have h1 := (properS_spec.1 ha).2.1
 have h2 := (properS_spec.1 hb).2.1
 rw [changedS, if_pos ⟨namedS_spec.2 h1, namedS_spec.2 h2⟩]
theorem load_eq {t : Top} {a b : List Tn} (ha : properS t a = true) (hb : properS t b = true) {done : List Int} (hd : ∀ x ∈ done, x ∈ changedS a b) {mv : Int} {mi : Int}
  (hm : (mv = -1 ∧ mi = -1) ∨ (mv ∉ done ∧ ∃ j : Nat, mi = j ∧ (changedS a b)[j]? = some mv)) (e : Nat) :
  loadS a b done mv e = (stepsT t a b).load (maskS (changedS a b) done) mi e := by
 have hce := changed_eq ha hb
 have hinc := changed_inc a b
 have hcn := lt_nodup hinc
 have a1 := properS_spec.1 ha
 have b1 := properS_spec.1 hb
 have hneg : ∀ x, x ∈ changedS a b → 0 ≤ x := by
  intro x hx
  rw [hce, chS_mem] at hx
  rcases hx.1 with h | h
  ·obtain ⟨y, hy, rfl⟩ := List.mem_map.1 h; exact (a1.2.2 y hy).1
  ·obtain ⟨y, hy, rfl⟩ := List.mem_map.1 h; exact (b1.2.2 y hy).1
 have hmem : ∀ z, z ∈ changedS a b → z ∈ idsS a b := fun z hz => by
  rw [hce, chS_mem] at hz
  exact idsS_mem.2 hz.1
 have hmv : mv ∉ done ∧ (mv = -1 ∨ mv ∈ changedS a b) := by
  rcases hm with ⟨rfl, _⟩ | ⟨h, j, _, hj⟩
  ·exact ⟨fun h => by have := hneg _ (hd _ h); omega, .inl rfl⟩
  ·exact ⟨h, .inr (List.mem_of_getElem? hj)⟩
 rw [loadS, sum_split fun x => decide (x ∈ changedS a b)]
 have e1 : ((List.filter (fun x => decide (x ∈ changedS a b)) (idsS a b)).map (ctS a b done mv e)).sum = sumN ((stepsT t a b).tm (maskS (changedS a b) done) mi e) (changedS a b).length := by
  rw [sum_same (b := changedS a b) ((lt_nodup (idsS_inc a b)).filter _) hcn fun z => by
   rw [List.mem_filter, decide_eq_true_eq]
   exact ⟨fun h => h.2, fun h => ⟨hmem z h, h⟩⟩, ← sumN_list]
  refine sumN_congr _ fun i hi => ?_
  have hx : (changedS a b)[i]? = some ((changedS a b)[i]) := List.getElem?_eq_getElem hi
  generalize (changedS a b)[i] = x at hx
  have hg : (changedS a b).getD i 0 = x := by rw [List.getD_eq_getElem?_getD, hx]; rfl
  have htb := mask_tb hcn hd hx
  have hxn := hneg x (List.mem_of_getElem? hx)
  simp only [Stps.tm, stepsT, hg, ctS]
  have hmi : ((i : Int) = mi) ↔ x = mv := by
   rcases hm with ⟨rfl, rfl⟩ | ⟨h, j, rfl, hj⟩
   ·constructor
    ·intro h; omega
    ·intro h; omega
   ·constructor
    ·intro h
     have : i = j := by omega
     subst this
     rw [hx] at hj; exact Option.some.inj hj
    ·intro h
     subst h
     have h1 := nodup_idx hcn hx
     have h2 := nodup_idx hcn hj
     omega
  by_cases hdx : x ∈ done
  ·have hne : ¬ x = mv := fun e => by subst e; exact hmv.1 hdx
   rw [if_pos hdx, if_neg (fun h => hne (hmi.1 h)), if_pos (htb.2 hdx)]
  ·rw [if_neg hdx]
   by_cases hxm : x = mv
   ·rw [if_pos hxm, if_pos (hmi.2 hxm)]
   ·rw [if_neg hxm, if_neg (fun h => hxm (hmi.1 h)), if_neg (fun h => hdx (htb.1 h))]
 have e2 : ((List.filter (fun x => !decide (x ∈ changedS a b)) (idsS a b)).map (ctS a b done mv e)).sum = stayS a b e := by
  have s1 : stayS a b e = ((a.map (·.id)).map fun id => if id ∈ changedS a b then 0 else rateS a id e).sum := by
   rw [stayS, List.map_map]
   congr 1
   refine List.map_congr_left fun x hx => ?_
   simp only [Function.comp_def]
   split
   ·rfl
   ·rw [rateS, findS_of a1.2.1.1 hx]
  rw [s1, sum_split (fun x => decide (x ∈ changedS a b)) (fun id => if id ∈ changedS a b then 0 else rateS a id e) (a.map (·.id))]
  have s2 : ((List.filter (fun x => decide (x ∈ changedS a b)) (a.map (·.id))).map fun id => if id ∈ changedS a b then 0 else rateS a id e).sum = 0 := by
   have : ∀ l : List Int, (∀ z ∈ l, z ∈ changedS a b) → (l.map fun id => if id ∈ changedS a b then 0 else rateS a id e).sum = 0 := by
    intro l
    induction l with
    | nil => intro _; rfl
    | cons x l ih =>
     intro h
     rw [List.map_cons, List.sum_cons, if_pos (h x (by simp)), ih fun z hz => h z (by simp [hz])]; rfl
   exact this _ fun z hz => by simpa using (List.mem_filter.1 hz).2
  rw [s2, Int.zero_add]
  have hz : ∀ z, z ∈ List.filter (fun x => !decide (x ∈ changedS a b)) (idsS a b) ↔ z ∈ List.filter (fun x => !decide (x ∈ changedS a b)) (a.map fun x : Tn => x.id) := fun z => by
   rw [List.mem_filter, List.mem_filter, idsS_mem]
   constructor
   ·rintro ⟨h1, h2⟩
    refine ⟨?_, h2⟩
    rcases h1 with h1 | h1
    ·exact h1
    ·apply Classical.byContradiction
     intro hna
     have : z ∈ changedS a b := by
      rw [hce, chS_mem]
      refine ⟨.inr h1, ?_⟩
      have n1 := findS_none.2 hna
      rw [eqS, n1]
      cases hf : findS b z with
      | none => exact absurd h1 (findS_none.1 hf)
      | some x => rfl
     simp [this] at h2
   ·rintro ⟨h1, h2⟩
    exact ⟨.inl h1, h2⟩
  rw [sum_same (List.Pairwise.filter _ (lt_nodup (idsS_inc a b))) (List.Pairwise.filter _ a1.2.1.1) hz]
  refine sum_map_eq fun z hz => ?_
  have hzc : z ∉ changedS a b := by simpa using (List.mem_filter.1 hz).2
  rw [ctS, if_neg (fun h => hzc (hd z h)), if_neg, if_neg hzc]
  intro e
  subst e
  rcases hmv.2 with h | h
  ·have hz1 := (List.mem_filter.1 hz).1
   obtain ⟨y, hy, e⟩ := List.mem_map.1 hz1
   have := (a1.2.2 y hy).1
   omega
  ·exact hzc h
 rw [e1, e2]
 simp only [Stps.load, stepsT]
 omega
end Go.Ab

