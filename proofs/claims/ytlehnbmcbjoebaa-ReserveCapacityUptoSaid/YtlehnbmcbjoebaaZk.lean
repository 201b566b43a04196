/-
  Merged texts, part k.
-/
import Derived.Test.YtlehnbmcbjoebaaZj
import Derived.Test.YtlehnbmcbjoebaaProg
/-
  The texts of the seat's functions, as the engine has them (printed by gen.sh and mkf.py).
-/
namespace Go.Ab
open Go.Proofs
set_option maxRecDepth 100000
def af_law47_ReserveCapacity : AF := (AF.mk 111 [(4, .none)] (.seq (.reg .false [⟨.some 2,.box (.t 0),.none⟩,⟨.some 4,.mv (.k (.c (.d (.bool .false)))),.none⟩]) (.seq (.seq (.reg .false [⟨.some 14,.call 10 [],.none⟩,⟨.some 15,.un .not (.t 14),.none⟩]) (.cond (.t 15) (.seq (.reg .false [⟨.some 4,.mv (.k (.c (.d (.bool .false)))),.none⟩]) .ret) .skip)) (.seq (.seq (.reg .false [⟨.some 16,.ld (.t 2) (.some 3),.none⟩,⟨.some 17,.call 11 [(.t 16)],.none⟩,⟨.some 18,.un .not (.t 17),.none⟩,⟨.some 19,.mv (.t 18),.none⟩,⟨.some 20,.mv (.t 1),.some (19, .false)⟩,⟨.some 21,.call 12 [(.t 20)],.some (19, .false)⟩,⟨.some 22,.un .not (.t 21),.some (19, .false)⟩,⟨.some 23,.pick (.t 19) (.k (.c (.d (.bool .true)))) (.t 22),.none⟩]) (.cond (.t 23) (.seq (.reg .false [⟨.some 4,.mv (.k (.c (.d (.bool .true)))),.none⟩]) .ret) .skip)) (.seq (.reg .false [⟨.some 25,.ld (.t 2) (.some 3),.none⟩,⟨.some 26,.call 19 [(.t 25)],.none⟩,⟨.some 24,.mv (.t 26),.none⟩,⟨.some 27,.ext (.t 24) 0,.none⟩,⟨.some 28,.ext (.t 24) 1,.none⟩,⟨.some 5,.mv (.t 27),.none⟩,⟨.some 6,.mv (.t 28),.none⟩]) (.seq (.seq (.reg .false [⟨.some 29,.mv (.t 6),.none⟩,⟨.some 30,.bin .neq (.t 29) (.k (.c (.d (.int .i64 0)))),.none⟩,⟨.some 31,.mv (.t 30),.none⟩,⟨.some 32,.mv (.t 5),.some (31, .false)⟩,⟨.some 33,.isnil 1 .false (.t 32),.some (31, .false)⟩,⟨.some 34,.pick (.t 31) (.k (.c (.d (.bool .true)))) (.t 33),.none⟩]) (.cond (.t 34) (.seq (.reg .false [⟨.some 4,.mv (.k (.c (.d (.bool .false)))),.none⟩]) .ret) .skip)) (.seq (.seq (.reg .false [⟨.some 7,.mv (.k (.c (.d (.int .i64 0)))),.none⟩]) (.block 0 (.loop (.seq (.seq (.reg .false [⟨.some 35,.mv (.t 7),.none⟩,⟨.some 36,.mv (.t 1),.none⟩,⟨.some 37,.len (.t 36),.none⟩,⟨.some 38,.bin .lss (.t 35) (.t 37),.none⟩]) (.cond (.t 38) .skip (.exit 0))) (.seq (.block 1 (.seq (.seq (.reg .false [⟨.some 41,.mv (.t 1),.none⟩,⟨.some 42,.mv (.t 7),.none⟩,⟨.some 43,.ias 6 (.t 41) (.t 42),.none⟩,⟨.some 44,.fa (.t 43) 0,.none⟩,⟨.some 45,.ld (.t 44) .none,.none⟩]) (.cond (.t 45) (.reg .false [⟨.some 46,.mv (.t 5),.none⟩,⟨.some 47,.mv (.t 1),.none⟩,⟨.some 48,.mv (.t 7),.none⟩,⟨.some 49,.ias 6 (.t 47) (.t 48),.none⟩,⟨.some 50,.fa (.t 49) 1,.none⟩,⟨.some 51,.fa (.t 50) 0,.none⟩,⟨.some 52,.ld (.t 51) .none,.none⟩,⟨.some 53,.call 15 [(.t 46), (.t 52)],.none⟩]) (.reg .false [⟨.some 54,.mv (.t 5),.none⟩,⟨.some 55,.mv (.t 1),.none⟩,⟨.some 56,.mv (.t 7),.none⟩,⟨.some 57,.ias 6 (.t 55) (.t 56),.none⟩,⟨.some 58,.fa (.t 57) 1,.none⟩,⟨.some 59,.ld (.t 58) (.some 5),.none⟩,⟨.some 60,.call 17 [(.t 59)],.none⟩,⟨.some 61,.call 16 [(.t 54), (.t 60)],.none⟩]))) (.seq (.reg .false [⟨.some 62,.mv (.t 5),.none⟩,⟨.some 63,.call 20 [(.t 62)],.none⟩,⟨.some 8,.mv (.t 63),.none⟩]) (.seq (.reg .false [⟨.some 9,.mv (.k (.c (.d (.int .i64 0)))),.none⟩]) (.block 2 (.loop (.seq (.seq (.reg .false [⟨.some 64,.mv (.t 9),.none⟩,⟨.some 65,.ld (.t 2) (.some 3),.none⟩,⟨.some 66,.call 21 [(.t 65)],.none⟩,⟨.some 67,.bin .lss (.t 64) (.t 66),.none⟩]) (.cond (.t 67) .skip (.exit 2))) (.seq (.block 3 (.seq (.reg .false [⟨.some 10,.mv (.k (.c (.d (.int .i64 0)))),.none⟩]) (.seq (.seq (.reg .false [⟨.some 11,.mv (.k (.c (.d (.int .i64 0)))),.none⟩]) (.block 4 (.loop (.seq (.seq (.reg .false [⟨.some 70,.mv (.t 11),.none⟩,⟨.some 71,.mv (.t 8),.none⟩,⟨.some 72,.len (.t 71),.none⟩,⟨.some 73,.bin .lss (.t 70) (.t 72),.none⟩]) (.cond (.t 73) .skip (.exit 4))) (.seq (.block 5 (.seq (.reg .false [⟨.some 77,.mv (.t 5),.none⟩,⟨.some 78,.mv (.t 8),.none⟩,⟨.some 79,.mv (.t 11),.none⟩,⟨.some 80,.ias 1 (.t 78) (.t 79),.none⟩,⟨.some 81,.ld (.t 80) .none,.none⟩,⟨.some 82,.call 22 [(.t 77), (.t 81)],.none⟩,⟨.some 76,.mv (.t 82),.none⟩,⟨.some 83,.ext (.t 76) 0,.none⟩,⟨.some 84,.ext (.t 76) 1,.none⟩,⟨.some 12,.box (.k (.agg [(.d (.int .i64 0)), (.d (.list .true 1 [])), (.d (.int .i64 0)), (.d (.int .i64 0)), (.d (.int .i64 0))])),.none⟩,⟨.none,.st (.t 12) (.t 83) 5,.none⟩,⟨.some 13,.mv (.t 84),.none⟩]) (.seq (.seq (.reg .false [⟨.some 85,.mv (.t 13),.none⟩,⟨.some 86,.un .not (.t 85),.none⟩]) (.cond (.t 86) (.seq (.reg .false [⟨.some 4,.mv (.k (.c (.d (.bool .false)))),.none⟩]) .ret) .skip)) (.seq (.reg .false [⟨.some 87,.fa (.t 12) 1,.none⟩,⟨.some 88,.ld (.t 87) .none,.none⟩,⟨.some 89,.mv (.t 9),.none⟩,⟨.some 90,.call 23 [(.t 88), (.t 89)],.none⟩]) (.cond (.t 90) (.reg .false [⟨.some 91,.mv (.t 10),.none⟩,⟨.some 92,.fa (.t 12) 2,.none⟩,⟨.some 93,.ld (.t 92) .none,.none⟩,⟨.some 94,.bin .add (.t 91) (.t 93),.none⟩,⟨.some 10,.mv (.t 94),.none⟩]) .skip))))) (.reg .false [⟨.some 74,.mv (.t 11),.none⟩,⟨.some 75,.bin .add (.t 74) (.k (.c (.d (.int .i64 1)))),.none⟩,⟨.some 11,.mv (.t 75),.none⟩])))))) (.seq (.reg .false [⟨.some 95,.mv (.t 5),.none⟩,⟨.some 96,.mv (.t 9),.none⟩,⟨.some 97,.call 24 [(.t 95), (.t 96)],.none⟩,⟨.some 98,.mv (.t 10),.none⟩,⟨.some 99,.bin .neq (.t 97) (.t 98),.none⟩,⟨.some 100,.mv (.t 99),.none⟩,⟨.some 101,.mv (.t 10),.some (100, .false)⟩,⟨.some 102,.fa (.t 2) 2,.some (100, .false)⟩,⟨.some 103,.ld (.t 102) .none,.some (100, .false)⟩,⟨.some 104,.mv (.t 9),.some (100, .false)⟩,⟨.some 105,.bin .quo (.t 104) (.k (.c (.d (.int .i64 2)))),.some (100, .false)⟩,⟨.some 106,.ias 7 (.t 103) (.t 105),.some (100, .false)⟩,⟨.some 107,.fa (.t 106) 4,.some (100, .false)⟩,⟨.some 108,.ld (.t 107) .none,.some (100, .false)⟩,⟨.some 109,.bin .gtr (.t 101) (.t 108),.some (100, .false)⟩,⟨.some 110,.pick (.t 100) (.k (.c (.d (.bool .true)))) (.t 109),.none⟩]) (.cond (.t 110) (.seq (.reg .false [⟨.some 4,.mv (.k (.c (.d (.bool .false)))),.none⟩]) .ret) .skip))))) (.reg .false [⟨.some 68,.mv (.t 9),.none⟩,⟨.some 69,.bin .add (.t 68) (.k (.c (.d (.int .i64 1)))),.none⟩,⟨.some 9,.mv (.t 69),.none⟩]))))))))) (.reg .false [⟨.some 39,.mv (.t 7),.none⟩,⟨.some 40,.bin .add (.t 39) (.k (.c (.d (.int .i64 1)))),.none⟩,⟨.some 7,.mv (.t 40),.none⟩])))))) (.seq (.reg .false [⟨.some 4,.mv (.k (.c (.d (.bool .true)))),.none⟩]) .ret))))))))
abbrev n_law47_ReserveCapacity : Nat := 5
theorem fn_law47_ReserveCapacity : Try.prog.funcs[n_law47_ReserveCapacity]? = some Try.f5 := Try.func5
theorem c_law47_ReserveCapacity : compF Try.prog Try.f5 = some af_law47_ReserveCapacity := by kernel_rfl
def af_law47_awake : AF := (AF.mk 109 [(0, .none)] (.seq (.reg .false [⟨.some 0,.mv (.k (.c (.d (.bool .false)))),.none⟩]) (.seq (.reg .false [⟨.some 16,.call 28 [],.none⟩,⟨.some 17,.call 19 [(.t 16)],.none⟩,⟨.some 15,.mv (.t 17),.none⟩,⟨.some 18,.ext (.t 15) 0,.none⟩,⟨.some 19,.ext (.t 15) 1,.none⟩,⟨.some 1,.mv (.t 18),.none⟩,⟨.some 2,.mv (.t 19),.none⟩]) (.seq (.seq (.reg .false [⟨.some 20,.mv (.t 2),.none⟩,⟨.some 21,.bin .neq (.t 20) (.k (.c (.d (.int .i64 0)))),.none⟩,⟨.some 22,.mv (.t 21),.none⟩,⟨.some 23,.mv (.t 1),.some (22, .false)⟩,⟨.some 24,.isnil 1 .false (.t 23),.some (22, .false)⟩,⟨.some 25,.pick (.t 22) (.k (.c (.d (.bool .true)))) (.t 24),.none⟩]) (.cond (.t 25) (.seq (.reg .false [⟨.some 0,.mv (.k (.c (.d (.bool .false)))),.none⟩]) .ret) .skip)) (.seq (.reg .false [⟨.some 27,.mv (.t 1),.none⟩,⟨.some 28,.bsl 1 [(.int .i64 0)] 1 [(0, (.k (.c (.d (.int .i64 0)))))],.none⟩,⟨.some 29,.build [(.d (.int .i64 0)), (.d (.list .true 1 [])), (.d (.int .i64 0)), (.d (.int .i64 0)), (.d (.int .i64 0))] [(0, (1, (.k (.c (.d (.int .i64 1)))))), (1, (1, (.t 28))), (2, (1, (.k (.c (.d (.int .i64 6)))))), (3, (1, (.k (.c (.d (.int .i64 5)))))), (4, (1, (.k (.c (.d (.int .i64 5))))))],.none⟩,⟨.some 30,.call 16 [(.t 27), (.t 29)],.none⟩,⟨.some 26,.mv (.t 30),.none⟩,⟨.some 31,.ext (.t 26) 0,.none⟩,⟨.some 32,.ext (.t 26) 1,.none⟩,⟨.some 3,.mv (.t 31),.none⟩,⟨.some 4,.mv (.t 32),.none⟩]) (.seq (.reg .false [⟨.some 34,.mv (.t 1),.none⟩,⟨.some 35,.bsl 1 [(.int .i64 0)] 1 [(0, (.k (.c (.d (.int .i64 0)))))],.none⟩,⟨.some 36,.build [(.d (.int .i64 0)), (.d (.list .true 1 [])), (.d (.int .i64 0)), (.d (.int .i64 0)), (.d (.int .i64 0))] [(0, (1, (.k (.c (.d (.int .i64 2)))))), (1, (1, (.t 35))), (2, (1, (.k (.c (.d (.int .i64 4)))))), (3, (1, (.k (.c (.d (.int .i64 3)))))), (4, (1, (.k (.c (.d (.int .i64 3))))))],.none⟩,⟨.some 37,.call 16 [(.t 34), (.t 36)],.none⟩,⟨.some 33,.mv (.t 37),.none⟩,⟨.some 38,.ext (.t 33) 0,.none⟩,⟨.some 39,.ext (.t 33) 1,.none⟩,⟨.some 5,.mv (.t 38),.none⟩,⟨.some 6,.mv (.t 39),.none⟩]) (.seq (.reg .false [⟨.some 40,.mv (.t 1),.none⟩,⟨.some 41,.call 14 [(.t 40)],.none⟩,⟨.some 7,.mv (.t 41),.none⟩]) (.seq (.reg .false [⟨.some 42,.mv (.t 1),.none⟩,⟨.some 43,.call 14 [(.t 42)],.none⟩,⟨.some 8,.mv (.t 43),.none⟩]) (.seq (.seq (.reg .false [⟨.some 44,.mv (.t 7),.none⟩,⟨.some 45,.isnil 1 .false (.t 44),.none⟩,⟨.some 46,.mv (.t 45),.none⟩,⟨.some 47,.mv (.t 8),.some (46, .false)⟩,⟨.some 48,.isnil 1 .false (.t 47),.some (46, .false)⟩,⟨.some 49,.pick (.t 46) (.k (.c (.d (.bool .true)))) (.t 48),.none⟩]) (.cond (.t 49) (.seq (.reg .false [⟨.some 0,.mv (.k (.c (.d (.bool .false)))),.none⟩]) .ret) .skip)) (.seq (.reg .false [⟨.some 51,.mv (.t 7),.none⟩,⟨.some 52,.bsl 1 [(.int .i64 0)] 1 [(0, (.k (.c (.d (.int .i64 0)))))],.none⟩,⟨.some 53,.build [(.d (.int .i64 0)), (.d (.list .true 1 [])), (.d (.int .i64 0)), (.d (.int .i64 0)), (.d (.int .i64 0))] [(0, (1, (.k (.c (.d (.int .i64 3)))))), (1, (1, (.t 52))), (2, (1, (.k (.c (.d (.int .i64 5)))))), (3, (1, (.k (.c (.d (.int .i64 4)))))), (4, (1, (.k (.c (.d (.int .i64 4))))))],.none⟩,⟨.some 54,.call 16 [(.t 51), (.t 53)],.none⟩,⟨.some 50,.mv (.t 54),.none⟩,⟨.some 55,.ext (.t 50) 0,.none⟩,⟨.some 56,.ext (.t 50) 1,.none⟩,⟨.some 9,.mv (.t 55),.none⟩,⟨.some 10,.mv (.t 56),.none⟩]) (.seq (.reg .false [⟨.some 58,.mv (.t 8),.none⟩,⟨.some 59,.bsl 1 [(.int .i64 0)] 1 [(0, (.k (.c (.d (.int .i64 0)))))],.none⟩,⟨.some 60,.build [(.d (.int .i64 0)), (.d (.list .true 1 [])), (.d (.int .i64 0)), (.d (.int .i64 0)), (.d (.int .i64 0))] [(0, (1, (.k (.c (.d (.int .i64 3)))))), (1, (1, (.t 59))), (2, (1, (.k (.c (.d (.int .i64 10)))))), (3, (1, (.k (.c (.d (.int .i64 2)))))), (4, (1, (.k (.c (.d (.int .i64 0))))))],.none⟩,⟨.some 61,.call 16 [(.t 58), (.t 60)],.none⟩,⟨.some 57,.mv (.t 61),.none⟩,⟨.some 62,.ext (.t 57) 0,.none⟩,⟨.some 63,.ext (.t 57) 1,.none⟩,⟨.some 11,.mv (.t 62),.none⟩,⟨.some 12,.mv (.t 63),.none⟩]) (.seq (.reg .false [⟨.some 65,.mv (.t 1),.none⟩,⟨.some 66,.bsl 1 [(.int .i64 0)] 1 [(0, (.k (.c (.d (.int .i64 0)))))],.none⟩,⟨.some 67,.build [(.d (.int .i64 0)), (.d (.list .true 1 [])), (.d (.int .i64 0)), (.d (.int .i64 0)), (.d (.int .i64 0))] [(0, (1, (.k (.c (.d (.int .i64 3)))))), (1, (1, (.t 66))), (2, (1, (.k (.c (.d (.int .i64 7)))))), (3, (1, (.k (.c (.d (.int .i64 4)))))), (4, (1, (.k (.c (.d (.int .i64 4))))))],.none⟩,⟨.some 68,.call 16 [(.t 65), (.t 67)],.none⟩,⟨.some 64,.mv (.t 68),.none⟩,⟨.some 69,.ext (.t 64) 0,.none⟩,⟨.some 70,.ext (.t 64) 1,.none⟩,⟨.some 13,.mv (.t 69),.none⟩,⟨.some 14,.mv (.t 70),.none⟩]) (.seq (.reg .false [⟨.some 71,.mv (.t 4),.none⟩,⟨.some 72,.bin .eql (.t 71) (.k (.c (.d (.int .i64 0)))),.none⟩,⟨.some 73,.mv (.t 72),.none⟩,⟨.some 74,.mv (.t 6),.some (73, .true)⟩,⟨.some 75,.bin .eql (.t 74) (.k (.c (.d (.int .i64 0)))),.some (73, .true)⟩,⟨.some 76,.pick (.t 73) (.t 75) (.k (.c (.d (.bool .false)))),.none⟩,⟨.some 77,.mv (.t 76),.none⟩,⟨.some 78,.mv (.t 10),.some (77, .true)⟩,⟨.some 79,.bin .eql (.t 78) (.k (.c (.d (.int .i64 0)))),.some (77, .true)⟩,⟨.some 80,.pick (.t 77) (.t 79) (.k (.c (.d (.bool .false)))),.none⟩,⟨.some 81,.mv (.t 80),.none⟩,⟨.some 82,.mv (.t 12),.some (81, .true)⟩,⟨.some 83,.bin .eql (.t 82) (.k (.c (.d (.int .i64 0)))),.some (81, .true)⟩,⟨.some 84,.pick (.t 81) (.t 83) (.k (.c (.d (.bool .false)))),.none⟩,⟨.some 85,.mv (.t 84),.none⟩,⟨.some 86,.mv (.t 14),.some (85, .true)⟩,⟨.some 87,.bin .eql (.t 86) (.k (.c (.d (.int .i64 12)))),.some (85, .true)⟩,⟨.some 88,.pick (.t 85) (.t 87) (.k (.c (.d (.bool .false)))),.none⟩,⟨.some 89,.mv (.t 88),.none⟩,⟨.some 90,.mv (.t 9),.some (89, .true)⟩,⟨.some 91,.bsl 1 [(.int .i64 0)] 1 [(0, (.k (.c (.d (.int .i64 1)))))],.some (89, .true)⟩,⟨.some 92,.call 29 [(.t 90), (.t 91)],.some (89, .true)⟩,⟨.some 93,.pick (.t 89) (.t 92) (.k (.c (.d (.bool .false)))),.none⟩,⟨.some 94,.mv (.t 93),.none⟩,⟨.some 95,.mv (.t 11),.some (94, .true)⟩,⟨.some 96,.bsl 1 [(.int .i64 0)] 2 [(0, (.k (.c (.d (.int .i64 1))))), (1, (.k (.c (.d (.int .i64 2)))))],.some (94, .true)⟩,⟨.some 97,.call 29 [(.t 95), (.t 96)],.some (94, .true)⟩,⟨.some 98,.pick (.t 94) (.t 97) (.k (.c (.d (.bool .false)))),.none⟩,⟨.some 99,.mv (.t 98),.none⟩,⟨.some 100,.mv (.t 1),.some (99, .true)⟩,⟨.some 101,.call 24 [(.t 100), (.k (.c (.d (.int .i64 0))))],.some (99, .true)⟩,⟨.some 102,.bin .eql (.t 101) (.k (.c (.d (.int .i64 10)))),.some (99, .true)⟩,⟨.some 103,.pick (.t 99) (.t 102) (.k (.c (.d (.bool .false)))),.none⟩,⟨.some 104,.mv (.t 103),.none⟩,⟨.some 105,.mv (.t 7),.some (104, .true)⟩,⟨.some 106,.call 24 [(.t 105), (.k (.c (.d (.int .i64 0))))],.some (104, .true)⟩,⟨.some 107,.bin .eql (.t 106) (.k (.c (.d (.int .i64 9)))),.some (104, .true)⟩,⟨.some 108,.pick (.t 104) (.t 107) (.k (.c (.d (.bool .false)))),.none⟩,⟨.some 0,.mv (.t 108),.none⟩]) .ret)))))))))))))
abbrev n_law47_awake : Nat := 10
theorem fn_law47_awake : Try.prog.funcs[n_law47_awake]? = some Try.f10 := Try.func10
theorem c_law47_awake : compF Try.prog Try.f10 = some af_law47_awake := by kernel_rfl
def af_law47_small : AF := (AF.mk 11 [(2, .none)] (.seq (.reg .false [⟨.some 1,.box (.t 0),.none⟩,⟨.some 2,.mv (.k (.c (.d (.bool .false)))),.none⟩]) (.seq (.reg .false [⟨.some 3,.fa (.t 1) 2,.none⟩,⟨.some 4,.ld (.t 3) .none,.none⟩,⟨.some 5,.len (.t 4),.none⟩,⟨.some 6,.bin .leq (.t 5) (.k (.c (.d (.int .i64 10)))),.none⟩,⟨.some 7,.mv (.t 6),.none⟩,⟨.some 8,.ld (.t 1) (.some 3),.some (7, .true)⟩,⟨.some 9,.call 27 [(.t 8)],.some (7, .true)⟩,⟨.some 10,.pick (.t 7) (.t 9) (.k (.c (.d (.bool .false)))),.none⟩,⟨.some 2,.mv (.t 10),.none⟩]) .ret)))
abbrev n_law47_small : Nat := 11
theorem fn_law47_small : Try.prog.funcs[n_law47_small]? = some Try.f11 := Try.func11
theorem c_law47_small : compF Try.prog Try.f11 = some af_law47_small := by kernel_rfl
def af_ref47_Few : AF := (AF.mk 21 [(2, .none)] (.seq (.reg .false [⟨.some 2,.mv (.k (.c (.d (.bool .false)))),.none⟩]) (.seq (.seq (.reg .false [⟨.some 3,.mv (.k (.c (.d (.int .i64 0)))),.none⟩]) (.block 0 (.loop (.seq (.seq (.reg .false [⟨.some 4,.mv (.t 3),.none⟩,⟨.some 5,.mv (.t 0),.none⟩,⟨.some 6,.len (.t 5),.none⟩,⟨.some 7,.bin .lss (.t 4) (.t 6),.none⟩]) (.cond (.t 7) .skip (.exit 0))) (.seq (.block 1 (.seq (.reg .false [⟨.some 10,.mv (.t 0),.none⟩,⟨.some 11,.mv (.t 3),.none⟩,⟨.some 12,.ias 6 (.t 10) (.t 11),.none⟩,⟨.some 13,.fa (.t 12) 1,.none⟩,⟨.some 14,.fa (.t 13) 1,.none⟩,⟨.some 15,.ld (.t 14) .none,.none⟩,⟨.some 16,.len (.t 15),.none⟩,⟨.some 17,.bin .gtr (.t 16) (.k (.c (.d (.int .i64 70)))),.none⟩]) (.cond (.t 17) (.seq (.reg .false [⟨.some 2,.mv (.k (.c (.d (.bool .false)))),.none⟩]) .ret) .skip))) (.reg .false [⟨.some 8,.mv (.t 3),.none⟩,⟨.some 9,.bin .add (.t 8) (.k (.c (.d (.int .i64 1)))),.none⟩,⟨.some 3,.mv (.t 9),.none⟩])))))) (.seq (.reg .false [⟨.some 18,.mv (.t 0),.none⟩,⟨.some 19,.len (.t 18),.none⟩,⟨.some 20,.bin .leq (.t 19) (.k (.c (.d (.int .i64 25)))),.none⟩,⟨.some 2,.mv (.t 20),.none⟩]) .ret))))
abbrev n_ref47_Few : Nat := 12
theorem fn_ref47_Few : Try.prog.funcs[n_ref47_Few]? = some Try.f12 := Try.func12
theorem c_ref47_Few : compF Try.prog Try.f12 = some af_ref47_Few := by kernel_rfl
def af_reserve_Table_Copy : AF := (AF.mk 34 [(2, .none)] (.seq (.reg .false [⟨.some 2,.mv (.k (.c (.d .nilp))),.none⟩]) (.seq (.seq (.reg .false [⟨.some 6,.mv (.t 0),.none⟩,⟨.some 7,.isnil 1 .false (.t 6),.none⟩]) (.cond (.t 7) (.seq (.reg .false [⟨.some 2,.mv (.k (.c (.d .nilp))),.none⟩]) .ret) .skip)) (.seq (.reg .false [⟨.some 8,.mv (.t 0),.none⟩,⟨.some 9,.nilc (.t 8),.none⟩,⟨.some 10,.fa (.t 9) 0,.none⟩,⟨.some 11,.ld (.t 10) .none,.none⟩,⟨.some 12,.call 30 [(.t 11)],.none⟩,⟨.some 13,.mo .mkm [],.none⟩,⟨.some 14,.build [(.d (.list .true 1 [])), (.d .nilm)] [(0, (1, (.t 12))), (1, (1, (.t 13)))],.none⟩,⟨.some 15,.box (.t 14),.none⟩,⟨.some 3,.mv (.t 15),.none⟩]) (.seq (.seq (.reg .false [⟨.some 16,.mv (.t 0),.none⟩,⟨.some 17,.nilc (.t 16),.none⟩,⟨.some 18,.fa (.t 17) 1,.none⟩,⟨.some 19,.ld (.t 18) .none,.none⟩,⟨.some 20,.rng (.t 19),.none⟩]) (.block 0 (.loop (.seq (.reg .false [⟨.some 21,.nx (.t 20),.none⟩,⟨.some 22,.ext (.t 21) 0,.none⟩]) (.seq (.cond (.t 22) .skip (.exit 0)) (.block 1 (.seq (.reg .false [⟨.some 23,.ent (.t 20),.none⟩,⟨.some 24,.ext (.t 23) 0,.none⟩,⟨.some 25,.ext (.t 23) 1,.none⟩,⟨.some 5,.box (.k (.agg [(.d (.int .i64 0)), (.d (.list .true 1 [])), (.d (.int .i64 0)), (.d (.int .i64 0)), (.d (.int .i64 0))])),.none⟩,⟨.some 4,.mv (.t 24),.none⟩,⟨.none,.st (.t 5) (.t 25) 5,.none⟩]) (.reg .true [⟨.some 26,.mv (.t 3),.none⟩,⟨.some 27,.nilc (.t 26),.none⟩,⟨.some 28,.fa (.t 27) 1,.none⟩,⟨.some 29,.ld (.t 28) .none,.none⟩,⟨.some 30,.mv (.t 4),.none⟩,⟨.some 31,.ld (.t 5) (.some 5),.none⟩,⟨.some 32,.call 31 [(.t 31)],.none⟩,⟨.none,.mo (.up .true 1 [(0, 0)]) [(.t 29), (.t 30), (.t 32)],.none⟩])))))))) (.seq (.reg .false [⟨.some 33,.mv (.t 3),.none⟩,⟨.some 2,.mv (.t 33),.none⟩]) .ret))))))
abbrev n_reserve_Table_Copy : Nat := 14
theorem fn_reserve_Table_Copy : Try.prog.funcs[n_reserve_Table_Copy]? = some Try.f14 := Try.func14
theorem c_reserve_Table_Copy : compF Try.prog Try.f14 = some af_reserve_Table_Copy := by kernel_rfl
def af_reserve_Table_Release : AF := (AF.mk 25 [(4, .none)] (.seq (.reg .false [⟨.some 4,.mv (.k (.c (.d (.int .i64 0)))),.none⟩]) (.seq (.seq (.reg .false [⟨.some 7,.mv (.t 0),.none⟩,⟨.some 8,.isnil 1 .false (.t 7),.none⟩]) (.cond (.t 8) (.seq (.reg .false [⟨.some 4,.mv (.k (.c (.d (.int .i64 7)))),.none⟩]) .ret) .skip)) (.seq (.seq (.reg .false [⟨.some 10,.mv (.t 0),.none⟩,⟨.some 11,.nilc (.t 10),.none⟩,⟨.some 12,.fa (.t 11) 1,.none⟩,⟨.some 13,.ld (.t 12) .none,.none⟩,⟨.some 14,.mv (.t 1),.none⟩,⟨.some 15,.mo (.lk .true 1 [(0, 0)] .true (.agg [(.d (.int .i64 0)), (.d (.list .true 1 [])), (.d (.int .i64 0)), (.d (.int .i64 0)), (.d (.int .i64 0))])) [(.t 13), (.t 14)],.none⟩,⟨.some 9,.mv (.t 15),.none⟩,⟨.some 16,.ext (.t 9) 0,.none⟩,⟨.some 17,.ext (.t 9) 1,.none⟩,⟨.some 5,.box (.k (.agg [(.d (.int .i64 0)), (.d (.list .true 1 [])), (.d (.int .i64 0)), (.d (.int .i64 0)), (.d (.int .i64 0))])),.none⟩,⟨.none,.st (.t 5) (.t 16) 5,.none⟩,⟨.some 6,.mv (.t 17),.none⟩]) (.seq (.reg .false [⟨.some 18,.mv (.t 6),.none⟩,⟨.some 19,.un .not (.t 18),.none⟩]) (.cond (.t 19) (.seq (.reg .false [⟨.some 4,.mv (.k (.c (.d (.int .i64 8)))),.none⟩]) .ret) .skip))) (.seq (.reg .false [⟨.some 20,.mv (.t 0),.none⟩,⟨.some 21,.nilc (.t 20),.none⟩,⟨.some 22,.fa (.t 21) 1,.none⟩,⟨.some 23,.ld (.t 22) .none,.none⟩,⟨.some 24,.mv (.t 1),.none⟩,⟨.none,.mo (.del .true 1 [(0, 0)]) [(.t 23), (.t 24)],.none⟩]) (.seq (.reg .false [⟨.some 4,.mv (.k (.c (.d (.int .i64 0)))),.none⟩]) .ret))))))
abbrev n_reserve_Table_Release : Nat := 15
theorem fn_reserve_Table_Release : Try.prog.funcs[n_reserve_Table_Release]? = some Try.f15 := Try.func15
theorem c_reserve_Table_Release : compF Try.prog Try.f15 = some af_reserve_Table_Release := by kernel_rfl
def af_reserve_Table_Reserve : AF := (AF.mk 81 [(4, .none), (5, .none)] (.seq (.reg .false [⟨.some 2,.box (.t 0),.none⟩,⟨.some 3,.box (.t 1),.none⟩,⟨.some 4,.mv (.k (.c (.d (.list .true 1 [])))),.none⟩,⟨.some 5,.mv (.k (.c (.d (.int .i64 0)))),.none⟩]) (.seq (.seq (.reg .false [⟨.some 14,.ld (.t 2) .none,.none⟩,⟨.some 15,.isnil 1 .false (.t 14),.none⟩]) (.cond (.t 15) (.seq (.reg .false [⟨.some 4,.mv (.k (.c (.d (.list .true 1 [])))),.none⟩,⟨.some 5,.mv (.k (.c (.d (.int .i64 7)))),.none⟩]) .ret) .skip)) (.seq (.seq (.reg .false [⟨.some 16,.ld (.t 2) .none,.none⟩,⟨.some 17,.ld (.t 3) (.some 5),.none⟩,⟨.some 18,.call 32 [(.t 16), (.t 17)],.none⟩,⟨.some 19,.un .not (.t 18),.none⟩]) (.cond (.t 19) (.seq (.reg .false [⟨.some 4,.mv (.k (.c (.d (.list .true 1 [])))),.none⟩,⟨.some 5,.mv (.k (.c (.d (.int .i64 1)))),.none⟩]) .ret) .skip)) (.seq (.seq (.reg .true [⟨.some 21,.ld (.t 2) .none,.none⟩,⟨.some 22,.nilc (.t 21),.none⟩,⟨.some 23,.fa (.t 22) 1,.none⟩,⟨.some 24,.ld (.t 23) .none,.none⟩,⟨.some 25,.fa (.t 3) 0,.none⟩,⟨.some 26,.ld (.t 25) .none,.none⟩,⟨.some 27,.mo (.lk .true 1 [(0, 0)] .true (.agg [(.d (.int .i64 0)), (.d (.list .true 1 [])), (.d (.int .i64 0)), (.d (.int .i64 0)), (.d (.int .i64 0))])) [(.t 24), (.t 26)],.none⟩,⟨.some 20,.mv (.t 27),.none⟩,⟨.some 28,.ext (.t 20) 0,.none⟩,⟨.some 29,.ext (.t 20) 1,.none⟩,⟨.some 6,.box (.k (.agg [(.d (.int .i64 0)), (.d (.list .true 1 [])), (.d (.int .i64 0)), (.d (.int .i64 0)), (.d (.int .i64 0))])),.none⟩,⟨.none,.st (.t 6) (.t 28) 5,.none⟩,⟨.some 7,.mv (.t 29),.none⟩]) (.seq (.reg .false [⟨.some 30,.mv (.t 7),.none⟩]) (.cond (.t 30) (.seq (.reg .false [⟨.some 4,.mv (.k (.c (.d (.list .true 1 [])))),.none⟩,⟨.some 5,.mv (.k (.c (.d (.int .i64 9)))),.none⟩]) .ret) .skip))) (.seq (.seq (.reg .false [⟨.some 31,.fa (.t 3) 1,.none⟩,⟨.some 32,.ld (.t 31) .none,.none⟩,⟨.some 33,.len (.t 32),.none⟩,⟨.some 34,.mv (.k (.c (.d (.int .i64 0)))),.none⟩]) (.block 0 (.loop (.seq (.reg .false [⟨.some 35,.bin .lss (.t 34) (.t 33),.none⟩]) (.seq (.cond (.t 35) .skip (.exit 0)) (.seq (.block 1 (.seq (.reg .false [⟨.some 36,.ias 1 (.t 32) (.t 34),.none⟩,⟨.some 37,.ld (.t 36) .none,.none⟩,⟨.some 9,.mv (.t 37),.none⟩]) (.seq (.reg .true [⟨.some 38,.ld (.t 2) .none,.none⟩,⟨.some 39,.mv (.t 9),.none⟩,⟨.some 40,.fa (.t 3) 3,.none⟩,⟨.some 41,.ld (.t 40) .none,.none⟩,⟨.some 42,.call 25 [(.t 38), (.t 39), (.t 41)],.none⟩,⟨.some 43,.fa (.t 3) 2,.none⟩,⟨.some 44,.ld (.t 43) .none,.none⟩,⟨.some 45,.bin .lss (.t 42) (.t 44),.none⟩]) (.cond (.t 45) (.seq (.reg .false [⟨.some 4,.mv (.k (.c (.d (.list .true 1 [])))),.none⟩,⟨.some 5,.mv (.k (.c (.d (.int .i64 12)))),.none⟩]) .ret) .skip)))) (.reg .false [⟨.some 46,.bin .add (.t 34) (.k (.c (.d (.int .i64 1)))),.none⟩,⟨.some 34,.mv (.t 46),.none⟩]))))))) (.seq (.reg .false [⟨.some 10,.mv (.k (.c (.d (.list .true 1 [])))),.none⟩]) (.seq (.seq (.reg .false [⟨.some 47,.ld (.t 2) .none,.none⟩,⟨.some 48,.ld (.t 3) (.some 5),.none⟩,⟨.some 49,.call 33 [(.t 47), (.t 48)],.none⟩,⟨.some 50,.len (.t 49),.none⟩,⟨.some 51,.mv (.k (.c (.d (.int .i64 0)))),.none⟩]) (.block 2 (.loop (.seq (.reg .false [⟨.some 52,.bin .lss (.t 51) (.t 50),.none⟩]) (.seq (.cond (.t 52) .skip (.exit 2)) (.seq (.block 3 (.seq (.reg .false [⟨.some 53,.ias 5 (.t 49) (.t 51),.none⟩,⟨.some 54,.ld (.t 53) (.some 5),.none⟩,⟨.some 12,.box (.k (.agg [(.d (.int .i64 0)), (.d (.list .true 1 [])), (.d (.int .i64 0)), (.d (.int .i64 0)), (.d (.int .i64 0))])),.none⟩,⟨.none,.st (.t 12) (.t 54) 5,.none⟩]) (.seq (.reg .false [⟨.some 55,.mkf .false 34 [(.t 3), (.t 2)],.none⟩,⟨.some 13,.mv (.t 55),.none⟩]) (.seq (.reg .false [⟨.some 56,.fa (.t 12) 1,.none⟩,⟨.some 57,.ld (.t 56) .none,.none⟩,⟨.some 58,.mv (.t 13),.none⟩,⟨.some 59,.call 36 [(.t 57), (.t 58)],.none⟩]) (.cond (.t 59) (.seq (.reg .true [⟨.some 60,.ld (.t 2) .none,.none⟩,⟨.some 61,.nilc (.t 60),.none⟩,⟨.some 62,.fa (.t 61) 1,.none⟩,⟨.some 63,.ld (.t 62) .none,.none⟩,⟨.some 64,.fa (.t 12) 0,.none⟩,⟨.some 65,.ld (.t 64) .none,.none⟩,⟨.none,.mo (.del .true 1 [(0, 0)]) [(.t 63), (.t 65)],.none⟩]) (.reg .false [⟨.some 66,.mv (.t 10),.none⟩,⟨.some 67,.fa (.t 12) 0,.none⟩,⟨.some 68,.ld (.t 67) .none,.none⟩,⟨.some 69,.bsl 1 [(.int .i64 0)] 1 [(0, (.t 68))],.none⟩,⟨.some 70,.app 1 8 [(.int .i64 0)] (.t 66) (.t 69),.none⟩,⟨.some 10,.mv (.t 70),.none⟩])) .skip))))) (.reg .false [⟨.some 71,.bin .add (.t 51) (.k (.c (.d (.int .i64 1)))),.none⟩,⟨.some 51,.mv (.t 71),.none⟩]))))))) (.seq (.reg .true [⟨.some 72,.ld (.t 2) .none,.none⟩,⟨.some 73,.nilc (.t 72),.none⟩,⟨.some 74,.fa (.t 73) 1,.none⟩,⟨.some 75,.ld (.t 74) .none,.none⟩,⟨.some 76,.fa (.t 3) 0,.none⟩,⟨.some 77,.ld (.t 76) .none,.none⟩,⟨.some 78,.ld (.t 3) (.some 5),.none⟩,⟨.some 79,.call 31 [(.t 78)],.none⟩,⟨.none,.mo (.up .true 1 [(0, 0)]) [(.t 75), (.t 77), (.t 79)],.none⟩]) (.seq (.reg .false [⟨.some 80,.mv (.t 10),.none⟩,⟨.some 4,.mv (.t 80),.none⟩,⟨.some 5,.mv (.k (.c (.d (.int .i64 0)))),.none⟩]) .ret))))))))))
abbrev n_reserve_Table_Reserve : Nat := 16
theorem fn_reserve_Table_Reserve : Try.prog.funcs[n_reserve_Table_Reserve]? = some Try.f16 := Try.func16
theorem c_reserve_Table_Reserve : compF Try.prog Try.f16 = some af_reserve_Table_Reserve := by kernel_rfl
def af_law47_program : AF := (AF.mk 16 [(2, (.some (.some 5)))] (.seq (.reg .false [⟨.some 1,.box (.t 0),.none⟩,⟨.some 2,.box (.k (.agg [(.d (.int .i64 0)), (.d (.list .true 1 [])), (.d (.int .i64 0)), (.d (.int .i64 0)), (.d (.int .i64 0))])),.none⟩]) (.seq (.rgf [[], [0], [], [], [3], [2, 3, 4], [], [6], [], [8], [], [10], [0, 1, 2, 3, 4, 5, 6, 7, 8, 9, 10, 11], [0, 1, 2, 3, 4, 5, 6, 7, 8, 9, 10, 11, 12]] 0 [⟨.some 3,.fa (.t 1) 0,.none⟩,⟨.some 4,.ld (.t 3) .none,.none⟩,⟨.some 5,.bsl 1 [(.int .i64 0)] 0 [],.none⟩,⟨.some 6,.fa (.t 1) 1,.none⟩,⟨.some 7,.ld (.t 6) .none,.none⟩,⟨.some 8,.app 1 8 [(.int .i64 0)] (.t 5) (.t 7),.none⟩,⟨.some 9,.fa (.t 1) 2,.none⟩,⟨.some 10,.ld (.t 9) .none,.none⟩,⟨.some 11,.fa (.t 1) 3,.none⟩,⟨.some 12,.ld (.t 11) .none,.none⟩,⟨.some 13,.fa (.t 1) 4,.none⟩,⟨.some 14,.ld (.t 13) .none,.none⟩,⟨.some 15,.build [(.d (.int .i64 0)), (.d (.list .true 1 [])), (.d (.int .i64 0)), (.d (.int .i64 0)), (.d (.int .i64 0))] [(0, (1, (.t 4))), (1, (1, (.t 8))), (2, (1, (.t 10))), (3, (1, (.t 12))), (4, (1, (.t 14)))],.none⟩,⟨.none,.st (.t 2) (.t 15) 5,.none⟩]) .ret)))
abbrev n_law47_program : Nat := 17
theorem fn_law47_program : Try.prog.funcs[n_law47_program]? = some Try.f17 := Try.func17
theorem c_law47_program : compF Try.prog Try.f17 = some af_law47_program := by kernel_rfl
def af_reserve_New : AF := (AF.mk 33 [(2, .none), (3, .none)] (.seq (.reg .false [⟨.some 1,.box (.t 0),.none⟩,⟨.some 2,.mv (.k (.c (.d .nilp))),.none⟩,⟨.some 3,.mv (.k (.c (.d (.int .i64 0)))),.none⟩]) (.seq (.seq (.reg .false [⟨.some 7,.ld (.t 1) (.some 3),.none⟩,⟨.some 8,.call 41 [(.t 7)],.none⟩,⟨.some 9,.un .not (.t 8),.none⟩]) (.cond (.t 9) (.seq (.reg .false [⟨.some 2,.mv (.k (.c (.d .nilp))),.none⟩,⟨.some 3,.mv (.k (.c (.d (.int .i64 1)))),.none⟩]) .ret) .skip)) (.seq (.reg .false [⟨.some 10,.mo .mkm [],.none⟩,⟨.some 11,.build [(.d (.list .true 1 [])), (.d .nilm)] [(1, (1, (.t 10)))],.none⟩,⟨.some 12,.box (.t 11),.none⟩,⟨.some 4,.mv (.t 12),.none⟩]) (.seq (.seq (.reg .false [⟨.some 13,.fa (.t 1) 2,.none⟩,⟨.some 14,.ld (.t 13) .none,.none⟩,⟨.some 15,.len (.t 14),.none⟩,⟨.some 16,.mv (.k (.c (.d (.int .i64 0)))),.none⟩]) (.block 0 (.loop (.seq (.reg .false [⟨.some 17,.bin .lss (.t 16) (.t 15),.none⟩]) (.seq (.cond (.t 17) .skip (.exit 0)) (.seq (.block 1 (.seq (.reg .false [⟨.some 18,.ias 7 (.t 14) (.t 16),.none⟩,⟨.some 19,.ld (.t 18) (.some 7),.none⟩,⟨.some 6,.box (.k (.agg [(.d (.int .i64 0)), (.d (.int .i64 0)), (.d (.int .i64 0)), (.d (.int .i64 0)), (.d (.int .i64 0)), (.d (.int .i64 0)), (.d (.int .i64 0))])),.none⟩,⟨.none,.st (.t 6) (.t 19) 7,.none⟩]) (.reg .true [⟨.some 20,.mv (.t 4),.none⟩,⟨.some 21,.mv (.t 4),.none⟩,⟨.some 22,.nilc (.t 21),.none⟩,⟨.some 23,.fa (.t 22) 0,.none⟩,⟨.some 24,.ld (.t 23) .none,.none⟩,⟨.some 25,.fa (.t 6) 4,.none⟩,⟨.some 26,.ld (.t 25) .none,.none⟩,⟨.some 27,.bsl 1 [(.int .i64 0)] 1 [(0, (.t 26))],.none⟩,⟨.some 28,.app 1 8 [(.int .i64 0)] (.t 24) (.t 27),.none⟩,⟨.some 29,.nilc (.t 20),.none⟩,⟨.some 30,.fa (.t 29) 0,.none⟩,⟨.none,.st (.t 30) (.t 28) 1,.none⟩]))) (.reg .false [⟨.some 31,.bin .add (.t 16) (.k (.c (.d (.int .i64 1)))),.none⟩,⟨.some 16,.mv (.t 31),.none⟩]))))))) (.seq (.reg .false [⟨.some 32,.mv (.t 4),.none⟩,⟨.some 2,.mv (.t 32),.none⟩,⟨.some 3,.mv (.k (.c (.d (.int .i64 0)))),.none⟩]) .ret))))))
abbrev n_reserve_New : Nat := 19
theorem fn_reserve_New : Try.prog.funcs[n_reserve_New]? = some Try.f19 := Try.func19
theorem c_reserve_New : compF Try.prog Try.f19 = some af_reserve_New := by kernel_rfl
abbrev n_reserve_Table_IDs : Nat := 20
def af_ref09_Arcs : AF := (AF.mk 10 [(2, .none)] (.seq (.reg .false [⟨.some 1,.box (.t 0),.none⟩,⟨.some 2,.mv (.k (.c (.d (.int .i64 0)))),.none⟩]) (.seq (.seq (.reg .false [⟨.some 3,.ld (.t 1) (.some 3),.none⟩,⟨.some 4,.call 27 [(.t 3)],.none⟩,⟨.some 5,.un .not (.t 4),.none⟩]) (.cond (.t 5) (.seq (.reg .false [⟨.some 2,.mv (.k (.c (.d (.int .i64 0)))),.none⟩]) .ret) .skip)) (.seq (.reg .false [⟨.some 6,.fa (.t 1) 2,.none⟩,⟨.some 7,.ld (.t 6) .none,.none⟩,⟨.some 8,.len (.t 7),.none⟩,⟨.some 9,.bin .mul (.k (.c (.d (.int .i64 2)))) (.t 8),.none⟩,⟨.some 2,.mv (.t 9),.none⟩]) .ret))))
abbrev n_ref09_Arcs : Nat := 21
theorem fn_ref09_Arcs : Try.prog.funcs[n_ref09_Arcs]? = some Try.f21 := Try.func21
theorem c_ref09_Arcs : compF Try.prog Try.f21 = some af_ref09_Arcs := by kernel_rfl
def af_reserve_Table_Get : AF := (AF.mk 23 [(4, (.some (.some 5))), (5, .none)] (.seq (.reg .false [⟨.some 4,.box (.k (.agg [(.d (.int .i64 0)), (.d (.list .true 1 [])), (.d (.int .i64 0)), (.d (.int .i64 0)), (.d (.int .i64 0))])),.none⟩,⟨.some 5,.mv (.k (.c (.d (.bool .false)))),.none⟩]) (.seq (.seq (.reg .false [⟨.some 8,.mv (.t 0),.none⟩,⟨.some 9,.isnil 1 .false (.t 8),.none⟩]) (.cond (.t 9) (.seq (.reg .false [⟨.some 10,.build [(.d (.int .i64 0)), (.d (.list .true 1 [])), (.d (.int .i64 0)), (.d (.int .i64 0)), (.d (.int .i64 0))] [],.none⟩,⟨.none,.st (.t 4) (.t 10) 5,.none⟩,⟨.some 5,.mv (.k (.c (.d (.bool .false)))),.none⟩]) .ret) .skip)) (.seq (.reg .false [⟨.some 12,.mv (.t 0),.none⟩,⟨.some 13,.nilc (.t 12),.none⟩,⟨.some 14,.fa (.t 13) 1,.none⟩,⟨.some 15,.ld (.t 14) .none,.none⟩,⟨.some 16,.mv (.t 1),.none⟩,⟨.some 17,.mo (.lk .true 1 [(0, 0)] .true (.agg [(.d (.int .i64 0)), (.d (.list .true 1 [])), (.d (.int .i64 0)), (.d (.int .i64 0)), (.d (.int .i64 0))])) [(.t 15), (.t 16)],.none⟩,⟨.some 11,.mv (.t 17),.none⟩,⟨.some 18,.ext (.t 11) 0,.none⟩,⟨.some 19,.ext (.t 11) 1,.none⟩,⟨.some 6,.box (.k (.agg [(.d (.int .i64 0)), (.d (.list .true 1 [])), (.d (.int .i64 0)), (.d (.int .i64 0)), (.d (.int .i64 0))])),.none⟩,⟨.none,.st (.t 6) (.t 18) 5,.none⟩,⟨.some 7,.mv (.t 19),.none⟩]) (.seq (.reg .false [⟨.some 20,.ld (.t 6) (.some 5),.none⟩,⟨.some 21,.call 31 [(.t 20)],.none⟩,⟨.some 22,.mv (.t 7),.none⟩,⟨.none,.st (.t 4) (.t 21) 5,.none⟩,⟨.some 5,.mv (.t 22),.none⟩]) .ret)))))
abbrev n_reserve_Table_Get : Nat := 22
theorem fn_reserve_Table_Get : Try.prog.funcs[n_reserve_Table_Get]? = some Try.f22 := Try.func22
theorem c_reserve_Table_Get : compF Try.prog Try.f22 = some af_reserve_Table_Get := by kernel_rfl
def af_ref09_Has : AF := (AF.mk 18 [(4, .none)] (.seq (.reg .false [⟨.some 4,.mv (.k (.c (.d (.bool .false)))),.none⟩]) (.seq (.seq (.reg .false [⟨.some 5,.mv (.k (.c (.d (.int .i64 0)))),.none⟩]) (.block 0 (.loop (.seq (.seq (.reg .false [⟨.some 6,.mv (.t 5),.none⟩,⟨.some 7,.mv (.t 0),.none⟩,⟨.some 8,.len (.t 7),.none⟩,⟨.some 9,.bin .lss (.t 6) (.t 8),.none⟩]) (.cond (.t 9) .skip (.exit 0))) (.seq (.block 1 (.seq (.reg .false [⟨.some 12,.mv (.t 0),.none⟩,⟨.some 13,.mv (.t 5),.none⟩,⟨.some 14,.ias 1 (.t 12) (.t 13),.none⟩,⟨.some 15,.ld (.t 14) .none,.none⟩,⟨.some 16,.mv (.t 1),.none⟩,⟨.some 17,.bin .eql (.t 15) (.t 16),.none⟩]) (.cond (.t 17) (.seq (.reg .false [⟨.some 4,.mv (.k (.c (.d (.bool .true)))),.none⟩]) .ret) .skip))) (.reg .false [⟨.some 10,.mv (.t 5),.none⟩,⟨.some 11,.bin .add (.t 10) (.k (.c (.d (.int .i64 1)))),.none⟩,⟨.some 5,.mv (.t 11),.none⟩])))))) (.seq (.reg .false [⟨.some 4,.mv (.k (.c (.d (.bool .false)))),.none⟩]) .ret))))
abbrev n_ref09_Has : Nat := 23
theorem fn_ref09_Has : Try.prog.funcs[n_ref09_Has]? = some Try.f23 := Try.func23
theorem c_ref09_Has : compF Try.prog Try.f23 = some af_ref09_Has := by kernel_rfl
def af_reserve_Table_Use : AF := (AF.mk 10 [(4, .none)] (.seq (.reg .false [⟨.some 4,.mv (.k (.c (.d (.int .i64 0)))),.none⟩]) (.seq (.seq (.reg .false [⟨.some 5,.mv (.t 0),.none⟩,⟨.some 6,.isnil 1 .false (.t 5),.none⟩]) (.cond (.t 6) (.seq (.reg .false [⟨.some 4,.mv (.k (.c (.d (.int .i64 0)))),.none⟩]) .ret) .skip)) (.seq (.reg .false [⟨.some 7,.mv (.t 0),.none⟩,⟨.some 8,.mv (.t 1),.none⟩,⟨.some 9,.call 44 [(.t 7), (.t 8), (.k (.c (.fn .false 45 [])))],.none⟩,⟨.some 4,.mv (.t 9),.none⟩]) .ret))))
abbrev n_reserve_Table_Use : Nat := 24
theorem fn_reserve_Table_Use : Try.prog.funcs[n_reserve_Table_Use]? = some Try.f24 := Try.func24
theorem c_reserve_Table_Use : compF Try.prog Try.f24 = some af_reserve_Table_Use := by kernel_rfl
def af_reserve_Table_Room : AF := (AF.mk 28 [(6, .none)] (.seq (.reg .false [⟨.some 5,.box (.t 2),.none⟩,⟨.some 6,.mv (.k (.c (.d (.int .i64 0)))),.none⟩]) (.seq (.seq (.reg .false [⟨.some 7,.mv (.t 0),.none⟩,⟨.some 8,.isnil 1 .false (.t 7),.none⟩,⟨.some 9,.mv (.t 8),.none⟩,⟨.some 10,.mv (.t 0),.some (9, .false)⟩,⟨.some 11,.mv (.t 1),.some (9, .false)⟩,⟨.some 12,.call 46 [(.t 10), (.t 11)],.some (9, .false)⟩,⟨.some 13,.un .not (.t 12),.some (9, .false)⟩,⟨.some 14,.pick (.t 9) (.k (.c (.d (.bool .true)))) (.t 13),.none⟩]) (.cond (.t 14) (.seq (.reg .false [⟨.some 6,.mv (.k (.c (.d (.int .i64 0)))),.none⟩]) .ret) .skip)) (.seq (.reg .true [⟨.some 15,.mv (.t 0),.none⟩,⟨.some 16,.nilc (.t 15),.none⟩,⟨.some 17,.fa (.t 16) 0,.none⟩,⟨.some 18,.ld (.t 17) .none,.none⟩,⟨.some 19,.mv (.t 1),.none⟩,⟨.some 20,.bin .quo (.t 19) (.k (.c (.d (.int .i64 2)))),.none⟩,⟨.some 21,.ias 1 (.t 18) (.t 20),.none⟩,⟨.some 22,.ld (.t 21) .none,.none⟩,⟨.some 23,.mv (.t 0),.none⟩,⟨.some 24,.mv (.t 1),.none⟩,⟨.some 25,.mkf .false 47 [(.t 5)],.none⟩,⟨.some 26,.call 44 [(.t 23), (.t 24), (.t 25)],.none⟩,⟨.some 27,.bin .sub (.t 22) (.t 26),.none⟩,⟨.some 6,.mv (.t 27),.none⟩]) .ret))))
abbrev n_reserve_Table_Room : Nat := 25
theorem fn_reserve_Table_Room : Try.prog.funcs[n_reserve_Table_Room]? = some Try.f25 := Try.func25
theorem c_reserve_Table_Room : compF Try.prog Try.f25 = some af_reserve_Table_Room := by kernel_rfl
def af_ref09_Valid : AF := (AF.mk 94 [(2, .none)] (.seq (.reg .false [⟨.some 1,.box (.t 0),.none⟩,⟨.some 2,.mv (.k (.c (.d (.bool .false)))),.none⟩]) (.seq (.seq (.reg .false [⟨.some 5,.fa (.t 1) 0,.none⟩,⟨.some 6,.ld (.t 5) .none,.none⟩,⟨.some 7,.call 50 [(.t 6), (.k (.c (.d (.int .i64 1)))), (.k (.c (.d (.int .i64 64))))],.none⟩,⟨.some 8,.un .not (.t 7),.none⟩,⟨.some 9,.mv (.t 8),.none⟩,⟨.some 10,.fa (.t 1) 1,.some (9, .false)⟩,⟨.some 11,.ld (.t 10) .none,.some (9, .false)⟩,⟨.some 12,.len (.t 11),.some (9, .false)⟩,⟨.some 13,.bin .neq (.t 12) (.k (.c (.d (.int .i64 0)))),.some (9, .false)⟩,⟨.some 14,.mv (.t 13),.some (9, .false)⟩,⟨.some 15,.fa (.t 1) 1,.some (14, .true)⟩,⟨.some 16,.ld (.t 15) .none,.some (14, .true)⟩,⟨.some 17,.len (.t 16),.some (14, .true)⟩,⟨.some 18,.fa (.t 1) 0,.some (14, .true)⟩,⟨.some 19,.ld (.t 18) .none,.some (14, .true)⟩,⟨.some 20,.bin .neq (.t 17) (.t 19),.some (14, .true)⟩,⟨.some 21,.pick (.t 14) (.t 20) (.k (.c (.d (.bool .false)))),.some (9, .false)⟩,⟨.some 22,.pick (.t 9) (.k (.c (.d (.bool .true)))) (.t 21),.none⟩,⟨.some 23,.mv (.t 22),.none⟩,⟨.some 24,.fa (.t 1) 2,.some (23, .false)⟩,⟨.some 25,.ld (.t 24) .none,.some (23, .false)⟩,⟨.some 26,.len (.t 25),.some (23, .false)⟩,⟨.some 27,.bin .gtr (.t 26) (.k (.c (.d (.int .i64 256)))),.some (23, .false)⟩,⟨.some 28,.pick (.t 23) (.k (.c (.d (.bool .true)))) (.t 27),.none⟩]) (.cond (.t 28) (.seq (.reg .false [⟨.some 2,.mv (.k (.c (.d (.bool .false)))),.none⟩]) .ret) .skip)) (.seq (.seq (.reg .false [⟨.some 3,.mv (.k (.c (.d (.int .i64 0)))),.none⟩]) (.block 0 (.loop (.seq (.seq (.reg .false [⟨.some 29,.mv (.t 3),.none⟩,⟨.some 30,.fa (.t 1) 2,.none⟩,⟨.some 31,.ld (.t 30) .none,.none⟩,⟨.some 32,.len (.t 31),.none⟩,⟨.some 33,.bin .lss (.t 29) (.t 32),.none⟩]) (.cond (.t 33) .skip (.exit 0))) (.seq (.block 1 (.seq (.reg .false [⟨.some 36,.fa (.t 1) 2,.none⟩,⟨.some 37,.ld (.t 36) .none,.none⟩,⟨.some 38,.mv (.t 3),.none⟩,⟨.some 39,.ias 7 (.t 37) (.t 38),.none⟩,⟨.some 40,.ld (.t 39) (.some 7),.none⟩,⟨.some 4,.box (.k (.agg [(.d (.int .i64 0)), (.d (.int .i64 0)), (.d (.int .i64 0)), (.d (.int .i64 0)), (.d (.int .i64 0)), (.d (.int .i64 0)), (.d (.int .i64 0))])),.none⟩,⟨.none,.st (.t 4) (.t 40) 7,.none⟩]) (.seq (.seq (.reg .false [⟨.some 41,.fa (.t 4) 0,.none⟩,⟨.some 42,.ld (.t 41) .none,.none⟩,⟨.some 43,.fa (.t 1) 0,.none⟩,⟨.some 44,.ld (.t 43) .none,.none⟩,⟨.some 45,.bin .sub (.t 44) (.k (.c (.d (.int .i64 1)))),.none⟩,⟨.some 46,.call 50 [(.t 42), (.k (.c (.d (.int .i64 0)))), (.t 45)],.none⟩,⟨.some 47,.un .not (.t 46),.none⟩,⟨.some 48,.mv (.t 47),.none⟩,⟨.some 49,.fa (.t 4) 1,.some (48, .false)⟩,⟨.some 50,.ld (.t 49) .none,.some (48, .false)⟩,⟨.some 51,.fa (.t 1) 0,.some (48, .false)⟩,⟨.some 52,.ld (.t 51) .none,.some (48, .false)⟩,⟨.some 53,.bin .sub (.t 52) (.k (.c (.d (.int .i64 1)))),.some (48, .false)⟩,⟨.some 54,.call 50 [(.t 50), (.k (.c (.d (.int .i64 0)))), (.t 53)],.some (48, .false)⟩,⟨.some 55,.un .not (.t 54),.some (48, .false)⟩,⟨.some 56,.pick (.t 48) (.k (.c (.d (.bool .true)))) (.t 55),.none⟩,⟨.some 57,.mv (.t 56),.none⟩,⟨.some 58,.fa (.t 4) 0,.some (57, .false)⟩,⟨.some 59,.ld (.t 58) .none,.some (57, .false)⟩,⟨.some 60,.fa (.t 4) 1,.some (57, .false)⟩,⟨.some 61,.ld (.t 60) .none,.some (57, .false)⟩,⟨.some 62,.bin .eql (.t 59) (.t 61),.some (57, .false)⟩,⟨.some 63,.pick (.t 57) (.k (.c (.d (.bool .true)))) (.t 62),.none⟩,⟨.some 64,.mv (.t 63),.none⟩,⟨.some 65,.fa (.t 4) 2,.some (64, .false)⟩,⟨.some 66,.iaa 2 1 (.t 65) (.k (.c (.d (.int .i64 0)))),.some (64, .false)⟩,⟨.some 67,.ld (.t 66) .none,.some (64, .false)⟩,⟨.some 68,.call 50 [(.t 67), (.k (.c (.d (.int .i64 1)))), (.k (.c (.d (.int .i64 65535))))],.some (64, .false)⟩,⟨.some 69,.un .not (.t 68),.some (64, .false)⟩,⟨.some 70,.pick (.t 64) (.k (.c (.d (.bool .true)))) (.t 69),.none⟩,⟨.some 71,.mv (.t 70),.none⟩,⟨.some 72,.fa (.t 4) 2,.some (71, .false)⟩,⟨.some 73,.iaa 2 1 (.t 72) (.k (.c (.d (.int .i64 1)))),.some (71, .false)⟩,⟨.some 74,.ld (.t 73) .none,.some (71, .false)⟩,⟨.some 75,.call 50 [(.t 74), (.k (.c (.d (.int .i64 1)))), (.k (.c (.d (.int .i64 65535))))],.some (71, .false)⟩,⟨.some 76,.un .not (.t 75),.some (71, .false)⟩,⟨.some 77,.pick (.t 71) (.k (.c (.d (.bool .true)))) (.t 76),.none⟩]) (.cond (.t 77) (.seq (.reg .false [⟨.some 2,.mv (.k (.c (.d (.bool .false)))),.none⟩]) .ret) .skip)) (.seq (.reg .false [⟨.some 78,.fa (.t 4) 4,.none⟩,⟨.some 79,.ld (.t 78) .none,.none⟩,⟨.some 80,.call 50 [(.t 79), (.k (.c (.d (.int .i64 0)))), (.k (.c (.d (.int .i64 1048576))))],.none⟩,⟨.some 81,.un .not (.t 80),.none⟩,⟨.some 82,.mv (.t 81),.none⟩,⟨.some 83,.fa (.t 4) 5,.some (82, .false)⟩,⟨.some 84,.ld (.t 83) .none,.some (82, .false)⟩,⟨.some 85,.call 50 [(.t 84), (.k (.c (.d (.int .i64 1)))), (.k (.c (.d (.int .i64 65536))))],.some (82, .false)⟩,⟨.some 86,.un .not (.t 85),.some (82, .false)⟩,⟨.some 87,.pick (.t 82) (.k (.c (.d (.bool .true)))) (.t 86),.none⟩,⟨.some 88,.mv (.t 87),.none⟩,⟨.some 89,.fa (.t 4) 6,.some (88, .false)⟩,⟨.some 90,.ld (.t 89) .none,.some (88, .false)⟩,⟨.some 91,.call 50 [(.t 90), (.k (.c (.d (.int .i64 0)))), (.k (.c (.d (.int .i64 64))))],.some (88, .false)⟩,⟨.some 92,.un .not (.t 91),.some (88, .false)⟩,⟨.some 93,.pick (.t 88) (.k (.c (.d (.bool .true)))) (.t 92),.none⟩]) (.cond (.t 93) (.seq (.reg .false [⟨.some 2,.mv (.k (.c (.d (.bool .false)))),.none⟩]) .ret) .skip))))) (.reg .false [⟨.some 34,.mv (.t 3),.none⟩,⟨.some 35,.bin .add (.t 34) (.k (.c (.d (.int .i64 1)))),.none⟩,⟨.some 3,.mv (.t 35),.none⟩])))))) (.seq (.reg .false [⟨.some 2,.mv (.k (.c (.d (.bool .true)))),.none⟩]) .ret)))))
abbrev n_ref09_Valid : Nat := 27
theorem fn_ref09_Valid : Try.prog.funcs[n_ref09_Valid]? = some Try.f27 := Try.func27
theorem c_ref09_Valid : compF Try.prog Try.f27 = some af_ref09_Valid := by kernel_rfl
def af_law47_one : AF := (AF.mk 5 [(0, (.some (.some 3)))] (.seq (.reg .false [⟨.some 0,.box (.k (.agg [(.d (.int .i64 0)), (.d (.list .true 1 [])), (.d (.list .true 7 []))])),.none⟩]) (.seq (.reg .false [⟨.some 1,.build [(.d (.int .i64 0)), (.d (.int .i64 0))] [(0, (1, (.k (.c (.d (.int .i64 1)))))), (1, (1, (.k (.c (.d (.int .i64 1))))))],.none⟩,⟨.some 2,.build [(.d (.int .i64 0)), (.d (.int .i64 0)), (.d (.int .i64 0)), (.d (.int .i64 0)), (.d (.int .i64 0)), (.d (.int .i64 0)), (.d (.int .i64 0))] [(0, (1, (.k (.c (.d (.int .i64 0)))))), (1, (1, (.k (.c (.d (.int .i64 1)))))), (2, (2, (.t 1))), (4, (1, (.k (.c (.d (.int .i64 10)))))), (5, (1, (.k (.c (.d (.int .i64 1))))))],.none⟩,⟨.some 3,.bsl 7 [(.int .i64 0), (.int .i64 0), (.int .i64 0), (.int .i64 0), (.int .i64 0), (.int .i64 0), (.int .i64 0)] 1 [(0, (.t 2))],.none⟩,⟨.some 4,.build [(.d (.int .i64 0)), (.d (.list .true 1 [])), (.d (.list .true 7 []))] [(0, (1, (.k (.c (.d (.int .i64 2)))))), (2, (1, (.t 3)))],.none⟩,⟨.none,.st (.t 0) (.t 4) 3,.none⟩]) .ret)))
abbrev n_law47_one : Nat := 28
theorem fn_law47_one : Try.prog.funcs[n_law47_one]? = some Try.f28 := Try.func28
theorem c_law47_one : compF Try.prog Try.f28 = some af_law47_one := by kernel_rfl
def af_ref09_SameInts : AF := (AF.mk 26 [(4, .none)] (.seq (.reg .false [⟨.some 4,.mv (.k (.c (.d (.bool .false)))),.none⟩]) (.seq (.seq (.reg .false [⟨.some 6,.mv (.t 0),.none⟩,⟨.some 7,.len (.t 6),.none⟩,⟨.some 8,.mv (.t 1),.none⟩,⟨.some 9,.len (.t 8),.none⟩,⟨.some 10,.bin .neq (.t 7) (.t 9),.none⟩]) (.cond (.t 10) (.seq (.reg .false [⟨.some 4,.mv (.k (.c (.d (.bool .false)))),.none⟩]) .ret) .skip)) (.seq (.seq (.reg .false [⟨.some 5,.mv (.k (.c (.d (.int .i64 0)))),.none⟩]) (.block 0 (.loop (.seq (.seq (.reg .false [⟨.some 11,.mv (.t 5),.none⟩,⟨.some 12,.mv (.t 0),.none⟩,⟨.some 13,.len (.t 12),.none⟩,⟨.some 14,.bin .lss (.t 11) (.t 13),.none⟩]) (.cond (.t 14) .skip (.exit 0))) (.seq (.block 1 (.seq (.reg .true [⟨.some 17,.mv (.t 0),.none⟩,⟨.some 18,.mv (.t 5),.none⟩,⟨.some 19,.ias 1 (.t 17) (.t 18),.none⟩,⟨.some 20,.ld (.t 19) .none,.none⟩,⟨.some 21,.mv (.t 1),.none⟩,⟨.some 22,.mv (.t 5),.none⟩,⟨.some 23,.ias 1 (.t 21) (.t 22),.none⟩,⟨.some 24,.ld (.t 23) .none,.none⟩,⟨.some 25,.bin .neq (.t 20) (.t 24),.none⟩]) (.cond (.t 25) (.seq (.reg .false [⟨.some 4,.mv (.k (.c (.d (.bool .false)))),.none⟩]) .ret) .skip))) (.reg .false [⟨.some 15,.mv (.t 5),.none⟩,⟨.some 16,.bin .add (.t 15) (.k (.c (.d (.int .i64 1)))),.none⟩,⟨.some 5,.mv (.t 16),.none⟩])))))) (.seq (.reg .false [⟨.some 4,.mv (.k (.c (.d (.bool .true)))),.none⟩]) .ret)))))
abbrev n_ref09_SameInts : Nat := 29
theorem fn_ref09_SameInts : Try.prog.funcs[n_ref09_SameInts]? = some Try.f29 := Try.func29
theorem c_ref09_SameInts : compF Try.prog Try.f29 = some af_ref09_SameInts := by kernel_rfl
def af_slices_Clone_int_int : AF := (AF.mk 8 [(2, .none)] (.seq (.reg .false [⟨.some 2,.mv (.k (.c (.d (.list .true 1 [])))),.none⟩]) (.seq (.seq (.reg .false [⟨.some 3,.mv (.t 0),.none⟩,⟨.some 4,.isnil 0 .false (.t 3),.none⟩]) (.cond (.t 4) (.seq (.reg .false [⟨.some 2,.mv (.k (.c (.d (.list .true 1 [])))),.none⟩]) .ret) .skip)) (.seq (.reg .false [⟨.some 5,.bsl 1 [(.int .i64 0)] 0 [],.none⟩,⟨.some 6,.mv (.t 0),.none⟩,⟨.some 7,.app 1 8 [(.int .i64 0)] (.t 5) (.t 6),.none⟩,⟨.some 2,.mv (.t 7),.none⟩]) .ret))))
abbrev n_slices_Clone_int_int : Nat := 30
theorem fn_slices_Clone_int_int : Try.prog.funcs[n_slices_Clone_int_int]? = some Try.f30 := Try.func30
theorem c_slices_Clone_int_int : compF Try.prog Try.f30 = some af_slices_Clone_int_int := by kernel_rfl
def af_reserve_clone : AF := (AF.mk 8 [(2, (.some (.some 5)))] (.seq (.reg .false [⟨.some 1,.box (.t 0),.none⟩,⟨.some 2,.box (.k (.agg [(.d (.int .i64 0)), (.d (.list .true 1 [])), (.d (.int .i64 0)), (.d (.int .i64 0)), (.d (.int .i64 0))])),.none⟩]) (.seq (.reg .false [⟨.some 3,.fa (.t 1) 1,.none⟩,⟨.some 4,.ld (.t 3) .none,.none⟩,⟨.some 5,.call 30 [(.t 4)],.none⟩,⟨.some 6,.fa (.t 1) 1,.none⟩,⟨.none,.st (.t 6) (.t 5) 1,.none⟩]) (.seq (.reg .false [⟨.some 7,.ld (.t 1) (.some 5),.none⟩,⟨.none,.st (.t 2) (.t 7) 5,.none⟩]) .ret))))
abbrev n_reserve_clone : Nat := 31
theorem fn_reserve_clone : Try.prog.funcs[n_reserve_clone]? = some Try.f31 := Try.func31
theorem c_reserve_clone : compF Try.prog Try.f31 = some af_reserve_clone := by kernel_rfl
def af_reserve_Table_proper : AF := (AF.mk 63 [(4, .none)] (.seq (.reg .false [⟨.some 3,.box (.t 1),.none⟩,⟨.some 4,.mv (.k (.c (.d (.bool .false)))),.none⟩]) (.seq (.seq (.reg .false [⟨.some 7,.fa (.t 3) 1,.none⟩,⟨.some 8,.ld (.t 7) .none,.none⟩,⟨.some 9,.len (.t 8),.none⟩,⟨.some 10,.bin .lss (.t 9) (.k (.c (.d (.int .i64 1)))),.none⟩,⟨.some 11,.mv (.t 10),.none⟩,⟨.some 12,.fa (.t 3) 1,.some (11, .false)⟩,⟨.some 13,.ld (.t 12) .none,.some (11, .false)⟩,⟨.some 14,.len (.t 13),.some (11, .false)⟩,⟨.some 15,.bin .gtr (.t 14) (.k (.c (.d (.int .i64 64)))),.some (11, .false)⟩,⟨.some 16,.pick (.t 11) (.k (.c (.d (.bool .true)))) (.t 15),.none⟩,⟨.some 17,.mv (.t 16),.none⟩,⟨.some 18,.fa (.t 3) 2,.some (17, .false)⟩,⟨.some 19,.ld (.t 18) .none,.some (17, .false)⟩,⟨.some 20,.bin .lss (.t 19) (.k (.c (.d (.int .i64 1)))),.some (17, .false)⟩,⟨.some 21,.pick (.t 17) (.k (.c (.d (.bool .true)))) (.t 20),.none⟩,⟨.some 22,.mv (.t 21),.none⟩,⟨.some 23,.fa (.t 3) 2,.some (22, .false)⟩,⟨.some 24,.ld (.t 23) .none,.some (22, .false)⟩,⟨.some 25,.bin .gtr (.t 24) (.k (.c (.d (.int .i64 1048576)))),.some (22, .false)⟩,⟨.some 26,.pick (.t 22) (.k (.c (.d (.bool .true)))) (.t 25),.none⟩]) (.cond (.t 26) (.seq (.reg .false [⟨.some 4,.mv (.k (.c (.d (.bool .false)))),.none⟩]) .ret) .skip)) (.seq (.seq (.reg .false [⟨.some 27,.fa (.t 3) 1,.none⟩,⟨.some 28,.ld (.t 27) .none,.none⟩,⟨.some 29,.len (.t 28),.none⟩,⟨.some 30,.mv (.k (.c (.d (.int .i64 0)))),.none⟩]) (.block 0 (.loop (.seq (.reg .false [⟨.some 31,.bin .lss (.t 30) (.t 29),.none⟩]) (.seq (.cond (.t 31) .skip (.exit 0)) (.seq (.block 1 (.seq (.reg .false [⟨.some 32,.mv (.t 30),.none⟩,⟨.some 33,.ias 1 (.t 28) (.t 30),.none⟩,⟨.some 34,.ld (.t 33) .none,.none⟩,⟨.some 5,.mv (.t 32),.none⟩,⟨.some 6,.mv (.t 34),.none⟩]) (.seq (.reg .false [⟨.some 35,.mv (.t 0),.none⟩,⟨.some 36,.mv (.t 6),.none⟩,⟨.some 37,.call 46 [(.t 35), (.t 36)],.none⟩,⟨.some 38,.un .not (.t 37),.none⟩,⟨.some 39,.mv (.t 38),.none⟩,⟨.some 40,.fa (.t 3) 1,.some (39, .false)⟩,⟨.some 41,.ld (.t 40) .none,.some (39, .false)⟩,⟨.some 42,.mv (.t 5),.some (39, .false)⟩,⟨.some 43,.sl 1 (.t 41) .none (.some (.t 42)) .none,.some (39, .false)⟩,⟨.some 44,.mv (.t 6),.some (39, .false)⟩,⟨.some 45,.call 35 [(.t 43), (.t 44)],.some (39, .false)⟩,⟨.some 46,.pick (.t 39) (.k (.c (.d (.bool .true)))) (.t 45),.none⟩]) (.cond (.t 46) (.seq (.reg .false [⟨.some 4,.mv (.k (.c (.d (.bool .false)))),.none⟩]) .ret) .skip)))) (.reg .false [⟨.some 47,.bin .add (.t 30) (.k (.c (.d (.int .i64 1)))),.none⟩,⟨.some 30,.mv (.t 47),.none⟩]))))))) (.seq (.reg .false [⟨.some 48,.fa (.t 3) 4,.none⟩,⟨.some 49,.ld (.t 48) .none,.none⟩,⟨.some 50,.bin .geq (.t 49) (.k (.c (.d (.int .i64 0)))),.none⟩,⟨.some 51,.mv (.t 50),.none⟩,⟨.some 52,.fa (.t 3) 4,.some (51, .true)⟩,⟨.some 53,.ld (.t 52) .none,.some (51, .true)⟩,⟨.some 54,.fa (.t 3) 3,.some (51, .true)⟩,⟨.some 55,.ld (.t 54) .none,.some (51, .true)⟩,⟨.some 56,.bin .leq (.t 53) (.t 55),.some (51, .true)⟩,⟨.some 57,.pick (.t 51) (.t 56) (.k (.c (.d (.bool .false)))),.none⟩,⟨.some 58,.mv (.t 57),.none⟩,⟨.some 59,.fa (.t 3) 3,.some (58, .true)⟩,⟨.some 60,.ld (.t 59) .none,.some (58, .true)⟩,⟨.some 61,.bin .leq (.t 60) (.k (.c (.d (.int .i64 7)))),.some (58, .true)⟩,⟨.some 62,.pick (.t 58) (.t 61) (.k (.c (.d (.bool .false)))),.none⟩,⟨.some 4,.mv (.t 62),.none⟩]) .ret)))))
abbrev n_reserve_Table_proper : Nat := 32
theorem fn_reserve_Table_proper : Try.prog.funcs[n_reserve_Table_proper]? = some Try.f32 := Try.func32
theorem c_reserve_Table_proper : compF Try.prog Try.f32 = some af_reserve_Table_proper := by kernel_rfl
def af_reserve_Table_yielding : AF := (AF.mk 29 [(4, .none)] (.seq (.reg .false [⟨.some 3,.box (.t 1),.none⟩,⟨.some 4,.mv (.k (.c (.d (.list .true 5 [])))),.none⟩]) (.seq (.reg .false [⟨.some 5,.mv (.k (.c (.d (.list .true 5 [])))),.none⟩]) (.seq (.seq (.reg .false [⟨.some 8,.mv (.t 0),.none⟩,⟨.some 9,.nilc (.t 8),.none⟩,⟨.some 10,.fa (.t 9) 1,.none⟩,⟨.some 11,.ld (.t 10) .none,.none⟩,⟨.some 12,.rng (.t 11),.none⟩]) (.block 0 (.loop (.seq (.reg .false [⟨.some 13,.nx (.t 12),.none⟩,⟨.some 14,.ext (.t 13) 0,.none⟩]) (.seq (.cond (.t 14) .skip (.exit 0)) (.block 1 (.seq (.reg .false [⟨.some 15,.ent (.t 12),.none⟩,⟨.some 16,.ext (.t 15) 1,.none⟩,⟨.some 7,.box (.k (.agg [(.d (.int .i64 0)), (.d (.list .true 1 [])), (.d (.int .i64 0)), (.d (.int .i64 0)), (.d (.int .i64 0))])),.none⟩,⟨.none,.st (.t 7) (.t 16) 5,.none⟩]) (.seq (.reg .false [⟨.some 17,.fa (.t 7) 4,.none⟩,⟨.some 18,.ld (.t 17) .none,.none⟩,⟨.some 19,.fa (.t 3) 3,.none⟩,⟨.some 20,.ld (.t 19) .none,.none⟩,⟨.some 21,.bin .gtr (.t 18) (.t 20),.none⟩]) (.cond (.t 21) (.reg .false [⟨.some 22,.mv (.t 5),.none⟩,⟨.some 23,.ld (.t 7) (.some 5),.none⟩,⟨.some 24,.bsl 5 [(.int .i64 0), (.list .true 1 []), (.int .i64 0), (.int .i64 0), (.int .i64 0)] 1 [(0, (.t 23))],.none⟩,⟨.some 25,.app 5 56 [(.int .i64 0), (.list .true 1 []), (.int .i64 0), (.int .i64 0), (.int .i64 0)] (.t 22) (.t 24),.none⟩,⟨.some 5,.mv (.t 25),.none⟩]) .skip))))))))) (.seq (.reg .false [⟨.some 26,.mv (.t 5),.none⟩,⟨.some 27,.call 51 [(.t 26), (.k (.c (.fn .false 52 [])))],.none⟩]) (.seq (.reg .false [⟨.some 28,.mv (.t 5),.none⟩,⟨.some 4,.mv (.t 28),.none⟩]) .ret))))))
abbrev n_reserve_Table_yielding : Nat := 33
theorem fn_reserve_Table_yielding : Try.prog.funcs[n_reserve_Table_yielding]? = some Try.f33 := Try.func33
theorem c_reserve_Table_yielding : compF Try.prog Try.f33 = some af_reserve_Table_yielding := by kernel_rfl
def af_reserve_Table_Reserve_1 : AF := (AF.mk 26 [(4, .none)] (.seq (.reg .false [⟨.some 4,.mv (.k (.c (.d (.bool .false)))),.none⟩]) (.seq (.seq (.reg .true [⟨.some 5,.fa (.t 1) 1,.none⟩,⟨.some 6,.ld (.t 5) .none,.none⟩,⟨.some 7,.mv (.t 0),.none⟩]) (.seq (.reg .false [⟨.some 8,.call 35 [(.t 6), (.t 7)],.none⟩]) (.reg .true [⟨.some 9,.mv (.t 8),.none⟩,⟨.some 10,.ld (.t 2) .none,.some (9, .true)⟩,⟨.some 11,.nilc (.t 10),.some (9, .true)⟩,⟨.some 12,.fa (.t 11) 0,.some (9, .true)⟩,⟨.some 13,.ld (.t 12) .none,.some (9, .true)⟩,⟨.some 14,.mv (.t 0),.some (9, .true)⟩,⟨.some 15,.bin .quo (.t 14) (.k (.c (.d (.int .i64 2)))),.some (9, .true)⟩,⟨.some 16,.ias 1 (.t 13) (.t 15),.some (9, .true)⟩,⟨.some 17,.ld (.t 16) .none,.some (9, .true)⟩,⟨.some 18,.ld (.t 2) .none,.some (9, .true)⟩,⟨.some 19,.mv (.t 0),.some (9, .true)⟩,⟨.some 20,.call 24 [(.t 18), (.t 19)],.some (9, .true)⟩,⟨.some 21,.bin .sub (.t 17) (.t 20),.some (9, .true)⟩,⟨.some 22,.fa (.t 1) 2,.some (9, .true)⟩,⟨.some 23,.ld (.t 22) .none,.some (9, .true)⟩,⟨.some 24,.bin .lss (.t 21) (.t 23),.some (9, .true)⟩,⟨.some 25,.pick (.t 9) (.t 24) (.k (.c (.d (.bool .false)))),.none⟩,⟨.some 4,.mv (.t 25),.none⟩]))) .ret)))
abbrev n_reserve_Table_Reserve_1 : Nat := 34
theorem fn_reserve_Table_Reserve_1 : Try.prog.funcs[n_reserve_Table_Reserve_1]? = some Try.f34 := Try.func34
theorem c_reserve_Table_Reserve_1 : compF Try.prog Try.f34 = some af_reserve_Table_Reserve_1 := by kernel_rfl
def af_slices_Contains_int_int : AF := (AF.mk 9 [(4, .none)] (.seq (.reg .false [⟨.some 4,.mv (.k (.c (.d (.bool .false)))),.none⟩]) (.seq (.reg .false [⟨.some 5,.mv (.t 0),.none⟩,⟨.some 6,.mv (.t 1),.none⟩,⟨.some 7,.call 55 [(.t 5), (.t 6)],.none⟩,⟨.some 8,.bin .geq (.t 7) (.k (.c (.d (.int .i64 0)))),.none⟩,⟨.some 4,.mv (.t 8),.none⟩]) .ret)))
abbrev n_slices_Contains_int_int : Nat := 35
theorem fn_slices_Contains_int_int : Try.prog.funcs[n_slices_Contains_int_int]? = some Try.f35 := Try.func35
theorem c_slices_Contains_int_int : compF Try.prog Try.f35 = some af_slices_Contains_int_int := by kernel_rfl
def af_slices_ContainsFunc_int_int : AF := (AF.mk 9 [(4, .none)] (.seq (.reg .false [⟨.some 4,.mv (.k (.c (.d (.bool .false)))),.none⟩]) (.seq (.reg .false [⟨.some 5,.mv (.t 0),.none⟩,⟨.some 6,.mv (.t 1),.none⟩,⟨.some 7,.call 56 [(.t 5), (.t 6)],.none⟩,⟨.some 8,.bin .geq (.t 7) (.k (.c (.d (.int .i64 0)))),.none⟩,⟨.some 4,.mv (.t 8),.none⟩]) .ret)))
abbrev n_slices_ContainsFunc_int_int : Nat := 36
theorem fn_slices_ContainsFunc_int_int : Try.prog.funcs[n_slices_ContainsFunc_int_int]? = some Try.f36 := Try.func36
theorem c_slices_ContainsFunc_int_int : compF Try.prog Try.f36 = some af_slices_ContainsFunc_int_int := by kernel_rfl
def af_topology_Valid : AF := (AF.mk 103 [(2, .none)] (.seq (.reg .false [⟨.some 1,.box (.t 0),.none⟩,⟨.some 2,.mv (.k (.c (.d (.bool .false)))),.none⟩]) (.seq (.seq (.reg .false [⟨.some 5,.fa (.t 1) 0,.none⟩,⟨.some 6,.ld (.t 5) .none,.none⟩,⟨.some 7,.call 58 [(.t 6), (.k (.c (.d (.int .i64 1)))), (.k (.c (.d (.int .i64 64))))],.none⟩,⟨.some 8,.un .not (.t 7),.none⟩,⟨.some 9,.mv (.t 8),.none⟩,⟨.some 10,.fa (.t 1) 2,.some (9, .false)⟩,⟨.some 11,.ld (.t 10) .none,.some (9, .false)⟩,⟨.some 12,.len (.t 11),.some (9, .false)⟩,⟨.some 13,.bin .gtr (.t 12) (.k (.c (.d (.int .i64 256)))),.some (9, .false)⟩,⟨.some 14,.pick (.t 9) (.k (.c (.d (.bool .true)))) (.t 13),.none⟩]) (.cond (.t 14) (.seq (.reg .false [⟨.some 2,.mv (.k (.c (.d (.bool .false)))),.none⟩]) .ret) .skip)) (.seq (.seq (.reg .false [⟨.some 15,.fa (.t 1) 1,.none⟩,⟨.some 16,.ld (.t 15) .none,.none⟩,⟨.some 17,.len (.t 16),.none⟩,⟨.some 18,.bin .neq (.t 17) (.k (.c (.d (.int .i64 0)))),.none⟩,⟨.some 19,.mv (.t 18),.none⟩,⟨.some 20,.fa (.t 1) 1,.some (19, .true)⟩,⟨.some 21,.ld (.t 20) .none,.some (19, .true)⟩,⟨.some 22,.len (.t 21),.some (19, .true)⟩,⟨.some 23,.fa (.t 1) 0,.some (19, .true)⟩,⟨.some 24,.ld (.t 23) .none,.some (19, .true)⟩,⟨.some 25,.bin .neq (.t 22) (.t 24),.some (19, .true)⟩,⟨.some 26,.pick (.t 19) (.t 25) (.k (.c (.d (.bool .false)))),.none⟩]) (.cond (.t 26) (.seq (.reg .false [⟨.some 2,.mv (.k (.c (.d (.bool .false)))),.none⟩]) .ret) .skip)) (.seq (.seq (.reg .false [⟨.some 27,.fa (.t 1) 2,.none⟩,⟨.some 28,.ld (.t 27) .none,.none⟩,⟨.some 29,.len (.t 28),.none⟩,⟨.some 30,.mv (.k (.c (.d (.int .i64 0)))),.none⟩]) (.block 0 (.loop (.seq (.reg .false [⟨.some 31,.bin .lss (.t 30) (.t 29),.none⟩]) (.seq (.cond (.t 31) .skip (.exit 0)) (.seq (.block 1 (.seq (.reg .false [⟨.some 32,.mv (.t 30),.none⟩,⟨.some 3,.mv (.t 32),.none⟩]) (.seq (.reg .false [⟨.some 33,.fa (.t 1) 2,.none⟩,⟨.some 34,.ld (.t 33) .none,.none⟩,⟨.some 35,.mv (.t 3),.none⟩,⟨.some 36,.ias 7 (.t 34) (.t 35),.none⟩,⟨.some 4,.mv (.t 36),.none⟩]) (.seq (.seq (.seq (.reg .true [⟨.some 37,.mv (.t 4),.none⟩,⟨.some 38,.nilc (.t 37),.none⟩,⟨.some 39,.fa (.t 38) 0,.none⟩,⟨.some 40,.ld (.t 39) .none,.none⟩,⟨.some 41,.mv (.t 4),.none⟩,⟨.some 42,.nilc (.t 41),.none⟩,⟨.some 43,.fa (.t 42) 1,.none⟩,⟨.some 44,.ld (.t 43) .none,.none⟩,⟨.some 45,.bin .eql (.t 40) (.t 44),.none⟩,⟨.some 46,.mv (.t 45),.none⟩,⟨.some 47,.ld (.t 1) (.some 3),.some (46, .false)⟩,⟨.some 48,.mv (.t 4),.some (46, .false)⟩,⟨.some 49,.nilc (.t 48),.some (46, .false)⟩,⟨.some 50,.fa (.t 49) 0,.some (46, .false)⟩,⟨.some 51,.ld (.t 50) .none,.some (46, .false)⟩]) (.seq (.reg .false [⟨.some 52,.call 59 [(.t 47), (.t 51)],.some (46, .false)⟩]) (.seq (.reg .true [⟨.some 53,.un .not (.t 52),.some (46, .false)⟩,⟨.some 54,.pick (.t 46) (.k (.c (.d (.bool .true)))) (.t 53),.none⟩,⟨.some 55,.mv (.t 54),.none⟩,⟨.some 56,.ld (.t 1) (.some 3),.some (55, .false)⟩,⟨.some 57,.mv (.t 4),.some (55, .false)⟩,⟨.some 58,.nilc (.t 57),.some (55, .false)⟩,⟨.some 59,.fa (.t 58) 1,.some (55, .false)⟩,⟨.some 60,.ld (.t 59) .none,.some (55, .false)⟩]) (.seq (.reg .false [⟨.some 61,.call 59 [(.t 56), (.t 60)],.some (55, .false)⟩]) (.reg .true [⟨.some 62,.un .not (.t 61),.some (55, .false)⟩,⟨.some 63,.pick (.t 55) (.k (.c (.d (.bool .true)))) (.t 62),.none⟩]))))) (.cond (.t 63) (.seq (.reg .false [⟨.some 2,.mv (.k (.c (.d (.bool .false)))),.none⟩]) .ret) .skip)) (.seq (.seq (.reg .false [⟨.some 64,.mv (.t 4),.none⟩,⟨.some 65,.nilc (.t 64),.none⟩,⟨.some 66,.fa (.t 65) 2,.none⟩,⟨.some 67,.iaa 2 1 (.t 66) (.k (.c (.d (.int .i64 0)))),.none⟩,⟨.some 68,.ld (.t 67) .none,.none⟩,⟨.some 69,.call 58 [(.t 68), (.k (.c (.d (.int .i64 1)))), (.k (.c (.d (.int .i64 65535))))],.none⟩,⟨.some 70,.un .not (.t 69),.none⟩,⟨.some 71,.mv (.t 70),.none⟩,⟨.some 72,.mv (.t 4),.some (71, .false)⟩,⟨.some 73,.nilc (.t 72),.some (71, .false)⟩,⟨.some 74,.fa (.t 73) 2,.some (71, .false)⟩,⟨.some 75,.iaa 2 1 (.t 74) (.k (.c (.d (.int .i64 1)))),.some (71, .false)⟩,⟨.some 76,.ld (.t 75) .none,.some (71, .false)⟩,⟨.some 77,.call 58 [(.t 76), (.k (.c (.d (.int .i64 1)))), (.k (.c (.d (.int .i64 65535))))],.some (71, .false)⟩,⟨.some 78,.un .not (.t 77),.some (71, .false)⟩,⟨.some 79,.pick (.t 71) (.k (.c (.d (.bool .true)))) (.t 78),.none⟩]) (.cond (.t 79) (.seq (.reg .false [⟨.some 2,.mv (.k (.c (.d (.bool .false)))),.none⟩]) .ret) .skip)) (.seq (.reg .false [⟨.some 80,.mv (.t 4),.none⟩,⟨.some 81,.nilc (.t 80),.none⟩,⟨.some 82,.fa (.t 81) 4,.none⟩,⟨.some 83,.ld (.t 82) .none,.none⟩,⟨.some 84,.call 58 [(.t 83), (.k (.c (.d (.int .i64 0)))), (.k (.c (.d (.int .i64 1048576))))],.none⟩,⟨.some 85,.un .not (.t 84),.none⟩,⟨.some 86,.mv (.t 85),.none⟩,⟨.some 87,.mv (.t 4),.some (86, .false)⟩,⟨.some 88,.nilc (.t 87),.some (86, .false)⟩,⟨.some 89,.fa (.t 88) 5,.some (86, .false)⟩,⟨.some 90,.ld (.t 89) .none,.some (86, .false)⟩,⟨.some 91,.call 58 [(.t 90), (.k (.c (.d (.int .i64 1)))), (.k (.c (.d (.int .i64 65536))))],.some (86, .false)⟩,⟨.some 92,.un .not (.t 91),.some (86, .false)⟩,⟨.some 93,.pick (.t 86) (.k (.c (.d (.bool .true)))) (.t 92),.none⟩,⟨.some 94,.mv (.t 93),.none⟩,⟨.some 95,.mv (.t 4),.some (94, .false)⟩,⟨.some 96,.nilc (.t 95),.some (94, .false)⟩,⟨.some 97,.fa (.t 96) 6,.some (94, .false)⟩,⟨.some 98,.ld (.t 97) .none,.some (94, .false)⟩,⟨.some 99,.call 58 [(.t 98), (.k (.c (.d (.int .i64 0)))), (.k (.c (.d (.int .i64 64))))],.some (94, .false)⟩,⟨.some 100,.un .not (.t 99),.some (94, .false)⟩,⟨.some 101,.pick (.t 94) (.k (.c (.d (.bool .true)))) (.t 100),.none⟩]) (.cond (.t 101) (.seq (.reg .false [⟨.some 2,.mv (.k (.c (.d (.bool .false)))),.none⟩]) .ret) .skip))))))) (.reg .false [⟨.some 102,.bin .add (.t 30) (.k (.c (.d (.int .i64 1)))),.none⟩,⟨.some 30,.mv (.t 102),.none⟩]))))))) (.seq (.reg .false [⟨.some 2,.mv (.k (.c (.d (.bool .true)))),.none⟩]) .ret))))))
abbrev n_topology_Valid : Nat := 41
theorem fn_topology_Valid : Try.prog.funcs[n_topology_Valid]? = some Try.f41 := Try.func41
theorem c_topology_Valid : compF Try.prog Try.f41 = some af_topology_Valid := by kernel_rfl
def af_reserve_Table_sum : AF := (AF.mk 33 [(6, .none)] (.seq (.reg .false [⟨.some 6,.mv (.k (.c (.d (.int .i64 0)))),.none⟩]) (.seq (.reg .false [⟨.some 7,.mv (.k (.c (.d (.int .i64 0)))),.none⟩]) (.seq (.seq (.reg .false [⟨.some 10,.mv (.t 0),.none⟩,⟨.some 11,.nilc (.t 10),.none⟩,⟨.some 12,.fa (.t 11) 1,.none⟩,⟨.some 13,.ld (.t 12) .none,.none⟩,⟨.some 14,.rng (.t 13),.none⟩]) (.block 0 (.loop (.seq (.reg .false [⟨.some 15,.nx (.t 14),.none⟩,⟨.some 16,.ext (.t 15) 0,.none⟩]) (.seq (.cond (.t 16) .skip (.exit 0)) (.block 1 (.seq (.reg .false [⟨.some 17,.ent (.t 14),.none⟩,⟨.some 18,.ext (.t 17) 1,.none⟩,⟨.some 9,.box (.k (.agg [(.d (.int .i64 0)), (.d (.list .true 1 [])), (.d (.int .i64 0)), (.d (.int .i64 0)), (.d (.int .i64 0))])),.none⟩,⟨.none,.st (.t 9) (.t 18) 5,.none⟩]) (.seq (.reg .false [⟨.some 19,.mv (.t 2),.none⟩,⟨.some 20,.ld (.t 9) (.some 5),.none⟩,⟨.some 21,.callv (.t 19) [(.t 20)],.none⟩,⟨.some 22,.mv (.t 21),.none⟩,⟨.some 23,.fa (.t 9) 1,.some (22, .true)⟩,⟨.some 24,.ld (.t 23) .none,.some (22, .true)⟩,⟨.some 25,.mv (.t 1),.some (22, .true)⟩,⟨.some 26,.call 35 [(.t 24), (.t 25)],.some (22, .true)⟩,⟨.some 27,.pick (.t 22) (.t 26) (.k (.c (.d (.bool .false)))),.none⟩]) (.cond (.t 27) (.reg .false [⟨.some 28,.mv (.t 7),.none⟩,⟨.some 29,.fa (.t 9) 2,.none⟩,⟨.some 30,.ld (.t 29) .none,.none⟩,⟨.some 31,.bin .add (.t 28) (.t 30),.none⟩,⟨.some 7,.mv (.t 31),.none⟩]) .skip))))))))) (.seq (.reg .false [⟨.some 32,.mv (.t 7),.none⟩,⟨.some 6,.mv (.t 32),.none⟩]) .ret)))))
abbrev n_reserve_Table_sum : Nat := 44
theorem fn_reserve_Table_sum : Try.prog.funcs[n_reserve_Table_sum]? = some Try.f44 := Try.func44
theorem c_reserve_Table_sum : compF Try.prog Try.f44 = some af_reserve_Table_sum := by kernel_rfl
def af_reserve_Table_Use_1 : AF := (AF.mk 3 [(2, .none)] (.seq (.reg .false [⟨.some 1,.box (.t 0),.none⟩,⟨.some 2,.mv (.k (.c (.d (.bool .false)))),.none⟩]) (.seq (.reg .false [⟨.some 2,.mv (.k (.c (.d (.bool .true)))),.none⟩]) .ret)))
abbrev n_reserve_Table_Use_1 : Nat := 45
theorem fn_reserve_Table_Use_1 : Try.prog.funcs[n_reserve_Table_Use_1]? = some Try.f45 := Try.func45
theorem c_reserve_Table_Use_1 : compF Try.prog Try.f45 = some af_reserve_Table_Use_1 := by kernel_rfl
def af_reserve_Table_has : AF := (AF.mk 17 [(4, .none)] (.seq (.reg .false [⟨.some 4,.mv (.k (.c (.d (.bool .false)))),.none⟩]) (.seq (.reg .false [⟨.some 5,.mv (.t 1),.none⟩,⟨.some 6,.bin .geq (.t 5) (.k (.c (.d (.int .i64 0)))),.none⟩,⟨.some 7,.mv (.t 6),.none⟩,⟨.some 8,.mv (.t 1),.some (7, .true)⟩,⟨.some 9,.mv (.t 0),.some (7, .true)⟩,⟨.some 10,.nilc (.t 9),.some (7, .true)⟩,⟨.some 11,.fa (.t 10) 0,.some (7, .true)⟩,⟨.some 12,.ld (.t 11) .none,.some (7, .true)⟩,⟨.some 13,.len (.t 12),.some (7, .true)⟩,⟨.some 14,.bin .mul (.k (.c (.d (.int .i64 2)))) (.t 13),.some (7, .true)⟩,⟨.some 15,.bin .lss (.t 8) (.t 14),.some (7, .true)⟩,⟨.some 16,.pick (.t 7) (.t 15) (.k (.c (.d (.bool .false)))),.none⟩,⟨.some 4,.mv (.t 16),.none⟩]) .ret)))
abbrev n_reserve_Table_has : Nat := 46
theorem fn_reserve_Table_has : Try.prog.funcs[n_reserve_Table_has]? = some Try.f46 := Try.func46
theorem c_reserve_Table_has : compF Try.prog Try.f46 = some af_reserve_Table_has := by kernel_rfl
def af_reserve_Table_Room_1 : AF := (AF.mk 8 [(3, .none)] (.seq (.reg .false [⟨.some 2,.box (.t 0),.none⟩,⟨.some 3,.mv (.k (.c (.d (.bool .false)))),.none⟩]) (.seq (.reg .false [⟨.some 4,.fa (.t 2) 4,.none⟩,⟨.some 5,.ld (.t 4) .none,.none⟩,⟨.some 6,.ld (.t 1) .none,.none⟩,⟨.some 7,.bin .leq (.t 5) (.t 6),.none⟩,⟨.some 3,.mv (.t 7),.none⟩]) .ret)))
abbrev n_reserve_Table_Room_1 : Nat := 47
theorem fn_reserve_Table_Room_1 : Try.prog.funcs[n_reserve_Table_Room_1]? = some Try.f47 := Try.func47
theorem c_reserve_Table_Room_1 : compF Try.prog Try.f47 = some af_reserve_Table_Room_1 := by kernel_rfl
def af_ref09_within : AF := (AF.mk 15 [(6, .none)] (.seq (.reg .false [⟨.some 6,.mv (.k (.c (.d (.bool .false)))),.none⟩]) (.seq (.reg .false [⟨.some 7,.mv (.t 0),.none⟩,⟨.some 8,.mv (.t 1),.none⟩,⟨.some 9,.bin .geq (.t 7) (.t 8),.none⟩,⟨.some 10,.mv (.t 9),.none⟩,⟨.some 11,.mv (.t 0),.some (10, .true)⟩,⟨.some 12,.mv (.t 2),.some (10, .true)⟩,⟨.some 13,.bin .leq (.t 11) (.t 12),.some (10, .true)⟩,⟨.some 14,.pick (.t 10) (.t 13) (.k (.c (.d (.bool .false)))),.none⟩,⟨.some 6,.mv (.t 14),.none⟩]) .ret)))
abbrev n_ref09_within : Nat := 50
theorem fn_ref09_within : Try.prog.funcs[n_ref09_within]? = some Try.f50 := Try.func50
theorem c_ref09_within : compF Try.prog Try.f50 = some af_ref09_within := by kernel_rfl
abbrev n_slices_SortFunc_reserve_Request_reserve_Request : Nat := 51
def af_reserve_Table_yielding_1 : AF := (AF.mk 17 [(4, .none)] (.seq (.reg .false [⟨.some 2,.box (.t 0),.none⟩,⟨.some 3,.box (.t 1),.none⟩,⟨.some 4,.mv (.k (.c (.d (.int .i64 0)))),.none⟩]) (.seq (.seq (.reg .true [⟨.some 5,.fa (.t 3) 4,.none⟩,⟨.some 6,.ld (.t 5) .none,.none⟩,⟨.some 7,.fa (.t 2) 4,.none⟩,⟨.some 8,.ld (.t 7) .none,.none⟩,⟨.some 9,.call 54 [(.t 6), (.t 8)],.none⟩,⟨.some 10,.fa (.t 2) 0,.none⟩,⟨.some 11,.ld (.t 10) .none,.none⟩,⟨.some 12,.fa (.t 3) 0,.none⟩,⟨.some 13,.ld (.t 12) .none,.none⟩]) (.seq (.reg .false [⟨.some 14,.call 54 [(.t 11), (.t 13)],.none⟩]) (.seq (.reg .true [⟨.some 15,.bsl 1 [(.int .i64 0)] 2 [(0, (.t 9)), (1, (.t 14))],.none⟩]) (.seq (.reg .false [⟨.some 16,.call 53 [(.t 15)],.none⟩]) (.reg .true [⟨.some 4,.mv (.t 16),.none⟩]))))) .ret)))
abbrev n_reserve_Table_yielding_1 : Nat := 52
theorem fn_reserve_Table_yielding_1 : Try.prog.funcs[n_reserve_Table_yielding_1]? = some Try.f52 := Try.func52
theorem c_reserve_Table_yielding_1 : compF Try.prog Try.f52 = some af_reserve_Table_yielding_1 := by kernel_rfl
def af_cmp_Or_int : AF := (AF.mk 18 [(2, .none)] (.seq (.reg .false [⟨.some 2,.mv (.k (.c (.d (.int .i64 0)))),.none⟩]) (.seq (.reg .false [⟨.some 3,.mv (.k (.c (.d (.int .i64 0)))),.none⟩]) (.seq (.seq (.reg .false [⟨.some 6,.mv (.t 0),.none⟩,⟨.some 7,.len (.t 6),.none⟩,⟨.some 8,.mv (.k (.c (.d (.int .i64 0)))),.none⟩]) (.block 0 (.loop (.seq (.reg .false [⟨.some 9,.bin .lss (.t 8) (.t 7),.none⟩]) (.seq (.cond (.t 9) .skip (.exit 0)) (.seq (.block 1 (.seq (.reg .false [⟨.some 10,.ias 1 (.t 6) (.t 8),.none⟩,⟨.some 11,.ld (.t 10) .none,.none⟩,⟨.some 5,.mv (.t 11),.none⟩]) (.seq (.reg .false [⟨.some 12,.mv (.t 5),.none⟩,⟨.some 13,.mv (.t 3),.none⟩,⟨.some 14,.bin .neq (.t 12) (.t 13),.none⟩]) (.cond (.t 14) (.seq (.reg .false [⟨.some 15,.mv (.t 5),.none⟩,⟨.some 2,.mv (.t 15),.none⟩]) .ret) .skip)))) (.reg .false [⟨.some 16,.bin .add (.t 8) (.k (.c (.d (.int .i64 1)))),.none⟩,⟨.some 8,.mv (.t 16),.none⟩]))))))) (.seq (.reg .false [⟨.some 17,.mv (.t 3),.none⟩,⟨.some 2,.mv (.t 17),.none⟩]) .ret)))))
abbrev n_cmp_Or_int : Nat := 53
theorem fn_cmp_Or_int : Try.prog.funcs[n_cmp_Or_int]? = some Try.f53 := Try.func53
theorem c_cmp_Or_int : compF Try.prog Try.f53 = some af_cmp_Or_int := by kernel_rfl
def af_cmp_Compare_int : AF := (AF.mk 20 [(4, .none)] (.seq (.reg .false [⟨.some 4,.mv (.k (.c (.d (.int .i64 0)))),.none⟩]) (.seq (.reg .false [⟨.some 7,.mv (.t 0),.none⟩,⟨.some 8,.call 70 [(.t 7)],.none⟩,⟨.some 5,.mv (.t 8),.none⟩]) (.seq (.reg .false [⟨.some 9,.mv (.t 1),.none⟩,⟨.some 10,.call 70 [(.t 9)],.none⟩,⟨.some 6,.mv (.t 10),.none⟩]) (.seq (.seq (.reg .false [⟨.some 11,.mv (.t 5),.none⟩]) (.cond (.t 11) (.seq (.seq (.reg .false [⟨.some 12,.mv (.t 6),.none⟩]) (.cond (.t 12) (.seq (.reg .false [⟨.some 4,.mv (.k (.c (.d (.int .i64 0)))),.none⟩]) .ret) .skip)) (.seq (.reg .false [⟨.some 4,.mv (.k (.c (.d (.int .i64 (-1))))),.none⟩]) .ret)) .skip)) (.seq (.seq (.reg .false [⟨.some 13,.mv (.t 6),.none⟩]) (.cond (.t 13) (.seq (.reg .false [⟨.some 4,.mv (.k (.c (.d (.int .i64 1)))),.none⟩]) .ret) .skip)) (.seq (.seq (.reg .false [⟨.some 14,.mv (.t 0),.none⟩,⟨.some 15,.mv (.t 1),.none⟩,⟨.some 16,.bin .lss (.t 14) (.t 15),.none⟩]) (.cond (.t 16) (.seq (.reg .false [⟨.some 4,.mv (.k (.c (.d (.int .i64 (-1))))),.none⟩]) .ret) .skip)) (.seq (.seq (.reg .false [⟨.some 17,.mv (.t 0),.none⟩,⟨.some 18,.mv (.t 1),.none⟩,⟨.some 19,.bin .gtr (.t 17) (.t 18),.none⟩]) (.cond (.t 19) (.seq (.reg .false [⟨.some 4,.mv (.k (.c (.d (.int .i64 1)))),.none⟩]) .ret) .skip)) (.seq (.reg .false [⟨.some 4,.mv (.k (.c (.d (.int .i64 0)))),.none⟩]) .ret)))))))))
abbrev n_cmp_Compare_int : Nat := 54
theorem fn_cmp_Compare_int : Try.prog.funcs[n_cmp_Compare_int]? = some Try.f54 := Try.func54
theorem c_cmp_Compare_int : compF Try.prog Try.f54 = some af_cmp_Compare_int := by kernel_rfl
def af_slices_Index_int_int : AF := (AF.mk 19 [(4, .none)] (.seq (.reg .false [⟨.some 4,.mv (.k (.c (.d (.int .i64 0)))),.none⟩]) (.seq (.seq (.reg .false [⟨.some 6,.mv (.t 0),.none⟩,⟨.some 7,.len (.t 6),.none⟩,⟨.some 8,.mv (.k (.c (.d (.int .i64 0)))),.none⟩]) (.block 0 (.loop (.seq (.reg .false [⟨.some 9,.bin .lss (.t 8) (.t 7),.none⟩]) (.seq (.cond (.t 9) .skip (.exit 0)) (.seq (.block 1 (.seq (.reg .false [⟨.some 10,.mv (.t 8),.none⟩,⟨.some 5,.mv (.t 10),.none⟩]) (.seq (.reg .false [⟨.some 11,.mv (.t 1),.none⟩,⟨.some 12,.mv (.t 0),.none⟩,⟨.some 13,.mv (.t 5),.none⟩,⟨.some 14,.ias 1 (.t 12) (.t 13),.none⟩,⟨.some 15,.ld (.t 14) .none,.none⟩,⟨.some 16,.bin .eql (.t 11) (.t 15),.none⟩]) (.cond (.t 16) (.seq (.reg .false [⟨.some 17,.mv (.t 5),.none⟩,⟨.some 4,.mv (.t 17),.none⟩]) .ret) .skip)))) (.reg .false [⟨.some 18,.bin .add (.t 8) (.k (.c (.d (.int .i64 1)))),.none⟩,⟨.some 8,.mv (.t 18),.none⟩]))))))) (.seq (.reg .false [⟨.some 4,.mv (.k (.c (.d (.int .i64 (-1))))),.none⟩]) .ret))))
abbrev n_slices_Index_int_int : Nat := 55
theorem fn_slices_Index_int_int : Try.prog.funcs[n_slices_Index_int_int]? = some Try.f55 := Try.func55
theorem c_slices_Index_int_int : compF Try.prog Try.f55 = some af_slices_Index_int_int := by kernel_rfl
def af_slices_IndexFunc_int_int : AF := (AF.mk 19 [(4, .none)] (.seq (.reg .false [⟨.some 4,.mv (.k (.c (.d (.int .i64 0)))),.none⟩]) (.seq (.seq (.reg .false [⟨.some 6,.mv (.t 0),.none⟩,⟨.some 7,.len (.t 6),.none⟩,⟨.some 8,.mv (.k (.c (.d (.int .i64 0)))),.none⟩]) (.block 0 (.loop (.seq (.reg .false [⟨.some 9,.bin .lss (.t 8) (.t 7),.none⟩]) (.seq (.cond (.t 9) .skip (.exit 0)) (.seq (.block 1 (.seq (.reg .false [⟨.some 10,.mv (.t 8),.none⟩,⟨.some 5,.mv (.t 10),.none⟩]) (.seq (.reg .false [⟨.some 11,.mv (.t 1),.none⟩,⟨.some 12,.mv (.t 0),.none⟩,⟨.some 13,.mv (.t 5),.none⟩,⟨.some 14,.ias 1 (.t 12) (.t 13),.none⟩,⟨.some 15,.ld (.t 14) .none,.none⟩,⟨.some 16,.callv (.t 11) [(.t 15)],.none⟩]) (.cond (.t 16) (.seq (.reg .false [⟨.some 17,.mv (.t 5),.none⟩,⟨.some 4,.mv (.t 17),.none⟩]) .ret) .skip)))) (.reg .false [⟨.some 18,.bin .add (.t 8) (.k (.c (.d (.int .i64 1)))),.none⟩,⟨.some 8,.mv (.t 18),.none⟩]))))))) (.seq (.reg .false [⟨.some 4,.mv (.k (.c (.d (.int .i64 (-1))))),.none⟩]) .ret))))
abbrev n_slices_IndexFunc_int_int : Nat := 56
theorem fn_slices_IndexFunc_int_int : Try.prog.funcs[n_slices_IndexFunc_int_int]? = some Try.f56 := Try.func56
theorem c_slices_IndexFunc_int_int : compF Try.prog Try.f56 = some af_slices_IndexFunc_int_int := by kernel_rfl
def af_topology_within : AF := (AF.mk 15 [(6, .none)] (.seq (.reg .false [⟨.some 6,.mv (.k (.c (.d (.bool .false)))),.none⟩]) (.seq (.reg .false [⟨.some 7,.mv (.t 0),.none⟩,⟨.some 8,.mv (.t 1),.none⟩,⟨.some 9,.bin .geq (.t 7) (.t 8),.none⟩,⟨.some 10,.mv (.t 9),.none⟩,⟨.some 11,.mv (.t 0),.some (10, .true)⟩,⟨.some 12,.mv (.t 2),.some (10, .true)⟩,⟨.some 13,.bin .leq (.t 11) (.t 12),.some (10, .true)⟩,⟨.some 14,.pick (.t 10) (.t 13) (.k (.c (.d (.bool .false)))),.none⟩,⟨.some 6,.mv (.t 14),.none⟩]) .ret)))
abbrev n_topology_within : Nat := 58
theorem fn_topology_within : Try.prog.funcs[n_topology_within]? = some Try.f58 := Try.func58
theorem c_topology_within : compF Try.prog Try.f58 = some af_topology_within := by kernel_rfl
def af_graph_Node : AF := (AF.mk 13 [(4, .none)] (.seq (.reg .false [⟨.some 2,.box (.t 0),.none⟩,⟨.some 4,.mv (.k (.c (.d (.bool .false)))),.none⟩]) (.seq (.reg .false [⟨.some 5,.mv (.t 1),.none⟩,⟨.some 6,.bin .geq (.t 5) (.k (.c (.d (.int .i64 0)))),.none⟩,⟨.some 7,.mv (.t 6),.none⟩,⟨.some 8,.mv (.t 1),.some (7, .true)⟩,⟨.some 9,.fa (.t 2) 0,.some (7, .true)⟩,⟨.some 10,.ld (.t 9) .none,.some (7, .true)⟩,⟨.some 11,.bin .lss (.t 8) (.t 10),.some (7, .true)⟩,⟨.some 12,.pick (.t 7) (.t 11) (.k (.c (.d (.bool .false)))),.none⟩,⟨.some 4,.mv (.t 12),.none⟩]) .ret)))
abbrev n_graph_Node : Nat := 59
theorem fn_graph_Node : Try.prog.funcs[n_graph_Node]? = some Try.f59 := Try.func59
theorem c_graph_Node : compF Try.prog Try.f59 = some af_graph_Node := by kernel_rfl
abbrev n_slices_Sort_int_int : Nat := 61
def af_cmp_isNaN_int : AF := (AF.mk 6 [(2, .none)] (.seq (.reg .false [⟨.some 2,.mv (.k (.c (.d (.bool .false)))),.none⟩]) (.seq (.reg .false [⟨.some 3,.mv (.t 0),.none⟩,⟨.some 4,.mv (.t 0),.none⟩,⟨.some 5,.bin .neq (.t 3) (.t 4),.none⟩,⟨.some 2,.mv (.t 5),.none⟩]) .ret)))
abbrev n_cmp_isNaN_int : Nat := 70
theorem fn_cmp_isNaN_int : Try.prog.funcs[n_cmp_isNaN_int]? = some Try.f70 := Try.func70
theorem c_cmp_isNaN_int : compF Try.prog Try.f70 = some af_cmp_isNaN_int := by kernel_rfl
theorem mixed : Try.prog.follows .mixedOrders = true := by decide
end Go.Ab

/-
  Contracts, part a: what a contract says; the data of the program and how they are laid.
-/
namespace Go.Ab
open Go.Proofs
abbrev iA (n : Int) : AV := .c (.d (.int .i64 n))
abbrev bA (b : Bool) : AV := .c (.d (.bool b))
def Ret (P : Program) (f : Nat) (args : List AV) (r : AV) : Prop := FnS P f args [] fun r' _ => pureA r' = true ∧ r' = r
theorem ret_start {P : Program} {f : Nat} {fn : Func} {af : AF} {args : List AV} {r : AV} (hm : P.follows .mixedOrders = true) (hf : P.funcs[f]? = some fn) (hc : compF P fn = some af) (hl : args.length ≤ af.nt)
  (hv : ∀ (Λ : Len), (∀ l, Λ l = (l.length : Int)) → ∀ (K : AV → Prop), K r → vcF P Λ af args K) : Ret P f args r :=
 fn_pure (K := fun r' => r' = r) hm hf hc hl fun Λ h => hv Λ h _ rfl
theorem wrap64 (x : Int) : IntKind.i64.wrap x = (x + 9223372036854775808) % 18446744073709551616 - 9223372036854775808 := by
 simp only [IntKind.wrap, IntKind.bits, IntKind.signed, Bool.true_and, decide_eq_true_eq, Nat.reduceSub, ge_iff_le]
 have e1 : (2 : Int) ^ 64 = 18446744073709551616 := by decide
 have e2 : (2 : Int) ^ 63 = 9223372036854775808 := by decide
 rw [e1, e2]
 split <;> omega
theorem wrap_small {x : Int} (h : -9223372036854775808 ≤ x) (h' : x < 9223372036854775808) : IntKind.i64.wrap x = x := by
 rw [wrap64]; omega
theorem call_b {P : Program} {m : Nat} {d : Bool} {L : Lv} {h : Hp} {f : Nat} {xs : List X} {args' : List AV} {K : Lv → AV → Hp → Prop} {b : Bool} (hf : Ret P f args' (bA b)) (ha : (evsN L xs).map fgA = args') (hp : args'.all pureA = true)
  (k1 : b = true → K L (bA true) h) (k2 : b = false → K L (bA false) h) : CallS P m d L h f xs K := by
 refine CallS.pure (r := bA b) (Or.inl ⟨args', .inl ha.symm, hp, hf⟩) ?_
 cases b
 ·exact k2 rfl
 ·exact k1 rfl
theorem call_i {P : Program} {m : Nat} {d : Bool} {L : Lv} {h : Hp} {f : Nat} {xs : List X} {args' : List AV} {K : Lv → AV → Hp → Prop} {n : Int} (hf : Ret P f args' (iA n)) (ha : (evsN L xs).map fgA = args') (hp : args'.all pureA = true)
  (k : ∀ c, c = n → K L (iA c) h) : CallS P m d L h f xs K :=
 CallS.pure (r := iA n) (Or.inl ⟨args', .inl ha.symm, hp, hf⟩) (k n rfl)
theorem call_r {P : Program} {m : Nat} {d : Bool} {L : Lv} {h : Hp} {f : Nat} {xs : List X} {args' : List AV} {K : Lv → AV → Hp → Prop} {r : AV} (hf : Ret P f args' r) (ha : (evsN L xs).map fgA = args') (hp : args'.all pureA = true)
  (k : K L r h) : CallS P m d L h f xs K :=
 CallS.pure (r := r) (Or.inl ⟨args', .inl ha.symm, hp, hf⟩) k
theorem look_i {P : Program} {m : Nat} {d : Bool} {L : Lv} {h : Hp} {f : Nat} {xs : List X} {vargs : List AV} {K : Lv → AV → Hp → Prop} {n : Int} (hf : Ret P f vargs (iA n)) (ha : viewAs h (evsN L xs) = some vargs)
  (k : ∀ c, c = n → K L (iA c) h) : CallS P m d L h f xs K :=
 CallS.pure (r := iA n) (Or.inr ⟨vargs, ha, .inl (hf.mono fun r _ ⟨_, e⟩ => ⟨by rw [e]; rfl, e⟩)⟩) (k n rfl)
theorem call_z {P : Program} {m : Nat} {L : Lv} {h : Hp} {f : Nat} {xs : List X} {K : Lv → AV → Hp → Prop} (l v sz k : Nat) {r : Bool} {es : List (List D)} (hl : h[l]? = some (.da r v sz es)) (hk : k = es.length) (h1 : okL l v k L) (h2 : okH l v k h)
  (hc : CallS P m false (zL l v sz es L) (zH l v sz es 0 h) f xs K) : CallS P m false L h f xs K :=
 .wk (.fz l v sz r es hl (fun i => .inr (by rw [← lkN_eq, ← lkN_eq, lkN_z]; exact zA_ok hk (okL_get h1 i))) (zH_ok hk h2)) hc
theorem gu {p : Prop} (h : Unit → p := by
  intro (_ : Unit)
  first
   | omega
   | rfl
   | exact ⟨rfl, by omega⟩
   | (simp only [nI_eq]; omega)
   | ((repeat' first | rfl | omega | refine And.intro ?_ ?_ | (simp only [nI_eq]; omega) | (simp only [List.length_cons, List.length_nil]; omega) | exact Nat.le_of_ble_eq_true rfl); fail_if_success intros)) : Unit → p := h
theorem Wk.cw {m : Nat} {L : Lv} {h : Hp} {L' : Lv} {h' : Hp} (heap : ∃ t, h = h' ++ t := by exact ⟨_, rfl⟩) (least : m ≤ h'.length := by exact Nat.zero_le _) (refs : refsH h'.length h' = true := by rfl)
  (env : KeepL h'.length L L' := by repeat' first | exact trivial | refine And.intro ?_ ?_ | rfl) : Wk m L h L' h' := .cut heap least refs env
theorem Wk.ca {m : Nat} {L : Lv} {h : Hp} {L' : Lv} {h' : Hp} (heap : ∃ t, h = h' ++ t := by exact ⟨_, rfl⟩) (least : m ≤ h'.length := by exact Nat.le_of_ble_eq_true rfl) (refs : refsH h'.length h' = true := by rfl)
  (env : KeepL h'.length L L' := by repeat' first | exact trivial | refine And.intro ?_ ?_ | rfl) : Wk m L h L' h' := .cut heap least refs env
structure Lk where
 (a b c0 c1 cap dl gr : Int)
structure Top where
 (nodes : Int) (ov : List Bool) (links : List Lk)
structure Seg where
 (kind num : Int)
 deriving DecidableEq
structure Ety where
 (arcs : List Int) (rep : Bool) (push : List Seg)
instance : Inhabited Lk := ⟨⟨0, 0, 0, 0, 0, 0, 0⟩⟩
instance : Inhabited Seg := ⟨⟨0, 0⟩⟩
instance : Inhabited Ety := ⟨⟨[], false, []⟩⟩
abbrev iD (n : Int) : D := .int .i64 n
def encB (b : Bool) : List D := [.bool b]
def encI (n : Int) : List D := [.int .i64 n]
def encLk (l : Lk) : List D := [iD l.a, iD l.b, iD l.c0, iD l.c1, iD l.cap, iD l.dl, iD l.gr]
abbrev intsD (l : List Int) : D := .list false 1 (l.map encI)
abbrev boolsD (l : List Bool) : D := .list false 1 (l.map encB)
abbrev linksD (l : List Lk) : D := .list false 7 (l.map encLk)
def topA (t : Top) : AV := .agg [.d (iD t.nodes), .d (boolsD t.ov), .d (linksD t.links)]
abbrev intsA (l : List Int) : AV := .c (.d (intsD l))
theorem map_get {α β : Type} {f : α → β} {l : List α} {i : Nat} {y : β} (h : (l.map f)[i]? = some y) : ∃ x, l[i]? = some x ∧ y = f x := by
 simp only [List.getElem?_map, Option.map_eq_some_iff] at h
 obtain ⟨x, h1, h2⟩ := h
 exact ⟨x, h1, h2.symm⟩
theorem map_get' {α β : Type} {f : α → β} {l : List α} {ll : List β} {i : Nat} {y : β} (hl : l.map f = ll) (h : ll[i]? = some y) : ∃ x, l[i]? = some x ∧ y = f x := by
 subst hl; exact map_get h
theorem get_at {α : Type} {l : List α} {i j : Nat} {x : α} (h : l[i]? = some x) (e : i = j) : l[j]? = some x := e ▸ h
theorem elt_at {α β : Type} {f : α → β} {l : List α} {ll : List β} (hl : l.map f = ll) {k : Nat} {i : Int} (hi : i = k) {x : α} (h : l[k]? = some x) : ll[i.toNat]? = some (f x) := by
 subst hi hl; simp [h]
theorem take_succ_get {α : Type} {l : List α} {k : Nat} {x : α} (h : l[k]? = some x) : l.take (k + 1) = l.take k ++ [x] := by
 rw [List.take_add_one, h]; rfl
theorem loop_up {m : Nat} {body : Lv → Hp → Post → Prop} {L : Lv} {h : Hp} {Q : Post} {σ : Type} (N : Nat) (S : σ → Lv) (H : σ → Hp) (Inv : Nat → σ → Prop) (s0 : σ) (wk : Wk m L h (S s0) (H s0)) (h0 : Inv 0 s0)
  (hle : ∀ k s, Inv k s → k ≤ N)
  (round : ∀ k s (Q' : Post), Inv k s → (∀ L' h' s', Inv (k + 1) s' → Wk m L' h' (S s') (H s') → Q' .normal L' h') → (∀ i L' h', Q (.exit i) L' h' → Q' (.exit i) L' h') → (∀ L' h', Q .ret L' h' → Q' .ret L' h') → body (S s) (H s) Q') :
  LoopI m body L h Q := by
 refine LoopI.mk (fun n L h => ∃ k s, Inv k s ∧ n = N - k ∧ L = S s ∧ h = H s) N (S s0) (H s0) wk ⟨0, s0, h0, rfl, rfl, rfl⟩ ?_
 rintro n L h ⟨k, s, hi, rfl, rfl, rfl⟩
 refine round k s _ hi (fun L' h' s' hi' hw => ?_) (fun i L' h' hq => ⟨L', h', .same rfl fun _ => .inr rfl, hq⟩) fun L' h' hq => hq
 have h1 := hle _ _ hi
 have h2 := hle _ _ hi'
 exact ⟨N - (k + 1), _, _, by omega, hw, k + 1, s', hi', rfl, rfl, rfl⟩
theorem loop_upx {m : Nat} {body : Lv → Hp → Post → Prop} {L : Lv} {h : Hp} {Q : Post} {σ τ : Type} (N : Nat) (S : σ → Lv) (H : σ → Hp) (Inv : Nat → σ → Prop) (s0 : σ) (i0 : Nat) (S' : τ → Lv) (H' : τ → Hp) (E : τ → Prop) (wk : Wk m L h (S s0) (H s0)) (h0 : Inv 0 s0)
  (hle : ∀ k s, Inv k s → k ≤ N)
  (round : ∀ k s (Q' : Post), Inv k s → (∀ L' h' s', Inv (k + 1) s' → Wk m L' h' (S s') (H s') → Q' .normal L' h') → (∀ L' h' s', E s' → Wk m L' h' (S' s') (H' s') → Q' (.exit i0) L' h') → (∀ i L' h', Q (.exit i) L' h' → Q' (.exit i) L' h') → (∀ L' h', Q .ret L' h' → Q' .ret L' h') → body (S s) (H s) Q')
  (rest : ∀ s, E s → Q (.exit i0) (S' s) (H' s)) :
  LoopI m body L h Q := by
 refine LoopI.mk (fun n L h => ∃ k s, Inv k s ∧ n = N - k ∧ L = S s ∧ h = H s) N (S s0) (H s0) wk ⟨0, s0, h0, rfl, rfl, rfl⟩ ?_
 rintro n L h ⟨k, s, hi, rfl, rfl, rfl⟩
 refine round k s _ hi (fun L' h' s' hi' hw => ?_) (fun L' h' s' he hw => ⟨_, _, hw, rest s' he⟩) (fun i L' h' hq => ⟨L', h', .same rfl fun _ => .inr rfl, hq⟩) fun L' h' hq => hq
 have h1 := hle _ _ hi
 have h2 := hle _ _ hi'
 exact ⟨N - (k + 1), _, _, by omega, hw, k + 1, s', hi', rfl, rfl, rfl⟩
theorem within_ok (P : Program) (hP : P = Try.prog) (n lo hi : Int) : Ret P n_ref09_within [iA n, iA lo, iA hi] (bA (decide (lo ≤ n ∧ n ≤ hi))) := by
 refine ret_start (hP ▸ mixed) (hP ▸ fn_ref09_within) (hP ▸ c_ref09_within) (Nat.le_of_ble_eq_true rfl) fun Λ Λo K hK => ?_
 clear hP
 conv => cbv
 repeat' first | exact gu | exact trivial | refine And.intro ?_ ?_ | (intro hc; exact absurd hc (by decide)) | (intro hc; exfalso; omega) | (intro hc; (first | rw [wrap_small (by omega) (by omega)] at hc | rw [nI_eq] at hc | skip); try (conv => cbv))
 all_goals (refine cast (congrArg (fun b => K (bA b)) ?_) hK; simp; omega)
end Go.Ab

/-
  Contracts, part b: topologies.
-/
namespace Go.Ab
open Go.Proofs
def okLk (n : Int) (l : Lk) : Bool :=
 decide (0 ≤ l.a ∧ l.a ≤ n - 1) && decide (0 ≤ l.b ∧ l.b ≤ n - 1) && !decide (l.a = l.b) && decide (1 ≤ l.c0 ∧ l.c0 ≤ 65535) && decide (1 ≤ l.c1 ∧ l.c1 ≤ 65535) &&
 decide (0 ≤ l.cap ∧ l.cap ≤ 1048576) && decide (1 ≤ l.dl ∧ l.dl ≤ 65536) && decide (0 ≤ l.gr ∧ l.gr ≤ 64)
def validT (t : Top) : Bool :=
 decide (1 ≤ t.nodes ∧ t.nodes ≤ 64) && (decide (t.ov.length = 0) || decide ((t.ov.length : Int) = t.nodes)) && decide (t.links.length ≤ 256) && t.links.all (okLk t.nodes)
theorem okLk_spec {n : Int} {l : Lk} : okLk n l = true ↔ (0 ≤ l.a ∧ l.a ≤ n - 1) ∧ (0 ≤ l.b ∧ l.b ≤ n - 1) ∧ l.a ≠ l.b ∧ (1 ≤ l.c0 ∧ l.c0 ≤ 65535) ∧ (1 ≤ l.c1 ∧ l.c1 ≤ 65535) ∧
  (0 ≤ l.cap ∧ l.cap ≤ 1048576) ∧ (1 ≤ l.dl ∧ l.dl ≤ 65536) ∧ (0 ≤ l.gr ∧ l.gr ≤ 64) := by
 simp only [okLk, Bool.and_eq_true, decide_eq_true_eq, Bool.not_eq_true', decide_eq_false_iff_not, and_assoc, ne_eq]
theorem validT_spec {t : Top} : validT t = true ↔ (1 ≤ t.nodes ∧ t.nodes ≤ 64) ∧ ((t.ov.length : Int) = 0 ∨ (t.ov.length : Int) = t.nodes) ∧ (t.links.length : Int) ≤ 256 ∧ ∀ l ∈ t.links, okLk t.nodes l = true := by
 simp only [validT, Bool.and_eq_true, Bool.or_eq_true, decide_eq_true_eq, List.all_eq_true, and_assoc]
 constructor
 ·rintro ⟨h1, h2, h3, h4, h5⟩; exact ⟨h1, h2, by omega, by omega, h5⟩
 ·rintro ⟨h1, h2, h3, h4, h5⟩; exact ⟨h1, h2, by omega, by omega, h5⟩
theorem valid_ok (P : Program) (hP : P = Try.prog) (t : Top) : Ret P n_ref09_Valid [topA t] (bA (validT t)) := by
 refine ret_start (hP ▸ mixed) (hP ▸ fn_ref09_Valid) (hP ▸ c_ref09_Valid) (Nat.le_of_ble_eq_true rfl) fun Λ Λo K hK => ?_
 have hw := within_ok P hP
 clear hP
 obtain ⟨nodes, ov, links⟩ := t
 simp only [topA, boolsD, linksD] at *
 generalize hol : ov.map encB = ol at *
 generalize hll : links.map encLk = ll at *
 have hlo : Λ ol = ov.length := by rw [Λo, ← hol]; simp
 have hls : Λ ll = links.length := by rw [Λo, ← hll]; simp
 have leaf : ∀ b, validT ⟨nodes, ov, links⟩ = b → K (bA b) := fun b hb => by rw [← hb]; exact hK
 have no : (validT ⟨nodes, ov, links⟩ = true → False) → K (bA false) := fun h => leaf _ (Bool.eq_false_iff.2 h)
 conv => cbv
 repeat' first | refine call_b (hw _ _ _) rfl rfl ?_ ?_ | exact gu | exact trivial | refine And.intro ?_ ?_ | (intro hc; exact absurd hc (by decide)) | (intro hc; exfalso; omega) | (intro hc; (first | rw [wrap_small (by omega) (by omega)] at hc | rw [nI_eq] at hc | skip); try (conv => cbv))
 all_goals try simp only [decide_eq_true_eq, decide_eq_false_iff_not] at *
 all_goals try (refine no fun h => ?_; obtain ⟨h1, h2, h3, h4⟩ := validT_spec.1 h; simp only at h1 h2 h3; omega)
 all_goals
  refine loop_up links.length (fun (i : Int) => [(1, .c (.ptr 0 0 0 0)), (3, iA i)]) (fun _ => [.bx [.d (.int .i64 nodes), .d (.list false 1 ol), .d (.list false 7 ll)]]) (fun k i => i = k ∧ k ≤ links.length ∧ ∀ l ∈ links.take k, okLk nodes l = true) 0 (Wk.cw) ⟨rfl, by omega, by simp⟩ (fun k s h => h.2.1) ?_
  rintro k i Q' ⟨hi, hk, hok⟩ norm ex rt
  conv => cbv
  repeat' first | (refine ex _ _ _ ?_; (conv => cbv)) | (refine rt _ _ ?_; (conv => cbv)) | refine call_b (hw _ _ _) rfl rfl ?_ ?_ | (intro e he; obtain ⟨⟨xa, xb, xc, xd, xe, xf, xg⟩, hx, rfl⟩ := map_get' hll he; (conv => cbv)) | exact gu | exact trivial | refine And.intro ?_ ?_ | (intro hc; exact absurd hc (by decide)) | (intro hc; exfalso; omega) | (intro hc; (first | rw [wrap_small (by omega) (by omega)] at hc | rw [nI_eq] at hc | skip); try (conv => cbv))
 all_goals try simp only [decide_eq_true_eq, decide_eq_false_iff_not] at *
 all_goals try (refine no fun h => ?_; obtain ⟨h1, h2, h3, h4⟩ := validT_spec.1 h; have h5 := okLk_spec.1 (h4 _ (List.mem_of_getElem? hx)); simp only at h5; omega)
 all_goals try (refine leaf _ (validT_spec.2 ⟨by assumption, by simp only; omega, by simp only; omega, fun l hl => hok l ?_⟩); rw [List.take_of_length_le (by omega)]; exact hl)
 all_goals
  refine norm _ _ _ ?_ (Wk.cw)
  refine ⟨by omega, by omega, ?_⟩
  rw [show i.toNat = k by omega] at hx
  rw [take_succ_get hx]
  intro l hl
  rcases List.mem_append.1 hl with hl | hl
  ·exact hok l hl
  ·simp only [List.mem_singleton] at hl
   subst hl
   exact okLk_spec.2 ⟨by simp only; omega, by simp only; omega, by simp only; omega, by simp only; omega, by simp only; omega, by simp only; omega, by simp only; omega, by simp only; omega⟩
def arcsT (t : Top) : Int := if validT t then 2 * t.links.length else 0
def lkAt (t : Top) (a : Int) : Lk := (t.links[(a / 2).toNat]?).getD default
theorem tdiv2 {x : Int} (h1 : 0 ≤ x) (h2 : x < 9223372036854775808) : IntKind.i64.wrap (x.tdiv 2) = x / 2 := by
 rw [Int.tdiv_eq_ediv_of_nonneg h1, wrap64]; omega
theorem arcs_ok (P : Program) (hP : P = Try.prog) (t : Top) : Ret P n_ref09_Arcs [topA t] (iA (arcsT t)) := by
 refine ret_start (hP ▸ mixed) (hP ▸ fn_ref09_Arcs) (hP ▸ c_ref09_Arcs) (Nat.le_of_ble_eq_true rfl) fun Λ Λo K hK => ?_
 have hw := valid_ok P hP t
 clear hP
 have leaf : ∀ b, arcsT t = b → K (iA b) := fun b hb => by rw [← hb]; exact hK
 have h256 : validT t = true → (t.links.length : Int) ≤ 256 := fun h => (validT_spec.1 h).2.2.1
 have ha : arcsT t = if validT t then 2 * (t.links.length : Int) else 0 := rfl
 generalize arcsT t = r at *
 generalize validT t = v at *
 cases v
 all_goals
  obtain ⟨nodes, ov, links⟩ := t
  simp only [topA, boolsD, linksD] at *
  generalize hol : ov.map encB = ol at *
  generalize hll : links.map encLk = ll at *
  have hlo : Λ ol = ov.length := by rw [Λo, ← hol]; simp
  have hls : Λ ll = links.length := by rw [Λo, ← hll]; simp
  simp only [Bool.false_eq_true, if_true, if_false, forall_const] at ha h256
  conv => cbv
  repeat' first | refine call_b hw rfl rfl ?_ ?_ | (intro hc; cases hc; done) | exact gu | exact trivial | refine And.intro ?_ ?_ | (intro hc; exact absurd hc (by decide)) | (intro hc; exfalso; omega) | (intro hc; (first | rw [wrap_small (by omega) (by omega)] at hc | rw [nI_eq] at hc | skip); try (conv => cbv))
 ·exact leaf _ ha
 ·exact leaf _ (by omega)
end Go.Ab

/-
  Contracts, part c: lists.
-/
namespace Go.Ab
open Go.Proofs
theorem yes_of {K : AV → Prop} {p : Prop} [Decidable p] (hK : K (bA (decide p))) : p → K (bA true) := fun h => by rw [decide_eq_true h] at hK; exact hK
theorem no_of {K : AV → Prop} {p : Prop} [Decidable p] (hK : K (bA (decide p))) : ¬ p → K (bA false) := fun h => by rw [decide_eq_false h] at hK; exact hK
theorem mem_take_succ {α : Type} {l : List α} {k : Nat} {x y : α} (h : l[k]? = some x) : y ∈ l.take (k + 1) ↔ y ∈ l.take k ∨ y = x := by
 rw [take_succ_get h]; simp
theorem has_ok (P : Program) (hP : P = Try.prog) (l : List Int) (n : Int) : Ret P n_ref09_Has [intsA l, iA n] (bA (decide (n ∈ l))) := by
 refine ret_start (hP ▸ mixed) (hP ▸ fn_ref09_Has) (hP ▸ c_ref09_Has) (Nat.le_of_ble_eq_true rfl) fun Λ Λo K hK => ?_
 clear hP
 have yes := yes_of hK
 have no := no_of hK
 simp only [intsA, intsD] at *
 generalize llh : List.map encI l = ll at *
 have lln : Λ ll = l.length := by rw [Λo, ← llh]; simp
 conv => cbv
 refine loop_up l.length (fun i : Int => [(0, .c (.d (.list false 1 ll))), (1, iA n), (5, iA i)]) (fun _ => []) (fun k i => i = k ∧ k ≤ l.length ∧ n ∉ l.take k) 0 (Wk.cw) ⟨rfl, by omega, by simp⟩ (fun k s h => h.2.1) ?_
 rintro k i Q' ⟨hi, hk, hno⟩ norm ex rt
 conv => cbv
 repeat' first | (refine ex _ _ _ ?_; (conv => cbv)) | (refine rt _ _ ?_; (conv => cbv)) | (intro e he; obtain ⟨x, hx, rfl⟩ := map_get' llh he; (conv => cbv)) | exact gu | exact trivial | refine And.intro ?_ ?_ | (intro hc; exact absurd hc (by decide)) | (intro hc; exfalso; omega) | (intro hc; (first | rw [wrap_small (by omega) (by omega)] at hc | rw [nI_eq] at hc | skip); try (conv => cbv))
 ·subst hc; exact yes (List.mem_of_getElem? hx)
 ·refine norm _ _ _ ?_ (Wk.cw)
  exact ⟨by omega, by omega, by rw [mem_take_succ (get_at hx (by omega))]; intro h; rcases h with h | h; exact hno h; omega⟩
 ·exact no (by rw [List.take_of_length_le (by omega)] at hno; exact hno)
theorem sameInts_ok (P : Program) (hP : P = Try.prog) (l m : List Int) : Ret P n_ref09_SameInts [intsA l, intsA m] (bA (decide (l = m))) := by
 refine ret_start (hP ▸ mixed) (hP ▸ fn_ref09_SameInts) (hP ▸ c_ref09_SameInts) (Nat.le_of_ble_eq_true rfl) fun Λ Λo K hK => ?_
 clear hP
 have yes := yes_of hK
 have no := no_of hK
 simp only [intsA, intsD] at *
 generalize llh : List.map encI l = ll at *
 have lln : Λ ll = l.length := by rw [Λo, ← llh]; simp
 generalize mlh : List.map encI m = ml at *
 have mln : Λ ml = m.length := by rw [Λo, ← mlh]; simp
 conv => cbv
 repeat' first | exact gu | exact trivial | refine And.intro ?_ ?_ | (intro hc; exact absurd hc (by decide)) | (intro hc; exfalso; omega) | (intro hc; (first | rw [wrap_small (by omega) (by omega)] at hc | rw [nI_eq] at hc | skip); try (conv => cbv))
 ·exact no fun h => by subst h; omega
 refine loop_up l.length (fun i : Int => [(0, .c (.d (.list false 1 ll))), (1, .c (.d (.list false 1 ml))), (5, iA i)]) (fun _ => []) (fun k i => i = k ∧ k ≤ l.length ∧ l.take k = m.take k) 0 (Wk.cw) ⟨rfl, by omega, by simp⟩ (fun k s h => h.2.1) ?_
 rintro k i Q' ⟨hi, hk, hno⟩ norm ex rt
 conv => cbv
 repeat' first | (refine ex _ _ _ ?_; (conv => cbv)) | (refine rt _ _ ?_; (conv => cbv)) | (intro e he; obtain ⟨x, hx, rfl⟩ := map_get' llh he; (conv => cbv)) | (intro e he; obtain ⟨y, hy, rfl⟩ := map_get' mlh he; (conv => cbv)) | exact gu | exact trivial | refine And.intro ?_ ?_ | (intro hc; exact absurd hc (by decide)) | (intro hc; exfalso; omega) | (intro hc; (first | rw [wrap_small (by omega) (by omega)] at hc | rw [nI_eq] at hc | skip); try (conv => cbv))
 ·refine no fun h => ?_
  subst h; rw [hx] at hy; cases hy; exact hc rfl
 ·refine norm _ _ _ ?_ (Wk.cw)
  exact ⟨by omega, by omega, by rw [take_succ_get (get_at hx (by omega)), take_succ_get (get_at hy (by omega)), hno, show x = y by omega]⟩
 ·exact yes (by rw [List.take_of_length_le (by omega), List.take_of_length_le (by omega)] at hno; exact hno)
theorem index_ok (P : Program) (hP : P = Try.prog) (l : List Int) (n : Int) : Ret P n_slices_Index_int_int [intsA l, iA n] (iA (if n ∈ l then (l.idxOf n : Int) else -1)) := by
 refine ret_start (hP ▸ mixed) (hP ▸ fn_slices_Index_int_int) (hP ▸ c_slices_Index_int_int) (Nat.le_of_ble_eq_true rfl) fun Λ Λo K hK => ?_
 clear hP
 have leaf : ∀ b : Int, (if n ∈ l then (l.idxOf n : Int) else -1) = b → K (iA b) := fun b hb => by rw [← hb]; exact hK
 simp only [intsA, intsD] at *
 generalize llh : List.map encI l = ll at *
 have lln : Λ ll = l.length := by rw [Λo, ← llh]; simp
 conv => cbv
 intro hmax
 conv => cbv
 refine loop_up l.length (fun i : Int => [(0, .c (.d (.list false 1 ll))), (1, iA n), (7, iA (Λ ll)), (8, iA i)]) (fun _ => []) (fun k i => i = k ∧ k ≤ l.length ∧ n ∉ l.take k) 0 (Wk.cw) ⟨rfl, by omega, by simp⟩ (fun k s h => h.2.1) ?_
 rintro k i Q' ⟨hi, hk, hno⟩ norm ex rt
 conv => cbv
 repeat' first | (refine ex _ _ _ ?_; (conv => cbv)) | (refine rt _ _ ?_; (conv => cbv)) | (intro e he; obtain ⟨x, hx, rfl⟩ := map_get' llh he; (conv => cbv)) | exact gu | exact trivial | refine And.intro ?_ ?_ | (intro hc; exact absurd hc (by decide)) | (intro hc; exfalso; omega) | (intro hc; (first | rw [wrap_small (by omega) (by omega)] at hc | rw [nI_eq] at hc | skip); try (conv => cbv))
 ·refine leaf _ ?_
  subst hc
  have hx := get_at hx (show i.toNat = k by omega)
  rw [if_pos (List.mem_of_getElem? hx), hi]
  congr 1
  have e : l = l.take k ++ n :: l.drop (k + 1) := by
   conv => lhs; rw [← List.take_append_drop k l]
   congr 1
   rw [List.drop_eq_getElem_cons (by have := get_lt hx; exact this)]
   congr 1
   rw [List.getElem?_eq_getElem (get_lt hx)] at hx
   exact Option.some.inj hx
  rw [e, List.idxOf_append, if_neg hno, List.idxOf_cons_self]
  simp; omega
 ·refine norm _ _ _ ?_ (Wk.cw)
  exact ⟨by omega, by omega, by rw [mem_take_succ (get_at hx (by omega))]; intro h; rcases h with h | h; exact hno h; omega⟩
 ·exact leaf _ (if_neg (by rw [List.take_of_length_le (by omega)] at hno; exact hno))
theorem contains_ok (P : Program) (hP : P = Try.prog) (l : List Int) (n : Int) : Ret P n_slices_Contains_int_int [intsA l, iA n] (bA (decide (n ∈ l))) := by
 refine ret_start (hP ▸ mixed) (hP ▸ fn_slices_Contains_int_int) (hP ▸ c_slices_Contains_int_int) (Nat.le_of_ble_eq_true rfl) fun Λ Λo K hK => ?_
 have hw := index_ok P hP l n
 clear hP
 have yes := yes_of hK
 have no := no_of hK
 have hi : (0 : Int) ≤ (if n ∈ l then (l.idxOf n : Int) else -1) ↔ n ∈ l := by split <;> simp_all <;> omega
 generalize (if n ∈ l then (l.idxOf n : Int) else -1) = r at *
 simp only [intsA, intsD] at *
 generalize llh : List.map encI l = ll at *
 have lln : Λ ll = l.length := by rw [Λo, ← llh]; simp
 conv => cbv
 repeat' first | refine call_i hw rfl rfl ?_ | exact gu | exact trivial | refine And.intro ?_ ?_ | (intro hc; exact absurd hc (by decide)) | (intro hc; exfalso; omega) | (intro hc; (first | rw [wrap_small (by omega) (by omega)] at hc | rw [nI_eq] at hc | skip); try (conv => cbv))
 ·exact yes (hi.1 (by omega))
 ·exact no fun h => by have := hi.2 h; omega
end Go.Ab

/-
  Contracts, part d: arcs, segments, the program's validity of topologies.
-/
namespace Go.Ab
open Go.Proofs
theorem twithin_ok (P : Program) (hP : P = Try.prog) (n lo hi : Int) : Ret P n_topology_within [iA n, iA lo, iA hi] (bA (decide (lo ≤ n ∧ n ≤ hi))) := by
 refine ret_start (hP ▸ mixed) (hP ▸ fn_topology_within) (hP ▸ c_topology_within) (Nat.le_of_ble_eq_true rfl) fun Λ Λo K hK => ?_
 clear hP
 have yes := yes_of hK
 have no := no_of hK
 conv => cbv
 repeat' first | exact gu | exact trivial | refine And.intro ?_ ?_ | (intro hc; exact absurd hc (by decide)) | (intro hc; exfalso; omega) | (intro hc; (first | rw [wrap_small (by omega) (by omega)] at hc | rw [nI_eq] at hc | skip); try (conv => cbv))
 ·exact yes (by omega)
 ·exact no (by omega)
 ·exact no (by omega)
theorem gnode_ok (P : Program) (hP : P = Try.prog) (t : Top) (n : Int) : Ret P n_graph_Node [topA t, iA n] (bA (decide (0 ≤ n ∧ n < t.nodes))) := by
 refine ret_start (hP ▸ mixed) (hP ▸ fn_graph_Node) (hP ▸ c_graph_Node) (Nat.le_of_ble_eq_true rfl) fun Λ Λo K hK => ?_
 clear hP
 have yes := yes_of hK
 have no := no_of hK
 obtain ⟨nodes, ov, links⟩ := t
 simp only [topA, boolsD, linksD] at *
 generalize hol : ov.map encB = ol at *
 generalize hll : links.map encLk = ll at *
 have hlo : Λ ol = ov.length := by rw [Λo, ← hol]; simp
 have hls : Λ ll = links.length := by rw [Λo, ← hll]; simp
 conv => cbv
 repeat' first | exact gu | exact trivial | refine And.intro ?_ ?_ | (intro hc; exact absurd hc (by decide)) | (intro hc; exfalso; omega) | (intro hc; (first | rw [wrap_small (by omega) (by omega)] at hc | rw [nI_eq] at hc | skip); try (conv => cbv))
 ·exact yes (by omega)
 ·exact no (by omega)
 ·exact no (by omega)
theorem tvalid_ok (P : Program) (hP : P = Try.prog) (t : Top) : Ret P n_topology_Valid [topA t] (bA (validT t)) := by
 refine ret_start (hP ▸ mixed) (hP ▸ fn_topology_Valid) (hP ▸ c_topology_Valid) (Nat.le_of_ble_eq_true rfl) fun Λ Λo K hK => ?_
 have hw := twithin_ok P hP
 have hn := gnode_ok P hP t
 clear hP
 have leaf : ∀ b, validT t = b → K (bA b) := fun b hb => by rw [← hb]; exact hK
 have no : (validT t = true → False) → K (bA false) := fun h => leaf _ (Bool.eq_false_iff.2 h)
 obtain ⟨nodes, ov, links⟩ := t
 simp only [topA, boolsD, linksD] at *
 generalize hol : ov.map encB = ol at *
 generalize hll : links.map encLk = ll at *
 have hlo : Λ ol = ov.length := by rw [Λo, ← hol]; simp
 have hls : Λ ll = links.length := by rw [Λo, ← hll]; simp
 conv => cbv
 repeat' first | refine call_b (hw _ _ _) rfl rfl ?_ ?_ | exact gu | exact trivial | refine And.intro ?_ ?_ | (intro hc; exact absurd hc (by decide)) | (intro hc; exfalso; omega) | (intro hc; (first | rw [wrap_small (by omega) (by omega)] at hc | rw [nI_eq] at hc | skip); try (conv => cbv))
 all_goals try simp only [decide_eq_true_eq, decide_eq_false_iff_not] at *
 all_goals try (refine no fun h => ?_; obtain ⟨h1, h2, h3, h4⟩ := validT_spec.1 h; simp only at h1 h2 h3; omega)
 all_goals
  refine loop_up links.length (fun (i : Int) => [(1, .c (.ptr 0 0 0 0)), (29, iA (Λ ll)), (30, iA i)]) (fun _ => [.bx [.d (.int .i64 nodes), .d (.list false 1 ol), .d (.list false 7 ll)]]) (fun k i => i = k ∧ k ≤ links.length ∧ ∀ l ∈ links.take k, okLk nodes l = true) 0 (Wk.cw) ⟨rfl, by omega, by simp⟩ (fun k s h => h.2.1) ?_
  rintro k i Q' ⟨hi, hk, hok⟩ norm ex rt
  conv => cbv
  repeat' first | (refine ex _ _ _ ?_; (conv => cbv)) | (refine rt _ _ ?_; (conv => cbv)) | refine call_b (hw _ _ _) rfl rfl ?_ ?_ | refine call_b (hn _) rfl rfl ?_ ?_ | (intro e he; obtain ⟨⟨xa, xb, xc, xd, xe, xf, xg⟩, hx, rfl⟩ := map_get' hll he; (conv => cbv)) | exact gu | exact trivial | refine And.intro ?_ ?_ | (intro hc; exact absurd hc (by decide)) | (intro hc; exfalso; omega) | (intro hc; (first | rw [wrap_small (by omega) (by omega)] at hc | rw [nI_eq] at hc | skip); try (conv => cbv))
 all_goals try simp only [decide_eq_true_eq, decide_eq_false_iff_not] at *
 all_goals try (refine no fun h => ?_; obtain ⟨h1, h2, h3, h4⟩ := validT_spec.1 h; have h5 := okLk_spec.1 (h4 _ (List.mem_of_getElem? hx)); simp only at h5; omega)
 all_goals try (refine leaf _ (validT_spec.2 ⟨by simp only; omega, by simp only; omega, by simp only; omega, fun l hl => hok l ?_⟩); rw [List.take_of_length_le (by omega)]; exact hl)
 all_goals
  refine norm _ _ _ ?_ (Wk.cw)
  refine ⟨by omega, by omega, ?_⟩
  rw [show i.toNat = k by omega] at hx
  rw [take_succ_get hx]
  intro l hl
  rcases List.mem_append.1 hl with hl | hl
  ·exact hok l hl
  ·simp only [List.mem_singleton] at hl
   subst hl
   exact okLk_spec.2 ⟨by simp only; omega, by simp only; omega, by simp only; omega, by simp only; omega, by simp only; omega, by simp only; omega, by simp only; omega, by simp only; omega⟩
end Go.Ab

/-
  Reservations, part a: the reference's table: where things are, what is used.
-/
namespace Go.Ab
open Go.Proofs
structure Rq where
 id : Int
 arcs : List Int
 amt : Int
 setup : Int
 hold : Int
 deriving DecidableEq, Inhabited
def encRq (r : Rq) : List D := [iD r.id, intsD r.arcs, iD r.amt, iD r.setup, iD r.hold]
abbrev rqsD (l : List Rq) : D := .list false 5 (l.map encRq)
def rqA (r : Rq) : AV := .agg [.d (iD r.id), .d (intsD r.arcs), .d (iD r.amt), .d (iD r.setup), .d (iD r.hold)]
structure Stp where
 rel : Bool
 r : Rq
 deriving DecidableEq, Inhabited
def encStp (s : Stp) : List D := .bool s.rel :: encRq s.r
abbrev stpsD (l : List Stp) : D := .list false 6 (l.map encStp)
def isR (t : Top) (a : Int) : Prop := 0 ≤ a ∧ a < arcsT t
instance (t : Top) (a : Int) : Decidable (isR t a) := inferInstanceAs (Decidable (_ ∧ _))
def wtR (p : Rq → Bool) (a : Int) (r : Rq) : Int := if p r = true ∧ a ∈ r.arcs then r.amt else 0
def sumR (p : Rq → Bool) (a : Int) (l : List Rq) : Int := (l.map (wtR p a)).sum
def useS (t : Top) (l : List Rq) (a : Int) : Int := if isR t a then sumR (fun _ => true) a l else 0
def roomS (t : Top) (l : List Rq) (a p : Int) : Int := if isR t a then (lkAt t a).cap - sumR (fun r => decide (r.hold ≤ p)) a l else 0
def Sml (l : List Rq) : Prop := (∀ r ∈ l, 0 ≤ r.amt ∧ r.amt ≤ 1048576) ∧ l.length ≤ 100000
theorem sumR_snoc (p : Rq → Bool) (a : Int) (l : List Rq) (r : Rq) : sumR p a (l ++ [r]) = sumR p a l + wtR p a r := by simp [sumR]
theorem wtR_bd {p : Rq → Bool} {a : Int} {r : Rq} (h : 0 ≤ r.amt ∧ r.amt ≤ 1048576) : 0 ≤ wtR p a r ∧ wtR p a r ≤ 1048576 := by
 unfold wtR; split <;> omega
theorem sumR_bd {p : Rq → Bool} {a : Int} {l : List Rq} (h : ∀ r ∈ l, 0 ≤ r.amt ∧ r.amt ≤ 1048576) : 0 ≤ sumR p a l ∧ sumR p a l ≤ 1048576 * (l.length : Int) := by
 induction l with
 | nil => simp [sumR]
 | cons r l ih =>
  have h1 := wtR_bd (p := p) (a := a) (h r (by simp))
  have h2 := ih fun x hx => h x (by simp [hx])
  simp only [sumR, List.map_cons, List.sum_cons, List.length_cons] at *
  omega
theorem sumR_take {p : Rq → Bool} {a : Int} {l : List Rq} (h : Sml l) (k : Nat) : 0 ≤ sumR p a (l.take k) ∧ sumR p a (l.take k) ≤ 104857600000 := by
 have h1 := sumR_bd (p := p) (a := a) (l := l.take k) fun r hr => h.1 r (List.mem_of_mem_take hr)
 have h2 := h.2
 have h3 := List.length_take_le k l
 have h4 : (l.take k).length ≤ l.length := by rw [List.length_take]; omega
 omega
theorem cap_le {t : Top} (hv : validT t = true) {a : Int} (h0 : 0 ≤ a) (h1 : a < 2 * t.links.length) : t.links[(a / 2).toNat]? = some (lkAt t a) ∧ 0 ≤ (lkAt t a).cap ∧ (lkAt t a).cap ≤ 1048576 := by
 obtain ⟨_, _, _, hl⟩ := validT_spec.1 hv
 have hlt : (a / 2).toNat < t.links.length := by omega
 have e : t.links[(a / 2).toNat]? = some (t.links[(a / 2).toNat]) := List.getElem?_eq_getElem hlt
 have := okLk_spec.1 (hl _ (List.mem_of_getElem? e))
 rw [lkAt, e]
 exact ⟨rfl, by simp only [Option.getD_some]; omega, by simp only [Option.getD_some]; omega⟩
theorem idxOf_at {n : Int} : ∀ {l : List Int} {k : Nat}, l[k]? = some n → n ∉ l.take k → l.idxOf n = k := by
 intro l
 induction l with
 | nil => intro k h; simp at h
 | cons x l ih =>
  intro k h hno
  cases k with
  | zero => simp at h; rw [h, List.idxOf_cons_self]
  | succ k =>
   simp only [List.getElem?_cons_succ, List.take_succ_cons, List.mem_cons, not_or] at h hno
   rw [List.idxOf_cons, beq_eq_false_iff_ne.2 (fun e => hno.1 e.symm), cond_false, ih h hno.2]
theorem wtR_of {p : Rq → Bool} {a : Int} {r : Rq} : (p r = true ∧ a ∈ r.arcs → wtR p a r = r.amt) ∧ (¬ (p r = true ∧ a ∈ r.arcs) → wtR p a r = 0) := ⟨fun h => if_pos h, fun h => if_neg h⟩
end Go.Ab

/-
  Reservations, part b: proper requests; requests that are the same; short scripts.
-/
namespace Go.Ab
open Go.Proofs
def PropN (n : Int) (r : Rq) : Prop := (1 ≤ r.arcs.length ∧ r.arcs.length ≤ 64) ∧ (1 ≤ r.amt ∧ r.amt ≤ 1048576) ∧ (0 ≤ r.setup ∧ r.setup ≤ 7) ∧ (0 ≤ r.hold ∧ r.hold ≤ r.setup) ∧ r.arcs.Nodup ∧ ∀ a ∈ r.arcs, 0 ≤ a ∧ a < n
instance (n : Int) (r : Rq) : Decidable (PropN n r) := inferInstanceAs (Decidable (_ ∧ _))
theorem nodup_at {l : List Int} {k : Nat} {a : Int} (h : l.Nodup) (hk : l[k]? = some a) : a ∉ l.take k := by
 intro hm
 rw [← List.take_append_drop k l, List.nodup_append] at h
 have hd : a ∈ l.drop k := List.mem_of_getElem? (i := 0) (by rw [List.getElem?_drop]; exact hk)
 exact h.2.2 a hm a hd rfl
def fewR (l : List Stp) : Bool := (l.all fun s => decide (s.r.arcs.length ≤ 70)) && decide (l.length ≤ 25)
theorem few_ok47 (P : Program) (hP : P = Try.prog) (l : List Stp) : Ret P n_ref47_Few [.c (.d (stpsD l))] (bA (fewR l)) := by
 refine ret_start (hP ▸ mixed) (hP ▸ fn_ref47_Few) (hP ▸ c_ref47_Few) (Nat.le_of_ble_eq_true rfl) fun Λ Λo K hK => ?_
 clear hP
 have leaf : ∀ b : Bool, fewR l = b → K (bA b) := fun b hb => by rw [← hb]; exact hK
 clear hK
 simp only [stpsD] at *
 generalize llh : l.map encStp = ll at *
 have lln : Λ ll = l.length := by rw [Λo, ← llh]; simp
 conv => cbv
 refine loop_up l.length (fun i : Int => [(0, .c (.d (.list false 6 ll))), (3, iA i)]) (fun _ => []) (fun k i => i = k ∧ k ≤ l.length ∧ ∀ s ∈ l.take k, s.r.arcs.length ≤ 70) 0 (Wk.cw) ⟨rfl, by omega, by simp⟩ (fun k s h => h.2.1) ?_
 rintro k i Q' ⟨hi, hk, hok⟩ norm ex rt
 by_cases hlt : k < l.length
 ·obtain ⟨⟨xr, xi, xa, xm, xs, xh⟩, hx⟩ : ∃ x, l[k]? = some x := ⟨_, List.getElem?_eq_getElem hlt⟩
  have hxa := elt_at llh hi hx
  simp only [encStp, encRq, intsD] at hxa
  generalize hxe : xa.map encI = xl at *
  have xln : Λ xl = xa.length := by rw [Λo, ← hxe]; simp
  conv => cbv
  repeat' first | (refine ex _ _ _ ?_; (conv => cbv)) | (refine rt _ _ ?_; (conv => cbv)) | (intro e he; cases Option.some.inj (he.symm.trans hxa); (conv => cbv)) | exact gu | exact trivial | refine And.intro ?_ ?_ | (intro hc; exact absurd hc (by decide)) | (intro hc; exfalso; omega) | (intro hc; (first | rw [wrap_small (by omega) (by omega)] at hc | rw [nI_eq] at hc | skip); try (conv => cbv))
  ·refine leaf _ (Bool.eq_false_iff.2 fun h => ?_)
   simp only [fewR, Bool.and_eq_true, List.all_eq_true, decide_eq_true_eq] at h
   have := h.1 _ (List.mem_of_getElem? hx)
   simp only at this
   omega
  ·refine norm _ _ _ ?_ (Wk.cw)
   refine ⟨by omega, by omega, fun s hs => ?_⟩
   rw [take_succ_get hx] at hs
   rcases List.mem_append.1 hs with hs | hs
   ·exact hok s hs
   ·simp only [List.mem_singleton] at hs; subst hs; simp only; omega
 ·conv => cbv
  repeat' first | (refine ex _ _ _ ?_; (conv => cbv)) | (refine rt _ _ ?_; (conv => cbv)) | exact gu | exact trivial | refine And.intro ?_ ?_ | (intro hc; exact absurd hc (by decide)) | (intro hc; exfalso; omega) | (intro hc; (first | rw [wrap_small (by omega) (by omega)] at hc | rw [nI_eq] at hc | skip); try (conv => cbv))
  all_goals
   refine leaf _ ?_
   rw [List.take_of_length_le (by omega)] at hok
   have e : (l.all fun s => decide (s.r.arcs.length ≤ 70)) = true := by
    simp only [List.all_eq_true, decide_eq_true_eq]; exact hok
   rw [fewR, e, Bool.true_and]
   first | exact decide_eq_true (by omega) | exact decide_eq_false (by omega)
end Go.Ab

/-
  Reservations, part c: the reference's table with and without a reservation.
-/
namespace Go.Ab
open Go.Proofs
def shortA (t : Top) (l : List Rq) (old : List Int) (amt : Int) (a : Int) : Bool := decide (a ∈ old) && decide ((lkAt t a).cap - useS t l a < amt)
def shortS (t : Top) (l : List Rq) (old r : Rq) : Bool := r.arcs.any (shortA t l old.arcs r.amt)
def relS (l : List Rq) (id : Int) : List Rq × Int := if id ∈ l.map (·.id) then (l.eraseIdx ((l.map (·.id)).idxOf id), 0) else (l, 8)
def withR (r : Rq) : List Rq → List Rq
 | [] => [r]
 | x :: l => if r.id < x.id then r :: x :: l else x :: withR r l
theorem wk_z {m : Nat} {L : Lv} {h : Hp} (l v sz k : Nat) {r : Bool} {es : List (List D)} (hl : h[l]? = some (.da r v sz es)) (hk : k = es.length) (h1 : okL l v k L) (h2 : okH l v k h) : Wk m L h (zL l v sz es L) (zH l v sz es 0 h) :=
 .fz l v sz r es hl (fun i => .inr (by rw [← lkN_eq, ← lkN_eq, lkN_z]; exact zA_ok hk (okL_get h1 i))) (zH_ok hk h2)
end Go.Ab

/-
  Reservations, part d: the reference's answer to a request.
-/
namespace Go.Ab
open Go.Proofs
def cdn (l : List Rq) : Nat → List Rq
 | 0 => []
 | n + 1 => cdn l n ++ l.filter fun x => decide (x.hold = 7 - (n : Int))
def leftR (l : List Rq) (out : List Int) : List Rq := l.filter fun x => decide (x.id ∉ out)
def preStep (t : Top) (l : List Rq) (r : Rq) (out : List Int) (x : Rq) : List Int := if shortS t (leftR l out) x r then out ++ [x.id] else out
def preS (t : Top) (l : List Rq) (r : Rq) : List Int := (cdn l (7 - r.setup).toNat).foldl (preStep t l r) []
def fullS (t : Top) (l : List Rq) (r : Rq) : Bool := r.arcs.any fun a => decide (roomS t l a r.setup < r.amt)
def resS (t : Top) (l : List Rq) (r : Rq) : List Rq × List Int × Int :=
 if ¬ PropN (arcsT t) r then (l, [], 1) else if r.id ∈ l.map (·.id) then (l, [], 9) else if fullS t l r = true then (l, [], 12)
 else (withR r (leftR l (preS t l r)), preS t l r, 0)
def Ids (l : List Rq) : Prop := (l.map (·.id)).Nodup
theorem Ids.inj {l : List Rq} (h : Ids l) {x y : Rq} (hx : x ∈ l) (hy : y ∈ l) (e : x.id = y.id) : x = y := by
 induction l with
 | nil => cases hx
 | cons z l ih =>
  simp only [Ids, List.map_cons, List.nodup_cons] at h
  rcases List.mem_cons.1 hx with e1 | hx'
  ·rcases List.mem_cons.1 hy with e2 | hy'
   ·rw [e1, e2]
   ·exact absurd (List.mem_map.2 ⟨y, hy', by rw [← e, e1]⟩) h.1
  ·rcases List.mem_cons.1 hy with e2 | hy'
   ·exact absurd (List.mem_map.2 ⟨x, hx', by rw [e, e2]⟩) h.1
   ·exact ih h.2 hx' hy'
theorem Ids.at {l : List Rq} (h : Ids l) {x y : Rq} {k : Nat} (hx : l[k]? = some x) (hy : y ∈ l.take k) : y.id ≠ x.id := by
 intro e
 have h1 : (l.map (·.id))[k]? = some x.id := by rw [List.getElem?_map, hx]; rfl
 exact nodup_at h h1 (by rw [← List.map_take]; exact List.mem_map.2 ⟨y, hy, e⟩)
theorem Ids.left {l : List Rq} (h : Ids l) (out : List Int) : Ids (leftR l out) := List.Nodup.sublist (List.Sublist.map _ List.filter_sublist) h
theorem Sml.left {l : List Rq} (h : Sml l) (out : List Int) : Sml (leftR l out) :=
 ⟨fun r hr => h.1 r (List.mem_filter.1 hr).1, Nat.le_trans (List.length_filter_le _ _) h.2⟩
theorem erase_id {id : Int} : ∀ {m : List Rq}, Ids m → m.eraseIdx ((m.map (·.id)).idxOf id) = m.filter fun x => decide (x.id ≠ id) := by
 intro m
 induction m with
 | nil => intro _; rfl
 | cons x m ih =>
  intro h
  simp only [Ids, List.map_cons, List.nodup_cons] at h
  by_cases e : x.id = id
  ·subst e
   rw [List.map_cons, List.idxOf_cons_self, List.eraseIdx_cons_zero, List.filter_cons, if_neg (by simp)]
   refine (List.filter_eq_self.2 fun y hy => ?_).symm
   simp only [ne_eq, decide_not, Bool.not_eq_true', decide_eq_false_iff_not]
   exact fun e => h.1 (List.mem_map.2 ⟨y, hy, e⟩)
  ·rw [List.map_cons, List.idxOf_cons, beq_eq_false_iff_ne.2 e, cond_false, List.eraseIdx_cons_succ, ih h.2, List.filter_cons, if_pos (by simpa using e)]
theorem erase_left {l : List Rq} (h : Ids l) (out : List Int) (id : Int) : (leftR l out).eraseIdx (((leftR l out).map (·.id)).idxOf id) = leftR l (out ++ [id]) := by
 rw [erase_id (h.left out), leftR, leftR, List.filter_filter]
 refine List.filter_congr fun x _ => ?_
 by_cases h1 : x.id = id <;> by_cases h2 : x.id ∈ out <;> simp [h1, h2]
theorem mem_left {l : List Rq} {out : List Int} {x : Rq} (hx : x ∈ l) (h : x.id ∉ out) : x.id ∈ (leftR l out).map (·.id) :=
 List.mem_map.2 ⟨x, List.mem_filter.2 ⟨hx, decide_eq_true h⟩, rfl⟩
def PreI (t : Top) (l : List Rq) (r : Rq) (k i : Nat) (out : List Int) : Prop :=
 out = (cdn l k ++ (l.take i).filter fun x => decide (x.hold = 7 - (k : Int))).foldl (preStep t l r) [] ∧ (∀ j ∈ out, ∃ y ∈ l, y.id = j ∧ (7 - (k : Int) < y.hold ∨ (y.hold = 7 - (k : Int) ∧ y ∈ l.take i))) ∧ out.length ≤ 1000 * k + i
theorem PreI.start (t : Top) (l : List Rq) (r : Rq) : PreI t l r 0 0 [] := ⟨by simp [cdn], by simp, by simp⟩
theorem PreI.fresh {t : Top} {l : List Rq} {r : Rq} {k i : Nat} {out : List Int} (h : PreI t l r k i out) (hd : Ids l) {x : Rq} (hx : l[i]? = some x) (hh : x.hold = 7 - (k : Int)) : x.id ∉ out := by
 intro hm
 obtain ⟨y, hy, e, h1⟩ := h.2.1 _ hm
 rcases h1 with h1 | h1
 ·have := hd.inj hy (List.mem_of_getElem? hx) e
  subst this
  omega
 ·exact hd.at hx h1.2 e
theorem PreI.skip {t : Top} {l : List Rq} {r : Rq} {k i : Nat} {out : List Int} (h : PreI t l r k i out) {x : Rq} (hx : l[i]? = some x) (hh : x.hold ≠ 7 - (k : Int)) : PreI t l r k (i + 1) out := by
 obtain ⟨h1, h2, h3⟩ := h
 refine ⟨?_, fun j hj => ?_, by omega⟩
 ·rw [take_succ_get hx, List.filter_append, List.filter_cons, if_neg (by simpa using hh), List.filter_nil, List.append_nil]; exact h1
 ·obtain ⟨y, hy, e, h4⟩ := h2 j hj
  exact ⟨y, hy, e, h4.imp id fun h => ⟨h.1, by rw [take_succ_get hx]; exact List.mem_append_left _ h.2⟩⟩
theorem PreI.step {t : Top} {l : List Rq} {r : Rq} {k i : Nat} {out : List Int} (h : PreI t l r k i out) {x : Rq} (hx : l[i]? = some x) (hh : x.hold = 7 - (k : Int)) : PreI t l r k (i + 1) (preStep t l r out x) := by
 obtain ⟨h1, h2, h3⟩ := h
 refine ⟨?_, fun j hj => ?_, ?_⟩
 ·rw [take_succ_get hx, List.filter_append, List.filter_cons, if_pos (by simpa using hh), List.filter_nil, ← List.append_assoc, List.foldl_append, ← h1]; rfl
 ·have hold : ∀ j ∈ out, ∃ y ∈ l, y.id = j ∧ (7 - (k : Int) < y.hold ∨ (y.hold = 7 - (k : Int) ∧ y ∈ l.take (i + 1))) := fun j hj => by
   obtain ⟨y, hy, e, h4⟩ := h2 j hj
   exact ⟨y, hy, e, h4.imp id fun h => ⟨h.1, by rw [take_succ_get hx]; exact List.mem_append_left _ h.2⟩⟩
  unfold preStep at hj
  split at hj
  ·rcases List.mem_append.1 hj with hj | hj
   ·exact hold j hj
   ·simp only [List.mem_singleton] at hj
    subst hj
    exact ⟨x, List.mem_of_getElem? hx, rfl, .inr ⟨hh, by rw [take_succ_get hx]; simp⟩⟩
  ·exact hold j hj
 ·unfold preStep; split
  ·rw [List.length_append]; simp only [List.length_cons, List.length_nil]; omega
  ·omega
theorem PreI.next {t : Top} {l : List Rq} {r : Rq} {k : Nat} {out : List Int} (h : PreI t l r k l.length out) (hl : l.length ≤ 1000) : PreI t l r (k + 1) 0 out := by
 obtain ⟨h1, h2, h3⟩ := h
 refine ⟨?_, fun j hj => ?_, by omega⟩
 ·rw [h1, List.take_length]; simp [cdn]
 ·obtain ⟨y, hy, e, h4⟩ := h2 j hj
  exact ⟨y, hy, e, .inl (by rcases h4 with h4 | h4 <;> omega)⟩
end Go.Ab

/-
  Maps whose keys are numbers.
-/
namespace Go.Ab
open Go.Proofs
def encZ (e : Int × DV) : DV × DV := (.s (iD e.1), e.2)
theorem eqc_int (a x : Int) : eqc [.d (.int .i64 a)] [.d (.int .i64 x)] [(0, 0)] = some (decide (a = x)) := by
 have e : eqc [.d (.int .i64 a)] [.d (.int .i64 x)] [(0, 0)] = some ((a == x) && true) := rfl
 rw [e]
 by_cases h1 : a = x
 ·simp [h1]
 ·simp [h1]
end Go.Ab

/-
  The engine: a contract over a few blocks, used where these blocks are some of many.
-/
namespace Go.Ab
section
variable {G : Nat → Prop} {w : World} {ιc ι : Io} {hc h : Hp} {ρ : Nat → Nat}
theorem Kept.rn {ι' ιc' : Io} {w' : World} {i l : Nat} {k k' : Blk} (hk : Kept ιc ιc' w w' i k k') (h1 : ι[l]? = ιc[i]?) (h2 : ι'[l]? = ιc'[i]?) : Kept ι ι' w w' l (rnB ρ k) (rnB ρ k') := by
 cases k' with
 | dead => cases k <;> trivial
 | am m' =>
  cases k with
  | am m => trivial
  | _ => simp [Kept] at hk
 | bx cs' =>
  cases k with
  | bx cs => exact ⟨by rw [rnCs_len, rnCs_len]; exact hk.1, by rw [h1, h2]; exact hk.2⟩
  | _ => simp [Kept] at hk
 | da r' v' sz' es' =>
  cases k with
  | da r v sz es =>
   rcases hk with hk | ⟨a1, a2, a3, a4, a5, a6⟩
   ·exact .inl hk
   ·exact .inr ⟨a1, a2, a3, a4, by rw [h1, h2]; exact a5, fun hr b o hb => a6 hr b o (by rw [← h1]; exact hb)⟩
  | _ => simp [Kept] at hk
 | mp v' es' =>
  cases k with
  | mp v es =>
   obtain ⟨a1, a2⟩ := hk
   refine ⟨by rw [h1, h2]; exact a1, ?_⟩
   rcases a2 with a2 | ⟨a2, a3, a4⟩
   ·exact .inl a2
   ·exact .inr ⟨a2, a3, fun b o hb => a4 b o (by rw [← h1]; exact hb)⟩
  | _ => simp [Kept] at hk
 | mi m' v' es' =>
  cases k with
  | mi m v es =>
   obtain ⟨a1, a2, a3⟩ := hk
   exact ⟨by rw [a1], a2, by rw [h1, h2]; exact a3⟩
  | _ => simp [Kept] at hk
end
def setAll {α : Type} : List α → List Nat → List α → List α
 | h, [], _ => h
 | h, _ :: _, [] => h
 | h, l :: σ, b :: bs => setAll (h.set l b) σ bs
theorem setAll_len {α : Type} : ∀ (σ : List Nat) (h bs : List α), (setAll h σ bs).length = h.length
 | [], _, _ => by simp only [setAll]
 | _ :: _, _, [] => by simp only [setAll]
 | l :: σ, h, b :: bs => by simp only [setAll]; rw [setAll_len σ]; simp
theorem setAll_other {α : Type} : ∀ (σ : List Nat) (h bs : List α) (l : Nat), l ∉ σ → (setAll h σ bs)[l]? = h[l]?
 | [], _, _, _, _ => by simp only [setAll]
 | _ :: _, _, [], _, _ => by simp only [setAll]
 | l :: σ, h, b :: bs, l', hn => by
  simp only [setAll]
  rw [setAll_other σ _ bs l' (fun hm => hn (List.mem_cons_of_mem _ hm)), List.getElem?_set_ne (fun (e : l = l') => hn (by rw [e]; exact List.mem_cons_self ..))]
theorem setAll_at {α : Type} : ∀ (σ : List Nat) (h bs : List α) (i l : Nat) (b : α), σ.Nodup → (∀ l ∈ σ, l < h.length) → σ[i]? = some l → bs[i]? = some b → (setAll h σ bs)[l]? = some b
 | [], _, _, _, _, _, _, _, h1, _ => by simp at h1
 | _ :: _, _, [], _, _, _, _, _, _, h2 => by simp at h2
 | l0 :: σ, h, b0 :: bs, i, l, b, hn, hl, h1, h2 => by
  simp only [setAll]
  cases i with
  | zero =>
   simp at h1 h2
   subst h1 h2
   rw [setAll_other σ _ bs l0 (List.nodup_cons.1 hn).1, List.getElem?_set_self (hl l0 (List.mem_cons_self ..))]
  | succ i =>
   exact setAll_at σ _ bs i l b (List.nodup_cons.1 hn).2 (fun x hx => by simpa using hl x (List.mem_cons_of_mem _ hx)) (by simpa using h1) (by simpa using h2)
def rho : List Nat → Nat → Nat → Nat
 | [], n, i => n + i
 | l :: _, _, 0 => l
 | _ :: σ, n, i + 1 => rho σ n i
theorem rho_old : ∀ (σ : List Nat) (n i : Nat), i < σ.length → σ[i]? = some (rho σ n i)
 | [], _, _, h => by simp at h
 | l :: σ, n, 0, _ => rfl
 | l :: σ, n, i + 1, h => by simpa [rho] using rho_old σ n i (by simpa using h)
theorem rho_new : ∀ (σ : List Nat) (n i : Nat), σ.length ≤ i → rho σ n i = n + (i - σ.length)
 | [], _, _, _ => rfl
 | l :: σ, n, 0, h => by simp at h
 | l :: σ, n, i + 1, h => by simp only [rho, List.length_cons]; rw [rho_new σ n i (by simpa using h)]; omega
def backH (h : Hp) (σ : List Nat) (hc : Hp) : Hp := setAll h σ (rnH (rho σ h.length) hc) ++ rnH (rho σ h.length) (hc.drop σ.length)
def backI (ι : Io) (σ : List Nat) (ιc : Io) : Io := setAll ι σ ιc ++ ιc.drop σ.length
theorem FnS.frame {P : Program} {f : Nat} {args : List AV} {hc : Hp} {R : AV → Hp → Prop} (hf : FnS P f args hc R) (σ : List Nat) (h : Hp) (hlen : σ.length = hc.length) (hnd : σ.Nodup)
    (hh : ∀ i k, hc[i]? = some k → h[rho σ h.length i]? = some (rnB (rho σ h.length) k)) (hcl : refsH hc.length hc = true) (hca : ∀ x ∈ args, refsA hc.length x = true) :
    FnS P f (rnAs (rho σ h.length) args) h fun r' h' => ∃ r hc', R r hc' ∧ r' = rnA (rho σ h.length) r ∧ h' = backH h σ hc' := by
  refine ⟨fun G ι w vs hr hv => ?_⟩
  have hlt : ∀ l ∈ σ, l < h.length := by
    intro l hl
    obtain ⟨i, hi, rfl⟩ := List.getElem_of_mem hl
    have h1 := rho_old σ h.length i hi
    rw [List.getElem?_eq_getElem hi] at h1
    have h2 := hh i _ (List.getElem?_eq_getElem (by omega))
    rw [← Option.some.inj h1] at h2
    exact get_lt h2
  have hιl : ∀ l ∈ σ, l < ι.length := fun l hl => by rw [hr.len]; exact hlt l hl
  generalize hρ : rho σ h.length = ρ at *
  have rold : ∀ i, i < σ.length → σ[i]? = some (ρ i) := fun i hi => by rw [← hρ]; exact rho_old σ _ i hi
  have rnew : ∀ i, σ.length ≤ i → ρ i = h.length + (i - σ.length) := fun i hi => by rw [← hρ]; exact rho_new σ _ i hi
  have rmem : ∀ i, i < σ.length → ρ i ∈ σ := fun i hi => List.mem_of_getElem? (rold i hi)
  have rinj : ∀ i j, ρ i = ρ j → i = j := by
    intro i j e
    rcases Nat.lt_or_ge i σ.length with hi | hi <;> rcases Nat.lt_or_ge j σ.length with hj | hj
    · have h1 := rold i hi
      have h2 := rold j hj
      rw [e, ← h2] at h1
      exact (List.getElem?_inj hi hnd).1 h1
    · have := hlt _ (rmem i hi); have := rnew j hj; omega
    · have := hlt _ (rmem j hj); have := rnew i hi; omega
    · have := rnew i hi; have := rnew j hj; omega
  let ιc : Io := σ.map fun l => (ι[l]?).getD (0, 0)
  have hιc : ∀ i, i < σ.length → ιc[i]? = ι[ρ i]? := by
    intro i hi
    simp only [ιc, List.getElem?_map, rold i hi, Option.map_some]
    rw [List.getElem?_eq_getElem (hιl _ (rmem i hi))]; rfl
  have am : Among ρ ιc hc ι h := ⟨hh, fun i k hk => (hιc i (by rw [hlen]; exact get_lt hk)).symm⟩
  have hrc : HR G ιc hc w := HR.down am hr (by simp [ιc, hlen]) (fun i j _ _ e => rinj i j e) hcl
  have hvc : VRs G w ιc hc vs args := by
    refine ⟨by rw [hv.1, rnAs_len], fun i v x h1 h2 => ?_⟩
    exact (hv.2 i v (rnA ρ x) h1 (by rw [rnAs_get, h2]; rfl)).unrn am (hca x (List.mem_of_getElem? h2))
  refine (hf.out G ιc w vs hrc hvc).mono fun e w2 ⟨v, r, G2, ι2, hc2, he, hR, hr2, hvr, hx⟩ => ?_
  have hl2 : hc.length ≤ hc2.length := by
    rcases Nat.lt_or_ge hc2.length hc.length with hb | hb
    · obtain ⟨k', h1, _⟩ := hx.keep hc2.length _ (List.getElem?_eq_getElem hb)
      have := get_lt h1; omega
    · exact hb
  have hl2' : ι2.length = hc2.length := hr2.len
  have hset : (setAll h σ (rnH ρ hc2)).length = h.length := setAll_len σ h _
  have hseti : (setAll ι σ ι2).length = h.length := by rw [setAll_len, hr.len]
  have hbh : backH h σ hc2 = setAll h σ (rnH ρ hc2) ++ rnH ρ (hc2.drop σ.length) := by simp only [backH, hρ]
  -- the callee's blocks, at the caller
  have am2 : Among ρ ι2 hc2 (backI ι σ ι2) (backH h σ hc2) := by
    rw [hbh]
    constructor
    · intro i k hk
      rcases Nat.lt_or_ge i σ.length with hi | hi
      · rw [List.getElem?_append_left (by rw [hset]; exact hlt _ (rmem i hi))]
        exact setAll_at σ h _ i _ _ hnd hlt (rold i hi) (by rw [rnH_get, hk]; rfl)
      · rw [rnew i hi, List.getElem?_append_right (by omega), hset, rnH_get, List.getElem?_drop]
        rw [show σ.length + (h.length + (i - σ.length) - h.length) = i by omega, hk]; rfl
    · intro i k hk
      unfold backI
      have hi2 : ι2[i]? = some (ι2[i]'(by rw [hl2']; exact get_lt hk)) := List.getElem?_eq_getElem _
      rcases Nat.lt_or_ge i σ.length with hi | hi
      · rw [List.getElem?_append_left (by rw [hseti]; exact hlt _ (rmem i hi)), hi2]
        exact setAll_at σ ι _ i _ _ hnd hιl (rold i hi) hi2
      · rw [rnew i hi, List.getElem?_append_right (by omega), hseti, List.getElem?_drop]
        rw [show σ.length + (h.length + (i - σ.length) - h.length) = i by omega]
  -- each of the caller's blocks is one of the callee's, or as it was
  have part : ∀ l k', (backH h σ hc2)[l]? = some k' → (∃ i k, hc2[i]? = some k ∧ l = ρ i ∧ k' = rnB ρ k) ∨ (h[l]? = some k' ∧ l ∉ σ ∧ (backI ι σ ι2)[l]? = ι[l]?) := by
    intro l k' hk'
    by_cases hm : l ∈ σ
    · obtain ⟨i, hi, rfl⟩ := List.getElem_of_mem hm
      have e : σ[i] = ρ i := by have := rold i hi; rw [List.getElem?_eq_getElem hi] at this; exact Option.some.inj this
      have hki : hc2[i]? = some (hc2[i]'(by omega)) := List.getElem?_eq_getElem _
      have := am2.blk i _ hki
      rw [e, this] at hk'
      exact .inl ⟨i, _, hki, e, (Option.some.inj hk').symm⟩
    · rcases Nat.lt_or_ge l h.length with hl | hl
      · rw [hbh, List.getElem?_append_left (by omega), setAll_other σ h _ l hm] at hk'
        exact .inr ⟨hk', hm, by unfold backI; rw [List.getElem?_append_left (by omega), setAll_other σ ι _ l hm]⟩
      · rw [hbh, List.getElem?_append_right (by omega), hset, rnH_get, List.getElem?_drop, Option.map_eq_some_iff] at hk'
        obtain ⟨k, h1, rfl⟩ := hk'
        exact .inl ⟨_, k, h1, by rw [rnew _ (by omega)]; omega, rfl⟩
  have other : ∀ l b k, h[l]? = some k → l ∉ σ → own1 ι l k b → b < w.heap.size ∧ ¬ owned ιc hc b := by
    intro l b k h1 h2 h3
    refine ⟨owned_lt hr ⟨l, k, h1, h3⟩, fun ho => ?_⟩
    obtain ⟨i, kc, g1, g2, g3, g4⟩ := owned_rn am ho
    have := hr.own l (ρ i) b k _ h1 g4 h3 g3
    exact h2 (this ▸ rmem i (by rw [hlen]; exact get_lt g1))
  have same : ∀ l b k, h[l]? = some k → l ∉ σ → own1 ι l k b → w2.heap[b]? = w.heap[b]? := by
    intro l b k h1 h2 h3
    have := other l b k h1 h2 h3
    exact hx.frame b this.1 this.2
  have hext : Ext G ι h w G2 (backI ι σ ι2) (backH h σ hc2) w2 :=
    { size := hx.size
      quiet := hx.quiet
      frame := fun b hb ho => hx.frame b hb fun ho' => ho (owned_up am ho')
      gmono := hx.gmono
      gnew := fun b hb => by
        rcases hx.gnew b hb with h1 | h1 | h1
        · exact .inl h1
        · exact .inr (.inl h1)
        · exact .inr (.inr (owned_up am h1))
      onew := fun b ⟨l, k, h2, h3⟩ => by
        rcases part l k h2 with ⟨i, kc, g1, rfl, rfl⟩ | ⟨g1, g2, g3⟩
        · rcases hx.onew b ⟨i, kc, g1, (own1_rn (am2.at' i kc g1)).1 h3⟩ with h4 | h4
          · exact .inl (owned_up am h4)
          · exact .inr h4
        · exact .inl ⟨l, k, g1, own1_io h3 fun _ => g3.symm⟩
      keep := fun l k hk => by
        by_cases hm : l ∈ σ
        · obtain ⟨i, hi, rfl⟩ := List.getElem_of_mem hm
          have e : σ[i] = ρ i := by have := rold i hi; rw [List.getElem?_eq_getElem hi] at this; exact Option.some.inj this
          have hki : hc[i]? = some (hc[i]'(by omega)) := List.getElem?_eq_getElem _
          rw [e, hh i _ hki] at hk
          cases hk
          obtain ⟨k', g1, g2⟩ := hx.keep i _ hki
          exact ⟨rnB ρ k', by rw [e]; exact am2.blk i k' g1, by rw [e]; exact g2.rn (am.at' i _ hki) (am2.at' i k' g1)⟩
        · have hl : l < h.length := get_lt hk
          have e1 : (backH h σ hc2)[l]? = some k := by rw [hbh, List.getElem?_append_left (by omega), setAll_other σ h _ l hm]; exact hk
          have e2 : (backI ι σ ι2)[l]? = ι[l]? := by unfold backI; rw [List.getElem?_append_left (by omega), setAll_other σ ι _ l hm]
          exact ⟨k, e1, Kept.frame e2 fun b hb => same l b k hk hm hb⟩ }
  refine ⟨v, rnA ρ r, G2, backI ι σ ι2, backH h σ hc2, he, ⟨r, hc2, hR, rfl, rfl⟩, ?_, hvr.rn am2, hext⟩
  exact
    { len := by
        rw [hbh]; unfold backI
        simp only [List.length_append, hset, hseti, rnH_len, List.length_drop, hl2']
      own := by
        intro l l' b k k' h3 h4 h5 h6
        rcases part l k h3 with ⟨i, kc, g1, rfl, rfl⟩ | ⟨g1, g2, g3⟩ <;> rcases part l' k' h4 with ⟨i', kc', q1, rfl, rfl⟩ | ⟨q1, q2, q3⟩
        · rw [hr2.own i i' b kc kc' g1 q1 ((own1_rn (am2.at' i kc g1)).1 h5) ((own1_rn (am2.at' i' kc' q1)).1 h6)]
        · exfalso
          have ot := other l' b k' q1 q2 (own1_io h6 fun _ => q3.symm)
          rcases hx.onew b ⟨i, kc, g1, (own1_rn (am2.at' i kc g1)).1 h5⟩ with h7 | h7
          · exact ot.2 h7
          · omega
        · exfalso
          have ot := other l b k g1 g2 (own1_io h5 fun _ => g3.symm)
          rcases hx.onew b ⟨i', kc', q1, (own1_rn (am2.at' i' kc' q1)).1 h6⟩ with h7 | h7
          · exact ot.2 h7
          · omega
        · exact hr.own l l' b k k' g1 q1 (own1_io h5 fun _ => g3.symm) (own1_io h6 fun _ => q3.symm)
      g := by
        intro b hb
        refine ⟨(hr2.g b hb).1, fun ⟨l, k, h2, h3⟩ => ?_⟩
        rcases part l k h2 with ⟨i, kc, g1, rfl, rfl⟩ | ⟨g1, g2, g3⟩
        · exact (hr2.g b hb).2 ⟨i, kc, g1, (own1_rn (am2.at' i kc g1)).1 h3⟩
        · have h3' : own1 ι l k b := own1_io h3 fun _ => g3.symm
          have ot := other l b k g1 g2 h3'
          rcases hx.gnew b hb with h4 | h4 | h4
          · exact (hr.g b h4).2 ⟨l, k, g1, h3'⟩
          · omega
          · exact ot.2 h4
      blk := by
        intro l k hk
        rcases part l k hk with ⟨i, kc, g1, rfl, rfl⟩ | ⟨g1, g2, g3⟩
        · exact BR.rn am2 g1 (hr2.blk i kc g1)
        · exact BR.ext hext hr g1 g3 fun b hb => same l b k g1 g2 hb }
end Go.Ab

/-
  Contracts, part h: copies; the parts of a step.
-/
namespace Go.Ab
open Go.Proofs
theorem cloneInts_raw (P : Program) (hP : P = Try.prog) (ll : List (List D)) (hl : ll.length ≤ 1000000) : Ret P n_slices_Clone_int_int [.c (.d (.list false 1 ll))] (.c (.d (.list false 1 ll))) := by
 refine ret_start (hP ▸ mixed) (hP ▸ fn_slices_Clone_int_int) (hP ▸ c_slices_Clone_int_int) (Nat.le_of_ble_eq_true rfl) fun Λ Λo K hK => ?_
 clear hP
 have h0 : ll = [] → K (.c (.d (.list false 1 []))) := fun h => by rw [h] at hK; exact hK
 have lln := Λo ll
 conv => cbv
 repeat' first | exact gu | exact trivial | refine And.intro ?_ ?_ | (intro hc; exact absurd hc (by decide)) | (intro hc; exfalso; omega) | (intro hc; (first | rw [wrap_small (by omega) (by omega)] at hc | rw [nI_eq] at hc | skip); try (conv => cbv))
 ·rename_i m r es hm hr hes ls
  have : ls = ll := by subst hc hes hm; simp
  rw [this]; exact hK
 ·exact h0 hc
theorem cloneInts_ok (P : Program) (hP : P = Try.prog) (l : List Int) (hl : l.length ≤ 1000000) : Ret P n_slices_Clone_int_int [intsA l] (intsA l) :=
 cloneInts_raw P hP _ (by rw [List.length_map]; exact hl)
end Go.Ab

/-
  Calls over a few of the caller's blocks.
-/
namespace Go.Ab
open Go.Proofs
def frOk (h : Hp) (ρ : Nat → Nat) : Nat → Hp → Prop
 | _, [] => True
 | n, k :: r => h[ρ n]? = some (rnB ρ k) ∧ frOk h ρ (n + 1) r
theorem frOk_get {h : Hp} {ρ : Nat → Nat} : ∀ {hc : Hp} {n : Nat}, frOk h ρ n hc → ∀ i k, hc[i]? = some k → h[ρ (n + i)]? = some (rnB ρ k) := by
 intro hc
 induction hc with
 | nil => intro n _ i k h; simp at h
 | cons b r ih =>
  intro n ⟨h1, h2⟩ i k hk
  cases i with
  | zero => simp at hk; subst hk; exact h1
  | succ i =>
   simp at hk
   have := ih h2 i k hk
   rw [show n + 1 + i = n + (i + 1) by omega] at this; exact this
theorem call_fr {P : Program} {m : Nat} {L : Lv} {h : Hp} {f : Nat} {xs : List X} {K : Lv → AV → Hp → Prop} {args : List AV} {hc : Hp} {R : AV → Hp → Prop} (σ : List Nat) (hf : FnS P f args hc R) (ha : evsN L xs = rnAs (rho σ h.length) args) (hlen : σ.length = hc.length) (hnd : σ.Nodup)
  (hh : frOk h (rho σ h.length) 0 hc) (hcl : refsH hc.length hc = true) (hca : args.all (refsA hc.length) = true) (k : ∀ r hc', R r hc' → K L (rnA (rho σ h.length) r) (backH h σ hc')) : CallS P m false L h f xs K := by
 refine .fn ?_
 rw [ha]
 refine (hf.frame σ h hlen hnd (fun i b hb => by have := frOk_get hh i b hb; rw [Nat.zero_add] at this; exact this) hcl fun x hx => List.all_eq_true.1 hca x hx).mono ?_
 rintro r h' ⟨r0, hc', h1, rfl, rfl⟩
 exact k r0 hc' h1
theorem callv_fr {P : Program} {h : Hp} {f : Nat} {args' : List AV} {K : AV → Hp → Prop} {args : List AV} {hc : Hp} {R : AV → Hp → Prop} (σ : List Nat) (hf : FnS P f args hc R) (ha : args' = rnAs (rho σ h.length) args) (hlen : σ.length = hc.length) (hnd : σ.Nodup)
  (hh : frOk h (rho σ h.length) 0 hc) (hcl : refsH hc.length hc = true) (hca : args.all (refsA hc.length) = true) (k : ∀ r hc', R r hc' → K (rnA (rho σ h.length) r) (backH h σ hc')) : CallV P h f args' K := by
 refine .fn ?_
 rw [ha]
 refine (hf.frame σ h hlen hnd (fun i b hb => by have := frOk_get hh i b hb; rw [Nat.zero_add] at this; exact this) hcl fun x hx => List.all_eq_true.1 hca x hx).mono ?_
 rintro r h' ⟨r0, hc', h1, rfl, rfl⟩
 exact k r0 hc' h1
end Go.Ab

/-
  Calls that look at memory, in a region whose order is drawn.
-/
namespace Go.Ab
open Go.Proofs
theorem setAll_id {h : Hp} : ∀ (σ : List Nat) (ys : Hp), (∀ (i l : Nat) (b : Blk), σ[i]? = some l → ys[i]? = some b → h[l]? = some b) → setAll h σ ys = h
 | [], _, _ => by unfold setAll; rfl
 | _ :: _, [], _ => by unfold setAll; rfl
 | l :: σ, y :: ys, hy => by
  have h0 := hy 0 l y rfl rfl
  have h1 : h.set l y = h := by
   apply List.ext_getElem?
   intro i
   by_cases hi : l = i
   ·subst hi; rw [List.getElem?_set_self (get_lt h0), h0]
   ·rw [List.getElem?_set_ne hi]
  unfold setAll
  rw [h1]
  exact setAll_id σ ys fun i l b e1 e2 => hy (i + 1) l b e1 e2
theorem call_ro {P : Program} {m : Nat} {d : Bool} {L : Lv} {h : Hp} {f : Nat} {xs : List X} {K : Lv → AV → Hp → Prop} {args : List AV} {hc : Hp} {r : AV} (σ : List Nat) (hf : FnS P f args hc fun r' h' => r' = r ∧ h' = hc) (hm : 0 < m)
  (ha : ∀ n, evsN L xs = rnAs (rho σ n) args) (hlen : σ.length = hc.length) (hnd : σ.Nodup) (hh : ∀ n, frOk h (rho σ n) 0 hc) (hcl : refsH hc.length hc = true) (hca : args.all (refsA hc.length) = true)
  (hr : ∀ n, rnA (rho σ n) r = r)
  (hp : ∀ p : Nat → Prop, (∀ x ∈ evsN L xs, roA p x) → (∀ l cs, p l → h[l]? = some (.bx cs) → ∀ c ∈ cs, roC p c) → ∀ l ∈ σ, p l) (k : K L r h) : CallS P m d L h f xs K := by
 refine .ro hm (fun h' ⟨p, p1, p2, p3⟩ => ?_) k
 have hσ := hp p p1 p3
 have hg : ∀ i b, hc[i]? = some b → h'[rho σ h'.length i]? = some (rnB (rho σ h'.length) b) := fun i b hb => by
  have h1 := frOk_get (hh h'.length) i b hb
  rw [Nat.zero_add] at h1
  have h2 := rho_old σ h'.length i (by rw [hlen]; exact get_lt hb)
  rw [p2 _ (hσ _ (List.mem_of_getElem? h2))]; exact h1
 rw [ha h'.length]
 refine (hf.frame σ h' hlen hnd hg hcl fun x hx => List.all_eq_true.1 hca x hx).mono ?_
 rintro r' h'' ⟨r0, hc', ⟨rfl, rfl⟩, rfl, rfl⟩
 refine ⟨?_, hr _⟩
 have hd : hc'.drop σ.length = [] := by rw [hlen]; exact List.drop_length
 rw [backH, hd, setAll_id σ _ fun i l b e1 e2 => ?_]
 ·simp [rnH]
 ·rw [rnH_get] at e2
  cases hi : hc'[i]? with
  | none => rw [hi] at e2; cases e2
  | some b0 =>
   rw [hi] at e2; cases e2
   have h2 := rho_old σ h'.length i (by rw [hlen]; exact get_lt hi)
   rw [e1] at h2; cases h2
   exact hg i b0 hi
end Go.Ab

