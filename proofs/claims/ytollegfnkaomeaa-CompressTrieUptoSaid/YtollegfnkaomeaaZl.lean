/-
  Merged texts, part l.
-/
import Derived.Test.YtollegfnkaomeaaZk
import Derived.Test.YtollegfnkaomeaaProg
/-
  The texts of the seat's functions, as the engine has them (printed by gen.sh and mkf.py).
-/
namespace Go.Ab
open Go.Proofs
set_option maxRecDepth 100000
def af_law06_CompressTrie : AF := (AF.mk 74 [(4, .none)] (.seq (.reg .false [⟨.some 4,.mv (.k (.c (.d (.bool .false)))),.none⟩]) (.seq (.seq (.reg .false [⟨.some 13,.call 10 [],.none⟩,⟨.some 14,.un .not (.t 13),.none⟩,⟨.some 15,.mv (.t 14),.none⟩,⟨.some 16,.mv (.t 0),.some (15, .false)⟩,⟨.some 17,.call 11 [(.t 16)],.some (15, .false)⟩,⟨.some 18,.un .not (.t 17),.some (15, .false)⟩,⟨.some 19,.pick (.t 15) (.k (.c (.d (.bool .true)))) (.t 18),.none⟩,⟨.some 20,.mv (.t 19),.none⟩,⟨.some 21,.mv (.t 0),.some (20, .false)⟩,⟨.some 22,.call 13 [(.t 21)],.some (20, .false)⟩,⟨.some 23,.un .not (.t 22),.some (20, .false)⟩,⟨.some 24,.pick (.t 20) (.k (.c (.d (.bool .true)))) (.t 23),.none⟩]) (.cond (.t 24) (.seq (.reg .false [⟨.some 25,.call 10 [],.none⟩,⟨.some 4,.mv (.t 25),.none⟩]) .ret) .skip)) (.seq (.reg .false [⟨.some 27,.mv (.t 0),.none⟩,⟨.some 28,.call 12 [(.t 27)],.none⟩,⟨.some 26,.mv (.t 28),.none⟩,⟨.some 29,.ext (.t 26) 0,.none⟩,⟨.some 30,.ext (.t 26) 1,.none⟩,⟨.some 5,.mv (.t 29),.none⟩,⟨.some 6,.mv (.t 30),.none⟩]) (.seq (.reg .false [⟨.some 31,.call 19 [],.none⟩,⟨.some 7,.mv (.t 31),.none⟩]) (.seq (.seq (.reg .false [⟨.some 32,.mv (.t 5),.none⟩,⟨.some 33,.len (.t 32),.none⟩,⟨.some 34,.mv (.k (.c (.d (.int .i64 0)))),.none⟩]) (.block 0 (.loop (.seq (.reg .false [⟨.some 35,.bin .lss (.t 34) (.t 33),.none⟩]) (.seq (.cond (.t 35) .skip (.exit 0)) (.seq (.block 1 (.seq (.reg .false [⟨.some 36,.ias 3 (.t 32) (.t 34),.none⟩,⟨.some 37,.ld (.t 36) (.some 3),.none⟩,⟨.some 9,.box (.k (.agg [(.d (.int .u32 0)), (.d (.int .i64 0)), (.d (.int .i64 0))])),.none⟩,⟨.none,.st (.t 9) (.t 37) 3,.none⟩]) (.seq (.reg .false [⟨.some 38,.mv (.t 7),.none⟩,⟨.some 39,.ld (.t 9) (.some 3),.none⟩,⟨.some 40,.call 20 [(.t 38), (.t 39)],.none⟩,⟨.some 41,.bin .neq (.t 40) (.k (.c (.d (.int .i64 0)))),.none⟩]) (.cond (.t 41) (.seq (.reg .false [⟨.some 4,.mv (.k (.c (.d (.bool .false)))),.none⟩]) .ret) .skip)))) (.reg .false [⟨.some 42,.bin .add (.t 34) (.k (.c (.d (.int .i64 1)))),.none⟩,⟨.some 34,.mv (.t 42),.none⟩]))))))) (.seq (.reg .false [⟨.some 44,.mv (.t 7),.none⟩,⟨.some 45,.mv (.t 1),.none⟩,⟨.some 46,.call 21 [(.t 44), (.t 45)],.none⟩,⟨.some 43,.mv (.t 46),.none⟩,⟨.some 47,.ext (.t 43) 0,.none⟩,⟨.some 48,.ext (.t 43) 1,.none⟩,⟨.some 10,.box (.k (.agg [(.d (.int .u32 0)), (.d (.int .i64 0)), (.d (.int .i64 0))])),.none⟩,⟨.none,.st (.t 10) (.t 47) 3,.none⟩,⟨.some 11,.mv (.t 48),.none⟩]) (.seq (.reg .false [⟨.some 49,.mv (.t 0),.none⟩,⟨.some 50,.mv (.t 1),.none⟩,⟨.some 51,.call 17 [(.t 49), (.t 50)],.none⟩,⟨.some 12,.mv (.t 51),.none⟩]) (.seq (.reg .false [⟨.some 52,.mv (.t 6),.none⟩,⟨.some 53,.bin .eql (.t 52) (.k (.c (.d (.int .i64 0)))),.none⟩,⟨.some 54,.mv (.t 53),.none⟩,⟨.some 55,.mv (.t 7),.some (54, .true)⟩,⟨.some 56,.call 22 [(.t 55)],.some (54, .true)⟩,⟨.some 57,.mv (.t 5),.some (54, .true)⟩,⟨.some 58,.len (.t 57),.some (54, .true)⟩,⟨.some 59,.bin .eql (.t 56) (.t 58),.some (54, .true)⟩,⟨.some 60,.pick (.t 54) (.t 59) (.k (.c (.d (.bool .false)))),.none⟩,⟨.some 61,.mv (.t 60),.none⟩,⟨.some 62,.fa (.t 10) 2,.some (61, .true)⟩,⟨.some 63,.ld (.t 62) .none,.some (61, .true)⟩,⟨.some 64,.mv (.t 12),.some (61, .true)⟩,⟨.some 65,.bin .eql (.t 63) (.t 64),.some (61, .true)⟩,⟨.some 66,.pick (.t 61) (.t 65) (.k (.c (.d (.bool .false)))),.none⟩,⟨.some 67,.mv (.t 66),.none⟩,⟨.some 68,.mv (.t 11),.some (67, .true)⟩,⟨.some 69,.mv (.t 68),.some (67, .true)⟩,⟨.some 70,.mv (.t 12),.some (69, .false)⟩,⟨.some 71,.bin .eql (.t 70) (.k (.c (.d (.int .i64 0)))),.some (69, .false)⟩,⟨.some 72,.pick (.t 69) (.k (.c (.d (.bool .true)))) (.t 71),.some (67, .true)⟩,⟨.some 73,.pick (.t 67) (.t 72) (.k (.c (.d (.bool .false)))),.none⟩,⟨.some 4,.mv (.t 73),.none⟩]) .ret)))))))))
abbrev n_law06_CompressTrie : Nat := 8
theorem fn_law06_CompressTrie : Try.prog.funcs[n_law06_CompressTrie]? = some Try.f8 := Try.func8
theorem c_law06_CompressTrie : compF Try.prog Try.f8 = some af_law06_CompressTrie := by kernel_rfl
def af_law06_awake : AF := (AF.mk 52 [(0, .none)] (.seq (.reg .false [⟨.some 0,.mv (.k (.c (.d (.bool .false)))),.none⟩]) (.seq (.reg .false [⟨.some 6,.call 24 [(.k (.c (.d (.int .i64 10)))), (.k (.c (.d (.int .i64 0)))), (.k (.c (.d (.int .i64 9)))), (.k (.c (.d (.int .i64 1))))],.none⟩,⟨.some 7,.call 24 [(.k (.c (.d (.int .i64 10)))), (.k (.c (.d (.int .i64 128)))), (.k (.c (.d (.int .i64 9)))), (.k (.c (.d (.int .i64 1))))],.none⟩,⟨.some 8,.call 24 [(.k (.c (.d (.int .i64 10)))), (.k (.c (.d (.int .i64 64)))), (.k (.c (.d (.int .i64 10)))), (.k (.c (.d (.int .i64 2))))],.none⟩,⟨.some 9,.bsl 3 [(.int .u32 0), (.int .i64 0), (.int .i64 0)] 3 [(0, (.t 6)), (1, (.t 7)), (2, (.t 8))],.none⟩,⟨.some 1,.mv (.t 9),.none⟩]) (.seq (.reg .false [⟨.some 11,.mv (.t 1),.none⟩,⟨.some 12,.call 12 [(.t 11)],.none⟩,⟨.some 10,.mv (.t 12),.none⟩,⟨.some 13,.ext (.t 10) 0,.none⟩,⟨.some 14,.ext (.t 10) 1,.none⟩,⟨.some 2,.mv (.t 13),.none⟩,⟨.some 3,.mv (.t 14),.none⟩]) (.seq (.reg .false [⟨.some 16,.call 24 [(.k (.c (.d (.int .i64 0)))), (.k (.c (.d (.int .i64 0)))), (.k (.c (.d (.int .i64 1)))), (.k (.c (.d (.int .i64 1))))],.none⟩,⟨.some 17,.call 24 [(.k (.c (.d (.int .i64 128)))), (.k (.c (.d (.int .i64 0)))), (.k (.c (.d (.int .i64 1)))), (.k (.c (.d (.int .i64 2))))],.none⟩,⟨.some 18,.bsl 3 [(.int .u32 0), (.int .i64 0), (.int .i64 0)] 2 [(0, (.t 16)), (1, (.t 17))],.none⟩,⟨.some 19,.call 12 [(.t 18)],.none⟩,⟨.some 15,.mv (.t 19),.none⟩,⟨.some 20,.ext (.t 15) 0,.none⟩,⟨.some 21,.ext (.t 15) 1,.none⟩,⟨.some 4,.mv (.t 20),.none⟩,⟨.some 5,.mv (.t 21),.none⟩]) (.seq (.reg .true [⟨.some 22,.mv (.t 3),.none⟩,⟨.some 23,.bin .eql (.t 22) (.k (.c (.d (.int .i64 0)))),.none⟩,⟨.some 24,.mv (.t 23),.none⟩,⟨.some 25,.mv (.t 5),.some (24, .true)⟩,⟨.some 26,.bin .eql (.t 25) (.k (.c (.d (.int .i64 0)))),.some (24, .true)⟩,⟨.some 27,.pick (.t 24) (.t 26) (.k (.c (.d (.bool .false)))),.none⟩,⟨.some 28,.mv (.t 27),.none⟩,⟨.some 29,.mv (.t 2),.some (28, .true)⟩,⟨.some 30,.len (.t 29),.some (28, .true)⟩,⟨.some 31,.bin .eql (.t 30) (.k (.c (.d (.int .i64 2)))),.some (28, .true)⟩,⟨.some 32,.pick (.t 28) (.t 31) (.k (.c (.d (.bool .false)))),.none⟩,⟨.some 33,.mv (.t 32),.none⟩,⟨.some 34,.mv (.t 2),.some (33, .true)⟩,⟨.some 35,.ias 3 (.t 34) (.k (.c (.d (.int .i64 0)))),.some (33, .true)⟩,⟨.some 36,.ld (.t 35) (.some 3),.some (33, .true)⟩,⟨.some 37,.call 24 [(.k (.c (.d (.int .i64 10)))), (.k (.c (.d (.int .i64 0)))), (.k (.c (.d (.int .i64 8)))), (.k (.c (.d (.int .i64 1))))],.some (33, .true)⟩,⟨.some 38,.eqa .false 3 [(0, 0), (1, 0), (2, 0)] (.t 36) (.t 37),.some (33, .true)⟩,⟨.some 39,.pick (.t 33) (.t 38) (.k (.c (.d (.bool .false)))),.none⟩,⟨.some 40,.mv (.t 39),.none⟩,⟨.some 41,.mv (.t 2),.some (40, .true)⟩,⟨.some 42,.ias 3 (.t 41) (.k (.c (.d (.int .i64 1)))),.some (40, .true)⟩,⟨.some 43,.ld (.t 42) (.some 3),.some (40, .true)⟩,⟨.some 44,.call 24 [(.k (.c (.d (.int .i64 10)))), (.k (.c (.d (.int .i64 64)))), (.k (.c (.d (.int .i64 10)))), (.k (.c (.d (.int .i64 2))))],.some (40, .true)⟩,⟨.some 45,.eqa .false 3 [(0, 0), (1, 0), (2, 0)] (.t 43) (.t 44),.some (40, .true)⟩,⟨.some 46,.pick (.t 40) (.t 45) (.k (.c (.d (.bool .false)))),.none⟩,⟨.some 47,.mv (.t 46),.none⟩,⟨.some 48,.mv (.t 4),.some (47, .true)⟩,⟨.some 49,.len (.t 48),.some (47, .true)⟩,⟨.some 50,.bin .eql (.t 49) (.k (.c (.d (.int .i64 2)))),.some (47, .true)⟩,⟨.some 51,.pick (.t 47) (.t 50) (.k (.c (.d (.bool .false)))),.none⟩,⟨.some 0,.mv (.t 51),.none⟩]) .ret))))))
abbrev n_law06_awake : Nat := 10
theorem fn_law06_awake : Try.prog.funcs[n_law06_awake]? = some Try.f10 := Try.func10
theorem c_law06_awake : compF Try.prog Try.f10 = some af_law06_awake := by kernel_rfl
def af_law06_few : AF := (AF.mk 6 [(2, .none)] (.seq (.reg .false [⟨.some 2,.mv (.k (.c (.d (.bool .false)))),.none⟩]) (.seq (.reg .false [⟨.some 3,.mv (.t 0),.none⟩,⟨.some 4,.len (.t 3),.none⟩,⟨.some 5,.bin .leq (.t 4) (.k (.c (.d (.int .i64 20)))),.none⟩,⟨.some 2,.mv (.t 5),.none⟩]) .ret)))
abbrev n_law06_few : Nat := 11
theorem fn_law06_few : Try.prog.funcs[n_law06_few]? = some Try.f11 := Try.func11
theorem c_law06_few : compF Try.prog Try.f11 = some af_law06_few := by kernel_rfl
def af_compress_Compress : AF := (AF.mk 16 [(2, .none), (3, .none)] (.seq (.reg .false [⟨.some 2,.mv (.k (.c (.d (.list .true 3 [])))),.none⟩,⟨.some 3,.mv (.k (.c (.d (.int .i64 0)))),.none⟩]) (.seq (.seq (.reg .false [⟨.some 5,.mv (.t 0),.none⟩,⟨.some 6,.call 25 [(.t 5)],.none⟩,⟨.some 7,.un .not (.t 6),.none⟩]) (.cond (.t 7) (.seq (.reg .false [⟨.some 2,.mv (.k (.c (.d (.list .true 3 [])))),.none⟩,⟨.some 3,.mv (.k (.c (.d (.int .i64 1)))),.none⟩]) .ret) .skip)) (.seq (.reg .false [⟨.some 8,.mv (.t 0),.none⟩,⟨.some 9,.call 26 [(.t 8)],.none⟩,⟨.some 4,.mv (.t 9),.none⟩]) (.seq (.reg .false [⟨.some 10,.mv (.t 4),.none⟩,⟨.some 11,.call 27 [(.t 10), (.k (.c (.fn .false 28 [])))],.none⟩]) (.seq (.reg .false [⟨.some 12,.build [(.d (.int .u32 0)), (.d (.int .i64 0))] [],.none⟩,⟨.some 13,.mv (.t 4),.none⟩,⟨.some 14,.call 30 [(.t 12), (.k (.c (.d (.int .i64 0)))), (.t 13)],.none⟩,⟨.some 15,.call 31 [(.t 14), (.k (.c (.d (.int .i64 0)))), (.k (.c (.d (.list .true 3 []))))],.none⟩,⟨.some 2,.mv (.t 15),.none⟩,⟨.some 3,.mv (.k (.c (.d (.int .i64 0)))),.none⟩]) .ret))))))
abbrev n_compress_Compress : Nat := 12
theorem fn_compress_Compress : Try.prog.funcs[n_compress_Compress]? = some Try.f12 := Try.func12
theorem c_compress_Compress : compF Try.prog Try.f12 = some af_compress_Compress := by kernel_rfl
def af_ref06_Valid : AF := (AF.mk 42 [(2, .none)] (.seq (.reg .false [⟨.some 2,.mv (.k (.c (.d (.bool .false)))),.none⟩]) (.seq (.seq (.reg .false [⟨.some 3,.mv (.k (.c (.d (.int .i64 0)))),.none⟩]) (.block 0 (.loop (.seq (.seq (.reg .false [⟨.some 5,.mv (.t 3),.none⟩,⟨.some 6,.mv (.t 0),.none⟩,⟨.some 7,.len (.t 6),.none⟩,⟨.some 8,.bin .lss (.t 5) (.t 7),.none⟩]) (.cond (.t 8) .skip (.exit 0))) (.seq (.block 1 (.seq (.seq (.reg .false [⟨.some 11,.mv (.t 0),.none⟩,⟨.some 12,.mv (.t 3),.none⟩,⟨.some 13,.ias 3 (.t 11) (.t 12),.none⟩,⟨.some 14,.fa (.t 13) 0,.none⟩,⟨.some 15,.ld (.t 14) (.some 2),.none⟩,⟨.some 16,.call 32 [(.t 15)],.none⟩,⟨.some 17,.un .not (.t 16),.none⟩,⟨.some 18,.mv (.t 17),.none⟩,⟨.some 19,.mv (.t 0),.some (18, .false)⟩,⟨.some 20,.mv (.t 3),.some (18, .false)⟩,⟨.some 21,.ias 3 (.t 19) (.t 20),.some (18, .false)⟩,⟨.some 22,.fa (.t 21) 2,.some (18, .false)⟩,⟨.some 23,.ld (.t 22) .none,.some (18, .false)⟩,⟨.some 24,.bin .lss (.t 23) (.k (.c (.d (.int .i64 0)))),.some (18, .false)⟩,⟨.some 25,.pick (.t 18) (.k (.c (.d (.bool .true)))) (.t 24),.none⟩]) (.cond (.t 25) (.seq (.reg .false [⟨.some 2,.mv (.k (.c (.d (.bool .false)))),.none⟩]) .ret) .skip)) (.seq (.reg .false [⟨.some 4,.mv (.k (.c (.d (.int .i64 0)))),.none⟩]) (.block 2 (.loop (.seq (.seq (.reg .false [⟨.some 26,.mv (.t 4),.none⟩,⟨.some 27,.mv (.t 3),.none⟩,⟨.some 28,.bin .lss (.t 26) (.t 27),.none⟩]) (.cond (.t 28) .skip (.exit 2))) (.seq (.block 3 (.seq (.reg .true [⟨.some 31,.mv (.t 0),.none⟩,⟨.some 32,.mv (.t 4),.none⟩,⟨.some 33,.ias 3 (.t 31) (.t 32),.none⟩,⟨.some 34,.fa (.t 33) 0,.none⟩,⟨.some 35,.ld (.t 34) (.some 2),.none⟩,⟨.some 36,.mv (.t 0),.none⟩,⟨.some 37,.mv (.t 3),.none⟩,⟨.some 38,.ias 3 (.t 36) (.t 37),.none⟩,⟨.some 39,.fa (.t 38) 0,.none⟩,⟨.some 40,.ld (.t 39) (.some 2),.none⟩,⟨.some 41,.eqa .false 2 [(0, 0), (1, 0)] (.t 35) (.t 40),.none⟩]) (.cond (.t 41) (.seq (.reg .false [⟨.some 2,.mv (.k (.c (.d (.bool .false)))),.none⟩]) .ret) .skip))) (.reg .false [⟨.some 29,.mv (.t 4),.none⟩,⟨.some 30,.bin .add (.t 29) (.k (.c (.d (.int .i64 1)))),.none⟩,⟨.some 4,.mv (.t 30),.none⟩])))))))) (.reg .false [⟨.some 9,.mv (.t 3),.none⟩,⟨.some 10,.bin .add (.t 9) (.k (.c (.d (.int .i64 1)))),.none⟩,⟨.some 3,.mv (.t 10),.none⟩])))))) (.seq (.reg .false [⟨.some 2,.mv (.k (.c (.d (.bool .true)))),.none⟩]) .ret))))
abbrev n_ref06_Valid : Nat := 13
theorem fn_ref06_Valid : Try.prog.funcs[n_ref06_Valid]? = some Try.f13 := Try.func13
theorem c_ref06_Valid : compF Try.prog Try.f13 = some af_ref06_Valid := by kernel_rfl
def af_ref06_Lookup : AF := (AF.mk 20 [(4, .none)] (.seq (.reg .false [⟨.some 4,.mv (.k (.c (.d (.int .i64 0)))),.none⟩]) (.seq (.seq (.reg .false [⟨.some 7,.mv (.t 0),.none⟩,⟨.some 8,.call 13 [(.t 7)],.none⟩,⟨.some 9,.un .not (.t 8),.none⟩]) (.cond (.t 9) (.seq (.reg .false [⟨.some 4,.mv (.k (.c (.d (.int .i64 0)))),.none⟩]) .ret) .skip)) (.seq (.reg .false [⟨.some 11,.mv (.t 0),.none⟩,⟨.some 12,.mv (.t 1),.none⟩,⟨.some 13,.call 36 [(.t 11), (.t 12)],.none⟩,⟨.some 10,.mv (.t 13),.none⟩,⟨.some 14,.ext (.t 10) 0,.none⟩,⟨.some 15,.ext (.t 10) 1,.none⟩,⟨.some 5,.box (.k (.agg [(.d (.int .u32 0)), (.d (.int .i64 0)), (.d (.int .i64 0))])),.none⟩,⟨.none,.st (.t 5) (.t 14) 3,.none⟩,⟨.some 6,.mv (.t 15),.none⟩]) (.seq (.seq (.reg .false [⟨.some 16,.mv (.t 6),.none⟩,⟨.some 17,.un .not (.t 16),.none⟩]) (.cond (.t 17) (.seq (.reg .false [⟨.some 4,.mv (.k (.c (.d (.int .i64 0)))),.none⟩]) .ret) .skip)) (.seq (.reg .false [⟨.some 18,.fa (.t 5) 2,.none⟩,⟨.some 19,.ld (.t 18) .none,.none⟩,⟨.some 4,.mv (.t 19),.none⟩]) .ret))))))
abbrev n_ref06_Lookup : Nat := 17
theorem fn_ref06_Lookup : Try.prog.funcs[n_ref06_Lookup]? = some Try.f17 := Try.func17
theorem c_ref06_Lookup : compF Try.prog Try.f17 = some af_ref06_Lookup := by kernel_rfl
def af_trie_New : AF := (AF.mk 3 [(0, .none)] (.seq (.reg .false [⟨.some 0,.mv (.k (.c (.d .nilp))),.none⟩]) (.seq (.reg .false [⟨.some 1,.build [(.d .nilp)] [],.none⟩,⟨.some 2,.box (.t 1),.none⟩,⟨.some 0,.mv (.t 2),.none⟩]) .ret)))
abbrev n_trie_New : Nat := 19
theorem fn_trie_New : Try.prog.funcs[n_trie_New]? = some Try.f19 := Try.func19
theorem c_trie_New : compF Try.prog Try.f19 = some af_trie_New := by kernel_rfl
def af_trie_Trie_Put : AF := (AF.mk 20 [(4, .none)] (.seq (.reg .false [⟨.some 3,.box (.t 1),.none⟩,⟨.some 4,.mv (.k (.c (.d (.int .i64 0)))),.none⟩]) (.seq (.seq (.reg .false [⟨.some 5,.mv (.t 0),.none⟩,⟨.some 6,.isnil 1 .false (.t 5),.none⟩]) (.cond (.t 6) (.seq (.reg .false [⟨.some 4,.mv (.k (.c (.d (.int .i64 7)))),.none⟩]) .ret) .skip)) (.seq (.seq (.reg .false [⟨.some 7,.fa (.t 3) 0,.none⟩,⟨.some 8,.ld (.t 7) (.some 2),.none⟩,⟨.some 9,.call 38 [(.t 8)],.none⟩,⟨.some 10,.un .not (.t 9),.none⟩]) (.cond (.t 10) (.seq (.reg .false [⟨.some 4,.mv (.k (.c (.d (.int .i64 1)))),.none⟩]) .ret) .skip)) (.seq (.rgc [⟨.some 11,.mv (.t 0),.none⟩,⟨.some 12,.mv (.t 0),.none⟩,⟨.some 13,.nilc (.t 12),.none⟩,⟨.some 14,.fa (.t 13) 0,.none⟩,⟨.some 15,.ld (.t 14) .none,.none⟩,⟨.some 16,.ld (.t 3) (.some 3),.none⟩] [⟨.some 17,.call 39 [(.t 15), (.t 16)],.none⟩,⟨.some 18,.nilc (.t 11),.none⟩,⟨.some 19,.fa (.t 18) 0,.none⟩,⟨.none,.st (.t 19) (.t 17) 1,.none⟩] [[], [], [], []]) (.seq (.reg .false [⟨.some 4,.mv (.k (.c (.d (.int .i64 0)))),.none⟩]) .ret))))))
abbrev n_trie_Trie_Put : Nat := 20
theorem fn_trie_Trie_Put : Try.prog.funcs[n_trie_Trie_Put]? = some Try.f20 := Try.func20
theorem c_trie_Trie_Put : compF Try.prog Try.f20 = some af_trie_Trie_Put := by kernel_rfl
def af_trie_Trie_Lookup : AF := (AF.mk 58 [(4, (.some (.some 3))), (5, .none)] (.seq (.reg .false [⟨.some 4,.box (.k (.agg [(.d (.int .u32 0)), (.d (.int .i64 0)), (.d (.int .i64 0))])),.none⟩,⟨.some 5,.mv (.k (.c (.d (.bool .false)))),.none⟩]) (.seq (.reg .false [⟨.some 6,.box (.k (.agg [(.d (.int .u32 0)), (.d (.int .i64 0)), (.d (.int .i64 0))])),.none⟩]) (.seq (.reg .false [⟨.some 7,.mv (.k (.c (.d (.bool .false)))),.none⟩]) (.seq (.seq (.reg .false [⟨.some 9,.mv (.t 0),.none⟩,⟨.some 10,.isnil 1 .false (.t 9),.none⟩]) (.cond (.t 10) (.seq (.reg .false [⟨.some 11,.ld (.t 6) (.some 3),.none⟩,⟨.some 12,.mv (.t 7),.none⟩,⟨.none,.st (.t 4) (.t 11) 3,.none⟩,⟨.some 5,.mv (.t 12),.none⟩]) .ret) .skip)) (.seq (.reg .false [⟨.some 13,.mv (.t 0),.none⟩,⟨.some 14,.nilc (.t 13),.none⟩,⟨.some 15,.fa (.t 14) 0,.none⟩,⟨.some 16,.ld (.t 15) .none,.none⟩,⟨.some 8,.mv (.t 16),.none⟩]) (.seq (.block 0 (.loop (.seq (.seq (.reg .false [⟨.some 17,.mv (.t 8),.none⟩,⟨.some 18,.isnil 1 .true (.t 17),.none⟩,⟨.some 19,.mv (.t 18),.none⟩,⟨.some 20,.mv (.t 8),.some (19, .true)⟩,⟨.some 21,.nilc (.t 20),.some (19, .true)⟩,⟨.some 22,.fa (.t 21) 0,.some (19, .true)⟩,⟨.some 23,.fa (.t 22) 0,.some (19, .true)⟩,⟨.some 24,.ld (.t 23) (.some 2),.some (19, .true)⟩,⟨.some 25,.mv (.t 1),.some (19, .true)⟩,⟨.some 26,.call 40 [(.t 24), (.t 25)],.some (19, .true)⟩,⟨.some 27,.pick (.t 19) (.t 26) (.k (.c (.d (.bool .false)))),.none⟩]) (.cond (.t 27) .skip (.exit 0))) (.block 1 (.seq (.seq (.reg .false [⟨.some 28,.mv (.t 8),.none⟩,⟨.some 29,.nilc (.t 28),.none⟩,⟨.some 30,.fa (.t 29) 3,.none⟩,⟨.some 31,.ld (.t 30) .none,.none⟩]) (.cond (.t 31) (.reg .false [⟨.some 32,.mv (.t 8),.none⟩,⟨.some 33,.nilc (.t 32),.none⟩,⟨.some 34,.fa (.t 33) 0,.none⟩,⟨.some 35,.ld (.t 34) (.some 3),.none⟩,⟨.none,.st (.t 6) (.t 35) 3,.none⟩,⟨.some 7,.mv (.k (.c (.d (.bool .true)))),.none⟩]) .skip)) (.seq (.seq (.reg .false [⟨.some 36,.mv (.t 8),.none⟩,⟨.some 37,.nilc (.t 36),.none⟩,⟨.some 38,.fa (.t 37) 0,.none⟩,⟨.some 39,.fa (.t 38) 0,.none⟩,⟨.some 40,.fa (.t 39) 1,.none⟩,⟨.some 41,.ld (.t 40) .none,.none⟩,⟨.some 42,.bin .eql (.t 41) (.k (.c (.d (.int .i64 32)))),.none⟩]) (.cond (.t 42) (.exit 0) .skip)) (.reg .true [⟨.some 43,.mv (.t 8),.none⟩,⟨.some 44,.mv (.t 1),.none⟩,⟨.some 45,.mv (.t 8),.none⟩,⟨.some 46,.nilc (.t 45),.none⟩,⟨.some 47,.fa (.t 46) 0,.none⟩,⟨.some 48,.fa (.t 47) 0,.none⟩,⟨.some 49,.fa (.t 48) 1,.none⟩,⟨.some 50,.ld (.t 49) .none,.none⟩,⟨.some 51,.call 41 [(.t 44), (.t 50)],.none⟩,⟨.some 52,.nilc (.t 43),.none⟩,⟨.some 53,.fa (.t 52) 4,.none⟩,⟨.some 54,.iaa 2 1 (.t 53) (.t 51),.none⟩,⟨.some 55,.ld (.t 54) .none,.none⟩,⟨.some 8,.mv (.t 55),.none⟩]))))))) (.seq (.reg .false [⟨.some 56,.ld (.t 6) (.some 3),.none⟩,⟨.some 57,.mv (.t 7),.none⟩,⟨.none,.st (.t 4) (.t 56) 3,.none⟩,⟨.some 5,.mv (.t 57),.none⟩]) .ret))))))))
abbrev n_trie_Trie_Lookup : Nat := 21
theorem fn_trie_Trie_Lookup : Try.prog.funcs[n_trie_Trie_Lookup]? = some Try.f21 := Try.func21
theorem c_trie_Trie_Lookup : compF Try.prog Try.f21 = some af_trie_Trie_Lookup := by kernel_rfl
def af_trie_Trie_Len : AF := (AF.mk 10 [(2, .none)] (.seq (.reg .false [⟨.some 2,.mv (.k (.c (.d (.int .i64 0)))),.none⟩]) (.seq (.reg .false [⟨.some 3,.box (.k (.c (.d (.int .i64 0)))),.none⟩,⟨.none,.st (.t 3) (.k (.c (.d (.int .i64 0)))) 1,.none⟩]) (.seq (.seq (.reg .false [⟨.some 4,.mv (.t 0),.none⟩,⟨.some 5,.call 42 [(.t 4)],.none⟩]) (.block 0 (.rfn (.t 5) 6 .skip (.block 1 (.reg .false [⟨.some 7,.ld (.t 3) .none,.none⟩,⟨.some 8,.bin .add (.t 7) (.k (.c (.d (.int .i64 1)))),.none⟩,⟨.none,.st (.t 3) (.t 8) 1,.none⟩]))))) (.seq (.reg .false [⟨.some 9,.ld (.t 3) .none,.none⟩,⟨.some 2,.mv (.t 9),.none⟩]) .ret)))))
abbrev n_trie_Trie_Len : Nat := 22
theorem fn_trie_Trie_Len : Try.prog.funcs[n_trie_Trie_Len]? = some Try.f22 := Try.func22
theorem c_trie_Trie_Len : compF Try.prog Try.f22 = some af_trie_Trie_Len := by kernel_rfl
def af_law06_route : AF := (AF.mk 20 [(8, (.some (.some 3)))] (.seq (.reg .false [⟨.some 8,.box (.k (.agg [(.d (.int .u32 0)), (.d (.int .i64 0)), (.d (.int .i64 0))])),.none⟩]) (.seq (.reg .false [⟨.some 9,.mv (.t 0),.none⟩,⟨.some 10,.cvi .u32 (.t 9),.none⟩,⟨.some 11,.bin .shl (.t 10) (.k (.c (.d (.int .u64 24)))),.none⟩,⟨.some 12,.mv (.t 1),.none⟩,⟨.some 13,.cvi .u32 (.t 12),.none⟩,⟨.some 14,.bin .shl (.t 13) (.k (.c (.d (.int .u64 16)))),.none⟩,⟨.some 15,.bin .or (.t 11) (.t 14),.none⟩,⟨.some 16,.mv (.t 2),.none⟩,⟨.some 17,.build [(.d (.int .u32 0)), (.d (.int .i64 0))] [(0, (1, (.t 15))), (1, (1, (.t 16)))],.none⟩,⟨.some 18,.mv (.t 3),.none⟩,⟨.some 19,.build [(.d (.int .u32 0)), (.d (.int .i64 0)), (.d (.int .i64 0))] [(0, (2, (.t 17))), (2, (1, (.t 18)))],.none⟩,⟨.none,.st (.t 8) (.t 19) 3,.none⟩]) .ret)))
abbrev n_law06_route : Nat := 24
theorem fn_law06_route : Try.prog.funcs[n_law06_route]? = some Try.f24 := Try.func24
theorem c_law06_route : compF Try.prog Try.f24 = some af_law06_route := by kernel_rfl
def af_compress_valid : AF := (AF.mk 32 [(2, .none)] (.seq (.reg .false [⟨.some 2,.mv (.k (.c (.d (.bool .false)))),.none⟩]) (.seq (.reg .false [⟨.some 6,.mo .mkm [],.none⟩,⟨.some 3,.mv (.t 6),.none⟩]) (.seq (.seq (.reg .false [⟨.some 7,.mv (.t 0),.none⟩,⟨.some 8,.len (.t 7),.none⟩,⟨.some 9,.mv (.k (.c (.d (.int .i64 0)))),.none⟩]) (.block 0 (.loop (.seq (.reg .false [⟨.some 10,.bin .lss (.t 9) (.t 8),.none⟩]) (.seq (.cond (.t 10) .skip (.exit 0)) (.seq (.block 1 (.seq (.reg .false [⟨.some 11,.ias 3 (.t 7) (.t 9),.none⟩,⟨.some 12,.ld (.t 11) (.some 3),.none⟩,⟨.some 5,.box (.k (.agg [(.d (.int .u32 0)), (.d (.int .i64 0)), (.d (.int .i64 0))])),.none⟩,⟨.none,.st (.t 5) (.t 12) 3,.none⟩]) (.seq (.seq (.reg .false [⟨.some 13,.fa (.t 5) 0,.none⟩,⟨.some 14,.ld (.t 13) (.some 2),.none⟩,⟨.some 15,.call 38 [(.t 14)],.none⟩,⟨.some 16,.un .not (.t 15),.none⟩,⟨.some 17,.mv (.t 16),.none⟩,⟨.some 18,.mv (.t 3),.some (17, .false)⟩,⟨.some 19,.fa (.t 5) 0,.some (17, .false)⟩,⟨.some 20,.ld (.t 19) (.some 2),.some (17, .false)⟩,⟨.some 21,.mo (.lk .false 2 [(0, 0), (1, 0)] .false (.c (.d (.bool .false)))) [(.t 18), (.t 20)],.some (17, .false)⟩,⟨.some 22,.pick (.t 17) (.k (.c (.d (.bool .true)))) (.t 21),.none⟩,⟨.some 23,.mv (.t 22),.none⟩,⟨.some 24,.fa (.t 5) 2,.some (23, .false)⟩,⟨.some 25,.ld (.t 24) .none,.some (23, .false)⟩,⟨.some 26,.bin .lss (.t 25) (.k (.c (.d (.int .i64 0)))),.some (23, .false)⟩,⟨.some 27,.pick (.t 23) (.k (.c (.d (.bool .true)))) (.t 26),.none⟩]) (.cond (.t 27) (.seq (.reg .false [⟨.some 2,.mv (.k (.c (.d (.bool .false)))),.none⟩]) .ret) .skip)) (.reg .false [⟨.some 28,.mv (.t 3),.none⟩,⟨.some 29,.fa (.t 5) 0,.none⟩,⟨.some 30,.ld (.t 29) (.some 2),.none⟩,⟨.none,.mo (.up .false 2 [(0, 0), (1, 0)]) [(.t 28), (.t 30), (.k (.c (.d (.bool .true))))],.none⟩])))) (.reg .false [⟨.some 31,.bin .add (.t 9) (.k (.c (.d (.int .i64 1)))),.none⟩,⟨.some 9,.mv (.t 31),.none⟩]))))))) (.seq (.reg .false [⟨.some 2,.mv (.k (.c (.d (.bool .true)))),.none⟩]) .ret)))))
abbrev n_compress_valid : Nat := 25
theorem fn_compress_valid : Try.prog.funcs[n_compress_valid]? = some Try.f25 := Try.func25
theorem c_compress_valid : compF Try.prog Try.f25 = some af_compress_valid := by kernel_rfl
def af_slices_Clone_api_Route_api_Route : AF := (AF.mk 8 [(2, .none)] (.seq (.reg .false [⟨.some 2,.mv (.k (.c (.d (.list .true 3 [])))),.none⟩]) (.seq (.seq (.reg .false [⟨.some 3,.mv (.t 0),.none⟩,⟨.some 4,.isnil 0 .false (.t 3),.none⟩]) (.cond (.t 4) (.seq (.reg .false [⟨.some 2,.mv (.k (.c (.d (.list .true 3 [])))),.none⟩]) .ret) .skip)) (.seq (.reg .false [⟨.some 5,.bsl 3 [(.int .u32 0), (.int .i64 0), (.int .i64 0)] 0 [],.none⟩,⟨.some 6,.mv (.t 0),.none⟩,⟨.some 7,.app 3 24 [(.int .u32 0), (.int .i64 0), (.int .i64 0)] (.t 5) (.t 6),.none⟩,⟨.some 2,.mv (.t 7),.none⟩]) .ret))))
abbrev n_slices_Clone_api_Route_api_Route : Nat := 26
theorem fn_slices_Clone_api_Route_api_Route : Try.prog.funcs[n_slices_Clone_api_Route_api_Route]? = some Try.f26 := Try.func26
theorem c_slices_Clone_api_Route_api_Route : compF Try.prog Try.f26 = some af_slices_Clone_api_Route_api_Route := by kernel_rfl
abbrev n_slices_SortFunc_api_Route_api_Route : Nat := 27
theorem fn_slices_SortFunc_api_Route_api_Route : Try.prog.funcs[n_slices_SortFunc_api_Route_api_Route]? = some Try.f27 := Try.func27
def af_compress_Compress_1 : AF := (AF.mk 10 [(4, .none)] (.seq (.reg .false [⟨.some 2,.box (.t 0),.none⟩,⟨.some 3,.box (.t 1),.none⟩,⟨.some 4,.mv (.k (.c (.d (.int .i64 0)))),.none⟩]) (.seq (.reg .false [⟨.some 5,.fa (.t 2) 0,.none⟩,⟨.some 6,.ld (.t 5) (.some 2),.none⟩,⟨.some 7,.fa (.t 3) 0,.none⟩,⟨.some 8,.ld (.t 7) (.some 2),.none⟩,⟨.some 9,.call 29 [(.t 6), (.t 8)],.none⟩,⟨.some 4,.mv (.t 9),.none⟩]) .ret)))
abbrev n_compress_Compress_1 : Nat := 28
theorem fn_compress_Compress_1 : Try.prog.funcs[n_compress_Compress_1]? = some Try.f28 := Try.func28
theorem c_compress_Compress_1 : compF Try.prog Try.f28 = some af_compress_Compress_1 := by kernel_rfl
def af_prefix_Compare : AF := (AF.mk 17 [(4, .none)] (.seq (.reg .false [⟨.some 2,.box (.t 0),.none⟩,⟨.some 3,.box (.t 1),.none⟩,⟨.some 4,.mv (.k (.c (.d (.int .i64 0)))),.none⟩]) (.seq (.seq (.reg .true [⟨.some 5,.fa (.t 2) 0,.none⟩,⟨.some 6,.ld (.t 5) .none,.none⟩,⟨.some 7,.fa (.t 3) 0,.none⟩,⟨.some 8,.ld (.t 7) .none,.none⟩,⟨.some 9,.call 48 [(.t 6), (.t 8)],.none⟩,⟨.some 10,.fa (.t 2) 1,.none⟩,⟨.some 11,.ld (.t 10) .none,.none⟩,⟨.some 12,.fa (.t 3) 1,.none⟩,⟨.some 13,.ld (.t 12) .none,.none⟩]) (.seq (.reg .false [⟨.some 14,.call 49 [(.t 11), (.t 13)],.none⟩]) (.seq (.reg .true [⟨.some 15,.bsl 1 [(.int .i64 0)] 2 [(0, (.t 9)), (1, (.t 14))],.none⟩]) (.seq (.reg .false [⟨.some 16,.call 47 [(.t 15)],.none⟩]) (.reg .true [⟨.some 4,.mv (.t 16),.none⟩]))))) .ret)))
abbrev n_prefix_Compare : Nat := 29
theorem fn_prefix_Compare : Try.prog.funcs[n_prefix_Compare]? = some Try.f29 := Try.func29
theorem c_prefix_Compare : compF Try.prog Try.f29 = some af_prefix_Compare := by kernel_rfl
def af_compress_divide : AF := (AF.mk 100 [(6, .none)] (.seq (.reg .false [⟨.some 3,.box (.t 0),.none⟩,⟨.some 6,.mv (.k (.c (.d .nilp))),.none⟩]) (.seq (.seq (.reg .true [⟨.some 12,.mv (.t 2),.none⟩,⟨.some 13,.len (.t 12),.none⟩,⟨.some 14,.bin .gtr (.t 13) (.k (.c (.d (.int .i64 0)))),.none⟩,⟨.some 15,.mv (.t 14),.none⟩,⟨.some 16,.mv (.t 2),.some (15, .true)⟩,⟨.some 17,.ias 3 (.t 16) (.k (.c (.d (.int .i64 0)))),.some (15, .true)⟩,⟨.some 18,.fa (.t 17) 0,.some (15, .true)⟩,⟨.some 19,.ld (.t 18) (.some 2),.some (15, .true)⟩,⟨.some 20,.ld (.t 3) (.some 2),.some (15, .true)⟩,⟨.some 21,.eqa .false 2 [(0, 0), (1, 0)] (.t 19) (.t 20),.some (15, .true)⟩,⟨.some 22,.pick (.t 15) (.t 21) (.k (.c (.d (.bool .false)))),.none⟩]) (.cond (.t 22) (.seq (.reg .false [⟨.some 23,.mv (.t 2),.none⟩,⟨.some 24,.ias 3 (.t 23) (.k (.c (.d (.int .i64 0)))),.none⟩,⟨.some 25,.fa (.t 24) 2,.none⟩,⟨.some 26,.ld (.t 25) .none,.none⟩,⟨.some 1,.mv (.t 26),.none⟩]) (.reg .false [⟨.some 27,.mv (.t 2),.none⟩,⟨.some 28,.sl 3 (.t 27) (.some (.k (.c (.d (.int .i64 1))))) .none .none,.none⟩,⟨.some 2,.mv (.t 28),.none⟩])) .skip)) (.seq (.reg .false [⟨.some 29,.ld (.t 3) (.some 2),.none⟩,⟨.some 30,.build [(.d (.int .u32 0)), (.d (.int .i64 0)), (.d .nilp), (.d .nilp), (.d .nilm)] [(0, (2, (.t 29)))],.none⟩,⟨.some 31,.box (.t 30),.none⟩,⟨.some 7,.mv (.t 31),.none⟩]) (.seq (.seq (.reg .false [⟨.some 32,.mv (.t 2),.none⟩,⟨.some 33,.len (.t 32),.none⟩,⟨.some 34,.bin .eql (.t 33) (.k (.c (.d (.int .i64 0)))),.none⟩]) (.cond (.t 34) (.seq (.reg .false [⟨.some 35,.mv (.t 7),.none⟩,⟨.some 36,.mo .mkm [],.none⟩,⟨.some 37,.mv (.t 1),.none⟩,⟨.none,.mo (.up .true 1 [(0, 0)]) [(.t 36), (.t 37), (.k (.c (.d (.bool .true))))],.none⟩,⟨.some 38,.mv (.t 36),.none⟩,⟨.some 39,.nilc (.t 35),.none⟩,⟨.some 40,.fa (.t 39) 4,.none⟩,⟨.none,.st (.t 40) (.t 38) 1,.none⟩]) (.seq (.reg .false [⟨.some 41,.mv (.t 7),.none⟩,⟨.some 6,.mv (.t 41),.none⟩]) .ret)) .skip)) (.seq (.reg .false [⟨.some 43,.ld (.t 3) (.some 2),.none⟩,⟨.some 44,.call 50 [(.t 43)],.none⟩,⟨.some 42,.mv (.t 44),.none⟩,⟨.some 45,.ext (.t 42) 0,.none⟩,⟨.some 46,.ext (.t 42) 1,.none⟩,⟨.some 47,.ext (.t 42) 2,.none⟩,⟨.some 8,.box (.k (.agg [(.d (.int .u32 0)), (.d (.int .i64 0))])),.none⟩,⟨.some 9,.box (.k (.agg [(.d (.int .u32 0)), (.d (.int .i64 0))])),.none⟩,⟨.none,.st (.t 8) (.t 45) 2,.none⟩,⟨.none,.st (.t 9) (.t 46) 2,.none⟩,⟨.some 10,.mv (.t 47),.none⟩]) (.seq (.reg .false [⟨.some 11,.mv (.k (.c (.d (.int .i64 0)))),.none⟩]) (.seq (.block 0 (.loop (.seq (.seq (.seq (.reg .true [⟨.some 48,.mv (.t 11),.none⟩,⟨.some 49,.mv (.t 2),.none⟩,⟨.some 50,.len (.t 49),.none⟩,⟨.some 51,.bin .lss (.t 48) (.t 50),.none⟩,⟨.some 52,.mv (.t 51),.none⟩,⟨.some 53,.ld (.t 8) (.some 2),.some (52, .true)⟩,⟨.some 54,.mv (.t 2),.some (52, .true)⟩,⟨.some 55,.mv (.t 11),.some (52, .true)⟩,⟨.some 56,.ias 3 (.t 54) (.t 55),.some (52, .true)⟩,⟨.some 57,.fa (.t 56) 0,.some (52, .true)⟩,⟨.some 58,.ld (.t 57) (.some 2),.some (52, .true)⟩]) (.seq (.reg .false [⟨.some 59,.call 51 [(.t 53), (.t 58)],.some (52, .true)⟩]) (.reg .true [⟨.some 60,.pick (.t 52) (.t 59) (.k (.c (.d (.bool .false)))),.none⟩]))) (.cond (.t 60) .skip (.exit 0))) (.block 1 (.reg .false [⟨.some 61,.mv (.t 11),.none⟩,⟨.some 62,.bin .add (.t 61) (.k (.c (.d (.int .i64 1)))),.none⟩,⟨.some 11,.mv (.t 62),.none⟩]))))) (.seq (.reg .true [⟨.some 63,.mv (.t 7),.none⟩,⟨.some 64,.ld (.t 8) (.some 2),.none⟩,⟨.some 65,.mv (.t 1),.none⟩,⟨.some 66,.mv (.t 2),.none⟩,⟨.some 67,.mv (.t 11),.none⟩,⟨.some 68,.sl 3 (.t 66) .none (.some (.t 67)) .none,.none⟩,⟨.some 69,.call 30 [(.t 64), (.t 65), (.t 68)],.none⟩,⟨.some 70,.ld (.t 9) (.some 2),.none⟩,⟨.some 71,.mv (.t 1),.none⟩,⟨.some 72,.mv (.t 2),.none⟩,⟨.some 73,.mv (.t 11),.none⟩,⟨.some 74,.sl 3 (.t 72) (.some (.t 73)) .none .none,.none⟩,⟨.some 75,.call 30 [(.t 70), (.t 71), (.t 74)],.none⟩,⟨.some 76,.build [(.d .nilp), (.d .nilp)] [(0, (1, (.t 69))), (1, (1, (.t 75)))],.none⟩,⟨.some 77,.nilc (.t 63),.none⟩,⟨.some 78,.fa (.t 77) 2,.none⟩,⟨.none,.st (.t 78) (.t 76) 2,.none⟩]) (.seq (.reg .true [⟨.some 79,.mv (.t 7),.none⟩,⟨.some 80,.mv (.t 7),.none⟩,⟨.some 81,.nilc (.t 80),.none⟩,⟨.some 82,.fa (.t 81) 2,.none⟩,⟨.some 83,.iaa 2 1 (.t 82) (.k (.c (.d (.int .i64 0)))),.none⟩,⟨.some 84,.ld (.t 83) .none,.none⟩,⟨.some 85,.nilc (.t 84),.none⟩,⟨.some 86,.fa (.t 85) 4,.none⟩,⟨.some 87,.ld (.t 86) .none,.none⟩,⟨.some 88,.mv (.t 7),.none⟩,⟨.some 89,.nilc (.t 88),.none⟩,⟨.some 90,.fa (.t 89) 2,.none⟩,⟨.some 91,.iaa 2 1 (.t 90) (.k (.c (.d (.int .i64 1)))),.none⟩,⟨.some 92,.ld (.t 91) .none,.none⟩,⟨.some 93,.nilc (.t 92),.none⟩,⟨.some 94,.fa (.t 93) 4,.none⟩,⟨.some 95,.ld (.t 94) .none,.none⟩,⟨.some 96,.call 52 [(.t 87), (.t 95)],.none⟩,⟨.some 97,.nilc (.t 79),.none⟩,⟨.some 98,.fa (.t 97) 4,.none⟩,⟨.none,.st (.t 98) (.t 96) 1,.none⟩]) (.seq (.reg .false [⟨.some 99,.mv (.t 7),.none⟩,⟨.some 6,.mv (.t 99),.none⟩]) .ret)))))))))))
abbrev n_compress_divide : Nat := 30
theorem fn_compress_divide : Try.prog.funcs[n_compress_divide]? = some Try.f30 := Try.func30
theorem c_compress_divide : compF Try.prog Try.f30 = some af_compress_divide := by kernel_rfl
def af_compress_part_choose : AF := (AF.mk 47 [(6, .none)] (.seq (.reg .false [⟨.some 6,.mv (.k (.c (.d (.list .true 3 [])))),.none⟩]) (.seq (.seq (.reg .false [⟨.some 9,.mv (.t 0),.none⟩,⟨.some 10,.nilc (.t 9),.none⟩,⟨.some 11,.fa (.t 10) 4,.none⟩,⟨.some 12,.ld (.t 11) .none,.none⟩,⟨.some 13,.mv (.t 1),.none⟩,⟨.some 14,.mo (.lk .true 1 [(0, 0)] .false (.c (.d (.bool .false)))) [(.t 12), (.t 13)],.none⟩,⟨.some 15,.un .not (.t 14),.none⟩]) (.cond (.t 15) (.seq (.reg .false [⟨.some 16,.mv (.t 0),.none⟩,⟨.some 17,.nilc (.t 16),.none⟩,⟨.some 18,.fa (.t 17) 4,.none⟩,⟨.some 19,.ld (.t 18) .none,.none⟩,⟨.some 20,.call 55 [(.t 19)],.none⟩,⟨.some 21,.call 54 [(.t 20)],.none⟩,⟨.some 22,.call 53 [(.t 21)],.none⟩,⟨.some 1,.mv (.t 22),.none⟩]) (.reg .false [⟨.some 23,.mv (.t 2),.none⟩,⟨.some 24,.mv (.t 0),.none⟩,⟨.some 25,.nilc (.t 24),.none⟩,⟨.some 26,.fa (.t 25) 0,.none⟩,⟨.some 27,.ld (.t 26) (.some 2),.none⟩,⟨.some 28,.mv (.t 1),.none⟩,⟨.some 29,.build [(.d (.int .u32 0)), (.d (.int .i64 0)), (.d (.int .i64 0))] [(0, (2, (.t 27))), (2, (1, (.t 28)))],.none⟩,⟨.some 30,.bsl 3 [(.int .u32 0), (.int .i64 0), (.int .i64 0)] 1 [(0, (.t 29))],.none⟩,⟨.some 31,.app 3 24 [(.int .u32 0), (.int .i64 0), (.int .i64 0)] (.t 23) (.t 30),.none⟩,⟨.some 2,.mv (.t 31),.none⟩])) .skip)) (.seq (.seq (.reg .false [⟨.some 32,.mv (.t 0),.none⟩,⟨.some 33,.nilc (.t 32),.none⟩,⟨.some 34,.fa (.t 33) 2,.none⟩,⟨.some 35,.ld (.t 34) (.some 2),.none⟩,⟨.some 36,.mv (.k (.c (.d (.int .i64 0)))),.none⟩]) (.block 0 (.loop (.seq (.reg .false [⟨.some 37,.bin .lss (.t 36) (.k (.c (.d (.int .i64 2)))),.none⟩]) (.seq (.cond (.t 37) .skip (.exit 0)) (.seq (.block 1 (.seq (.reg .false [⟨.some 38,.ixa 2 1 .false (.t 35) (.t 36),.none⟩,⟨.some 8,.mv (.t 38),.none⟩]) (.seq (.reg .false [⟨.some 39,.mv (.t 8),.none⟩,⟨.some 40,.isnil 1 .true (.t 39),.none⟩]) (.cond (.t 40) (.reg .false [⟨.some 41,.mv (.t 8),.none⟩,⟨.some 42,.mv (.t 1),.none⟩,⟨.some 43,.mv (.t 2),.none⟩,⟨.some 44,.call 31 [(.t 41), (.t 42), (.t 43)],.none⟩,⟨.some 2,.mv (.t 44),.none⟩]) .skip)))) (.reg .false [⟨.some 45,.bin .add (.t 36) (.k (.c (.d (.int .i64 1)))),.none⟩,⟨.some 36,.mv (.t 45),.none⟩]))))))) (.seq (.reg .false [⟨.some 46,.mv (.t 2),.none⟩,⟨.some 6,.mv (.t 46),.none⟩]) .ret)))))
abbrev n_compress_part_choose : Nat := 31
theorem fn_compress_part_choose : Try.prog.funcs[n_compress_part_choose]? = some Try.f31 := Try.func31
theorem c_compress_part_choose : compF Try.prog Try.f31 = some af_compress_part_choose := by kernel_rfl
def af_ref04_Valid : AF := (AF.mk 22 [(2, .none)] (.seq (.reg .false [⟨.some 1,.box (.t 0),.none⟩,⟨.some 2,.mv (.k (.c (.d (.bool .false)))),.none⟩]) (.seq (.reg .true [⟨.some 3,.fa (.t 1) 1,.none⟩,⟨.some 4,.ld (.t 3) .none,.none⟩,⟨.some 5,.bin .geq (.t 4) (.k (.c (.d (.int .i64 0)))),.none⟩,⟨.some 6,.mv (.t 5),.none⟩,⟨.some 7,.fa (.t 1) 1,.some (6, .true)⟩,⟨.some 8,.ld (.t 7) .none,.some (6, .true)⟩,⟨.some 9,.bin .leq (.t 8) (.k (.c (.d (.int .i64 32)))),.some (6, .true)⟩,⟨.some 10,.pick (.t 6) (.t 9) (.k (.c (.d (.bool .false)))),.none⟩,⟨.some 11,.mv (.t 10),.none⟩,⟨.some 12,.fa (.t 1) 0,.some (11, .true)⟩,⟨.some 13,.ld (.t 12) .none,.some (11, .true)⟩,⟨.some 14,.fa (.t 1) 1,.some (11, .true)⟩,⟨.some 15,.ld (.t 14) .none,.some (11, .true)⟩,⟨.some 16,.call 56 [(.t 15)],.some (11, .true)⟩,⟨.some 17,.bin .and (.t 13) (.t 16),.some (11, .true)⟩,⟨.some 18,.fa (.t 1) 0,.some (11, .true)⟩,⟨.some 19,.ld (.t 18) .none,.some (11, .true)⟩,⟨.some 20,.bin .eql (.t 17) (.t 19),.some (11, .true)⟩,⟨.some 21,.pick (.t 11) (.t 20) (.k (.c (.d (.bool .false)))),.none⟩,⟨.some 2,.mv (.t 21),.none⟩]) .ret)))
abbrev n_ref04_Valid : Nat := 32
theorem fn_ref04_Valid : Try.prog.funcs[n_ref04_Valid]? = some Try.f32 := Try.func32
theorem c_ref04_Valid : compF Try.prog Try.f32 = some af_ref04_Valid := by kernel_rfl
def af_ref05_Table_Lookup : AF := (AF.mk 44 [(4, (.some (.some 3))), (5, .none)] (.seq (.reg .false [⟨.some 4,.box (.k (.agg [(.d (.int .u32 0)), (.d (.int .i64 0)), (.d (.int .i64 0))])),.none⟩,⟨.some 5,.mv (.k (.c (.d (.bool .false)))),.none⟩]) (.seq (.reg .false [⟨.some 6,.box (.k (.agg [(.d (.int .u32 0)), (.d (.int .i64 0)), (.d (.int .i64 0))])),.none⟩]) (.seq (.reg .false [⟨.some 7,.mv (.k (.c (.d (.bool .false)))),.none⟩]) (.seq (.seq (.reg .false [⟨.some 8,.mv (.k (.c (.d (.int .i64 0)))),.none⟩]) (.block 0 (.loop (.seq (.seq (.reg .false [⟨.some 9,.mv (.t 8),.none⟩,⟨.some 10,.mv (.t 0),.none⟩,⟨.some 11,.len (.t 10),.none⟩,⟨.some 12,.bin .lss (.t 9) (.t 11),.none⟩]) (.cond (.t 12) .skip (.exit 0))) (.seq (.block 1 (.seq (.seq (.reg .true [⟨.some 15,.mv (.t 0),.none⟩,⟨.some 16,.mv (.t 8),.none⟩,⟨.some 17,.ias 3 (.t 15) (.t 16),.none⟩,⟨.some 18,.fa (.t 17) 0,.none⟩,⟨.some 19,.ld (.t 18) (.some 2),.none⟩,⟨.some 20,.mv (.t 1),.none⟩]) (.seq (.reg .false [⟨.some 21,.call 59 [(.t 19), (.t 20)],.none⟩]) (.reg .true [⟨.some 22,.mv (.t 21),.none⟩,⟨.some 23,.mv (.t 7),.some (22, .true)⟩,⟨.some 24,.un .not (.t 23),.some (22, .true)⟩,⟨.some 25,.mv (.t 24),.some (22, .true)⟩,⟨.some 26,.mv (.t 0),.some (25, .false)⟩,⟨.some 27,.mv (.t 8),.some (25, .false)⟩,⟨.some 28,.ias 3 (.t 26) (.t 27),.some (25, .false)⟩,⟨.some 29,.fa (.t 28) 0,.some (25, .false)⟩,⟨.some 30,.fa (.t 29) 1,.some (25, .false)⟩,⟨.some 31,.ld (.t 30) .none,.some (25, .false)⟩,⟨.some 32,.fa (.t 6) 0,.some (25, .false)⟩,⟨.some 33,.fa (.t 32) 1,.some (25, .false)⟩,⟨.some 34,.ld (.t 33) .none,.some (25, .false)⟩,⟨.some 35,.bin .gtr (.t 31) (.t 34),.some (25, .false)⟩,⟨.some 36,.pick (.t 25) (.k (.c (.d (.bool .true)))) (.t 35),.some (22, .true)⟩,⟨.some 37,.pick (.t 22) (.t 36) (.k (.c (.d (.bool .false)))),.none⟩]))) (.cond (.t 37) (.reg .false [⟨.some 38,.mv (.t 0),.none⟩,⟨.some 39,.mv (.t 8),.none⟩,⟨.some 40,.ias 3 (.t 38) (.t 39),.none⟩,⟨.some 41,.ld (.t 40) (.some 3),.none⟩,⟨.none,.st (.t 6) (.t 41) 3,.none⟩,⟨.some 7,.mv (.k (.c (.d (.bool .true)))),.none⟩]) .skip))) (.reg .false [⟨.some 13,.mv (.t 8),.none⟩,⟨.some 14,.bin .add (.t 13) (.k (.c (.d (.int .i64 1)))),.none⟩,⟨.some 8,.mv (.t 14),.none⟩])))))) (.seq (.reg .false [⟨.some 42,.ld (.t 6) (.some 3),.none⟩,⟨.some 43,.mv (.t 7),.none⟩,⟨.none,.st (.t 4) (.t 42) 3,.none⟩,⟨.some 5,.mv (.t 43),.none⟩]) .ret))))))
abbrev n_ref05_Table_Lookup : Nat := 36
theorem fn_ref05_Table_Lookup : Try.prog.funcs[n_ref05_Table_Lookup]? = some Try.f36 := Try.func36
theorem c_ref05_Table_Lookup : compF Try.prog Try.f36 = some af_ref05_Table_Lookup := by kernel_rfl
def af_prefix_Valid : AF := (AF.mk 20 [(2, .none)] (.seq (.reg .false [⟨.some 1,.box (.t 0),.none⟩,⟨.some 2,.mv (.k (.c (.d (.bool .false)))),.none⟩]) (.seq (.reg .true [⟨.some 3,.fa (.t 1) 1,.none⟩,⟨.some 4,.ld (.t 3) .none,.none⟩,⟨.some 5,.bin .geq (.t 4) (.k (.c (.d (.int .i64 0)))),.none⟩,⟨.some 6,.mv (.t 5),.none⟩,⟨.some 7,.fa (.t 1) 1,.some (6, .true)⟩,⟨.some 8,.ld (.t 7) .none,.some (6, .true)⟩,⟨.some 9,.bin .leq (.t 8) (.k (.c (.d (.int .i64 32)))),.some (6, .true)⟩,⟨.some 10,.pick (.t 6) (.t 9) (.k (.c (.d (.bool .false)))),.none⟩,⟨.some 11,.mv (.t 10),.none⟩,⟨.some 12,.fa (.t 1) 0,.some (11, .true)⟩,⟨.some 13,.ld (.t 12) .none,.some (11, .true)⟩,⟨.some 14,.fa (.t 1) 1,.some (11, .true)⟩,⟨.some 15,.ld (.t 14) .none,.some (11, .true)⟩,⟨.some 16,.call 60 [(.t 15)],.some (11, .true)⟩,⟨.some 17,.bin .andNot (.t 13) (.t 16),.some (11, .true)⟩,⟨.some 18,.bin .eql (.t 17) (.k (.c (.d (.int .u32 0)))),.some (11, .true)⟩,⟨.some 19,.pick (.t 11) (.t 18) (.k (.c (.d (.bool .false)))),.none⟩,⟨.some 2,.mv (.t 19),.none⟩]) .ret)))
abbrev n_prefix_Valid : Nat := 38
theorem fn_prefix_Valid : Try.prog.funcs[n_prefix_Valid]? = some Try.f38 := Try.func38
theorem c_prefix_Valid : compF Try.prog Try.f38 = some af_prefix_Valid := by kernel_rfl
def af_trie_node_put : AF := (AF.mk 145 [(4, .none)] (.seq (.reg .false [⟨.some 3,.box (.t 1),.none⟩,⟨.some 4,.mv (.k (.c (.d .nilp))),.none⟩]) (.seq (.block 0 (.seq (.reg .false [⟨.some 11,.mv (.t 0),.none⟩,⟨.some 12,.isnil 1 .false (.t 11),.none⟩,⟨.some 10,.mv (.t 12),.none⟩]) (.cond (.t 10) (.seq (.reg .false [⟨.some 13,.ld (.t 3) (.some 3),.none⟩,⟨.some 14,.build [(.d (.int .u32 0)), (.d (.int .i64 0)), (.d (.int .i64 0)), (.d (.bool .false)), (.d .nilp), (.d .nilp)] [(0, (3, (.t 13))), (3, (1, (.k (.c (.d (.bool .true))))))],.none⟩,⟨.some 15,.box (.t 14),.none⟩,⟨.some 4,.mv (.t 15),.none⟩]) .ret) (.seq (.reg .true [⟨.some 17,.mv (.t 0),.none⟩,⟨.some 18,.nilc (.t 17),.none⟩,⟨.some 19,.fa (.t 18) 0,.none⟩,⟨.some 20,.fa (.t 19) 0,.none⟩,⟨.some 21,.ld (.t 20) (.some 2),.none⟩,⟨.some 22,.fa (.t 3) 0,.none⟩,⟨.some 23,.ld (.t 22) (.some 2),.none⟩,⟨.some 24,.eqa .false 2 [(0, 0), (1, 0)] (.t 21) (.t 23),.none⟩,⟨.some 16,.mv (.t 24),.none⟩]) (.cond (.t 16) (.seq (.reg .false [⟨.some 25,.mv (.t 0),.none⟩,⟨.some 26,.mv (.t 0),.none⟩,⟨.some 27,.ld (.t 3) (.some 3),.none⟩,⟨.some 28,.nilc (.t 25),.none⟩,⟨.some 29,.fa (.t 28) 0,.none⟩,⟨.none,.st (.t 29) (.t 27) 3,.none⟩,⟨.some 30,.nilc (.t 26),.none⟩,⟨.some 31,.fa (.t 30) 3,.none⟩,⟨.none,.st (.t 31) (.k (.c (.d (.bool .true)))) 1,.none⟩]) (.seq (.reg .false [⟨.some 32,.mv (.t 0),.none⟩,⟨.some 4,.mv (.t 32),.none⟩]) .ret)) (.seq (.seq (.reg .true [⟨.some 34,.mv (.t 0),.none⟩,⟨.some 35,.nilc (.t 34),.none⟩,⟨.some 36,.fa (.t 35) 0,.none⟩,⟨.some 37,.fa (.t 36) 0,.none⟩,⟨.some 38,.ld (.t 37) (.some 2),.none⟩,⟨.some 39,.fa (.t 3) 0,.none⟩,⟨.some 40,.ld (.t 39) (.some 2),.none⟩]) (.seq (.reg .false [⟨.some 41,.call 51 [(.t 38), (.t 40)],.none⟩]) (.reg .true [⟨.some 33,.mv (.t 41),.none⟩]))) (.cond (.t 33) (.seq (.seq (.reg .true [⟨.some 42,.fa (.t 3) 0,.none⟩,⟨.some 43,.fa (.t 42) 0,.none⟩,⟨.some 44,.ld (.t 43) .none,.none⟩,⟨.some 45,.mv (.t 0),.none⟩,⟨.some 46,.nilc (.t 45),.none⟩,⟨.some 47,.fa (.t 46) 0,.none⟩,⟨.some 48,.fa (.t 47) 0,.none⟩,⟨.some 49,.fa (.t 48) 1,.none⟩,⟨.some 50,.ld (.t 49) .none,.none⟩]) (.seq (.reg .false [⟨.some 51,.call 41 [(.t 44), (.t 50)],.none⟩]) (.reg .true [⟨.some 5,.mv (.t 51),.none⟩]))) (.seq (.rgc [⟨.some 52,.mv (.t 0),.none⟩,⟨.some 53,.mv (.t 5),.none⟩,⟨.some 54,.mv (.t 0),.none⟩,⟨.some 55,.mv (.t 5),.none⟩,⟨.some 56,.nilc (.t 54),.none⟩,⟨.some 57,.fa (.t 56) 4,.none⟩,⟨.some 58,.iaa 2 1 (.t 57) (.t 55),.none⟩,⟨.some 59,.ld (.t 58) .none,.none⟩,⟨.some 60,.ld (.t 3) (.some 3),.none⟩,⟨.some 62,.nilc (.t 52),.none⟩,⟨.some 63,.fa (.t 62) 4,.none⟩] [⟨.some 61,.call 39 [(.t 59), (.t 60)],.none⟩,⟨.some 64,.iaa 2 1 (.t 63) (.t 53),.none⟩,⟨.none,.st (.t 64) (.t 61) 1,.none⟩] [[(52, .false), (62, .false)], [], []]) (.seq (.reg .false [⟨.some 65,.mv (.t 0),.none⟩,⟨.some 4,.mv (.t 65),.none⟩]) .ret))) .skip))))))) (.seq (.reg .false [⟨.some 66,.ld (.t 3) (.some 3),.none⟩,⟨.some 67,.build [(.d (.int .u32 0)), (.d (.int .i64 0)), (.d (.int .i64 0)), (.d (.bool .false)), (.d .nilp), (.d .nilp)] [(0, (3, (.t 66))), (3, (1, (.k (.c (.d (.bool .true))))))],.none⟩,⟨.some 68,.box (.t 67),.none⟩,⟨.some 6,.mv (.t 68),.none⟩]) (.seq (.seq (.seq (.reg .true [⟨.some 69,.fa (.t 3) 0,.none⟩,⟨.some 70,.ld (.t 69) (.some 2),.none⟩,⟨.some 71,.mv (.t 0),.none⟩,⟨.some 72,.nilc (.t 71),.none⟩,⟨.some 73,.fa (.t 72) 0,.none⟩,⟨.some 74,.fa (.t 73) 0,.none⟩,⟨.some 75,.ld (.t 74) (.some 2),.none⟩]) (.seq (.reg .false [⟨.some 76,.call 51 [(.t 70), (.t 75)],.none⟩]) (.reg .true []))) (.cond (.t 76) (.seq (.reg .true [⟨.some 77,.mv (.t 6),.none⟩,⟨.some 78,.mv (.t 0),.none⟩,⟨.some 79,.nilc (.t 78),.none⟩,⟨.some 80,.fa (.t 79) 0,.none⟩,⟨.some 81,.fa (.t 80) 0,.none⟩,⟨.some 82,.fa (.t 81) 0,.none⟩,⟨.some 83,.ld (.t 82) .none,.none⟩,⟨.some 84,.fa (.t 3) 0,.none⟩,⟨.some 85,.fa (.t 84) 1,.none⟩,⟨.some 86,.ld (.t 85) .none,.none⟩,⟨.some 87,.call 41 [(.t 83), (.t 86)],.none⟩,⟨.some 88,.mv (.t 0),.none⟩,⟨.some 89,.nilc (.t 77),.none⟩,⟨.some 90,.fa (.t 89) 4,.none⟩,⟨.some 91,.iaa 2 1 (.t 90) (.t 87),.none⟩,⟨.none,.st (.t 91) (.t 88) 1,.none⟩]) (.seq (.reg .false [⟨.some 92,.mv (.t 6),.none⟩,⟨.some 4,.mv (.t 92),.none⟩]) .ret)) .skip)) (.seq (.seq (.reg .true [⟨.some 93,.fa (.t 3) 0,.none⟩,⟨.some 94,.fa (.t 93) 0,.none⟩,⟨.some 95,.ld (.t 94) .none,.none⟩,⟨.some 96,.mv (.t 0),.none⟩,⟨.some 97,.nilc (.t 96),.none⟩,⟨.some 98,.fa (.t 97) 0,.none⟩,⟨.some 99,.fa (.t 98) 0,.none⟩,⟨.some 100,.fa (.t 99) 0,.none⟩,⟨.some 101,.ld (.t 100) .none,.none⟩,⟨.some 102,.bin .xor (.t 95) (.t 101),.none⟩]) (.seq (.reg .false [⟨.some 103,.call 61 [(.t 102)],.none⟩]) (.reg .true [⟨.some 7,.mv (.t 103),.none⟩]))) (.seq (.reg .false [⟨.some 104,.fa (.t 3) 0,.none⟩,⟨.some 105,.fa (.t 104) 0,.none⟩,⟨.some 106,.ld (.t 105) .none,.none⟩,⟨.some 107,.build [(.d (.int .u32 0)), (.d (.int .i64 0))] [(0, (1, (.t 106))), (1, (1, (.k (.c (.d (.int .i64 32))))))],.none⟩,⟨.some 8,.box (.k (.agg [(.d (.int .u32 0)), (.d (.int .i64 0))])),.none⟩,⟨.none,.st (.t 8) (.t 107) 2,.none⟩]) (.seq (.block 1 (.loop (.seq (.seq (.reg .false [⟨.some 108,.fa (.t 8) 1,.none⟩,⟨.some 109,.ld (.t 108) .none,.none⟩,⟨.some 110,.mv (.t 7),.none⟩,⟨.some 111,.bin .gtr (.t 109) (.t 110),.none⟩]) (.cond (.t 111) .skip (.exit 1))) (.block 2 (.reg .false [⟨.some 113,.ld (.t 8) (.some 2),.none⟩,⟨.some 114,.call 62 [(.t 113)],.none⟩,⟨.some 112,.mv (.t 114),.none⟩,⟨.some 115,.ext (.t 112) 0,.none⟩,⟨.some 116,.ext (.t 112) 1,.none⟩,⟨.none,.st (.t 8) (.t 115) 2,.none⟩]))))) (.seq (.reg .false [⟨.some 117,.ld (.t 8) (.some 2),.none⟩,⟨.some 118,.build [(.d (.int .u32 0)), (.d (.int .i64 0)), (.d (.int .i64 0))] [(0, (2, (.t 117)))],.none⟩,⟨.some 119,.build [(.d (.int .u32 0)), (.d (.int .i64 0)), (.d (.int .i64 0)), (.d (.bool .false)), (.d .nilp), (.d .nilp)] [(0, (3, (.t 118)))],.none⟩,⟨.some 120,.box (.t 119),.none⟩,⟨.some 9,.mv (.t 120),.none⟩]) (.seq (.reg .true [⟨.some 121,.mv (.t 9),.none⟩,⟨.some 122,.fa (.t 3) 0,.none⟩,⟨.some 123,.fa (.t 122) 0,.none⟩,⟨.some 124,.ld (.t 123) .none,.none⟩,⟨.some 125,.mv (.t 7),.none⟩,⟨.some 126,.call 41 [(.t 124), (.t 125)],.none⟩,⟨.some 127,.mv (.t 6),.none⟩,⟨.some 128,.nilc (.t 121),.none⟩,⟨.some 129,.fa (.t 128) 4,.none⟩,⟨.some 130,.iaa 2 1 (.t 129) (.t 126),.none⟩,⟨.none,.st (.t 130) (.t 127) 1,.none⟩]) (.seq (.reg .true [⟨.some 131,.mv (.t 9),.none⟩,⟨.some 132,.mv (.t 0),.none⟩,⟨.some 133,.nilc (.t 132),.none⟩,⟨.some 134,.fa (.t 133) 0,.none⟩,⟨.some 135,.fa (.t 134) 0,.none⟩,⟨.some 136,.fa (.t 135) 0,.none⟩,⟨.some 137,.ld (.t 136) .none,.none⟩,⟨.some 138,.mv (.t 7),.none⟩,⟨.some 139,.call 41 [(.t 137), (.t 138)],.none⟩,⟨.some 140,.mv (.t 0),.none⟩,⟨.some 141,.nilc (.t 131),.none⟩,⟨.some 142,.fa (.t 141) 4,.none⟩,⟨.some 143,.iaa 2 1 (.t 142) (.t 139),.none⟩,⟨.none,.st (.t 143) (.t 140) 1,.none⟩]) (.seq (.reg .false [⟨.some 144,.mv (.t 9),.none⟩,⟨.some 4,.mv (.t 144),.none⟩]) .ret))))))))))))
abbrev n_trie_node_put : Nat := 39
theorem fn_trie_node_put : Try.prog.funcs[n_trie_node_put]? = some Try.f39 := Try.func39
theorem c_trie_node_put : compF Try.prog Try.f39 = some af_trie_node_put := by kernel_rfl
def af_prefix_Contains : AF := (AF.mk 17 [(4, .none)] (.seq (.reg .false [⟨.some 2,.box (.t 0),.none⟩,⟨.some 4,.mv (.k (.c (.d (.bool .false)))),.none⟩]) (.seq (.seq (.reg .true [⟨.some 5,.ld (.t 2) (.some 2),.none⟩]) (.seq (.reg .false [⟨.some 6,.call 38 [(.t 5)],.none⟩]) (.reg .true [⟨.some 7,.mv (.t 6),.none⟩,⟨.some 8,.mv (.t 1),.some (7, .true)⟩,⟨.some 9,.fa (.t 2) 1,.some (7, .true)⟩,⟨.some 10,.ld (.t 9) .none,.some (7, .true)⟩,⟨.some 11,.call 60 [(.t 10)],.some (7, .true)⟩,⟨.some 12,.bin .and (.t 8) (.t 11),.some (7, .true)⟩,⟨.some 13,.fa (.t 2) 0,.some (7, .true)⟩,⟨.some 14,.ld (.t 13) .none,.some (7, .true)⟩,⟨.some 15,.bin .eql (.t 12) (.t 14),.some (7, .true)⟩,⟨.some 16,.pick (.t 7) (.t 15) (.k (.c (.d (.bool .false)))),.none⟩,⟨.some 4,.mv (.t 16),.none⟩]))) .ret)))
abbrev n_prefix_Contains : Nat := 40
theorem fn_prefix_Contains : Try.prog.funcs[n_prefix_Contains]? = some Try.f40 := Try.func40
theorem c_prefix_Contains : compF Try.prog Try.f40 = some af_prefix_Contains := by kernel_rfl
def af_trie_branch : AF := (AF.mk 11 [(4, .none)] (.seq (.reg .false [⟨.some 4,.mv (.k (.c (.d (.int .i64 0)))),.none⟩]) (.seq (.reg .false [⟨.some 5,.mv (.t 0),.none⟩,⟨.some 6,.mv (.t 1),.none⟩,⟨.some 7,.bin .sub (.k (.c (.d (.int .i64 31)))) (.t 6),.none⟩,⟨.some 8,.bin .shr (.t 5) (.t 7),.none⟩,⟨.some 9,.bin .and (.t 8) (.k (.c (.d (.int .u32 1)))),.none⟩,⟨.some 10,.cvi .i64 (.t 9),.none⟩,⟨.some 4,.mv (.t 10),.none⟩]) .ret)))
abbrev n_trie_branch : Nat := 41
theorem fn_trie_branch : Try.prog.funcs[n_trie_branch]? = some Try.f41 := Try.func41
theorem c_trie_branch : compF Try.prog Try.f41 = some af_trie_branch := by kernel_rfl
def af_trie_Trie_All : AF := (AF.mk 4 [(2, .none)] (.seq (.reg .false [⟨.some 1,.box (.t 0),.none⟩,⟨.some 2,.mv (.k (.c (.d .nilf))),.none⟩]) (.seq (.reg .false [⟨.some 3,.mkf .false 63 [(.t 1)],.none⟩,⟨.some 2,.mv (.t 3),.none⟩]) .ret)))
abbrev n_trie_Trie_All : Nat := 42
theorem fn_trie_Trie_All : Try.prog.funcs[n_trie_Trie_All]? = some Try.f42 := Try.func42
theorem c_trie_Trie_All : compF Try.prog Try.f42 = some af_trie_Trie_All := by kernel_rfl
def af_cmp_Or_int : AF := (AF.mk 18 [(2, .none)] (.seq (.reg .false [⟨.some 2,.mv (.k (.c (.d (.int .i64 0)))),.none⟩]) (.seq (.reg .false [⟨.some 3,.mv (.k (.c (.d (.int .i64 0)))),.none⟩]) (.seq (.seq (.reg .false [⟨.some 6,.mv (.t 0),.none⟩,⟨.some 7,.len (.t 6),.none⟩,⟨.some 8,.mv (.k (.c (.d (.int .i64 0)))),.none⟩]) (.block 0 (.loop (.seq (.reg .false [⟨.some 9,.bin .lss (.t 8) (.t 7),.none⟩]) (.seq (.cond (.t 9) .skip (.exit 0)) (.seq (.block 1 (.seq (.reg .false [⟨.some 10,.ias 1 (.t 6) (.t 8),.none⟩,⟨.some 11,.ld (.t 10) .none,.none⟩,⟨.some 5,.mv (.t 11),.none⟩]) (.seq (.reg .false [⟨.some 12,.mv (.t 5),.none⟩,⟨.some 13,.mv (.t 3),.none⟩,⟨.some 14,.bin .neq (.t 12) (.t 13),.none⟩]) (.cond (.t 14) (.seq (.reg .false [⟨.some 15,.mv (.t 5),.none⟩,⟨.some 2,.mv (.t 15),.none⟩]) .ret) .skip)))) (.reg .false [⟨.some 16,.bin .add (.t 8) (.k (.c (.d (.int .i64 1)))),.none⟩,⟨.some 8,.mv (.t 16),.none⟩]))))))) (.seq (.reg .false [⟨.some 17,.mv (.t 3),.none⟩,⟨.some 2,.mv (.t 17),.none⟩]) .ret)))))
abbrev n_cmp_Or_int : Nat := 47
theorem fn_cmp_Or_int : Try.prog.funcs[n_cmp_Or_int]? = some Try.f47 := Try.func47
theorem c_cmp_Or_int : compF Try.prog Try.f47 = some af_cmp_Or_int := by kernel_rfl
def af_cmp_Compare_uint32 : AF := (AF.mk 20 [(4, .none)] (.seq (.reg .false [⟨.some 4,.mv (.k (.c (.d (.int .i64 0)))),.none⟩]) (.seq (.reg .false [⟨.some 7,.mv (.t 0),.none⟩,⟨.some 8,.call 76 [(.t 7)],.none⟩,⟨.some 5,.mv (.t 8),.none⟩]) (.seq (.reg .false [⟨.some 9,.mv (.t 1),.none⟩,⟨.some 10,.call 76 [(.t 9)],.none⟩,⟨.some 6,.mv (.t 10),.none⟩]) (.seq (.seq (.reg .false [⟨.some 11,.mv (.t 5),.none⟩]) (.cond (.t 11) (.seq (.seq (.reg .false [⟨.some 12,.mv (.t 6),.none⟩]) (.cond (.t 12) (.seq (.reg .false [⟨.some 4,.mv (.k (.c (.d (.int .i64 0)))),.none⟩]) .ret) .skip)) (.seq (.reg .false [⟨.some 4,.mv (.k (.c (.d (.int .i64 (-1))))),.none⟩]) .ret)) .skip)) (.seq (.seq (.reg .false [⟨.some 13,.mv (.t 6),.none⟩]) (.cond (.t 13) (.seq (.reg .false [⟨.some 4,.mv (.k (.c (.d (.int .i64 1)))),.none⟩]) .ret) .skip)) (.seq (.seq (.reg .false [⟨.some 14,.mv (.t 0),.none⟩,⟨.some 15,.mv (.t 1),.none⟩,⟨.some 16,.bin .lss (.t 14) (.t 15),.none⟩]) (.cond (.t 16) (.seq (.reg .false [⟨.some 4,.mv (.k (.c (.d (.int .i64 (-1))))),.none⟩]) .ret) .skip)) (.seq (.seq (.reg .false [⟨.some 17,.mv (.t 0),.none⟩,⟨.some 18,.mv (.t 1),.none⟩,⟨.some 19,.bin .gtr (.t 17) (.t 18),.none⟩]) (.cond (.t 19) (.seq (.reg .false [⟨.some 4,.mv (.k (.c (.d (.int .i64 1)))),.none⟩]) .ret) .skip)) (.seq (.reg .false [⟨.some 4,.mv (.k (.c (.d (.int .i64 0)))),.none⟩]) .ret)))))))))
abbrev n_cmp_Compare_uint32 : Nat := 48
theorem fn_cmp_Compare_uint32 : Try.prog.funcs[n_cmp_Compare_uint32]? = some Try.f48 := Try.func48
theorem c_cmp_Compare_uint32 : compF Try.prog Try.f48 = some af_cmp_Compare_uint32 := by kernel_rfl
def af_cmp_Compare_int : AF := (AF.mk 20 [(4, .none)] (.seq (.reg .false [⟨.some 4,.mv (.k (.c (.d (.int .i64 0)))),.none⟩]) (.seq (.reg .false [⟨.some 7,.mv (.t 0),.none⟩,⟨.some 8,.call 77 [(.t 7)],.none⟩,⟨.some 5,.mv (.t 8),.none⟩]) (.seq (.reg .false [⟨.some 9,.mv (.t 1),.none⟩,⟨.some 10,.call 77 [(.t 9)],.none⟩,⟨.some 6,.mv (.t 10),.none⟩]) (.seq (.seq (.reg .false [⟨.some 11,.mv (.t 5),.none⟩]) (.cond (.t 11) (.seq (.seq (.reg .false [⟨.some 12,.mv (.t 6),.none⟩]) (.cond (.t 12) (.seq (.reg .false [⟨.some 4,.mv (.k (.c (.d (.int .i64 0)))),.none⟩]) .ret) .skip)) (.seq (.reg .false [⟨.some 4,.mv (.k (.c (.d (.int .i64 (-1))))),.none⟩]) .ret)) .skip)) (.seq (.seq (.reg .false [⟨.some 13,.mv (.t 6),.none⟩]) (.cond (.t 13) (.seq (.reg .false [⟨.some 4,.mv (.k (.c (.d (.int .i64 1)))),.none⟩]) .ret) .skip)) (.seq (.seq (.reg .false [⟨.some 14,.mv (.t 0),.none⟩,⟨.some 15,.mv (.t 1),.none⟩,⟨.some 16,.bin .lss (.t 14) (.t 15),.none⟩]) (.cond (.t 16) (.seq (.reg .false [⟨.some 4,.mv (.k (.c (.d (.int .i64 (-1))))),.none⟩]) .ret) .skip)) (.seq (.seq (.reg .false [⟨.some 17,.mv (.t 0),.none⟩,⟨.some 18,.mv (.t 1),.none⟩,⟨.some 19,.bin .gtr (.t 17) (.t 18),.none⟩]) (.cond (.t 19) (.seq (.reg .false [⟨.some 4,.mv (.k (.c (.d (.int .i64 1)))),.none⟩]) .ret) .skip)) (.seq (.reg .false [⟨.some 4,.mv (.k (.c (.d (.int .i64 0)))),.none⟩]) .ret)))))))))
abbrev n_cmp_Compare_int : Nat := 49
theorem fn_cmp_Compare_int : Try.prog.funcs[n_cmp_Compare_int]? = some Try.f49 := Try.func49
theorem c_cmp_Compare_int : compF Try.prog Try.f49 = some af_cmp_Compare_int := by kernel_rfl
def af_prefix_Split : AF := (AF.mk 34 [(2, (.some (.some 2))), (3, (.some (.some 2))), (4, .none)] (.seq (.reg .false [⟨.some 1,.box (.t 0),.none⟩,⟨.some 2,.box (.k (.agg [(.d (.int .u32 0)), (.d (.int .i64 0))])),.none⟩,⟨.some 3,.box (.k (.agg [(.d (.int .u32 0)), (.d (.int .i64 0))])),.none⟩,⟨.some 4,.mv (.k (.c (.d (.int .i64 0)))),.none⟩]) (.seq (.seq (.reg .false [⟨.some 5,.ld (.t 1) (.some 2),.none⟩,⟨.some 6,.call 38 [(.t 5)],.none⟩,⟨.some 7,.un .not (.t 6),.none⟩]) (.cond (.t 7) (.seq (.reg .false [⟨.some 8,.build [(.d (.int .u32 0)), (.d (.int .i64 0))] [],.none⟩,⟨.some 9,.build [(.d (.int .u32 0)), (.d (.int .i64 0))] [],.none⟩,⟨.none,.st (.t 2) (.t 8) 2,.none⟩,⟨.none,.st (.t 3) (.t 9) 2,.none⟩,⟨.some 4,.mv (.k (.c (.d (.int .i64 1)))),.none⟩]) .ret) .skip)) (.seq (.seq (.reg .false [⟨.some 10,.fa (.t 1) 1,.none⟩,⟨.some 11,.ld (.t 10) .none,.none⟩,⟨.some 12,.bin .eql (.t 11) (.k (.c (.d (.int .i64 32)))),.none⟩]) (.cond (.t 12) (.seq (.reg .false [⟨.some 13,.build [(.d (.int .u32 0)), (.d (.int .i64 0))] [],.none⟩,⟨.some 14,.build [(.d (.int .u32 0)), (.d (.int .i64 0))] [],.none⟩,⟨.none,.st (.t 2) (.t 13) 2,.none⟩,⟨.none,.st (.t 3) (.t 14) 2,.none⟩,⟨.some 4,.mv (.k (.c (.d (.int .i64 2)))),.none⟩]) .ret) .skip)) (.seq (.reg .false [⟨.some 15,.fa (.t 1) 0,.none⟩,⟨.some 16,.ld (.t 15) .none,.none⟩,⟨.some 17,.fa (.t 1) 1,.none⟩,⟨.some 18,.ld (.t 17) .none,.none⟩,⟨.some 19,.bin .add (.t 18) (.k (.c (.d (.int .i64 1)))),.none⟩,⟨.some 20,.build [(.d (.int .u32 0)), (.d (.int .i64 0))] [(0, (1, (.t 16))), (1, (1, (.t 19)))],.none⟩,⟨.none,.st (.t 2) (.t 20) 2,.none⟩]) (.seq (.reg .true [⟨.some 21,.fa (.t 1) 0,.none⟩,⟨.some 22,.ld (.t 21) .none,.none⟩,⟨.some 23,.fa (.t 1) 1,.none⟩,⟨.some 24,.ld (.t 23) .none,.none⟩,⟨.some 25,.bin .sub (.k (.c (.d (.int .i64 31)))) (.t 24),.none⟩,⟨.some 26,.bin .shl (.k (.c (.d (.int .u32 1)))) (.t 25),.none⟩,⟨.some 27,.bin .or (.t 22) (.t 26),.none⟩,⟨.some 28,.fa (.t 1) 1,.none⟩,⟨.some 29,.ld (.t 28) .none,.none⟩,⟨.some 30,.bin .add (.t 29) (.k (.c (.d (.int .i64 1)))),.none⟩,⟨.some 31,.build [(.d (.int .u32 0)), (.d (.int .i64 0))] [(0, (1, (.t 27))), (1, (1, (.t 30)))],.none⟩,⟨.none,.st (.t 3) (.t 31) 2,.none⟩]) (.seq (.rgf [[], [], [0], [0, 1, 2], [0, 1, 2, 3]] 0 [⟨.some 32,.ld (.t 2) (.some 2),.none⟩,⟨.some 33,.ld (.t 3) (.some 2),.none⟩,⟨.none,.st (.t 2) (.t 32) 2,.none⟩,⟨.none,.st (.t 3) (.t 33) 2,.none⟩,⟨.some 4,.mv (.k (.c (.d (.int .i64 0)))),.none⟩]) .ret)))))))
abbrev n_prefix_Split : Nat := 50
theorem fn_prefix_Split : Try.prog.funcs[n_prefix_Split]? = some Try.f50 := Try.func50
theorem c_prefix_Split : compF Try.prog Try.f50 = some af_prefix_Split := by kernel_rfl
def af_prefix_Covers : AF := (AF.mk 20 [(4, .none)] (.seq (.reg .false [⟨.some 2,.box (.t 0),.none⟩,⟨.some 3,.box (.t 1),.none⟩,⟨.some 4,.mv (.k (.c (.d (.bool .false)))),.none⟩]) (.seq (.reg .false [⟨.some 5,.ld (.t 3) (.some 2),.none⟩,⟨.some 6,.call 38 [(.t 5)],.none⟩,⟨.some 7,.mv (.t 6),.none⟩,⟨.some 8,.ld (.t 2) (.some 2),.some (7, .true)⟩,⟨.some 9,.fa (.t 3) 0,.some (7, .true)⟩,⟨.some 10,.ld (.t 9) .none,.some (7, .true)⟩,⟨.some 11,.call 40 [(.t 8), (.t 10)],.some (7, .true)⟩,⟨.some 12,.pick (.t 7) (.t 11) (.k (.c (.d (.bool .false)))),.none⟩,⟨.some 13,.mv (.t 12),.none⟩,⟨.some 14,.fa (.t 2) 1,.some (13, .true)⟩,⟨.some 15,.ld (.t 14) .none,.some (13, .true)⟩,⟨.some 16,.fa (.t 3) 1,.some (13, .true)⟩,⟨.some 17,.ld (.t 16) .none,.some (13, .true)⟩,⟨.some 18,.bin .leq (.t 15) (.t 17),.some (13, .true)⟩,⟨.some 19,.pick (.t 13) (.t 18) (.k (.c (.d (.bool .false)))),.none⟩,⟨.some 4,.mv (.t 19),.none⟩]) .ret)))
abbrev n_prefix_Covers : Nat := 51
theorem fn_prefix_Covers : Try.prog.funcs[n_prefix_Covers]? = some Try.f51 := Try.func51
theorem c_prefix_Covers : compF Try.prog Try.f51 = some af_prefix_Covers := by kernel_rfl
def af_compress_combine : AF := (AF.mk 29 [(4, .none)] (.seq (.reg .false [⟨.some 4,.mv (.k (.c (.d .nilm))),.none⟩]) (.seq (.reg .false [⟨.some 7,.mo .mkm [],.none⟩,⟨.some 5,.mv (.t 7),.none⟩]) (.seq (.seq (.reg .false [⟨.some 8,.mv (.t 0),.none⟩,⟨.some 9,.rng (.t 8),.none⟩]) (.block 0 (.loop (.seq (.reg .false [⟨.some 10,.nx (.t 9),.none⟩,⟨.some 11,.ext (.t 10) 0,.none⟩]) (.seq (.cond (.t 11) .skip (.exit 0)) (.block 1 (.seq (.reg .false [⟨.some 12,.ent (.t 9),.none⟩,⟨.some 13,.ext (.t 12) 0,.none⟩,⟨.some 6,.mv (.t 13),.none⟩]) (.seq (.reg .false [⟨.some 14,.mv (.t 1),.none⟩,⟨.some 15,.mv (.t 6),.none⟩,⟨.some 16,.mo (.lk .true 1 [(0, 0)] .false (.c (.d (.bool .false)))) [(.t 14), (.t 15)],.none⟩]) (.cond (.t 16) (.reg .false [⟨.some 17,.mv (.t 5),.none⟩,⟨.some 18,.mv (.t 6),.none⟩,⟨.none,.mo (.up .true 1 [(0, 0)]) [(.t 17), (.t 18), (.k (.c (.d (.bool .true))))],.none⟩]) .skip))))))))) (.seq (.seq (.reg .false [⟨.some 19,.mv (.t 5),.none⟩,⟨.some 20,.mo .lnm [(.t 19)],.none⟩,⟨.some 21,.bin .eql (.t 20) (.k (.c (.d (.int .i64 0)))),.none⟩]) (.cond (.t 21) (.seq (.reg .false [⟨.some 22,.mv (.t 5),.none⟩,⟨.some 23,.mv (.t 0),.none⟩,⟨.some 24,.call 78 [(.t 22), (.t 23)],.none⟩]) (.reg .false [⟨.some 25,.mv (.t 5),.none⟩,⟨.some 26,.mv (.t 1),.none⟩,⟨.some 27,.call 78 [(.t 25), (.t 26)],.none⟩])) .skip)) (.seq (.reg .false [⟨.some 28,.mv (.t 5),.none⟩,⟨.some 4,.mv (.t 28),.none⟩]) .ret))))))
abbrev n_compress_combine : Nat := 52
theorem fn_compress_combine : Try.prog.funcs[n_compress_combine]? = some Try.f52 := Try.func52
theorem c_compress_combine : compF Try.prog Try.f52 = some af_compress_combine := by kernel_rfl
def af_slices_Min_int_int : AF := (AF.mk 25 [(2, .none)] (.seq (.reg .false [⟨.some 2,.mv (.k (.c (.d (.int .i64 0)))),.none⟩]) (.seq (.seq (.reg .false [⟨.some 5,.mv (.t 0),.none⟩,⟨.some 6,.len (.t 5),.none⟩,⟨.some 7,.bin .lss (.t 6) (.k (.c (.d (.int .i64 1)))),.none⟩]) (.cond (.t 7) (.reg .false [⟨.some 8,.mo (.mki 9) [(.k (.c (.d (.str [115, 108, 105, 99, 101, 115, 46, 77, 105, 110, 58, 32, 101, 109, 112, 116, 121, 32, 108, 105, 115, 116]))))],.none⟩,⟨.none,.bad,.none⟩]) .skip)) (.seq (.reg .false [⟨.some 9,.mv (.t 0),.none⟩,⟨.some 10,.ias 1 (.t 9) (.k (.c (.d (.int .i64 0)))),.none⟩,⟨.some 11,.ld (.t 10) .none,.none⟩,⟨.some 3,.mv (.t 11),.none⟩]) (.seq (.seq (.reg .false [⟨.some 4,.mv (.k (.c (.d (.int .i64 1)))),.none⟩]) (.block 0 (.loop (.seq (.seq (.reg .false [⟨.some 12,.mv (.t 4),.none⟩,⟨.some 13,.mv (.t 0),.none⟩,⟨.some 14,.len (.t 13),.none⟩,⟨.some 15,.bin .lss (.t 12) (.t 14),.none⟩]) (.cond (.t 15) .skip (.exit 0))) (.seq (.block 1 (.reg .false [⟨.some 18,.mv (.t 3),.none⟩,⟨.some 19,.mv (.t 0),.none⟩,⟨.some 20,.mv (.t 4),.none⟩,⟨.some 21,.ias 1 (.t 19) (.t 20),.none⟩,⟨.some 22,.ld (.t 21) .none,.none⟩,⟨.some 23,.mo (.mm .false) [(.t 18), (.t 22)],.none⟩,⟨.some 3,.mv (.t 23),.none⟩])) (.reg .false [⟨.some 16,.mv (.t 4),.none⟩,⟨.some 17,.bin .add (.t 16) (.k (.c (.d (.int .i64 1)))),.none⟩,⟨.some 4,.mv (.t 17),.none⟩])))))) (.seq (.reg .false [⟨.some 24,.mv (.t 3),.none⟩,⟨.some 2,.mv (.t 24),.none⟩]) .ret))))))
abbrev n_slices_Min_int_int : Nat := 53
theorem fn_slices_Min_int_int : Try.prog.funcs[n_slices_Min_int_int]? = some Try.f53 := Try.func53
theorem c_slices_Min_int_int : compF Try.prog Try.f53 = some af_slices_Min_int_int := by kernel_rfl
abbrev n_slices_Collect_int : Nat := 54
theorem fn_slices_Collect_int : Try.prog.funcs[n_slices_Collect_int]? = some Try.f54 := Try.func54
def af_maps_Keys_map_int_bool_int_bool : AF := (AF.mk 4 [(2, .none)] (.seq (.reg .false [⟨.some 1,.box (.t 0),.none⟩,⟨.some 2,.mv (.k (.c (.d .nilf))),.none⟩]) (.seq (.reg .false [⟨.some 3,.mkf .false 80 [(.t 1)],.none⟩,⟨.some 2,.mv (.t 3),.none⟩]) .ret)))
abbrev n_maps_Keys_map_int_bool_int_bool : Nat := 55
theorem fn_maps_Keys_map_int_bool_int_bool : Try.prog.funcs[n_maps_Keys_map_int_bool_int_bool]? = some Try.f55 := Try.func55
theorem c_maps_Keys_map_int_bool_int_bool : compF Try.prog Try.f55 = some af_maps_Keys_map_int_bool_int_bool := by kernel_rfl
def af_ref04_mask : AF := (AF.mk 17 [(2, .none)] (.seq (.reg .false [⟨.some 2,.mv (.k (.c (.d (.int .u32 0)))),.none⟩]) (.seq (.reg .false [⟨.some 3,.mv (.k (.c (.d (.int .u32 0)))),.none⟩]) (.seq (.seq (.reg .false [⟨.some 4,.mv (.k (.c (.d (.int .i64 0)))),.none⟩]) (.block 0 (.loop (.seq (.seq (.reg .false [⟨.some 5,.mv (.t 4),.none⟩,⟨.some 6,.mv (.t 0),.none⟩,⟨.some 7,.bin .lss (.t 5) (.t 6),.none⟩]) (.cond (.t 7) .skip (.exit 0))) (.seq (.block 1 (.reg .false [⟨.some 10,.mv (.t 3),.none⟩,⟨.some 11,.mv (.t 4),.none⟩,⟨.some 12,.bin .sub (.k (.c (.d (.int .i64 31)))) (.t 11),.none⟩,⟨.some 13,.cvi .u64 (.t 12),.none⟩,⟨.some 14,.bin .shl (.k (.c (.d (.int .u32 1)))) (.t 13),.none⟩,⟨.some 15,.bin .or (.t 10) (.t 14),.none⟩,⟨.some 3,.mv (.t 15),.none⟩])) (.reg .false [⟨.some 8,.mv (.t 4),.none⟩,⟨.some 9,.bin .add (.t 8) (.k (.c (.d (.int .i64 1)))),.none⟩,⟨.some 4,.mv (.t 9),.none⟩])))))) (.seq (.reg .false [⟨.some 16,.mv (.t 3),.none⟩,⟨.some 2,.mv (.t 16),.none⟩]) .ret)))))
abbrev n_ref04_mask : Nat := 56
theorem fn_ref04_mask : Try.prog.funcs[n_ref04_mask]? = some Try.f56 := Try.func56
theorem c_ref04_mask : compF Try.prog Try.f56 = some af_ref04_mask := by kernel_rfl
def af_ref04_Contains : AF := (AF.mk 17 [(4, .none)] (.seq (.reg .false [⟨.some 2,.box (.t 0),.none⟩,⟨.some 4,.mv (.k (.c (.d (.bool .false)))),.none⟩]) (.seq (.seq (.reg .true [⟨.some 5,.ld (.t 2) (.some 2),.none⟩]) (.seq (.reg .false [⟨.some 6,.call 32 [(.t 5)],.none⟩]) (.reg .true [⟨.some 7,.mv (.t 6),.none⟩,⟨.some 8,.mv (.t 1),.some (7, .true)⟩,⟨.some 9,.fa (.t 2) 1,.some (7, .true)⟩,⟨.some 10,.ld (.t 9) .none,.some (7, .true)⟩,⟨.some 11,.call 56 [(.t 10)],.some (7, .true)⟩,⟨.some 12,.bin .and (.t 8) (.t 11),.some (7, .true)⟩,⟨.some 13,.fa (.t 2) 0,.some (7, .true)⟩,⟨.some 14,.ld (.t 13) .none,.some (7, .true)⟩,⟨.some 15,.bin .eql (.t 12) (.t 14),.some (7, .true)⟩,⟨.some 16,.pick (.t 7) (.t 15) (.k (.c (.d (.bool .false)))),.none⟩,⟨.some 4,.mv (.t 16),.none⟩]))) .ret)))
abbrev n_ref04_Contains : Nat := 59
theorem fn_ref04_Contains : Try.prog.funcs[n_ref04_Contains]? = some Try.f59 := Try.func59
theorem c_ref04_Contains : compF Try.prog Try.f59 = some af_ref04_Contains := by kernel_rfl
def af_prefix_mask : AF := (AF.mk 7 [(2, .none)] (.seq (.reg .false [⟨.some 2,.mv (.k (.c (.d (.int .u32 0)))),.none⟩]) (.seq (.reg .false [⟨.some 3,.mv (.t 0),.none⟩,⟨.some 4,.bin .sub (.k (.c (.d (.int .i64 32)))) (.t 3),.none⟩,⟨.some 5,.bin .shl (.k (.c (.d (.int .u64 4294967295)))) (.t 4),.none⟩,⟨.some 6,.cvi .u32 (.t 5),.none⟩,⟨.some 2,.mv (.t 6),.none⟩]) .ret)))
abbrev n_prefix_mask : Nat := 60
theorem fn_prefix_mask : Try.prog.funcs[n_prefix_mask]? = some Try.f60 := Try.func60
theorem c_prefix_mask : compF Try.prog Try.f60 = some af_prefix_mask := by kernel_rfl
def af_math_bits_LeadingZeros32 : AF := (AF.mk 6 [(2, .none)] (.seq (.reg .false [⟨.some 2,.mv (.k (.c (.d (.int .i64 0)))),.none⟩]) (.seq (.reg .false [⟨.some 3,.mv (.t 0),.none⟩,⟨.some 4,.call 74 [(.t 3)],.none⟩,⟨.some 5,.bin .sub (.k (.c (.d (.int .i64 32)))) (.t 4),.none⟩,⟨.some 2,.mv (.t 5),.none⟩]) .ret)))
abbrev n_math_bits_LeadingZeros32 : Nat := 61
theorem fn_math_bits_LeadingZeros32 : Try.prog.funcs[n_math_bits_LeadingZeros32]? = some Try.f61 := Try.func61
theorem c_math_bits_LeadingZeros32 : compF Try.prog Try.f61 = some af_math_bits_LeadingZeros32 := by kernel_rfl
def af_prefix_Parent : AF := (AF.mk 23 [(2, (.some (.some 2))), (3, .none)] (.seq (.reg .false [⟨.some 1,.box (.t 0),.none⟩,⟨.some 2,.box (.k (.agg [(.d (.int .u32 0)), (.d (.int .i64 0))])),.none⟩,⟨.some 3,.mv (.k (.c (.d (.int .i64 0)))),.none⟩]) (.seq (.seq (.reg .false [⟨.some 4,.ld (.t 1) (.some 2),.none⟩,⟨.some 5,.call 38 [(.t 4)],.none⟩,⟨.some 6,.un .not (.t 5),.none⟩]) (.cond (.t 6) (.seq (.reg .false [⟨.some 7,.build [(.d (.int .u32 0)), (.d (.int .i64 0))] [],.none⟩,⟨.none,.st (.t 2) (.t 7) 2,.none⟩,⟨.some 3,.mv (.k (.c (.d (.int .i64 1)))),.none⟩]) .ret) .skip)) (.seq (.seq (.reg .false [⟨.some 8,.fa (.t 1) 1,.none⟩,⟨.some 9,.ld (.t 8) .none,.none⟩,⟨.some 10,.bin .eql (.t 9) (.k (.c (.d (.int .i64 0)))),.none⟩]) (.cond (.t 10) (.seq (.reg .false [⟨.some 11,.build [(.d (.int .u32 0)), (.d (.int .i64 0))] [],.none⟩,⟨.none,.st (.t 2) (.t 11) 2,.none⟩,⟨.some 3,.mv (.k (.c (.d (.int .i64 2)))),.none⟩]) .ret) .skip)) (.seq (.reg .true [⟨.some 12,.fa (.t 1) 0,.none⟩,⟨.some 13,.ld (.t 12) .none,.none⟩,⟨.some 14,.fa (.t 1) 1,.none⟩,⟨.some 15,.ld (.t 14) .none,.none⟩,⟨.some 16,.bin .sub (.t 15) (.k (.c (.d (.int .i64 1)))),.none⟩,⟨.some 17,.call 60 [(.t 16)],.none⟩,⟨.some 18,.bin .and (.t 13) (.t 17),.none⟩,⟨.some 19,.fa (.t 1) 1,.none⟩,⟨.some 20,.ld (.t 19) .none,.none⟩,⟨.some 21,.bin .sub (.t 20) (.k (.c (.d (.int .i64 1)))),.none⟩,⟨.some 22,.build [(.d (.int .u32 0)), (.d (.int .i64 0))] [(0, (1, (.t 18))), (1, (1, (.t 21)))],.none⟩,⟨.none,.st (.t 2) (.t 22) 2,.none⟩,⟨.some 3,.mv (.k (.c (.d (.int .i64 0)))),.none⟩]) .ret)))))
abbrev n_prefix_Parent : Nat := 62
theorem fn_prefix_Parent : Try.prog.funcs[n_prefix_Parent]? = some Try.f62 := Try.func62
theorem c_prefix_Parent : compF Try.prog Try.f62 = some af_prefix_Parent := by kernel_rfl
def af_trie_Trie_All_1 : AF := (AF.mk 11 [] (.seq (.reg .false [⟨.some 3,.ld (.t 1) .none,.none⟩,⟨.some 4,.isnil 1 .true (.t 3),.none⟩]) (.cond (.t 4) (.reg .false [⟨.some 5,.ld (.t 1) .none,.none⟩,⟨.some 6,.nilc (.t 5),.none⟩,⟨.some 7,.fa (.t 6) 0,.none⟩,⟨.some 8,.ld (.t 7) .none,.none⟩,⟨.some 9,.mv (.t 0),.none⟩,⟨.some 10,.call 64 [(.t 8), (.t 9)],.none⟩]) .skip)))
abbrev n_trie_Trie_All_1 : Nat := 63
theorem fn_trie_Trie_All_1 : Try.prog.funcs[n_trie_Trie_All_1]? = some Try.f63 := Try.func63
theorem c_trie_Trie_All_1 : compF Try.prog Try.f63 = some af_trie_Trie_All_1 := by kernel_rfl
def af_trie_node_visit : AF := (AF.mk 36 [(4, .none)] (.seq (.reg .false [⟨.some 4,.mv (.k (.c (.d (.bool .false)))),.none⟩]) (.seq (.seq (.reg .false [⟨.some 5,.mv (.t 0),.none⟩,⟨.some 6,.isnil 1 .false (.t 5),.none⟩]) (.cond (.t 6) (.seq (.reg .false [⟨.some 4,.mv (.k (.c (.d (.bool .true)))),.none⟩]) .ret) .skip)) (.seq (.seq (.reg .false [⟨.some 7,.mv (.t 0),.none⟩,⟨.some 8,.nilc (.t 7),.none⟩,⟨.some 9,.fa (.t 8) 3,.none⟩,⟨.some 10,.ld (.t 9) .none,.none⟩,⟨.some 11,.mv (.t 10),.none⟩,⟨.some 12,.mv (.t 1),.some (11, .true)⟩,⟨.some 13,.mv (.t 0),.some (11, .true)⟩,⟨.some 14,.nilc (.t 13),.some (11, .true)⟩,⟨.some 15,.fa (.t 14) 0,.some (11, .true)⟩,⟨.some 16,.ld (.t 15) (.some 3),.some (11, .true)⟩,⟨.some 17,.callv (.t 12) [(.t 16)],.some (11, .true)⟩,⟨.some 18,.un .not (.t 17),.some (11, .true)⟩,⟨.some 19,.pick (.t 11) (.t 18) (.k (.c (.d (.bool .false)))),.none⟩]) (.cond (.t 19) (.seq (.reg .false [⟨.some 4,.mv (.k (.c (.d (.bool .false)))),.none⟩]) .ret) .skip)) (.seq (.reg .false [⟨.some 20,.mv (.t 0),.none⟩,⟨.some 21,.nilc (.t 20),.none⟩,⟨.some 22,.fa (.t 21) 4,.none⟩,⟨.some 23,.iaa 2 1 (.t 22) (.k (.c (.d (.int .i64 0)))),.none⟩,⟨.some 24,.ld (.t 23) .none,.none⟩,⟨.some 25,.mv (.t 1),.none⟩,⟨.some 26,.call 64 [(.t 24), (.t 25)],.none⟩,⟨.some 27,.mv (.t 26),.none⟩,⟨.some 28,.mv (.t 0),.some (27, .true)⟩,⟨.some 29,.nilc (.t 28),.some (27, .true)⟩,⟨.some 30,.fa (.t 29) 4,.some (27, .true)⟩,⟨.some 31,.iaa 2 1 (.t 30) (.k (.c (.d (.int .i64 1)))),.some (27, .true)⟩,⟨.some 32,.ld (.t 31) .none,.some (27, .true)⟩,⟨.some 33,.mv (.t 1),.some (27, .true)⟩,⟨.some 34,.call 64 [(.t 32), (.t 33)],.some (27, .true)⟩,⟨.some 35,.pick (.t 27) (.t 34) (.k (.c (.d (.bool .false)))),.none⟩,⟨.some 4,.mv (.t 35),.none⟩]) .ret)))))
abbrev n_trie_node_visit : Nat := 64
theorem fn_trie_node_visit : Try.prog.funcs[n_trie_node_visit]? = some Try.f64 := Try.func64
theorem c_trie_node_visit : compF Try.prog Try.f64 = some af_trie_node_visit := by kernel_rfl
def af_math_bits_Len32 : AF := (AF.mk 19 [(2, .none)] (.seq (.reg .false [⟨.some 2,.mv (.k (.c (.d (.int .i64 0)))),.none⟩]) (.seq (.seq (.reg .false [⟨.some 3,.mv (.t 0),.none⟩,⟨.some 4,.bin .geq (.t 3) (.k (.c (.d (.int .u32 65536)))),.none⟩]) (.cond (.t 4) (.seq (.reg .false [⟨.some 5,.mv (.t 0),.none⟩,⟨.some 6,.bin .shr (.t 5) (.k (.c (.d (.int .u64 16)))),.none⟩,⟨.some 0,.mv (.t 6),.none⟩]) (.reg .false [⟨.some 2,.mv (.k (.c (.d (.int .i64 16)))),.none⟩])) .skip)) (.seq (.seq (.reg .false [⟨.some 7,.mv (.t 0),.none⟩,⟨.some 8,.bin .geq (.t 7) (.k (.c (.d (.int .u32 256)))),.none⟩]) (.cond (.t 8) (.seq (.reg .false [⟨.some 9,.mv (.t 0),.none⟩,⟨.some 10,.bin .shr (.t 9) (.k (.c (.d (.int .u64 8)))),.none⟩,⟨.some 0,.mv (.t 10),.none⟩]) (.reg .false [⟨.some 11,.mv (.t 2),.none⟩,⟨.some 12,.bin .add (.t 11) (.k (.c (.d (.int .i64 8)))),.none⟩,⟨.some 2,.mv (.t 12),.none⟩])) .skip)) (.seq (.reg .false [⟨.some 13,.mv (.t 2),.none⟩,⟨.some 14,.mv (.t 0),.none⟩,⟨.some 15,.cvi .u8 (.t 14),.none⟩,⟨.some 16,.ixs (.k (.c (.d (.str [0, 1, 2, 2, 3, 3, 3, 3, 4, 4, 4, 4, 4, 4, 4, 4, 5, 5, 5, 5, 5, 5, 5, 5, 5, 5, 5, 5, 5, 5, 5, 5, 6, 6, 6, 6, 6, 6, 6, 6, 6, 6, 6, 6, 6, 6, 6, 6, 6, 6, 6, 6, 6, 6, 6, 6, 6, 6, 6, 6, 6, 6, 6, 6, 7, 7, 7, 7, 7, 7, 7, 7, 7, 7, 7, 7, 7, 7, 7, 7, 7, 7, 7, 7, 7, 7, 7, 7, 7, 7, 7, 7, 7, 7, 7, 7, 7, 7, 7, 7, 7, 7, 7, 7, 7, 7, 7, 7, 7, 7, 7, 7, 7, 7, 7, 7, 7, 7, 7, 7, 7, 7, 7, 7, 7, 7, 7, 7, 8, 8, 8, 8, 8, 8, 8, 8, 8, 8, 8, 8, 8, 8, 8, 8, 8, 8, 8, 8, 8, 8, 8, 8, 8, 8, 8, 8, 8, 8, 8, 8, 8, 8, 8, 8, 8, 8, 8, 8, 8, 8, 8, 8, 8, 8, 8, 8, 8, 8, 8, 8, 8, 8, 8, 8, 8, 8, 8, 8, 8, 8, 8, 8, 8, 8, 8, 8, 8, 8, 8, 8, 8, 8, 8, 8, 8, 8, 8, 8, 8, 8, 8, 8, 8, 8, 8, 8, 8, 8, 8, 8, 8, 8, 8, 8, 8, 8, 8, 8, 8, 8, 8, 8, 8, 8, 8, 8, 8, 8, 8, 8, 8, 8, 8, 8, 8, 8, 8, 8, 8, 8, 8, 8, 8, 8, 8, 8])))) (.t 15),.none⟩,⟨.some 17,.cvi .i64 (.t 16),.none⟩,⟨.some 18,.bin .add (.t 13) (.t 17),.none⟩,⟨.some 2,.mv (.t 18),.none⟩]) .ret)))))
abbrev n_math_bits_Len32 : Nat := 74
theorem fn_math_bits_Len32 : Try.prog.funcs[n_math_bits_Len32]? = some Try.f74 := Try.func74
theorem c_math_bits_Len32 : compF Try.prog Try.f74 = some af_math_bits_Len32 := by kernel_rfl
def af_cmp_isNaN_uint32 : AF := (AF.mk 6 [(2, .none)] (.seq (.reg .false [⟨.some 2,.mv (.k (.c (.d (.bool .false)))),.none⟩]) (.seq (.reg .false [⟨.some 3,.mv (.t 0),.none⟩,⟨.some 4,.mv (.t 0),.none⟩,⟨.some 5,.bin .neq (.t 3) (.t 4),.none⟩,⟨.some 2,.mv (.t 5),.none⟩]) .ret)))
abbrev n_cmp_isNaN_uint32 : Nat := 76
theorem fn_cmp_isNaN_uint32 : Try.prog.funcs[n_cmp_isNaN_uint32]? = some Try.f76 := Try.func76
theorem c_cmp_isNaN_uint32 : compF Try.prog Try.f76 = some af_cmp_isNaN_uint32 := by kernel_rfl
def af_cmp_isNaN_int : AF := (AF.mk 6 [(2, .none)] (.seq (.reg .false [⟨.some 2,.mv (.k (.c (.d (.bool .false)))),.none⟩]) (.seq (.reg .false [⟨.some 3,.mv (.t 0),.none⟩,⟨.some 4,.mv (.t 0),.none⟩,⟨.some 5,.bin .neq (.t 3) (.t 4),.none⟩,⟨.some 2,.mv (.t 5),.none⟩]) .ret)))
abbrev n_cmp_isNaN_int : Nat := 77
theorem fn_cmp_isNaN_int : Try.prog.funcs[n_cmp_isNaN_int]? = some Try.f77 := Try.func77
theorem c_cmp_isNaN_int : compF Try.prog Try.f77 = some af_cmp_isNaN_int := by kernel_rfl
def af_maps_Copy_map_int_bool_map_int_bool_int_bool : AF := (AF.mk 16 [] (.seq (.reg .false [⟨.some 6,.mv (.t 1),.none⟩,⟨.some 7,.rng (.t 6),.none⟩]) (.block 0 (.loop (.seq (.reg .false [⟨.some 8,.nx (.t 7),.none⟩,⟨.some 9,.ext (.t 8) 0,.none⟩]) (.seq (.cond (.t 9) .skip (.exit 0)) (.block 1 (.seq (.reg .false [⟨.some 10,.ent (.t 7),.none⟩,⟨.some 11,.ext (.t 10) 0,.none⟩,⟨.some 12,.ext (.t 10) 1,.none⟩,⟨.some 4,.mv (.t 11),.none⟩,⟨.some 5,.mv (.t 12),.none⟩]) (.reg .false [⟨.some 13,.mv (.t 0),.none⟩,⟨.some 14,.mv (.t 4),.none⟩,⟨.some 15,.mv (.t 5),.none⟩,⟨.none,.mo (.up .true 1 [(0, 0)]) [(.t 13), (.t 14), (.t 15)],.none⟩])))))))))
abbrev n_maps_Copy_map_int_bool_map_int_bool_int_bool : Nat := 78
theorem fn_maps_Copy_map_int_bool_map_int_bool_int_bool : Try.prog.funcs[n_maps_Copy_map_int_bool_map_int_bool_int_bool]? = some Try.f78 := Try.func78
theorem c_maps_Copy_map_int_bool_map_int_bool_int_bool : compF Try.prog Try.f78 = some af_maps_Copy_map_int_bool_map_int_bool_int_bool := by kernel_rfl
abbrev n_maps_Keys_map_int_bool_int_bool_1 : Nat := 80
theorem fn_maps_Keys_map_int_bool_int_bool_1 : Try.prog.funcs[n_maps_Keys_map_int_bool_int_bool_1]? = some Try.f80 := Try.func80
theorem mixed : Try.prog.follows .mixedOrders = true := by decide
end Go.Ab

/-
  Contracts, part a: what a contract says; the data of the program and how they are laid.
-/
namespace Go.Ab
open Go.Proofs
abbrev iA (n : Int) : AV := .c (.d (.int .i64 n))
abbrev bA (b : Bool) : AV := .c (.d (.bool b))
def Ret (P : Program) (f : Nat) (args : List AV) (r : AV) : Prop := FnS P f args [] fun r' _ => pureA r' = true ∧ r' = r
theorem ret_start {P : Program} {f : Nat} {fn : Func} {af : AF} {args : List AV} {r : AV} (hm : P.follows .mixedOrders = true) (hf : P.funcs[f]? = some fn) (hc : compF P fn = some af) (hl : args.length ≤ af.nt)
  (hv : ∀ (Λ : Len), (∀ l, Λ l = (l.length : Int)) → ∀ (K : AV → Prop), K r → vcF P Λ af args K) : Ret P f args r :=
 fn_pure (K := fun r' => r' = r) hm hf hc hl fun Λ h => hv Λ h _ rfl
theorem wrap64 (x : Int) : IntKind.i64.wrap x = (x + 9223372036854775808) % 18446744073709551616 - 9223372036854775808 := by
 simp only [IntKind.wrap, IntKind.bits, IntKind.signed, Bool.true_and, decide_eq_true_eq, Nat.reduceSub, ge_iff_le]
 have e1 : (2 : Int) ^ 64 = 18446744073709551616 := by decide
 have e2 : (2 : Int) ^ 63 = 9223372036854775808 := by decide
 rw [e1, e2]
 split <;> omega
theorem wrap_small {x : Int} (h : -9223372036854775808 ≤ x) (h' : x < 9223372036854775808) : IntKind.i64.wrap x = x := by
 rw [wrap64]; omega
theorem call_b {P : Program} {m : Nat} {d : Bool} {L : Lv} {h : Hp} {f : Nat} {xs : List X} {args' : List AV} {K : Lv → AV → Hp → Prop} {b : Bool} (hf : Ret P f args' (bA b)) (ha : (evsN L xs).map fgA = args') (hp : args'.all pureA = true)
  (k1 : b = true → K L (bA true) h) (k2 : b = false → K L (bA false) h) : CallS P m d L h f xs K := by
 refine CallS.pure (r := bA b) (Or.inl ⟨args', .inl ha.symm, hp, hf⟩) ?_
 cases b
 ·exact k2 rfl
 ·exact k1 rfl
theorem call_r {P : Program} {m : Nat} {d : Bool} {L : Lv} {h : Hp} {f : Nat} {xs : List X} {args' : List AV} {K : Lv → AV → Hp → Prop} {r : AV} (hf : Ret P f args' r) (ha : (evsN L xs).map fgA = args') (hp : args'.all pureA = true)
  (k : K L r h) : CallS P m d L h f xs K :=
 CallS.pure (r := r) (Or.inl ⟨args', .inl ha.symm, hp, hf⟩) k
theorem call_z {P : Program} {m : Nat} {L : Lv} {h : Hp} {f : Nat} {xs : List X} {K : Lv → AV → Hp → Prop} (l v sz k : Nat) {r : Bool} {es : List (List D)} (hl : h[l]? = some (.da r v sz es)) (hk : k = es.length) (h1 : okL l v k L) (h2 : okH l v k h)
  (hc : CallS P m false (zL l v sz es L) (zH l v sz es 0 h) f xs K) : CallS P m false L h f xs K :=
 .wk (.fz l v sz r es hl (fun i => .inr (by rw [← lkN_eq, ← lkN_eq, lkN_z]; exact zA_ok hk (okL_get h1 i))) (zH_ok hk h2)) hc
theorem gu {p : Prop} (h : Unit → p := by
  intro (_ : Unit)
  first
   | omega
   | rfl
   | exact ⟨rfl, by omega⟩
   | (simp only [nI_eq]; omega)
   | ((repeat' first | rfl | omega | refine And.intro ?_ ?_ | (simp only [nI_eq]; omega) | (simp only [List.length_cons, List.length_nil]; omega) | exact Nat.le_of_ble_eq_true rfl); fail_if_success intros)) : Unit → p := h
theorem Wk.cw {m : Nat} {L : Lv} {h : Hp} {L' : Lv} {h' : Hp} (heap : ∃ t, h = h' ++ t := by exact ⟨_, rfl⟩) (least : m ≤ h'.length := by exact Nat.zero_le _) (refs : refsH h'.length h' = true := by rfl)
  (env : KeepL h'.length L L' := by repeat' first | exact trivial | refine And.intro ?_ ?_ | rfl) : Wk m L h L' h' := .cut heap least refs env
theorem Wk.ca {m : Nat} {L : Lv} {h : Hp} {L' : Lv} {h' : Hp} (heap : ∃ t, h = h' ++ t := by exact ⟨_, rfl⟩) (least : m ≤ h'.length := by exact Nat.le_of_ble_eq_true rfl) (refs : refsH h'.length h' = true := by rfl)
  (env : KeepL h'.length L L' := by repeat' first | exact trivial | refine And.intro ?_ ?_ | rfl) : Wk m L h L' h' := .cut heap least refs env
theorem Wk.ch {m : Nat} {L : Lv} {h : Hp} {L' : Lv} (least : m ≤ h.length := by exact Nat.le_of_ble_eq_true rfl) (refs : refsH h.length h = true := by rfl)
  (env : KeepL h.length L L' := by repeat' first | exact trivial | refine And.intro ?_ ?_ | rfl) : Wk m L h L' h := .cut ⟨[], (List.append_nil h).symm⟩ least refs env
structure Lk where
 (a b c0 c1 cap dl gr : Int)
structure Seg where
 (kind num : Int)
 deriving DecidableEq
structure Ety where
 (arcs : List Int) (rep : Bool) (push : List Seg)
instance : Inhabited Lk := ⟨⟨0, 0, 0, 0, 0, 0, 0⟩⟩
instance : Inhabited Seg := ⟨⟨0, 0⟩⟩
instance : Inhabited Ety := ⟨⟨[], false, []⟩⟩
abbrev iD (n : Int) : D := .int .i64 n
def encI (n : Int) : List D := [.int .i64 n]
abbrev intsD (l : List Int) : D := .list false 1 (l.map encI)
abbrev intsA (l : List Int) : AV := .c (.d (intsD l))
theorem elt_at {α β : Type} {f : α → β} {l : List α} {ll : List β} (hl : l.map f = ll) {k : Nat} {i : Int} (hi : i = k) {x : α} (h : l[k]? = some x) : ll[i.toNat]? = some (f x) := by
 subst hi hl; simp [h]
theorem take_succ_get {α : Type} {l : List α} {k : Nat} {x : α} (h : l[k]? = some x) : l.take (k + 1) = l.take k ++ [x] := by
 rw [List.take_add_one, h]; rfl
theorem loop_up {m : Nat} {body : Lv → Hp → Post → Prop} {L : Lv} {h : Hp} {Q : Post} {σ : Type} (N : Nat) (S : σ → Lv) (H : σ → Hp) (Inv : Nat → σ → Prop) (s0 : σ) (wk : Wk m L h (S s0) (H s0)) (h0 : Inv 0 s0)
  (hle : ∀ k s, Inv k s → k ≤ N)
  (round : ∀ k s (Q' : Post), Inv k s → (∀ L' h' s', Inv (k + 1) s' → Wk m L' h' (S s') (H s') → Q' .normal L' h') → (∀ i L' h', Q (.exit i) L' h' → Q' (.exit i) L' h') → (∀ L' h', Q .ret L' h' → Q' .ret L' h') → body (S s) (H s) Q') :
  LoopI m body L h Q := by
 refine LoopI.mk (fun n L h => ∃ k s, Inv k s ∧ n = N - k ∧ L = S s ∧ h = H s) N (S s0) (H s0) wk ⟨0, s0, h0, rfl, rfl, rfl⟩ ?_
 rintro n L h ⟨k, s, hi, rfl, rfl, rfl⟩
 refine round k s _ hi (fun L' h' s' hi' hw => ?_) (fun i L' h' hq => ⟨L', h', .same rfl fun _ => .inr rfl, hq⟩) fun L' h' hq => hq
 have h1 := hle _ _ hi
 have h2 := hle _ _ hi'
 exact ⟨N - (k + 1), _, _, by omega, hw, k + 1, s', hi', rfl, rfl, rfl⟩
theorem loop_upx {m : Nat} {body : Lv → Hp → Post → Prop} {L : Lv} {h : Hp} {Q : Post} {σ τ : Type} (N : Nat) (S : σ → Lv) (H : σ → Hp) (Inv : Nat → σ → Prop) (s0 : σ) (i0 : Nat) (S' : τ → Lv) (H' : τ → Hp) (E : τ → Prop) (wk : Wk m L h (S s0) (H s0)) (h0 : Inv 0 s0)
  (hle : ∀ k s, Inv k s → k ≤ N)
  (round : ∀ k s (Q' : Post), Inv k s → (∀ L' h' s', Inv (k + 1) s' → Wk m L' h' (S s') (H s') → Q' .normal L' h') → (∀ L' h' s', E s' → Wk m L' h' (S' s') (H' s') → Q' (.exit i0) L' h') → (∀ i L' h', Q (.exit i) L' h' → Q' (.exit i) L' h') → (∀ L' h', Q .ret L' h' → Q' .ret L' h') → body (S s) (H s) Q')
  (rest : ∀ s, E s → Q (.exit i0) (S' s) (H' s)) :
  LoopI m body L h Q := by
 refine LoopI.mk (fun n L h => ∃ k s, Inv k s ∧ n = N - k ∧ L = S s ∧ h = H s) N (S s0) (H s0) wk ⟨0, s0, h0, rfl, rfl, rfl⟩ ?_
 rintro n L h ⟨k, s, hi, rfl, rfl, rfl⟩
 refine round k s _ hi (fun L' h' s' hi' hw => ?_) (fun L' h' s' he hw => ⟨_, _, hw, rest s' he⟩) (fun i L' h' hq => ⟨L', h', .same rfl fun _ => .inr rfl, hq⟩) fun L' h' hq => hq
 have h1 := hle _ _ hi
 have h2 := hle _ _ hi'
 exact ⟨N - (k + 1), _, _, by omega, hw, k + 1, s', hi', rfl, rfl, rfl⟩
end Go.Ab

/-
  The engine: a contract over a few blocks, used where these blocks are some of many.
-/
namespace Go.Ab
section
variable {G : Nat → Prop} {w : World} {ιc ι : Io} {hc h : Hp} {ρ : Nat → Nat}
theorem Kept.rn {ι' ιc' : Io} {w' : World} {i l : Nat} {k k' : Blk} (hk : Kept ιc ιc' w w' i k k') (h1 : ι[l]? = ιc[i]?) (h2 : ι'[l]? = ιc'[i]?) : Kept ι ι' w w' l (rnB ρ k) (rnB ρ k') := by
 cases k' with
 | dead => cases k <;> trivial
 | am m' =>
  cases k with
  | am m => trivial
  | _ => simp [Kept] at hk
 | bx cs' =>
  cases k with
  | bx cs => exact ⟨by rw [rnCs_len, rnCs_len]; exact hk.1, by rw [h1, h2]; exact hk.2⟩
  | _ => simp [Kept] at hk
 | da r' v' sz' es' =>
  cases k with
  | da r v sz es =>
   rcases hk with hk | ⟨a1, a2, a3, a4, a5, a6⟩
   ·exact .inl hk
   ·exact .inr ⟨a1, a2, a3, a4, by rw [h1, h2]; exact a5, fun hr b o hb => a6 hr b o (by rw [← h1]; exact hb)⟩
  | _ => simp [Kept] at hk
 | mp v' es' =>
  cases k with
  | mp v es =>
   obtain ⟨a1, a2⟩ := hk
   refine ⟨by rw [h1, h2]; exact a1, ?_⟩
   rcases a2 with a2 | ⟨a2, a3, a4⟩
   ·exact .inl a2
   ·exact .inr ⟨a2, a3, fun b o hb => a4 b o (by rw [← h1]; exact hb)⟩
  | _ => simp [Kept] at hk
 | mi m' v' es' =>
  cases k with
  | mi m v es =>
   obtain ⟨a1, a2, a3⟩ := hk
   exact ⟨by rw [a1], a2, by rw [h1, h2]; exact a3⟩
  | _ => simp [Kept] at hk
end
def setAll {α : Type} : List α → List Nat → List α → List α
 | h, [], _ => h
 | h, _ :: _, [] => h
 | h, l :: σ, b :: bs => setAll (h.set l b) σ bs
theorem setAll_len {α : Type} : ∀ (σ : List Nat) (h bs : List α), (setAll h σ bs).length = h.length
 | [], _, _ => by simp only [setAll]
 | _ :: _, _, [] => by simp only [setAll]
 | l :: σ, h, b :: bs => by simp only [setAll]; rw [setAll_len σ]; simp
theorem setAll_other {α : Type} : ∀ (σ : List Nat) (h bs : List α) (l : Nat), l ∉ σ → (setAll h σ bs)[l]? = h[l]?
 | [], _, _, _, _ => by simp only [setAll]
 | _ :: _, _, [], _, _ => by simp only [setAll]
 |l :: σ, h, b :: bs, l', hn => by
  simp only [setAll]
  rw [setAll_other σ _ bs l' (fun hm => hn (List.mem_cons_of_mem _ hm)), List.getElem?_set_ne (fun (e : l = l') => hn (by rw [e]; exact List.mem_cons_self ..))]
theorem setAll_at {α : Type} : ∀ (σ : List Nat) (h bs : List α) (i l : Nat) (b : α), σ.Nodup → (∀ l ∈ σ, l < h.length) → σ[i]? = some l → bs[i]? = some b → (setAll h σ bs)[l]? = some b
 | [], _, _, _, _, _, _, _, h1, _ => by simp at h1
 | _ :: _, _, [], _, _, _, _, _, _, h2 => by simp at h2
 |l0 :: σ, h, b0 :: bs, i, l, b, hn, hl, h1, h2 => by
  simp only [setAll]
  cases i with
  | zero =>
   simp at h1 h2
   subst h1 h2
   rw [setAll_other σ _ bs l0 (List.nodup_cons.1 hn).1, List.getElem?_set_self (hl l0 (List.mem_cons_self ..))]
  | succ i =>
   exact setAll_at σ _ bs i l b (List.nodup_cons.1 hn).2 (fun x hx => by simpa using hl x (List.mem_cons_of_mem _ hx)) (by simpa using h1) (by simpa using h2)
def rho : List Nat → Nat → Nat → Nat
 | [], n, i => n + i
 | l :: _, _, 0 => l
 | _ :: σ, n, i + 1 => rho σ n i
theorem rho_old : ∀ (σ : List Nat) (n i : Nat), i < σ.length → σ[i]? = some (rho σ n i)
 | [], _, _, h => by simp at h
 | l :: σ, n, 0, _ => rfl
 | l :: σ, n, i + 1, h => by simpa [rho] using rho_old σ n i (by simpa using h)
theorem rho_new : ∀ (σ : List Nat) (n i : Nat), σ.length ≤ i → rho σ n i = n + (i - σ.length)
 | [], _, _, _ => rfl
 | l :: σ, n, 0, h => by simp at h
 | l :: σ, n, i + 1, h => by simp only [rho, List.length_cons]; rw [rho_new σ n i (by simpa using h)]; omega
def backH (h : Hp) (σ : List Nat) (hc : Hp) : Hp := setAll h σ (rnH (rho σ h.length) hc) ++ rnH (rho σ h.length) (hc.drop σ.length)
def backI (ι : Io) (σ : List Nat) (ιc : Io) : Io := setAll ι σ ιc ++ ιc.drop σ.length
theorem FnS.frame {P : Program} {f : Nat} {args : List AV} {hc : Hp} {R : AV → Hp → Prop} (hf : FnS P f args hc R) (σ : List Nat) (h : Hp) (hlen : σ.length = hc.length) (hnd : σ.Nodup)
    (hh : ∀ i k, hc[i]? = some k → h[rho σ h.length i]? = some (rnB (rho σ h.length) k)) (hcl : refsH hc.length hc = true) (hca : ∀ x ∈ args, refsA hc.length x = true) :
    FnS P f (rnAs (rho σ h.length) args) h fun r' h' => ∃ r hc', R r hc' ∧ r' = rnA (rho σ h.length) r ∧ h' = backH h σ hc' := by
  refine ⟨fun G ι w vs hr hv => ?_⟩
  have hlt : ∀ l ∈ σ, l < h.length := by
    intro l hl
    obtain ⟨i, hi, rfl⟩ := List.getElem_of_mem hl
    have h1 := rho_old σ h.length i hi
    rw [List.getElem?_eq_getElem hi] at h1
    have h2 := hh i _ (List.getElem?_eq_getElem (by omega))
    rw [← Option.some.inj h1] at h2
    exact get_lt h2
  have hιl : ∀ l ∈ σ, l < ι.length := fun l hl => by rw [hr.len]; exact hlt l hl
  generalize hρ : rho σ h.length = ρ at *
  have rold : ∀ i, i < σ.length → σ[i]? = some (ρ i) := fun i hi => by rw [← hρ]; exact rho_old σ _ i hi
  have rnew : ∀ i, σ.length ≤ i → ρ i = h.length + (i - σ.length) := fun i hi => by rw [← hρ]; exact rho_new σ _ i hi
  have rmem : ∀ i, i < σ.length → ρ i ∈ σ := fun i hi => List.mem_of_getElem? (rold i hi)
  have rinj : ∀ i j, ρ i = ρ j → i = j := by
    intro i j e
    rcases Nat.lt_or_ge i σ.length with hi | hi <;> rcases Nat.lt_or_ge j σ.length with hj | hj
    · have h1 := rold i hi
      have h2 := rold j hj
      rw [e, ← h2] at h1
      exact (List.getElem?_inj hi hnd).1 h1
    · have := hlt _ (rmem i hi); have := rnew j hj; omega
    · have := hlt _ (rmem j hj); have := rnew i hi; omega
    · have := rnew i hi; have := rnew j hj; omega
  let ιc : Io := σ.map fun l => (ι[l]?).getD (0, 0)
  have hιc : ∀ i, i < σ.length → ιc[i]? = ι[ρ i]? := by
    intro i hi
    simp only [ιc, List.getElem?_map, rold i hi, Option.map_some]
    rw [List.getElem?_eq_getElem (hιl _ (rmem i hi))]; rfl
  have am : Among ρ ιc hc ι h := ⟨hh, fun i k hk => (hιc i (by rw [hlen]; exact get_lt hk)).symm⟩
  have hrc : HR G ιc hc w := HR.down am hr (by simp [ιc, hlen]) (fun i j _ _ e => rinj i j e) hcl
  have hvc : VRs G w ιc hc vs args := by
    refine ⟨by rw [hv.1, rnAs_len], fun i v x h1 h2 => ?_⟩
    exact (hv.2 i v (rnA ρ x) h1 (by rw [rnAs_get, h2]; rfl)).unrn am (hca x (List.mem_of_getElem? h2))
  refine (hf.out G ιc w vs hrc hvc).mono fun e w2 ⟨v, r, G2, ι2, hc2, he, hR, hr2, hvr, hx⟩ => ?_
  have hl2 : hc.length ≤ hc2.length := by
    rcases Nat.lt_or_ge hc2.length hc.length with hb | hb
    · obtain ⟨k', h1, _⟩ := hx.keep hc2.length _ (List.getElem?_eq_getElem hb)
      have := get_lt h1; omega
    · exact hb
  have hl2' : ι2.length = hc2.length := hr2.len
  have hset : (setAll h σ (rnH ρ hc2)).length = h.length := setAll_len σ h _
  have hseti : (setAll ι σ ι2).length = h.length := by rw [setAll_len, hr.len]
  have hbh : backH h σ hc2 = setAll h σ (rnH ρ hc2) ++ rnH ρ (hc2.drop σ.length) := by simp only [backH, hρ]
  -- the callee's blocks, at the caller
  have am2 : Among ρ ι2 hc2 (backI ι σ ι2) (backH h σ hc2) := by
    rw [hbh]
    constructor
    · intro i k hk
      rcases Nat.lt_or_ge i σ.length with hi | hi
      · rw [List.getElem?_append_left (by rw [hset]; exact hlt _ (rmem i hi))]
        exact setAll_at σ h _ i _ _ hnd hlt (rold i hi) (by rw [rnH_get, hk]; rfl)
      · rw [rnew i hi, List.getElem?_append_right (by omega), hset, rnH_get, List.getElem?_drop]
        rw [show σ.length + (h.length + (i - σ.length) - h.length) = i by omega, hk]; rfl
    · intro i k hk
      unfold backI
      have hi2 : ι2[i]? = some (ι2[i]'(by rw [hl2']; exact get_lt hk)) := List.getElem?_eq_getElem _
      rcases Nat.lt_or_ge i σ.length with hi | hi
      · rw [List.getElem?_append_left (by rw [hseti]; exact hlt _ (rmem i hi)), hi2]
        exact setAll_at σ ι _ i _ _ hnd hιl (rold i hi) hi2
      · rw [rnew i hi, List.getElem?_append_right (by omega), hseti, List.getElem?_drop]
        rw [show σ.length + (h.length + (i - σ.length) - h.length) = i by omega]
  -- each of the caller's blocks is one of the callee's, or as it was
  have part : ∀ l k', (backH h σ hc2)[l]? = some k' → (∃ i k, hc2[i]? = some k ∧ l = ρ i ∧ k' = rnB ρ k) ∨ (h[l]? = some k' ∧ l ∉ σ ∧ (backI ι σ ι2)[l]? = ι[l]?) := by
    intro l k' hk'
    by_cases hm : l ∈ σ
    · obtain ⟨i, hi, rfl⟩ := List.getElem_of_mem hm
      have e : σ[i] = ρ i := by have := rold i hi; rw [List.getElem?_eq_getElem hi] at this; exact Option.some.inj this
      have hki : hc2[i]? = some (hc2[i]'(by omega)) := List.getElem?_eq_getElem _
      have := am2.blk i _ hki
      rw [e, this] at hk'
      exact .inl ⟨i, _, hki, e, (Option.some.inj hk').symm⟩
    · rcases Nat.lt_or_ge l h.length with hl | hl
      · rw [hbh, List.getElem?_append_left (by omega), setAll_other σ h _ l hm] at hk'
        exact .inr ⟨hk', hm, by unfold backI; rw [List.getElem?_append_left (by omega), setAll_other σ ι _ l hm]⟩
      · rw [hbh, List.getElem?_append_right (by omega), hset, rnH_get, List.getElem?_drop, Option.map_eq_some_iff] at hk'
        obtain ⟨k, h1, rfl⟩ := hk'
        exact .inl ⟨_, k, h1, by rw [rnew _ (by omega)]; omega, rfl⟩
  have other : ∀ l b k, h[l]? = some k → l ∉ σ → own1 ι l k b → b < w.heap.size ∧ ¬ owned ιc hc b := by
    intro l b k h1 h2 h3
    refine ⟨owned_lt hr ⟨l, k, h1, h3⟩, fun ho => ?_⟩
    obtain ⟨i, kc, g1, g2, g3, g4⟩ := owned_rn am ho
    have := hr.own l (ρ i) b k _ h1 g4 h3 g3
    exact h2 (this ▸ rmem i (by rw [hlen]; exact get_lt g1))
  have same : ∀ l b k, h[l]? = some k → l ∉ σ → own1 ι l k b → w2.heap[b]? = w.heap[b]? := by
    intro l b k h1 h2 h3
    have := other l b k h1 h2 h3
    exact hx.frame b this.1 this.2
  have hext : Ext G ι h w G2 (backI ι σ ι2) (backH h σ hc2) w2 :=
    { size := hx.size
      quiet := hx.quiet
      frame := fun b hb ho => hx.frame b hb fun ho' => ho (owned_up am ho')
      gmono := hx.gmono
      gnew := fun b hb => by
        rcases hx.gnew b hb with h1 | h1 | h1
        · exact .inl h1
        · exact .inr (.inl h1)
        · exact .inr (.inr (owned_up am h1))
      onew := fun b ⟨l, k, h2, h3⟩ => by
        rcases part l k h2 with ⟨i, kc, g1, rfl, rfl⟩ | ⟨g1, g2, g3⟩
        · rcases hx.onew b ⟨i, kc, g1, (own1_rn (am2.at' i kc g1)).1 h3⟩ with h4 | h4
          · exact .inl (owned_up am h4)
          · exact .inr h4
        · exact .inl ⟨l, k, g1, own1_io h3 fun _ => g3.symm⟩
      keep := fun l k hk => by
        by_cases hm : l ∈ σ
        · obtain ⟨i, hi, rfl⟩ := List.getElem_of_mem hm
          have e : σ[i] = ρ i := by have := rold i hi; rw [List.getElem?_eq_getElem hi] at this; exact Option.some.inj this
          have hki : hc[i]? = some (hc[i]'(by omega)) := List.getElem?_eq_getElem _
          rw [e, hh i _ hki] at hk
          cases hk
          obtain ⟨k', g1, g2⟩ := hx.keep i _ hki
          exact ⟨rnB ρ k', by rw [e]; exact am2.blk i k' g1, by rw [e]; exact g2.rn (am.at' i _ hki) (am2.at' i k' g1)⟩
        · have hl : l < h.length := get_lt hk
          have e1 : (backH h σ hc2)[l]? = some k := by rw [hbh, List.getElem?_append_left (by omega), setAll_other σ h _ l hm]; exact hk
          have e2 : (backI ι σ ι2)[l]? = ι[l]? := by unfold backI; rw [List.getElem?_append_left (by omega), setAll_other σ ι _ l hm]
          exact ⟨k, e1, Kept.frame e2 fun b hb => same l b k hk hm hb⟩ }
  refine ⟨v, rnA ρ r, G2, backI ι σ ι2, backH h σ hc2, he, ⟨r, hc2, hR, rfl, rfl⟩, ?_, hvr.rn am2, hext⟩
  exact
    { len := by
        rw [hbh]; unfold backI
        simp only [List.length_append, hset, hseti, rnH_len, List.length_drop, hl2']
      own := by
        intro l l' b k k' h3 h4 h5 h6
        rcases part l k h3 with ⟨i, kc, g1, rfl, rfl⟩ | ⟨g1, g2, g3⟩ <;> rcases part l' k' h4 with ⟨i', kc', q1, rfl, rfl⟩ | ⟨q1, q2, q3⟩
        · rw [hr2.own i i' b kc kc' g1 q1 ((own1_rn (am2.at' i kc g1)).1 h5) ((own1_rn (am2.at' i' kc' q1)).1 h6)]
        · exfalso
          have ot := other l' b k' q1 q2 (own1_io h6 fun _ => q3.symm)
          rcases hx.onew b ⟨i, kc, g1, (own1_rn (am2.at' i kc g1)).1 h5⟩ with h7 | h7
          · exact ot.2 h7
          · omega
        · exfalso
          have ot := other l b k g1 g2 (own1_io h5 fun _ => g3.symm)
          rcases hx.onew b ⟨i', kc', q1, (own1_rn (am2.at' i' kc' q1)).1 h6⟩ with h7 | h7
          · exact ot.2 h7
          · omega
        · exact hr.own l l' b k k' g1 q1 (own1_io h5 fun _ => g3.symm) (own1_io h6 fun _ => q3.symm)
      g := by
        intro b hb
        refine ⟨(hr2.g b hb).1, fun ⟨l, k, h2, h3⟩ => ?_⟩
        rcases part l k h2 with ⟨i, kc, g1, rfl, rfl⟩ | ⟨g1, g2, g3⟩
        · exact (hr2.g b hb).2 ⟨i, kc, g1, (own1_rn (am2.at' i kc g1)).1 h3⟩
        · have h3' : own1 ι l k b := own1_io h3 fun _ => g3.symm
          have ot := other l b k g1 g2 h3'
          rcases hx.gnew b hb with h4 | h4 | h4
          · exact (hr.g b h4).2 ⟨l, k, g1, h3'⟩
          · omega
          · exact ot.2 h4
      blk := by
        intro l k hk
        rcases part l k hk with ⟨i, kc, g1, rfl, rfl⟩ | ⟨g1, g2, g3⟩
        · exact BR.rn am2 g1 (hr2.blk i kc g1)
        · exact BR.ext hext hr g1 g3 fun b hb => same l b k g1 g2 hb }
end Go.Ab

/-
  Calls by a contract over a few blocks.
-/
namespace Go.Ab
open Go.Proofs
def frOk (h : Hp) (ρ : Nat → Nat) : Nat → Hp → Prop
 | _, [] => True
 | n, k :: r => h[ρ n]? = some (rnB ρ k) ∧ frOk h ρ (n + 1) r
theorem frOk_get {h : Hp} {ρ : Nat → Nat} : ∀ {hc : Hp} {n : Nat}, frOk h ρ n hc → ∀ i k, hc[i]? = some k → h[ρ (n + i)]? = some (rnB ρ k) := by
 intro hc
 induction hc with
 | nil => intro n _ i k h; simp at h
 | cons b r ih =>
  intro n ⟨h1, h2⟩ i k hk
  cases i with
  | zero => simp at hk; subst hk; exact h1
  | succ i =>
   simp at hk
   have := ih h2 i k hk
   rw [show n + 1 + i = n + (i + 1) by omega] at this; exact this
theorem call_fr {P : Program} {m : Nat} {L : Lv} {h : Hp} {f : Nat} {xs : List X} {K : Lv → AV → Hp → Prop} {args : List AV} {hc : Hp} {R : AV → Hp → Prop} (σ : List Nat) (hf : FnS P f args hc R) (ha : evsN L xs = rnAs (rho σ h.length) args) (hlen : σ.length = hc.length) (hnd : σ.Nodup)
  (hh : frOk h (rho σ h.length) 0 hc) (hcl : refsH hc.length hc = true) (hca : args.all (refsA hc.length) = true) (k : ∀ r hc', R r hc' → K L (rnA (rho σ h.length) r) (backH h σ hc')) : CallS P m false L h f xs K := by
 refine .fn ?_
 rw [ha]
 refine (hf.frame σ h hlen hnd (fun i b hb => by have := frOk_get hh i b hb; rw [Nat.zero_add] at this; exact this) hcl fun x hx => List.all_eq_true.1 hca x hx).mono ?_
 rintro r h' ⟨r0, hc', h1, rfl, rfl⟩
 exact k r0 hc' h1
theorem heap_start {P : Program} {f : Nat} {fn : Func} {af : AF} {args : List AV} {h : Hp} {R : AV → Hp → Prop} (hm : P.follows .mixedOrders = true) (hf : P.funcs[f]? = some fn) (hc : compF P fn = some af) (hl : args.length ≤ af.nt)
  (hv : ∀ Λ : Len, (∀ l, Λ l = (l.length : Int)) → ∀ K : AV → Hp → Prop, (∀ r h', R r h' → K r h') → vcH P Λ af args h K) : FnS P f args h R := fn_heap hm hf hc hl fun Λ h => hv Λ h _ fun _ _ h => h
end Go.Ab

/-
  Maps whose keys are numbers.
-/
namespace Go.Ab
open Go.Proofs
abbrev Isc := List (Int × DV)
def encZ (e : Int × DV) : DV × DV := (.s (iD e.1), e.2)
def ifind (k : Int) : Isc → Nat → Option (Nat × DV)
 | [], _ => none
 | e :: r, i => if k = e.1 then some (i, e.2) else ifind k r (i + 1)
theorem eqc_int (a x : Int) : eqc [.d (.int .i64 a)] [.d (.int .i64 x)] [(0, 0)] = some (decide (a = x)) := by
 have e : eqc [.d (.int .i64 a)] [.d (.int .i64 x)] [(0, 0)] = some ((a == x) && true) := rfl
 rw [e]
 by_cases h1 : a = x
 ·simp [h1]
 ·simp [h1]
theorem mfind_ints (a : Int) : ∀ (m : Isc) (i : Nat), mfind true 1 [(0, 0)] (.s (.int .i64 a)) (m.map encZ) i = some (ifind a m i) := by
 intro m
 induction m with
 | nil => intro i; rfl
 | cons e r ih =>
  intro i
  obtain ⟨x, v⟩ := e
  have e1 : mfind true 1 [(0, 0)] (.s (.int .i64 a)) (List.map encZ ((x, v) :: r)) i =
    (match eqc [.d (.int .i64 a)] [.d (.int .i64 x)] [(0, 0)] with
    | some true => some (some (i, v))
    | some false => mfind true 1 [(0, 0)] (.s (.int .i64 a)) (List.map encZ r) (i + 1)
    | none => none) := rfl
  rw [e1, eqc_int]
  simp only [ifind]
  by_cases h : a = x
  ·rw [decide_eq_true h, if_pos h]
  ·rw [decide_eq_false h, if_neg h]; exact ih (i + 1)
theorem vlk_ints {a : Int} {m : Isc} {ml : List (DV × DV)} {ok : Bool} {z : AV} {K : AV → Prop} (mlh : m.map encZ = ml) (h0 : ifind a m 0 = none → K (lkR ok z false)) (h1 : ∀ i v, ifind a m 0 = some (i, v) → K (lkR ok (avDV v) true)) :
  ∀ r, mfind true 1 [(0, 0)] (.s (.int .i64 a)) ml 0 = r → vLk ok z K r := by
 intro r hr
 rw [← mlh, mfind_ints] at hr
 subst hr
 cases hp : ifind a m 0 with
 | none => exact h0 hp
 | some p => exact h1 p.1 p.2 hp
theorem vup_ints {a : Int} {m : Isc} {ml : List (DV × DV)} {vd : DV} {K : List (DV × DV) → Prop} (mlh : m.map encZ = ml) (h0 : ifind a m 0 = none → ∀ es', (m ++ [(a, vd)]).map encZ = es' → K es') (h1 : ∀ i v, ifind a m 0 = some (i, v) → ∀ es', (m.set i (a, vd)).map encZ = es' → K es') :
  ∀ r, mfind true 1 [(0, 0)] (.s (.int .i64 a)) ml 0 = r → vUp ml (.s (.int .i64 a)) vd K r := by
 intro r hr
 have hm : mfind true 1 [(0, 0)] (.s (.int .i64 a)) ml 0 = some (ifind a m 0) := by rw [← mlh, mfind_ints]
 rw [hm] at hr
 subst hr
 cases hp : ifind a m 0 with
 | none => intro es' he; exact h0 hp es' (by rw [he, ← mlh]; simp [encZ])
 | some p => intro es' he; exact h1 p.1 p.2 hp es' (by rw [he, ← mlh, List.map_set]; rfl)
theorem ifind_none {k : Int} {m : Isc} : ∀ {i : Nat}, ifind k m i = none ↔ k ∉ m.map (·.1) := by
 induction m with
 | nil => intro i; simp [ifind]
 | cons e r ih =>
  intro i
  simp only [ifind, List.map_cons, List.mem_cons, not_or]
  split
  ·rename_i h; simp [h]
  ·rename_i h; rw [ih]; simp [h]
theorem ifind_some {k : Int} {m : Isc} {v : DV} : ∀ {i j : Nat}, ifind k m i = some (j, v) → i ≤ j ∧ m[j - i]? = some (k, v) := by
 induction m with
 | nil => intro i j h; simp [ifind] at h
 | cons e r ih =>
  intro i j h
  simp only [ifind] at h
  split at h
  ·rename_i hk
   cases h
   exact ⟨Nat.le_refl _, by rw [hk]; simp⟩
  ·obtain ⟨h1, h2⟩ := ih h
   refine ⟨by omega, ?_⟩
   rw [show j - i = (j - (i + 1)) + 1 by omega]; simpa using h2
end Go.Ab

/-
  Small numbers without a sign.
-/
namespace Go.Ab
open Go.Proofs
theorem wrapu32 {x : Int} (h : 0 ≤ x) (h' : x < 4294967296) : IntKind.u32.wrap x = x := by
 have : IntKind.u32.wrap x = x % 4294967296 := by
  simp [IntKind.wrap, IntKind.bits, IntKind.signed]
 rw [this]; omega
theorem wrapu64 {x : Int} (h : 0 ≤ x) (h' : x < 18446744073709551616) : IntKind.u64.wrap x = x := by
 have : IntKind.u64.wrap x = x % 18446744073709551616 := by
  simp [IntKind.wrap, IntKind.bits, IntKind.signed]
 rw [this]; omega
theorem bv32 {m : Nat} : BitVec.ofInt 32 (m : Int) = BitVec.ofNat 32 m := BitVec.ofInt_natCast 32 m
theorem or_lt {m n : Nat} (hm : m < 4294967296) (hn : n < 4294967296) : m ||| n < 4294967296 := Nat.or_lt_two_pow (n := 32) hm hn
theorem orU {a b c : Int} {m n : Nat} (ha : a = m) (hb : b = n) (hm : m < 4294967296) (hn : n < 4294967296) (hc : c = ((m ||| n : Nat) : Int)) : binD .or (.int .u32 a) (.int .u32 b) = some (.int .u32 c) := by
 subst ha hb hc
 have e : binD .or (.int .u32 m) (.int .u32 n) = some (.int .u32 (IntKind.u32.wrap (BitVec.ofInt 32 (m : Int) ||| BitVec.ofInt 32 (n : Int)).toNat)) := rfl
 rw [e, bv32, bv32, BitVec.toNat_or, BitVec.toNat_ofNat, BitVec.toNat_ofNat, Nat.mod_eq_of_lt hm, Nat.mod_eq_of_lt hn, wrapu32 (by omega) (by have := or_lt hm hn; omega)]
theorem andU {a b c : Int} {m n : Nat} (ha : a = m) (hb : b = n) (hm : m < 4294967296) (hn : n < 4294967296) (hc : c = ((m &&& n : Nat) : Int)) : binD .and (.int .u32 a) (.int .u32 b) = some (.int .u32 c) := by
 subst ha hb hc
 have e : binD .and (.int .u32 m) (.int .u32 n) = some (.int .u32 (IntKind.u32.wrap (BitVec.ofInt 32 (m : Int) &&& BitVec.ofInt 32 (n : Int)).toNat)) := rfl
 have hl : m &&& n ≤ m := Nat.and_le_left
 rw [e, bv32, bv32, BitVec.toNat_and, BitVec.toNat_ofNat, BitVec.toNat_ofNat, Nat.mod_eq_of_lt hm, Nat.mod_eq_of_lt hn, wrapu32 (by omega) (by omega)]
theorem andNotU {a b : Int} {m n : Nat} (ha : a = m) (hb : b = n) (hm : m < 4294967296) (hn : n < 4294967296) : ∃ c : Int, binD .andNot (.int .u32 a) (.int .u32 b) = some (.int .u32 c) ∧ (c = 0 ↔ ∀ i, m.testBit i = true → n.testBit i = true) := by
 subst ha hb
 have e : binD .andNot (.int .u32 m) (.int .u32 n) = some (.int .u32 (IntKind.u32.wrap (BitVec.ofInt 32 (m : Int) &&& ~~~ BitVec.ofInt 32 (n : Int)).toNat)) := rfl
 refine ⟨_, e, ?_⟩
 have h1 : (BitVec.ofInt 32 (m : Int) &&& ~~~ BitVec.ofInt 32 (n : Int)).toNat < 4294967296 := BitVec.isLt _
 rw [wrapu32 (by omega) (by omega), bv32, bv32]
 have hbit : ∀ i, (BitVec.ofNat 32 m &&& ~~~ BitVec.ofNat 32 n).toNat.testBit i = (m.testBit i && !n.testBit i) := by
  intro i
  rw [BitVec.testBit_toNat, BitVec.getLsbD_and, BitVec.getLsbD_not, BitVec.getLsbD_ofNat, BitVec.getLsbD_ofNat]
  by_cases hi : i < 32
  ·simp [hi]
  ·have h2 : m.testBit i = false := Nat.testBit_lt_two_pow (Nat.lt_of_lt_of_le hm (by rw [show (4294967296 : Nat) = 2 ^ 32 from rfl]; exact Nat.pow_le_pow_right (by omega) (by omega)))
   simp [hi, h2]
 constructor
 ·intro h i hi
  have h0 : (BitVec.ofNat 32 m &&& ~~~ BitVec.ofNat 32 n).toNat = 0 := by omega
  have := hbit i
  rw [h0, Nat.zero_testBit, hi] at this
  simpa using this.symm
 ·intro h
  have : (BitVec.ofNat 32 m &&& ~~~ BitVec.ofNat 32 n).toNat = 0 := by
   apply Nat.eq_of_testBit_eq
   intro i
   rw [hbit, Nat.zero_testBit]
   cases hm' : m.testBit i with
   | false => rfl
   | true => rw [h i hm']; rfl
  omega
theorem shlU {b c : Int} {i : Nat} (hb : b = i) (hi : i < 32) (hc : c = IntKind.u32.wrap (1 * 2 ^ (min b.toNat (IntKind.bits .u32)))) : c = ((2 ^ i : Nat) : Int) := by
 subst hb
 have h1 : min (i : Int).toNat (IntKind.bits .u32) = i := by
  show min (i : Int).toNat 32 = i
  omega
 have h2 : 2 ^ i < 4294967296 := Nat.pow_lt_pow_right (by omega) hi
 have h3 : ((2 : Int) ^ i) = ((2 ^ i : Nat) : Int) := (Int.natCast_pow 2 i).symm
 rw [h1, Int.one_mul, h3] at hc
 generalize 2 ^ i = q at *
 rw [hc, wrapu32 (by omega) (by omega)]
theorem pow_lt32 {i : Nat} (hi : i < 32) : 2 ^ i < 4294967296 := Nat.pow_lt_pow_right (by omega) hi
theorem shrU {a b c : Int} {m i : Nat} (ha : a = m) (hb : b = i) (hi : i < 32) (hc : c = a.fdiv (2 ^ (min b.toNat (IntKind.bits .u32)))) : c = ((m / 2 ^ i : Nat) : Int) := by
 subst ha hb
 have h1 : min (i : Int).toNat (IntKind.bits .u32) = i := by
  show min (i : Int).toNat 32 = i
  omega
 have h3 : ((2 : Int) ^ i) = ((2 ^ i : Nat) : Int) := (Int.natCast_pow 2 i).symm
 rw [h1, h3, Int.fdiv_eq_ediv_of_nonneg _ (Int.natCast_nonneg _)] at hc
 rw [hc, Int.natCast_ediv]
end Go.Ab

/-
  Compressing, part a: prefixes.
-/
namespace Go.Ab
open Go.Proofs
structure Pfx where
 (addr len : Int)
structure Rt where
 (p : Pfx) (val : Int)
instance : Inhabited Pfx := ⟨⟨0, 0⟩⟩
instance : Inhabited Rt := ⟨⟨default, 0⟩⟩
theorem Pfx.ext' {p q : Pfx} (h1 : p.addr = q.addr) (h2 : p.len = q.len) : p = q := by cases p; cases q; simp only at h1 h2; rw [h1, h2]
instance : DecidableEq Pfx := fun p q => if h : p.addr = q.addr ∧ p.len = q.len then isTrue (Pfx.ext' h.1 h.2) else isFalse fun e => h (by rw [e]; exact ⟨rfl, rfl⟩)
abbrev u32D (n : Int) : D := .int .u32 n
abbrev pfA (p : Pfx) : AV := .agg [.d (u32D p.addr), .d (iD p.len)]
def encRt (r : Rt) : List D := [u32D r.p.addr, iD r.p.len, iD r.val]
abbrev rtsD (l : List Rt) : D := .list false 3 (l.map encRt)
abbrev rtsA (l : List Rt) : AV := .c (.d (rtsD l))
def inU (x : Int) : Prop := 0 ≤ x ∧ x < 4294967296
def szP (n : Int) : Nat := 2 ^ (32 - n.toNat)
def maskN (n : Int) : Int := 4294967296 - szP n
def validP (p : Pfx) : Bool := decide (0 ≤ p.len ∧ p.len ≤ 32 ∧ p.addr % szP p.len = 0)
def contP (p : Pfx) (x : Int) : Bool := validP p && decide (p.addr ≤ x ∧ x < p.addr + szP p.len)
def covP (p q : Pfx) : Bool := validP q && contP p q.addr && decide (p.len ≤ q.len)
def loP (p : Pfx) : Pfx := ⟨p.addr, p.len + 1⟩
def hiP (p : Pfx) : Pfx := ⟨p.addr + szP (p.len + 1), p.len + 1⟩
def cmpP (p q : Pfx) : Int := if p.addr < q.addr ∨ p.addr = q.addr ∧ p.len < q.len then -1 else if p = q then 0 else 1
theorem szP_pos (n : Int) : 0 < szP n := Nat.two_pow_pos _
theorem szP_le (n : Int) : szP n ≤ 4294967296 := by
 rw [show (4294967296 : Nat) = 2 ^ 32 from rfl]
 exact Nat.pow_le_pow_right (by omega) (by omega)
theorem szP_split {n : Int} (h0 : 0 ≤ n) (h1 : n < 32) : szP n = 2 * szP (n + 1) := by
 rw [szP, szP, show 32 - n.toNat = (32 - (n + 1).toNat) + 1 by omega, Nat.pow_succ]; omega
theorem szP_dvd {m n : Int} (h : m ≤ n) : szP n ∣ szP m := Nat.pow_dvd_pow 2 (by omega)
/-! masks -/
theorem mask_bit {k i : Nat} (hk : k ≤ 32) : (4294967296 - 2 ^ k).testBit i = decide (k ≤ i ∧ i < 32) := by
 have e : 4294967296 - 2 ^ k = 2 ^ k * (2 ^ (32 - k) - 1) := by
  rw [Nat.mul_sub, ← Nat.pow_add, show k + (32 - k) = 32 by omega]; omega
 rw [e, Nat.testBit_two_pow_mul, Nat.testBit_two_pow_sub_one]
 by_cases h : k ≤ i
 ·simp [h]; omega
 ·simp [h]
theorem low_bits {a k : Nat} : (∀ i, i < k → a.testBit i = false) ↔ a % 2 ^ k = 0 := by
 constructor
 ·intro h
  apply Nat.eq_of_testBit_eq
  intro i
  rw [Nat.testBit_mod_two_pow, Nat.zero_testBit]
  by_cases hi : i < k
  ·simp [h i hi]
  ·simp [hi]
 ·intro h i hi
  have := Nat.testBit_mod_two_pow a k i
  rw [h, Nat.zero_testBit] at this
  simpa [hi] using this.symm
theorem high_bit {a i : Nat} (h : a < 4294967296) (hb : a.testBit i = true) : i < 32 := by
 apply Classical.byContradiction
 intro hn
 have := Nat.testBit_lt_two_pow (x := a) (i := i) (Nat.lt_of_lt_of_le h (by rw [show (4294967296 : Nat) = 2 ^ 32 from rfl]; exact Nat.pow_le_pow_right (by omega) (by omega)))
 rw [this] at hb; cases hb
theorem and_mask {a k : Nat} (ha : a < 4294967296) (hk : k ≤ 32) : a &&& (4294967296 - 2 ^ k) = 2 ^ k * (a / 2 ^ k) := by
 apply Nat.eq_of_testBit_eq
 intro i
 rw [Nat.testBit_and, mask_bit hk, Nat.testBit_two_pow_mul, Nat.testBit_div_two_pow]
 by_cases h : k ≤ i
 ·rw [show i - k + k = i by omega]
  cases hb : a.testBit i with
  | false => simp
  | true => simp [h, high_bit ha hb]
 ·simp [h]
theorem not_mask {a k : Nat} (ha : a < 4294967296) (hk : k ≤ 32) : (∀ i, a.testBit i = true → (4294967296 - 2 ^ k).testBit i = true) ↔ a % 2 ^ k = 0 := by
 rw [← low_bits]
 constructor
 ·intro h i hi
  cases hb : a.testBit i with
  | false => rfl
  | true =>
   have := h i hb
   rw [mask_bit hk, decide_eq_true_iff] at this
   omega
 ·intro h i hb
  rw [mask_bit hk, decide_eq_true_iff]
  refine ⟨?_, high_bit ha hb⟩
  apply Classical.byContradiction
  intro hn
  rw [h i (by omega)] at hb; cases hb
theorem shl_mask {n c : Int} (h0 : 0 ≤ n) (h1 : n ≤ 32) (hc : c = IntKind.u64.wrap (4294967295 * 2 ^ (min (32 - n).toNat (IntKind.bits .u64)))) : IntKind.u32.wrap c = maskN n := by
 subst hc
 have hall : ∀ k : Fin 33, IntKind.u32.wrap (IntKind.u64.wrap (4294967295 * 2 ^ (min (32 - (k.val : Int)).toNat (IntKind.bits .u64)))) = maskN k.val := by decide +kernel
 have := hall ⟨n.toNat, by omega⟩
 simp only [Int.toNat_of_nonneg h0] at this
 exact this
theorem maskN_rg (n : Int) : 0 ≤ maskN n ∧ maskN n < 4294967296 := by
 have := szP_pos n; have := szP_le n
 rw [maskN]; omega
theorem maskN_nat (n : Int) : maskN n = ((4294967296 - 2 ^ (32 - n.toNat) : Nat) : Int) := by
 have := szP_le n
 rw [maskN]; rw [szP] at *; omega
theorem pmask_ok (P : Program) (hP : P = Try.prog) (n : Int) (h0 : 0 ≤ n) (h1 : n ≤ 32) : Ret P n_prefix_mask [iA n] (.c (.d (u32D (maskN n)))) := by
 refine ret_start (hP ▸ mixed) (hP ▸ fn_prefix_mask) (hP ▸ c_prefix_mask) (Nat.le_of_ble_eq_true rfl) fun Λ Λo K hK => ?_
 clear hP
 obtain ⟨d, hd⟩ : ∃ d : Int, d = 32 - n := ⟨_, rfl⟩
 have hm : ∀ c : Int, c = IntKind.u64.wrap (4294967295 * 2 ^ (min d.toNat (IntKind.bits .u64))) → IntKind.u32.wrap c = maskN n := fun c hc => shl_mask h0 h1 (by rw [hc, hd])
 generalize maskN n = mk at *
 conv => cbv
 repeat' first | (intro (k : Int) hk; rw [wrap_small (by omega) (by omega)] at hk; refine (fun (hz : d = k) => ?_) ?_; rotate_left; omega; subst hz; (conv => cbv)) | exact gu | exact trivial | refine And.intro ?_ ?_ | (intro hc; exact absurd hc (by decide)) | (intro hc; exfalso; omega) | (intro hc; (first | rw [wrap_small (by omega) (by omega)] at hc | rw [nI_eq] at hc | skip); try (conv => cbv)) | refine CallG.old ?_
 rename_i c1 hc1 c2
 have e := hc.trans (hm c1 hc1)
 subst e
 exact hK
theorem valid_bits {a n : Int} (ha : inU a) (h0 : 0 ≤ n) (h1 : n ≤ 32) : ∃ c : Int, binD .andNot (.int .u32 a) (.int .u32 (maskN n)) = some (.int .u32 c) ∧ (c = 0 ↔ a % szP n = 0) := by
 obtain ⟨m, hm⟩ : ∃ m : Nat, a = m := ⟨a.toNat, (Int.toNat_of_nonneg ha.1).symm⟩
 have hml : m < 4294967296 := by have := ha.2; omega
 have hmk := maskN_rg n
 obtain ⟨c, h2, h3⟩ := andNotU (a := a) (b := maskN n) hm (maskN_nat n) hml (by have := maskN_nat n; omega)
 refine ⟨c, h2, h3.trans ((not_mask hml (by omega)).trans ?_)⟩
 rw [hm, szP]
 omega
theorem pvalid_ok (P : Program) (hP : P = Try.prog) (p : Pfx) (hp : inU p.addr) : Ret P n_prefix_Valid [pfA p] (bA (validP p)) := by
 have hmk := fun h0 h1 => pmask_ok P hP p.len h0 h1
 have hbt := fun h0 h1 => valid_bits (a := p.addr) (n := p.len) hp h0 h1
 refine ret_start (hP ▸ mixed) (hP ▸ fn_prefix_Valid) (hP ▸ c_prefix_Valid) (Nat.le_of_ble_eq_true rfl) fun Λ Λo K hK => ?_
 clear hP
 obtain ⟨addr, len⟩ := p
 have yes : 0 ≤ len → len ≤ 32 → addr % szP len = 0 → K (bA true) := fun h0 h1 h2 => by rw [validP, decide_eq_true (by exact ⟨h0, h1, h2⟩)] at hK; exact hK
 have no : ¬ (0 ≤ len ∧ len ≤ 32 ∧ addr % szP len = 0) → K (bA false) := fun h => by rw [validP, decide_eq_false h] at hK; exact hK
 clear hK
 simp only at hmk hbt
 generalize maskN len = mk at *
 by_cases hr : 0 ≤ len ∧ len ≤ 32
 ·obtain ⟨cz, hb1, hb2⟩ := hbt hr.1 hr.2
  have hmk := hmk hr.1 hr.2
  conv => cbv
  repeat' first | (refine call_r hmk rfl rfl ?_; conv => cbv) | (refine ⟨.int .u32 cz, hb1, ?_⟩; intro d' hd; subst hd; (conv => cbv)) | exact gu | exact trivial | refine And.intro ?_ ?_ | (intro hc; exact absurd hc (by decide)) | (intro hc; exfalso; omega) | (intro hc; (first | rw [wrap_small (by omega) (by omega)] at hc | rw [nI_eq] at hc | skip); try (conv => cbv)) | refine CallG.old ?_
  all_goals first
   | exact yes hr.1 hr.2 (hb2.1 (by assumption))
   | exact no fun h => absurd (hb2.2 h.2.2) (by assumption)
 ·have no := no fun h => hr ⟨h.1, h.2.1⟩
  clear hmk hbt yes
  conv => cbv
  repeat' first | exact gu | exact trivial | refine And.intro ?_ ?_ | (intro hc; exact absurd hc (by decide)) | (intro hc; exfalso; omega) | (intro hc; (first | rw [wrap_small (by omega) (by omega)] at hc | rw [nI_eq] at hc | skip); try (conv => cbv)) | refine CallG.old ?_
  all_goals exact no
theorem cont_bits {a n x : Int} (ha : inU x) (h0 : 0 ≤ n) (h1 : n ≤ 32) : binD .and (.int .u32 x) (.int .u32 (maskN n)) = some (.int .u32 (x - x % szP n)) := by
 obtain ⟨m, hm⟩ : ∃ m : Nat, x = m := ⟨x.toNat, (Int.toNat_of_nonneg ha.1).symm⟩
 have hml : m < 4294967296 := by have := ha.2; omega
 have hmk := maskN_rg n
 refine andU hm (maskN_nat n) hml (by have := maskN_nat n; omega) ?_
 rw [and_mask hml (by omega), hm, szP]
 have := Nat.div_add_mod m (2 ^ (32 - n.toNat))
 omega
theorem cont_iff {p : Pfx} {x : Int} (hv : validP p = true) : (x - x % szP p.len = p.addr) ↔ (p.addr ≤ x ∧ x < p.addr + szP p.len) := by
 have h1 := (of_decide_eq_true hv).2.2
 have hs : (0 : Int) < szP p.len := by have := szP_pos p.len; omega
 generalize (szP p.len : Int) = s at *
 have e0 := Int.emod_nonneg x (b := s) (by omega)
 have e1 := Int.emod_lt_of_pos x (b := s) (by omega)
 constructor
 ·intro h; omega
 ·rintro ⟨h2, h3⟩
  have h4 : (x - p.addr) % s = x - p.addr := Int.emod_eq_of_lt (by omega) (by omega)
  rw [Int.sub_emod, h1, Int.sub_zero, Int.emod_emod] at h4
  omega
theorem pcont_ok (P : Program) (hP : P = Try.prog) (p : Pfx) (x : Int) (hp : inU p.addr) (hx : inU x) : Ret P n_prefix_Contains [pfA p, .c (.d (u32D x))] (bA (contP p x)) := by
 have hva := pvalid_ok P hP p hp
 have hmk := fun h0 h1 => pmask_ok P hP p.len h0 h1
 have hbt := fun h0 h1 => cont_bits (a := p.addr) (n := p.len) hx h0 h1
 have hci := @cont_iff p x
 have hvr : validP p = true → 0 ≤ p.len ∧ p.len ≤ 32 := fun h => ⟨(of_decide_eq_true h).1, (of_decide_eq_true h).2.1⟩
 refine ret_start (hP ▸ mixed) (hP ▸ fn_prefix_Contains) (hP ▸ c_prefix_Contains) (Nat.le_of_ble_eq_true rfl) fun Λ Λo K hK => ?_
 clear hP
 rw [contP] at hK
 generalize validP p = V at *
 obtain ⟨addr, len⟩ := p
 have yes : V = true → (addr ≤ x ∧ x < addr + szP len) → K (bA true) := fun h0 h1 => by rw [h0, decide_eq_true h1] at hK; exact hK
 have no : V = false ∨ ¬ (addr ≤ x ∧ x < addr + szP len) → K (bA false) := fun h => by
  rcases h with h | h
  ·rw [h] at hK; exact hK
  ·rw [decide_eq_false h, Bool.and_false] at hK; exact hK
 clear hK
 simp only at hmk hbt hci hvr
 generalize maskN len = mk at *
 generalize x - x % szP len = y at *
 cases V with
 | false =>
  have no := no (.inl rfl)
  clear hmk hbt yes hci
  conv => cbv
  repeat' first | refine call_b hva rfl rfl ?_ ?_ | exact gu | exact trivial | refine And.intro ?_ ?_ | (intro hc; exact absurd hc (by decide)) | (intro hc; exfalso; omega) | (intro hc; (first | rw [wrap_small (by omega) (by omega)] at hc | rw [nI_eq] at hc | skip); try (conv => cbv)) | refine CallG.old ?_
  all_goals exact no
 | true =>
  obtain ⟨r0, r1⟩ := hvr rfl
  have hb1 := hbt r0 r1
  have hmk := hmk r0 r1
  have hci := hci rfl
  conv => cbv
  repeat' first | refine call_b hva rfl rfl ?_ ?_ | (refine call_r hmk rfl rfl ?_; conv => cbv) | (refine ⟨.int .u32 y, hb1, ?_⟩; intro d' hd; subst hd; (conv => cbv)) | exact gu | exact trivial | refine And.intro ?_ ?_ | (intro hc; exact absurd hc (by decide)) | (intro hc; exfalso; omega) | (intro hc; (first | rw [wrap_small (by omega) (by omega)] at hc | rw [nI_eq] at hc | skip); try (conv => cbv)) | refine CallG.old ?_
  all_goals first
   | exact yes rfl (hci.1 (by assumption))
   | exact no (.inr fun h => absurd (hci.2 h) (by assumption))
theorem pcov_ok (P : Program) (hP : P = Try.prog) (p q : Pfx) (hp : inU p.addr) (hq : inU q.addr) : Ret P n_prefix_Covers [pfA p, pfA q] (bA (covP p q)) := by
 have hva := pvalid_ok P hP q hq
 have hco := pcont_ok P hP p q.addr hp hq
 refine ret_start (hP ▸ mixed) (hP ▸ fn_prefix_Covers) (hP ▸ c_prefix_Covers) (Nat.le_of_ble_eq_true rfl) fun Λ Λo K hK => ?_
 clear hP
 rw [covP] at hK
 generalize validP q = V at *
 generalize contP p q.addr = C at *
 obtain ⟨pa, pl⟩ := p
 obtain ⟨qa, ql⟩ := q
 simp only at hva hco hK
 by_cases hl : pl ≤ ql
 ·rw [decide_eq_true hl] at hK
  cases V <;> cases C <;> conv => cbv
  all_goals repeat' first | refine call_b hva rfl rfl ?_ ?_ | refine call_b hco rfl rfl ?_ ?_ | exact gu | exact trivial | refine And.intro ?_ ?_ | (intro hc; exact absurd hc (by decide)) | (intro hc; exfalso; omega) | (intro hc; (first | rw [wrap_small (by omega) (by omega)] at hc | rw [nI_eq] at hc | skip); try (conv => cbv)) | refine CallG.old ?_
  all_goals exact hK
 ·rw [decide_eq_false hl] at hK
  cases V <;> cases C <;> conv => cbv
  all_goals repeat' first | refine call_b hva rfl rfl ?_ ?_ | refine call_b hco rfl rfl ?_ ?_ | exact gu | exact trivial | refine And.intro ?_ ?_ | (intro hc; exact absurd hc (by decide)) | (intro hc; exfalso; omega) | (intro hc; (first | rw [wrap_small (by omega) (by omega)] at hc | rw [nI_eq] at hc | skip); try (conv => cbv)) | refine CallG.old ?_
  all_goals exact hK
end Go.Ab

/-
  Compressing, part b: halves of prefixes, and their order; the reference's prefixes.
-/
namespace Go.Ab
open Go.Proofs
theorem hi_or {a n : Int} (ha : inU a) (h0 : 0 ≤ n) (h1 : n < 32) (hv : a % szP n = 0) : ∀ c : Int, c = IntKind.u32.wrap (1 * 2 ^ (min (31 - n).toNat (IntKind.bits .u32))) → binD .or (.int .u32 a) (.int .u32 c) = some (.int .u32 (a + szP (n + 1))) := by
 intro c hc
 obtain ⟨m, hm⟩ : ∃ m : Nat, a = m := ⟨a.toNat, (Int.toNat_of_nonneg ha.1).symm⟩
 have hml : m < 4294967296 := by have := ha.2; omega
 have hk : szP (n + 1) = 2 ^ (31 - n.toNat) := by rw [szP, show 32 - (n + 1).toNat = 31 - n.toNat by omega]
 have hc2 := shlU (b := 31 - n) (i := 31 - n.toNat) (by omega) (by omega) hc
 refine orU hm hc2 hml (pow_lt32 (by omega)) ?_
 have hz : m % 2 ^ (31 - n.toNat + 1) = 0 := by
  rw [szP, show 32 - n.toNat = 31 - n.toNat + 1 by omega] at hv
  rw [hm] at hv
  omega
 rw [hm, hk]
 have : m ||| 2 ^ (31 - n.toNat) = m + 2 ^ (31 - n.toNat) := by
  have h1 := Nat.two_pow_add_eq_or_of_lt (i := 31 - n.toNat + 1) (b := 2 ^ (31 - n.toNat)) (by rw [Nat.pow_succ]; have := Nat.two_pow_pos (31 - n.toNat); omega) (m / 2 ^ (31 - n.toNat + 1))
  have h2 := Nat.div_add_mod m (2 ^ (31 - n.toNat + 1))
  rw [hz, Nat.add_zero] at h2
  rw [h2] at h1
  exact h1.symm
 rw [this]; omega
theorem psplit_ok (P : Program) (hP : P = Try.prog) (p : Pfx) (hp : inU p.addr) (hv : validP p = true) (h32 : p.len ≠ 32) : Ret P n_prefix_Split [pfA p] (.tup [pfA (loP p), pfA (hiP p), iA 0]) := by
 have hva := pvalid_ok P hP p hp
 obtain ⟨v0, v1, v2⟩ := of_decide_eq_true hv
 have hor := hi_or hp v0 (by omega) v2
 rw [hv] at hva
 refine ret_start (hP ▸ mixed) (hP ▸ fn_prefix_Split) (hP ▸ c_prefix_Split) (Nat.le_of_ble_eq_true rfl) fun Λ Λo K hK => ?_
 clear hP
 obtain ⟨addr, len⟩ := p
 simp only [loP, hiP] at *
 obtain ⟨n1, hn1⟩ : ∃ n1, n1 = len + 1 := ⟨_, rfl⟩
 obtain ⟨d, hd⟩ : ∃ d, d = 31 - len := ⟨_, rfl⟩
 rw [← hn1] at hor hK
 rw [← hd] at hor
 generalize addr + (szP n1 : Int) = y at *
 conv => cbv
 repeat' first | refine call_b hva rfl rfl ?_ ?_ | (intro (k : Int) hk; rw [wrap_small (by omega) (by omega)] at hk; refine (fun (hz : n1 = k) => ?_) ?_; rotate_left; omega; subst hz; (conv => cbv)) | (intro (k : Int) hk; rw [wrap_small (by omega) (by omega)] at hk; refine (fun (hz : d = k) => ?_) ?_; rotate_left; omega; subst hz; (conv => cbv)) | (refine ⟨.int .u32 y, hor _ (by assumption), ?_⟩; intro d' hd; subst hd; (conv => cbv)) | exact gu | exact trivial | refine And.intro ?_ ?_ | (intro hc; exact absurd hc (by decide)) | (intro hc; exfalso; omega) | (intro hc; (first | rw [wrap_small (by omega) (by omega)] at hc | rw [nI_eq] at hc | skip); try (conv => cbv)) | refine CallG.old ?_
 all_goals exact hK
/-! order -/
theorem nanU_ok (P : Program) (hP : P = Try.prog) (n : Int) : Ret P n_cmp_isNaN_uint32 [.c (.d (u32D n))] (bA false) := by
 refine ret_start (hP ▸ mixed) (hP ▸ fn_cmp_isNaN_uint32) (hP ▸ c_cmp_isNaN_uint32) (Nat.le_of_ble_eq_true rfl) fun Λ Λo K hK => ?_
 clear hP
 conv => cbv
 repeat' first | exact gu | exact trivial | refine And.intro ?_ ?_ | (intro hc; exact absurd hc (by decide)) | (intro hc; exfalso; omega) | (intro hc; (first | rw [wrap_small (by omega) (by omega)] at hc | rw [nI_eq] at hc | skip); try (conv => cbv)) | refine CallG.old ?_
 exact hK
theorem nanI_ok (P : Program) (hP : P = Try.prog) (n : Int) : Ret P n_cmp_isNaN_int [iA n] (bA false) := by
 refine ret_start (hP ▸ mixed) (hP ▸ fn_cmp_isNaN_int) (hP ▸ c_cmp_isNaN_int) (Nat.le_of_ble_eq_true rfl) fun Λ Λo K hK => ?_
 clear hP
 conv => cbv
 repeat' first | exact gu | exact trivial | refine And.intro ?_ ?_ | (intro hc; exact absurd hc (by decide)) | (intro hc; exfalso; omega) | (intro hc; (first | rw [wrap_small (by omega) (by omega)] at hc | rw [nI_eq] at hc | skip); try (conv => cbv)) | refine CallG.old ?_
 exact hK
def cmpZ (a b : Int) : Int := if a < b then -1 else if b < a then 1 else 0
theorem cmpU_ok (P : Program) (hP : P = Try.prog) (a b : Int) : Ret P n_cmp_Compare_uint32 [.c (.d (u32D a)), .c (.d (u32D b))] (iA (cmpZ a b)) := by
 have h1 := fun n => nanU_ok P hP n
 refine ret_start (hP ▸ mixed) (hP ▸ fn_cmp_Compare_uint32) (hP ▸ c_cmp_Compare_uint32) (Nat.le_of_ble_eq_true rfl) fun Λ Λo K hK => ?_
 clear hP
 have leaf : ∀ c, c = cmpZ a b → K (iA c) := fun c h => by rw [h]; exact hK
 clear hK
 conv => cbv
 repeat' first | refine call_b (h1 _) rfl rfl ?_ ?_ | exact gu | exact trivial | refine And.intro ?_ ?_ | (intro hc; exact absurd hc (by decide)) | (intro hc; exfalso; omega) | (intro hc; (first | rw [wrap_small (by omega) (by omega)] at hc | rw [nI_eq] at hc | skip); try (conv => cbv)) | refine CallG.old ?_
 all_goals refine leaf _ ?_
 all_goals rw [cmpZ]
 ·rw [if_pos (by omega)]
 ·rw [if_neg (by omega), if_pos (by omega)]
 ·rw [if_neg (by omega), if_neg (by omega)]
theorem cmpI_ok (P : Program) (hP : P = Try.prog) (a b : Int) : Ret P n_cmp_Compare_int [iA a, iA b] (iA (cmpZ a b)) := by
 have h1 := fun n => nanI_ok P hP n
 refine ret_start (hP ▸ mixed) (hP ▸ fn_cmp_Compare_int) (hP ▸ c_cmp_Compare_int) (Nat.le_of_ble_eq_true rfl) fun Λ Λo K hK => ?_
 clear hP
 have leaf : ∀ c, c = cmpZ a b → K (iA c) := fun c h => by rw [h]; exact hK
 clear hK
 conv => cbv
 repeat' first | refine call_b (h1 _) rfl rfl ?_ ?_ | exact gu | exact trivial | refine And.intro ?_ ?_ | (intro hc; exact absurd hc (by decide)) | (intro hc; exfalso; omega) | (intro hc; (first | rw [wrap_small (by omega) (by omega)] at hc | rw [nI_eq] at hc | skip); try (conv => cbv)) | refine CallG.old ?_
 all_goals refine leaf _ ?_
 all_goals rw [cmpZ]
 ·rw [if_pos (by omega)]
 ·rw [if_neg (by omega), if_pos (by omega)]
 ·rw [if_neg (by omega), if_neg (by omega)]
theorem or2_ok (P : Program) (hP : P = Try.prog) (a b : Int) : Ret P n_cmp_Or_int [.c (.d (.list false 1 [[iD a], [iD b]]))] (iA (if a = 0 then b else a)) := by
 refine ret_start (hP ▸ mixed) (hP ▸ fn_cmp_Or_int) (hP ▸ c_cmp_Or_int) (Nat.le_of_ble_eq_true rfl) fun Λ Λo K hK => ?_
 clear hP
 have y1 : a ≠ 0 → K (iA a) := fun h => by rw [if_neg h] at hK; exact hK
 have y2 : a = 0 → K (iA b) := fun h => by rw [if_pos h] at hK; exact hK
 clear hK
 obtain ⟨l, hl⟩ : ∃ l, l = [[iD a], [iD b]] := ⟨_, rfl⟩
 have hln : Λ l = 2 := by rw [Λo, hl]; rfl
 have g0 : l[(0 : Int).toNat]? = some [iD a] := by rw [hl]; rfl
 have g1 : l[(1 : Int).toNat]? = some [iD b] := by rw [hl]; rfl
 rw [← hl]
 clear hl
 conv => cbv
 repeat' first | exact gu | exact trivial | refine And.intro ?_ ?_ | (intro hc; exact absurd hc (by decide)) | (intro hc; exfalso; omega) | (intro hc; (first | rw [wrap_small (by omega) (by omega)] at hc | rw [nI_eq] at hc | skip); try (conv => cbv)) | refine CallG.old ?_
 refine loop_up 2 (fun i : Int => [(3, iA 0), (6, .c (.d (.list false 1 l))), (7, iA (Λ l)), (8, iA i)]) (fun _ => []) (fun k i => i = k ∧ k ≤ 2 ∧ (k = 1 → a = 0) ∧ (k = 2 → a = 0 ∧ b = 0)) 0 (Wk.cw) ⟨rfl, by omega, by omega, by omega⟩ (fun k s h => h.2.1) ?_
 rintro k i Q' ⟨hi, hk, h1, h2⟩ norm ex rt
 match k, hk with
 | 0, _ =>
  obtain rfl : i = 0 := hi
  conv => cbv
  repeat' first | (refine ex _ _ _ ?_; (conv => cbv)) | (refine rt _ _ ?_; (conv => cbv)) | (intro (e : List D) he; cases Option.some.inj (he.symm.trans g0); (conv => cbv)) | exact gu | exact trivial | refine And.intro ?_ ?_ | (intro hc; exact absurd hc (by decide)) | (intro hc; exfalso; omega) | (intro hc; (first | rw [wrap_small (by omega) (by omega)] at hc | rw [nI_eq] at hc | skip); try (conv => cbv)) | refine CallG.old ?_
  ·exact y1 (by assumption)
  ·rename_i i2
   refine norm _ _ i2 ?_ (Wk.cw)
   exact ⟨by omega, by omega, fun _ => (by assumption), by omega⟩
 | 1, _ =>
  obtain rfl : i = 1 := hi
  have h1 := h1 rfl
  conv => cbv
  repeat' first | (refine ex _ _ _ ?_; (conv => cbv)) | (refine rt _ _ ?_; (conv => cbv)) | (intro (e : List D) he; cases Option.some.inj (he.symm.trans g1); (conv => cbv)) | exact gu | exact trivial | refine And.intro ?_ ?_ | (intro hc; exact absurd hc (by decide)) | (intro hc; exfalso; omega) | (intro hc; (first | rw [wrap_small (by omega) (by omega)] at hc | rw [nI_eq] at hc | skip); try (conv => cbv)) | refine CallG.old ?_
  ·exact y2 h1
  ·rename_i i2
   refine norm _ _ i2 ?_ (Wk.cw)
   exact ⟨by omega, by omega, by omega, fun _ => ⟨h1, (by assumption)⟩⟩
 | 2, _ =>
  obtain ⟨ha, hb⟩ := h2 rfl
  have y2 := y2 ha
  rw [hb] at y2
  conv => cbv
  repeat' first | (refine ex _ _ _ ?_; (conv => cbv)) | (refine rt _ _ ?_; (conv => cbv)) | exact gu | exact trivial | refine And.intro ?_ ?_ | (intro hc; exact absurd hc (by decide)) | (intro hc; exfalso; omega) | (intro hc; (first | rw [wrap_small (by omega) (by omega)] at hc | rw [nI_eq] at hc | skip); try (conv => cbv)) | refine CallG.old ?_
  exact y2
theorem cmpP_eq (p q : Pfx) : cmpP p q = if cmpZ p.addr q.addr = 0 then cmpZ p.len q.len else cmpZ p.addr q.addr := by
 have e : (p = q) ↔ (p.addr = q.addr ∧ p.len = q.len) := ⟨fun h => by rw [h]; exact ⟨rfl, rfl⟩, fun h => Pfx.ext' h.1 h.2⟩
 rw [cmpP, cmpZ, cmpZ]
 simp only [e]
 by_cases h1 : p.addr < q.addr
 ·simp [h1]
 ·by_cases h2 : q.addr < p.addr
  ·have : ¬ p.addr = q.addr := by omega
   simp [h1, h2, this]
  ·have h3 : p.addr = q.addr := by omega
   simp only [h1, h2, h3, if_false, true_and, false_or, if_true]
   by_cases h4 : p.len < q.len
   ·simp [h4]
   ·by_cases h5 : q.len < p.len
    ·have : ¬ p.len = q.len := by omega
     simp [h4, h5, this]
    ·have : p.len = q.len := by omega
     simp [this]
theorem pcmp_ok (P : Program) (hP : P = Try.prog) (p q : Pfx) : Ret P n_prefix_Compare [pfA p, pfA q] (iA (cmpP p q)) := by
 have h1 := cmpU_ok P hP p.addr q.addr
 have h2 := cmpI_ok P hP p.len q.len
 have h3 := or2_ok P hP (cmpZ p.addr q.addr) (cmpZ p.len q.len)
 rw [← cmpP_eq] at h3
 refine ret_start (hP ▸ mixed) (hP ▸ fn_prefix_Compare) (hP ▸ c_prefix_Compare) (Nat.le_of_ble_eq_true rfl) fun Λ Λo K hK => ?_
 clear hP
 obtain ⟨pa, pl⟩ := p
 obtain ⟨qa, ql⟩ := q
 simp only at h1 h2 h3
 generalize cmpP _ _ = c at *
 generalize cmpZ pa qa = x at *
 generalize cmpZ pl ql = y at *
 conv => cbv
 repeat' first | (refine call_r h1 rfl rfl ?_; conv => cbv) | (refine call_r h2 rfl rfl ?_; conv => cbv) | (refine call_z 2 0 1 2 rfl rfl (by repeat' first | exact trivial | refine And.intro ?_ ?_ | rfl) (by repeat' first | exact trivial | refine And.intro ?_ ?_ | rfl) ?_; conv => cbv) | (refine call_r h3 rfl rfl ?_; conv => cbv) | exact gu | exact trivial | refine And.intro ?_ ?_ | (intro hc; exact absurd hc (by decide)) | (intro hc; exfalso; omega) | (intro hc; (first | rw [wrap_small (by omega) (by omega)] at hc | rw [nI_eq] at hc | skip); try (conv => cbv)) | refine CallG.old ?_
 all_goals exact hK
/-! the reference -/
theorem maskN_zero : maskN 0 = 0 := by rw [maskN, szP]; rfl
theorem maskN_succ {n : Int} (h0 : 0 ≤ n) (h1 : n < 32) : ∀ c : Int, c = IntKind.u32.wrap (1 * 2 ^ (min (31 - n).toNat (IntKind.bits .u32))) → binD .or (.int .u32 (maskN n)) (.int .u32 c) = some (.int .u32 (maskN (n + 1))) := by
 have hv : maskN n % szP n = 0 := by
  have h2 : (4294967296 : Int) = szP n * 2 ^ n.toNat := by
   rw [szP]
   have h3 : (2 : Nat) ^ (32 - n.toNat) * 2 ^ n.toNat = 4294967296 := by rw [← Nat.pow_add, show 32 - n.toNat + n.toNat = 32 by omega]
   have h4 : ((2 ^ n.toNat : Nat) : Int) = (2 : Int) ^ n.toNat := Int.natCast_pow 2 _
   rw [← h4, ← Int.natCast_mul, h3]; rfl
  rw [maskN, Int.sub_emod, Int.emod_self, h2, Int.mul_emod_right]; rfl
 have h := hi_or (a := maskN n) (n := n) (maskN_rg n) h0 h1 hv
 have e : maskN n + szP (n + 1) = maskN (n + 1) := by
  have := szP_split h0 h1
  rw [maskN, maskN]; omega
 rw [e] at h
 exact h
theorem rmask_ok (P : Program) (hP : P = Try.prog) (n : Int) (h0 : 0 ≤ n) (h1 : n ≤ 32) : Ret P n_ref04_mask [iA n] (.c (.d (u32D (maskN n)))) := by
 refine ret_start (hP ▸ mixed) (hP ▸ fn_ref04_mask) (hP ▸ c_ref04_mask) (Nat.le_of_ble_eq_true rfl) fun Λ Λo K hK => ?_
 clear hP
 obtain ⟨M, hM⟩ : ∃ M : Int → Int, M = maskN := ⟨_, rfl⟩
 have m0 : M 0 = 0 := by rw [hM]; exact maskN_zero
 have ms := fun k (q0 : 0 ≤ k) (q1 : k < 32) => maskN_succ (n := k) q0 q1
 rw [← hM] at hK ms
 clear hM
 conv => cbv
 repeat' first | exact gu | exact trivial | refine And.intro ?_ ?_ | (intro hc; exact absurd hc (by decide)) | (intro hc; exfalso; omega) | (intro hc; (first | rw [wrap_small (by omega) (by omega)] at hc | rw [nI_eq] at hc | skip); try (conv => cbv)) | refine CallG.old ?_
 refine loop_up n.toNat (fun s : Int × Int => [(0, iA n), (3, .c (.d (u32D s.2))), (4, iA s.1)]) (fun _ => []) (fun k s => s.1 = k ∧ k ≤ n.toNat ∧ s.2 = M k) (0, 0) (Wk.cw) ⟨rfl, by omega, m0.symm⟩ (fun k s h => h.2.1) ?_
 rintro k ⟨i, m⟩ Q' ⟨hi, hk, hm⟩ norm ex rt
 simp only at hi hm
 by_cases hlt : k < n.toNat
 ·have h2 := ms k (by omega) (by omega)
  rw [← hm, ← hi] at h2
  obtain ⟨d, hd⟩ : ∃ d, d = 31 - i := ⟨_, rfl⟩
  have hdw : IntKind.u64.wrap d = d := wrapu64 (by omega) (by omega)
  rw [← hd] at h2
  obtain ⟨m2, hm2⟩ : ∃ m2, m2 = M (i + 1) := ⟨_, rfl⟩
  rw [← hm2] at h2
  conv => cbv
  repeat' first | (refine ex _ _ _ ?_; (conv => cbv)) | (refine rt _ _ ?_; (conv => cbv)) | (intro (k : Int) hk; rw [wrap_small (by omega) (by omega)] at hk; refine (fun (hz : d = k) => ?_) ?_; rotate_left; omega; subst hz; (conv => cbv)) | (intro (c : Int) (hc : c = IntKind.u64.wrap d); refine (fun (hz : d = c) => ?_) (hdw.symm.trans hc.symm); subst hz; (conv => cbv)) | (refine ⟨.int .u32 m2, h2 _ (by assumption), ?_⟩; intro d' hd; subst hd; (conv => cbv)) | exact gu | exact trivial | refine And.intro ?_ ?_ | (intro hc; exact absurd hc (by decide)) | (intro hc; exfalso; omega) | (intro hc; (first | rw [wrap_small (by omega) (by omega)] at hc | rw [nI_eq] at hc | skip); try (conv => cbv)) | refine CallG.old ?_
  rename_i i2
  refine norm _ _ (i2, m2) ?_ (Wk.cw)
  have hi2 : i2 = i + 1 := by omega
  exact ⟨by simp only; omega, by omega, by simp only; rw [hm2, hi]; rfl⟩
 ·obtain rfl : k = n.toNat := by omega
  have hn : ((n.toNat : Nat) : Int) = n := by omega
  rw [hn] at hm
  rw [← hm] at hK
  conv => cbv
  repeat' first | (refine ex _ _ _ ?_; (conv => cbv)) | (refine rt _ _ ?_; (conv => cbv)) | exact gu | exact trivial | refine And.intro ?_ ?_ | (intro hc; exact absurd hc (by decide)) | (intro hc; exfalso; omega) | (intro hc; (first | rw [wrap_small (by omega) (by omega)] at hc | rw [nI_eq] at hc | skip); try (conv => cbv)) | refine CallG.old ?_
  exact hK
theorem rvalid04_ok (P : Program) (hP : P = Try.prog) (p : Pfx) (hp : inU p.addr) : Ret P n_ref04_Valid [pfA p] (bA (validP p)) := by
 have hmk := fun h0 h1 => rmask_ok P hP p.len h0 h1
 have hbt := fun h0 h1 => cont_bits (a := p.addr) (n := p.len) hp h0 h1
 refine ret_start (hP ▸ mixed) (hP ▸ fn_ref04_Valid) (hP ▸ c_ref04_Valid) (Nat.le_of_ble_eq_true rfl) fun Λ Λo K hK => ?_
 clear hP
 obtain ⟨addr, len⟩ := p
 have yes : 0 ≤ len → len ≤ 32 → addr % szP len = 0 → K (bA true) := fun h0 h1 h2 => by rw [validP, decide_eq_true (by exact ⟨h0, h1, h2⟩)] at hK; exact hK
 have no : ¬ (0 ≤ len ∧ len ≤ 32 ∧ addr % szP len = 0) → K (bA false) := fun h => by rw [validP, decide_eq_false h] at hK; exact hK
 clear hK
 simp only at hmk hbt
 generalize maskN len = mk at *
 generalize addr % (szP len : Int) = z at *
 obtain ⟨y, hy⟩ : ∃ y, y = addr - z := ⟨_, rfl⟩
 rw [← hy] at hbt
 by_cases hr : 0 ≤ len ∧ len ≤ 32
 ·have hb1 := hbt hr.1 hr.2
  have hmk := hmk hr.1 hr.2
  conv => cbv
  repeat' first | (refine call_r hmk rfl rfl ?_; conv => cbv) | (refine ⟨.int .u32 y, hb1, ?_⟩; intro d' hd; subst hd; (conv => cbv)) | exact gu | exact trivial | refine And.intro ?_ ?_ | (intro hc; exact absurd hc (by decide)) | (intro hc; exfalso; omega) | (intro hc; (first | rw [wrap_small (by omega) (by omega)] at hc | rw [nI_eq] at hc | skip); try (conv => cbv)) | refine CallG.old ?_
  all_goals first
   | exact yes hr.1 hr.2 (by omega)
   | exact no fun h => by omega
 ·have no := no fun h => hr ⟨h.1, h.2.1⟩
  clear hmk hbt yes
  conv => cbv
  repeat' first | exact gu | exact trivial | refine And.intro ?_ ?_ | (intro hc; exact absurd hc (by decide)) | (intro hc; exfalso; omega) | (intro hc; (first | rw [wrap_small (by omega) (by omega)] at hc | rw [nI_eq] at hc | skip); try (conv => cbv)) | refine CallG.old ?_
  all_goals exact no
theorem rcont_ok (P : Program) (hP : P = Try.prog) (p : Pfx) (x : Int) (hp : inU p.addr) (hx : inU x) : Ret P n_ref04_Contains [pfA p, .c (.d (u32D x))] (bA (contP p x)) := by
 have hva := rvalid04_ok P hP p hp
 have hmk := fun h0 h1 => rmask_ok P hP p.len h0 h1
 have hbt := fun h0 h1 => cont_bits (a := p.addr) (n := p.len) hx h0 h1
 have hci := @cont_iff p x
 have hvr : validP p = true → 0 ≤ p.len ∧ p.len ≤ 32 := fun h => ⟨(of_decide_eq_true h).1, (of_decide_eq_true h).2.1⟩
 refine ret_start (hP ▸ mixed) (hP ▸ fn_ref04_Contains) (hP ▸ c_ref04_Contains) (Nat.le_of_ble_eq_true rfl) fun Λ Λo K hK => ?_
 clear hP
 rw [contP] at hK
 generalize validP p = V at *
 obtain ⟨addr, len⟩ := p
 have yes : V = true → (addr ≤ x ∧ x < addr + szP len) → K (bA true) := fun h0 h1 => by rw [h0, decide_eq_true h1] at hK; exact hK
 have no : V = false ∨ ¬ (addr ≤ x ∧ x < addr + szP len) → K (bA false) := fun h => by
  rcases h with h | h
  ·rw [h] at hK; exact hK
  ·rw [decide_eq_false h, Bool.and_false] at hK; exact hK
 clear hK
 simp only at hmk hbt hci hvr
 generalize maskN len = mk at *
 generalize x - x % szP len = y at *
 cases V with
 | false =>
  have no := no (.inl rfl)
  clear hmk hbt yes hci
  conv => cbv
  repeat' first | refine call_b hva rfl rfl ?_ ?_ | exact gu | exact trivial | refine And.intro ?_ ?_ | (intro hc; exact absurd hc (by decide)) | (intro hc; exfalso; omega) | (intro hc; (first | rw [wrap_small (by omega) (by omega)] at hc | rw [nI_eq] at hc | skip); try (conv => cbv)) | refine CallG.old ?_
  all_goals exact no
 | true =>
  obtain ⟨r0, r1⟩ := hvr rfl
  have hb1 := hbt r0 r1
  have hmk := hmk r0 r1
  have hci := hci rfl
  conv => cbv
  repeat' first | refine call_b hva rfl rfl ?_ ?_ | (refine call_r hmk rfl rfl ?_; conv => cbv) | (refine ⟨.int .u32 y, hb1, ?_⟩; intro d' hd; subst hd; (conv => cbv)) | exact gu | exact trivial | refine And.intro ?_ ?_ | (intro hc; exact absurd hc (by decide)) | (intro hc; exfalso; omega) | (intro hc; (first | rw [wrap_small (by omega) (by omega)] at hc | rw [nI_eq] at hc | skip); try (conv => cbv)) | refine CallG.old ?_
  all_goals first
   | exact yes rfl (hci.1 (by assumption))
   | exact no (.inr fun h => absurd (hci.2 h) (by assumption))
end Go.Ab

