/-
  Merged texts, part l.
-/
import Derived.Test.YtllgchplnhaplaaZk
import Derived.Test.YtllgchplnhaplaaProg
/-
  The texts of the seat's functions, as the engine has them (printed by gen.sh and mkf.py).
-/
namespace Go.Ab
open Go.Proofs
set_option maxRecDepth 100000
abbrev Om (d s : Nat) : AO := ⟨some d, .mv (.t s), none⟩
abbrev Ol (d s : Nat) : AO := ⟨some d, .ld (.t s) none, none⟩
abbrev Of (d s k : Nat) : AO := ⟨some d, .fa (.t s) k, none⟩
abbrev Ob (d : Nat) (o : BinOp) (x y : Nat) : AO := ⟨some d, .bin o (.t x) (.t y), none⟩
abbrev Os (x y n : Nat) : AO := ⟨none, .st (.t x) (.t y) n, none⟩
abbrev Oo (d : Nat) (o : AOp) : AO := ⟨some d, o, none⟩
abbrev Og (d : Nat) (o : AOp) (s : Nat) (b : Bool) : AO := ⟨some d, o, some (s, b)⟩
abbrev Ki (n : Int) : X := .k (.c (.d (.int .i64 n)))
abbrev Kb (b : Bool) : X := .k (.c (.d (.bool b)))
abbrev Di (n : Int) : CV := .d (.int .i64 n)
abbrev Rg (l : List AO) : AC := .reg false l
def af_kpaths_Compare : AF := (AF.mk 21 [(6, .none)] (.seq (Rg [Oo 3 (.box (.t 0)),Oo 6 (.mv (Ki 0))]) (.seq (Rg [Oo 9 (.ld (.t 3) (.some 3)),Oo 10 (.call 34 [(.t 9)]),Oo 7 (.box (Kb .false)),Os 7 10 1]) (.seq (Rg [Oo 11 (.mkf .false 35 [(.t 7),(.t 3)]),Om 8 11]) (.seq (Rg [Om 12 8,Om 13 1,Oo 14 (.callv (.t 12) [(.t 13)]),Om 15 8,Om 16 2,Oo 17 (.callv (.t 15) [(.t 16)]),Om 18 1,Om 19 2,Oo 20 (.call 38 [(.t 14),(.t 17),(.t 18),(.t 19)]),Om 6 20]) .ret)))))
abbrev n_kpaths_Compare : Nat := 16
theorem fn_kpaths_Compare : Try.prog.funcs[n_kpaths_Compare]? = some Try.f16 := Try.func16
theorem c_kpaths_Compare : compF Try.prog Try.f16 = some af_kpaths_Compare := by kernel_rfl
def af_kpaths_Delay : AF := (AF.mk 33 [(4, .none),(5, .none)] (.seq (Rg [Oo 2 (.box (.t 0)),Oo 4 (.mv (Ki 0)),Oo 5 (.mv (Ki 0))]) (.seq (.seq (Rg [Oo 9 (.ld (.t 2) (.some 3)),Oo 10 (.call 34 [(.t 9)]),Oo 11 (.un .not (.t 10))]) (.cond (.t 11) (.seq (Rg [Oo 4 (.mv (Ki 0)),Oo 5 (.mv (Ki 1))]) .ret) .skip)) (.seq (Rg [Oo 6 (.mv (Ki 0))]) (.seq (.seq (Rg [Om 12 1,Oo 13 (.len (.t 12)),Oo 14 (.mv (Ki 0))]) (.block 0 (.loop (.seq (Rg [Ob 15 .lss 14 13]) (.seq (.cond (.t 15) .skip (.exit 0)) (.seq (.block 1 (.seq (Rg [Oo 16 (.ias 1 (.t 12) (.t 14)),Ol 17 16,Om 8 17]) (.seq (.seq (Rg [Oo 18 (.ld (.t 2) (.some 3)),Om 19 8,Oo 20 (.call 36 [(.t 18),(.t 19)]),Oo 21 (.un .not (.t 20))]) (.cond (.t 21) (.seq (Rg [Oo 4 (.mv (Ki 0)),Oo 5 (.mv (Ki 2))]) .ret) .skip)) (Rg [Om 22 6,Of 23 2 2,Ol 24 23,Om 25 8,Oo 26 (.bin .quo (.t 25) (Ki 2)),Oo 27 (.ias 7 (.t 24) (.t 26)),Of 28 27 5,Ol 29 28,Ob 30 .add 22 29,Om 6 30])))) (Rg [Oo 31 (.bin .add (.t 14) (Ki 1)),Om 14 31]))))))) (.seq (Rg [Om 32 6,Om 4 32,Oo 5 (.mv (Ki 0))]) .ret))))))
abbrev n_kpaths_Delay : Nat := 17
theorem fn_kpaths_Delay : Try.prog.funcs[n_kpaths_Delay]? = some Try.f17 := Try.func17
theorem c_kpaths_Delay : compF Try.prog Try.f17 = some af_kpaths_Delay := by kernel_rfl
def af_ref09_Arcs : AF := (AF.mk 10 [(2, .none)] (.seq (Rg [Oo 1 (.box (.t 0)),Oo 2 (.mv (Ki 0))]) (.seq (.seq (Rg [Oo 3 (.ld (.t 1) (.some 3)),Oo 4 (.call 24 [(.t 3)]),Oo 5 (.un .not (.t 4))]) (.cond (.t 5) (.seq (Rg [Oo 2 (.mv (Ki 0))]) .ret) .skip)) (.seq (Rg [Of 6 1 2,Ol 7 6,Oo 8 (.len (.t 7)),Oo 9 (.bin .mul (Ki 2) (.t 8)),Om 2 9]) .ret))))
abbrev n_ref09_Arcs : Nat := 18
theorem fn_ref09_Arcs : Try.prog.funcs[n_ref09_Arcs]? = some Try.f18 := Try.func18
theorem c_ref09_Arcs : compF Try.prog Try.f18 = some af_ref09_Arcs := by kernel_rfl
def af_ref09_Valid : AF := (AF.mk 94 [(2, .none)] (.seq (Rg [Oo 1 (.box (.t 0)),Oo 2 (.mv (Kb .false))]) (.seq (.seq (Rg [Of 5 1 0,Ol 6 5,Oo 7 (.call 41 [(.t 6),(Ki 1),(Ki 64)]),Oo 8 (.un .not (.t 7)),Om 9 8,Og 10 (.fa (.t 1) 1) 9 .false,Og 11 (.ld (.t 10) .none) 9 .false,Og 12 (.len (.t 11)) 9 .false,Og 13 (.bin .neq (.t 12) (Ki 0)) 9 .false,Og 14 (.mv (.t 13)) 9 .false,Og 15 (.fa (.t 1) 1) 14 .true,Og 16 (.ld (.t 15) .none) 14 .true,Og 17 (.len (.t 16)) 14 .true,Og 18 (.fa (.t 1) 0) 14 .true,Og 19 (.ld (.t 18) .none) 14 .true,Og 20 (.bin .neq (.t 17) (.t 19)) 14 .true,Og 21 (.pick (.t 14) (.t 20) (Kb .false)) 9 .false,Oo 22 (.pick (.t 9) (Kb .true) (.t 21)),Om 23 22,Og 24 (.fa (.t 1) 2) 23 .false,Og 25 (.ld (.t 24) .none) 23 .false,Og 26 (.len (.t 25)) 23 .false,Og 27 (.bin .gtr (.t 26) (Ki 256)) 23 .false,Oo 28 (.pick (.t 23) (Kb .true) (.t 27))]) (.cond (.t 28) (.seq (Rg [Oo 2 (.mv (Kb .false))]) .ret) .skip)) (.seq (.seq (Rg [Oo 3 (.mv (Ki 0))]) (.block 0 (.loop (.seq (.seq (Rg [Om 29 3,Of 30 1 2,Ol 31 30,Oo 32 (.len (.t 31)),Ob 33 .lss 29 32]) (.cond (.t 33) .skip (.exit 0))) (.seq (.block 1 (.seq (Rg [Of 36 1 2,Ol 37 36,Om 38 3,Oo 39 (.ias 7 (.t 37) (.t 38)),Oo 40 (.ld (.t 39) (.some 7)),Oo 4 (.box (.k (.agg [Di 0, (.d (.int .i64 0)),(.d (.int .i64 0)),(.d (.int .i64 0)),(.d (.int .i64 0)),(.d (.int .i64 0)),(.d (.int .i64 0))]))),Os 4 40 7]) (.seq (.seq (Rg [Of 41 4 0,Ol 42 41,Of 43 1 0,Ol 44 43,Oo 45 (.bin .sub (.t 44) (Ki 1)),Oo 46 (.call 41 [(.t 42),(Ki 0),(.t 45)]),Oo 47 (.un .not (.t 46)),Om 48 47,Og 49 (.fa (.t 4) 1) 48 .false,Og 50 (.ld (.t 49) .none) 48 .false,Og 51 (.fa (.t 1) 0) 48 .false,Og 52 (.ld (.t 51) .none) 48 .false,Og 53 (.bin .sub (.t 52) (Ki 1)) 48 .false,Og 54 (.call 41 [(.t 50),(Ki 0),(.t 53)]) 48 .false,Og 55 (.un .not (.t 54)) 48 .false,Oo 56 (.pick (.t 48) (Kb .true) (.t 55)),Om 57 56,Og 58 (.fa (.t 4) 0) 57 .false,Og 59 (.ld (.t 58) .none) 57 .false,Og 60 (.fa (.t 4) 1) 57 .false,Og 61 (.ld (.t 60) .none) 57 .false,Og 62 (.bin .eql (.t 59) (.t 61)) 57 .false,Oo 63 (.pick (.t 57) (Kb .true) (.t 62)),Om 64 63,Og 65 (.fa (.t 4) 2) 64 .false,Og 66 (.iaa 2 1 (.t 65) (Ki 0)) 64 .false,Og 67 (.ld (.t 66) .none) 64 .false,Og 68 (.call 41 [(.t 67),(Ki 1),(Ki 65535)]) 64 .false,Og 69 (.un .not (.t 68)) 64 .false,Oo 70 (.pick (.t 64) (Kb .true) (.t 69)),Om 71 70,Og 72 (.fa (.t 4) 2) 71 .false,Og 73 (.iaa 2 1 (.t 72) (Ki 1)) 71 .false,Og 74 (.ld (.t 73) .none) 71 .false,Og 75 (.call 41 [(.t 74),(Ki 1),(Ki 65535)]) 71 .false,Og 76 (.un .not (.t 75)) 71 .false,Oo 77 (.pick (.t 71) (Kb .true) (.t 76))]) (.cond (.t 77) (.seq (Rg [Oo 2 (.mv (Kb .false))]) .ret) .skip)) (.seq (Rg [Of 78 4 4,Ol 79 78,Oo 80 (.call 41 [(.t 79),(Ki 0),(Ki 1048576)]),Oo 81 (.un .not (.t 80)),Om 82 81,Og 83 (.fa (.t 4) 5) 82 .false,Og 84 (.ld (.t 83) .none) 82 .false,Og 85 (.call 41 [(.t 84),(Ki 1),(Ki 65536)]) 82 .false,Og 86 (.un .not (.t 85)) 82 .false,Oo 87 (.pick (.t 82) (Kb .true) (.t 86)),Om 88 87,Og 89 (.fa (.t 4) 6) 88 .false,Og 90 (.ld (.t 89) .none) 88 .false,Og 91 (.call 41 [(.t 90),(Ki 0),(Ki 64)]) 88 .false,Og 92 (.un .not (.t 91)) 88 .false,Oo 93 (.pick (.t 88) (Kb .true) (.t 92))]) (.cond (.t 93) (.seq (Rg [Oo 2 (.mv (Kb .false))]) .ret) .skip))))) (Rg [Om 34 3,Oo 35 (.bin .add (.t 34) (Ki 1)),Om 3 35])))))) (.seq (Rg [Oo 2 (.mv (Kb .true))]) .ret)))))
abbrev n_ref09_Valid : Nat := 24
theorem fn_ref09_Valid : Try.prog.funcs[n_ref09_Valid]? = some Try.f24 := Try.func24
theorem c_ref09_Valid : compF Try.prog Try.f24 = some af_ref09_Valid := by kernel_rfl
def af_ref09_Out : AF := (AF.mk 23 [(4, .none)] (.seq (Rg [Oo 2 (.box (.t 0)),Oo 4 (.mv (.k (.c (.d (.list .true 1 [])))))]) (.seq (Rg [Oo 5 (.mv (.k (.c (.d (.list .true 1 [])))))]) (.seq (.seq (Rg [Oo 6 (.mv (Ki 0))]) (.block 0 (.loop (.seq (.seq (Rg [Om 7 6,Oo 8 (.ld (.t 2) (.some 3)),Oo 9 (.call 18 [(.t 8)]),Ob 10 .lss 7 9]) (.cond (.t 10) .skip (.exit 0))) (.seq (.block 1 (.seq (Rg [Oo 13 (.ld (.t 2) (.some 3)),Om 14 6,Oo 15 (.call 42 [(.t 13),(.t 14)]),Om 16 1,Ob 17 .eql 15 16]) (.cond (.t 17) (Rg [Om 18 5,Om 19 6,Oo 20 (.bsl 1 [(.int .i64 0)] 1 [(0, (.t 19))]),Oo 21 (.app 1 8 [(.int .i64 0)] (.t 18) (.t 20)),Om 5 21]) .skip))) (Rg [Om 11 6,Oo 12 (.bin .add (.t 11) (Ki 1)),Om 6 12])))))) (.seq (Rg [Om 22 5,Om 4 22]) .ret)))))
abbrev n_ref09_Out : Nat := 25
theorem fn_ref09_Out : Try.prog.funcs[n_ref09_Out]? = some Try.f25 := Try.func25
theorem c_ref09_Out : compF Try.prog Try.f25 = some af_ref09_Out := by kernel_rfl
def af_ref09_Head : AF := (AF.mk 22 [(4, .none)] (.seq (Rg [Oo 2 (.box (.t 0)),Oo 4 (.mv (Ki 0))]) (.seq (.seq (Rg [Om 5 1,Oo 6 (.bin .lss (.t 5) (Ki 0)),Om 7 6,Og 8 (.mv (.t 1)) 7 .false,Og 9 (.ld (.t 2) (.some 3)) 7 .false,Og 10 (.call 18 [(.t 9)]) 7 .false,Og 11 (.bin .geq (.t 8) (.t 10)) 7 .false,Oo 12 (.pick (.t 7) (Kb .true) (.t 11))]) (.cond (.t 12) (.seq (Rg [Oo 4 (.mv (Ki (-1)))]) .ret) .skip)) (.seq (Rg [Oo 13 (.ld (.t 2) (.some 3)),Om 14 1,Oo 15 (.bin .quo (.t 14) (Ki 2)),Oo 16 (.bin .mul (.t 15) (Ki 2)),Oo 17 (.bin .add (.t 16) (Ki 1)),Om 18 1,Oo 19 (.bin .rem (.t 18) (Ki 2)),Ob 20 .sub 17 19,Oo 21 (.call 42 [(.t 13),(.t 20)]),Om 4 21]) .ret))))
abbrev n_ref09_Head : Nat := 26
theorem fn_ref09_Head : Try.prog.funcs[n_ref09_Head]? = some Try.f26 := Try.func26
theorem c_ref09_Head : compF Try.prog Try.f26 = some af_ref09_Head := by kernel_rfl
def af_ref09_Overloaded : AF := (AF.mk 25 [(4, .none)] (.seq (Rg [Oo 2 (.box (.t 0)),Oo 4 (.mv (Kb .false))]) (.seq (Rg [Oo 5 (.ld (.t 2) (.some 3)),Oo 6 (.call 24 [(.t 5)]),Om 7 6,Og 8 (.mv (.t 1)) 7 .true,Og 9 (.bin .geq (.t 8) (Ki 0)) 7 .true,Oo 10 (.pick (.t 7) (.t 9) (Kb .false)),Om 11 10,Og 12 (.mv (.t 1)) 11 .true,Og 13 (.fa (.t 2) 1) 11 .true,Og 14 (.ld (.t 13) .none) 11 .true,Og 15 (.len (.t 14)) 11 .true,Og 16 (.bin .lss (.t 12) (.t 15)) 11 .true,Oo 17 (.pick (.t 11) (.t 16) (Kb .false)),Om 18 17,Og 19 (.fa (.t 2) 1) 18 .true,Og 20 (.ld (.t 19) .none) 18 .true,Og 21 (.mv (.t 1)) 18 .true,Og 22 (.ias 1 (.t 20) (.t 21)) 18 .true,Og 23 (.ld (.t 22) .none) 18 .true,Oo 24 (.pick (.t 18) (.t 23) (Kb .false)),Om 4 24]) .ret)))
abbrev n_ref09_Overloaded : Nat := 27
theorem fn_ref09_Overloaded : Try.prog.funcs[n_ref09_Overloaded]? = some Try.f27 := Try.func27
theorem c_ref09_Overloaded : compF Try.prog Try.f27 = some af_ref09_Overloaded := by kernel_rfl
def af_ref09_SameInts : AF := (AF.mk 26 [(4, .none)] (.seq (Rg [Oo 4 (.mv (Kb .false))]) (.seq (.seq (Rg [Om 6 0,Oo 7 (.len (.t 6)),Om 8 1,Oo 9 (.len (.t 8)),Ob 10 .neq 7 9]) (.cond (.t 10) (.seq (Rg [Oo 4 (.mv (Kb .false))]) .ret) .skip)) (.seq (.seq (Rg [Oo 5 (.mv (Ki 0))]) (.block 0 (.loop (.seq (.seq (Rg [Om 11 5,Om 12 0,Oo 13 (.len (.t 12)),Ob 14 .lss 11 13]) (.cond (.t 14) .skip (.exit 0))) (.seq (.block 1 (.seq (.reg .true [Om 17 0,Om 18 5,Oo 19 (.ias 1 (.t 17) (.t 18)),Ol 20 19,Om 21 1,Om 22 5,Oo 23 (.ias 1 (.t 21) (.t 22)),Ol 24 23,Ob 25 .neq 20 24]) (.cond (.t 25) (.seq (Rg [Oo 4 (.mv (Kb .false))]) .ret) .skip))) (Rg [Om 15 5,Oo 16 (.bin .add (.t 15) (Ki 1)),Om 5 16])))))) (.seq (Rg [Oo 4 (.mv (Kb .true))]) .ret)))))
abbrev n_ref09_SameInts : Nat := 28
theorem fn_ref09_SameInts : Try.prog.funcs[n_ref09_SameInts]? = some Try.f28 := Try.func28
theorem c_ref09_SameInts : compF Try.prog Try.f28 = some af_ref09_SameInts := by kernel_rfl
def af_kpaths_Shortest : AF := (AF.mk 91 [(12, .none),(13, .none)] (.seq (Rg [Oo 6 (.box (.t 0)),Oo 12 (.mv (.k (.c (.d (.list .true 1 []))))),Oo 13 (.mv (Ki 0))]) (.seq (.seq (Rg [Oo 19 (.ld (.t 6) (.some 3)),Oo 20 (.call 34 [(.t 19)]),Oo 21 (.un .not (.t 20)),Om 22 21,Og 23 (.ld (.t 6) (.some 3)) 22 .false,Og 24 (.mv (.t 1)) 22 .false,Og 25 (.call 43 [(.t 23),(.t 24)]) 22 .false,Og 26 (.un .not (.t 25)) 22 .false,Oo 27 (.pick (.t 22) (Kb .true) (.t 26)),Om 28 27,Og 29 (.mv (.t 4)) 28 .false,Og 30 (.bin .lss (.t 29) (Ki 1)) 28 .false,Oo 31 (.pick (.t 28) (Kb .true) (.t 30)),Om 32 31,Og 33 (.mv (.t 4)) 32 .false,Og 34 (.bin .gtr (.t 33) (Ki 16)) 32 .false,Oo 35 (.pick (.t 32) (Kb .true) (.t 34)),Om 36 35,Og 37 (.mv (.t 5)) 36 .false,Og 38 (.bin .lss (.t 37) (Ki 0)) 36 .false,Oo 39 (.pick (.t 36) (Kb .true) (.t 38))]) (.cond (.t 39) (.seq (Rg [Oo 12 (.mv (.k (.c (.d (.list .true 1 []))))),Oo 13 (.mv (Ki 1))]) .ret) .skip)) (.seq (.seq (Rg [Oo 40 (.ld (.t 6) (.some 3)),Om 41 2,Oo 42 (.call 44 [(.t 40),(.t 41)]),Oo 43 (.un .not (.t 42)),Om 44 43,Og 45 (.ld (.t 6) (.some 3)) 44 .false,Og 46 (.mv (.t 3)) 44 .false,Og 47 (.call 44 [(.t 45),(.t 46)]) 44 .false,Og 48 (.un .not (.t 47)) 44 .false,Oo 49 (.pick (.t 44) (Kb .true) (.t 48))]) (.cond (.t 49) (.seq (Rg [Oo 12 (.mv (.k (.c (.d (.list .true 1 []))))),Oo 13 (.mv (Ki 2))]) .ret) .skip)) (.seq (.reg .true [Oo 50 (.ld (.t 6) (.some 3)),Om 51 1,Om 52 3,Om 53 5,Oo 54 (.ld (.t 6) (.some 3)),Oo 55 (.call 45 [(.t 54)]),Oo 56 (.build [Di 0, (.d (.list .true 1 [])),(.d (.list .true 7 [])),(.d (.list .true 1 [])),(.d (.int .i64 0)),(.d (.int .i64 0)),(.d (.list .true 1 []))] [(0, (3, (.t 50))),(3, (1, (.t 51))),(4, (1, (.t 52))),(5, (1, (.t 53))),(6, (1, (.t 55)))]),Oo 14 (.box (.k (.agg [Di 0, (.d (.list .true 1 [])),(.d (.list .true 7 [])),(.d (.list .true 1 [])),(.d (.int .i64 0)),(.d (.int .i64 0)),(.d (.list .true 1 []))]))),Os 14 56 7]) (.seq (Rg [Oo 58 (.ld (.t 14) (.some 7)),Om 59 2,Oo 60 (.call 46 [(.t 58),(.t 59),(.k (.c (.d (.list .true 1 [])))),(.k (.c (.d .nilm)))]),Om 57 60,Oo 61 (.ext (.t 57) 0),Oo 62 (.ext (.t 57) 1),Om 15 61,Om 16 62]) (.seq (.seq (Rg [Om 63 16,Oo 64 (.un .not (.t 63))]) (.cond (.t 64) (.seq (Rg [Oo 12 (.mv (.k (.c (.d (.list .true 1 []))))),Oo 13 (.mv (Ki 11))]) .ret) .skip)) (.seq (Rg [Om 65 15,Oo 66 (.bsl 1 [(.list .true 1 [])] 1 [(0, (.t 65))]),Om 17 66]) (.seq (Rg [Oo 18 (.mv (.k (.c (.d (.list .true 1 [])))))]) (.seq (.block 0 (.loop (.seq (.seq (Rg [Om 67 17,Oo 68 (.len (.t 67)),Om 69 4,Ob 70 .lss 68 69]) (.cond (.t 70) .skip (.exit 0))) (.block 1 (.seq (Rg [Oo 71 (.ld (.t 14) (.some 7)),Om 72 2,Om 73 17,Om 74 18,Oo 75 (.call 47 [(.t 71),(.t 72),(.t 73),(.t 74)]),Om 18 75]) (.seq (.seq (Rg [Om 76 18,Oo 77 (.len (.t 76)),Oo 78 (.bin .eql (.t 77) (Ki 0))]) (.cond (.t 78) (.exit 0) .skip)) (.seq (Rg [Om 79 18,Oo 80 (.mkf .false 49 [(.t 6)]),Oo 81 (.call 48 [(.t 79),(.t 80)])]) (.seq (Rg [Om 82 17,Om 83 18,Oo 84 (.ias 1 (.t 83) (Ki 0)),Ol 85 84,Oo 86 (.bsl 1 [(.list .true 1 [])] 1 [(0, (.t 85))]),Oo 87 (.app 1 24 [(.list .true 1 [])] (.t 82) (.t 86)),Om 17 87]) (Rg [Om 88 18,Oo 89 (.sl 1 (.t 88) (.some (Ki 1)) .none .none),Om 18 89]))))))))) (.seq (Rg [Om 90 17,Om 12 90,Oo 13 (.mv (Ki 0))]) .ret)))))))))))
abbrev n_kpaths_Shortest : Nat := 29
theorem fn_kpaths_Shortest : Try.prog.funcs[n_kpaths_Shortest]? = some Try.f29 := Try.func29
theorem c_kpaths_Shortest : compF Try.prog Try.f29 = some af_kpaths_Shortest := by kernel_rfl
def af_topology_Valid : AF := (AF.mk 103 [(2, .none)] (.seq (Rg [Oo 1 (.box (.t 0)),Oo 2 (.mv (Kb .false))]) (.seq (.seq (Rg [Of 5 1 0,Ol 6 5,Oo 7 (.call 52 [(.t 6),(Ki 1),(Ki 64)]),Oo 8 (.un .not (.t 7)),Om 9 8,Og 10 (.fa (.t 1) 2) 9 .false,Og 11 (.ld (.t 10) .none) 9 .false,Og 12 (.len (.t 11)) 9 .false,Og 13 (.bin .gtr (.t 12) (Ki 256)) 9 .false,Oo 14 (.pick (.t 9) (Kb .true) (.t 13))]) (.cond (.t 14) (.seq (Rg [Oo 2 (.mv (Kb .false))]) .ret) .skip)) (.seq (.seq (Rg [Of 15 1 1,Ol 16 15,Oo 17 (.len (.t 16)),Oo 18 (.bin .neq (.t 17) (Ki 0)),Om 19 18,Og 20 (.fa (.t 1) 1) 19 .true,Og 21 (.ld (.t 20) .none) 19 .true,Og 22 (.len (.t 21)) 19 .true,Og 23 (.fa (.t 1) 0) 19 .true,Og 24 (.ld (.t 23) .none) 19 .true,Og 25 (.bin .neq (.t 22) (.t 24)) 19 .true,Oo 26 (.pick (.t 19) (.t 25) (Kb .false))]) (.cond (.t 26) (.seq (Rg [Oo 2 (.mv (Kb .false))]) .ret) .skip)) (.seq (.seq (Rg [Of 27 1 2,Ol 28 27,Oo 29 (.len (.t 28)),Oo 30 (.mv (Ki 0))]) (.block 0 (.loop (.seq (Rg [Ob 31 .lss 30 29]) (.seq (.cond (.t 31) .skip (.exit 0)) (.seq (.block 1 (.seq (Rg [Om 32 30,Om 3 32]) (.seq (Rg [Of 33 1 2,Ol 34 33,Om 35 3,Oo 36 (.ias 7 (.t 34) (.t 35)),Om 4 36]) (.seq (.seq (.seq (.reg .true [Om 37 4,Oo 38 (.nilc (.t 37)),Of 39 38 0,Ol 40 39,Om 41 4,Oo 42 (.nilc (.t 41)),Of 43 42 1,Ol 44 43,Ob 45 .eql 40 44,Om 46 45,Og 47 (.ld (.t 1) (.some 3)) 46 .false,Og 48 (.mv (.t 4)) 46 .false,Og 49 (.nilc (.t 48)) 46 .false,Og 50 (.fa (.t 49) 0) 46 .false,Og 51 (.ld (.t 50) .none) 46 .false]) (.seq (Rg [Og 52 (.call 44 [(.t 47),(.t 51)]) 46 .false]) (.seq (.reg .true [Og 53 (.un .not (.t 52)) 46 .false,Oo 54 (.pick (.t 46) (Kb .true) (.t 53)),Om 55 54,Og 56 (.ld (.t 1) (.some 3)) 55 .false,Og 57 (.mv (.t 4)) 55 .false,Og 58 (.nilc (.t 57)) 55 .false,Og 59 (.fa (.t 58) 1) 55 .false,Og 60 (.ld (.t 59) .none) 55 .false]) (.seq (Rg [Og 61 (.call 44 [(.t 56),(.t 60)]) 55 .false]) (.reg .true [Og 62 (.un .not (.t 61)) 55 .false,Oo 63 (.pick (.t 55) (Kb .true) (.t 62))]))))) (.cond (.t 63) (.seq (Rg [Oo 2 (.mv (Kb .false))]) .ret) .skip)) (.seq (.seq (Rg [Om 64 4,Oo 65 (.nilc (.t 64)),Of 66 65 2,Oo 67 (.iaa 2 1 (.t 66) (Ki 0)),Ol 68 67,Oo 69 (.call 52 [(.t 68),(Ki 1),(Ki 65535)]),Oo 70 (.un .not (.t 69)),Om 71 70,Og 72 (.mv (.t 4)) 71 .false,Og 73 (.nilc (.t 72)) 71 .false,Og 74 (.fa (.t 73) 2) 71 .false,Og 75 (.iaa 2 1 (.t 74) (Ki 1)) 71 .false,Og 76 (.ld (.t 75) .none) 71 .false,Og 77 (.call 52 [(.t 76),(Ki 1),(Ki 65535)]) 71 .false,Og 78 (.un .not (.t 77)) 71 .false,Oo 79 (.pick (.t 71) (Kb .true) (.t 78))]) (.cond (.t 79) (.seq (Rg [Oo 2 (.mv (Kb .false))]) .ret) .skip)) (.seq (Rg [Om 80 4,Oo 81 (.nilc (.t 80)),Of 82 81 4,Ol 83 82,Oo 84 (.call 52 [(.t 83),(Ki 0),(Ki 1048576)]),Oo 85 (.un .not (.t 84)),Om 86 85,Og 87 (.mv (.t 4)) 86 .false,Og 88 (.nilc (.t 87)) 86 .false,Og 89 (.fa (.t 88) 5) 86 .false,Og 90 (.ld (.t 89) .none) 86 .false,Og 91 (.call 52 [(.t 90),(Ki 1),(Ki 65536)]) 86 .false,Og 92 (.un .not (.t 91)) 86 .false,Oo 93 (.pick (.t 86) (Kb .true) (.t 92)),Om 94 93,Og 95 (.mv (.t 4)) 94 .false,Og 96 (.nilc (.t 95)) 94 .false,Og 97 (.fa (.t 96) 6) 94 .false,Og 98 (.ld (.t 97) .none) 94 .false,Og 99 (.call 52 [(.t 98),(Ki 0),(Ki 64)]) 94 .false,Og 100 (.un .not (.t 99)) 94 .false,Oo 101 (.pick (.t 94) (Kb .true) (.t 100))]) (.cond (.t 101) (.seq (Rg [Oo 2 (.mv (Kb .false))]) .ret) .skip))))))) (Rg [Oo 102 (.bin .add (.t 30) (Ki 1)),Om 30 102]))))))) (.seq (Rg [Oo 2 (.mv (Kb .true))]) .ret))))))
abbrev n_topology_Valid : Nat := 34
theorem fn_topology_Valid : Try.prog.funcs[n_topology_Valid]? = some Try.f34 := Try.func34
theorem c_topology_Valid : compF Try.prog Try.f34 = some af_topology_Valid := by kernel_rfl
def af_kpaths_Compare_1 : AF := (AF.mk 27 [(4, .none)] (.seq (Rg [Oo 4 (.mv (Ki 0))]) (.seq (Rg [Oo 5 (.mv (Ki 0))]) (.seq (.seq (Rg [Om 8 0,Oo 9 (.len (.t 8)),Oo 10 (.mv (Ki 0))]) (.block 0 (.loop (.seq (Rg [Ob 11 .lss 10 9]) (.seq (.cond (.t 11) .skip (.exit 0)) (.seq (.block 1 (.seq (Rg [Oo 12 (.ias 1 (.t 8) (.t 10)),Ol 13 12,Om 7 13]) (.seq (Rg [Ol 14 1,Om 15 14,Og 16 (.ld (.t 2) (.some 3)) 15 .true,Og 17 (.mv (.t 7)) 15 .true,Og 18 (.call 36 [(.t 16),(.t 17)]) 15 .true,Oo 19 (.pick (.t 15) (.t 18) (Kb .false))]) (.cond (.t 19) (Rg [Om 20 5,Oo 21 (.ld (.t 2) (.some 3)),Om 22 7,Oo 23 (.call 37 [(.t 21),(.t 22)]),Ob 24 .add 20 23,Om 5 24]) .skip)))) (Rg [Oo 25 (.bin .add (.t 10) (Ki 1)),Om 10 25]))))))) (.seq (Rg [Om 26 5,Om 4 26]) .ret)))))
abbrev n_kpaths_Compare_1 : Nat := 35
theorem fn_kpaths_Compare_1 : Try.prog.funcs[n_kpaths_Compare_1]? = some Try.f35 := Try.func35
theorem c_kpaths_Compare_1 : compF Try.prog Try.f35 = some af_kpaths_Compare_1 := by kernel_rfl
def af_graph_Arc : AF := (AF.mk 13 [(4, .none)] (.seq (Rg [Oo 2 (.box (.t 0)),Oo 4 (.mv (Kb .false))]) (.seq (Rg [Om 5 1,Oo 6 (.bin .geq (.t 5) (Ki 0)),Om 7 6,Og 8 (.mv (.t 1)) 7 .true,Og 9 (.ld (.t 2) (.some 3)) 7 .true,Og 10 (.call 53 [(.t 9)]) 7 .true,Og 11 (.bin .lss (.t 8) (.t 10)) 7 .true,Oo 12 (.pick (.t 7) (.t 11) (Kb .false)),Om 4 12]) .ret)))
abbrev n_graph_Arc : Nat := 36
theorem fn_graph_Arc : Try.prog.funcs[n_graph_Arc]? = some Try.f36 := Try.func36
theorem c_graph_Arc : compF Try.prog Try.f36 = some af_graph_Arc := by kernel_rfl
def af_graph_Cost : AF := (AF.mk 15 [(4, .none)] (.seq (Rg [Oo 2 (.box (.t 0)),Oo 4 (.mv (Ki 0))]) (.seq (Rg [Of 5 2 2,Ol 6 5,Om 7 1,Oo 8 (.bin .quo (.t 7) (Ki 2)),Om 9 1,Oo 10 (.bin .rem (.t 9) (Ki 2)),Oo 11 (.ias 7 (.t 6) (.t 8)),Of 12 11 2,Oo 13 (.iaa 2 1 (.t 12) (.t 10)),Ol 14 13,Om 4 14]) .ret)))
abbrev n_graph_Cost : Nat := 37
theorem fn_graph_Cost : Try.prog.funcs[n_graph_Cost]? = some Try.f37 := Try.func37
theorem c_graph_Cost : compF Try.prog Try.f37 = some af_graph_Cost := by kernel_rfl
def af_kpaths_order : AF := (AF.mk 22 [(8, .none)] (.seq (Rg [Oo 8 (.mv (Ki 0))]) (.seq (Rg [Om 9 0,Om 10 1,Oo 11 (.call 55 [(.t 9),(.t 10)]),Om 12 2,Oo 13 (.len (.t 12)),Om 14 3,Oo 15 (.len (.t 14)),Oo 16 (.call 55 [(.t 13),(.t 15)]),Om 17 2,Om 18 3,Oo 19 (.call 56 [(.t 17),(.t 18)]),Oo 20 (.bsl 1 [(.int .i64 0)] 3 [(0, (.t 11)),(1, (.t 16)),(2, (.t 19))]),Oo 21 (.call 54 [(.t 20)]),Om 8 21]) .ret)))
abbrev n_kpaths_order : Nat := 38
theorem fn_kpaths_order : Try.prog.funcs[n_kpaths_order]? = some Try.f38 := Try.func38
theorem c_kpaths_order : compF Try.prog Try.f38 = some af_kpaths_order := by kernel_rfl
def af_ref09_within : AF := (AF.mk 15 [(6, .none)] (.seq (Rg [Oo 6 (.mv (Kb .false))]) (.seq (Rg [Om 7 0,Om 8 1,Ob 9 .geq 7 8,Om 10 9,Og 11 (.mv (.t 0)) 10 .true,Og 12 (.mv (.t 2)) 10 .true,Og 13 (.bin .leq (.t 11) (.t 12)) 10 .true,Oo 14 (.pick (.t 10) (.t 13) (Kb .false)),Om 6 14]) .ret)))
abbrev n_ref09_within : Nat := 41
theorem fn_ref09_within : Try.prog.funcs[n_ref09_within]? = some Try.f41 := Try.func41
theorem c_ref09_within : compF Try.prog Try.f41 = some af_ref09_within := by kernel_rfl
def af_ref09_Tail : AF := (AF.mk 32 [(4, .none)] (.seq (Rg [Oo 2 (.box (.t 0)),Oo 4 (.mv (Ki 0))]) (.seq (.block 0 (.seq (Rg [Om 6 1,Oo 7 (.bin .lss (.t 6) (Ki 0)),Om 8 7,Og 9 (.mv (.t 1)) 8 .false,Og 10 (.ld (.t 2) (.some 3)) 8 .false,Og 11 (.call 18 [(.t 10)]) 8 .false,Og 12 (.bin .geq (.t 9) (.t 11)) 8 .false,Oo 13 (.pick (.t 8) (Kb .true) (.t 12)),Om 5 13]) (.cond (.t 5) (.seq (Rg [Oo 4 (.mv (Ki (-1)))]) .ret) (.seq (Rg [Om 15 1,Oo 16 (.bin .rem (.t 15) (Ki 2)),Oo 17 (.bin .eql (.t 16) (Ki 0)),Om 14 17]) (.cond (.t 14) (.seq (Rg [Of 18 2 2,Ol 19 18,Om 20 1,Oo 21 (.bin .quo (.t 20) (Ki 2)),Oo 22 (.ias 7 (.t 19) (.t 21)),Of 23 22 0,Ol 24 23,Om 4 24]) .ret) .skip))))) (.seq (Rg [Of 25 2 2,Ol 26 25,Om 27 1,Oo 28 (.bin .quo (.t 27) (Ki 2)),Oo 29 (.ias 7 (.t 26) (.t 28)),Of 30 29 1,Ol 31 30,Om 4 31]) .ret))))
abbrev n_ref09_Tail : Nat := 42
theorem fn_ref09_Tail : Try.prog.funcs[n_ref09_Tail]? = some Try.f42 := Try.func42
theorem c_ref09_Tail : compF Try.prog Try.f42 = some af_ref09_Tail := by kernel_rfl
def af_graph_Fits : AF := (AF.mk 15 [(4, .none)] (.seq (Rg [Oo 2 (.box (.t 0)),Oo 4 (.mv (Kb .false))]) (.seq (Rg [Om 5 1,Oo 6 (.len (.t 5)),Oo 7 (.bin .eql (.t 6) (Ki 0)),Om 8 7,Og 9 (.mv (.t 1)) 8 .false,Og 10 (.len (.t 9)) 8 .false,Og 11 (.ld (.t 2) (.some 3)) 8 .false,Og 12 (.call 53 [(.t 11)]) 8 .false,Og 13 (.bin .eql (.t 10) (.t 12)) 8 .false,Oo 14 (.pick (.t 8) (Kb .true) (.t 13)),Om 4 14]) .ret)))
abbrev n_graph_Fits : Nat := 43
theorem fn_graph_Fits : Try.prog.funcs[n_graph_Fits]? = some Try.f43 := Try.func43
theorem c_graph_Fits : compF Try.prog Try.f43 = some af_graph_Fits := by kernel_rfl
def af_graph_Node : AF := (AF.mk 13 [(4, .none)] (.seq (Rg [Oo 2 (.box (.t 0)),Oo 4 (.mv (Kb .false))]) (.seq (Rg [Om 5 1,Oo 6 (.bin .geq (.t 5) (Ki 0)),Om 7 6,Og 8 (.mv (.t 1)) 7 .true,Og 9 (.fa (.t 2) 0) 7 .true,Og 10 (.ld (.t 9) .none) 7 .true,Og 11 (.bin .lss (.t 8) (.t 10)) 7 .true,Oo 12 (.pick (.t 7) (.t 11) (Kb .false)),Om 4 12]) .ret)))
abbrev n_graph_Node : Nat := 44
theorem fn_graph_Node : Try.prog.funcs[n_graph_Node]? = some Try.f44 := Try.func44
theorem c_graph_Node : compF Try.prog Try.f44 = some af_graph_Node := by kernel_rfl
def af_graph_Leaving : AF := (AF.mk 29 [(2, .none)] (.seq (Rg [Oo 1 (.box (.t 0)),Oo 2 (.mv (.k (.c (.d (.list .true 1 [])))))]) (.seq (Rg [Of 6 1 0,Ol 7 6,Oo 8 (.mks 1 24 [(.list .true 1 [])] (.t 7) (.t 7)),Om 3 8]) (.seq (.seq (Rg [Oo 9 (.ld (.t 1) (.some 3)),Oo 10 (.call 53 [(.t 9)]),Oo 11 (.mv (Ki 0))]) (.block 0 (.loop (.seq (Rg [Ob 12 .lss 11 10]) (.seq (.cond (.t 12) .skip (.exit 0)) (.seq (.block 1 (.seq (Rg [Om 13 11,Om 4 13]) (.seq (Rg [Oo 14 (.ld (.t 1) (.some 3)),Om 15 4,Oo 16 (.call 57 [(.t 14),(.t 15)]),Om 5 16]) (Rg [Om 17 3,Om 18 5,Om 19 3,Om 20 5,Oo 21 (.ias 1 (.t 19) (.t 20)),Ol 22 21,Om 23 4,Oo 24 (.bsl 1 [(.int .i64 0)] 1 [(0, (.t 23))]),Oo 25 (.app 1 8 [(.int .i64 0)] (.t 22) (.t 24)),Oo 26 (.ias 1 (.t 17) (.t 18)),Os 26 25 1])))) (Rg [Oo 27 (.bin .add (.t 11) (Ki 1)),Om 11 27]))))))) (.seq (Rg [Om 28 3,Om 2 28]) .ret)))))
abbrev n_graph_Leaving : Nat := 45
theorem fn_graph_Leaving : Try.prog.funcs[n_graph_Leaving]? = some Try.f45 := Try.func45
theorem c_graph_Leaving : compF Try.prog Try.f45 = some af_graph_Leaving := by kernel_rfl
def af_kpaths_finder_deviation : AF := (AF.mk 193 [(8, .none),(9, .none)] (.seq (Rg [Oo 4 (.box (.t 0)),Oo 8 (.mv (.k (.c (.d (.list .true 1 []))))),Oo 9 (.mv (Kb .false))]) (.seq (Rg [Of 21 4 0,Of 22 21 0,Ol 23 22,Oo 24 (.mks 1 8 [(.int .i64 0)] (.t 23) (.t 23)),Om 10 24]) (.seq (.seq (Rg [Om 25 10,Oo 26 (.len (.t 25)),Oo 27 (.mv (Ki 0))]) (.block 0 (.loop (.seq (Rg [Ob 28 .lss 27 26]) (.seq (.cond (.t 28) .skip (.exit 0)) (.seq (.block 1 (.seq (Rg [Om 29 27,Om 11 29]) (Rg [Om 30 10,Om 31 11,Oo 32 (.ias 1 (.t 30) (.t 31)),⟨.none,.st (.t 32) (Ki (-1)) 1,.none⟩]))) (Rg [Oo 33 (.bin .add (.t 27) (Ki 1)),Om 27 33]))))))) (.seq (Rg [Oo 12 (.mv (Ki 0))]) (.seq (.seq (Rg [Om 34 2,Oo 35 (.len (.t 34)),Oo 36 (.mv (Ki 0))]) (.block 2 (.loop (.seq (Rg [Ob 37 .lss 36 35]) (.seq (.cond (.t 37) .skip (.exit 2)) (.seq (.block 3 (.seq (Rg [Oo 38 (.ias 1 (.t 34) (.t 36)),Ol 39 38,Om 14 39]) (.seq (Rg [Om 40 10,Of 41 4 0,Oo 42 (.ld (.t 41) (.some 3)),Om 43 14,Oo 44 (.call 57 [(.t 42),(.t 43)]),Oo 45 (.ias 1 (.t 40) (.t 44)),⟨.none,.st (.t 45) (Ki 0) 1,.none⟩]) (.seq (Rg [Of 46 4 5,Ol 47 46,Oo 48 (.bin .gtr (.t 47) (Ki 0))]) (.cond (.t 48) (Rg [Om 49 12,Of 50 4 0,Of 51 50 2,Ol 52 51,Om 53 14,Oo 54 (.bin .quo (.t 53) (Ki 2)),Oo 55 (.ias 7 (.t 52) (.t 54)),Of 56 55 5,Ol 57 56,Ob 58 .add 49 57,Om 12 58]) .skip))))) (Rg [Oo 59 (.bin .add (.t 36) (Ki 1)),Om 36 59]))))))) (.seq (Rg [Om 60 1,Om 61 12,Oo 62 (.build [Di 0, (.d (.int .i64 0)),(.d (.int .i64 0)),(.d (.list .true 1 []))] [(0, (1, (.t 60))),(2, (1, (.t 61)))]),Oo 63 (.bsl 4 [(.int .i64 0),(.int .i64 0),(.int .i64 0),(.list .true 1 [])] 1 [(0, (.t 62))]),Oo 64 (.box (.t 63)),Om 15 64]) (.seq (.block 4 (.loop (.seq (.seq (Rg [Om 65 15,Oo 66 (.nilc (.t 65)),Ol 67 66,Oo 68 (.call 58 [(.t 67)]),Oo 69 (.bin .gtr (.t 68) (Ki 0))]) (.cond (.t 69) .skip (.exit 4))) (.block 5 (.seq (Rg [Om 71 15,Oo 72 (.mo (.mki 80) [(.t 71)]),Oo 73 (.call 59 [(.t 72)]),Oo 74 (.mo (.tya 82 .true (.agg [Di 0, (.d (.int .i64 0)),(.d (.int .i64 0)),(.d (.list .true 1 []))])) [(.t 73)]),Om 70 74,Oo 75 (.ext (.t 70) 0),Oo 76 (.ext (.t 70) 1),Oo 16 (.box (.k (.agg [Di 0, (.d (.int .i64 0)),(.d (.int .i64 0)),(.d (.list .true 1 []))]))),Os 16 75 4,Om 17 76]) (.seq (.seq (.reg .true [Om 77 10,Of 78 16 0,Ol 79 78,Oo 80 (.ias 1 (.t 77) (.t 79)),Ol 81 80,Oo 82 (.bin .geq (.t 81) (Ki 0)),Om 83 82,Og 84 (.mv (.t 10)) 83 .true,Og 85 (.fa (.t 16) 0) 83 .true,Og 86 (.ld (.t 85) .none) 83 .true,Og 87 (.ias 1 (.t 84) (.t 86)) 83 .true,Og 88 (.ld (.t 87) .none) 83 .true,Og 89 (.fa (.t 16) 2) 83 .true,Og 90 (.ld (.t 89) .none) 83 .true,Og 91 (.bin .leq (.t 88) (.t 90)) 83 .true,Oo 92 (.pick (.t 83) (.t 91) (Kb .false))]) (.cond (.t 92) (.exit 5) .skip)) (.seq (Rg [Om 93 10,Of 94 16 0,Ol 95 94,Of 96 16 2,Ol 97 96,Oo 98 (.ias 1 (.t 93) (.t 95)),Os 98 97 1]) (.seq (.seq (Rg [Of 99 16 0,Ol 100 99,Of 101 4 4,Ol 102 101,Ob 103 .eql 100 102]) (.cond (.t 103) (.seq (Rg [Om 104 2,Of 105 16 3,Ol 106 105,Oo 107 (.bsl 1 [(.list .true 1 [])] 2 [(0, (.t 104)),(1, (.t 106))]),Oo 108 (.call 60 [(.t 107)]),Om 8 108,Oo 9 (.mv (Kb .true))]) .ret) .skip)) (.seq (.seq (Rg [Of 109 16 3,Ol 110 109,Oo 111 (.len (.t 110)),Oo 112 (.bin .gtr (.t 111) (Ki 0)),Om 113 112,Og 114 (.fa (.t 4) 0) 113 .true,Og 115 (.ld (.t 114) (.some 3)) 113 .true,Og 116 (.fa (.t 16) 0) 113 .true,Og 117 (.ld (.t 116) .none) 113 .true,Og 118 (.call 61 [(.t 115),(.t 117)]) 113 .true,Oo 119 (.pick (.t 113) (.t 118) (Kb .false))]) (.cond (.t 119) (.exit 5) .skip)) (.seq (Rg [Of 120 4 6,Ol 121 120,Of 122 16 0,Ol 123 122,Oo 124 (.ias 1 (.t 121) (.t 123)),Ol 125 124,Oo 126 (.len (.t 125)),Oo 127 (.mv (Ki 0))]) (.block 6 (.loop (.seq (Rg [Ob 128 .lss 127 126]) (.seq (.cond (.t 128) .skip (.exit 6)) (.seq (.block 7 (.seq (Rg [Oo 129 (.ias 1 (.t 125) (.t 127)),Ol 130 129,Om 19 130]) (.seq (.seq (Rg [Of 131 4 3,Ol 132 131,Om 133 19,Oo 134 (.call 62 [(.t 132),(.t 133)]),Om 135 134,Og 136 (.fa (.t 16) 3) 135 .false,Og 137 (.ld (.t 136) .none) 135 .false,Og 138 (.len (.t 137)) 135 .false,Og 139 (.bin .eql (.t 138) (Ki 0)) 135 .false,Og 140 (.mv (.t 139)) 135 .false,Og 141 (.mv (.t 3)) 140 .true,Og 142 (.mv (.t 19)) 140 .true,Og 143 (.mo (.lk .true 1 [(0, 0)] .false (.c (.d (.bool .false)))) [(.t 141),(.t 142)]) 140 .true,Og 144 (.pick (.t 140) (.t 143) (Kb .false)) 135 .false,Oo 145 (.pick (.t 135) (Kb .true) (.t 144))]) (.cond (.t 145) (.exit 7) .skip)) (.seq (.reg .true [Of 146 4 0,Oo 147 (.ld (.t 146) (.some 3)),Om 148 19,Oo 149 (.call 63 [(.t 147),(.t 148)]),Of 150 16 1,Ol 151 150,Of 152 4 0,Oo 153 (.ld (.t 152) (.some 3)),Om 154 19,Oo 155 (.call 37 [(.t 153),(.t 154)]),Ob 156 .add 151 155,Of 157 16 2,Ol 158 157,Oo 159 (.build [Di 0, (.d (.int .i64 0)),(.d (.int .i64 0)),(.d (.list .true 1 []))] [(0, (1, (.t 149))),(1, (1, (.t 156))),(2, (1, (.t 158))),(3, (1, (.k (.c (.d (.list .true 1 []))))))]),Oo 20 (.box (.k (.agg [Di 0, (.d (.int .i64 0)),(.d (.int .i64 0)),(.d (.list .true 1 []))]))),Os 20 159 4]) (.seq (.seq (Rg [Of 160 4 5,Ol 161 160,Oo 162 (.bin .gtr (.t 161) (Ki 0))]) (.cond (.t 162) (.reg .true [Of 163 20 2,Ol 164 163,Of 165 4 0,Of 166 165 2,Ol 167 166,Om 168 19,Oo 169 (.bin .quo (.t 168) (Ki 2)),Oo 170 (.ias 7 (.t 167) (.t 169)),Of 171 170 5,Ol 172 171,Ob 173 .add 164 172,Of 174 20 2,Os 174 173 1]) .skip)) (.seq (Rg [Of 175 20 2,Ol 176 175,Of 177 4 5,Ol 178 177,Ob 179 .leq 176 178]) (.cond (.t 179) (.seq (Rg [Of 180 16 3,Ol 181 180,Oo 182 (.call 64 [(.t 181)]),Om 183 19,Oo 184 (.bsl 1 [(.int .i64 0)] 1 [(0, (.t 183))]),Oo 185 (.app 1 8 [(.int .i64 0)] (.t 182) (.t 184)),Of 186 20 3,Os 186 185 1]) (Rg [Om 187 15,Oo 188 (.mo (.mki 80) [(.t 187)]),Oo 189 (.ld (.t 20) (.some 4)),Oo 190 (.mo (.mki 82) [(.t 189)]),Oo 191 (.call 65 [(.t 188),(.t 190)])])) .skip))))))) (Rg [Oo 192 (.bin .add (.t 127) (Ki 1)),Om 127 192])))))))))))))))) (.seq (Rg [Oo 8 (.mv (.k (.c (.d (.list .true 1 []))))),Oo 9 (.mv (Kb .false))]) .ret)))))))))
abbrev n_kpaths_finder_deviation : Nat := 46
theorem fn_kpaths_finder_deviation : Try.prog.funcs[n_kpaths_finder_deviation]? = some Try.f46 := Try.func46
theorem c_kpaths_finder_deviation : compF Try.prog Try.f46 = some af_kpaths_finder_deviation := by kernel_rfl
def af_kpaths_finder_deviate : AF := (AF.mk 87 [(8, .none)] (.seq (Rg [Oo 4 (.box (.t 0)),Oo 8 (.mv (.k (.c (.d (.list .true 1 [])))))]) (.seq (Rg [Om 20 2,Om 21 2,Oo 22 (.len (.t 21)),Oo 23 (.bin .sub (.t 22) (Ki 1)),Oo 24 (.ias 1 (.t 20) (.t 23)),Ol 25 24,Om 9 25]) (.seq (Rg [Om 26 1,Om 10 26]) (.seq (.seq (Rg [Om 27 9,Oo 28 (.len (.t 27)),Oo 29 (.mv (Ki 0))]) (.block 0 (.loop (.seq (Rg [Ob 30 .lss 29 28]) (.seq (.cond (.t 30) .skip (.exit 0)) (.seq (.block 1 (.seq (Rg [Om 31 29,Oo 32 (.ias 1 (.t 27) (.t 29)),Ol 33 32,Om 11 31,Om 12 33]) (.seq (Rg [Om 34 9,Om 35 11,Oo 36 (.sl 1 (.t 34) .none (.some (.t 35)) .none),Om 13 36]) (.seq (Rg [Oo 37 (.mo .mkm []),Om 14 37]) (.seq (.seq (Rg [Om 38 2,Oo 39 (.len (.t 38)),Oo 40 (.mv (Ki 0))]) (.block 2 (.loop (.seq (Rg [Ob 41 .lss 40 39]) (.seq (.cond (.t 41) .skip (.exit 2)) (.seq (.block 3 (.seq (Rg [Oo 42 (.ias 1 (.t 38) (.t 40)),Ol 43 42,Om 16 43]) (.seq (Rg [Om 44 16,Oo 45 (.len (.t 44)),Om 46 11,Ob 47 .gtr 45 46,Om 48 47,Og 49 (.mv (.t 16)) 48 .true,Og 50 (.mv (.t 11)) 48 .true,Og 51 (.sl 1 (.t 49) .none (.some (.t 50)) .none) 48 .true,Og 52 (.mv (.t 13)) 48 .true,Og 53 (.call 66 [(.t 51),(.t 52)]) 48 .true,Oo 54 (.pick (.t 48) (.t 53) (Kb .false))]) (.cond (.t 54) (Rg [Om 55 14,Om 56 16,Om 57 11,Oo 58 (.ias 1 (.t 56) (.t 57)),Ol 59 58,⟨.none,.mo (.up .true 1 [(0, 0)]) [(.t 55),(.t 59),(Kb .true)],.none⟩]) .skip)))) (Rg [Oo 60 (.bin .add (.t 40) (Ki 1)),Om 40 60]))))))) (.seq (Rg [Oo 62 (.ld (.t 4) (.some 7)),Om 63 10,Om 64 13,Om 65 14,Oo 66 (.call 46 [(.t 62),(.t 63),(.t 64),(.t 65)]),Om 61 66,Oo 67 (.ext (.t 61) 0),Oo 68 (.ext (.t 61) 1),Oo 17 (.box (.k (.c (.d (.list .true 1 []))))),Os 17 67 1,Om 18 68]) (.seq (Rg [Oo 69 (.mkf .false 67 [(.t 17)]),Om 19 69]) (.seq (.seq (Rg [Om 70 18,Om 71 70,Og 72 (.mv (.t 3)) 71 .true,Og 73 (.mv (.t 19)) 71 .true,Og 74 (.call 68 [(.t 72),(.t 73)]) 71 .true,Og 75 (.un .not (.t 74)) 71 .true,Oo 76 (.pick (.t 71) (.t 75) (Kb .false))]) (.cond (.t 76) (Rg [Om 77 3,Ol 78 17,Oo 79 (.bsl 1 [(.list .true 1 [])] 1 [(0, (.t 78))]),Oo 80 (.app 1 24 [(.list .true 1 [])] (.t 77) (.t 79)),Om 3 80]) .skip)) (Rg [Of 81 4 0,Oo 82 (.ld (.t 81) (.some 3)),Om 83 12,Oo 84 (.call 63 [(.t 82),(.t 83)]),Om 10 84]))))))))) (Rg [Oo 85 (.bin .add (.t 29) (Ki 1)),Om 29 85]))))))) (.seq (Rg [Om 86 3,Om 8 86]) .ret))))))
abbrev n_kpaths_finder_deviate : Nat := 47
theorem fn_kpaths_finder_deviate : Try.prog.funcs[n_kpaths_finder_deviate]? = some Try.f47 := Try.func47
theorem c_kpaths_finder_deviate : compF Try.prog Try.f47 = some af_kpaths_finder_deviate := by kernel_rfl
abbrev n_slices_SortFunc_int_int : Nat := 48
def af_kpaths_Shortest_1 : AF := (AF.mk 10 [(5, .none)] (.seq (Rg [Oo 5 (.mv (Ki 0))]) (.seq (Rg [Oo 6 (.ld (.t 2) (.some 3)),Om 7 0,Om 8 1,Oo 9 (.call 16 [(.t 6),(.t 7),(.t 8)]),Om 5 9]) .ret)))
abbrev n_kpaths_Shortest_1 : Nat := 49
theorem fn_kpaths_Shortest_1 : Try.prog.funcs[n_kpaths_Shortest_1]? = some Try.f49 := Try.func49
theorem c_kpaths_Shortest_1 : compF Try.prog Try.f49 = some af_kpaths_Shortest_1 := by kernel_rfl
def af_ref09_Cost : AF := (AF.mk 23 [(4, .none)] (.seq (Rg [Oo 2 (.box (.t 0)),Oo 4 (.mv (Ki 0))]) (.seq (.seq (Rg [Om 5 1,Oo 6 (.bin .lss (.t 5) (Ki 0)),Om 7 6,Og 8 (.mv (.t 1)) 7 .false,Og 9 (.ld (.t 2) (.some 3)) 7 .false,Og 10 (.call 18 [(.t 9)]) 7 .false,Og 11 (.bin .geq (.t 8) (.t 10)) 7 .false,Oo 12 (.pick (.t 7) (Kb .true) (.t 11))]) (.cond (.t 12) (.seq (Rg [Oo 4 (.mv (Ki (-1)))]) .ret) .skip)) (.seq (Rg [Of 13 2 2,Ol 14 13,Om 15 1,Oo 16 (.bin .quo (.t 15) (Ki 2)),Om 17 1,Oo 18 (.bin .rem (.t 17) (Ki 2)),Oo 19 (.ias 7 (.t 14) (.t 16)),Of 20 19 2,Oo 21 (.iaa 2 1 (.t 20) (.t 18)),Ol 22 21,Om 4 22]) .ret))))
abbrev n_ref09_Cost : Nat := 51
theorem fn_ref09_Cost : Try.prog.funcs[n_ref09_Cost]? = some Try.f51 := Try.func51
theorem c_ref09_Cost : compF Try.prog Try.f51 = some af_ref09_Cost := by kernel_rfl
def af_topology_within : AF := (AF.mk 15 [(6, .none)] (.seq (Rg [Oo 6 (.mv (Kb .false))]) (.seq (Rg [Om 7 0,Om 8 1,Ob 9 .geq 7 8,Om 10 9,Og 11 (.mv (.t 0)) 10 .true,Og 12 (.mv (.t 2)) 10 .true,Og 13 (.bin .leq (.t 11) (.t 12)) 10 .true,Oo 14 (.pick (.t 10) (.t 13) (Kb .false)),Om 6 14]) .ret)))
abbrev n_topology_within : Nat := 52
theorem fn_topology_within : Try.prog.funcs[n_topology_within]? = some Try.f52 := Try.func52
theorem c_topology_within : compF Try.prog Try.f52 = some af_topology_within := by kernel_rfl
def af_graph_Arcs : AF := (AF.mk 7 [(2, .none)] (.seq (Rg [Oo 1 (.box (.t 0)),Oo 2 (.mv (Ki 0))]) (.seq (Rg [Of 3 1 2,Ol 4 3,Oo 5 (.len (.t 4)),Oo 6 (.bin .mul (Ki 2) (.t 5)),Om 2 6]) .ret)))
abbrev n_graph_Arcs : Nat := 53
theorem fn_graph_Arcs : Try.prog.funcs[n_graph_Arcs]? = some Try.f53 := Try.func53
theorem c_graph_Arcs : compF Try.prog Try.f53 = some af_graph_Arcs := by kernel_rfl
def af_cmp_Or_int : AF := (AF.mk 18 [(2, .none)] (.seq (Rg [Oo 2 (.mv (Ki 0))]) (.seq (Rg [Oo 3 (.mv (Ki 0))]) (.seq (.seq (Rg [Om 6 0,Oo 7 (.len (.t 6)),Oo 8 (.mv (Ki 0))]) (.block 0 (.loop (.seq (Rg [Ob 9 .lss 8 7]) (.seq (.cond (.t 9) .skip (.exit 0)) (.seq (.block 1 (.seq (Rg [Oo 10 (.ias 1 (.t 6) (.t 8)),Ol 11 10,Om 5 11]) (.seq (Rg [Om 12 5,Om 13 3,Ob 14 .neq 12 13]) (.cond (.t 14) (.seq (Rg [Om 15 5,Om 2 15]) .ret) .skip)))) (Rg [Oo 16 (.bin .add (.t 8) (Ki 1)),Om 8 16]))))))) (.seq (Rg [Om 17 3,Om 2 17]) .ret)))))
abbrev n_cmp_Or_int : Nat := 54
theorem fn_cmp_Or_int : Try.prog.funcs[n_cmp_Or_int]? = some Try.f54 := Try.func54
theorem c_cmp_Or_int : compF Try.prog Try.f54 = some af_cmp_Or_int := by kernel_rfl
def af_cmp_Compare_int : AF := (AF.mk 20 [(4, .none)] (.seq (Rg [Oo 4 (.mv (Ki 0))]) (.seq (Rg [Om 7 0,Oo 8 (.call 71 [(.t 7)]),Om 5 8]) (.seq (Rg [Om 9 1,Oo 10 (.call 71 [(.t 9)]),Om 6 10]) (.seq (.seq (Rg [Om 11 5]) (.cond (.t 11) (.seq (.seq (Rg [Om 12 6]) (.cond (.t 12) (.seq (Rg [Oo 4 (.mv (Ki 0))]) .ret) .skip)) (.seq (Rg [Oo 4 (.mv (Ki (-1)))]) .ret)) .skip)) (.seq (.seq (Rg [Om 13 6]) (.cond (.t 13) (.seq (Rg [Oo 4 (.mv (Ki 1))]) .ret) .skip)) (.seq (.seq (Rg [Om 14 0,Om 15 1,Ob 16 .lss 14 15]) (.cond (.t 16) (.seq (Rg [Oo 4 (.mv (Ki (-1)))]) .ret) .skip)) (.seq (.seq (Rg [Om 17 0,Om 18 1,Ob 19 .gtr 17 18]) (.cond (.t 19) (.seq (Rg [Oo 4 (.mv (Ki 1))]) .ret) .skip)) (.seq (Rg [Oo 4 (.mv (Ki 0))]) .ret)))))))))
abbrev n_cmp_Compare_int : Nat := 55
theorem fn_cmp_Compare_int : Try.prog.funcs[n_cmp_Compare_int]? = some Try.f55 := Try.func55
theorem c_cmp_Compare_int : compF Try.prog Try.f55 = some af_cmp_Compare_int := by kernel_rfl
def af_slices_Compare_int_int : AF := (AF.mk 36 [(4, .none)] (.seq (Rg [Oo 4 (.mv (Ki 0))]) (.seq (.seq (Rg [Om 9 0,Oo 10 (.len (.t 9)),Oo 11 (.mv (Ki 0))]) (.block 0 (.loop (.seq (Rg [Ob 12 .lss 11 10]) (.seq (.cond (.t 12) .skip (.exit 0)) (.seq (.block 1 (.seq (Rg [Om 13 11,Oo 14 (.ias 1 (.t 9) (.t 11)),Ol 15 14,Om 5 13,Om 6 15]) (.seq (.seq (Rg [Om 16 5,Om 17 1,Oo 18 (.len (.t 17)),Ob 19 .geq 16 18]) (.cond (.t 19) (.seq (Rg [Oo 4 (.mv (Ki 1))]) .ret) .skip)) (.seq (Rg [Om 20 1,Om 21 5,Oo 22 (.ias 1 (.t 20) (.t 21)),Ol 23 22,Om 7 23]) (.seq (Rg [Om 24 6,Om 25 7,Oo 26 (.call 55 [(.t 24),(.t 25)]),Om 8 26]) (.seq (Rg [Om 27 8,Oo 28 (.bin .neq (.t 27) (Ki 0))]) (.cond (.t 28) (.seq (Rg [Om 29 8,Om 4 29]) .ret) .skip))))))) (Rg [Oo 30 (.bin .add (.t 11) (Ki 1)),Om 11 30]))))))) (.seq (.seq (Rg [Om 31 0,Oo 32 (.len (.t 31)),Om 33 1,Oo 34 (.len (.t 33)),Ob 35 .lss 32 34]) (.cond (.t 35) (.seq (Rg [Oo 4 (.mv (Ki (-1)))]) .ret) .skip)) (.seq (Rg [Oo 4 (.mv (Ki 0))]) .ret)))))
abbrev n_slices_Compare_int_int : Nat := 56
theorem fn_slices_Compare_int_int : Try.prog.funcs[n_slices_Compare_int_int]? = some Try.f56 := Try.func56
theorem c_slices_Compare_int_int : compF Try.prog Try.f56 = some af_slices_Compare_int_int := by kernel_rfl
def af_graph_Tail : AF := (AF.mk 22 [(4, .none)] (.seq (Rg [Oo 2 (.box (.t 0)),Oo 4 (.mv (Ki 0))]) (.seq (.seq (Rg [Om 5 1,Oo 6 (.bin .rem (.t 5) (Ki 2)),Oo 7 (.bin .eql (.t 6) (Ki 0))]) (.cond (.t 7) (.seq (Rg [Of 8 2 2,Ol 9 8,Om 10 1,Oo 11 (.bin .quo (.t 10) (Ki 2)),Oo 12 (.ias 7 (.t 9) (.t 11)),Of 13 12 0,Ol 14 13,Om 4 14]) .ret) .skip)) (.seq (Rg [Of 15 2 2,Ol 16 15,Om 17 1,Oo 18 (.bin .quo (.t 17) (Ki 2)),Oo 19 (.ias 7 (.t 16) (.t 18)),Of 20 19 1,Ol 21 20,Om 4 21]) .ret))))
abbrev n_graph_Tail : Nat := 57
theorem fn_graph_Tail : Try.prog.funcs[n_graph_Tail]? = some Try.f57 := Try.func57
theorem c_graph_Tail : compF Try.prog Try.f57 = some af_graph_Tail := by kernel_rfl
def af_kpaths_queue_Len : AF := (AF.mk 5 [(2, .none)] (.seq (Rg [Oo 2 (.mv (Ki 0))]) (.seq (Rg [Om 3 0,Oo 4 (.len (.t 3)),Om 2 4]) .ret)))
abbrev n_kpaths_queue_Len : Nat := 58
theorem fn_kpaths_queue_Len : Try.prog.funcs[n_kpaths_queue_Len]? = some Try.f58 := Try.func58
theorem c_kpaths_queue_Len : compF Try.prog Try.f58 = some af_kpaths_queue_Len := by kernel_rfl
def af_container_heap_Pop : AF := (AF.mk 15 [(2, .none)] (.seq (Rg [Oo 2 (.mv (.k (.c (.d .nili))))]) (.seq (Rg [Om 4 0,Oo 5 (.ivk [(80, (58, (.some .none))),(84, (58, .none))] (.t 4) []),Oo 6 (.bin .sub (.t 5) (Ki 1)),Om 3 6]) (.seq (Rg [Om 7 0,Om 8 3,Oo 9 (.ivk [(80, (111, (.some .none))),(84, (111, .none))] (.t 7) [(Ki 0),(.t 8)])]) (.seq (Rg [Om 10 0,Om 11 3,Oo 12 (.call 72 [(.t 10),(Ki 0),(.t 11)])]) (.seq (Rg [Om 13 0,Oo 14 (.ivk [(80, (109, .none))] (.t 13) []),Om 2 14]) .ret))))))
abbrev n_container_heap_Pop : Nat := 59
theorem fn_container_heap_Pop : Try.prog.funcs[n_container_heap_Pop]? = some Try.f59 := Try.func59
theorem c_container_heap_Pop : compF Try.prog Try.f59 = some af_container_heap_Pop := by kernel_rfl
def af_slices_Concat_int_int : AF := (AF.mk 36 [(2, .none)] (.seq (Rg [Oo 2 (.mv (.k (.c (.d (.list .true 1 [])))))]) (.seq (Rg [Oo 3 (.mv (Ki 0))]) (.seq (.seq (Rg [Om 9 0,Oo 10 (.len (.t 9)),Oo 11 (.mv (Ki 0))]) (.block 0 (.loop (.seq (Rg [Ob 12 .lss 11 10]) (.seq (.cond (.t 12) .skip (.exit 0)) (.seq (.block 1 (.seq (Rg [Oo 13 (.ias 1 (.t 9) (.t 11)),Ol 14 13,Om 5 14]) (.seq (Rg [Om 15 3,Om 16 5,Oo 17 (.len (.t 16)),Ob 18 .add 15 17,Om 3 18]) (.seq (Rg [Om 19 3,Oo 20 (.bin .lss (.t 19) (Ki 0))]) (.cond (.t 20) (Rg [Oo 21 (.mo (.mki 9) [(.k (.c (.d (.str [108, 101, 110, 32, 111, 117, 116, 32, 111, 102, 32, 114, 97, 110, 103, 101]))))]),⟨.none,.bad,.none⟩]) .skip))))) (Rg [Oo 22 (.bin .add (.t 11) (Ki 1)),Om 11 22]))))))) (.seq (Rg [Om 23 3,Oo 24 (.call 73 [(.k (.c (.d (.list .true 1 [])))),(.t 23)]),Om 6 24]) (.seq (.seq (Rg [Om 25 0,Oo 26 (.len (.t 25)),Oo 27 (.mv (Ki 0))]) (.block 2 (.loop (.seq (Rg [Ob 28 .lss 27 26]) (.seq (.cond (.t 28) .skip (.exit 2)) (.seq (.block 3 (.seq (Rg [Oo 29 (.ias 1 (.t 25) (.t 27)),Ol 30 29,Om 8 30]) (Rg [Om 31 6,Om 32 8,Oo 33 (.app 1 8 [(.int .i64 0)] (.t 31) (.t 32)),Om 6 33]))) (Rg [Oo 34 (.bin .add (.t 27) (Ki 1)),Om 27 34]))))))) (.seq (Rg [Om 35 6,Om 2 35]) .ret)))))))
abbrev n_slices_Concat_int_int : Nat := 60
theorem fn_slices_Concat_int_int : Try.prog.funcs[n_slices_Concat_int_int]? = some Try.f60 := Try.func60
theorem c_slices_Concat_int_int : compF Try.prog Try.f60 = some af_slices_Concat_int_int := by kernel_rfl
def af_graph_Over : AF := (AF.mk 16 [(4, .none)] (.seq (Rg [Oo 2 (.box (.t 0)),Oo 4 (.mv (Kb .false))]) (.seq (Rg [Of 5 2 1,Ol 6 5,Oo 7 (.len (.t 6)),Oo 8 (.bin .gtr (.t 7) (Ki 0)),Om 9 8,Og 10 (.fa (.t 2) 1) 9 .true,Og 11 (.ld (.t 10) .none) 9 .true,Og 12 (.mv (.t 1)) 9 .true,Og 13 (.ias 1 (.t 11) (.t 12)) 9 .true,Og 14 (.ld (.t 13) .none) 9 .true,Oo 15 (.pick (.t 9) (.t 14) (Kb .false)),Om 4 15]) .ret)))
abbrev n_graph_Over : Nat := 61
theorem fn_graph_Over : Try.prog.funcs[n_graph_Over]? = some Try.f61 := Try.func61
theorem c_graph_Over : compF Try.prog Try.f61 = some af_graph_Over := by kernel_rfl
def af_graph_Down : AF := (AF.mk 14 [(4, .none)] (.seq (Rg [Oo 4 (.mv (Kb .false))]) (.seq (Rg [Om 5 0,Oo 6 (.len (.t 5)),Oo 7 (.bin .gtr (.t 6) (Ki 0)),Om 8 7,Og 9 (.mv (.t 0)) 8 .true,Og 10 (.mv (.t 1)) 8 .true,Og 11 (.ias 1 (.t 9) (.t 10)) 8 .true,Og 12 (.ld (.t 11) .none) 8 .true,Oo 13 (.pick (.t 8) (.t 12) (Kb .false)),Om 4 13]) .ret)))
abbrev n_graph_Down : Nat := 62
theorem fn_graph_Down : Try.prog.funcs[n_graph_Down]? = some Try.f62 := Try.func62
theorem c_graph_Down : compF Try.prog Try.f62 = some af_graph_Down := by kernel_rfl
def af_graph_Head : AF := (AF.mk 9 [(4, .none)] (.seq (Rg [Oo 2 (.box (.t 0)),Oo 4 (.mv (Ki 0))]) (.seq (Rg [Oo 5 (.ld (.t 2) (.some 3)),Om 6 1,Oo 7 (.bin .xor (.t 6) (Ki 1)),Oo 8 (.call 57 [(.t 5),(.t 7)]),Om 4 8]) .ret)))
abbrev n_graph_Head : Nat := 63
theorem fn_graph_Head : Try.prog.funcs[n_graph_Head]? = some Try.f63 := Try.func63
theorem c_graph_Head : compF Try.prog Try.f63 = some af_graph_Head := by kernel_rfl
def af_slices_Clone_int_int : AF := (AF.mk 8 [(2, .none)] (.seq (Rg [Oo 2 (.mv (.k (.c (.d (.list .true 1 [])))))]) (.seq (.seq (Rg [Om 3 0,Oo 4 (.isnil 0 .false (.t 3))]) (.cond (.t 4) (.seq (Rg [Oo 2 (.mv (.k (.c (.d (.list .true 1 [])))))]) .ret) .skip)) (.seq (Rg [Oo 5 (.bsl 1 [(.int .i64 0)] 0 []),Om 6 0,Oo 7 (.app 1 8 [(.int .i64 0)] (.t 5) (.t 6)),Om 2 7]) .ret))))
abbrev n_slices_Clone_int_int : Nat := 64
theorem fn_slices_Clone_int_int : Try.prog.funcs[n_slices_Clone_int_int]? = some Try.f64 := Try.func64
theorem c_slices_Clone_int_int : compF Try.prog Try.f64 = some af_slices_Clone_int_int := by kernel_rfl
def af_container_heap_Push : AF := (AF.mk 12 [] (.seq (Rg [Om 4 0,Om 5 1,Oo 6 (.ivk [(80, (110, .none))] (.t 4) [(.t 5)])]) (Rg [Om 7 0,Om 8 0,Oo 9 (.ivk [(80, (58, (.some .none))),(84, (58, .none))] (.t 8) []),Oo 10 (.bin .sub (.t 9) (Ki 1)),Oo 11 (.call 74 [(.t 7),(.t 10)])])))
abbrev n_container_heap_Push : Nat := 65
theorem fn_container_heap_Push : Try.prog.funcs[n_container_heap_Push]? = some Try.f65 := Try.func65
theorem c_container_heap_Push : compF Try.prog Try.f65 = some af_container_heap_Push := by kernel_rfl
def af_slices_Equal_int_int : AF := (AF.mk 26 [(4, .none)] (.seq (Rg [Oo 4 (.mv (Kb .false))]) (.seq (.seq (Rg [Om 6 0,Oo 7 (.len (.t 6)),Om 8 1,Oo 9 (.len (.t 8)),Ob 10 .neq 7 9]) (.cond (.t 10) (.seq (Rg [Oo 4 (.mv (Kb .false))]) .ret) .skip)) (.seq (.seq (Rg [Om 11 0,Oo 12 (.len (.t 11)),Oo 13 (.mv (Ki 0))]) (.block 0 (.loop (.seq (Rg [Ob 14 .lss 13 12]) (.seq (.cond (.t 14) .skip (.exit 0)) (.seq (.block 1 (.seq (Rg [Om 15 13,Om 5 15]) (.seq (.reg .true [Om 16 0,Om 17 5,Oo 18 (.ias 1 (.t 16) (.t 17)),Ol 19 18,Om 20 1,Om 21 5,Oo 22 (.ias 1 (.t 20) (.t 21)),Ol 23 22,Ob 24 .neq 19 23]) (.cond (.t 24) (.seq (Rg [Oo 4 (.mv (Kb .false))]) .ret) .skip)))) (Rg [Oo 25 (.bin .add (.t 13) (Ki 1)),Om 13 25]))))))) (.seq (Rg [Oo 4 (.mv (Kb .true))]) .ret)))))
abbrev n_slices_Equal_int_int : Nat := 66
theorem fn_slices_Equal_int_int : Try.prog.funcs[n_slices_Equal_int_int]? = some Try.f66 := Try.func66
theorem c_slices_Equal_int_int : compF Try.prog Try.f66 = some af_slices_Equal_int_int := by kernel_rfl
def af_kpaths_finder_deviate_1 : AF := (AF.mk 7 [(3, .none)] (.seq (Rg [Oo 3 (.mv (Kb .false))]) (.seq (Rg [Ol 4 1,Om 5 0,Oo 6 (.call 66 [(.t 4),(.t 5)]),Om 3 6]) .ret)))
abbrev n_kpaths_finder_deviate_1 : Nat := 67
theorem fn_kpaths_finder_deviate_1 : Try.prog.funcs[n_kpaths_finder_deviate_1]? = some Try.f67 := Try.func67
theorem c_kpaths_finder_deviate_1 : compF Try.prog Try.f67 = some af_kpaths_finder_deviate_1 := by kernel_rfl
def af_slices_ContainsFunc_int_int : AF := (AF.mk 9 [(4, .none)] (.seq (Rg [Oo 4 (.mv (Kb .false))]) (.seq (Rg [Om 5 0,Om 6 1,Oo 7 (.call 75 [(.t 5),(.t 6)]),Oo 8 (.bin .geq (.t 7) (Ki 0)),Om 4 8]) .ret)))
abbrev n_slices_ContainsFunc_int_int : Nat := 68
theorem fn_slices_ContainsFunc_int_int : Try.prog.funcs[n_slices_ContainsFunc_int_int]? = some Try.f68 := Try.func68
theorem c_slices_ContainsFunc_int_int : compF Try.prog Try.f68 = some af_slices_ContainsFunc_int_int := by kernel_rfl
def af_cmp_isNaN_int : AF := (AF.mk 6 [(2, .none)] (.seq (Rg [Oo 2 (.mv (Kb .false))]) (.seq (Rg [Om 3 0,Om 4 0,Ob 5 .neq 3 4,Om 2 5]) .ret)))
abbrev n_cmp_isNaN_int : Nat := 71
theorem fn_cmp_isNaN_int : Try.prog.funcs[n_cmp_isNaN_int]? = some Try.f71 := Try.func71
theorem c_cmp_isNaN_int : compF Try.prog Try.f71 = some af_cmp_isNaN_int := by kernel_rfl
def af_container_heap_down : AF := (AF.mk 48 [(6, .none)] (.seq (Rg [Oo 6 (.mv (Kb .false))]) (.seq (Rg [Om 11 1,Om 7 11]) (.seq (.block 0 (.loop (.block 1 (.seq (Rg [Om 12 7,Oo 13 (.bin .mul (Ki 2) (.t 12)),Oo 14 (.bin .add (.t 13) (Ki 1)),Om 8 14]) (.seq (.seq (Rg [Om 15 8,Om 16 2,Ob 17 .geq 15 16,Om 18 17,Og 19 (.mv (.t 8)) 18 .false,Og 20 (.bin .lss (.t 19) (Ki 0)) 18 .false,Oo 21 (.pick (.t 18) (Kb .true) (.t 20))]) (.cond (.t 21) (.exit 0) .skip)) (.seq (Rg [Om 22 8,Om 9 22]) (.seq (.seq (Rg [Om 23 8,Oo 24 (.bin .add (.t 23) (Ki 1)),Om 10 24]) (.seq (Rg [Om 25 10,Om 26 2,Ob 27 .lss 25 26,Om 28 27,Og 29 (.mv (.t 0)) 28 .true,Og 30 (.mv (.t 10)) 28 .true,Og 31 (.mv (.t 8)) 28 .true,Og 32 (.ivk [(80, (108, (.some .none))),(84, (108, .none))] (.t 29) [(.t 30),(.t 31)]) 28 .true,Oo 33 (.pick (.t 28) (.t 32) (Kb .false))]) (.cond (.t 33) (Rg [Om 34 10,Om 9 34]) .skip))) (.seq (.seq (Rg [Om 35 0,Om 36 9,Om 37 7,Oo 38 (.ivk [(80, (108, (.some .none))),(84, (108, .none))] (.t 35) [(.t 36),(.t 37)]),Oo 39 (.un .not (.t 38))]) (.cond (.t 39) (.exit 0) .skip)) (.seq (Rg [Om 40 0,Om 41 7,Om 42 9,Oo 43 (.ivk [(80, (111, (.some .none))),(84, (111, .none))] (.t 40) [(.t 41),(.t 42)])]) (Rg [Om 44 9,Om 7 44])))))))))) (.seq (Rg [Om 45 7,Om 46 1,Ob 47 .gtr 45 46,Om 6 47]) .ret)))))
abbrev n_container_heap_down : Nat := 72
theorem fn_container_heap_down : Try.prog.funcs[n_container_heap_down]? = some Try.f72 := Try.func72
theorem c_container_heap_down : compF Try.prog Try.f72 = some af_container_heap_down := by kernel_rfl
def af_slices_Grow_int_int : AF := (AF.mk 27 [(4, .none)] (.seq (Rg [Oo 4 (.mv (.k (.c (.d (.list .true 1 [])))))]) (.seq (.seq (Rg [Om 5 1,Oo 6 (.bin .lss (.t 5) (Ki 0))]) (.cond (.t 6) (Rg [Oo 7 (.mo (.mki 9) [(.k (.c (.d (.str [99, 97, 110, 110, 111, 116, 32, 98, 101, 32, 110, 101, 103, 97, 116, 105, 118, 101]))))]),⟨.none,.bad,.none⟩]) .skip)) (.seq (.seq (Rg [Om 8 1,Om 9 0,Oo 10 (.cap (.t 9)),Om 11 0,Oo 12 (.len (.t 11)),Ob 13 .sub 10 12,Ob 14 .sub 8 13,Om 1 14]) (.seq (Rg [Om 15 1,Oo 16 (.bin .gtr (.t 15) (Ki 0))]) (.cond (.t 16) (Rg [Om 17 0,Om 18 0,Oo 19 (.cap (.t 18)),Oo 20 (.sl 1 (.t 17) .none (.some (.t 19)) .none),Om 21 1,Oo 22 (.mo (.apz 1 8 [(.int .i64 0)]) [(.t 20),(.t 21)]),Om 23 0,Oo 24 (.len (.t 23)),Oo 25 (.sl 1 (.t 22) .none (.some (.t 24)) .none),Om 0 25]) .skip))) (.seq (Rg [Om 26 0,Om 4 26]) .ret)))))
abbrev n_slices_Grow_int_int : Nat := 73
theorem fn_slices_Grow_int_int : Try.prog.funcs[n_slices_Grow_int_int]? = some Try.f73 := Try.func73
theorem c_slices_Grow_int_int : compF Try.prog Try.f73 = some af_slices_Grow_int_int := by kernel_rfl
def af_container_heap_up : AF := (AF.mk 23 [] (.block 0 (.loop (.block 1 (.seq (Rg [Om 5 1,Oo 6 (.bin .sub (.t 5) (Ki 1)),Oo 7 (.bin .quo (.t 6) (Ki 2)),Om 4 7]) (.seq (.seq (Rg [Om 8 4,Om 9 1,Ob 10 .eql 8 9,Om 11 10,Og 12 (.mv (.t 0)) 11 .false,Og 13 (.mv (.t 1)) 11 .false,Og 14 (.mv (.t 4)) 11 .false,Og 15 (.ivk [(80, (108, (.some .none))),(84, (108, .none))] (.t 12) [(.t 13),(.t 14)]) 11 .false,Og 16 (.un .not (.t 15)) 11 .false,Oo 17 (.pick (.t 11) (Kb .true) (.t 16))]) (.cond (.t 17) (.exit 0) .skip)) (.seq (Rg [Om 18 0,Om 19 4,Om 20 1,Oo 21 (.ivk [(80, (111, (.some .none))),(84, (111, .none))] (.t 18) [(.t 19),(.t 20)])]) (Rg [Om 22 4,Om 1 22]))))))))
abbrev n_container_heap_up : Nat := 74
theorem fn_container_heap_up : Try.prog.funcs[n_container_heap_up]? = some Try.f74 := Try.func74
theorem c_container_heap_up : compF Try.prog Try.f74 = some af_container_heap_up := by kernel_rfl
def af_slices_IndexFunc_int_int : AF := (AF.mk 19 [(4, .none)] (.seq (Rg [Oo 4 (.mv (Ki 0))]) (.seq (.seq (Rg [Om 6 0,Oo 7 (.len (.t 6)),Oo 8 (.mv (Ki 0))]) (.block 0 (.loop (.seq (Rg [Ob 9 .lss 8 7]) (.seq (.cond (.t 9) .skip (.exit 0)) (.seq (.block 1 (.seq (Rg [Om 10 8,Om 5 10]) (.seq (Rg [Om 11 1,Om 12 0,Om 13 5,Oo 14 (.ias 1 (.t 12) (.t 13)),Ol 15 14,Oo 16 (.callv (.t 11) [(.t 15)])]) (.cond (.t 16) (.seq (Rg [Om 17 5,Om 4 17]) .ret) .skip)))) (Rg [Oo 18 (.bin .add (.t 8) (Ki 1)),Om 8 18]))))))) (.seq (Rg [Oo 4 (.mv (Ki (-1)))]) .ret))))
abbrev n_slices_IndexFunc_int_int : Nat := 75
theorem fn_slices_IndexFunc_int_int : Try.prog.funcs[n_slices_IndexFunc_int_int]? = some Try.f75 := Try.func75
theorem c_slices_IndexFunc_int_int : compF Try.prog Try.f75 = some af_slices_IndexFunc_int_int := by kernel_rfl
def af_kpaths_queue_Less : AF := (AF.mk 29 [(6, .none)] (.seq (Rg [Oo 6 (.mv (Kb .false))]) (.seq (.seq (.reg .true [Om 7 0,Om 8 1,Oo 9 (.ias 4 (.t 7) (.t 8)),Of 10 9 1,Ol 11 10,Om 12 0,Om 13 2,Oo 14 (.ias 4 (.t 12) (.t 13)),Of 15 14 1,Ol 16 15,Om 17 0,Om 18 1,Oo 19 (.ias 4 (.t 17) (.t 18)),Of 20 19 3,Ol 21 20,Om 22 0,Om 23 2,Oo 24 (.ias 4 (.t 22) (.t 23)),Of 25 24 3,Ol 26 25]) (.seq (Rg [Oo 27 (.call 38 [(.t 11),(.t 16),(.t 21),(.t 26)])]) (.reg .true [Oo 28 (.bin .lss (.t 27) (Ki 0)),Om 6 28]))) .ret)))
abbrev n_kpaths_queue_Less : Nat := 108
theorem fn_kpaths_queue_Less : Try.prog.funcs[n_kpaths_queue_Less]? = some Try.f108 := Try.func108
theorem c_kpaths_queue_Less : compF Try.prog Try.f108 = some af_kpaths_queue_Less := by kernel_rfl
def af_kpaths_queue_Pop : AF := (AF.mk 25 [(2, .none)] (.seq (Rg [Oo 2 (.mv (.k (.c (.d .nili))))]) (.seq (Rg [Om 5 0,Oo 6 (.nilc (.t 5)),Ol 7 6,Oo 8 (.len (.t 7)),Oo 9 (.bin .sub (.t 8) (Ki 1)),Om 3 9]) (.seq (Rg [Om 10 0,Oo 11 (.nilc (.t 10)),Ol 12 11,Om 13 3,Oo 14 (.ias 4 (.t 12) (.t 13)),Oo 15 (.ld (.t 14) (.some 4)),Oo 4 (.box (.k (.agg [Di 0, (.d (.int .i64 0)),(.d (.int .i64 0)),(.d (.list .true 1 []))]))),Os 4 15 4]) (.seq (Rg [Om 16 0,Om 17 0,Oo 18 (.nilc (.t 17)),Ol 19 18,Om 20 3,Oo 21 (.sl 4 (.t 19) .none (.some (.t 20)) .none),Oo 22 (.nilc (.t 16)),Os 22 21 1]) (.seq (Rg [Oo 23 (.ld (.t 4) (.some 4)),Oo 24 (.mo (.mki 82) [(.t 23)]),Om 2 24]) .ret))))))
abbrev n_kpaths_queue_Pop : Nat := 109
theorem fn_kpaths_queue_Pop : Try.prog.funcs[n_kpaths_queue_Pop]? = some Try.f109 := Try.func109
theorem c_kpaths_queue_Pop : compF Try.prog Try.f109 = some af_kpaths_queue_Pop := by kernel_rfl
def af_kpaths_queue_Push : AF := (AF.mk 20 [] (.seq (Rg [Om 7 1,Oo 8 (.mo (.tya 82 .true (.agg [Di 0, (.d (.int .i64 0)),(.d (.int .i64 0)),(.d (.list .true 1 []))])) [(.t 7)]),Om 6 8,Oo 9 (.ext (.t 6) 0),Oo 10 (.ext (.t 6) 1),Oo 4 (.box (.k (.agg [Di 0, (.d (.int .i64 0)),(.d (.int .i64 0)),(.d (.list .true 1 []))]))),Os 4 9 4,Om 5 10]) (.seq (Rg [Om 11 5]) (.cond (.t 11) (.reg .true [Om 12 0,Om 13 0,Oo 14 (.nilc (.t 13)),Ol 15 14,Oo 16 (.ld (.t 4) (.some 4)),Oo 17 (.bsl 4 [(.int .i64 0),(.int .i64 0),(.int .i64 0),(.list .true 1 [])] 1 [(0, (.t 16))]),Oo 18 (.app 4 48 [(.int .i64 0),(.int .i64 0),(.int .i64 0),(.list .true 1 [])] (.t 15) (.t 17)),Oo 19 (.nilc (.t 12)),Os 19 18 1]) .skip))))
abbrev n_kpaths_queue_Push : Nat := 110
theorem fn_kpaths_queue_Push : Try.prog.funcs[n_kpaths_queue_Push]? = some Try.f110 := Try.func110
theorem c_kpaths_queue_Push : compF Try.prog Try.f110 = some af_kpaths_queue_Push := by kernel_rfl
def af_kpaths_queue_Swap : AF := (AF.mk 20 [] (.reg .true [Om 6 0,Om 7 1,Om 8 0,Om 9 2,Om 10 0,Om 11 2,Oo 12 (.ias 4 (.t 10) (.t 11)),Oo 13 (.ld (.t 12) (.some 4)),Om 14 0,Om 15 1,Oo 16 (.ias 4 (.t 14) (.t 15)),Oo 17 (.ld (.t 16) (.some 4)),Oo 18 (.ias 4 (.t 6) (.t 7)),Os 18 13 4,Oo 19 (.ias 4 (.t 8) (.t 9)),Os 19 17 4]))
abbrev n_kpaths_queue_Swap : Nat := 111
theorem fn_kpaths_queue_Swap : Try.prog.funcs[n_kpaths_queue_Swap]? = some Try.f111 := Try.func111
theorem c_kpaths_queue_Swap : compF Try.prog Try.f111 = some af_kpaths_queue_Swap := by kernel_rfl
theorem mixed : Try.prog.follows .mixedOrders = true := by decide
end Go.Ab

/-
  Contracts, part a: what a contract says; the data of the program and how they are laid.
-/
namespace Go.Ab
open Go.Proofs
abbrev iA (n : Int) : AV := .c (.d (.int .i64 n))
abbrev bA (b : Bool) : AV := .c (.d (.bool b))
def Ret (P : Program) (f : Nat) (args : List AV) (r : AV) : Prop := FnS P f args [] fun r' _ => pureA r' = true ∧ r' = r
theorem ret_start {P : Program} {f : Nat} {fn : Func} {af : AF} {args : List AV} {r : AV} (hm : P.follows .mixedOrders = true) (hf : P.funcs[f]? = some fn) (hc : compF P fn = some af) (hl : args.length ≤ af.nt)
  (hv : ∀ (Λ : Len), (∀ l, Λ l = (l.length : Int)) → ∀ (K : AV → Prop), K r → vcF P Λ af args K) : Ret P f args r :=
 fn_pure (K := fun r' => r' = r) hm hf hc hl fun Λ h => hv Λ h _ rfl
theorem wrap64 (x : Int) : IntKind.i64.wrap x = (x + 9223372036854775808) % 18446744073709551616 - 9223372036854775808 := by
 simp only [IntKind.wrap, IntKind.bits, IntKind.signed, Bool.true_and, decide_eq_true_eq, Nat.reduceSub, ge_iff_le]
 have e1 : (2 : Int) ^ 64 = 18446744073709551616 := by decide
 have e2 : (2 : Int) ^ 63 = 9223372036854775808 := by decide
 rw [e1, e2]
 split <;> omega
theorem wS {x : Int} (h : -9223372036854775808 ≤ x) (h' : x < 9223372036854775808) : IntKind.i64.wrap x = x := by
 rw [wrap64]; omega
theorem call_b {P : Program} {m : Nat} {d : Bool} {L : Lv} {h : Hp} {f : Nat} {xs : List X} {args' : List AV} {K : Lv → AV → Hp → Prop} {b : Bool} (hf : Ret P f args' (bA b)) (ha : (evsN L xs).map fgA = args') (hp : args'.all pureA = true)
  (k1 : b = true → K L (bA true) h) (k2 : b = false → K L (bA false) h) : CallS P m d L h f xs K := by
 refine CallS.pure (r := bA b) (Or.inl ⟨args', .inl ha.symm, hp, hf⟩) ?_
 cases b
 ·exact k2 rfl
 ·exact k1 rfl
theorem call_i {P : Program} {m : Nat} {d : Bool} {L : Lv} {h : Hp} {f : Nat} {xs : List X} {args' : List AV} {K : Lv → AV → Hp → Prop} {n : Int} (hf : Ret P f args' (iA n)) (ha : (evsN L xs).map fgA = args') (hp : args'.all pureA = true)
  (k : ∀ c, c = n → K L (iA c) h) : CallS P m d L h f xs K :=
 CallS.pure (r := iA n) (Or.inl ⟨args', .inl ha.symm, hp, hf⟩) (k n rfl)
theorem call_r {P : Program} {m : Nat} {d : Bool} {L : Lv} {h : Hp} {f : Nat} {xs : List X} {args' : List AV} {K : Lv → AV → Hp → Prop} {r : AV} (hf : Ret P f args' r) (ha : (evsN L xs).map fgA = args') (hp : args'.all pureA = true)
  (k : K L r h) : CallS P m d L h f xs K :=
 CallS.pure (r := r) (Or.inl ⟨args', .inl ha.symm, hp, hf⟩) k
theorem call_z {P : Program} {m : Nat} {L : Lv} {h : Hp} {f : Nat} {xs : List X} {K : Lv → AV → Hp → Prop} (l v sz k : Nat) {r : Bool} {es : List (List D)} (hl : h[l]? = some (.da r v sz es)) (hk : k = es.length) (h1 : okL l v k L) (h2 : okH l v k h)
  (hc : CallS P m false (zL l v sz es L) (zH l v sz es 0 h) f xs K) : CallS P m false L h f xs K :=
 .wk (.fz l v sz r es hl (fun i => .inr (by rw [← lkN_eq, ← lkN_eq, lkN_z]; exact zA_ok hk (okL_get h1 i))) (zH_ok hk h2)) hc
theorem gu {p : Prop} (h : Unit → p := by
  intro (_ : Unit)
  first
   | omega
   | rfl
   | exact ⟨rfl, by omega⟩
   | (simp only [nI_eq]; omega)
   | ((repeat' first | rfl | omega | refine And.intro ?_ ?_ | (simp only [nI_eq]; omega) | (simp only [List.length_cons, List.length_nil]; omega) | exact nle rfl); fail_if_success intros)) : Unit → p := h
theorem Wk.cw {m : Nat} {L : Lv} {h : Hp} {L' : Lv} {h' : Hp} (heap : ∃ t, h = h' ++ t := by exact ⟨_, rfl⟩) (least : m ≤ h'.length := by exact Nat.zero_le _) (refs : refsH h'.length h' = true := by rfl)
  (env : KeepL h'.length L L' := by repeat' first | exact trivial | refine And.intro ?_ ?_ | rfl) : Wk m L h L' h' := .cut heap least refs env
theorem Wk.ca {m : Nat} {L : Lv} {h : Hp} {L' : Lv} {h' : Hp} (heap : ∃ t, h = h' ++ t := by exact ⟨_, rfl⟩) (least : m ≤ h'.length := by exact nle rfl) (refs : refsH h'.length h' = true := by rfl)
  (env : KeepL h'.length L L' := by repeat' first | exact trivial | refine And.intro ?_ ?_ | rfl) : Wk m L h L' h' := .cut heap least refs env
theorem Wk.ch {m : Nat} {L : Lv} {h : Hp} {L' : Lv} (least : m ≤ h.length := by exact nle rfl) (refs : refsH h.length h = true := by rfl)
  (env : KeepL h.length L L' := by repeat' first | exact trivial | refine And.intro ?_ ?_ | rfl) : Wk m L h L' h := .cut ⟨[], (List.append_nil h).symm⟩ least refs env
structure Lk where
 (a b c0 c1 cap dl gr : Int)
structure Top where
 (nodes : Int) (ov : List Bool) (links : List Lk)
structure Seg where
 (kind num : Int)
 deriving DecidableEq
structure Ety where
 (arcs : List Int) (rep : Bool) (push : List Seg)
structure Tab where
 (node : Int) (to : List Ety) (down : List Int)
instance : Inhabited Lk := ⟨⟨0, 0, 0, 0, 0, 0, 0⟩⟩
instance : Inhabited Seg := ⟨⟨0, 0⟩⟩
instance : Inhabited Ety := ⟨⟨[], false, []⟩⟩
abbrev iD (n : Int) : D := .int .i64 n
def encB (b : Bool) : List D := [.bool b]
def encI (n : Int) : List D := [.int .i64 n]
def encLk (l : Lk) : List D := [iD l.a, iD l.b, iD l.c0, iD l.c1, iD l.cap, iD l.dl, iD l.gr]
abbrev intsD (l : List Int) : D := .list false 1 (l.map encI)
abbrev boolsD (l : List Bool) : D := .list false 1 (l.map encB)
abbrev linksD (l : List Lk) : D := .list false 7 (l.map encLk)
def topA (t : Top) : AV := .agg [.d (iD t.nodes), .d (boolsD t.ov), .d (linksD t.links)]
abbrev intsA (l : List Int) : AV := .c (.d (intsD l))
theorem map_get {α β : Type} {f : α → β} {l : List α} {i : Nat} {y : β} (h : (l.map f)[i]? = some y) : ∃ x, l[i]? = some x ∧ y = f x := by
 simp only [List.getElem?_map, omi] at h
 obtain ⟨x, h1, h2⟩ := h
 exact ⟨x, h1, h2.symm⟩
theorem map_get' {α β : Type} {f : α → β} {l : List α} {ll : List β} {i : Nat} {y : β} (hl : l.map f = ll) (h : ll[i]? = some y) : ∃ x, l[i]? = some x ∧ y = f x := by
 subst hl; exact map_get h
theorem get_at {α : Type} {l : List α} {i j : Nat} {x : α} (h : l[i]? = some x) (e : i = j) : l[j]? = some x := e ▸ h
theorem elt_at {α β : Type} {f : α → β} {l : List α} {ll : List β} (hl : l.map f = ll) {k : Nat} {i : Int} (hi : i = k) {x : α} (h : l[k]? = some x) : ll[i.toNat]? = some (f x) := by
 subst hi hl; simp [h]
theorem take_succ_get {α : Type} {l : List α} {k : Nat} {x : α} (h : l[k]? = some x) : l.take (k + 1) = l.take k ++ [x] := by
 rw [List.take_add_one, h]; rfl
theorem loop_up {m : Nat} {body : Lv → Hp → Post → Prop} {L : Lv} {h : Hp} {Q : Post} {σ : Type} (N : Nat) (S : σ → Lv) (H : σ → Hp) (Inv : Nat → σ → Prop) (s0 : σ) (wk : Wk m L h (S s0) (H s0)) (h0 : Inv 0 s0)
  (hle : ∀ k s, Inv k s → k ≤ N)
  (round : ∀ k s (Q' : Post), Inv k s → (∀ L' h' s', Inv (k + 1) s' → Wk m L' h' (S s') (H s') → Q' .normal L' h') → (∀ i L' h', Q (.exit i) L' h' → Q' (.exit i) L' h') → (∀ L' h', Q .ret L' h' → Q' .ret L' h') → body (S s) (H s) Q') :
  LoopI m body L h Q := by
 refine LoopI.mk (fun n L h => ∃ k s, Inv k s ∧ n = N - k ∧ L = S s ∧ h = H s) N (S s0) (H s0) wk ⟨0, s0, h0, rfl, rfl, rfl⟩ ?_
 rintro n L h ⟨k, s, hi, rfl, rfl, rfl⟩
 refine round k s _ hi (fun L' h' s' hi' hw => ?_) (fun i L' h' hq => ⟨L', h', .same rfl fun _ => .inr rfl, hq⟩) fun L' h' hq => hq
 have h1 := hle _ _ hi
 have h2 := hle _ _ hi'
 exact ⟨N - (k + 1), _, _, by omega, hw, k + 1, s', hi', rfl, rfl, rfl⟩
theorem loop_upx {m : Nat} {body : Lv → Hp → Post → Prop} {L : Lv} {h : Hp} {Q : Post} {σ τ : Type} (N : Nat) (S : σ → Lv) (H : σ → Hp) (Inv : Nat → σ → Prop) (s0 : σ) (i0 : Nat) (S' : τ → Lv) (H' : τ → Hp) (E : τ → Prop) (wk : Wk m L h (S s0) (H s0)) (h0 : Inv 0 s0)
  (hle : ∀ k s, Inv k s → k ≤ N)
  (round : ∀ k s (Q' : Post), Inv k s → (∀ L' h' s', Inv (k + 1) s' → Wk m L' h' (S s') (H s') → Q' .normal L' h') → (∀ L' h' s', E s' → Wk m L' h' (S' s') (H' s') → Q' (.exit i0) L' h') → (∀ i L' h', Q (.exit i) L' h' → Q' (.exit i) L' h') → (∀ L' h', Q .ret L' h' → Q' .ret L' h') → body (S s) (H s) Q')
  (rest : ∀ s, E s → Q (.exit i0) (S' s) (H' s)) :
  LoopI m body L h Q := by
 refine LoopI.mk (fun n L h => ∃ k s, Inv k s ∧ n = N - k ∧ L = S s ∧ h = H s) N (S s0) (H s0) wk ⟨0, s0, h0, rfl, rfl, rfl⟩ ?_
 rintro n L h ⟨k, s, hi, rfl, rfl, rfl⟩
 refine round k s _ hi (fun L' h' s' hi' hw => ?_) (fun L' h' s' he hw => ⟨_, _, hw, rest s' he⟩) (fun i L' h' hq => ⟨L', h', .same rfl fun _ => .inr rfl, hq⟩) fun L' h' hq => hq
 have h1 := hle _ _ hi
 have h2 := hle _ _ hi'
 exact ⟨N - (k + 1), _, _, by omega, hw, k + 1, s', hi', rfl, rfl, rfl⟩
theorem within_ok (P : Program) (hP : P = Try.prog) (n lo hi : Int) : Ret P n_ref09_within [iA n, iA lo, iA hi] (bA (decide (lo ≤ n ∧ n ≤ hi))) := by
 refine ret_start (hP ▸ mixed) (hP ▸ fn_ref09_within) (hP ▸ c_ref09_within) (nle rfl) fun Λ Λo K hK => ?_
 clear hP
 conv => cbv
 repeat' first | exact gu | exact trivial | refine And.intro ?_ ?_ | (intro hc; exact absurd hc (by decide)) | (intro hc; exfalso; omega) | (intro hc; (first | rw [wS (by omega) (by omega)] at hc | rw [nI_eq] at hc | skip); try (conv => cbv))
 all_goals (refine cast (congrArg (fun b => K (bA b)) ?_) hK; simp; omega)
end Go.Ab

/-
  Contracts, part b: topologies.
-/
namespace Go.Ab
open Go.Proofs
def okLk (n : Int) (l : Lk) : Bool :=
 decide (0 ≤ l.a ∧ l.a ≤ n - 1) && decide (0 ≤ l.b ∧ l.b ≤ n - 1) && !decide (l.a = l.b) && decide (1 ≤ l.c0 ∧ l.c0 ≤ 65535) && decide (1 ≤ l.c1 ∧ l.c1 ≤ 65535) &&
 decide (0 ≤ l.cap ∧ l.cap ≤ 1048576) && decide (1 ≤ l.dl ∧ l.dl ≤ 65536) && decide (0 ≤ l.gr ∧ l.gr ≤ 64)
def validT (t : Top) : Bool :=
 decide (1 ≤ t.nodes ∧ t.nodes ≤ 64) && (decide (t.ov.length = 0) || decide ((t.ov.length : Int) = t.nodes)) && decide (t.links.length ≤ 256) && t.links.all (okLk t.nodes)
theorem okLk_spec {n : Int} {l : Lk} : okLk n l = true ↔ (0 ≤ l.a ∧ l.a ≤ n - 1) ∧ (0 ≤ l.b ∧ l.b ≤ n - 1) ∧ l.a ≠ l.b ∧ (1 ≤ l.c0 ∧ l.c0 ≤ 65535) ∧ (1 ≤ l.c1 ∧ l.c1 ≤ 65535) ∧
  (0 ≤ l.cap ∧ l.cap ≤ 1048576) ∧ (1 ≤ l.dl ∧ l.dl ≤ 65536) ∧ (0 ≤ l.gr ∧ l.gr ≤ 64) := by
 simp only [okLk, Bool.and_eq_true, decide_eq_true_eq, Bool.not_eq_true', decide_eq_false_iff_not, and_assoc, ne_eq]
theorem validT_spec {t : Top} : validT t = true ↔ (1 ≤ t.nodes ∧ t.nodes ≤ 64) ∧ ((t.ov.length : Int) = 0 ∨ (t.ov.length : Int) = t.nodes) ∧ (t.links.length : Int) ≤ 256 ∧ ∀ l ∈ t.links, okLk t.nodes l = true := by
 simp only [validT, Bool.and_eq_true, Bool.or_eq_true, decide_eq_true_eq, List.all_eq_true, and_assoc]
 constructor
 ·rintro ⟨h1, h2, h3, h4, h5⟩; exact ⟨h1, h2, by omega, by omega, h5⟩
 ·rintro ⟨h1, h2, h3, h4, h5⟩; exact ⟨h1, h2, by omega, by omega, h5⟩
theorem valid_ok (P : Program) (hP : P = Try.prog) (t : Top) : Ret P n_ref09_Valid [topA t] (bA (validT t)) := by
 refine ret_start (hP ▸ mixed) (hP ▸ fn_ref09_Valid) (hP ▸ c_ref09_Valid) (nle rfl) fun Λ Λo K hK => ?_
 have hw := within_ok P hP
 clear hP
 obtain ⟨nodes, ov, links⟩ := t
 simp only [topA, boolsD, linksD] at *
 generalize hol : ov.map encB = ol at *
 generalize hll : links.map encLk = ll at *
 have hlo : Λ ol = ov.length := by rw [Λo, ← hol]; simp
 have hls : Λ ll = links.length := by rw [Λo, ← hll]; simp
 have leaf : ∀ b, validT ⟨nodes, ov, links⟩ = b → K (bA b) := fun b hb => by rw [← hb]; exact hK
 have no : (validT ⟨nodes, ov, links⟩ = true → False) → K (bA false) := fun h => leaf _ (Bool.eq_false_iff.2 h)
 conv => cbv
 repeat' first | refine call_b (hw _ _ _) rfl rfl ?_ ?_ | exact gu | exact trivial | refine And.intro ?_ ?_ | (intro hc; exact absurd hc (by decide)) | (intro hc; exfalso; omega) | (intro hc; (first | rw [wS (by omega) (by omega)] at hc | rw [nI_eq] at hc | skip); try (conv => cbv))
 all_goals try simp only [decide_eq_true_eq, decide_eq_false_iff_not] at *
 all_goals try (refine no fun h => ?_; obtain ⟨h1, h2, h3, h4⟩ := validT_spec.1 h; simp only at h1 h2 h3; omega)
 all_goals
  refine loop_up links.length (fun (i : Int) => [(1, .c (.ptr 0 0 0 0)), (3, iA i)]) (fun _ => [.bx [.d (.int .i64 nodes), .d (.list false 1 ol), .d (.list false 7 ll)]]) (fun k i => i = k ∧ k ≤ links.length ∧ ∀ l ∈ links.take k, okLk nodes l = true) 0 (Wk.cw) ⟨rfl, by omega, by simp⟩ (fun k s h => h.2.1) ?_
  rintro k i Q' ⟨hi, hk, hok⟩ norm ex rt
  conv => cbv
  repeat' first | (refine ex _ _ _ ?_; (conv => cbv)) | (refine rt _ _ ?_; (conv => cbv)) | refine call_b (hw _ _ _) rfl rfl ?_ ?_ | (intro e he; obtain ⟨⟨xa, xb, xc, xd, xe, xf, xg⟩, hx, rfl⟩ := map_get' hll he; (conv => cbv)) | exact gu | exact trivial | refine And.intro ?_ ?_ | (intro hc; exact absurd hc (by decide)) | (intro hc; exfalso; omega) | (intro hc; (first | rw [wS (by omega) (by omega)] at hc | rw [nI_eq] at hc | skip); try (conv => cbv))
 all_goals try simp only [decide_eq_true_eq, decide_eq_false_iff_not] at *
 all_goals try (refine no fun h => ?_; obtain ⟨h1, h2, h3, h4⟩ := validT_spec.1 h; have h5 := okLk_spec.1 (h4 _ (List.mem_of_getElem? hx)); simp only at h5; omega)
 all_goals try (refine leaf _ (validT_spec.2 ⟨by assumption, by simp only; omega, by simp only; omega, fun l hl => hok l ?_⟩); rw [List.take_of_length_le (by omega)]; exact hl)
 all_goals
  refine norm _ _ _ ?_ (Wk.cw)
  refine ⟨by omega, by omega, ?_⟩
  rw [show i.toNat = k by omega] at hx
  rw [take_succ_get hx]
  intro l hl
  rcases List.mem_append.1 hl with hl | hl
  ·exact hok l hl
  ·simp only [List.mem_singleton] at hl
   subst hl
   exact okLk_spec.2 ⟨by simp only; omega, by simp only; omega, by simp only; omega, by simp only; omega, by simp only; omega, by simp only; omega, by simp only; omega, by simp only; omega⟩
def arcsT (t : Top) : Int := if validT t then 2 * t.links.length else 0
def lkAt (t : Top) (a : Int) : Lk := (t.links[(a / 2).toNat]?).getD default
def tailT (t : Top) (a : Int) : Int := if 0 ≤ a ∧ a < arcsT t then (if a % 2 = 0 then (lkAt t a).a else (lkAt t a).b) else -1
def headT (t : Top) (a : Int) : Int := if 0 ≤ a ∧ a < arcsT t then (if a % 2 = 0 then (lkAt t a).b else (lkAt t a).a) else -1
def costT (t : Top) (a : Int) : Int := if 0 ≤ a ∧ a < arcsT t then (if a % 2 = 0 then (lkAt t a).c0 else (lkAt t a).c1) else -1
theorem arcsT_le (t : Top) : arcsT t ≤ 2 * t.links.length ∧ arcsT t ≤ 512 ∧ 0 ≤ arcsT t := by
 rw [arcsT]; split
 ·rename_i h; have := (validT_spec.1 h).2.2.1; omega
 ·omega
theorem tdiv2 {x : Int} (h1 : 0 ≤ x) (h2 : x < 9223372036854775808) : IntKind.i64.wrap (x.tdiv 2) = x / 2 := by
 rw [Int.tdiv_eq_ediv_of_nonneg h1, wrap64]; omega
theorem tmod2 {x : Int} (h1 : 0 ≤ x) : x.tmod 2 = x % 2 := Int.tmod_eq_emod_of_nonneg h1
theorem arcs_ok (P : Program) (hP : P = Try.prog) (t : Top) : Ret P n_ref09_Arcs [topA t] (iA (arcsT t)) := by
 refine ret_start (hP ▸ mixed) (hP ▸ fn_ref09_Arcs) (hP ▸ c_ref09_Arcs) (nle rfl) fun Λ Λo K hK => ?_
 have hw := valid_ok P hP t
 clear hP
 have leaf : ∀ b, arcsT t = b → K (iA b) := fun b hb => by rw [← hb]; exact hK
 have h256 : validT t = true → (t.links.length : Int) ≤ 256 := fun h => (validT_spec.1 h).2.2.1
 have ha : arcsT t = if validT t then 2 * (t.links.length : Int) else 0 := rfl
 generalize arcsT t = r at *
 generalize validT t = v at *
 cases v
 all_goals
  obtain ⟨nodes, ov, links⟩ := t
  simp only [topA, boolsD, linksD] at *
  generalize hol : ov.map encB = ol at *
  generalize hll : links.map encLk = ll at *
  have hlo : Λ ol = ov.length := by rw [Λo, ← hol]; simp
  have hls : Λ ll = links.length := by rw [Λo, ← hll]; simp
  simp only [Bool.false_eq_true, if_true, if_false, forall_const] at ha h256
  conv => cbv
  repeat' first | refine call_b hw rfl rfl ?_ ?_ | (intro hc; cases hc; done) | exact gu | exact trivial | refine And.intro ?_ ?_ | (intro hc; exact absurd hc (by decide)) | (intro hc; exfalso; omega) | (intro hc; (first | rw [wS (by omega) (by omega)] at hc | rw [nI_eq] at hc | skip); try (conv => cbv))
 ·exact leaf _ ha
 ·exact leaf _ (by omega)
theorem tail_ok (P : Program) (hP : P = Try.prog) (t : Top) (a : Int) : Ret P n_ref09_Tail [topA t, iA a] (iA (tailT t a)) := by
 refine ret_start (hP ▸ mixed) (hP ▸ fn_ref09_Tail) (hP ▸ c_ref09_Tail) (nle rfl) fun Λ Λo K hK => ?_
 have hw := arcs_ok P hP t
 clear hP
 have leaf : ∀ b, tailT t a = b → K (iA b) := fun b hb => by rw [← hb]; exact hK
 have hv2 := arcsT_le t
 have hta : tailT t a = if 0 ≤ a ∧ a < arcsT t then (if a % 2 = 0 then (lkAt t a).a else (lkAt t a).b) else -1 := rfl
 have hat : ∀ x, t.links[(a / 2).toNat]? = some x → lkAt t a = x := fun x hx => by simp [lkAt, hx]
 generalize arcsT t = v at *
 obtain ⟨nodes, ov, links⟩ := t
 simp only [topA, boolsD, linksD] at *
 generalize hol : ov.map encB = ol at *
 generalize hll : links.map encLk = ll at *
 have hlo : Λ ol = ov.length := by rw [Λo, ← hol]; simp
 have hls : Λ ll = links.length := by rw [Λo, ← hll]; simp
 conv => cbv
 repeat' first | refine call_i hw rfl rfl ?_ | (intro hc; rw [tdiv2 (by omega) (by omega)] at hc; conv => cbv) | (intro hc; rw [tmod2 (by omega)] at hc; conv => cbv) | (intro (_ : Unit); decide) | (intro e he; obtain ⟨⟨xa, xb, xc, xd, xe, xf, xg⟩, hx, rfl⟩ := map_get' hll he; (conv => cbv)) | exact gu | exact trivial | refine And.intro ?_ ?_ | (intro hc; exact absurd hc (by decide)) | (intro hc; exfalso; omega) | (intro hc; (first | rw [wS (by omega) (by omega)] at hc | rw [nI_eq] at hc | skip); try (conv => cbv))
 ·exact leaf _ (by rw [hta, if_neg (by omega)])
 ·exact leaf _ (by rw [hta, if_neg (by omega)])
 all_goals
  refine leaf _ ?_
  rw [hta, if_pos (by omega), hat _ (get_at hx (by omega))]
 ·rw [if_pos (by omega)]
 ·rw [if_neg (by omega)]
theorem head_ok (P : Program) (hP : P = Try.prog) (t : Top) (a : Int) : Ret P n_ref09_Head [topA t, iA a] (iA (headT t a)) := by
 refine ret_start (hP ▸ mixed) (hP ▸ fn_ref09_Head) (hP ▸ c_ref09_Head) (nle rfl) fun Λ Λo K hK => ?_
 have hw := arcs_ok P hP t
 have ht := tail_ok P hP t
 clear hP
 have leaf : ∀ b, headT t a = b → K (iA b) := fun b hb => by rw [← hb]; exact hK
 have hv2 := arcsT_le t
 have hta : headT t a = if 0 ≤ a ∧ a < arcsT t then (if a % 2 = 0 then (lkAt t a).b else (lkAt t a).a) else -1 := rfl
 have htt : ∀ c, tailT t c = if 0 ≤ c ∧ c < arcsT t then (if c % 2 = 0 then (lkAt t c).a else (lkAt t c).b) else -1 := fun _ => rfl
 have hlk : ∀ c, c / 2 = a / 2 → lkAt t c = lkAt t a := fun c hc => by rw [lkAt, lkAt, hc]
 have hev : arcsT t % 2 = 0 := by rw [arcsT]; split <;> omega
 generalize headT t a = r at *
 generalize hf : tailT t = f at *
 generalize arcsT t = v at *
 generalize lkAt t = lk at *
 obtain ⟨nodes, ov, links⟩ := t
 simp only [topA, boolsD, linksD] at *
 generalize hol : ov.map encB = ol at *
 generalize hll : links.map encLk = ll at *
 have hlo : Λ ol = ov.length := by rw [Λo, ← hol]; simp
 have hls : Λ ll = links.length := by rw [Λo, ← hll]; simp
 conv => cbv
 repeat' first | refine call_i hw rfl rfl ?_ | refine call_i (ht _) rfl rfl ?_ | (intro hc; rw [tdiv2 (by omega) (by omega)] at hc; conv => cbv) | (intro hc; rw [tmod2 (by omega)] at hc; conv => cbv) | (intro (_ : Unit); decide) | exact gu | exact trivial | refine And.intro ?_ ?_ | (intro hc; exact absurd hc (by decide)) | (intro hc; exfalso; omega) | (intro hc; (first | rw [wS (by omega) (by omega)] at hc | rw [nI_eq] at hc | skip); try (conv => cbv))
 ·exact leaf _ (by rw [hta, if_neg (by omega)])
 ·exact leaf _ (by rw [hta, if_neg (by omega)])
 ·refine leaf _ ?_
  subst hc
  rename_i c
  rw [hta.trans (if_pos (by omega)), (htt c).trans (if_pos (by omega)), hlk c (by omega)]
  by_cases h0 : a % 2 = 0
  ·rw [if_pos h0, if_neg (by omega)]
  ·rw [if_neg h0, if_pos (by omega)]
end Go.Ab

/-
  Contracts, part c: lists.
-/
namespace Go.Ab
open Go.Proofs
theorem yes_of {K : AV → Prop} {p : Prop} [Decidable p] (hK : K (bA (decide p))) : p → K (bA true) := fun h => by rw [decide_eq_true h] at hK; exact hK
theorem no_of {K : AV → Prop} {p : Prop} [Decidable p] (hK : K (bA (decide p))) : ¬ p → K (bA false) := fun h => by rw [decide_eq_false h] at hK; exact hK
theorem sameInts_ok (P : Program) (hP : P = Try.prog) (l m : List Int) : Ret P n_ref09_SameInts [intsA l, intsA m] (bA (decide (l = m))) := by
 refine ret_start (hP ▸ mixed) (hP ▸ fn_ref09_SameInts) (hP ▸ c_ref09_SameInts) (nle rfl) fun Λ Λo K hK => ?_
 clear hP
 have yes := yes_of hK
 have no := no_of hK
 simp only [intsA, intsD] at *
 generalize llh : List.map encI l = ll at *
 have lln : Λ ll = l.length := by rw [Λo, ← llh]; simp
 generalize mlh : List.map encI m = ml at *
 have mln : Λ ml = m.length := by rw [Λo, ← mlh]; simp
 conv => cbv
 repeat' first | exact gu | exact trivial | refine And.intro ?_ ?_ | (intro hc; exact absurd hc (by decide)) | (intro hc; exfalso; omega) | (intro hc; (first | rw [wS (by omega) (by omega)] at hc | rw [nI_eq] at hc | skip); try (conv => cbv))
 ·exact no fun h => by subst h; omega
 refine loop_up l.length (fun i : Int => [(0, .c (.d (.list false 1 ll))), (1, .c (.d (.list false 1 ml))), (5, iA i)]) (fun _ => []) (fun k i => i = k ∧ k ≤ l.length ∧ l.take k = m.take k) 0 (Wk.cw) ⟨rfl, by omega, by simp⟩ (fun k s h => h.2.1) ?_
 rintro k i Q' ⟨hi, hk, hno⟩ norm ex rt
 conv => cbv
 repeat' first | (refine ex _ _ _ ?_; (conv => cbv)) | (refine rt _ _ ?_; (conv => cbv)) | (intro e he; obtain ⟨x, hx, rfl⟩ := map_get' llh he; (conv => cbv)) | (intro e he; obtain ⟨y, hy, rfl⟩ := map_get' mlh he; (conv => cbv)) | exact gu | exact trivial | refine And.intro ?_ ?_ | (intro hc; exact absurd hc (by decide)) | (intro hc; exfalso; omega) | (intro hc; (first | rw [wS (by omega) (by omega)] at hc | rw [nI_eq] at hc | skip); try (conv => cbv))
 ·refine no fun h => ?_
  subst h; rw [hx] at hy; cases hy; exact hc rfl
 ·refine norm _ _ _ ?_ (Wk.cw)
  exact ⟨by omega, by omega, by rw [take_succ_get (get_at hx (by omega)), take_succ_get (get_at hy (by omega)), hno, show x = y by omega]⟩
 ·exact yes (by rw [List.take_of_length_le (by omega), List.take_of_length_le (by omega)] at hno; exact hno)
end Go.Ab

/-
  Heaps over any order, plainly (no program in sight).
-/
namespace Go.Ab
open Go.Proofs
structure TotG {α : Type} (le : α → α → Prop) : Prop where
 refl : ∀ a, le a a
 trans : ∀ {a b c}, le a b → le b c → le a c
 tot : ∀ a b, le a b ∨ le b a
theorem TotG.lt {α : Type} {le : α → α → Prop} (T : TotG le) {a b : α} (h : ¬ le b a) : le a b := (T.tot a b).resolve_right h
section
variable {α : Type} [Inhabited α] {le : α → α → Prop}
abbrev atG (O : List α) (p : Nat) : α := O.getD p default
structure PreG (le : α → α → Prop) (O : List α) (p : Nat) : Prop where
 e1 : ∀ c, 0 < c → c < O.length → c ≠ p → (c - 1) / 2 ≠ p → le (atG O ((c - 1) / 2)) (atG O c)
 e2 : ∀ c, 0 < p → 0 < c → c < O.length → (c - 1) / 2 = p → le (atG O ((p - 1) / 2)) (atG O c)
def HOG (le : α → α → Prop) (O : List α) : Prop := ∀ c, 0 < c → c < O.length → le (atG O ((c - 1) / 2)) (atG O c)
def swpG (O : List α) (p q : Nat) : List α := (O.set p (atG O q)).set q (atG O p)
theorem swpG_len (O : List α) (p q : Nat) : (swpG O p q).length = O.length := by simp [swpG]
theorem swpG_at {O : List α} {p q : Nat} (hp : p < O.length) (hq : q < O.length) (c : Nat) : atG (swpG O p q) c = if c = q then atG O p else if c = p then atG O q else atG O c := by
 simp only [atG, swpG, List.getD_eq_getElem?_getD, List.getElem?_set, List.length_set]
 by_cases h1 : c = q
 ·subst h1; simp [hq]
 ·have h1' : ¬ q = c := fun h => h1 h.symm
  simp only [if_neg h1, if_neg h1']
  by_cases h2 : c = p
  ·subst h2; simp [hp]
  ·have h2' : ¬ p = c := fun h => h2 h.symm
   simp only [if_neg h2, if_neg h2']
theorem HOG.root (T : TotG le) {O : List α} (h : HOG le O) : ∀ c, c < O.length → le (atG O 0) (atG O c) := by
 intro c
 induction c using Nat.strongRecOn with
 | _ c ih =>
  intro hc
  by_cases h0 : c = 0
  ·subst h0; exact T.refl _
  ·exact T.trans (ih ((c - 1) / 2) (by omega) (by omega)) (h c (by omega) hc)
theorem PreG.up (T : TotG le) {O : List α} {p : Nat} (h : PreG le O p) (hp0 : 0 < p) (hp : p < O.length) (hlt : ¬ le (atG O ((p - 1) / 2)) (atG O p)) : PreG le (swpG O p ((p - 1) / 2)) ((p - 1) / 2) := by
 have hq : (p - 1) / 2 < O.length := by omega
 have hsw := swpG_at hp hq
 have hqp : (p - 1) / 2 ≠ p := by omega
 refine ⟨fun c c0 cl cq cpq => ?_, fun c q0 c0 cl cpq => ?_⟩
 ·rw [swpG_len] at cl
  rw [hsw, hsw, if_neg cpq, if_neg cq]
  by_cases h1 : c = p
  ·exact absurd (by rw [h1]) cpq
  ·rw [if_neg h1]
   by_cases h2 : (c - 1) / 2 = p
   ·rw [if_pos h2]; exact h.e2 c hp0 c0 cl h2
   ·rw [if_neg h2]; exact h.e1 c c0 cl h1 h2
 ·rw [swpG_len] at cl
  have hg : ((p - 1) / 2 - 1) / 2 ≠ (p - 1) / 2 := by omega
  have hg2 : ((p - 1) / 2 - 1) / 2 ≠ p := by omega
  have e0 : le (atG O (((p - 1) / 2 - 1) / 2)) (atG O ((p - 1) / 2)) := h.e1 ((p - 1) / 2) q0 hq hqp (by omega)
  rw [hsw, hsw, if_neg hg, if_neg hg2]
  by_cases h1 : c = (p - 1) / 2
  ·omega
  ·rw [if_neg h1]
   by_cases h2 : c = p
   ·rw [if_pos h2]; exact e0
   ·rw [if_neg h2]
    have := h.e1 c c0 cl h2 (by omega)
    rw [cpq] at this
    exact T.trans e0 this
structure PreDG (le : α → α → Prop) (O : List α) (p : Nat) : Prop where
 pre : PreG le O p
 top : 0 < p → le (atG O ((p - 1) / 2)) (atG O p)
theorem PreDG.done {O : List α} {p : Nat} (h : PreDG le O p) (hk : ∀ c, 0 < c → c < O.length → (c - 1) / 2 = p → le (atG O p) (atG O c)) : HOG le O := by
 intro c c0 cl
 by_cases h1 : c = p
 ·subst h1; exact h.top c0
 ·by_cases h2 : (c - 1) / 2 = p
  ·rw [h2]; exact hk c c0 cl h2
  ·exact h.pre.e1 c c0 cl h1 h2
theorem PreDG.down (T : TotG le) {O : List α} {p q : Nat} (h : PreDG le O p) (hp : p < O.length) (hq : q < O.length) (q0 : 0 < q) (hqp : (q - 1) / 2 = p) (hlt : ¬ le (atG O p) (atG O q)) (hle : ∀ c, 0 < c → c < O.length → (c - 1) / 2 = p → le (atG O q) (atG O c)) : PreDG le (swpG O p q) q := by
 have hsw := swpG_at hp hq
 have hne : p ≠ q := by omega
 refine ⟨⟨fun c c0 cl cq cpq => ?_, fun c _ c0 cl cpq => ?_⟩, fun _ => ?_⟩
 ·rw [swpG_len] at cl
  rw [hsw, hsw, if_neg cpq, if_neg cq]
  by_cases h1 : c = p
  ·subst h1
   rw [if_neg (by omega), if_pos rfl]
   exact h.pre.e2 q c0 q0 hq hqp
  ·rw [if_neg h1]
   by_cases h2 : (c - 1) / 2 = p
   ·rw [if_pos h2]; exact hle c c0 cl h2
   ·rw [if_neg h2]; exact h.pre.e1 c c0 cl h1 h2
 ·rw [swpG_len] at cl
  rw [hsw, hsw, hqp, if_neg hne, if_pos rfl, if_neg (by omega), if_neg (by omega)]
  have := h.pre.e1 c c0 cl (by omega) (by omega)
  rw [cpq] at this
  exact this
 ·rw [hsw, hsw, hqp, if_neg hne, if_pos rfl, if_pos rfl]
  exact T.lt hlt
end
end Go.Ab

/-
  Paths in order: by cost, by length, number by number.
-/
namespace Go.Ab
open Go.Proofs
def cmI (a b : Int) : Int := if a < b then -1 else if b < a then 1 else 0
def lexC : List Int → List Int → Int
 | [], [] => 0
 | [], _ :: _ => -1
 | _ :: _, [] => 1
 | x :: a, y :: b => if x < y then -1 else if y < x then 1 else lexC a b
theorem cmI_z {a b : Int} : cmI a b = 0 ↔ a = b := by unfold cmI; split <;> (try split) <;> omega
theorem cmI_lt {a b : Int} : cmI a b < 0 ↔ a < b := by unfold cmI; split <;> (try split) <;> omega
theorem cmI_neg (a b : Int) : cmI a b = - cmI b a := by unfold cmI; split <;> (try split) <;> (try split) <;> (try split) <;> omega
theorem lexC_self : ∀ a, lexC a a = 0
 | [] => rfl
 | x :: a => by rw [lexC, if_neg (by omega), if_neg (by omega)]; exact lexC_self a
theorem lexC_z : ∀ {a b : List Int}, lexC a b = 0 → a = b
 | [], [], _ => rfl
 | [], _ :: _, h => by simp [lexC] at h
 | _ :: _, [], h => by simp [lexC] at h
 |x :: a, y :: b, h => by
  rw [lexC] at h
  split at h
  ·omega
  ·split at h
   ·omega
   ·obtain rfl : x = y := by omega
    rw [lexC_z h]
theorem lexC_neg : ∀ (a b : List Int), lexC a b = - lexC b a
 | [], [] => rfl
 | [], _ :: _ => rfl
 | _ :: _, [] => rfl
 |x :: a, y :: b => by
  rw [lexC, lexC]
  by_cases h1 : x < y
  ·rw [if_pos h1, if_neg (by omega), if_pos h1]
  ·rw [if_neg h1]
   by_cases h2 : y < x
   ·rw [if_pos h2, if_pos h2]; rfl
   ·rw [if_neg h2, if_neg h2, if_neg h1]; exact lexC_neg a b
theorem lexC_trans : ∀ {a b c : List Int}, lexC a b ≤ 0 → lexC b c ≤ 0 → lexC a c ≤ 0
 | [], _, [], _, _ => by simp [lexC]
 | [], _, _ :: _, _, _ => by simp [lexC]
 | _ :: _, [], _, h, _ => by simp [lexC] at h
 | _ :: _, _ :: _, [], _, h => by simp [lexC] at h
 |x :: a, y :: b, z :: c, h1, h2 => by
  rw [lexC] at h1 h2 ⊢
  by_cases e1 : x < y
  ·by_cases e2 : y < z
   ·rw [if_pos (by omega)]; omega
   ·rw [if_neg e2] at h2
    by_cases e3 : z < y
    ·rw [if_pos e3] at h2; omega
    ·rw [if_pos (by omega)]; omega
  ·rw [if_neg e1] at h1
   by_cases e3 : y < x
   ·rw [if_pos e3] at h1; omega
   ·rw [if_neg e3] at h1
    obtain rfl : x = y := by omega
    by_cases e2 : x < z
    ·rw [if_pos e2]; omega
    ·rw [if_neg e2] at h2 ⊢
     by_cases e4 : z < x
     ·rw [if_pos e4] at h2; omega
     ·rw [if_neg e4] at h2 ⊢
      exact lexC_trans h1 h2
theorem lexC_app : ∀ {a b : List Int} (c : List Int), a.length = b.length → lexC (a ++ c) (b ++ c) = lexC a b
 | [], [], c, _ => by simp only [List.nil_append]; rw [lexC_self]; rfl
 | [], _ :: _, _, h => by simp at h
 | _ :: _, [], _, h => by simp at h
 |x :: a, y :: b, c, h => by
  rw [List.cons_append, List.cons_append, lexC, lexC, lexC_app c (by simpa using h)]
def ordS (ca cb : Int) (a b : List Int) : Int := if cmI ca cb = 0 then (if cmI a.length b.length = 0 then lexC a b else cmI a.length b.length) else cmI ca cb
theorem ordS_self (c : Int) (a : List Int) : ordS c c a a = 0 := by
 rw [ordS, if_pos (cmI_z.2 rfl), if_pos (cmI_z.2 rfl)]; exact lexC_self a
theorem ordS_neg (ca cb : Int) (a b : List Int) : ordS ca cb a b = - ordS cb ca b a := by
 unfold ordS
 rw [cmI_neg ca cb, cmI_neg (a.length) (b.length), lexC_neg a b]
 by_cases h1 : cmI cb ca = 0
 ·rw [if_pos (by omega), if_pos h1]
  by_cases h2 : cmI (b.length) (a.length) = 0
  ·rw [if_pos (by omega), if_pos h2]
  ·rw [if_neg (by omega), if_neg h2]
 ·rw [if_neg (by omega), if_neg h1]
theorem ordS_le {ca cb : Int} {a b : List Int} : ordS ca cb a b ≤ 0 ↔ ca < cb ∨ (ca = cb ∧ (a.length < b.length ∨ (a.length = b.length ∧ lexC a b ≤ 0))) := by
 unfold ordS
 by_cases h1 : cmI ca cb = 0
 ·rw [if_pos h1]
  have e1 := cmI_z.1 h1
  by_cases h2 : cmI (a.length) (b.length) = 0
  ·rw [if_pos h2]
   have e2 := cmI_z.1 h2
   omega
  ·rw [if_neg h2]
   have e2 : ¬ (a.length : Int) = b.length := fun e => h2 (cmI_z.2 e)
   have e3 := @cmI_lt (a.length) (b.length)
   omega
 ·rw [if_neg h1]
  have e1 : ¬ ca = cb := fun e => h1 (cmI_z.2 e)
  have e3 := @cmI_lt ca cb
  omega
theorem ordS_z {ca cb : Int} {a b : List Int} (h : ordS ca cb a b = 0) : ca = cb ∧ a = b := by
 unfold ordS at h
 split at h
 ·rename_i h1
  split at h
  ·exact ⟨cmI_z.1 h1, lexC_z h⟩
  ·rename_i h2; exact absurd h h2
 ·rename_i h1; exact absurd h h1
theorem ordS_trans {ca cb cc : Int} {a b c : List Int} (h1 : ordS ca cb a b ≤ 0) (h2 : ordS cb cc b c ≤ 0) : ordS ca cc a c ≤ 0 := by
 rw [ordS_le] at h1 h2 ⊢
 have h3 := @lexC_trans a b c
 omega
theorem ordS_app {ca cb x : Int} {a b : List Int} (c : List Int) (h : ordS ca cb a b ≤ 0) : ordS (ca + x) (cb + x) (a ++ c) (b ++ c) ≤ 0 := by
 rw [ordS_le] at h ⊢
 simp only [List.length_append]
 rcases h with h | ⟨h, h2 | ⟨h2, h3⟩⟩
 ·left; omega
 ·right; exact ⟨by omega, .inl (by omega)⟩
 ·right; exact ⟨by omega, .inr ⟨by omega, by rw [lexC_app c h2]; exact h3⟩⟩
structure Lb where
 (node cost delay : Int) (arcs : List Int)
 deriving Inhabited
def encLb (l : Lb) : List D := [iD l.node, iD l.cost, iD l.delay, intsD l.arcs]
def leL (a b : Lb) : Prop := ordS a.cost b.cost a.arcs b.arcs ≤ 0
instance (a b : Lb) : Decidable (leL a b) := by unfold leL; infer_instance
theorem totL : TotG leL where
 refl a := by unfold leL; rw [ordS_self]; omega
 trans h1 h2 := ordS_trans h1 h2
 tot a b := by unfold leL; rw [ordS_neg b.cost]; omega
theorem leL_less {a b : Lb} : ¬ leL b a ↔ ordS a.cost b.cost a.arcs b.arcs < 0 := by unfold leL; rw [ordS_neg b.cost]; omega
end Go.Ab

/-
  The search for the next deviation, plainly: accepted labels and the queue.
-/
namespace Go.Ab
open Go.Proofs
structure SV where
 (tl hd co de : Int → Int)
 (dn ov us : Int → Bool)
 (cl : Int → Prop)
 (n d most d0 : Int)
 (M N : Nat)
structure SV.Ok (g : SV) : Prop where
 hdr : ∀ a : Int, 0 ≤ a → a < g.M → 0 ≤ g.hd a ∧ g.hd a < g.N
 co0 : ∀ a : Int, 0 ≤ a → a < g.M → 0 ≤ g.co a
 de0 : ∀ a : Int, 0 ≤ a → a < g.M → 0 ≤ g.de a
 n0 : 0 ≤ g.n ∧ g.n < g.N
 ncl : ¬ g.cl g.n
 dcl : ¬ g.cl g.d
 d00 : 0 ≤ g.d0
variable (g : SV)
def SV.ini : Lb := ⟨g.n, 0, g.d0, []⟩
def SV.ext (l : Lb) (a : Int) : Lb := ⟨g.hd a, l.cost + g.co a, l.delay + g.de a, l.arcs ++ [a]⟩
structure SV.push (l : Lb) (a : Int) : Prop where
 r : 0 ≤ a ∧ a < g.M
 t : g.tl a = l.node
 dn : g.dn a = false
 us : l.arcs = [] → g.us a = false
 de : l.delay + g.de a ≤ g.most
inductive SV.WL : Lb → Prop
 | ini : SV.WL g.ini
 | ext {l : Lb} {a : Int} (h : SV.WL l) (hm : l.arcs ≠ [] → ¬ g.cl l.node ∧ l.node ≠ g.n ∧ g.ov l.node = false) (hd : l.node ≠ g.d) (hp : g.push l a) : SV.WL (g.ext l a)
def SV.GE (l : Lb) : Prop := l.arcs = [] ∨ (¬ g.cl l.node ∧ l.node ≠ g.n)
variable {g}
theorem SV.WL.nil {l : Lb} (h : g.WL l) (h0 : l.arcs = []) : l = g.ini := by
 cases h with
 | ini => rfl
 | ext => simp [SV.ext] at h0
theorem SV.WL.delay0 (hg : g.Ok) {l : Lb} (h : g.WL l) : g.d0 ≤ l.delay ∧ 0 ≤ l.cost := by
 induction h with
 | ini => exact ⟨Int.le_refl _, Int.le_refl _⟩
 | ext h _ _ hp ih =>
  have h1 := hg.de0 _ hp.r.1 hp.r.2
  have h2 := hg.co0 _ hp.r.1 hp.r.2
  simp only [SV.ext]
  omega
theorem SV.WL.range (hg : g.Ok) {l : Lb} (h : g.WL l) : 0 ≤ l.node ∧ l.node < g.N := by
 cases h with
 | ini => exact hg.n0
 | ext _ _ _ hp => exact hg.hdr _ hp.r.1 hp.r.2
theorem ext_mono {l m : Lb} (a : Int) (h : leL l m) : leL (g.ext l a) (g.ext m a) := ordS_app _ h
theorem ext_le (hg : g.Ok) {l : Lb} {a : Int} (hp : g.push l a) : leL l (g.ext l a) := by
 have := hg.co0 _ hp.r.1 hp.r.2
 unfold leL
 rw [ordS_le]
 simp only [SV.ext, List.length_append, List.length_cons, List.length_nil]
 omega
variable (g)
def CovL (A Q : List Lb) (e : Lb) : Prop := ∃ m, (m ∈ A ∨ m ∈ Q) ∧ m.node = e.node ∧ leL m e ∧ m.delay ≤ e.delay
structure SV.DI (Pend : Lb → Int → Prop) (A Q : List Lb) (least : Int → Int) : Prop where
 w : ∀ l, l ∈ A ∨ l ∈ Q → g.WL l
 c0 : g.ini ∈ A ∨ g.ini ∈ Q
 c1 : ∀ l ∈ A, (l.arcs = [] ∨ g.ov l.node = false) → ∀ a, g.push l a → ¬ g.cl (g.hd a) → g.hd a ≠ g.n → CovL A Q (g.ext l a) ∨ Pend l a
 c2 : ∀ l ∈ A, ∀ q ∈ Q, leL l q
 c3 : ∀ v, g.cl v → least v = 0
 c3' : ∀ v, ¬ g.cl v → 0 ≤ least v → ∃ l ∈ A, l.node = v ∧ l.delay = least v
 c4 : ∀ l ∈ A, l.node ≠ g.d
 c6 : ∀ l ∈ A, ∀ v ∈ g.n :: l.arcs.map g.hd, 0 ≤ least v ∧ least v ≤ l.delay
 c7 : ∀ l ∈ A, (g.n :: l.arcs.map g.hd).Nodup
 ge : ∀ l ∈ A, g.GE l
 c8 : ∀ q ∈ Q, q = g.ini ∨ ∃ l ∈ A, ∃ a, q = g.ext l a ∧ g.push l a
variable {g}
theorem SV.DI.init (hg : g.Ok) {least : Int → Int} (h0 : ∀ v, g.cl v → least v = 0) (h1 : ∀ v, ¬ g.cl v → least v < 0) : g.DI (fun _ _ => False) [] [g.ini] least where
 w l h := by
  rcases h with h | h
  ·cases h
  ·rw [List.mem_singleton.1 h]; exact .ini
 c0 := .inr (by simp)
 c1 l h := by cases h
 c2 l h := by cases h
 c3 := h0
 c3' v h h2 := by have := h1 v h; omega
 c4 l h := by cases h
 c6 l h := by cases h
 c7 l h := by cases h
 ge l h := by cases h
 c8 q h := .inl (by simpa using h)
theorem SV.DI.met (hg : g.Ok) {A Q : List Lb} {least : Int → Int} (h : g.DI (fun _ _ => False) A Q least) {w : Lb} (hw : g.WL w) (hge : g.GE w) :
  (∃ m ∈ A, m.node = w.node ∧ leL m w ∧ m.delay ≤ w.delay) ∨ ∃ m ∈ Q, leL m w := by
 induction hw with
 | ini =>
  rcases h.c0 with h0 | h0
  ·exact .inl ⟨_, h0, rfl, totL.refl _, Int.le_refl _⟩
  ·exact .inr ⟨_, h0, totL.refl _⟩
 | @ext l a hl hm hd hp ih =>
  have hgl : g.GE l := by
   by_cases h0 : l.arcs = []
   ·exact .inl h0
   ·exact .inr ⟨(hm h0).1, (hm h0).2.1⟩
  rcases ih hgl with ⟨m, hmA, hn, hle, hdl⟩ | ⟨m, hmQ, hle⟩
  ·have hge2 : ¬ g.cl (g.hd a) ∧ g.hd a ≠ g.n := by
    rcases hge with h0 | h0
    ·simp [SV.ext] at h0
    ·exact h0
   have hmw := h.w m (.inl hmA)
   have key : m.arcs = [] → l.arcs = [] := fun h0 => by
    rcases hgl with h1 | h1
    ·exact h1
    ·rw [hmw.nil h0] at hn
     exact absurd hn.symm h1.2
   have hpm : g.push m a := ⟨hp.r, by rw [hp.t, hn], hp.dn, fun h0 => hp.us (key h0), by have := hp.de; omega⟩
   have hov : m.arcs = [] ∨ g.ov m.node = false := by
    by_cases h0 : l.arcs = []
    ·rw [hl.nil h0] at hn
     rcases h.ge m hmA with h1 | h1
     ·exact .inl h1
     ·exact absurd hn h1.2
    ·exact .inr (by rw [hn]; exact (hm h0).2.2)
   rcases h.c1 m hmA hov a hpm hge2.1 hge2.2 with ⟨x, hx, hxn, hxl, hxd⟩ | hf
   ·have hle2 : leL x (g.ext l a) := totL.trans hxl (ext_mono a hle)
    rcases hx with hx | hx
    ·exact .inl ⟨x, hx, hxn, hle2, by simp only [SV.ext] at hxd ⊢; omega⟩
    ·exact .inr ⟨x, hx, hle2⟩
   ·exact hf.elim
  ·exact .inr ⟨m, hmQ, totL.trans hle (ext_le hg hp)⟩
theorem SV.DI.skip (hg : g.Ok) {A Q Q' : List Lb} {least : Int → Int} {q : Lb} (h : g.DI (fun _ _ => False) A Q least) (hq : (q :: Q').Perm Q) (h0 : 0 ≤ least q.node) (h1 : least q.node ≤ q.delay) : g.DI (fun _ _ => False) A Q' least := by
  have hm : ∀ x, x ∈ Q ↔ x = q ∨ x ∈ Q' := fun x => by rw [← hq.mem_iff]; simp
  have hqQ : q ∈ Q := (hm q).2 (.inl rfl)
  have hsub : ∀ x, x ∈ Q' → x ∈ Q := fun x hx => (hm x).2 (.inr hx)
  have hqn : q = g.ini → g.ini ∈ A := fun e => by
    obtain ⟨l, hl, hn, hd⟩ := h.c3' q.node (by rw [e]; exact hg.ncl) h0
    rcases h.ge l hl with h2 | h2
    · rw [← (h.w l (.inl hl)).nil h2]; exact hl
    · rw [e] at hn; exact absurd hn h2.2
  exact {
    w := fun l hl => h.w l (hl.imp_right (hsub l))
    c0 := by
      rcases h.c0 with h2 | h2
      · exact .inl h2
      · rcases (hm _).1 h2 with h3 | h3
        · exact .inl (hqn h3.symm)
        · exact .inr h3
    c1 := fun l hl ho a hp hc hn => by
      rcases h.c1 l hl ho a hp hc hn with ⟨m, hx, e1, e2, e3⟩ | hf
      · left
        rcases hx with hx | hx
        · exact ⟨m, .inl hx, e1, e2, e3⟩
        · rcases (hm m).1 hx with rfl | hx
          · have hcl : ¬ g.cl m.node := by rw [e1]; exact hc
            obtain ⟨x, hxA, hxn, hxd⟩ := h.c3' m.node hcl h0
            exact ⟨x, .inl hxA, by rw [hxn, e1], totL.trans (h.c2 x hxA m hqQ) e2, by omega⟩
          · exact ⟨m, .inr hx, e1, e2, e3⟩
      · exact hf.elim
    c2 := fun l hl x hx => h.c2 l hl x (hsub x hx)
    c3 := h.c3
    c3' := h.c3'
    c4 := h.c4
    c6 := h.c6
    c7 := h.c7
    ge := h.ge
    c8 := fun x hx => h.c8 x (hsub x hx) }
theorem SV.DI.take (hg : g.Ok) {A Q Q' : List Lb} {least least' : Int → Int} {q : Lb} (h : g.DI (fun _ _ => False) A Q least) (hq : (q :: Q').Perm Q) (hmin : ∀ x ∈ Q', leL q x) (h0 : 0 ≤ least q.node → ¬ least q.node ≤ q.delay)
    (hl : ∀ v, least' v = if v = q.node then q.delay else least v) : g.GE q ∧ (q.node ≠ g.d → g.DI (fun l _ => l = q) (q :: A) Q' least') := by
  have hm : ∀ x, x ∈ Q ↔ x = q ∨ x ∈ Q' := fun x => by rw [← hq.mem_iff]; simp
  have hqQ : q ∈ Q := (hm q).2 (.inl rfl)
  have hsub : ∀ x, x ∈ Q' → x ∈ Q := fun x hx => (hm x).2 (.inr hx)
  have hqw := h.w q (.inr hqQ)
  have hd0 := (hqw.delay0 hg).1
  have hd00 := hg.d00
  have hge : g.GE q := by
    rcases h.c8 q hqQ with e | ⟨l, hlA, a, e, hp⟩
    · exact .inl (by rw [e]; rfl)
    · refine .inr ⟨fun hc => ?_, fun hn => ?_⟩
      · have := h.c3 _ hc
        exact h0 (by omega) (by omega)
      · have h6 := h.c6 l hlA g.n (by simp)
        rw [hn] at h0
        have := hg.de0 _ hp.r.1 hp.r.2
        refine h0 h6.1 ?_
        rw [e]; simp only [SV.ext]; omega
  refine ⟨hge, fun hqd => ?_⟩
  have hncl : ¬ g.cl q.node := by
    rcases hge with h1 | h1
    · rw [hqw.nil h1]; exact hg.ncl
    · exact h1.1
  have hles : ∀ v, 0 ≤ least v → 0 ≤ least' v ∧ least' v ≤ least v := fun v hv => by
    rw [hl]
    by_cases e : v = q.node
    · rw [if_pos e]; rw [← e] at h0
      have := h0 hv
      omega
    · rw [if_neg e]; exact ⟨hv, Int.le_refl _⟩
  exact {
    w := fun l hl => by
      rcases hl with hl | hl
      · rcases List.mem_cons.1 hl with rfl | hl
        · exact hqw
        · exact h.w l (.inl hl)
      · exact h.w l (.inr (hsub l hl))
    c0 := by
      rcases h.c0 with h2 | h2
      · exact .inl (List.mem_cons_of_mem _ h2)
      · rcases (hm _).1 h2 with h3 | h3
        · exact .inl (by rw [h3]; simp)
        · exact .inr h3
    c1 := fun l hlA ho a hp hc hn => by
      rcases List.mem_cons.1 hlA with rfl | hlA
      · exact .inr rfl
      · left
        rcases h.c1 l hlA ho a hp hc hn with ⟨m, hx, e1, e2, e3⟩ | hf
        · rcases hx with hx | hx
          · exact ⟨m, .inl (List.mem_cons_of_mem _ hx), e1, e2, e3⟩
          · rcases (hm m).1 hx with rfl | hx
            · exact ⟨m, .inl (by simp), e1, e2, e3⟩
            · exact ⟨m, .inr hx, e1, e2, e3⟩
        · exact hf.elim
    c2 := fun l hlA x hx => by
      rcases List.mem_cons.1 hlA with rfl | hlA
      · exact hmin x hx
      · exact h.c2 l hlA x (hsub x hx)
    c3 := fun v hv => by
      rw [hl, if_neg (fun e : v = q.node => hncl (e ▸ hv))]; exact h.c3 v hv
    c3' := fun v hv h1 => by
      rw [hl] at h1 ⊢
      by_cases e : v = q.node
      · rw [if_pos e]; exact ⟨q, by simp, e.symm, rfl⟩
      · rw [if_neg e] at h1 ⊢
        obtain ⟨l, hlA, e1, e2⟩ := h.c3' v hv h1
        exact ⟨l, List.mem_cons_of_mem _ hlA, e1, e2⟩
    c4 := fun l hlA => by
      rcases List.mem_cons.1 hlA with rfl | hlA
      · exact hqd
      · exact h.c4 l hlA
    c6 := fun l hlA v hv => by
      rcases List.mem_cons.1 hlA with rfl | hlA
      · by_cases e : v = l.node
        · rw [hl, if_pos e]; omega
        · rcases h.c8 l hqQ with e2 | ⟨m, hmA, a, e2, hp⟩
          · rw [e2] at hv e
            simp [SV.ini] at hv e
            exact absurd hv e
          · have hv2 : v ∈ g.n :: m.arcs.map g.hd := by
              rw [e2] at hv e
              simp [SV.ext] at hv e ⊢
              rcases hv with h1 | h1 | h1
              · exact .inl h1
              · exact .inr h1
              · exact absurd h1 e
            have h6 := h.c6 m hmA v hv2
            have h7 := hles v h6.1
            have := hg.de0 _ hp.r.1 hp.r.2
            refine ⟨h7.1, ?_⟩
            rw [e2]; simp only [SV.ext]; omega
      · have h6 := h.c6 l hlA v hv
        have h7 := hles v h6.1
        omega
    c7 := fun l hlA => by
      rcases List.mem_cons.1 hlA with rfl | hlA
      · rcases h.c8 l hqQ with e2 | ⟨m, hmA, a, e2, hp⟩
        · rw [e2]; simp [SV.ini]
        · have h7 := h.c7 m hmA
          have hnm : g.hd a ∉ g.n :: m.arcs.map g.hd := fun hv => by
            have h6 := h.c6 m hmA _ hv
            have h8 : g.hd a = l.node := by rw [e2]; rfl
            rw [h8] at h6
            have := hg.de0 _ hp.r.1 hp.r.2
            refine h0 h6.1 ?_
            have h9 : l.delay = m.delay + g.de a := by rw [e2]; rfl
            omega
          rw [e2]
          simp only [SV.ext, List.map_append, List.map_cons, List.map_nil]
          rw [← List.cons_append, List.nodup_append]
          refine ⟨h7, by simp, fun x hx y hy e => ?_⟩
          rw [List.mem_singleton.1 hy] at e
          exact hnm (e ▸ hx)
      · exact h.c7 l hlA
    ge := fun l hlA => by
      rcases List.mem_cons.1 hlA with rfl | hlA
      · exact hge
      · exact h.ge l hlA
    c8 := fun x hx => by
      rcases h.c8 x (hsub x hx) with e | ⟨l, hlA, a, e⟩
      · exact .inl e
      · exact .inr ⟨l, List.mem_cons_of_mem _ hlA, a, e⟩ }
theorem SV.DI.weak {A Q : List Lb} {least : Int → Int} {P P' : Lb → Int → Prop} (h : g.DI P A Q least) (hp : ∀ l a, l ∈ A → (l.arcs = [] ∨ g.ov l.node = false) → g.push l a → P l a → P' l a) : g.DI P' A Q least :=
 { h with c1 := fun l hl ho a hpu hc hn => (h.c1 l hl ho a hpu hc hn).imp_right fun x => hp l a hl ho hpu x }
theorem SV.DI.add (hg : g.Ok) {A Q Q' : List Lb} {least : Int → Int} {P P' : Lb → Int → Prop} {q : Lb} {a : Int} (h : g.DI P A Q least) (hqA : q ∈ A) (ho : q.arcs = [] ∨ g.ov q.node = false) (hp : g.push q a) (hle : ∀ l ∈ A, leL l q) (hQ : Q'.Perm (g.ext q a :: Q))
    (hP : ∀ l b, P l b → P' l b ∨ (l = q ∧ b = a)) : g.DI P' A Q' least := by
  have hm : ∀ x, x ∈ Q' ↔ x = g.ext q a ∨ x ∈ Q := fun x => by rw [hQ.mem_iff]; simp
  have hge := h.ge q hqA
  exact {
    w := fun l hl => by
      rcases hl with hl | hl
      · exact h.w l (.inl hl)
      · rcases (hm l).1 hl with rfl | hl
        · refine .ext (h.w q (.inl hqA)) (fun h0 => ?_) (h.c4 q hqA) hp
          rcases hge with h1 | h1
          · exact absurd h1 h0
          · rcases ho with h2 | h2
            · exact absurd h2 h0
            · exact ⟨h1.1, h1.2, h2⟩
        · exact h.w l (.inr hl)
    c0 := h.c0.imp_right fun hx => (hm _).2 (.inr hx)
    c1 := fun l hl ho2 b hpb hc hn => by
      rcases h.c1 l hl ho2 b hpb hc hn with ⟨m, hx, e⟩ | hf
      · exact .inl ⟨m, hx.imp_right fun hx => (hm m).2 (.inr hx), e⟩
      · rcases hP l b hf with h1 | ⟨rfl, rfl⟩
        · exact .inr h1
        · exact .inl ⟨_, .inr ((hm _).2 (.inl rfl)), rfl, totL.refl _, Int.le_refl _⟩
    c2 := fun l hl x hx => by
      rcases (hm x).1 hx with rfl | hx
      · exact totL.trans (hle l hl) (ext_le hg hp)
      · exact h.c2 l hl x hx
    c3 := h.c3
    c3' := h.c3'
    c4 := h.c4
    c6 := h.c6
    c7 := h.c7
    ge := h.ge
    c8 := fun x hx => by
      rcases (hm x).1 hx with rfl | hx
      · exact .inr ⟨q, hqA, a, rfl, hp⟩
      · exact h.c8 x hx }
variable (g)
def SV.IsDev (p : List Int) : Prop := ∃ l, g.WL l ∧ l.node = g.d ∧ g.GE l ∧ l.arcs = p ∧ (∀ w, g.WL w → w.node = g.d → g.GE w → leL l w) ∧ (g.n :: p.map g.hd).Nodup
variable {g}
theorem SV.DI.found (hg : g.Ok) {A Q Q' : List Lb} {least : Int → Int} {q : Lb} (h : g.DI (fun _ _ => False) A Q least) (hq : (q :: Q').Perm Q) (hmin : ∀ x ∈ Q', leL q x) (hge : g.GE q) (hd : q.node = g.d) : g.IsDev q.arcs := by
 have hm : ∀ x, x ∈ Q ↔ x = q ∨ x ∈ Q' := fun x => by rw [← hq.mem_iff]; simp
 refine ⟨q, h.w q (.inr ((hm q).2 (.inl rfl))), hd, hge, rfl, fun w hw hwd hwg => ?_, ?_⟩
 case refine_2 =>
  rcases h.c8 q ((hm q).2 (.inl rfl)) with rfl | ⟨l, hl, a, rfl, _⟩
  ·simp [SV.ini]
  ·have h7 := h.c7 l hl
   have h6 := h.c6 l hl
   have hd : g.hd a = g.d := hd
   simp only [SV.ext, List.map_append, List.map_cons, List.map_nil]
   rw [← List.cons_append, List.nodup_append]
   refine ⟨h7, by simp, fun x hx y hy => ?_⟩
   rw [List.mem_singleton.1 hy, hd]
   rintro rfl
   obtain ⟨m, hmA, hmn, _⟩ := h.c3' g.d hg.dcl (h6 _ hx).1
   exact h.c4 m hmA hmn
 rcases h.met hg hw hwg with ⟨m, hmA, hmn, _⟩ | ⟨m, hmQ, hle⟩
 ·exact absurd (hmn.trans hwd) (h.c4 m hmA)
 ·rcases (hm m).1 hmQ with rfl | hx
  ·exact hle
  ·exact totL.trans (hmin m hx) hle
def SV.NoDev (g : SV) : Prop := ∀ l, g.WL l → l.node = g.d → g.GE l → False
def SV.DevO (g : SV) : Option (List Int) → Prop
 | some p => g.IsDev p
 | none => g.NoDev
theorem SV.DI.none (hg : g.Ok) {A : List Lb} {least : Int → Int} (h : g.DI (fun _ _ => False) A [] least) : g.NoDev := by
 intro l hw hd hge
 rcases h.met hg hw hge with ⟨m, hmA, hmn, _⟩ | ⟨m, hmQ, _⟩
 ·exact h.c4 m hmA (hmn.trans hd)
 ·cases hmQ
end Go.Ab

