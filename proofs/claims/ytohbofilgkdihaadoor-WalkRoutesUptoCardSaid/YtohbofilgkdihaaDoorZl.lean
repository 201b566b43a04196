/-
  Merged texts, part l.
-/
import Derived.Test.YtohbofilgkdihaaDoorZk
import Derived.Test.YtohbofilgkdihaaDoorProg
set_option linter.all false
namespace Go.Ab
open Go.Proofs
set_option maxRecDepth 100000
abbrev CFn (P:Program) (f:Func):={a:AF // QaH P f=some a}
def QdL:CFn Tryd.prog Tryd.f3:=by refine⟨?a,?h⟩;case h=>conv=>lhs;cbv
def QfO:AF:=QdL.1
abbrev QdG:Nat:=3
theorem QfZ:Tryd.prog.funcs[QdG]? =some Tryd.f3:=Tryd.func3
theorem Qgc:QaH Tryd.prog Tryd.f3=some QfO:=QdL.2
def Qgy:CFn Tryd.prog Tryd.f5:=by refine⟨?a,?h⟩;case h=>conv=>lhs;cbv
def Qar:AF:=Qgy.1
abbrev Qdc:Nat:=5
theorem Qfy:Tryd.prog.funcs[Qdc]? =some Tryd.f5:=Tryd.func5
theorem Qld:QaH Tryd.prog Tryd.f5=some Qar:=Qgy.2
def Qjz:CFn Tryd.prog Tryd.f6:=by refine⟨?a,?h⟩;case h=>conv=>lhs;cbv
def Qmm:AF:=Qjz.1
abbrev Qdr:Nat:=6
theorem Qhi:Tryd.prog.funcs[Qdr]? =some Tryd.f6:=Tryd.func6
theorem QiI:QaH Tryd.prog Tryd.f6=some Qmm:=Qjz.2
def QhI:CFn Tryd.prog Tryd.f7:=by refine⟨?a,?h⟩;case h=>conv=>lhs;cbv
def QkZ:AF:=QhI.1
abbrev Qhs:Nat:=7
theorem QlE:Tryd.prog.funcs[Qhs]? =some Tryd.f7:=Tryd.func7
theorem QmB:QaH Tryd.prog Tryd.f7=some QkZ:=QhI.2
def QkB:CFn Tryd.prog Tryd.f8:=by refine⟨?a,?h⟩;case h=>conv=>lhs;cbv
def QnO:AF:=QkB.1
abbrev Qdg:Nat:=8
theorem Qoc:Tryd.prog.funcs[Qdg]? =some Tryd.f8:=Tryd.func8
theorem Qp9:QaH Tryd.prog Tryd.f8=some QnO:=QkB.2
def QhG:CFn Tryd.prog Tryd.f9:=by refine⟨?a,?h⟩;case h=>conv=>lhs;cbv
def QkX:AF:=QhG.1
abbrev Qhq:Nat:=9
theorem QlC:Tryd.prog.funcs[Qhq]? =some Tryd.f9:=Tryd.func9
theorem Qmz:QaH Tryd.prog Tryd.f9=some QkX:=QhG.2
def QhE:CFn Tryd.prog Tryd.f10:=by refine⟨?a,?h⟩;case h=>conv=>lhs;cbv
def QkV:AF:=QhE.1
abbrev Qho:Nat:=10
theorem QlA:Tryd.prog.funcs[Qho]? =some Tryd.f10:=Tryd.func10
theorem Qmx:QaH Tryd.prog Tryd.f10=some QkV:=QhE.2
def QfM:CFn Tryd.prog Tryd.f11:=by refine⟨?a,?h⟩;case h=>conv=>lhs;cbv
def Qis:AF:=QfM.1
abbrev QcQ:Nat:=11
theorem Qi6:Tryd.prog.funcs[QcQ]? =some Tryd.f11:=Tryd.func11
theorem QjW:QaH Tryd.prog Tryd.f11=some Qis:=QfM.2
def QhM:CFn Tryd.prog Tryd.f12:=by refine⟨?a,?h⟩;case h=>conv=>lhs;cbv
def Qk3:AF:=QhM.1
abbrev QdI:Nat:=12
theorem QlI:Tryd.prog.funcs[QdI]? =some Tryd.f12:=Tryd.func12
theorem QmF:QaH Tryd.prog Tryd.f12=some Qk3:=QhM.2
def QeF:CFn Tryd.prog Tryd.f13:=by refine⟨?a,?h⟩;case h=>conv=>lhs;cbv
def QgI:AF:=QeF.1
abbrev Qc8:Nat:=13
theorem QgV:Tryd.prog.funcs[Qc8]? =some Tryd.f13:=Tryd.func13
theorem QhX:QaH Tryd.prog Tryd.f13=some QgI:=QeF.2
def QhJ:CFn Tryd.prog Tryd.f14:=by refine⟨?a,?h⟩;case h=>conv=>lhs;cbv
def Qk0:AF:=QhJ.1
abbrev Qht:Nat:=14
theorem QlF:Tryd.prog.funcs[Qht]? =some Tryd.f14:=Tryd.func14
theorem QmC:QaH Tryd.prog Tryd.f14=some Qk0:=QhJ.2
def QfK:CFn Tryd.prog Tryd.f15:=by refine⟨?a,?h⟩;case h=>conv=>lhs;cbv
def Qiq:AF:=QfK.1
abbrev QcP:Nat:=15
theorem QeS:Tryd.prog.funcs[QcP]? =some Tryd.f15:=Tryd.func15
theorem Qfv:QaH Tryd.prog Tryd.f15=some Qiq:=QfK.2
def QfJ:CFn Tryd.prog Tryd.f16:=by refine⟨?a,?h⟩;case h=>conv=>lhs;cbv
def Qip:AF:=QfJ.1
abbrev QfD:Nat:=16
theorem Qi4:Tryd.prog.funcs[QfD]? =some Tryd.f16:=Tryd.func16
theorem QjU:QaH Tryd.prog Tryd.f16=some Qip:=QfJ.2
def QgB:CFn Tryd.prog Tryd.f17:=by refine⟨?a,?h⟩;case h=>conv=>lhs;cbv
def QjP:AF:=QgB.1
abbrev Qeu:Nat:=17
theorem Qj3:Tryd.prog.funcs[Qeu]? =some Tryd.f17:=Tryd.func17
theorem Qlg:QaH Tryd.prog Tryd.f17=some QjP:=QgB.2
def QbH:CFn Tryd.prog Tryd.f18:=by refine⟨?a,?h⟩;case h=>conv=>lhs;cbv
def Qc6:AF:=QbH.1
abbrev QbF:Nat:=18
theorem Qc7:Tryd.prog.funcs[QbF]? =some Tryd.f18:=Tryd.func18
theorem Qdb:QaH Tryd.prog Tryd.f18=some Qc6:=QbH.2
def Qc1:CFn Tryd.prog Tryd.f19:=by refine⟨?a,?h⟩;case h=>conv=>lhs;cbv
def QeJ:AF:=Qc1.1
abbrev QcZ:Nat:=19
theorem QeL:Tryd.prog.funcs[QcZ]? =some Tryd.f19:=Tryd.func19
theorem QeO:QaH Tryd.prog Tryd.f19=some QeJ:=Qc1.2
def Qgz:CFn Tryd.prog Tryd.f20:=by refine⟨?a,?h⟩;case h=>conv=>lhs;cbv
def QjN:AF:=Qgz.1
abbrev Qgp:Nat:=20
theorem Qj1:Tryd.prog.funcs[Qgp]? =some Tryd.f20:=Tryd.func20
theorem Qle:QaH Tryd.prog Tryd.f20=some QjN:=Qgz.2
def QhD:CFn Tryd.prog Tryd.f21:=by refine⟨?a,?h⟩;case h=>conv=>lhs;cbv
def QkU:AF:=QhD.1
abbrev Qhn:Nat:=21
theorem Qlz:Tryd.prog.funcs[Qhn]? =some Tryd.f21:=Tryd.func21
theorem Qmw:QaH Tryd.prog Tryd.f21=some QkU:=QhD.2
def QhH:CFn Tryd.prog Tryd.f22:=by refine⟨?a,?h⟩;case h=>conv=>lhs;cbv
def QkY:AF:=QhH.1
abbrev Qhr:Nat:=22
theorem QlD:Tryd.prog.funcs[Qhr]? =some Tryd.f22:=Tryd.func22
theorem QmA:QaH Tryd.prog Tryd.f22=some QkY:=QhH.2
def QdM:CFn Tryd.prog Tryd.f23:=by refine⟨?a,?h⟩;case h=>conv=>lhs;cbv
def QfP:AF:=QdM.1
abbrev QdH:Nat:=23
theorem Qf0:Tryd.prog.funcs[QdH]? =some Tryd.f23:=Tryd.func23
theorem Qgd:QaH Tryd.prog Tryd.f23=some QfP:=QdM.2
def QhF:CFn Tryd.prog Tryd.f24:=by refine⟨?a,?h⟩;case h=>conv=>lhs;cbv
def QkW:AF:=QhF.1
abbrev Qhp:Nat:=24
theorem QlB:Tryd.prog.funcs[Qhp]? =some Tryd.f24:=Tryd.func24
theorem Qmy:QaH Tryd.prog Tryd.f24=some QkW:=QhF.2
abbrev QcY:Nat:=25
theorem QcA:Tryd.prog.funcs[QcY]? =some Tryd.f25:=Tryd.func25
def Qcq:CFn Tryd.prog Tryd.f26:=by refine⟨?a,?h⟩;case h=>conv=>lhs;cbv
def QdO:AF:=Qcq.1
abbrev Qcm:Nat:=26
theorem QdQ:Tryd.prog.funcs[Qcm]? =some Tryd.f26:=Tryd.func26
theorem QdV:QaH Tryd.prog Tryd.f26=some QdO:=Qcq.2
def QhK:CFn Tryd.prog Tryd.f27:=by refine⟨?a,?h⟩;case h=>conv=>lhs;cbv
def Qk1:AF:=QhK.1
abbrev Qhu:Nat:=27
theorem QlG:Tryd.prog.funcs[Qhu]? =some Tryd.f27:=Tryd.func27
theorem QmD:QaH Tryd.prog Tryd.f27=some Qk1:=QhK.2
def Qjy:CFn Tryd.prog Tryd.f28:=by refine⟨?a,?h⟩;case h=>conv=>lhs;cbv
def Qml:AF:=Qjy.1
abbrev Qjl:Nat:=28
theorem QmW:Tryd.prog.funcs[Qjl]? =some Tryd.f28:=Tryd.func28
theorem QnX:QaH Tryd.prog Tryd.f28=some Qml:=Qjy.2
def QkA:CFn Tryd.prog Tryd.f29:=by refine⟨?a,?h⟩;case h=>conv=>lhs;cbv
def QnN:AF:=QkA.1
abbrev Qkr:Nat:=29
theorem Qob:Tryd.prog.funcs[Qkr]? =some Tryd.f29:=Tryd.func29
theorem Qp8:QaH Tryd.prog Tryd.f29=some QnN:=QkA.2
def Qe7:CFn Tryd.prog Tryd.f30:=by refine⟨?a,?h⟩;case h=>conv=>lhs;cbv
def QhV:AF:=Qe7.1
abbrev QeZ:Nat:=30
theorem Qh6:Tryd.prog.funcs[QeZ]? =some Tryd.f30:=Tryd.func30
theorem QiH:QaH Tryd.prog Tryd.f30=some QhV:=Qe7.2
def QhN:CFn Tryd.prog Tryd.f31:=by refine⟨?a,?h⟩;case h=>conv=>lhs;cbv
def Qk4:AF:=QhN.1
abbrev Qhw:Nat:=31
theorem QlJ:Tryd.prog.funcs[Qhw]? =some Tryd.f31:=Tryd.func31
theorem QmG:QaH Tryd.prog Tryd.f31=some Qk4:=QhN.2
def Qe9:CFn Tryd.prog Tryd.f32:=by refine⟨?a,?h⟩;case h=>conv=>lhs;cbv
def QeD:AF:=Qe9.1
abbrev Qay:Nat:=32
theorem Qce:Tryd.prog.funcs[Qay]? =some Tryd.f32:=Tryd.func32
theorem QeP:QaH Tryd.prog Tryd.f32=some QeD:=Qe9.2
abbrev Qjm:Nat:=33
theorem QmX:Tryd.prog.funcs[Qjm]? =some Tryd.f33:=Tryd.func33
def QfF:CFn Tryd.prog Tryd.f34:=by refine⟨?a,?h⟩;case h=>conv=>lhs;cbv
def Qil:AF:=QfF.1
abbrev QdR:Nat:=34
theorem Qi0:Tryd.prog.funcs[QdR]? =some Tryd.f34:=Tryd.func34
theorem QjQ:QaH Tryd.prog Tryd.f34=some Qil:=QfF.2
def QhA:CFn Tryd.prog Tryd.f35:=by refine⟨?a,?h⟩;case h=>conv=>lhs;cbv
def QkR:AF:=QhA.1
abbrev QdF:Nat:=35
theorem Qlw:Tryd.prog.funcs[QdF]? =some Tryd.f35:=Tryd.func35
theorem Qmt:QaH Tryd.prog Tryd.f35=some QkR:=QhA.2
def Qbv:CFn Tryd.prog Tryd.f36:=by refine⟨?a,?h⟩;case h=>conv=>lhs;cbv
def QcF:AF:=Qbv.1
abbrev Qbu:Nat:=36
theorem QcK:Tryd.prog.funcs[Qbu]? =some Tryd.f36:=Tryd.func36
theorem QcS:QaH Tryd.prog Tryd.f36=some QcF:=Qbv.2
def Qcy:CFn Tryd.prog Tryd.f37:=by refine⟨?a,?h⟩;case h=>conv=>lhs;cbv
def QdU:AF:=Qcy.1
abbrev Qai:Nat:=37
theorem Qa0:Tryd.prog.funcs[Qai]? =some Tryd.f37:=Tryd.func37
theorem Qcv:QaH Tryd.prog Tryd.f37=some QdU:=Qcy.2
def QcC:CFn Tryd.prog Tryd.f38:=by refine⟨?a,?h⟩;case h=>conv=>lhs;cbv
def Qef:AF:=QcC.1
abbrev Qav:Nat:=38
theorem Qbx:Tryd.prog.funcs[Qav]? =some Tryd.f38:=Tryd.func38
theorem QbD:QaH Tryd.prog Tryd.f38=some Qef:=QcC.2
def QfI:CFn Tryd.prog Tryd.f39:=by refine⟨?a,?h⟩;case h=>conv=>lhs;cbv
def Qio:AF:=QfI.1
abbrev QfC:Nat:=39
theorem Qi3:Tryd.prog.funcs[QfC]? =some Tryd.f39:=Tryd.func39
theorem QjT:QaH Tryd.prog Tryd.f39=some Qio:=QfI.2
def QhL:CFn Tryd.prog Tryd.f42:=by refine⟨?a,?h⟩;case h=>conv=>lhs;cbv
def Qk2:AF:=QhL.1
abbrev Qhv:Nat:=42
theorem QlH:Tryd.prog.funcs[Qhv]? =some Tryd.f42:=Tryd.func42
theorem QmE:QaH Tryd.prog Tryd.f42=some Qk2:=QhL.2
def QeG:CFn Tryd.prog Tryd.f43:=by refine⟨?a,?h⟩;case h=>conv=>lhs;cbv
def QgJ:AF:=QeG.1
abbrev QeE:Nat:=43
theorem QgW:Tryd.prog.funcs[QeE]? =some Tryd.f43:=Tryd.func43
theorem QhY:QaH Tryd.prog Tryd.f43=some QgJ:=QeG.2
def QgA:CFn Tryd.prog Tryd.f44:=by refine⟨?a,?h⟩;case h=>conv=>lhs;cbv
def QjO:AF:=QgA.1
abbrev Qgq:Nat:=44
theorem Qj2:Tryd.prog.funcs[Qgq]? =some Tryd.f44:=Tryd.func44
theorem Qlf:QaH Tryd.prog Tryd.f44=some QjO:=QgA.2
def QhB:CFn Tryd.prog Tryd.f45:=by refine⟨?a,?h⟩;case h=>conv=>lhs;cbv
def QkS:AF:=QhB.1
abbrev Qhl:Nat:=45
theorem Qlx:Tryd.prog.funcs[Qhl]? =some Tryd.f45:=Tryd.func45
theorem Qmu:QaH Tryd.prog Tryd.f45=some QkS:=QhB.2
def QfG:CFn Tryd.prog Tryd.f50:=by refine⟨?a,?h⟩;case h=>conv=>lhs;cbv
def Qim:AF:=QfG.1
abbrev QfA:Nat:=50
theorem Qi1:Tryd.prog.funcs[QfA]? =some Tryd.f50:=Tryd.func50
theorem QjR:QaH Tryd.prog Tryd.f50=some Qim:=QfG.2
def QfH:CFn Tryd.prog Tryd.f51:=by refine⟨?a,?h⟩;case h=>conv=>lhs;cbv
def Qin:AF:=QfH.1
abbrev QfB:Nat:=51
theorem Qi2:Tryd.prog.funcs[QfB]? =some Tryd.f51:=Tryd.func51
theorem QjS:QaH Tryd.prog Tryd.f51=some Qin:=QfH.2
def Qjx:CFn Tryd.prog Tryd.f52:=by refine⟨?a,?h⟩;case h=>conv=>lhs;cbv
def Qmk:AF:=Qjx.1
abbrev Qjk:Nat:=52
theorem QmV:Tryd.prog.funcs[Qjk]? =some Tryd.f52:=Tryd.func52
theorem QnW:QaH Tryd.prog Tryd.f52=some Qmk:=Qjx.2
def QhC:CFn Tryd.prog Tryd.f53:=by refine⟨?a,?h⟩;case h=>conv=>lhs;cbv
def QkT:AF:=QhC.1
abbrev Qhm:Nat:=53
theorem Qly:Tryd.prog.funcs[Qhm]? =some Tryd.f53:=Tryd.func53
theorem Qmv:QaH Tryd.prog Tryd.f53=some QkT:=QhC.2
def Qca:CFn Tryd.prog Tryd.f54:=by refine⟨?a,?h⟩;case h=>conv=>lhs;cbv
def Qdy:AF:=Qca.1
abbrev Qb6:Nat:=54
theorem QdA:Tryd.prog.funcs[Qb6]? =some Tryd.f54:=Tryd.func54
theorem QdP:QaH Tryd.prog Tryd.f54=some Qdy:=Qca.2
def Qe5:CFn Tryd.prog Tryd.f55:=by refine⟨?a,?h⟩;case h=>conv=>lhs;cbv
def QhT:AF:=Qe5.1
abbrev QeX:Nat:=55
theorem Qh4:Tryd.prog.funcs[QeX]? =some Tryd.f55:=Tryd.func55
theorem QiF:QaH Tryd.prog Tryd.f55=some QhT:=Qe5.2
def Qe4:CFn Tryd.prog Tryd.f56:=by refine⟨?a,?h⟩;case h=>conv=>lhs;cbv
def QhS:AF:=Qe4.1
abbrev QeW:Nat:=56
theorem Qh3:Tryd.prog.funcs[QeW]? =some Tryd.f56:=Tryd.func56
theorem QiE:QaH Tryd.prog Tryd.f56=some QhS:=Qe4.2
def Qkz:CFn Tryd.prog Tryd.f68:=by refine⟨?a,?h⟩;case h=>conv=>lhs;cbv
def QnM:AF:=Qkz.1
abbrev Qkq:Nat:=68
theorem Qoa:Tryd.prog.funcs[Qkq]? =some Tryd.f68:=Tryd.func68
theorem Qp7:QaH Tryd.prog Tryd.f68=some QnM:=Qkz.2
def Qea:CFn Tryd.prog Tryd.f69:=by refine⟨?a,?h⟩;case h=>conv=>lhs;cbv
def Qgb:AF:=Qea.1
abbrev Qd5:Nat:=69
theorem Qgh:Tryd.prog.funcs[Qd5]? =some Tryd.f69:=Tryd.func69
theorem QgL:QaH Tryd.prog Tryd.f69=some Qgb:=Qea.2
def Qe8:CFn Tryd.prog Tryd.f70:=by refine⟨?a,?h⟩;case h=>conv=>lhs;cbv
def QhW:AF:=Qe8.1
abbrev Qe0:Nat:=70
theorem Qh7:Tryd.prog.funcs[Qe0]? =some Tryd.f70:=Tryd.func70
theorem QiJ:QaH Tryd.prog Tryd.f70=some QhW:=Qe8.2
def QfL:CFn Tryd.prog Tryd.f71:=by refine⟨?a,?h⟩;case h=>conv=>lhs;cbv
def Qir:AF:=QfL.1
abbrev QfE:Nat:=71
theorem Qi5:Tryd.prog.funcs[QfE]? =some Tryd.f71:=Tryd.func71
theorem QjV:QaH Tryd.prog Tryd.f71=some Qir:=QfL.2
def Qa2:CFn Tryd.prog Tryd.f74:=by refine⟨?a,?h⟩;case h=>conv=>lhs;cbv
def QbK:AF:=Qa2.1
abbrev QaA:Nat:=74
theorem QbO:Tryd.prog.funcs[QaA]? =some Tryd.f74:=Tryd.func74
theorem QbU:QaH Tryd.prog Tryd.f74=some QbK:=Qa2.2
def Qhz:CFn Tryd.prog Tryd.f75:=by refine⟨?a,?h⟩;case h=>conv=>lhs;cbv
def QkQ:AF:=Qhz.1
abbrev Qhk:Nat:=75
theorem Qlv:Tryd.prog.funcs[Qhk]? =some Tryd.f75:=Tryd.func75
theorem Qms:QaH Tryd.prog Tryd.f75=some QkQ:=Qhz.2
def QcD:CFn Tryd.prog Tryd.f76:=by refine⟨?a,?h⟩;case h=>conv=>lhs;cbv
def Qeg:AF:=QcD.1
abbrev QcB:Nat:=76
theorem Qep:Tryd.prog.funcs[QcB]? =some Tryd.f76:=Tryd.func76
theorem QeK:QaH Tryd.prog Tryd.f76=some Qeg:=QcD.2
def QaY:CFn Tryd.prog Tryd.f77:=by refine⟨?a,?h⟩;case h=>conv=>lhs;cbv
def QbI:AF:=QaY.1
abbrev QaW:Nat:=77
theorem QbJ:Tryd.prog.funcs[QaW]? =some Tryd.f77:=Tryd.func77
theorem QbM:QaH Tryd.prog Tryd.f77=some QbI:=QaY.2
def Qe6:CFn Tryd.prog Tryd.f84:=by refine⟨?a,?h⟩;case h=>conv=>lhs;cbv
def QhU:AF:=Qe6.1
abbrev QeY:Nat:=84
theorem Qh5:Tryd.prog.funcs[QeY]? =some Tryd.f84:=Tryd.func84
theorem QiG:QaH Tryd.prog Tryd.f84=some QhU:=Qe6.2
def Qa4:CFn Tryd.prog Tryd.f87:=by refine⟨?a,?h⟩;case h=>conv=>lhs;cbv
def QbT:AF:=Qa4.1
abbrev Qb1:Nat:=87
theorem QbW:Tryd.prog.funcs[Qb1]? =some Tryd.f87:=Tryd.func87
theorem QbY:QaH Tryd.prog Tryd.f87=some QbT:=Qa4.2
theorem mixed:Tryd.prog.follows .mixedOrders=true:=by decide
end Go.Ab
