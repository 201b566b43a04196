/-
  Merged texts, part l.
-/
import Derived.Test.YtohbofilgkdihaaDoorZk
import Derived.Test.YtohbofilgkdihaaDoorProg
set_option linter.all false
namespace Go.Ab
open Go.Proofs
set_option maxRecDepth 100000
abbrev CFn (P:Program) (f:Func):={a:AF // QaJ P f=some a}
def Qfa:CFn Tryd.prog Tryd.f4:=by refine⟨?a,?h⟩;case h=>conv=>lhs;cbv
def QhU:AF:=Qfa.1
abbrev Qe1:Nat:=4
theorem Qh6:Tryd.prog.funcs[Qe1]? =some Tryd.f4:=Tryd.func4
theorem QiI:QaJ Tryd.prog Tryd.f4=some QhU:=Qfa.2
def Qgx:CFn Tryd.prog Tryd.f5:=by refine⟨?a,?h⟩;case h=>conv=>lhs;cbv
def Qaq:AF:=Qgx.1
abbrev Qcy:Nat:=5
theorem QfB:Tryd.prog.funcs[Qcy]? =some Tryd.f5:=Tryd.func5
theorem Qlc:QaJ Tryd.prog Tryd.f5=some Qaq:=Qgx.2
def QjD:CFn Tryd.prog Tryd.f6:=by refine⟨?a,?h⟩;case h=>conv=>lhs;cbv
def Qml:AF:=QjD.1
abbrev Qdt:Nat:=6
theorem Qhj:Tryd.prog.funcs[Qdt]? =some Tryd.f6:=Tryd.func6
theorem QiK:QaJ Tryd.prog Tryd.f6=some Qml:=QjD.2
def QhH:CFn Tryd.prog Tryd.f7:=by refine⟨?a,?h⟩;case h=>conv=>lhs;cbv
def QkZ:AF:=QhH.1
abbrev Qhs:Nat:=7
theorem QlC:Tryd.prog.funcs[Qhs]? =some Tryd.f7:=Tryd.func7
theorem Qmz:QaJ Tryd.prog Tryd.f7=some QkZ:=QhH.2
def QkE:CFn Tryd.prog Tryd.f8:=by refine⟨?a,?h⟩;case h=>conv=>lhs;cbv
def QnM:AF:=QkE.1
abbrev Qdi:Nat:=8
theorem Qob:Tryd.prog.funcs[Qdi]? =some Tryd.f8:=Tryd.func8
theorem Qp7:QaJ Tryd.prog Tryd.f8=some QnM:=QkE.2
def QhE:CFn Tryd.prog Tryd.f10:=by refine⟨?a,?h⟩;case h=>conv=>lhs;cbv
def QkW:AF:=QhE.1
abbrev Qhp:Nat:=10
theorem Qlz:Tryd.prog.funcs[Qhp]? =some Tryd.f10:=Tryd.func10
theorem Qmw:QaJ Tryd.prog Tryd.f10=some QkW:=QhE.2
def QfP:CFn Tryd.prog Tryd.f11:=by refine⟨?a,?h⟩;case h=>conv=>lhs;cbv
def Qit:AF:=QfP.1
abbrev QcS:Nat:=11
theorem Qjc:Tryd.prog.funcs[QcS]? =some Tryd.f11:=Tryd.func11
theorem Qj2:QaJ Tryd.prog Tryd.f11=some Qit:=QfP.2
def QhL:CFn Tryd.prog Tryd.f12:=by refine⟨?a,?h⟩;case h=>conv=>lhs;cbv
def Qk3:AF:=QhL.1
abbrev QdK:Nat:=12
theorem QlG:Tryd.prog.funcs[QdK]? =some Tryd.f12:=Tryd.func12
theorem QmD:QaJ Tryd.prog Tryd.f12=some Qk3:=QhL.2
def QeG:CFn Tryd.prog Tryd.f13:=by refine⟨?a,?h⟩;case h=>conv=>lhs;cbv
def QgG:AF:=QeG.1
abbrev Qdb:Nat:=13
theorem QgU:Tryd.prog.funcs[Qdb]? =some Tryd.f13:=Tryd.func13
theorem QhX:QaJ Tryd.prog Tryd.f13=some QgG:=QeG.2
def QhI:CFn Tryd.prog Tryd.f14:=by refine⟨?a,?h⟩;case h=>conv=>lhs;cbv
def Qk0:AF:=QhI.1
abbrev Qht:Nat:=14
theorem QlD:Tryd.prog.funcs[Qht]? =some Tryd.f14:=Tryd.func14
theorem QmA:QaJ Tryd.prog Tryd.f14=some Qk0:=QhI.2
def QfN:CFn Tryd.prog Tryd.f15:=by refine⟨?a,?h⟩;case h=>conv=>lhs;cbv
def Qir:AF:=QfN.1
abbrev QcR:Nat:=15
theorem QeU:Tryd.prog.funcs[QcR]? =some Tryd.f15:=Tryd.func15
theorem Qfy:QaJ Tryd.prog Tryd.f15=some Qir:=QfN.2
def QfM:CFn Tryd.prog Tryd.f16:=by refine⟨?a,?h⟩;case h=>conv=>lhs;cbv
def Qiq:AF:=QfM.1
abbrev QfG:Nat:=16
theorem Qja:Tryd.prog.funcs[QfG]? =some Tryd.f16:=Tryd.func16
theorem Qj0:QaJ Tryd.prog Tryd.f16=some Qiq:=QfM.2
def QgA:CFn Tryd.prog Tryd.f17:=by refine⟨?a,?h⟩;case h=>conv=>lhs;cbv
def QjU:AF:=QgA.1
abbrev Qev:Nat:=17
theorem Qj9:Tryd.prog.funcs[Qev]? =some Tryd.f17:=Tryd.func17
theorem Qlf:QaJ Tryd.prog Tryd.f17=some QjU:=QgA.2
def QbJ:CFn Tryd.prog Tryd.f18:=by refine⟨?a,?h⟩;case h=>conv=>lhs;cbv
def Qc9:AF:=QbJ.1
abbrev QbH:Nat:=18
theorem Qda:Tryd.prog.funcs[QbH]? =some Tryd.f18:=Tryd.func18
theorem Qde:QaJ Tryd.prog Tryd.f18=some Qc9:=QbJ.2
def Qc4:CFn Tryd.prog Tryd.f19:=by refine⟨?a,?h⟩;case h=>conv=>lhs;cbv
def QeK:AF:=Qc4.1
abbrev Qc2:Nat:=19
theorem QeN:Tryd.prog.funcs[Qc2]? =some Tryd.f19:=Tryd.func19
theorem QeQ:QaJ Tryd.prog Tryd.f19=some QeK:=Qc4.2
def Qgy:CFn Tryd.prog Tryd.f20:=by refine⟨?a,?h⟩;case h=>conv=>lhs;cbv
def QjS:AF:=Qgy.1
abbrev Qgq:Nat:=20
theorem Qj7:Tryd.prog.funcs[Qgq]? =some Tryd.f20:=Tryd.func20
theorem Qld:QaJ Tryd.prog Tryd.f20=some QjS:=Qgy.2
def QhD:CFn Tryd.prog Tryd.f21:=by refine⟨?a,?h⟩;case h=>conv=>lhs;cbv
def QkV:AF:=QhD.1
abbrev Qho:Nat:=21
theorem Qly:Tryd.prog.funcs[Qho]? =some Tryd.f21:=Tryd.func21
theorem Qmv:QaJ Tryd.prog Tryd.f21=some QkV:=QhD.2
def QhG:CFn Tryd.prog Tryd.f22:=by refine⟨?a,?h⟩;case h=>conv=>lhs;cbv
def QkY:AF:=QhG.1
abbrev Qhr:Nat:=22
theorem QlB:Tryd.prog.funcs[Qhr]? =some Tryd.f22:=Tryd.func22
theorem Qmy:QaJ Tryd.prog Tryd.f22=some QkY:=QhG.2
def QdN:CFn Tryd.prog Tryd.f23:=by refine⟨?a,?h⟩;case h=>conv=>lhs;cbv
def QfR:AF:=QdN.1
abbrev QdJ:Nat:=23
theorem Qf1:Tryd.prog.funcs[QdJ]? =some Tryd.f23:=Tryd.func23
theorem Qgf:QaJ Tryd.prog Tryd.f23=some QfR:=QdN.2
def QhF:CFn Tryd.prog Tryd.f24:=by refine⟨?a,?h⟩;case h=>conv=>lhs;cbv
def QkX:AF:=QhF.1
abbrev Qhq:Nat:=24
theorem QlA:Tryd.prog.funcs[Qhq]? =some Tryd.f24:=Tryd.func24
theorem Qmx:QaJ Tryd.prog Tryd.f24=some QkX:=QhF.2
abbrev Qc1:Nat:=25
theorem QcC:Tryd.prog.funcs[Qc1]? =some Tryd.f25:=Tryd.func25
def Qcq:CFn Tryd.prog Tryd.f26:=by refine⟨?a,?h⟩;case h=>conv=>lhs;cbv
def QdP:AF:=Qcq.1
abbrev Qcm:Nat:=26
theorem QdR:Tryd.prog.funcs[Qcm]? =some Tryd.f26:=Tryd.func26
theorem QdW:QaJ Tryd.prog Tryd.f26=some QdP:=Qcq.2
def QhJ:CFn Tryd.prog Tryd.f27:=by refine⟨?a,?h⟩;case h=>conv=>lhs;cbv
def Qk1:AF:=QhJ.1
abbrev Qhu:Nat:=27
theorem QlE:Tryd.prog.funcs[Qhu]? =some Tryd.f27:=Tryd.func27
theorem QmB:QaJ Tryd.prog Tryd.f27=some Qk1:=QhJ.2
def QjC:CFn Tryd.prog Tryd.f28:=by refine⟨?a,?h⟩;case h=>conv=>lhs;cbv
def Qmk:AF:=QjC.1
abbrev Qjq:Nat:=28
theorem QmU:Tryd.prog.funcs[Qjq]? =some Tryd.f28:=Tryd.func28
theorem QnV:QaJ Tryd.prog Tryd.f28=some Qmk:=QjC.2
def QkD:CFn Tryd.prog Tryd.f29:=by refine⟨?a,?h⟩;case h=>conv=>lhs;cbv
def QnL:AF:=QkD.1
abbrev Qku:Nat:=29
theorem Qoa:Tryd.prog.funcs[Qku]? =some Tryd.f29:=Tryd.func29
theorem Qp6:QaJ Tryd.prog Tryd.f29=some QnL:=QkD.2
def Qfb:CFn Tryd.prog Tryd.f30:=by refine⟨?a,?h⟩;case h=>conv=>lhs;cbv
def QhV:AF:=Qfb.1
abbrev Qe2:Nat:=30
theorem Qh7:Tryd.prog.funcs[Qe2]? =some Tryd.f30:=Tryd.func30
theorem QiJ:QaJ Tryd.prog Tryd.f30=some QhV:=Qfb.2
def QhM:CFn Tryd.prog Tryd.f31:=by refine⟨?a,?h⟩;case h=>conv=>lhs;cbv
def Qk4:AF:=QhM.1
abbrev Qhw:Nat:=31
theorem QlH:Tryd.prog.funcs[Qhw]? =some Tryd.f31:=Tryd.func31
theorem QmE:QaJ Tryd.prog Tryd.f31=some Qk4:=QhM.2
def Qfd:CFn Tryd.prog Tryd.f32:=by refine⟨?a,?h⟩;case h=>conv=>lhs;cbv
def QeE:AF:=Qfd.1
abbrev Qaz:Nat:=32
theorem Qcg:Tryd.prog.funcs[Qaz]? =some Tryd.f32:=Tryd.func32
theorem QeR:QaJ Tryd.prog Tryd.f32=some QeE:=Qfd.2
abbrev Qjr:Nat:=33
theorem QmV:Tryd.prog.funcs[Qjr]? =some Tryd.f33:=Tryd.func33
def QfI:CFn Tryd.prog Tryd.f34:=by refine⟨?a,?h⟩;case h=>conv=>lhs;cbv
def Qim:AF:=QfI.1
abbrev QdS:Nat:=34
theorem Qi6:Tryd.prog.funcs[QdS]? =some Tryd.f34:=Tryd.func34
theorem QjW:QaJ Tryd.prog Tryd.f34=some Qim:=QfI.2
def QhA:CFn Tryd.prog Tryd.f35:=by refine⟨?a,?h⟩;case h=>conv=>lhs;cbv
def QkS:AF:=QhA.1
abbrev QdI:Nat:=35
theorem Qlv:Tryd.prog.funcs[QdI]? =some Tryd.f35:=Tryd.func35
theorem Qms:QaJ Tryd.prog Tryd.f35=some QkS:=QhA.2
def Qbv:CFn Tryd.prog Tryd.f36:=by refine⟨?a,?h⟩;case h=>conv=>lhs;cbv
def QcH:AF:=Qbv.1
abbrev Qbu:Nat:=36
theorem QcM:Tryd.prog.funcs[Qbu]? =some Tryd.f36:=Tryd.func36
theorem QcU:QaJ Tryd.prog Tryd.f36=some QcH:=Qbv.2
def QcA:CFn Tryd.prog Tryd.f37:=by refine⟨?a,?h⟩;case h=>conv=>lhs;cbv
def QdV:AF:=QcA.1
abbrev Qah:Nat:=37
theorem QaZ:Tryd.prog.funcs[Qah]? =some Tryd.f37:=Tryd.func37
theorem Qcw:QaJ Tryd.prog Tryd.f37=some QdV:=QcA.2
def QcE:CFn Tryd.prog Tryd.f38:=by refine⟨?a,?h⟩;case h=>conv=>lhs;cbv
def Qeh:AF:=QcE.1
abbrev Qaw:Nat:=38
theorem Qbw:Tryd.prog.funcs[Qaw]? =some Tryd.f38:=Tryd.func38
theorem QbD:QaJ Tryd.prog Tryd.f38=some Qeh:=QcE.2
def QfL:CFn Tryd.prog Tryd.f39:=by refine⟨?a,?h⟩;case h=>conv=>lhs;cbv
def Qip:AF:=QfL.1
abbrev QfF:Nat:=39
theorem Qi9:Tryd.prog.funcs[QfF]? =some Tryd.f39:=Tryd.func39
theorem QjZ:QaJ Tryd.prog Tryd.f39=some Qip:=QfL.2
def QhK:CFn Tryd.prog Tryd.f42:=by refine⟨?a,?h⟩;case h=>conv=>lhs;cbv
def Qk2:AF:=QhK.1
abbrev Qhv:Nat:=42
theorem QlF:Tryd.prog.funcs[Qhv]? =some Tryd.f42:=Tryd.func42
theorem QmC:QaJ Tryd.prog Tryd.f42=some Qk2:=QhK.2
def QeH:CFn Tryd.prog Tryd.f43:=by refine⟨?a,?h⟩;case h=>conv=>lhs;cbv
def QgH:AF:=QeH.1
abbrev QeF:Nat:=43
theorem QgV:Tryd.prog.funcs[QeF]? =some Tryd.f43:=Tryd.func43
theorem QhY:QaJ Tryd.prog Tryd.f43=some QgH:=QeH.2
def Qgz:CFn Tryd.prog Tryd.f44:=by refine⟨?a,?h⟩;case h=>conv=>lhs;cbv
def QjT:AF:=Qgz.1
abbrev Qgr:Nat:=44
theorem Qj8:Tryd.prog.funcs[Qgr]? =some Tryd.f44:=Tryd.func44
theorem Qle:QaJ Tryd.prog Tryd.f44=some QjT:=Qgz.2
def QhB:CFn Tryd.prog Tryd.f45:=by refine⟨?a,?h⟩;case h=>conv=>lhs;cbv
def QkT:AF:=QhB.1
abbrev Qhm:Nat:=45
theorem Qlw:Tryd.prog.funcs[Qhm]? =some Tryd.f45:=Tryd.func45
theorem Qmt:QaJ Tryd.prog Tryd.f45=some QkT:=QhB.2
def QfJ:CFn Tryd.prog Tryd.f50:=by refine⟨?a,?h⟩;case h=>conv=>lhs;cbv
def Qin:AF:=QfJ.1
abbrev QfD:Nat:=50
theorem Qi7:Tryd.prog.funcs[QfD]? =some Tryd.f50:=Tryd.func50
theorem QjX:QaJ Tryd.prog Tryd.f50=some Qin:=QfJ.2
def QfK:CFn Tryd.prog Tryd.f51:=by refine⟨?a,?h⟩;case h=>conv=>lhs;cbv
def Qio:AF:=QfK.1
abbrev QfE:Nat:=51
theorem Qi8:Tryd.prog.funcs[QfE]? =some Tryd.f51:=Tryd.func51
theorem QjY:QaJ Tryd.prog Tryd.f51=some Qio:=QfK.2
def QjB:CFn Tryd.prog Tryd.f52:=by refine⟨?a,?h⟩;case h=>conv=>lhs;cbv
def Qmj:AF:=QjB.1
abbrev Qjp:Nat:=52
theorem QmT:Tryd.prog.funcs[Qjp]? =some Tryd.f52:=Tryd.func52
theorem QnU:QaJ Tryd.prog Tryd.f52=some Qmj:=QjB.2
def QhC:CFn Tryd.prog Tryd.f53:=by refine⟨?a,?h⟩;case h=>conv=>lhs;cbv
def QkU:AF:=QhC.1
abbrev Qhn:Nat:=53
theorem Qlx:Tryd.prog.funcs[Qhn]? =some Tryd.f53:=Tryd.func53
theorem Qmu:QaJ Tryd.prog Tryd.f53=some QkU:=QhC.2
def Qcd:CFn Tryd.prog Tryd.f54:=by refine⟨?a,?h⟩;case h=>conv=>lhs;cbv
def QdB:AF:=Qcd.1
abbrev Qb9:Nat:=54
theorem QdD:Tryd.prog.funcs[Qb9]? =some Tryd.f54:=Tryd.func54
theorem QdQ:QaJ Tryd.prog Tryd.f54=some QdB:=Qcd.2
def Qe8:CFn Tryd.prog Tryd.f55:=by refine⟨?a,?h⟩;case h=>conv=>lhs;cbv
def QhS:AF:=Qe8.1
abbrev QeZ:Nat:=55
theorem Qh4:Tryd.prog.funcs[QeZ]? =some Tryd.f55:=Tryd.func55
theorem QiG:QaJ Tryd.prog Tryd.f55=some QhS:=Qe8.2
def Qe7:CFn Tryd.prog Tryd.f56:=by refine⟨?a,?h⟩;case h=>conv=>lhs;cbv
def QhR:AF:=Qe7.1
abbrev QeY:Nat:=56
theorem Qh3:Tryd.prog.funcs[QeY]? =some Tryd.f56:=Tryd.func56
theorem QiF:QaJ Tryd.prog Tryd.f56=some QhR:=Qe7.2
def QkC:CFn Tryd.prog Tryd.f68:=by refine⟨?a,?h⟩;case h=>conv=>lhs;cbv
def QnK:AF:=QkC.1
abbrev Qkt:Nat:=68
theorem Qn9:Tryd.prog.funcs[Qkt]? =some Tryd.f68:=Tryd.func68
theorem Qp5:QaJ Tryd.prog Tryd.f68=some QnK:=QkC.2
def Qeb:CFn Tryd.prog Tryd.f69:=by refine⟨?a,?h⟩;case h=>conv=>lhs;cbv
def Qge:AF:=Qeb.1
abbrev Qd6:Nat:=69
theorem Qgi:Tryd.prog.funcs[Qd6]? =some Tryd.f69:=Tryd.func69
theorem QgJ:QaJ Tryd.prog Tryd.f69=some Qge:=Qeb.2
def Qfc:CFn Tryd.prog Tryd.f70:=by refine⟨?a,?h⟩;case h=>conv=>lhs;cbv
def QhW:AF:=Qfc.1
abbrev Qe3:Nat:=70
theorem Qh8:Tryd.prog.funcs[Qe3]? =some Tryd.f70:=Tryd.func70
theorem QiL:QaJ Tryd.prog Tryd.f70=some QhW:=Qfc.2
def QfO:CFn Tryd.prog Tryd.f71:=by refine⟨?a,?h⟩;case h=>conv=>lhs;cbv
def Qis:AF:=QfO.1
abbrev QfH:Nat:=71
theorem Qjb:Tryd.prog.funcs[QfH]? =some Tryd.f71:=Tryd.func71
theorem Qj1:QaJ Tryd.prog Tryd.f71=some Qis:=QfO.2
def Qa1:CFn Tryd.prog Tryd.f74:=by refine⟨?a,?h⟩;case h=>conv=>lhs;cbv
def QbM:AF:=Qa1.1
abbrev QaB:Nat:=74
theorem QbP:Tryd.prog.funcs[QaB]? =some Tryd.f74:=Tryd.func74
theorem QbV:QaJ Tryd.prog Tryd.f74=some QbM:=Qa1.2
def Qhz:CFn Tryd.prog Tryd.f75:=by refine⟨?a,?h⟩;case h=>conv=>lhs;cbv
def QkR:AF:=Qhz.1
abbrev Qhl:Nat:=75
theorem Qlu:Tryd.prog.funcs[Qhl]? =some Tryd.f75:=Tryd.func75
theorem Qmr:QaJ Tryd.prog Tryd.f75=some QkR:=Qhz.2
def QcF:CFn Tryd.prog Tryd.f76:=by refine⟨?a,?h⟩;case h=>conv=>lhs;cbv
def Qei:AF:=QcF.1
abbrev QcD:Nat:=76
theorem Qer:Tryd.prog.funcs[QcD]? =some Tryd.f76:=Tryd.func76
theorem QeL:QaJ Tryd.prog Tryd.f76=some Qei:=QcF.2
def QaX:CFn Tryd.prog Tryd.f77:=by refine⟨?a,?h⟩;case h=>conv=>lhs;cbv
def QbK:AF:=QaX.1
abbrev QaV:Nat:=77
theorem QbL:Tryd.prog.funcs[QaV]? =some Tryd.f77:=Tryd.func77
theorem QbN:QaJ Tryd.prog Tryd.f77=some QbK:=QaX.2
def Qe9:CFn Tryd.prog Tryd.f84:=by refine⟨?a,?h⟩;case h=>conv=>lhs;cbv
def QhT:AF:=Qe9.1
abbrev Qe0:Nat:=84
theorem Qh5:Tryd.prog.funcs[Qe0]? =some Tryd.f84:=Tryd.func84
theorem QiH:QaJ Tryd.prog Tryd.f84=some QhT:=Qe9.2
def Qa4:CFn Tryd.prog Tryd.f87:=by refine⟨?a,?h⟩;case h=>conv=>lhs;cbv
def QbU:AF:=Qa4.1
abbrev Qb2:Nat:=87
theorem QbX:Tryd.prog.funcs[Qb2]? =some Tryd.f87:=Tryd.func87
theorem QbZ:QaJ Tryd.prog Tryd.f87=some QbU:=Qa4.2
theorem mixed:Tryd.prog.follows .mixedOrders=true:=by decide
end Go.Ab
