/-
  Merged texts, part l.
-/
import Derived.Test.YtohbofilgkdihaaGreatDoorZk
import Derived.Test.YtohbofilgkdihaaGreatDoorProg
set_option linter.all false
namespace Go.Ab
open Go.Proofs
set_option maxRecDepth 100000
abbrev CFn (P:Program) (f:Func):={a:AF // QaA P f=some a}
def QeD:CFn Tryz.prog Tryz.f8:=by refine⟨?a,?h⟩;case h=>conv=>lhs;cbv
def QaP:AF:=QeD.1
abbrev Qev:Nat:=8
theorem QgZ:Tryz.prog.funcs[Qev]? =some Tryz.f8:=Tryz.func8
theorem QhC:QaA Tryz.prog Tryz.f8=some QaP:=QeD.2
def Qhi:CFn Tryz.prog Tryz.f9:=by refine⟨?a,?h⟩;case h=>conv=>lhs;cbv
def Qaw:AF:=Qhi.1
abbrev QcD:Nat:=9
theorem Qgi:Tryz.prog.funcs[QcD]? =some Tryz.f9:=Tryz.func9
theorem Qmx:QaA Tryz.prog Tryz.f9=some Qaw:=Qhi.2
def Qhj:CFn Tryz.prog Tryz.f10:=by refine⟨?a,?h⟩;case h=>conv=>lhs;cbv
def QkZ:AF:=Qhj.1
abbrev QeW:Nat:=10
theorem Qli:Tryz.prog.funcs[QeW]? =some Tryz.f10:=Tryz.func10
theorem Qmy:QaA Tryz.prog Tryz.f10=some QkZ:=Qhj.2
def QlU:CFn Tryz.prog Tryz.f11:=by refine⟨?a,?h⟩;case h=>conv=>lhs;cbv
def Qpt:AF:=QlU.1
abbrev Qex:Nat:=11
theorem QpY:Tryz.prog.funcs[Qex]? =some Tryz.f11:=Tryz.func11
theorem Qr8:QaA Tryz.prog Tryz.f11=some Qpt:=QlU.2
def QiH:CFn Tryz.prog Tryz.f15:=by refine⟨?a,?h⟩;case h=>conv=>lhs;cbv
def Qmr:AF:=QiH.1
abbrev QdZ:Nat:=15
theorem Qm5:Tryz.prog.funcs[QdZ]? =some Tryz.f15:=Tryz.func15
theorem Qoc:QaA Tryz.prog Tryz.f15=some Qmr:=QiH.2
def Qgz:CFn Tryz.prog Tryz.f17:=by refine⟨?a,?h⟩;case h=>conv=>lhs;cbv
def Qju:AF:=Qgz.1
abbrev Qc0:Nat:=17
theorem Qkc:Tryz.prog.funcs[Qc0]? =some Tryz.f17:=Tryz.func17
theorem Qle:QaA Tryz.prog Tryz.f17=some Qju:=Qgz.2
def Qfh:CFn Tryz.prog Tryz.f19:=by refine⟨?a,?h⟩;case h=>conv=>lhs;cbv
def Qhy:AF:=Qfh.1
abbrev Qdk:Nat:=19
theorem QhM:Tryz.prog.funcs[Qdk]? =some Tryz.f19:=Tryz.func19
theorem QiV:QaA Tryz.prog Tryz.f19=some Qhy:=Qfh.2
def QkJ:CFn Tryz.prog Tryz.f21:=by refine⟨?a,?h⟩;case h=>conv=>lhs;cbv
def QnS:AF:=QkJ.1
abbrev QeX:Nat:=21
theorem Qow:Tryz.prog.funcs[QeX]? =some Tryz.f21:=Tryz.func21
theorem QpI:QaA Tryz.prog Tryz.f21=some QnS:=QkJ.2
def QlV:CFn Tryz.prog Tryz.f23:=by refine⟨?a,?h⟩;case h=>conv=>lhs;cbv
def Qpu:AF:=QlV.1
abbrev Qf4:Nat:=23
theorem QpZ:Tryz.prog.funcs[Qf4]? =some Tryz.f23:=Tryz.func23
theorem Qr9:QaA Tryz.prog Tryz.f23=some Qpu:=QlV.2
def Qgu:CFn Tryz.prog Tryz.f24:=by refine⟨?a,?h⟩;case h=>conv=>lhs;cbv
def Qjp:AF:=Qgu.1
abbrev Qgm:Nat:=24
theorem Qj7:Tryz.prog.funcs[Qgm]? =some Tryz.f24:=Tryz.func24
theorem Qk9:QaA Tryz.prog Tryz.f24=some Qjp:=Qgu.2
def Qfj:CFn Tryz.prog Tryz.f26:=by refine⟨?a,?h⟩;case h=>conv=>lhs;cbv
def QhA:AF:=Qfj.1
abbrev Qfe:Nat:=26
theorem QhO:Tryz.prog.funcs[Qfe]? =some Tryz.f26:=Tryz.func26
theorem QiX:QaA Tryz.prog Tryz.f26=some QhA:=Qfj.2
def QiA:CFn Tryz.prog Tryz.f28:=by refine⟨?a,?h⟩;case h=>conv=>lhs;cbv
def Qmk:AF:=QiA.1
abbrev Qil:Nat:=28
theorem QmY:Tryz.prog.funcs[Qil]? =some Tryz.f28:=Tryz.func28
theorem Qn5:QaA Tryz.prog Tryz.f28=some Qmk:=QiA.2
def Qiz:CFn Tryz.prog Tryz.f29:=by refine⟨?a,?h⟩;case h=>conv=>lhs;cbv
def Qmj:AF:=Qiz.1
abbrev QfE:Nat:=29
theorem QmX:Tryz.prog.funcs[QfE]? =some Tryz.f29:=Tryz.func29
theorem Qn4:QaA Tryz.prog Tryz.f29=some Qmj:=Qiz.2
def QfQ:CFn Tryz.prog Tryz.f30:=by refine⟨?a,?h⟩;case h=>conv=>lhs;cbv
def QiS:AF:=QfQ.1
abbrev QdI:Nat:=30
theorem Qi4:Tryz.prog.funcs[QdI]? =some Tryz.f30:=Tryz.func30
theorem QjK:QaA Tryz.prog Tryz.f30=some QiS:=QfQ.2
def Qhp:CFn Tryz.prog Tryz.f31:=by refine⟨?a,?h⟩;case h=>conv=>lhs;cbv
def Qk5:AF:=Qhp.1
abbrev QeZ:Nat:=31
theorem Qln:Tryz.prog.funcs[QeZ]? =some Tryz.f31:=Tryz.func31
theorem QmD:QaA Tryz.prog Tryz.f31=some Qk5:=Qhp.2
def QbP:CFn Tryz.prog Tryz.f32:=by refine⟨?a,?h⟩;case h=>conv=>lhs;cbv
def Qdi:AF:=QbP.1
abbrev QbN:Nat:=32
theorem Qdj:Tryz.prog.funcs[QbN]? =some Tryz.f32:=Tryz.func32
theorem Qdq:QaA Tryz.prog Tryz.f32=some Qdi:=QbP.2
def Qdd:CFn Tryz.prog Tryz.f33:=by refine⟨?a,?h⟩;case h=>conv=>lhs;cbv
def Qfn:AF:=Qdd.1
abbrev Qdc:Nat:=33
theorem Qfp:Tryz.prog.funcs[Qdc]? =some Tryz.f33:=Tryz.func33
theorem Qfs:QaA Tryz.prog Tryz.f33=some Qfn:=Qdd.2
abbrev Qdb:Nat:=36
theorem QcH:Tryz.prog.funcs[Qdb]? =some Tryz.f36:=Tryz.func36
def Qcu:CFn Tryz.prog Tryz.f37:=by refine⟨?a,?h⟩;case h=>conv=>lhs;cbv
def Qd6:AF:=Qcu.1
abbrev Qcq:Nat:=37
theorem Qeb:Tryz.prog.funcs[Qcq]? =some Tryz.f37:=Tryz.func37
theorem Qel:QaA Tryz.prog Tryz.f37=some Qd6:=Qcu.2
def Qix:CFn Tryz.prog Tryz.f38:=by refine⟨?a,?h⟩;case h=>conv=>lhs;cbv
def Qmh:AF:=Qix.1
abbrev Qij:Nat:=38
theorem QmV:Tryz.prog.funcs[Qij]? =some Tryz.f38:=Tryz.func38
theorem Qn2:QaA Tryz.prog Tryz.f38=some Qmh:=Qix.2
def QkH:CFn Tryz.prog Tryz.f39:=by refine⟨?a,?h⟩;case h=>conv=>lhs;cbv
def QnQ:AF:=QkH.1
abbrev Qkw:Nat:=39
theorem Qou:Tryz.prog.funcs[Qkw]? =some Tryz.f39:=Tryz.func39
theorem QpG:QaA Tryz.prog Tryz.f39=some QnQ:=QkH.2
def QiC:CFn Tryz.prog Tryz.f42:=by refine⟨?a,?h⟩;case h=>conv=>lhs;cbv
def Qmm:AF:=QiC.1
abbrev Qin:Nat:=42
theorem Qm0:Tryz.prog.funcs[Qin]? =some Tryz.f42:=Tryz.func42
theorem Qn7:QaA Tryz.prog Tryz.f42=some Qmm:=QiC.2
def Qgx:CFn Tryz.prog Tryz.f43:=by refine⟨?a,?h⟩;case h=>conv=>lhs;cbv
def Qjs:AF:=Qgx.1
abbrev Qee:Nat:=43
theorem Qka:Tryz.prog.funcs[Qee]? =some Tryz.f43:=Tryz.func43
theorem Qlc:QaA Tryz.prog Tryz.f43=some Qjs:=Qgx.2
def Qhk:CFn Tryz.prog Tryz.f44:=by refine⟨?a,?h⟩;case h=>conv=>lhs;cbv
def Qk0:AF:=Qhk.1
abbrev Qg8:Nat:=44
theorem Qlj:Tryz.prog.funcs[Qg8]? =some Tryz.f44:=Tryz.func44
theorem Qmz:QaA Tryz.prog Tryz.f44=some Qk0:=Qhk.2
def Qd4:CFn Tryz.prog Tryz.f45:=by refine⟨?a,?h⟩;case h=>conv=>lhs;cbv
def QgB:AF:=Qd4.1
abbrev QdY:Nat:=45
theorem QgL:Tryz.prog.funcs[QdY]? =some Tryz.f45:=Tryz.func45
theorem QgV:QaA Tryz.prog Tryz.f45=some QgB:=Qd4.2
def Qiy:CFn Tryz.prog Tryz.f46:=by refine⟨?a,?h⟩;case h=>conv=>lhs;cbv
def Qmi:AF:=Qiy.1
abbrev Qik:Nat:=46
theorem QmW:Tryz.prog.funcs[Qik]? =some Tryz.f46:=Tryz.func46
theorem Qn3:QaA Tryz.prog Tryz.f46=some Qmi:=Qiy.2
def QiI:CFn Tryz.prog Tryz.f47:=by refine⟨?a,?h⟩;case h=>conv=>lhs;cbv
def Qms:AF:=QiI.1
abbrev Qiq:Nat:=47
theorem Qm6:Tryz.prog.funcs[Qiq]? =some Tryz.f47:=Tryz.func47
theorem Qod:QaA Tryz.prog Tryz.f47=some Qms:=QiI.2
abbrev Qky:Nat:=48
theorem Qox:Tryz.prog.funcs[Qky]? =some Tryz.f48:=Tryz.func48
def Qgr:CFn Tryz.prog Tryz.f49:=by refine⟨?a,?h⟩;case h=>conv=>lhs;cbv
def Qjm:AF:=Qgr.1
abbrev Qed:Nat:=49
theorem Qj4:Tryz.prog.funcs[Qed]? =some Tryz.f49:=Tryz.func49
theorem Qk6:QaA Tryz.prog Tryz.f49=some Qjm:=Qgr.2
def QlW:CFn Tryz.prog Tryz.f50:=by refine⟨?a,?h⟩;case h=>conv=>lhs;cbv
def QcN:AF:=QlW.1
abbrev QlL:Nat:=50
theorem Qkd:Tryz.prog.funcs[QlL]? =some Tryz.f50:=Tryz.func50
theorem Qsa:QaA Tryz.prog Tryz.f50=some QcN:=QlW.2
def Qiu:CFn Tryz.prog Tryz.f51:=by refine⟨?a,?h⟩;case h=>conv=>lhs;cbv
def Qme:AF:=Qiu.1
abbrev QdX:Nat:=51
theorem QmS:Tryz.prog.funcs[QdX]? =some Tryz.f51:=Tryz.func51
theorem QnZ:QaA Tryz.prog Tryz.f51=some Qme:=Qiu.2
def Qfg:CFn Tryz.prog Tryz.f52:=by refine⟨?a,?h⟩;case h=>conv=>lhs;cbv
def Qhx:AF:=Qfg.1
abbrev Qaj:Nat:=52
theorem Qep:Tryz.prog.funcs[Qaj]? =some Tryz.f52:=Tryz.func52
theorem QiU:QaA Tryz.prog Tryz.f52=some Qhx:=Qfg.2
def QeE:CFn Tryz.prog Tryz.f53:=by refine⟨?a,?h⟩;case h=>conv=>lhs;cbv
def QgT:AF:=QeE.1
abbrev QcV:Nat:=53
theorem Qg0:Tryz.prog.funcs[QcV]? =some Tryz.f53:=Tryz.func53
theorem QhD:QaA Tryz.prog Tryz.f53=some QgT:=QeE.2
def QiG:CFn Tryz.prog Tryz.f54:=by refine⟨?a,?h⟩;case h=>conv=>lhs;cbv
def Qmq:AF:=QiG.1
abbrev QfH:Nat:=54
theorem Qm4:Tryz.prog.funcs[QfH]? =some Tryz.f54:=Tryz.func54
theorem Qob:QaA Tryz.prog Tryz.f54=some Qmq:=QiG.2
def Qhm:CFn Tryz.prog Tryz.f55:=by refine⟨?a,?h⟩;case h=>conv=>lhs;cbv
def Qk2:AF:=Qhm.1
abbrev Qha:Nat:=55
theorem Qll:Tryz.prog.funcs[Qha]? =some Tryz.f55:=Tryz.func55
theorem QmB:QaA Tryz.prog Tryz.f55=some Qk2:=Qhm.2
def QfS:CFn Tryz.prog Tryz.f56:=by refine⟨?a,?h⟩;case h=>conv=>lhs;cbv
def Qfc:AF:=QfS.1
abbrev QaL:Nat:=56
theorem Qcl:Tryz.prog.funcs[QaL]? =some Tryz.f56:=Tryz.func56
theorem Qft:QaA Tryz.prog Tryz.f56=some Qfc:=QfS.2
def QcJ:CFn Tryz.prog Tryz.f59:=by refine⟨?a,?h⟩;case h=>conv=>lhs;cbv
def QeK:AF:=QcJ.1
abbrev QaF:Nat:=59
theorem QbB:Tryz.prog.funcs[QaF]? =some Tryz.f59:=Tryz.func59
theorem QbI:QaA Tryz.prog Tryz.f59=some QeK:=QcJ.2
def QlT:CFn Tryz.prog Tryz.f63:=by refine⟨?a,?h⟩;case h=>conv=>lhs;cbv
def Qps:AF:=QlT.1
abbrev QlK:Nat:=63
theorem QpX:Tryz.prog.funcs[QlK]? =some Tryz.f63:=Tryz.func63
theorem Qr7:QaA Tryz.prog Tryz.f63=some Qps:=QlT.2
def QiD:CFn Tryz.prog Tryz.f66:=by refine⟨?a,?h⟩;case h=>conv=>lhs;cbv
def Qmn:AF:=QiD.1
abbrev Qio:Nat:=66
theorem Qm1:Tryz.prog.funcs[Qio]? =some Tryz.f66:=Tryz.func66
theorem Qn8:QaA Tryz.prog Tryz.f66=some Qmn:=QiD.2
def QkI:CFn Tryz.prog Tryz.f67:=by refine⟨?a,?h⟩;case h=>conv=>lhs;cbv
def QnR:AF:=QkI.1
abbrev Qkx:Nat:=67
theorem Qov:Tryz.prog.funcs[Qkx]? =some Tryz.f67:=Tryz.func67
theorem QpH:QaA Tryz.prog Tryz.f67=some QnR:=QkI.2
def Qgv:CFn Tryz.prog Tryz.f68:=by refine⟨?a,?h⟩;case h=>conv=>lhs;cbv
def Qjq:AF:=Qgv.1
abbrev Qgn:Nat:=68
theorem Qj8:Tryz.prog.funcs[Qgn]? =some Tryz.f68:=Tryz.func68
theorem Qla:QaA Tryz.prog Tryz.f68=some Qjq:=Qgv.2
def Qfk:CFn Tryz.prog Tryz.f69:=by refine⟨?a,?h⟩;case h=>conv=>lhs;cbv
def QhB:AF:=Qfk.1
abbrev Qff:Nat:=69
theorem QhP:Tryz.prog.funcs[Qff]? =some Tryz.f69:=Tryz.func69
theorem QiY:QaA Tryz.prog Tryz.f69=some QhB:=Qfk.2
def Qho:CFn Tryz.prog Tryz.f70:=by refine⟨?a,?h⟩;case h=>conv=>lhs;cbv
def Qk4:AF:=Qho.1
abbrev Qhb:Nat:=70
theorem Qlm:Tryz.prog.funcs[Qhb]? =some Tryz.f70:=Tryz.func70
theorem QmC:QaA Tryz.prog Tryz.f70=some Qk4:=Qho.2
def Qiv:CFn Tryz.prog Tryz.f71:=by refine⟨?a,?h⟩;case h=>conv=>lhs;cbv
def Qmf:AF:=Qiv.1
abbrev Qih:Nat:=71
theorem QmT:Tryz.prog.funcs[Qih]? =some Tryz.f71:=Tryz.func71
theorem Qn0:QaA Tryz.prog Tryz.f71=some Qmf:=Qiv.2
def Qgs:CFn Tryz.prog Tryz.f76:=by refine⟨?a,?h⟩;case h=>conv=>lhs;cbv
def Qjn:AF:=Qgs.1
abbrev Qgk:Nat:=76
theorem Qj5:Tryz.prog.funcs[Qgk]? =some Tryz.f76:=Tryz.func76
theorem Qk7:QaA Tryz.prog Tryz.f76=some Qjn:=Qgs.2
def Qgt:CFn Tryz.prog Tryz.f77:=by refine⟨?a,?h⟩;case h=>conv=>lhs;cbv
def Qjo:AF:=Qgt.1
abbrev Qgl:Nat:=77
theorem Qj6:Tryz.prog.funcs[Qgl]? =some Tryz.f77:=Tryz.func77
theorem Qk8:QaA Tryz.prog Tryz.f77=some Qjo:=Qgt.2
def QkG:CFn Tryz.prog Tryz.f78:=by refine⟨?a,?h⟩;case h=>conv=>lhs;cbv
def QnP:AF:=QkG.1
abbrev Qkv:Nat:=78
theorem Qot:Tryz.prog.funcs[Qkv]? =some Tryz.f78:=Tryz.func78
theorem QpF:QaA Tryz.prog Tryz.f78=some QnP:=QkG.2
def Qiw:CFn Tryz.prog Tryz.f79:=by refine⟨?a,?h⟩;case h=>conv=>lhs;cbv
def Qmg:AF:=Qiw.1
abbrev Qii:Nat:=79
theorem QmU:Tryz.prog.funcs[Qii]? =some Tryz.f79:=Tryz.func79
theorem Qn1:QaA Tryz.prog Tryz.f79=some Qmg:=Qiw.2
def Qch:CFn Tryz.prog Tryz.f80:=by refine⟨?a,?h⟩;case h=>conv=>lhs;cbv
def QdP:AF:=Qch.1
abbrev Qcd:Nat:=80
theorem QdR:Tryz.prog.funcs[Qcd]? =some Tryz.f80:=Tryz.func80
theorem Qd7:QaA Tryz.prog Tryz.f80=some QdP:=Qch.2
def QfN:CFn Tryz.prog Tryz.f81:=by refine⟨?a,?h⟩;case h=>conv=>lhs;cbv
def QiP:AF:=QfN.1
abbrev QfC:Nat:=81
theorem Qi1:Tryz.prog.funcs[QfC]? =some Tryz.f81:=Tryz.func81
theorem QjH:QaA Tryz.prog Tryz.f81=some QiP:=QfN.2
def QfM:CFn Tryz.prog Tryz.f82:=by refine⟨?a,?h⟩;case h=>conv=>lhs;cbv
def QiO:AF:=QfM.1
abbrev QfB:Nat:=82
theorem Qi0:Tryz.prog.funcs[QfB]? =some Tryz.f82:=Tryz.func82
theorem QjG:QaA Tryz.prog Tryz.f82=some QiO:=QfM.2
abbrev QaX:Nat:=83
def QiF:CFn Tryz.prog Tryz.f84:=by refine⟨?a,?h⟩;case h=>conv=>lhs;cbv
def Qmp:AF:=QiF.1
abbrev QfG:Nat:=84
theorem Qm3:Tryz.prog.funcs[QfG]? =some Tryz.f84:=Tryz.func84
theorem Qoa:QaA Tryz.prog Tryz.f84=some Qmp:=QiF.2
def Qhn:CFn Tryz.prog Tryz.f85:=by refine⟨?a,?h⟩;case h=>conv=>lhs;cbv
def Qk3:AF:=Qhn.1
abbrev QeY:Nat:=85
theorem Qgj:Tryz.prog.funcs[QeY]? =some Tryz.f85:=Tryz.func85
theorem QgW:QaA Tryz.prog Tryz.f85=some Qk3:=Qhn.2
def Qfi:CFn Tryz.prog Tryz.f86:=by refine⟨?a,?h⟩;case h=>conv=>lhs;cbv
def Qhz:AF:=Qfi.1
abbrev Qfd:Nat:=86
theorem QhN:Tryz.prog.funcs[Qfd]? =some Tryz.f86:=Tryz.func86
theorem QiW:QaA Tryz.prog Tryz.f86=some Qhz:=Qfi.2
def Qhl:CFn Tryz.prog Tryz.f87:=by refine⟨?a,?h⟩;case h=>conv=>lhs;cbv
def Qk1:AF:=Qhl.1
abbrev Qg9:Nat:=87
theorem Qlk:Tryz.prog.funcs[Qg9]? =some Tryz.f87:=Tryz.func87
theorem QmA:QaA Tryz.prog Tryz.f87=some Qk1:=Qhl.2
def QiB:CFn Tryz.prog Tryz.f99:=by refine⟨?a,?h⟩;case h=>conv=>lhs;cbv
def Qml:AF:=QiB.1
abbrev Qim:Nat:=99
theorem QmZ:Tryz.prog.funcs[Qim]? =some Tryz.f99:=Tryz.func99
theorem Qn6:QaA Tryz.prog Tryz.f99=some Qml:=QiB.2
def QlS:CFn Tryz.prog Tryz.f100:=by refine⟨?a,?h⟩;case h=>conv=>lhs;cbv
def Qpr:AF:=QlS.1
abbrev QlJ:Nat:=100
theorem QpW:Tryz.prog.funcs[QlJ]? =some Tryz.f100:=Tryz.func100
theorem Qr6:QaA Tryz.prog Tryz.f100=some Qpr:=QlS.2
def QiE:CFn Tryz.prog Tryz.f102:=by refine⟨?a,?h⟩;case h=>conv=>lhs;cbv
def Qmo:AF:=QiE.1
abbrev Qip:Nat:=102
theorem Qm2:Tryz.prog.funcs[Qip]? =some Tryz.f102:=Tryz.func102
theorem Qn9:QaA Tryz.prog Tryz.f102=some Qmo:=QiE.2
def QeF:CFn Tryz.prog Tryz.f103:=by refine⟨?a,?h⟩;case h=>conv=>lhs;cbv
def QgU:AF:=QeF.1
abbrev Qew:Nat:=103
theorem Qg1:Tryz.prog.funcs[Qew]? =some Tryz.f103:=Tryz.func103
theorem QhE:QaA Tryz.prog Tryz.f103=some QgU:=QeF.2
def QfR:CFn Tryz.prog Tryz.f104:=by refine⟨?a,?h⟩;case h=>conv=>lhs;cbv
def QiT:AF:=QfR.1
abbrev QfI:Nat:=104
theorem Qi5:Tryz.prog.funcs[QfI]? =some Tryz.f104:=Tryz.func104
theorem QjL:QaA Tryz.prog Tryz.f104=some QiT:=QfR.2
def Qgy:CFn Tryz.prog Tryz.f105:=by refine⟨?a,?h⟩;case h=>conv=>lhs;cbv
def Qjt:AF:=Qgy.1
abbrev Qgp:Nat:=105
theorem Qkb:Tryz.prog.funcs[Qgp]? =some Tryz.f105:=Tryz.func105
theorem Qld:QaA Tryz.prog Tryz.f105=some Qjt:=Qgy.2
def Qa8:CFn Tryz.prog Tryz.f108:=by refine⟨?a,?h⟩;case h=>conv=>lhs;cbv
def QbS:AF:=Qa8.1
abbrev QaM:Nat:=108
theorem QbV:Tryz.prog.funcs[QaM]? =some Tryz.f108:=Tryz.func108
theorem Qb0:QaA Tryz.prog Tryz.f108=some QbS:=Qa8.2
def Qit:CFn Tryz.prog Tryz.f109:=by refine⟨?a,?h⟩;case h=>conv=>lhs;cbv
def Qmd:AF:=Qit.1
abbrev Qig:Nat:=109
theorem QmR:Tryz.prog.funcs[Qig]? =some Tryz.f109:=Tryz.func109
theorem QnY:QaA Tryz.prog Tryz.f109=some Qmd:=Qit.2
def QcK:CFn Tryz.prog Tryz.f110:=by refine⟨?a,?h⟩;case h=>conv=>lhs;cbv
def QeL:AF:=QcK.1
abbrev QcI:Nat:=110
theorem QeS:Tryz.prog.funcs[QcI]? =some Tryz.f110:=Tryz.func110
theorem Qfo:QaA Tryz.prog Tryz.f110=some QeL:=QcK.2
def Qa5:CFn Tryz.prog Tryz.f111:=by refine⟨?a,?h⟩;case h=>conv=>lhs;cbv
def QbQ:AF:=Qa5.1
abbrev Qa3:Nat:=111
theorem QbR:Tryz.prog.funcs[Qa3]? =some Tryz.f111:=Tryz.func111
theorem QbT:QaA Tryz.prog Tryz.f111=some QbQ:=Qa5.2
def Qgw:CFn Tryz.prog Tryz.f118:=by refine⟨?a,?h⟩;case h=>conv=>lhs;cbv
def Qjr:AF:=Qgw.1
abbrev Qgo:Nat:=118
theorem Qj9:Tryz.prog.funcs[Qgo]? =some Tryz.f118:=Tryz.func118
theorem Qlb:QaA Tryz.prog Tryz.f118=some Qjr:=Qgw.2
def QfP:CFn Tryz.prog Tryz.f119:=by refine⟨?a,?h⟩;case h=>conv=>lhs;cbv
def QiR:AF:=QfP.1
abbrev QfF:Nat:=119
theorem Qi3:Tryz.prog.funcs[QfF]? =some Tryz.f119:=Tryz.func119
theorem QjJ:QaA Tryz.prog Tryz.f119=some QiR:=QfP.2
def QfO:CFn Tryz.prog Tryz.f121:=by refine⟨?a,?h⟩;case h=>conv=>lhs;cbv
def QiQ:AF:=QfO.1
abbrev QfD:Nat:=121
theorem Qi2:Tryz.prog.funcs[QfD]? =some Tryz.f121:=Tryz.func121
theorem QjI:QaA Tryz.prog Tryz.f121=some QiQ:=QfO.2
def Qbb:CFn Tryz.prog Tryz.f124:=by refine⟨?a,?h⟩;case h=>conv=>lhs;cbv
def QbZ:AF:=Qbb.1
abbrev Qb9:Nat:=124
theorem Qb3:Tryz.prog.funcs[Qb9]? =some Tryz.f124:=Tryz.func124
theorem Qb6:QaA Tryz.prog Tryz.f124=some QbZ:=Qbb.2
theorem mixed:Tryz.prog.follows .mixedOrders=true:=by decide
end Go.Ab
