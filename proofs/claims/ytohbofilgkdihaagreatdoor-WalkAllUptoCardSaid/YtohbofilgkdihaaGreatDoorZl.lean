/-
  Merged texts, part l.
-/
import Derived.Test.YtohbofilgkdihaaGreatDoorZk
import Derived.Test.YtohbofilgkdihaaGreatDoorProg
set_option linter.all false
namespace Go.Ab
open Go.Proofs
set_option maxRecDepth 100000
abbrev CFn (P:Program) (f:Func):={a:AF // QaB P f=some a}
def Qfz:CFn Tryz.prog Tryz.f3:=by refine⟨?a,?h⟩;case h=>conv=>lhs;cbv
def QiO:AF:=Qfz.1
abbrev Qfj:Nat:=3
theorem Qi3:Tryz.prog.funcs[Qfj]? =some Tryz.f3:=Tryz.func3
theorem QjG:QaB Tryz.prog Tryz.f3=some QiO:=Qfz.2
def Qhf:CFn Tryz.prog Tryz.f9:=by refine⟨?a,?h⟩;case h=>conv=>lhs;cbv
def Qav:AF:=Qhf.1
abbrev Qdi:Nat:=9
theorem Qga:Tryz.prog.funcs[Qdi]? =some Tryz.f9:=Tryz.func9
theorem Qmp:QaB Tryz.prog Tryz.f9=some Qav:=Qhf.2
def Qhg:CFn Tryz.prog Tryz.f10:=by refine⟨?a,?h⟩;case h=>conv=>lhs;cbv
def QkR:AF:=Qhg.1
abbrev Qg3:Nat:=10
theorem Qla:Tryz.prog.funcs[Qg3]? =some Tryz.f10:=Tryz.func10
theorem Qmq:QaB Tryz.prog Tryz.f10=some QkR:=Qhg.2
def QlO:CFn Tryz.prog Tryz.f11:=by refine⟨?a,?h⟩;case h=>conv=>lhs;cbv
def Qpv:AF:=QlO.1
abbrev QfU:Nat:=11
theorem QpW:Tryz.prog.funcs[QfU]? =some Tryz.f11:=Tryz.func11
theorem QrR:QaB Tryz.prog Tryz.f11=some Qpv:=QlO.2
def QkB:CFn Tryz.prog Tryz.f12:=by refine⟨?a,?h⟩;case h=>conv=>lhs;cbv
def QnS:AF:=QkB.1
abbrev Qkq:Nat:=12
theorem QoB:Tryz.prog.funcs[Qkq]? =some Tryz.f12:=Tryz.func12
theorem QpH:QaB Tryz.prog Tryz.f12=some QnS:=QkB.2
def QiB:CFn Tryz.prog Tryz.f13:=by refine⟨?a,?h⟩;case h=>conv=>lhs;cbv
def Qmh:AF:=QiB.1
abbrev Qfo:Nat:=13
theorem QmZ:Tryz.prog.funcs[Qfo]? =some Tryz.f13:=Tryz.func13
theorem Qod:QaB Tryz.prog Tryz.f13=some Qmh:=QiB.2
def Qiq:CFn Tryz.prog Tryz.f14:=by refine⟨?a,?h⟩;case h=>conv=>lhs;cbv
def Ql6:AF:=Qiq.1
abbrev Qh9:Nat:=14
theorem QmO:Tryz.prog.funcs[Qh9]? =some Tryz.f14:=Tryz.func14
theorem Qn2:QaB Tryz.prog Tryz.f14=some Ql6:=Qiq.2
def QiC:CFn Tryz.prog Tryz.f15:=by refine⟨?a,?h⟩;case h=>conv=>lhs;cbv
def Qmi:AF:=QiC.1
abbrev QdP:Nat:=15
theorem Qm0:Tryz.prog.funcs[QdP]? =some Tryz.f15:=Tryz.func15
theorem Qoe:QaB Tryz.prog Tryz.f15=some Qmi:=QiC.2
def Qgq:CFn Tryz.prog Tryz.f17:=by refine⟨?a,?h⟩;case h=>conv=>lhs;cbv
def Qjs:AF:=Qgq.1
abbrev QcU:Nat:=17
theorem Qj5:Tryz.prog.funcs[QcU]? =some Tryz.f17:=Tryz.func17
theorem Qk6:QaB Tryz.prog Tryz.f17=some Qjs:=Qgq.2
def QeX:CFn Tryz.prog Tryz.f19:=by refine⟨?a,?h⟩;case h=>conv=>lhs;cbv
def Qhu:AF:=QeX.1
abbrev Qdc:Nat:=19
theorem QhH:Tryz.prog.funcs[Qdc]? =some Tryz.f19:=Tryz.func19
theorem QiS:QaB Tryz.prog Tryz.f19=some Qhu:=QeX.2
def QkA:CFn Tryz.prog Tryz.f21:=by refine⟨?a,?h⟩;case h=>conv=>lhs;cbv
def QnR:AF:=QkA.1
abbrev QeH:Nat:=21
theorem QoA:Tryz.prog.funcs[QeH]? =some Tryz.f21:=Tryz.func21
theorem QpG:QaB Tryz.prog Tryz.f21=some QnR:=QkA.2
def QeZ:CFn Tryz.prog Tryz.f26:=by refine⟨?a,?h⟩;case h=>conv=>lhs;cbv
def Qhw:AF:=QeZ.1
abbrev QeV:Nat:=26
theorem QhJ:Tryz.prog.funcs[QeV]? =some Tryz.f26:=Tryz.func26
theorem QiU:QaB Tryz.prog Tryz.f26=some Qhw:=QeZ.2
def Qiu:CFn Tryz.prog Tryz.f28:=by refine⟨?a,?h⟩;case h=>conv=>lhs;cbv
def Qma:AF:=Qiu.1
abbrev Qic:Nat:=28
theorem QmS:Tryz.prog.funcs[Qic]? =some Tryz.f28:=Tryz.func28
theorem Qn6:QaB Tryz.prog Tryz.f28=some Qma:=Qiu.2
def Qit:CFn Tryz.prog Tryz.f29:=by refine⟨?a,?h⟩;case h=>conv=>lhs;cbv
def Ql9:AF:=Qit.1
abbrev Qfk:Nat:=29
theorem QmR:Tryz.prog.funcs[Qfk]? =some Tryz.f29:=Tryz.func29
theorem Qn5:QaB Tryz.prog Tryz.f29=some Ql9:=Qit.2
def QfB:CFn Tryz.prog Tryz.f30:=by refine⟨?a,?h⟩;case h=>conv=>lhs;cbv
def QiQ:AF:=QfB.1
abbrev Qdx:Nat:=30
theorem Qi5:Tryz.prog.funcs[Qdx]? =some Tryz.f30:=Tryz.func30
theorem QjI:QaB Tryz.prog Tryz.f30=some QiQ:=QfB.2
def Qhn:CFn Tryz.prog Tryz.f31:=by refine⟨?a,?h⟩;case h=>conv=>lhs;cbv
def QkY:AF:=Qhn.1
abbrev QeJ:Nat:=31
theorem Qlg:Tryz.prog.funcs[QeJ]? =some Tryz.f31:=Tryz.func31
theorem Qmw:QaB Tryz.prog Tryz.f31=some QkY:=Qhn.2
def QbK:CFn Tryz.prog Tryz.f32:=by refine⟨?a,?h⟩;case h=>conv=>lhs;cbv
def Qc9:AF:=QbK.1
abbrev QbI:Nat:=32
theorem Qdb:Tryz.prog.funcs[QbI]? =some Tryz.f32:=Tryz.func32
theorem Qdh:QaB Tryz.prog Tryz.f32=some Qc9:=QbK.2
def Qc5:CFn Tryz.prog Tryz.f33:=by refine⟨?a,?h⟩;case h=>conv=>lhs;cbv
def Qe3:AF:=Qc5.1
abbrev Qc4:Nat:=33
theorem Qe5:Tryz.prog.funcs[Qc4]? =some Tryz.f33:=Tryz.func33
theorem Qe8:QaB Tryz.prog Tryz.f33=some Qe3:=Qc5.2
def Qhl:CFn Tryz.prog Tryz.f34:=by refine⟨?a,?h⟩;case h=>conv=>lhs;cbv
def QkW:AF:=Qhl.1
abbrev Qg7:Nat:=34
theorem Qle:Tryz.prog.funcs[Qg7]? =some Tryz.f34:=Tryz.func34
theorem Qmu:QaB Tryz.prog Tryz.f34=some QkW:=Qhl.2
def QdT:CFn Tryz.prog Tryz.f35:=by refine⟨?a,?h⟩;case h=>conv=>lhs;cbv
def Qgt:AF:=QdT.1
abbrev QaP:Nat:=35
theorem Qdt:Tryz.prog.funcs[QaP]? =some Tryz.f35:=Tryz.func35
theorem QdL:QaB Tryz.prog Tryz.f35=some Qgt:=QdT.2
abbrev Qc3:Nat:=36
theorem QcD:Tryz.prog.funcs[Qc3]? =some Tryz.f36:=Tryz.func36
def Qco:CFn Tryz.prog Tryz.f37:=by refine⟨?a,?h⟩;case h=>conv=>lhs;cbv
def QdV:AF:=Qco.1
abbrev Qck:Nat:=37
theorem QdX:Tryz.prog.funcs[Qck]? =some Tryz.f37:=Tryz.func37
theorem Qd5:QaB Tryz.prog Tryz.f37=some QdV:=Qco.2
def Qir:CFn Tryz.prog Tryz.f38:=by refine⟨?a,?h⟩;case h=>conv=>lhs;cbv
def Ql7:AF:=Qir.1
abbrev Qia:Nat:=38
theorem QmP:Tryz.prog.funcs[Qia]? =some Tryz.f38:=Tryz.func38
theorem Qn3:QaB Tryz.prog Tryz.f38=some Ql7:=Qir.2
def Qky:CFn Tryz.prog Tryz.f39:=by refine⟨?a,?h⟩;case h=>conv=>lhs;cbv
def QnP:AF:=Qky.1
abbrev Qko:Nat:=39
theorem Qoy:Tryz.prog.funcs[Qko]? =some Tryz.f39:=Tryz.func39
theorem QpE:QaB Tryz.prog Tryz.f39=some QnP:=Qky.2
def Qiw:CFn Tryz.prog Tryz.f42:=by refine⟨?a,?h⟩;case h=>conv=>lhs;cbv
def Qmc:AF:=Qiw.1
abbrev Qie:Nat:=42
theorem QmU:Tryz.prog.funcs[Qie]? =some Tryz.f42:=Tryz.func42
theorem Qn8:QaB Tryz.prog Tryz.f42=some Qmc:=Qiw.2
def Qgo:CFn Tryz.prog Tryz.f43:=by refine⟨?a,?h⟩;case h=>conv=>lhs;cbv
def Qjq:AF:=Qgo.1
abbrev Qd0:Nat:=43
theorem Qj3:Tryz.prog.funcs[Qd0]? =some Tryz.f43:=Tryz.func43
theorem Qk4:QaB Tryz.prog Tryz.f43=some Qjq:=Qgo.2
def Qhh:CFn Tryz.prog Tryz.f44:=by refine⟨?a,?h⟩;case h=>conv=>lhs;cbv
def QkS:AF:=Qhh.1
abbrev Qg4:Nat:=44
theorem Qlb:Tryz.prog.funcs[Qg4]? =some Tryz.f44:=Tryz.func44
theorem Qmr:QaB Tryz.prog Tryz.f44=some QkS:=Qhh.2
def QdS:CFn Tryz.prog Tryz.f45:=by refine⟨?a,?h⟩;case h=>conv=>lhs;cbv
def Qgs:AF:=QdS.1
abbrev QdO:Nat:=45
theorem QgF:Tryz.prog.funcs[QdO]? =some Tryz.f45:=Tryz.func45
theorem QgQ:QaB Tryz.prog Tryz.f45=some Qgs:=QdS.2
def Qis:CFn Tryz.prog Tryz.f46:=by refine⟨?a,?h⟩;case h=>conv=>lhs;cbv
def Ql8:AF:=Qis.1
abbrev Qib:Nat:=46
theorem QmQ:Tryz.prog.funcs[Qib]? =some Tryz.f46:=Tryz.func46
theorem Qn4:QaB Tryz.prog Tryz.f46=some Ql8:=Qis.2
def QiD:CFn Tryz.prog Tryz.f47:=by refine⟨?a,?h⟩;case h=>conv=>lhs;cbv
def Qmj:AF:=QiD.1
abbrev Qih:Nat:=47
theorem Qm1:Tryz.prog.funcs[Qih]? =some Tryz.f47:=Tryz.func47
theorem Qof:QaB Tryz.prog Tryz.f47=some Qmj:=QiD.2
abbrev Qkr:Nat:=48
theorem QoC:Tryz.prog.funcs[Qkr]? =some Tryz.f48:=Tryz.func48
def Qgj:CFn Tryz.prog Tryz.f49:=by refine⟨?a,?h⟩;case h=>conv=>lhs;cbv
def Qjl:AF:=Qgj.1
abbrev QdZ:Nat:=49
theorem QjY:Tryz.prog.funcs[QdZ]? =some Tryz.f49:=Tryz.func49
theorem QkZ:QaB Tryz.prog Tryz.f49=some Qjl:=Qgj.2
def Qin:CFn Tryz.prog Tryz.f51:=by refine⟨?a,?h⟩;case h=>conv=>lhs;cbv
def Ql3:AF:=Qin.1
abbrev QdN:Nat:=51
theorem QmL:Tryz.prog.funcs[QdN]? =some Tryz.f51:=Tryz.func51
theorem QnZ:QaB Tryz.prog Tryz.f51=some Ql3:=Qin.2
def Qek:CFn Tryz.prog Tryz.f53:=by refine⟨?a,?h⟩;case h=>conv=>lhs;cbv
def QgN:AF:=Qek.1
abbrev QcP:Nat:=53
theorem QgU:Tryz.prog.funcs[QcP]? =some Tryz.f53:=Tryz.func53
theorem Qhy:QaB Tryz.prog Tryz.f53=some QgN:=Qek.2
def QiA:CFn Tryz.prog Tryz.f54:=by refine⟨?a,?h⟩;case h=>conv=>lhs;cbv
def Qmg:AF:=QiA.1
abbrev Qfn:Nat:=54
theorem QmY:Tryz.prog.funcs[Qfn]? =some Tryz.f54:=Tryz.func54
theorem Qoc:QaB Tryz.prog Tryz.f54=some Qmg:=QiA.2
def Qhj:CFn Tryz.prog Tryz.f55:=by refine⟨?a,?h⟩;case h=>conv=>lhs;cbv
def QkU:AF:=Qhj.1
abbrev Qg6:Nat:=55
theorem Qld:Tryz.prog.funcs[Qg6]? =some Tryz.f55:=Tryz.func55
theorem Qmt:QaB Tryz.prog Tryz.f55=some QkU:=Qhj.2
def QfD:CFn Tryz.prog Tryz.f56:=by refine⟨?a,?h⟩;case h=>conv=>lhs;cbv
def QeT:AF:=QfD.1
abbrev QaK:Nat:=56
theorem Qch:Tryz.prog.funcs[QaK]? =some Tryz.f56:=Tryz.func56
theorem Qe9:QaB Tryz.prog Tryz.f56=some QeT:=QfD.2
def QcF:CFn Tryz.prog Tryz.f59:=by refine⟨?a,?h⟩;case h=>conv=>lhs;cbv
def Qeq:AF:=QcF.1
abbrev QaH:Nat:=59
theorem Qbw:Tryz.prog.funcs[QaH]? =some Tryz.f59:=Tryz.func59
theorem QbG:QaB Tryz.prog Tryz.f59=some Qeq:=QcF.2
def Qdz:CFn Tryz.prog Tryz.f60:=by refine⟨?a,?h⟩;case h=>conv=>lhs;cbv
def Qf5:AF:=Qdz.1
abbrev Qas:Nat:=60
theorem Qdf:Tryz.prog.funcs[Qas]? =some Tryz.f60:=Tryz.func60
theorem Qdp:QaB Tryz.prog Tryz.f60=some Qf5:=Qdz.2
def QlN:CFn Tryz.prog Tryz.f63:=by refine⟨?a,?h⟩;case h=>conv=>lhs;cbv
def Qpu:AF:=QlN.1
abbrev QlD:Nat:=63
theorem QpV:Tryz.prog.funcs[QlD]? =some Tryz.f63:=Tryz.func63
theorem QrQ:QaB Tryz.prog Tryz.f63=some Qpu:=QlN.2
def Qix:CFn Tryz.prog Tryz.f66:=by refine⟨?a,?h⟩;case h=>conv=>lhs;cbv
def Qmd:AF:=Qix.1
abbrev Qif:Nat:=66
theorem QmV:Tryz.prog.funcs[Qif]? =some Tryz.f66:=Tryz.func66
theorem Qn9:QaB Tryz.prog Tryz.f66=some Qmd:=Qix.2
def Qkz:CFn Tryz.prog Tryz.f67:=by refine⟨?a,?h⟩;case h=>conv=>lhs;cbv
def QnQ:AF:=Qkz.1
abbrev Qkp:Nat:=67
theorem Qoz:Tryz.prog.funcs[Qkp]? =some Tryz.f67:=Tryz.func67
theorem QpF:QaB Tryz.prog Tryz.f67=some QnQ:=Qkz.2
def Qgm:CFn Tryz.prog Tryz.f68:=by refine⟨?a,?h⟩;case h=>conv=>lhs;cbv
def Qjo:AF:=Qgm.1
abbrev Qgf:Nat:=68
theorem Qj1:Tryz.prog.funcs[Qgf]? =some Tryz.f68:=Tryz.func68
theorem Qk2:QaB Tryz.prog Tryz.f68=some Qjo:=Qgm.2
def Qe0:CFn Tryz.prog Tryz.f69:=by refine⟨?a,?h⟩;case h=>conv=>lhs;cbv
def Qhx:AF:=Qe0.1
abbrev QeW:Nat:=69
theorem QhK:Tryz.prog.funcs[QeW]? =some Tryz.f69:=Tryz.func69
theorem QiV:QaB Tryz.prog Tryz.f69=some Qhx:=Qe0.2
def Qhm:CFn Tryz.prog Tryz.f70:=by refine⟨?a,?h⟩;case h=>conv=>lhs;cbv
def QkX:AF:=Qhm.1
abbrev Qg8:Nat:=70
theorem Qlf:Tryz.prog.funcs[Qg8]? =some Tryz.f70:=Tryz.func70
theorem Qmv:QaB Tryz.prog Tryz.f70=some QkX:=Qhm.2
def Qio:CFn Tryz.prog Tryz.f71:=by refine⟨?a,?h⟩;case h=>conv=>lhs;cbv
def Ql4:AF:=Qio.1
abbrev Qh7:Nat:=71
theorem QmM:Tryz.prog.funcs[Qh7]? =some Tryz.f71:=Tryz.func71
theorem Qn0:QaB Tryz.prog Tryz.f71=some Ql4:=Qio.2
def Qgk:CFn Tryz.prog Tryz.f76:=by refine⟨?a,?h⟩;case h=>conv=>lhs;cbv
def Qjm:AF:=Qgk.1
abbrev Qgd:Nat:=76
theorem QjZ:Tryz.prog.funcs[Qgd]? =some Tryz.f76:=Tryz.func76
theorem Qk0:QaB Tryz.prog Tryz.f76=some Qjm:=Qgk.2
def Qgl:CFn Tryz.prog Tryz.f77:=by refine⟨?a,?h⟩;case h=>conv=>lhs;cbv
def Qjn:AF:=Qgl.1
abbrev Qge:Nat:=77
theorem Qj0:Tryz.prog.funcs[Qge]? =some Tryz.f77:=Tryz.func77
theorem Qk1:QaB Tryz.prog Tryz.f77=some Qjn:=Qgl.2
def Qkx:CFn Tryz.prog Tryz.f78:=by refine⟨?a,?h⟩;case h=>conv=>lhs;cbv
def QnO:AF:=Qkx.1
abbrev Qkn:Nat:=78
theorem Qox:Tryz.prog.funcs[Qkn]? =some Tryz.f78:=Tryz.func78
theorem QpD:QaB Tryz.prog Tryz.f78=some QnO:=Qkx.2
def Qip:CFn Tryz.prog Tryz.f79:=by refine⟨?a,?h⟩;case h=>conv=>lhs;cbv
def Ql5:AF:=Qip.1
abbrev Qh8:Nat:=79
theorem QmN:Tryz.prog.funcs[Qh8]? =some Tryz.f79:=Tryz.func79
theorem Qn1:QaB Tryz.prog Tryz.f79=some Ql5:=Qip.2
def Qcd:CFn Tryz.prog Tryz.f80:=by refine⟨?a,?h⟩;case h=>conv=>lhs;cbv
def QdG:AF:=Qcd.1
abbrev Qb9:Nat:=80
theorem QdI:Tryz.prog.funcs[Qb9]? =some Tryz.f80:=Tryz.func80
theorem QdW:QaB Tryz.prog Tryz.f80=some QdG:=Qcd.2
def Qfx:CFn Tryz.prog Tryz.f81:=by refine⟨?a,?h⟩;case h=>conv=>lhs;cbv
def QiM:AF:=Qfx.1
abbrev Qfh:Nat:=81
theorem Qi1:Tryz.prog.funcs[Qfh]? =some Tryz.f81:=Tryz.func81
theorem QjE:QaB Tryz.prog Tryz.f81=some QiM:=Qfx.2
def Qfw:CFn Tryz.prog Tryz.f82:=by refine⟨?a,?h⟩;case h=>conv=>lhs;cbv
def QiL:AF:=Qfw.1
abbrev Qfg:Nat:=82
theorem Qi0:Tryz.prog.funcs[Qfg]? =some Tryz.f82:=Tryz.func82
theorem QjD:QaB Tryz.prog Tryz.f82=some QiL:=Qfw.2
def Qiz:CFn Tryz.prog Tryz.f84:=by refine⟨?a,?h⟩;case h=>conv=>lhs;cbv
def Qmf:AF:=Qiz.1
abbrev Qfm:Nat:=84
theorem QmX:Tryz.prog.funcs[Qfm]? =some Tryz.f84:=Tryz.func84
theorem Qob:QaB Tryz.prog Tryz.f84=some Qmf:=Qiz.2
def Qhk:CFn Tryz.prog Tryz.f85:=by refine⟨?a,?h⟩;case h=>conv=>lhs;cbv
def QkV:AF:=Qhk.1
abbrev QeI:Nat:=85
theorem Qgb:Tryz.prog.funcs[QeI]? =some Tryz.f85:=Tryz.func85
theorem QgR:QaB Tryz.prog Tryz.f85=some QkV:=Qhk.2
def QeY:CFn Tryz.prog Tryz.f86:=by refine⟨?a,?h⟩;case h=>conv=>lhs;cbv
def Qhv:AF:=QeY.1
abbrev QeU:Nat:=86
theorem QhI:Tryz.prog.funcs[QeU]? =some Tryz.f86:=Tryz.func86
theorem QiT:QaB Tryz.prog Tryz.f86=some Qhv:=QeY.2
def Qhi:CFn Tryz.prog Tryz.f87:=by refine⟨?a,?h⟩;case h=>conv=>lhs;cbv
def QkT:AF:=Qhi.1
abbrev Qg5:Nat:=87
theorem Qlc:Tryz.prog.funcs[Qg5]? =some Tryz.f87:=Tryz.func87
theorem Qms:QaB Tryz.prog Tryz.f87=some QkT:=Qhi.2
def Qiv:CFn Tryz.prog Tryz.f99:=by refine⟨?a,?h⟩;case h=>conv=>lhs;cbv
def Qmb:AF:=Qiv.1
abbrev Qid:Nat:=99
theorem QmT:Tryz.prog.funcs[Qid]? =some Tryz.f99:=Tryz.func99
theorem Qn7:QaB Tryz.prog Tryz.f99=some Qmb:=Qiv.2
def QlM:CFn Tryz.prog Tryz.f100:=by refine⟨?a,?h⟩;case h=>conv=>lhs;cbv
def Qpt:AF:=QlM.1
abbrev QlC:Nat:=100
theorem QpU:Tryz.prog.funcs[QlC]? =some Tryz.f100:=Tryz.func100
theorem QrP:QaB Tryz.prog Tryz.f100=some Qpt:=QlM.2
def Qiy:CFn Tryz.prog Tryz.f102:=by refine⟨?a,?h⟩;case h=>conv=>lhs;cbv
def Qme:AF:=Qiy.1
abbrev Qig:Nat:=102
theorem QmW:Tryz.prog.funcs[Qig]? =some Tryz.f102:=Tryz.func102
theorem Qoa:QaB Tryz.prog Tryz.f102=some Qme:=Qiy.2
def Qel:CFn Tryz.prog Tryz.f103:=by refine⟨?a,?h⟩;case h=>conv=>lhs;cbv
def QgO:AF:=Qel.1
abbrev Qee:Nat:=103
theorem QgV:Tryz.prog.funcs[Qee]? =some Tryz.f103:=Tryz.func103
theorem Qhz:QaB Tryz.prog Tryz.f103=some QgO:=Qel.2
def QfC:CFn Tryz.prog Tryz.f104:=by refine⟨?a,?h⟩;case h=>conv=>lhs;cbv
def QiR:AF:=QfC.1
abbrev Qfp:Nat:=104
theorem Qi6:Tryz.prog.funcs[Qfp]? =some Tryz.f104:=Tryz.func104
theorem QjJ:QaB Tryz.prog Tryz.f104=some QiR:=QfC.2
def Qgp:CFn Tryz.prog Tryz.f105:=by refine⟨?a,?h⟩;case h=>conv=>lhs;cbv
def Qjr:AF:=Qgp.1
abbrev Qgh:Nat:=105
theorem Qj4:Tryz.prog.funcs[Qgh]? =some Tryz.f105:=Tryz.func105
theorem Qk5:QaB Tryz.prog Tryz.f105=some Qjr:=Qgp.2
def Qa5:CFn Tryz.prog Tryz.f108:=by refine⟨?a,?h⟩;case h=>conv=>lhs;cbv
def QbO:AF:=Qa5.1
abbrev QaL:Nat:=108
theorem QbR:Tryz.prog.funcs[QaL]? =some Tryz.f108:=Tryz.func108
theorem QbW:QaB Tryz.prog Tryz.f108=some QbO:=Qa5.2
def Qim:CFn Tryz.prog Tryz.f109:=by refine⟨?a,?h⟩;case h=>conv=>lhs;cbv
def Ql2:AF:=Qim.1
abbrev Qh6:Nat:=109
theorem QmK:Tryz.prog.funcs[Qh6]? =some Tryz.f109:=Tryz.func109
theorem QnY:QaB Tryz.prog Tryz.f109=some Ql2:=Qim.2
def QcG:CFn Tryz.prog Tryz.f110:=by refine⟨?a,?h⟩;case h=>conv=>lhs;cbv
def Qer:AF:=QcG.1
abbrev QcE:Nat:=110
theorem QeC:Tryz.prog.funcs[QcE]? =some Tryz.f110:=Tryz.func110
theorem Qe4:QaB Tryz.prog Tryz.f110=some Qer:=QcG.2
def Qa2:CFn Tryz.prog Tryz.f111:=by refine⟨?a,?h⟩;case h=>conv=>lhs;cbv
def QbL:AF:=Qa2.1
abbrev Qa0:Nat:=111
theorem QbM:Tryz.prog.funcs[Qa0]? =some Tryz.f111:=Tryz.func111
theorem QbP:QaB Tryz.prog Tryz.f111=some QbL:=Qa2.2
def Qgn:CFn Tryz.prog Tryz.f118:=by refine⟨?a,?h⟩;case h=>conv=>lhs;cbv
def Qjp:AF:=Qgn.1
abbrev Qgg:Nat:=118
theorem Qj2:Tryz.prog.funcs[Qgg]? =some Tryz.f118:=Tryz.func118
theorem Qk3:QaB Tryz.prog Tryz.f118=some Qjp:=Qgn.2
def QfA:CFn Tryz.prog Tryz.f119:=by refine⟨?a,?h⟩;case h=>conv=>lhs;cbv
def QiP:AF:=QfA.1
abbrev Qfl:Nat:=119
theorem Qi4:Tryz.prog.funcs[Qfl]? =some Tryz.f119:=Tryz.func119
theorem QjH:QaB Tryz.prog Tryz.f119=some QiP:=QfA.2
def Qfy:CFn Tryz.prog Tryz.f121:=by refine⟨?a,?h⟩;case h=>conv=>lhs;cbv
def QiN:AF:=Qfy.1
abbrev Qfi:Nat:=121
theorem Qi2:Tryz.prog.funcs[Qfi]? =some Tryz.f121:=Tryz.func121
theorem QjF:QaB Tryz.prog Tryz.f121=some QiN:=Qfy.2
def Qa7:CFn Tryz.prog Tryz.f124:=by refine⟨?a,?h⟩;case h=>conv=>lhs;cbv
def QbV:AF:=Qa7.1
abbrev Qb3:Nat:=124
theorem QbX:Tryz.prog.funcs[Qb3]? =some Tryz.f124:=Tryz.func124
theorem Qb0:QaB Tryz.prog Tryz.f124=some QbV:=Qa7.2
theorem mixed:Tryz.prog.follows .mixedOrders=true:=by decide
end Go.Ab
