/-
  Merged texts, part l.
-/
import Derived.Test.YtohbofilgkdihaaGreatDoorZk
import Derived.Test.YtohbofilgkdihaaGreatDoorProg
set_option linter.all false
namespace Go.Ab
open Go.Proofs
set_option maxRecDepth 100000
abbrev CFn (P:Program) (f:Func):={a:AF // QaC P f=some a}
def Qeg:CFn Tryz.prog Tryz.f4:=by refine⟨?a,?h⟩;case h=>conv=>lhs;cbv
def QgG:AF:=Qeg.1
abbrev Qd9:Nat:=4
theorem QgO:Tryz.prog.funcs[Qd9]? =some Tryz.f4:=Tryz.func4
theorem Qhy:QaC Tryz.prog Tryz.f4=some QgG:=Qeg.2
def Qhb:CFn Tryz.prog Tryz.f9:=by refine⟨?a,?h⟩;case h=>conv=>lhs;cbv
def Qaw:AF:=Qhb.1
abbrev Qde:Nat:=9
theorem Qf5:Tryz.prog.funcs[Qde]? =some Tryz.f9:=Tryz.func9
theorem Qmj:QaC Tryz.prog Tryz.f9=some Qaw:=Qhb.2
def Qhc:CFn Tryz.prog Tryz.f10:=by refine⟨?a,?h⟩;case h=>conv=>lhs;cbv
def QkJ:AF:=Qhc.1
abbrev QgY:Nat:=10
theorem Qk3:Tryz.prog.funcs[QgY]? =some Tryz.f10:=Tryz.func10
theorem Qmk:QaC Tryz.prog Tryz.f10=some QkJ:=Qhc.2
def QlI:CFn Tryz.prog Tryz.f11:=by refine⟨?a,?h⟩;case h=>conv=>lhs;cbv
def Qpj:AF:=QlI.1
abbrev QfP:Nat:=11
theorem QpJ:Tryz.prog.funcs[QfP]? =some Tryz.f11:=Tryz.func11
theorem QrH:QaC Tryz.prog Tryz.f11=some Qpj:=QlI.2
def QiA:CFn Tryz.prog Tryz.f15:=by refine⟨?a,?h⟩;case h=>conv=>lhs;cbv
def Qma:AF:=QiA.1
abbrev QdK:Nat:=15
theorem QmT:Tryz.prog.funcs[QdK]? =some Tryz.f15:=Tryz.func15
theorem Qn1:QaC Tryz.prog Tryz.f15=some Qma:=QiA.2
def Qhi:CFn Tryz.prog Tryz.f16:=by refine⟨?a,?h⟩;case h=>conv=>lhs;cbv
def QkP:AF:=Qhi.1
abbrev Qg2:Nat:=16
theorem Qk8:Tryz.prog.funcs[Qg2]? =some Tryz.f16:=Tryz.func16
theorem Qmp:QaC Tryz.prog Tryz.f16=some QkP:=Qhi.2
def Qgl:CFn Tryz.prog Tryz.f17:=by refine⟨?a,?h⟩;case h=>conv=>lhs;cbv
def Qjn:AF:=Qgl.1
abbrev QcS:Nat:=17
theorem Qj0:Tryz.prog.funcs[QcS]? =some Tryz.f17:=Tryz.func17
theorem QkZ:QaC Tryz.prog Tryz.f17=some Qjn:=Qgl.2
def Qfv:CFn Tryz.prog Tryz.f18:=by refine⟨?a,?h⟩;case h=>conv=>lhs;cbv
def QiL:AF:=Qfv.1
abbrev Qfk:Nat:=18
theorem QiZ:Tryz.prog.funcs[Qfk]? =some Tryz.f18:=Tryz.func18
theorem QjB:QaC Tryz.prog Tryz.f18=some QiL:=Qfv.2
def QeU:CFn Tryz.prog Tryz.f19:=by refine⟨?a,?h⟩;case h=>conv=>lhs;cbv
def Qhs:AF:=QeU.1
abbrev Qcf:Nat:=19
theorem QhI:Tryz.prog.funcs[Qcf]? =some Tryz.f19:=Tryz.func19
theorem QiO:QaC Tryz.prog Tryz.f19=some Qhs:=QeU.2
def Qks:CFn Tryz.prog Tryz.f21:=by refine⟨?a,?h⟩;case h=>conv=>lhs;cbv
def QnH:AF:=Qks.1
abbrev QeD:Nat:=21
theorem Qon:Tryz.prog.funcs[QeD]? =some Tryz.f21:=Tryz.func21
theorem Qpu:QaC Tryz.prog Tryz.f21=some QnH:=Qks.2
def QeW:CFn Tryz.prog Tryz.f26:=by refine⟨?a,?h⟩;case h=>conv=>lhs;cbv
def Qhu:AF:=QeW.1
abbrev QeS:Nat:=26
theorem QhK:Tryz.prog.funcs[QeS]? =some Tryz.f26:=Tryz.func26
theorem QiQ:QaC Tryz.prog Tryz.f26=some Qhu:=QeW.2
def Qit:CFn Tryz.prog Tryz.f28:=by refine⟨?a,?h⟩;case h=>conv=>lhs;cbv
def Ql3:AF:=Qit.1
abbrev Qic:Nat:=28
theorem QmM:Tryz.prog.funcs[Qic]? =some Tryz.f28:=Tryz.func28
theorem QnU:QaC Tryz.prog Tryz.f28=some Ql3:=Qit.2
def Qis:CFn Tryz.prog Tryz.f29:=by refine⟨?a,?h⟩;case h=>conv=>lhs;cbv
def Ql2:AF:=Qis.1
abbrev Qfg:Nat:=29
theorem QmL:Tryz.prog.funcs[Qfg]? =some Tryz.f29:=Tryz.func29
theorem QnT:QaC Tryz.prog Tryz.f29=some Ql2:=Qis.2
def Qfw:CFn Tryz.prog Tryz.f30:=by refine⟨?a,?h⟩;case h=>conv=>lhs;cbv
def QiM:AF:=Qfw.1
abbrev Qds:Nat:=30
theorem Qi0:Tryz.prog.funcs[Qds]? =some Tryz.f30:=Tryz.func30
theorem QjC:QaC Tryz.prog Tryz.f30=some QiM:=Qfw.2
def Qhk:CFn Tryz.prog Tryz.f31:=by refine⟨?a,?h⟩;case h=>conv=>lhs;cbv
def QkR:AF:=Qhk.1
abbrev QeG:Nat:=31
theorem Qla:Tryz.prog.funcs[QeG]? =some Tryz.f31:=Tryz.func31
theorem Qmr:QaC Tryz.prog Tryz.f31=some QkR:=Qhk.2
def QbI:CFn Tryz.prog Tryz.f32:=by refine⟨?a,?h⟩;case h=>conv=>lhs;cbv
def Qc8:AF:=QbI.1
abbrev QbG:Nat:=32
theorem Qc9:Tryz.prog.funcs[QbG]? =some Tryz.f32:=Tryz.func32
theorem Qdd:QaC Tryz.prog Tryz.f32=some Qc8:=QbI.2
def Qc4:CFn Tryz.prog Tryz.f33:=by refine⟨?a,?h⟩;case h=>conv=>lhs;cbv
def Qe0:AF:=Qc4.1
abbrev Qc3:Nat:=33
theorem Qe2:Tryz.prog.funcs[Qc3]? =some Tryz.f33:=Tryz.func33
theorem Qe5:QaC Tryz.prog Tryz.f33=some Qe0:=Qc4.2
def Qhh:CFn Tryz.prog Tryz.f34:=by refine⟨?a,?h⟩;case h=>conv=>lhs;cbv
def QkO:AF:=Qhh.1
abbrev QeF:Nat:=34
theorem Qk7:Tryz.prog.funcs[QeF]? =some Tryz.f34:=Tryz.func34
theorem Qmo:QaC Tryz.prog Tryz.f34=some QkO:=Qhh.2
abbrev Qc2:Nat:=36
theorem QcA:Tryz.prog.funcs[Qc2]? =some Tryz.f36:=Tryz.func36
def Qco:CFn Tryz.prog Tryz.f37:=by refine⟨?a,?h⟩;case h=>conv=>lhs;cbv
def QdP:AF:=Qco.1
abbrev Qck:Nat:=37
theorem QdR:Tryz.prog.funcs[Qck]? =some Tryz.f37:=Tryz.func37
theorem QdZ:QaC Tryz.prog Tryz.f37=some QdP:=Qco.2
def Qiq:CFn Tryz.prog Tryz.f38:=by refine⟨?a,?h⟩;case h=>conv=>lhs;cbv
def Ql0:AF:=Qiq.1
abbrev Qia:Nat:=38
theorem QmJ:Tryz.prog.funcs[Qia]? =some Tryz.f38:=Tryz.func38
theorem QnR:QaC Tryz.prog Tryz.f38=some Ql0:=Qiq.2
def Qkq:CFn Tryz.prog Tryz.f39:=by refine⟨?a,?h⟩;case h=>conv=>lhs;cbv
def QnF:AF:=Qkq.1
abbrev QgA:Nat:=39
theorem Qol:Tryz.prog.funcs[QgA]? =some Tryz.f39:=Tryz.func39
theorem Qps:QaC Tryz.prog Tryz.f39=some QnF:=Qkq.2
def Qiv:CFn Tryz.prog Tryz.f42:=by refine⟨?a,?h⟩;case h=>conv=>lhs;cbv
def Ql5:AF:=Qiv.1
abbrev Qie:Nat:=42
theorem QmO:Tryz.prog.funcs[Qie]? =some Tryz.f42:=Tryz.func42
theorem QnW:QaC Tryz.prog Tryz.f42=some Ql5:=Qiv.2
def Qgj:CFn Tryz.prog Tryz.f43:=by refine⟨?a,?h⟩;case h=>conv=>lhs;cbv
def Qjl:AF:=Qgj.1
abbrev QdU:Nat:=43
theorem QjY:Tryz.prog.funcs[QdU]? =some Tryz.f43:=Tryz.func43
theorem QkX:QaC Tryz.prog Tryz.f43=some Qjl:=Qgj.2
def Qhd:CFn Tryz.prog Tryz.f44:=by refine⟨?a,?h⟩;case h=>conv=>lhs;cbv
def QkK:AF:=Qhd.1
abbrev QgZ:Nat:=44
theorem Qk4:Tryz.prog.funcs[QgZ]? =some Tryz.f44:=Tryz.func44
theorem Qml:QaC Tryz.prog Tryz.f44=some QkK:=Qhd.2
def QdN:CFn Tryz.prog Tryz.f45:=by refine⟨?a,?h⟩;case h=>conv=>lhs;cbv
def Qgn:AF:=QdN.1
abbrev QdJ:Nat:=45
theorem Qgx:Tryz.prog.funcs[QdJ]? =some Tryz.f45:=Tryz.func45
theorem QgK:QaC Tryz.prog Tryz.f45=some Qgn:=QdN.2
def Qir:CFn Tryz.prog Tryz.f46:=by refine⟨?a,?h⟩;case h=>conv=>lhs;cbv
def Ql1:AF:=Qir.1
abbrev Qib:Nat:=46
theorem QmK:Tryz.prog.funcs[Qib]? =some Tryz.f46:=Tryz.func46
theorem QnS:QaC Tryz.prog Tryz.f46=some Ql1:=Qir.2
def QiB:CFn Tryz.prog Tryz.f47:=by refine⟨?a,?h⟩;case h=>conv=>lhs;cbv
def Qmb:AF:=QiB.1
abbrev Qih:Nat:=47
theorem QmU:Tryz.prog.funcs[Qih]? =some Tryz.f47:=Tryz.func47
theorem Qn2:QaC Tryz.prog Tryz.f47=some Qmb:=QiB.2
abbrev Qkj:Nat:=48
theorem Qoo:Tryz.prog.funcs[Qkj]? =some Tryz.f48:=Tryz.func48
def Qge:CFn Tryz.prog Tryz.f49:=by refine⟨?a,?h⟩;case h=>conv=>lhs;cbv
def Qjg:AF:=Qge.1
abbrev QdT:Nat:=49
theorem QjT:Tryz.prog.funcs[QdT]? =some Tryz.f49:=Tryz.func49
theorem QkS:QaC Tryz.prog Tryz.f49=some Qjg:=Qge.2
def Qin:CFn Tryz.prog Tryz.f51:=by refine⟨?a,?h⟩;case h=>conv=>lhs;cbv
def QlX:AF:=Qin.1
abbrev QdI:Nat:=51
theorem QmG:Tryz.prog.funcs[QdI]? =some Tryz.f51:=Tryz.func51
theorem QnO:QaC Tryz.prog Tryz.f51=some QlX:=Qin.2
def Qeh:CFn Tryz.prog Tryz.f53:=by refine⟨?a,?h⟩;case h=>conv=>lhs;cbv
def QgH:AF:=Qeh.1
abbrev QcN:Nat:=53
theorem QgP:Tryz.prog.funcs[QcN]? =some Tryz.f53:=Tryz.func53
theorem Qhz:QaC Tryz.prog Tryz.f53=some QgH:=Qeh.2
def Qiz:CFn Tryz.prog Tryz.f54:=by refine⟨?a,?h⟩;case h=>conv=>lhs;cbv
def Ql9:AF:=Qiz.1
abbrev Qfj:Nat:=54
theorem QmS:Tryz.prog.funcs[Qfj]? =some Tryz.f54:=Tryz.func54
theorem Qn0:QaC Tryz.prog Tryz.f54=some Ql9:=Qiz.2
def Qhf:CFn Tryz.prog Tryz.f55:=by refine⟨?a,?h⟩;case h=>conv=>lhs;cbv
def QkM:AF:=Qhf.1
abbrev Qg1:Nat:=55
theorem Qk6:Tryz.prog.funcs[Qg1]? =some Tryz.f55:=Tryz.func55
theorem Qmn:QaC Tryz.prog Tryz.f55=some QkM:=Qhf.2
def Qfy:CFn Tryz.prog Tryz.f56:=by refine⟨?a,?h⟩;case h=>conv=>lhs;cbv
def QeQ:AF:=Qfy.1
abbrev QaL:Nat:=56
theorem Qce:Tryz.prog.funcs[QaL]? =some Tryz.f56:=Tryz.func56
theorem Qe6:QaC Tryz.prog Tryz.f56=some QeQ:=Qfy.2
def QcC:CFn Tryz.prog Tryz.f59:=by refine⟨?a,?h⟩;case h=>conv=>lhs;cbv
def Qen:AF:=QcC.1
abbrev QaG:Nat:=59
theorem Qbx:Tryz.prog.funcs[QaG]? =some Tryz.f59:=Tryz.func59
theorem QbE:QaC Tryz.prog Tryz.f59=some Qen:=QcC.2
def Qdu:CFn Tryz.prog Tryz.f60:=by refine⟨?a,?h⟩;case h=>conv=>lhs;cbv
def Qf0:AF:=Qdu.1
abbrev Qat:Nat:=60
theorem Qdb:Tryz.prog.funcs[Qat]? =some Tryz.f60:=Tryz.func60
theorem Qdl:QaC Tryz.prog Tryz.f60=some Qf0:=Qdu.2
def QlH:CFn Tryz.prog Tryz.f63:=by refine⟨?a,?h⟩;case h=>conv=>lhs;cbv
def Qpi:AF:=QlH.1
abbrev Qly:Nat:=63
theorem QpI:Tryz.prog.funcs[Qly]? =some Tryz.f63:=Tryz.func63
theorem QrG:QaC Tryz.prog Tryz.f63=some Qpi:=QlH.2
def Qiw:CFn Tryz.prog Tryz.f66:=by refine⟨?a,?h⟩;case h=>conv=>lhs;cbv
def Ql6:AF:=Qiw.1
abbrev Qif:Nat:=66
theorem QmP:Tryz.prog.funcs[Qif]? =some Tryz.f66:=Tryz.func66
theorem QnX:QaC Tryz.prog Tryz.f66=some Ql6:=Qiw.2
def Qkr:CFn Tryz.prog Tryz.f67:=by refine⟨?a,?h⟩;case h=>conv=>lhs;cbv
def QnG:AF:=Qkr.1
abbrev Qki:Nat:=67
theorem Qom:Tryz.prog.funcs[Qki]? =some Tryz.f67:=Tryz.func67
theorem Qpt:QaC Tryz.prog Tryz.f67=some QnG:=Qkr.2
def Qgh:CFn Tryz.prog Tryz.f68:=by refine⟨?a,?h⟩;case h=>conv=>lhs;cbv
def Qjj:AF:=Qgh.1
abbrev Qga:Nat:=68
theorem QjW:Tryz.prog.funcs[Qga]? =some Tryz.f68:=Tryz.func68
theorem QkV:QaC Tryz.prog Tryz.f68=some Qjj:=Qgh.2
def QeX:CFn Tryz.prog Tryz.f69:=by refine⟨?a,?h⟩;case h=>conv=>lhs;cbv
def Qhv:AF:=QeX.1
abbrev QeT:Nat:=69
theorem QhL:Tryz.prog.funcs[QeT]? =some Tryz.f69:=Tryz.func69
theorem QiR:QaC Tryz.prog Tryz.f69=some Qhv:=QeX.2
def Qhj:CFn Tryz.prog Tryz.f70:=by refine⟨?a,?h⟩;case h=>conv=>lhs;cbv
def QkQ:AF:=Qhj.1
abbrev Qg3:Nat:=70
theorem Qk9:Tryz.prog.funcs[Qg3]? =some Tryz.f70:=Tryz.func70
theorem Qmq:QaC Tryz.prog Tryz.f70=some QkQ:=Qhj.2
def Qio:CFn Tryz.prog Tryz.f71:=by refine⟨?a,?h⟩;case h=>conv=>lhs;cbv
def QlY:AF:=Qio.1
abbrev Qh8:Nat:=71
theorem QmH:Tryz.prog.funcs[Qh8]? =some Tryz.f71:=Tryz.func71
theorem QnP:QaC Tryz.prog Tryz.f71=some QlY:=Qio.2
def Qgf:CFn Tryz.prog Tryz.f76:=by refine⟨?a,?h⟩;case h=>conv=>lhs;cbv
def Qjh:AF:=Qgf.1
abbrev Qf8:Nat:=76
theorem QjU:Tryz.prog.funcs[Qf8]? =some Tryz.f76:=Tryz.func76
theorem QkT:QaC Tryz.prog Tryz.f76=some Qjh:=Qgf.2
def Qgg:CFn Tryz.prog Tryz.f77:=by refine⟨?a,?h⟩;case h=>conv=>lhs;cbv
def Qji:AF:=Qgg.1
abbrev Qf9:Nat:=77
theorem QjV:Tryz.prog.funcs[Qf9]? =some Tryz.f77:=Tryz.func77
theorem QkU:QaC Tryz.prog Tryz.f77=some Qji:=Qgg.2
def Qkp:CFn Tryz.prog Tryz.f78:=by refine⟨?a,?h⟩;case h=>conv=>lhs;cbv
def QnE:AF:=Qkp.1
abbrev Qkh:Nat:=78
theorem Qok:Tryz.prog.funcs[Qkh]? =some Tryz.f78:=Tryz.func78
theorem Qpr:QaC Tryz.prog Tryz.f78=some QnE:=Qkp.2
def Qip:CFn Tryz.prog Tryz.f79:=by refine⟨?a,?h⟩;case h=>conv=>lhs;cbv
def QlZ:AF:=Qip.1
abbrev Qh9:Nat:=79
theorem QmI:Tryz.prog.funcs[Qh9]? =some Tryz.f79:=Tryz.func79
theorem QnQ:QaC Tryz.prog Tryz.f79=some QlZ:=Qip.2
def Qca:CFn Tryz.prog Tryz.f80:=by refine⟨?a,?h⟩;case h=>conv=>lhs;cbv
def QdB:AF:=Qca.1
abbrev Qb6:Nat:=80
theorem QdD:Tryz.prog.funcs[Qb6]? =some Tryz.f80:=Tryz.func80
theorem QdQ:QaC Tryz.prog Tryz.f80=some QdB:=Qca.2
def Qfs:CFn Tryz.prog Tryz.f81:=by refine⟨?a,?h⟩;case h=>conv=>lhs;cbv
def QiI:AF:=Qfs.1
abbrev Qfe:Nat:=81
theorem QiW:Tryz.prog.funcs[Qfe]? =some Tryz.f81:=Tryz.func81
theorem Qjy:QaC Tryz.prog Tryz.f81=some QiI:=Qfs.2
def Qfr:CFn Tryz.prog Tryz.f82:=by refine⟨?a,?h⟩;case h=>conv=>lhs;cbv
def QiH:AF:=Qfr.1
abbrev Qfd:Nat:=82
theorem QiV:Tryz.prog.funcs[Qfd]? =some Tryz.f82:=Tryz.func82
theorem Qjx:QaC Tryz.prog Tryz.f82=some QiH:=Qfr.2
def Qiy:CFn Tryz.prog Tryz.f84:=by refine⟨?a,?h⟩;case h=>conv=>lhs;cbv
def Ql8:AF:=Qiy.1
abbrev Qfi:Nat:=84
theorem QmR:Tryz.prog.funcs[Qfi]? =some Tryz.f84:=Tryz.func84
theorem QnZ:QaC Tryz.prog Tryz.f84=some Ql8:=Qiy.2
def Qhg:CFn Tryz.prog Tryz.f85:=by refine⟨?a,?h⟩;case h=>conv=>lhs;cbv
def QkN:AF:=Qhg.1
abbrev QeE:Nat:=85
theorem Qf6:Tryz.prog.funcs[QeE]? =some Tryz.f85:=Tryz.func85
theorem QgL:QaC Tryz.prog Tryz.f85=some QkN:=Qhg.2
def QeV:CFn Tryz.prog Tryz.f86:=by refine⟨?a,?h⟩;case h=>conv=>lhs;cbv
def Qht:AF:=QeV.1
abbrev QeR:Nat:=86
theorem QhJ:Tryz.prog.funcs[QeR]? =some Tryz.f86:=Tryz.func86
theorem QiP:QaC Tryz.prog Tryz.f86=some Qht:=QeV.2
def Qhe:CFn Tryz.prog Tryz.f87:=by refine⟨?a,?h⟩;case h=>conv=>lhs;cbv
def QkL:AF:=Qhe.1
abbrev Qg0:Nat:=87
theorem Qk5:Tryz.prog.funcs[Qg0]? =some Tryz.f87:=Tryz.func87
theorem Qmm:QaC Tryz.prog Tryz.f87=some QkL:=Qhe.2
def Qiu:CFn Tryz.prog Tryz.f99:=by refine⟨?a,?h⟩;case h=>conv=>lhs;cbv
def Ql4:AF:=Qiu.1
abbrev Qid:Nat:=99
theorem QmN:Tryz.prog.funcs[Qid]? =some Tryz.f99:=Tryz.func99
theorem QnV:QaC Tryz.prog Tryz.f99=some Ql4:=Qiu.2
def QlG:CFn Tryz.prog Tryz.f100:=by refine⟨?a,?h⟩;case h=>conv=>lhs;cbv
def Qph:AF:=QlG.1
abbrev Qlx:Nat:=100
theorem QpH:Tryz.prog.funcs[Qlx]? =some Tryz.f100:=Tryz.func100
theorem QrF:QaC Tryz.prog Tryz.f100=some Qph:=QlG.2
def Qix:CFn Tryz.prog Tryz.f102:=by refine⟨?a,?h⟩;case h=>conv=>lhs;cbv
def Ql7:AF:=Qix.1
abbrev Qig:Nat:=102
theorem QmQ:Tryz.prog.funcs[Qig]? =some Tryz.f102:=Tryz.func102
theorem QnY:QaC Tryz.prog Tryz.f102=some Ql7:=Qix.2
def Qei:CFn Tryz.prog Tryz.f103:=by refine⟨?a,?h⟩;case h=>conv=>lhs;cbv
def QgI:AF:=Qei.1
abbrev Qea:Nat:=103
theorem QgQ:Tryz.prog.funcs[Qea]? =some Tryz.f103:=Tryz.func103
theorem QhA:QaC Tryz.prog Tryz.f103=some QgI:=Qei.2
def Qfx:CFn Tryz.prog Tryz.f104:=by refine⟨?a,?h⟩;case h=>conv=>lhs;cbv
def QiN:AF:=Qfx.1
abbrev Qfl:Nat:=104
theorem Qi1:Tryz.prog.funcs[Qfl]? =some Tryz.f104:=Tryz.func104
theorem QjD:QaC Tryz.prog Tryz.f104=some QiN:=Qfx.2
def Qgk:CFn Tryz.prog Tryz.f105:=by refine⟨?a,?h⟩;case h=>conv=>lhs;cbv
def Qjm:AF:=Qgk.1
abbrev Qgc:Nat:=105
theorem QjZ:Tryz.prog.funcs[Qgc]? =some Tryz.f105:=Tryz.func105
theorem QkY:QaC Tryz.prog Tryz.f105=some Qjm:=Qgk.2
def Qa4:CFn Tryz.prog Tryz.f108:=by refine⟨?a,?h⟩;case h=>conv=>lhs;cbv
def QbM:AF:=Qa4.1
abbrev QaM:Nat:=108
theorem QbP:Tryz.prog.funcs[QaM]? =some Tryz.f108:=Tryz.func108
theorem QbU:QaC Tryz.prog Tryz.f108=some QbM:=Qa4.2
def Qim:CFn Tryz.prog Tryz.f109:=by refine⟨?a,?h⟩;case h=>conv=>lhs;cbv
def QlW:AF:=Qim.1
abbrev Qh7:Nat:=109
theorem QmF:Tryz.prog.funcs[Qh7]? =some Tryz.f109:=Tryz.func109
theorem QnN:QaC Tryz.prog Tryz.f109=some QlW:=Qim.2
def QcD:CFn Tryz.prog Tryz.f110:=by refine⟨?a,?h⟩;case h=>conv=>lhs;cbv
def Qeo:AF:=QcD.1
abbrev QcB:Nat:=110
theorem Qey:Tryz.prog.funcs[QcB]? =some Tryz.f110:=Tryz.func110
theorem Qe1:QaC Tryz.prog Tryz.f110=some Qeo:=QcD.2
def Qa1:CFn Tryz.prog Tryz.f111:=by refine⟨?a,?h⟩;case h=>conv=>lhs;cbv
def QbJ:AF:=Qa1.1
abbrev QaZ:Nat:=111
theorem QbK:Tryz.prog.funcs[QaZ]? =some Tryz.f111:=Tryz.func111
theorem QbN:QaC Tryz.prog Tryz.f111=some QbJ:=Qa1.2
def Qgi:CFn Tryz.prog Tryz.f118:=by refine⟨?a,?h⟩;case h=>conv=>lhs;cbv
def Qjk:AF:=Qgi.1
abbrev Qgb:Nat:=118
theorem QjX:Tryz.prog.funcs[Qgb]? =some Tryz.f118:=Tryz.func118
theorem QkW:QaC Tryz.prog Tryz.f118=some Qjk:=Qgi.2
def Qfu:CFn Tryz.prog Tryz.f119:=by refine⟨?a,?h⟩;case h=>conv=>lhs;cbv
def QiK:AF:=Qfu.1
abbrev Qfh:Nat:=119
theorem QiY:Tryz.prog.funcs[Qfh]? =some Tryz.f119:=Tryz.func119
theorem QjA:QaC Tryz.prog Tryz.f119=some QiK:=Qfu.2
def Qft:CFn Tryz.prog Tryz.f121:=by refine⟨?a,?h⟩;case h=>conv=>lhs;cbv
def QiJ:AF:=Qft.1
abbrev Qff:Nat:=121
theorem QiX:Tryz.prog.funcs[Qff]? =some Tryz.f121:=Tryz.func121
theorem Qjz:QaC Tryz.prog Tryz.f121=some QiJ:=Qft.2
def Qa6:CFn Tryz.prog Tryz.f124:=by refine⟨?a,?h⟩;case h=>conv=>lhs;cbv
def QbT:AF:=Qa6.1
abbrev Qb1:Nat:=124
theorem QbV:Tryz.prog.funcs[Qb1]? =some Tryz.f124:=Tryz.func124
theorem QbY:QaC Tryz.prog Tryz.f124=some QbT:=Qa6.2
theorem mixed:Tryz.prog.follows .mixedOrders=true:=by decide
end Go.Ab
