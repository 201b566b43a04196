/-
  Merged texts, part l.
-/
import Derived.Test.YtohbofilgkdihaaGreatDoorZk
import Derived.Test.YtohbofilgkdihaaGreatDoorProg
set_option linter.all false
namespace Go.Ab
open Go.Proofs
set_option maxRecDepth 100000
abbrev CFn (P:Program) (f:Func):={a:AF // QaC P f=some a}
def QdF:CFn Tryz.prog Tryz.f5:=by refine⟨?a,?h⟩;case h=>conv=>lhs;cbv
def QfZ:AF:=QdF.1
abbrev QdB:Nat:=5
theorem Qf0:Tryz.prog.funcs[QdB]? =some Tryz.f5:=Tryz.func5
theorem Qgq:QaC Tryz.prog Tryz.f5=some QfZ:=QdF.2
def Qha:CFn Tryz.prog Tryz.f9:=by refine⟨?a,?h⟩;case h=>conv=>lhs;cbv
def Qat:AF:=Qha.1
abbrev QcC:Nat:=9
theorem Qf6:Tryz.prog.funcs[QcC]? =some Tryz.f9:=Tryz.func9
theorem Qmm:QaC Tryz.prog Tryz.f9=some Qat:=Qha.2
def QlI:CFn Tryz.prog Tryz.f11:=by refine⟨?a,?h⟩;case h=>conv=>lhs;cbv
def Qpb:AF:=QlI.1
abbrev Qdq:Nat:=11
theorem QpD:Tryz.prog.funcs[Qdq]? =some Tryz.f11:=Tryz.func11
theorem QrA:QaC Tryz.prog Tryz.f11=some Qpb:=QlI.2
def QiA:CFn Tryz.prog Tryz.f15:=by refine⟨?a,?h⟩;case h=>conv=>lhs;cbv
def Qme:AF:=QiA.1
abbrev QdX:Nat:=15
theorem Qm1:Tryz.prog.funcs[QdX]? =some Tryz.f15:=Tryz.func15
theorem Qn1:QaC Tryz.prog Tryz.f15=some Qme:=QiA.2
def Qgm:CFn Tryz.prog Tryz.f17:=by refine⟨?a,?h⟩;case h=>conv=>lhs;cbv
def Qjo:AF:=Qgm.1
abbrev Qc1:Nat:=17
theorem Qj6:Tryz.prog.funcs[Qc1]? =some Tryz.f17:=Tryz.func17
theorem Qk0:QaC Tryz.prog Tryz.f17=some Qjo:=Qgm.2
def Qe3:CFn Tryz.prog Tryz.f19:=by refine⟨?a,?h⟩;case h=>conv=>lhs;cbv
def Qhr:AF:=Qe3.1
abbrev Qck:Nat:=19
theorem QhF:Tryz.prog.funcs[Qck]? =some Tryz.f19:=Tryz.func19
theorem QiM:QaC Tryz.prog Tryz.f19=some Qhr:=Qe3.2
def Qiy:CFn Tryz.prog Tryz.f20:=by refine⟨?a,?h⟩;case h=>conv=>lhs;cbv
def Qmc:AF:=Qiy.1
abbrev Qfs:Nat:=20
theorem QmZ:Tryz.prog.funcs[Qfs]? =some Tryz.f20:=Tryz.func20
theorem QnZ:QaC Tryz.prog Tryz.f20=some Qmc:=Qiy.2
def Qkw:CFn Tryz.prog Tryz.f21:=by refine⟨?a,?h⟩;case h=>conv=>lhs;cbv
def QnG:AF:=Qkw.1
abbrev QdC:Nat:=21
theorem Qh5:Tryz.prog.funcs[QdC]? =some Tryz.f21:=Tryz.func21
theorem QjD:QaC Tryz.prog Tryz.f21=some QnG:=Qkw.2
def Qir:CFn Tryz.prog Tryz.f22:=by refine⟨?a,?h⟩;case h=>conv=>lhs;cbv
def Ql5:AF:=Qir.1
abbrev QdW:Nat:=22
theorem QgR:Tryz.prog.funcs[QdW]? =some Tryz.f22:=Tryz.func22
theorem Qh3:QaC Tryz.prog Tryz.f22=some Ql5:=Qir.2
def Qis:CFn Tryz.prog Tryz.f28:=by refine⟨?a,?h⟩;case h=>conv=>lhs;cbv
def Ql6:AF:=Qis.1
abbrev Qic:Nat:=28
theorem QmT:Tryz.prog.funcs[Qic]? =some Tryz.f28:=Tryz.func28
theorem QnT:QaC Tryz.prog Tryz.f28=some Ql6:=Qis.2
def Qiq:CFn Tryz.prog Tryz.f29:=by refine⟨?a,?h⟩;case h=>conv=>lhs;cbv
def Ql4:AF:=Qiq.1
abbrev Qfp:Nat:=29
theorem QmS:Tryz.prog.funcs[Qfp]? =some Tryz.f29:=Tryz.func29
theorem QnS:QaC Tryz.prog Tryz.f29=some Ql4:=Qiq.2
def Qhj:CFn Tryz.prog Tryz.f31:=by refine⟨?a,?h⟩;case h=>conv=>lhs;cbv
def QkR:AF:=Qhj.1
abbrev QeP:Nat:=31
theorem Qlb:Tryz.prog.funcs[QeP]? =some Tryz.f31:=Tryz.func31
theorem Qmu:QaC Tryz.prog Tryz.f31=some QkR:=Qhj.2
def QbK:CFn Tryz.prog Tryz.f32:=by refine⟨?a,?h⟩;case h=>conv=>lhs;cbv
def Qdi:AF:=QbK.1
abbrev QbI:Nat:=32
theorem Qdj:Tryz.prog.funcs[QbI]? =some Tryz.f32:=Tryz.func32
theorem Qdl:QaC Tryz.prog Tryz.f32=some Qdi:=QbK.2
def Qdd:CFn Tryz.prog Tryz.f33:=by refine⟨?a,?h⟩;case h=>conv=>lhs;cbv
def Qe8:AF:=Qdd.1
abbrev Qdc:Nat:=33
theorem Qfb:Tryz.prog.funcs[Qdc]? =some Tryz.f33:=Tryz.func33
theorem Qfd:QaC Tryz.prog Tryz.f33=some Qe8:=Qdd.2
abbrev Qdb:Nat:=36
theorem QcL:Tryz.prog.funcs[Qdb]? =some Tryz.f36:=Tryz.func36
def Qcu:CFn Tryz.prog Tryz.f37:=by refine⟨?a,?h⟩;case h=>conv=>lhs;cbv
def Qd3:AF:=Qcu.1
abbrev Qco:Nat:=37
theorem Qd5:Tryz.prog.funcs[Qco]? =some Tryz.f37:=Tryz.func37
theorem Qec:QaC Tryz.prog Tryz.f37=some Qd3:=Qcu.2
def Qio:CFn Tryz.prog Tryz.f38:=by refine⟨?a,?h⟩;case h=>conv=>lhs;cbv
def Ql2:AF:=Qio.1
abbrev Qia:Nat:=38
theorem QmQ:Tryz.prog.funcs[Qia]? =some Tryz.f38:=Tryz.func38
theorem QnQ:QaC Tryz.prog Tryz.f38=some Ql2:=Qio.2
def Qku:CFn Tryz.prog Tryz.f39:=by refine⟨?a,?h⟩;case h=>conv=>lhs;cbv
def QnE:AF:=Qku.1
abbrev QgC:Nat:=39
theorem Qok:Tryz.prog.funcs[QgC]? =some Tryz.f39:=Tryz.func39
theorem Qpl:QaC Tryz.prog Tryz.f39=some QnE:=Qku.2
def Qhf:CFn Tryz.prog Tryz.f40:=by refine⟨?a,?h⟩;case h=>conv=>lhs;cbv
def QkN:AF:=Qhf.1
abbrev QeN:Nat:=40
theorem Qk8:Tryz.prog.funcs[QeN]? =some Tryz.f40:=Tryz.func40
theorem Qmr:QaC Tryz.prog Tryz.f40=some QkN:=Qhf.2
def Qgj:CFn Tryz.prog Tryz.f41:=by refine⟨?a,?h⟩;case h=>conv=>lhs;cbv
def Qjl:AF:=Qgj.1
abbrev Qd8:Nat:=41
theorem Qj4:Tryz.prog.funcs[Qd8]? =some Tryz.f41:=Tryz.func41
theorem QkY:QaC Tryz.prog Tryz.f41=some Qjl:=Qgj.2
def Qiu:CFn Tryz.prog Tryz.f42:=by refine⟨?a,?h⟩;case h=>conv=>lhs;cbv
def Ql8:AF:=Qiu.1
abbrev Qie:Nat:=42
theorem QmV:Tryz.prog.funcs[Qie]? =some Tryz.f42:=Tryz.func42
theorem QnV:QaC Tryz.prog Tryz.f42=some Ql8:=Qiu.2
def Qgk:CFn Tryz.prog Tryz.f43:=by refine⟨?a,?h⟩;case h=>conv=>lhs;cbv
def Qjm:AF:=Qgk.1
abbrev Qc0:Nat:=43
theorem Qfi:Tryz.prog.funcs[Qc0]? =some Tryz.f43:=Tryz.func43
theorem Qf3:QaC Tryz.prog Tryz.f43=some Qjm:=Qgk.2
def Qhb:CFn Tryz.prog Tryz.f44:=by refine⟨?a,?h⟩;case h=>conv=>lhs;cbv
def QkJ:AF:=Qhb.1
abbrev Qg1:Nat:=44
theorem Qk4:Tryz.prog.funcs[Qg1]? =some Tryz.f44:=Tryz.func44
theorem Qmn:QaC Tryz.prog Tryz.f44=some QkJ:=Qhb.2
def Qd1:CFn Tryz.prog Tryz.f45:=by refine⟨?a,?h⟩;case h=>conv=>lhs;cbv
def Qgn:AF:=Qd1.1
abbrev QdV:Nat:=45
theorem Qgz:Tryz.prog.funcs[QdV]? =some Tryz.f45:=Tryz.func45
theorem QgN:QaC Tryz.prog Tryz.f45=some Qgn:=Qd1.2
def Qip:CFn Tryz.prog Tryz.f46:=by refine⟨?a,?h⟩;case h=>conv=>lhs;cbv
def Ql3:AF:=Qip.1
abbrev Qib:Nat:=46
theorem QmR:Tryz.prog.funcs[Qib]? =some Tryz.f46:=Tryz.func46
theorem QnR:QaC Tryz.prog Tryz.f46=some Ql3:=Qip.2
def QiB:CFn Tryz.prog Tryz.f47:=by refine⟨?a,?h⟩;case h=>conv=>lhs;cbv
def Qmf:AF:=QiB.1
abbrev Qih:Nat:=47
theorem Qm2:Tryz.prog.funcs[Qih]? =some Tryz.f47:=Tryz.func47
theorem Qn2:QaC Tryz.prog Tryz.f47=some Qmf:=QiB.2
abbrev Qkl:Nat:=48
theorem Qom:Tryz.prog.funcs[Qkl]? =some Tryz.f48:=Tryz.func48
def Qgd:CFn Tryz.prog Tryz.f49:=by refine⟨?a,?h⟩;case h=>conv=>lhs;cbv
def Qjf:AF:=Qgd.1
abbrev Qd6:Nat:=49
theorem QjY:Tryz.prog.funcs[Qd6]? =some Tryz.f49:=Tryz.func49
theorem QkS:QaC Tryz.prog Tryz.f49=some Qjf:=Qgd.2
def Qil:CFn Tryz.prog Tryz.f51:=by refine⟨?a,?h⟩;case h=>conv=>lhs;cbv
def QlZ:AF:=Qil.1
abbrev QdU:Nat:=51
theorem QmN:Tryz.prog.funcs[QdU]? =some Tryz.f51:=Tryz.func51
theorem QnN:QaC Tryz.prog Tryz.f51=some QlZ:=Qil.2
def Qiz:CFn Tryz.prog Tryz.f54:=by refine⟨?a,?h⟩;case h=>conv=>lhs;cbv
def Qmd:AF:=Qiz.1
abbrev Qft:Nat:=54
theorem Qm0:Tryz.prog.funcs[Qft]? =some Tryz.f54:=Tryz.func54
theorem Qn0:QaC Tryz.prog Tryz.f54=some Qmd:=Qiz.2
def Qhg:CFn Tryz.prog Tryz.f55:=by refine⟨?a,?h⟩;case h=>conv=>lhs;cbv
def QkO:AF:=Qhg.1
abbrev Qg3:Nat:=55
theorem Qk9:Tryz.prog.funcs[Qg3]? =some Tryz.f55:=Tryz.func55
theorem Qms:QaC Tryz.prog Tryz.f55=some QkO:=Qhg.2
def QfD:CFn Tryz.prog Tryz.f56:=by refine⟨?a,?h⟩;case h=>conv=>lhs;cbv
def Qe0:AF:=QfD.1
abbrev QaL:Nat:=56
theorem Qcj:Tryz.prog.funcs[QaL]? =some Tryz.f56:=Tryz.func56
theorem Qfe:QaC Tryz.prog Tryz.f56=some Qe0:=QfD.2
def QcN:CFn Tryz.prog Tryz.f59:=by refine⟨?a,?h⟩;case h=>conv=>lhs;cbv
def Qew:AF:=QcN.1
abbrev QaG:Nat:=59
theorem Qbz:Tryz.prog.funcs[QaG]? =some Tryz.f59:=Tryz.func59
theorem QbF:QaC Tryz.prog Tryz.f59=some Qew:=QcN.2
def QlH:CFn Tryz.prog Tryz.f63:=by refine⟨?a,?h⟩;case h=>conv=>lhs;cbv
def Qpa:AF:=QlH.1
abbrev Qlz:Nat:=63
theorem QpC:Tryz.prog.funcs[Qlz]? =some Tryz.f63:=Tryz.func63
theorem Qrz:QaC Tryz.prog Tryz.f63=some Qpa:=QlH.2
def Qiv:CFn Tryz.prog Tryz.f64:=by refine⟨?a,?h⟩;case h=>conv=>lhs;cbv
def Ql9:AF:=Qiv.1
abbrev Qfq:Nat:=64
theorem QmW:Tryz.prog.funcs[Qfq]? =some Tryz.f64:=Tryz.func64
theorem QnW:QaC Tryz.prog Tryz.f64=some Ql9:=Qiv.2
def Qgi:CFn Tryz.prog Tryz.f65:=by refine⟨?a,?h⟩;case h=>conv=>lhs;cbv
def Qjk:AF:=Qgi.1
abbrev Qd7:Nat:=65
theorem Qj3:Tryz.prog.funcs[Qd7]? =some Tryz.f65:=Tryz.func65
theorem QkX:QaC Tryz.prog Tryz.f65=some Qjk:=Qgi.2
def Qiw:CFn Tryz.prog Tryz.f66:=by refine⟨?a,?h⟩;case h=>conv=>lhs;cbv
def Qma:AF:=Qiw.1
abbrev Qif:Nat:=66
theorem QmX:Tryz.prog.funcs[Qif]? =some Tryz.f66:=Tryz.func66
theorem QnX:QaC Tryz.prog Tryz.f66=some Qma:=Qiw.2
def Qkv:CFn Tryz.prog Tryz.f67:=by refine⟨?a,?h⟩;case h=>conv=>lhs;cbv
def QnF:AF:=Qkv.1
abbrev Qkk:Nat:=67
theorem Qol:Tryz.prog.funcs[Qkk]? =some Tryz.f67:=Tryz.func67
theorem Qpm:QaC Tryz.prog Tryz.f67=some QnF:=Qkv.2
def Qgg:CFn Tryz.prog Tryz.f68:=by refine⟨?a,?h⟩;case h=>conv=>lhs;cbv
def Qji:AF:=Qgg.1
abbrev Qga:Nat:=68
theorem Qj1:Tryz.prog.funcs[Qga]? =some Tryz.f68:=Tryz.func68
theorem QkV:QaC Tryz.prog Tryz.f68=some Qji:=Qgg.2
def Qe5:CFn Tryz.prog Tryz.f69:=by refine⟨?a,?h⟩;case h=>conv=>lhs;cbv
def Qht:AF:=Qe5.1
abbrev Qe2:Nat:=69
theorem QhH:Tryz.prog.funcs[Qe2]? =some Tryz.f69:=Tryz.func69
theorem QiO:QaC Tryz.prog Tryz.f69=some Qht:=Qe5.2
def Qhi:CFn Tryz.prog Tryz.f70:=by refine⟨?a,?h⟩;case h=>conv=>lhs;cbv
def QkQ:AF:=Qhi.1
abbrev Qg4:Nat:=70
theorem Qla:Tryz.prog.funcs[Qg4]? =some Tryz.f70:=Tryz.func70
theorem Qmt:QaC Tryz.prog Tryz.f70=some QkQ:=Qhi.2
def Qim:CFn Tryz.prog Tryz.f71:=by refine⟨?a,?h⟩;case h=>conv=>lhs;cbv
def Ql0:AF:=Qim.1
abbrev Qh8:Nat:=71
theorem QmO:Tryz.prog.funcs[Qh8]? =some Tryz.f71:=Tryz.func71
theorem QnO:QaC Tryz.prog Tryz.f71=some Ql0:=Qim.2
def Qge:CFn Tryz.prog Tryz.f76:=by refine⟨?a,?h⟩;case h=>conv=>lhs;cbv
def Qjg:AF:=Qge.1
abbrev Qf8:Nat:=76
theorem QjZ:Tryz.prog.funcs[Qf8]? =some Tryz.f76:=Tryz.func76
theorem QkT:QaC Tryz.prog Tryz.f76=some Qjg:=Qge.2
def Qgf:CFn Tryz.prog Tryz.f77:=by refine⟨?a,?h⟩;case h=>conv=>lhs;cbv
def Qjh:AF:=Qgf.1
abbrev Qf9:Nat:=77
theorem Qj0:Tryz.prog.funcs[Qf9]? =some Tryz.f77:=Tryz.func77
theorem QkU:QaC Tryz.prog Tryz.f77=some Qjh:=Qgf.2
def Qkt:CFn Tryz.prog Tryz.f78:=by refine⟨?a,?h⟩;case h=>conv=>lhs;cbv
def QnD:AF:=Qkt.1
abbrev Qkj:Nat:=78
theorem Qoj:Tryz.prog.funcs[Qkj]? =some Tryz.f78:=Tryz.func78
theorem Qpk:QaC Tryz.prog Tryz.f78=some QnD:=Qkt.2
def Qin:CFn Tryz.prog Tryz.f79:=by refine⟨?a,?h⟩;case h=>conv=>lhs;cbv
def Ql1:AF:=Qin.1
abbrev Qh9:Nat:=79
theorem QmP:Tryz.prog.funcs[Qh9]? =some Tryz.f79:=Tryz.func79
theorem QnP:QaC Tryz.prog Tryz.f79=some Ql1:=Qin.2
def Qcg:CFn Tryz.prog Tryz.f80:=by refine⟨?a,?h⟩;case h=>conv=>lhs;cbv
def QdM:AF:=Qcg.1
abbrev Qcc:Nat:=80
theorem QdO:Tryz.prog.funcs[Qcc]? =some Tryz.f80:=Tryz.func80
theorem Qd4:QaC Tryz.prog Tryz.f80=some QdM:=Qcg.2
def Qfz:CFn Tryz.prog Tryz.f81:=by refine⟨?a,?h⟩;case h=>conv=>lhs;cbv
def QiH:AF:=Qfz.1
abbrev Qfn:Nat:=81
theorem QiT:Tryz.prog.funcs[Qfn]? =some Tryz.f81:=Tryz.func81
theorem QjA:QaC Tryz.prog Tryz.f81=some QiH:=Qfz.2
def Qfy:CFn Tryz.prog Tryz.f82:=by refine⟨?a,?h⟩;case h=>conv=>lhs;cbv
def QiG:AF:=Qfy.1
abbrev Qfm:Nat:=82
theorem QiS:Tryz.prog.funcs[Qfm]? =some Tryz.f82:=Tryz.func82
theorem Qjz:QaC Tryz.prog Tryz.f82=some QiG:=Qfy.2
def Qhh:CFn Tryz.prog Tryz.f85:=by refine⟨?a,?h⟩;case h=>conv=>lhs;cbv
def QkP:AF:=Qhh.1
abbrev QeO:Nat:=85
theorem Qf7:Tryz.prog.funcs[QeO]? =some Tryz.f85:=Tryz.func85
theorem QgO:QaC Tryz.prog Tryz.f85=some QkP:=Qhh.2
def Qe4:CFn Tryz.prog Tryz.f86:=by refine⟨?a,?h⟩;case h=>conv=>lhs;cbv
def Qhs:AF:=Qe4.1
abbrev Qe1:Nat:=86
theorem QhG:Tryz.prog.funcs[Qe1]? =some Tryz.f86:=Tryz.func86
theorem QiN:QaC Tryz.prog Tryz.f86=some Qhs:=Qe4.2
def Qhe:CFn Tryz.prog Tryz.f87:=by refine⟨?a,?h⟩;case h=>conv=>lhs;cbv
def QkM:AF:=Qhe.1
abbrev Qg2:Nat:=87
theorem Qk7:Tryz.prog.funcs[Qg2]? =some Tryz.f87:=Tryz.func87
theorem Qmq:QaC Tryz.prog Tryz.f87=some QkM:=Qhe.2
def Qit:CFn Tryz.prog Tryz.f99:=by refine⟨?a,?h⟩;case h=>conv=>lhs;cbv
def Ql7:AF:=Qit.1
abbrev Qid:Nat:=99
theorem QmU:Tryz.prog.funcs[Qid]? =some Tryz.f99:=Tryz.func99
theorem QnU:QaC Tryz.prog Tryz.f99=some Ql7:=Qit.2
def QlG:CFn Tryz.prog Tryz.f100:=by refine⟨?a,?h⟩;case h=>conv=>lhs;cbv
def Qo9:AF:=QlG.1
abbrev Qly:Nat:=100
theorem QpB:Tryz.prog.funcs[Qly]? =some Tryz.f100:=Tryz.func100
theorem Qry:QaC Tryz.prog Tryz.f100=some Qo9:=QlG.2
def Qhc:CFn Tryz.prog Tryz.f101:=by refine⟨?a,?h⟩;case h=>conv=>lhs;cbv
def QkK:AF:=Qhc.1
abbrev QeL:Nat:=101
theorem Qk5:Tryz.prog.funcs[QeL]? =some Tryz.f101:=Tryz.func101
theorem Qmo:QaC Tryz.prog Tryz.f101=some QkK:=Qhc.2
def Qix:CFn Tryz.prog Tryz.f102:=by refine⟨?a,?h⟩;case h=>conv=>lhs;cbv
def Qmb:AF:=Qix.1
abbrev Qig:Nat:=102
theorem QmY:Tryz.prog.funcs[Qig]? =some Tryz.f102:=Tryz.func102
theorem QnY:QaC Tryz.prog Tryz.f102=some Qmb:=Qix.2
def Qeq:CFn Tryz.prog Tryz.f103:=by refine⟨?a,?h⟩;case h=>conv=>lhs;cbv
def QgL:AF:=Qeq.1
abbrev Qel:Nat:=103
theorem QgS:Tryz.prog.funcs[Qel]? =some Tryz.f103:=Tryz.func103
theorem Qhu:QaC Tryz.prog Tryz.f103=some QgL:=Qeq.2
def QfC:CFn Tryz.prog Tryz.f104:=by refine⟨?a,?h⟩;case h=>conv=>lhs;cbv
def QiK:AF:=QfC.1
abbrev Qfu:Nat:=104
theorem QiW:Tryz.prog.funcs[Qfu]? =some Tryz.f104:=Tryz.func104
theorem QjE:QaC Tryz.prog Tryz.f104=some QiK:=QfC.2
def Qgl:CFn Tryz.prog Tryz.f105:=by refine⟨?a,?h⟩;case h=>conv=>lhs;cbv
def Qjn:AF:=Qgl.1
abbrev Qgc:Nat:=105
theorem Qj5:Tryz.prog.funcs[Qgc]? =some Tryz.f105:=Tryz.func105
theorem QkZ:QaC Tryz.prog Tryz.f105=some Qjn:=Qgl.2
def Qa8:CFn Tryz.prog Tryz.f108:=by refine⟨?a,?h⟩;case h=>conv=>lhs;cbv
def QbN:AF:=Qa8.1
abbrev QaN:Nat:=108
theorem QbQ:Tryz.prog.funcs[QaN]? =some Tryz.f108:=Tryz.func108
theorem QbY:QaC Tryz.prog Tryz.f108=some QbN:=Qa8.2
def Qik:CFn Tryz.prog Tryz.f109:=by refine⟨?a,?h⟩;case h=>conv=>lhs;cbv
def QlY:AF:=Qik.1
abbrev Qh7:Nat:=109
theorem QmM:Tryz.prog.funcs[Qh7]? =some Tryz.f109:=Tryz.func109
theorem QnM:QaC Tryz.prog Tryz.f109=some QlY:=Qik.2
def QcO:CFn Tryz.prog Tryz.f110:=by refine⟨?a,?h⟩;case h=>conv=>lhs;cbv
def Qex:AF:=QcO.1
abbrev QcM:Nat:=110
theorem QeG:Tryz.prog.funcs[QcM]? =some Tryz.f110:=Tryz.func110
theorem Qe9:QaC Tryz.prog Tryz.f110=some Qex:=QcO.2
def Qa5:CFn Tryz.prog Tryz.f111:=by refine⟨?a,?h⟩;case h=>conv=>lhs;cbv
def QbL:AF:=Qa5.1
abbrev Qa3:Nat:=111
theorem QbM:Tryz.prog.funcs[Qa3]? =some Tryz.f111:=Tryz.func111
theorem QbO:QaC Tryz.prog Tryz.f111=some QbL:=Qa5.2
def Qgh:CFn Tryz.prog Tryz.f118:=by refine⟨?a,?h⟩;case h=>conv=>lhs;cbv
def Qjj:AF:=Qgh.1
abbrev Qgb:Nat:=118
theorem Qj2:Tryz.prog.funcs[Qgb]? =some Tryz.f118:=Tryz.func118
theorem QkW:QaC Tryz.prog Tryz.f118=some Qjj:=Qgh.2
def QfB:CFn Tryz.prog Tryz.f119:=by refine⟨?a,?h⟩;case h=>conv=>lhs;cbv
def QiJ:AF:=QfB.1
abbrev Qfr:Nat:=119
theorem QiV:Tryz.prog.funcs[Qfr]? =some Tryz.f119:=Tryz.func119
theorem QjC:QaC Tryz.prog Tryz.f119=some QiJ:=QfB.2
def Qhd:CFn Tryz.prog Tryz.f120:=by refine⟨?a,?h⟩;case h=>conv=>lhs;cbv
def QkL:AF:=Qhd.1
abbrev QeM:Nat:=120
theorem Qk6:Tryz.prog.funcs[QeM]? =some Tryz.f120:=Tryz.func120
theorem Qmp:QaC Tryz.prog Tryz.f120=some QkL:=Qhd.2
def QfA:CFn Tryz.prog Tryz.f121:=by refine⟨?a,?h⟩;case h=>conv=>lhs;cbv
def QiI:AF:=QfA.1
abbrev Qfo:Nat:=121
theorem QiU:Tryz.prog.funcs[Qfo]? =some Tryz.f121:=Tryz.func121
theorem QjB:QaC Tryz.prog Tryz.f121=some QiI:=QfA.2
def Qba:CFn Tryz.prog Tryz.f124:=by refine⟨?a,?h⟩;case h=>conv=>lhs;cbv
def QbX:AF:=Qba.1
abbrev Qb6:Nat:=124
theorem Qb0:Tryz.prog.funcs[Qb6]? =some Tryz.f124:=Tryz.func124
theorem Qb3:QaC Tryz.prog Tryz.f124=some QbX:=Qba.2
theorem mixed:Tryz.prog.follows .mixedOrders=true:=by decide
end Go.Ab
