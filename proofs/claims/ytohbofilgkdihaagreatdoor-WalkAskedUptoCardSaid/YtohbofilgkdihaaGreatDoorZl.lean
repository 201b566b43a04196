/-
  Merged texts, part l.
-/
import Derived.Test.YtohbofilgkdihaaGreatDoorZk
import Derived.Test.YtohbofilgkdihaaGreatDoorProg
set_option linter.all false
namespace Go.Ab
open Go.Proofs
set_option maxRecDepth 100000
abbrev CFn (P:Program) (f:Func):={a:AF // QaA P f=some a}
def Qet:CFn Tryz.prog Tryz.f7:=by refine⟨?a,?h⟩;case h=>conv=>lhs;cbv
def QgF:AF:=Qet.1
abbrev Qel:Nat:=7
theorem QgM:Tryz.prog.funcs[Qel]? =some Tryz.f7:=Tryz.func7
theorem Qhr:QaA Tryz.prog Tryz.f7=some QgF:=Qet.2
def Qg6:CFn Tryz.prog Tryz.f9:=by refine⟨?a,?h⟩;case h=>conv=>lhs;cbv
def Qat:AF:=Qg6.1
abbrev Qcx:Nat:=9
theorem Qf9:Tryz.prog.funcs[Qcx]? =some Tryz.f9:=Tryz.func9
theorem Qmf:QaA Tryz.prog Tryz.f9=some Qat:=Qg6.2
def Qg7:CFn Tryz.prog Tryz.f10:=by refine⟨?a,?h⟩;case h=>conv=>lhs;cbv
def QkI:AF:=Qg7.1
abbrev QeP:Nat:=10
theorem Qk0:Tryz.prog.funcs[QeP]? =some Tryz.f10:=Tryz.func10
theorem Qmg:QaA Tryz.prog Tryz.f10=some QkI:=Qg7.2
def QlD:CFn Tryz.prog Tryz.f11:=by refine⟨?a,?h⟩;case h=>conv=>lhs;cbv
def Qo8:AF:=QlD.1
abbrev QfV:Nat:=11
theorem Qpz:Tryz.prog.funcs[QfV]? =some Tryz.f11:=Tryz.func11
theorem QrB:QaA Tryz.prog Tryz.f11=some Qo8:=QlD.2
def Qix:CFn Tryz.prog Tryz.f15:=by refine⟨?a,?h⟩;case h=>conv=>lhs;cbv
def Ql8:AF:=Qix.1
abbrev QdO:Nat:=15
theorem QmO:Tryz.prog.funcs[QdO]? =some Tryz.f15:=Tryz.func15
theorem QnU:QaA Tryz.prog Tryz.f15=some Ql8:=Qix.2
def Qgo:CFn Tryz.prog Tryz.f17:=by refine⟨?a,?h⟩;case h=>conv=>lhs;cbv
def Qji:AF:=Qgo.1
abbrev QcU:Nat:=17
theorem QjW:Tryz.prog.funcs[QcU]? =some Tryz.f17:=Tryz.func17
theorem QkW:QaA Tryz.prog Tryz.f17=some Qji:=Qgo.2
def Qe7:CFn Tryz.prog Tryz.f19:=by refine⟨?a,?h⟩;case h=>conv=>lhs;cbv
def Qhm:AF:=Qe7.1
abbrev Qdc:Nat:=19
theorem QhB:Tryz.prog.funcs[Qdc]? =some Tryz.f19:=Tryz.func19
theorem QiL:QaA Tryz.prog Tryz.f19=some Qhm:=Qe7.2
def Qkr:CFn Tryz.prog Tryz.f21:=by refine⟨?a,?h⟩;case h=>conv=>lhs;cbv
def QnA:AF:=Qkr.1
abbrev QeQ:Nat:=21
theorem Qod:Tryz.prog.funcs[QeQ]? =some Tryz.f21:=Tryz.func21
theorem Qpk:QaA Tryz.prog Tryz.f21=some QnA:=Qkr.2
def QlE:CFn Tryz.prog Tryz.f23:=by refine⟨?a,?h⟩;case h=>conv=>lhs;cbv
def Qo9:AF:=QlE.1
abbrev Qdl:Nat:=23
theorem QjX:Tryz.prog.funcs[Qdl]? =some Tryz.f23:=Tryz.func23
theorem Qlh:QaA Tryz.prog Tryz.f23=some Qo9:=QlE.2
def Qe9:CFn Tryz.prog Tryz.f26:=by refine⟨?a,?h⟩;case h=>conv=>lhs;cbv
def Qho:AF:=Qe9.1
abbrev Qe5:Nat:=26
theorem QhD:Tryz.prog.funcs[Qe5]? =some Tryz.f26:=Tryz.func26
theorem QiN:QaA Tryz.prog Tryz.f26=some Qho:=Qe9.2
def QdA:CFn Tryz.prog Tryz.f27:=by refine⟨?a,?h⟩;case h=>conv=>lhs;cbv
def Qf4:AF:=QdA.1
abbrev Qaj:Nat:=27
theorem Qde:Tryz.prog.funcs[Qaj]? =some Tryz.f27:=Tryz.func27
theorem Qgs:QaA Tryz.prog Tryz.f27=some Qf4:=QdA.2
def Qiq:CFn Tryz.prog Tryz.f28:=by refine⟨?a,?h⟩;case h=>conv=>lhs;cbv
def Ql1:AF:=Qiq.1
abbrev Qia:Nat:=28
theorem QmH:Tryz.prog.funcs[Qia]? =some Tryz.f28:=Tryz.func28
theorem QnN:QaA Tryz.prog Tryz.f28=some Ql1:=Qiq.2
def Qip:CFn Tryz.prog Tryz.f29:=by refine⟨?a,?h⟩;case h=>conv=>lhs;cbv
def Ql0:AF:=Qip.1
abbrev Qft:Nat:=29
theorem QmG:Tryz.prog.funcs[Qft]? =some Tryz.f29:=Tryz.func29
theorem QnM:QaA Tryz.prog Tryz.f29=some Ql0:=Qip.2
def QfF:CFn Tryz.prog Tryz.f30:=by refine⟨?a,?h⟩;case h=>conv=>lhs;cbv
def QiJ:AF:=QfF.1
abbrev Qdx:Nat:=30
theorem QiV:Tryz.prog.funcs[Qdx]? =some Tryz.f30:=Tryz.func30
theorem Qjx:QaA Tryz.prog Tryz.f30=some QiJ:=QfF.2
def Qhd:CFn Tryz.prog Tryz.f31:=by refine⟨?a,?h⟩;case h=>conv=>lhs;cbv
def QkO:AF:=Qhd.1
abbrev QeS:Nat:=31
theorem Qk5:Tryz.prog.funcs[QeS]? =some Tryz.f31:=Tryz.func31
theorem Qml:QaA Tryz.prog Tryz.f31=some QkO:=Qhd.2
def QbJ:CFn Tryz.prog Tryz.f32:=by refine⟨?a,?h⟩;case h=>conv=>lhs;cbv
def Qda:AF:=QbJ.1
abbrev QbH:Nat:=32
theorem Qdb:Tryz.prog.funcs[QbH]? =some Tryz.f32:=Tryz.func32
theorem Qdg:QaA Tryz.prog Tryz.f32=some Qda:=QbJ.2
def Qc6:CFn Tryz.prog Tryz.f33:=by refine⟨?a,?h⟩;case h=>conv=>lhs;cbv
def Qfd:AF:=Qc6.1
abbrev Qc5:Nat:=33
theorem Qff:Tryz.prog.funcs[Qc5]? =some Tryz.f33:=Tryz.func33
theorem Qfi:QaA Tryz.prog Tryz.f33=some Qfd:=Qc6.2
abbrev Qc4:Nat:=36
theorem QcB:Tryz.prog.funcs[Qc4]? =some Tryz.f36:=Tryz.func36
def Qco:CFn Tryz.prog Tryz.f37:=by refine⟨?a,?h⟩;case h=>conv=>lhs;cbv
def QdV:AF:=Qco.1
abbrev Qcj:Nat:=37
theorem QdY:Tryz.prog.funcs[Qcj]? =some Tryz.f37:=Tryz.func37
theorem Qea:QaA Tryz.prog Tryz.f37=some QdV:=Qco.2
def Qin:CFn Tryz.prog Tryz.f38:=by refine⟨?a,?h⟩;case h=>conv=>lhs;cbv
def QlY:AF:=Qin.1
abbrev Qh8:Nat:=38
theorem QmE:Tryz.prog.funcs[Qh8]? =some Tryz.f38:=Tryz.func38
theorem QnK:QaA Tryz.prog Tryz.f38=some QlY:=Qin.2
def Qkp:CFn Tryz.prog Tryz.f39:=by refine⟨?a,?h⟩;case h=>conv=>lhs;cbv
def Qny:AF:=Qkp.1
abbrev Qkg:Nat:=39
theorem Qob:Tryz.prog.funcs[Qkg]? =some Tryz.f39:=Tryz.func39
theorem Qpi:QaA Tryz.prog Tryz.f39=some Qny:=Qkp.2
def Qis:CFn Tryz.prog Tryz.f42:=by refine⟨?a,?h⟩;case h=>conv=>lhs;cbv
def Ql3:AF:=Qis.1
abbrev Qic:Nat:=42
theorem QmJ:Tryz.prog.funcs[Qic]? =some Tryz.f42:=Tryz.func42
theorem QnP:QaA Tryz.prog Tryz.f42=some Ql3:=Qis.2
def Qgm:CFn Tryz.prog Tryz.f43:=by refine⟨?a,?h⟩;case h=>conv=>lhs;cbv
def Qjg:AF:=Qgm.1
abbrev Qd2:Nat:=43
theorem QjU:Tryz.prog.funcs[Qd2]? =some Tryz.f43:=Tryz.func43
theorem QkU:QaA Tryz.prog Tryz.f43=some Qjg:=Qgm.2
def Qg8:CFn Tryz.prog Tryz.f44:=by refine⟨?a,?h⟩;case h=>conv=>lhs;cbv
def QkJ:AF:=Qg8.1
abbrev QgV:Nat:=44
theorem Qk1:Tryz.prog.funcs[QgV]? =some Tryz.f44:=Tryz.func44
theorem Qmh:QaA Tryz.prog Tryz.f44=some QkJ:=Qg8.2
def QdT:CFn Tryz.prog Tryz.f45:=by refine⟨?a,?h⟩;case h=>conv=>lhs;cbv
def Qgq:AF:=QdT.1
abbrev QdN:Nat:=45
theorem QgA:Tryz.prog.funcs[QdN]? =some Tryz.f45:=Tryz.func45
theorem QgI:QaA Tryz.prog Tryz.f45=some Qgq:=QdT.2
def Qio:CFn Tryz.prog Tryz.f46:=by refine⟨?a,?h⟩;case h=>conv=>lhs;cbv
def QlZ:AF:=Qio.1
abbrev Qh9:Nat:=46
theorem QmF:Tryz.prog.funcs[Qh9]? =some Tryz.f46:=Tryz.func46
theorem QnL:QaA Tryz.prog Tryz.f46=some QlZ:=Qio.2
def Qiy:CFn Tryz.prog Tryz.f47:=by refine⟨?a,?h⟩;case h=>conv=>lhs;cbv
def Ql9:AF:=Qiy.1
abbrev Qif:Nat:=47
theorem QmP:Tryz.prog.funcs[Qif]? =some Tryz.f47:=Tryz.func47
theorem QnV:QaA Tryz.prog Tryz.f47=some Ql9:=Qiy.2
abbrev Qki:Nat:=48
theorem Qoe:Tryz.prog.funcs[Qki]? =some Tryz.f48:=Tryz.func48
def Qgh:CFn Tryz.prog Tryz.f49:=by refine⟨?a,?h⟩;case h=>conv=>lhs;cbv
def Qjb:AF:=Qgh.1
abbrev Qd1:Nat:=49
theorem QjP:Tryz.prog.funcs[Qd1]? =some Tryz.f49:=Tryz.func49
theorem QkP:QaA Tryz.prog Tryz.f49=some Qjb:=Qgh.2
def QlF:CFn Tryz.prog Tryz.f50:=by refine⟨?a,?h⟩;case h=>conv=>lhs;cbv
def QcH:AF:=QlF.1
abbrev Qlu:Nat:=50
theorem QjY:Tryz.prog.funcs[Qlu]? =some Tryz.f50:=Tryz.func50
theorem QrC:QaA Tryz.prog Tryz.f50=some QcH:=QlF.2
def Qik:CFn Tryz.prog Tryz.f51:=by refine⟨?a,?h⟩;case h=>conv=>lhs;cbv
def QlV:AF:=Qik.1
abbrev QdM:Nat:=51
theorem QmB:Tryz.prog.funcs[QdM]? =some Tryz.f51:=Tryz.func51
theorem QnH:QaA Tryz.prog Tryz.f51=some QlV:=Qik.2
def Qeu:CFn Tryz.prog Tryz.f53:=by refine⟨?a,?h⟩;case h=>conv=>lhs;cbv
def QgG:AF:=Qeu.1
abbrev QcP:Nat:=53
theorem QgN:Tryz.prog.funcs[QcP]? =some Tryz.f53:=Tryz.func53
theorem Qhs:QaA Tryz.prog Tryz.f53=some QgG:=Qeu.2
def Qiw:CFn Tryz.prog Tryz.f54:=by refine⟨?a,?h⟩;case h=>conv=>lhs;cbv
def Ql7:AF:=Qiw.1
abbrev Qfw:Nat:=54
theorem QmN:Tryz.prog.funcs[Qfw]? =some Tryz.f54:=Tryz.func54
theorem QnT:QaA Tryz.prog Tryz.f54=some Ql7:=Qiw.2
def Qha:CFn Tryz.prog Tryz.f55:=by refine⟨?a,?h⟩;case h=>conv=>lhs;cbv
def QkL:AF:=Qha.1
abbrev QgX:Nat:=55
theorem Qk3:Tryz.prog.funcs[QgX]? =some Tryz.f55:=Tryz.func55
theorem Qmj:QaA Tryz.prog Tryz.f55=some QkL:=Qha.2
def QfH:CFn Tryz.prog Tryz.f56:=by refine⟨?a,?h⟩;case h=>conv=>lhs;cbv
def Qe3:AF:=QfH.1
abbrev QaJ:Nat:=56
theorem Qcg:Tryz.prog.funcs[QaJ]? =some Tryz.f56:=Tryz.func56
theorem Qfj:QaA Tryz.prog Tryz.f56=some Qe3:=QfH.2
def QcD:CFn Tryz.prog Tryz.f59:=by refine⟨?a,?h⟩;case h=>conv=>lhs;cbv
def QeA:AF:=QcD.1
abbrev QaD:Nat:=59
theorem Qby:Tryz.prog.funcs[QaD]? =some Tryz.f59:=Tryz.func59
theorem QbF:QaA Tryz.prog Tryz.f59=some QeA:=QcD.2
def QlC:CFn Tryz.prog Tryz.f63:=by refine⟨?a,?h⟩;case h=>conv=>lhs;cbv
def Qo7:AF:=QlC.1
abbrev Qlt:Nat:=63
theorem Qpy:Tryz.prog.funcs[Qlt]? =some Tryz.f63:=Tryz.func63
theorem QrA:QaA Tryz.prog Tryz.f63=some Qo7:=QlC.2
def Qit:CFn Tryz.prog Tryz.f66:=by refine⟨?a,?h⟩;case h=>conv=>lhs;cbv
def Ql4:AF:=Qit.1
abbrev Qid:Nat:=66
theorem QmK:Tryz.prog.funcs[Qid]? =some Tryz.f66:=Tryz.func66
theorem QnQ:QaA Tryz.prog Tryz.f66=some Ql4:=Qit.2
def Qkq:CFn Tryz.prog Tryz.f67:=by refine⟨?a,?h⟩;case h=>conv=>lhs;cbv
def Qnz:AF:=Qkq.1
abbrev Qkh:Nat:=67
theorem Qoc:Tryz.prog.funcs[Qkh]? =some Tryz.f67:=Tryz.func67
theorem Qpj:QaA Tryz.prog Tryz.f67=some Qnz:=Qkq.2
def Qgk:CFn Tryz.prog Tryz.f68:=by refine⟨?a,?h⟩;case h=>conv=>lhs;cbv
def Qje:AF:=Qgk.1
abbrev Qgd:Nat:=68
theorem QjS:Tryz.prog.funcs[Qgd]? =some Tryz.f68:=Tryz.func68
theorem QkS:QaA Tryz.prog Tryz.f68=some Qje:=Qgk.2
def Qfa:CFn Tryz.prog Tryz.f69:=by refine⟨?a,?h⟩;case h=>conv=>lhs;cbv
def Qhp:AF:=Qfa.1
abbrev Qe6:Nat:=69
theorem QhE:Tryz.prog.funcs[Qe6]? =some Tryz.f69:=Tryz.func69
theorem QiO:QaA Tryz.prog Tryz.f69=some Qhp:=Qfa.2
def Qhc:CFn Tryz.prog Tryz.f70:=by refine⟨?a,?h⟩;case h=>conv=>lhs;cbv
def QkN:AF:=Qhc.1
abbrev QgY:Nat:=70
theorem Qk4:Tryz.prog.funcs[QgY]? =some Tryz.f70:=Tryz.func70
theorem Qmk:QaA Tryz.prog Tryz.f70=some QkN:=Qhc.2
def Qil:CFn Tryz.prog Tryz.f71:=by refine⟨?a,?h⟩;case h=>conv=>lhs;cbv
def QlW:AF:=Qil.1
abbrev Qh6:Nat:=71
theorem QmC:Tryz.prog.funcs[Qh6]? =some Tryz.f71:=Tryz.func71
theorem QnI:QaA Tryz.prog Tryz.f71=some QlW:=Qil.2
def Qgi:CFn Tryz.prog Tryz.f76:=by refine⟨?a,?h⟩;case h=>conv=>lhs;cbv
def Qjc:AF:=Qgi.1
abbrev Qgb:Nat:=76
theorem QjQ:Tryz.prog.funcs[Qgb]? =some Tryz.f76:=Tryz.func76
theorem QkQ:QaA Tryz.prog Tryz.f76=some Qjc:=Qgi.2
def Qgj:CFn Tryz.prog Tryz.f77:=by refine⟨?a,?h⟩;case h=>conv=>lhs;cbv
def Qjd:AF:=Qgj.1
abbrev Qgc:Nat:=77
theorem QjR:Tryz.prog.funcs[Qgc]? =some Tryz.f77:=Tryz.func77
theorem QkR:QaA Tryz.prog Tryz.f77=some Qjd:=Qgj.2
def Qko:CFn Tryz.prog Tryz.f78:=by refine⟨?a,?h⟩;case h=>conv=>lhs;cbv
def Qnx:AF:=Qko.1
abbrev Qkf:Nat:=78
theorem Qoa:Tryz.prog.funcs[Qkf]? =some Tryz.f78:=Tryz.func78
theorem Qph:QaA Tryz.prog Tryz.f78=some Qnx:=Qko.2
def Qim:CFn Tryz.prog Tryz.f79:=by refine⟨?a,?h⟩;case h=>conv=>lhs;cbv
def QlX:AF:=Qim.1
abbrev Qh7:Nat:=79
theorem QmD:Tryz.prog.funcs[Qh7]? =some Tryz.f79:=Tryz.func79
theorem QnJ:QaA Tryz.prog Tryz.f79=some QlX:=Qim.2
def Qcc:CFn Tryz.prog Tryz.f80:=by refine⟨?a,?h⟩;case h=>conv=>lhs;cbv
def QdF:AF:=Qcc.1
abbrev Qb8:Nat:=80
theorem QdH:Tryz.prog.funcs[Qb8]? =some Tryz.f80:=Tryz.func80
theorem QdW:QaA Tryz.prog Tryz.f80=some QdF:=Qcc.2
def QfC:CFn Tryz.prog Tryz.f81:=by refine⟨?a,?h⟩;case h=>conv=>lhs;cbv
def QiG:AF:=QfC.1
abbrev Qfr:Nat:=81
theorem QiS:Tryz.prog.funcs[Qfr]? =some Tryz.f81:=Tryz.func81
theorem Qju:QaA Tryz.prog Tryz.f81=some QiG:=QfC.2
def QfB:CFn Tryz.prog Tryz.f82:=by refine⟨?a,?h⟩;case h=>conv=>lhs;cbv
def QiF:AF:=QfB.1
abbrev Qfq:Nat:=82
theorem QiR:Tryz.prog.funcs[Qfq]? =some Tryz.f82:=Tryz.func82
theorem Qjt:QaA Tryz.prog Tryz.f82=some QiF:=QfB.2
abbrev QaV:Nat:=83
def Qiv:CFn Tryz.prog Tryz.f84:=by refine⟨?a,?h⟩;case h=>conv=>lhs;cbv
def Ql6:AF:=Qiv.1
abbrev Qfv:Nat:=84
theorem QmM:Tryz.prog.funcs[Qfv]? =some Tryz.f84:=Tryz.func84
theorem QnS:QaA Tryz.prog Tryz.f84=some Ql6:=Qiv.2
def Qhb:CFn Tryz.prog Tryz.f85:=by refine⟨?a,?h⟩;case h=>conv=>lhs;cbv
def QkM:AF:=Qhb.1
abbrev QeR:Nat:=85
theorem Qga:Tryz.prog.funcs[QeR]? =some Tryz.f85:=Tryz.func85
theorem QgJ:QaA Tryz.prog Tryz.f85=some QkM:=Qhb.2
def Qe8:CFn Tryz.prog Tryz.f86:=by refine⟨?a,?h⟩;case h=>conv=>lhs;cbv
def Qhn:AF:=Qe8.1
abbrev Qe4:Nat:=86
theorem QhC:Tryz.prog.funcs[Qe4]? =some Tryz.f86:=Tryz.func86
theorem QiM:QaA Tryz.prog Tryz.f86=some Qhn:=Qe8.2
def Qg9:CFn Tryz.prog Tryz.f87:=by refine⟨?a,?h⟩;case h=>conv=>lhs;cbv
def QkK:AF:=Qg9.1
abbrev QgW:Nat:=87
theorem Qk2:Tryz.prog.funcs[QgW]? =some Tryz.f87:=Tryz.func87
theorem Qmi:QaA Tryz.prog Tryz.f87=some QkK:=Qg9.2
def Qir:CFn Tryz.prog Tryz.f99:=by refine⟨?a,?h⟩;case h=>conv=>lhs;cbv
def Ql2:AF:=Qir.1
abbrev Qib:Nat:=99
theorem QmI:Tryz.prog.funcs[Qib]? =some Tryz.f99:=Tryz.func99
theorem QnO:QaA Tryz.prog Tryz.f99=some Ql2:=Qir.2
def QlB:CFn Tryz.prog Tryz.f100:=by refine⟨?a,?h⟩;case h=>conv=>lhs;cbv
def Qo6:AF:=QlB.1
abbrev Qls:Nat:=100
theorem Qpx:Tryz.prog.funcs[Qls]? =some Tryz.f100:=Tryz.func100
theorem Qrz:QaA Tryz.prog Tryz.f100=some Qo6:=QlB.2
def Qiu:CFn Tryz.prog Tryz.f102:=by refine⟨?a,?h⟩;case h=>conv=>lhs;cbv
def Ql5:AF:=Qiu.1
abbrev Qie:Nat:=102
theorem QmL:Tryz.prog.funcs[Qie]? =some Tryz.f102:=Tryz.func102
theorem QnR:QaA Tryz.prog Tryz.f102=some Ql5:=Qiu.2
def Qev:CFn Tryz.prog Tryz.f103:=by refine⟨?a,?h⟩;case h=>conv=>lhs;cbv
def QgH:AF:=Qev.1
abbrev Qem:Nat:=103
theorem QgO:Tryz.prog.funcs[Qem]? =some Tryz.f103:=Tryz.func103
theorem Qht:QaA Tryz.prog Tryz.f103=some QgH:=Qev.2
def QfG:CFn Tryz.prog Tryz.f104:=by refine⟨?a,?h⟩;case h=>conv=>lhs;cbv
def QiK:AF:=QfG.1
abbrev Qfx:Nat:=104
theorem QiW:Tryz.prog.funcs[Qfx]? =some Tryz.f104:=Tryz.func104
theorem Qjy:QaA Tryz.prog Tryz.f104=some QiK:=QfG.2
def Qgn:CFn Tryz.prog Tryz.f105:=by refine⟨?a,?h⟩;case h=>conv=>lhs;cbv
def Qjh:AF:=Qgn.1
abbrev Qgf:Nat:=105
theorem QjV:Tryz.prog.funcs[Qgf]? =some Tryz.f105:=Tryz.func105
theorem QkV:QaA Tryz.prog Tryz.f105=some Qjh:=Qgn.2
def Qa4:CFn Tryz.prog Tryz.f108:=by refine⟨?a,?h⟩;case h=>conv=>lhs;cbv
def QbN:AF:=Qa4.1
abbrev QaL:Nat:=108
theorem QbQ:Tryz.prog.funcs[QaL]? =some Tryz.f108:=Tryz.func108
theorem QbV:QaA Tryz.prog Tryz.f108=some QbN:=Qa4.2
def Qij:CFn Tryz.prog Tryz.f109:=by refine⟨?a,?h⟩;case h=>conv=>lhs;cbv
def QlU:AF:=Qij.1
abbrev Qh5:Nat:=109
theorem QmA:Tryz.prog.funcs[Qh5]? =some Tryz.f109:=Tryz.func109
theorem QnG:QaA Tryz.prog Tryz.f109=some QlU:=Qij.2
def QcE:CFn Tryz.prog Tryz.f110:=by refine⟨?a,?h⟩;case h=>conv=>lhs;cbv
def QeB:AF:=QcE.1
abbrev QcC:Nat:=110
theorem QeK:Tryz.prog.funcs[QcC]? =some Tryz.f110:=Tryz.func110
theorem Qfe:QaA Tryz.prog Tryz.f110=some QeB:=QcE.2
def Qa1:CFn Tryz.prog Tryz.f111:=by refine⟨?a,?h⟩;case h=>conv=>lhs;cbv
def QbK:AF:=Qa1.1
abbrev QaZ:Nat:=111
theorem QbL:Tryz.prog.funcs[QaZ]? =some Tryz.f111:=Tryz.func111
theorem QbO:QaA Tryz.prog Tryz.f111=some QbK:=Qa1.2
def Qgl:CFn Tryz.prog Tryz.f118:=by refine⟨?a,?h⟩;case h=>conv=>lhs;cbv
def Qjf:AF:=Qgl.1
abbrev Qge:Nat:=118
theorem QjT:Tryz.prog.funcs[Qge]? =some Tryz.f118:=Tryz.func118
theorem QkT:QaA Tryz.prog Tryz.f118=some Qjf:=Qgl.2
def QfE:CFn Tryz.prog Tryz.f119:=by refine⟨?a,?h⟩;case h=>conv=>lhs;cbv
def QiI:AF:=QfE.1
abbrev Qfu:Nat:=119
theorem QiU:Tryz.prog.funcs[Qfu]? =some Tryz.f119:=Tryz.func119
theorem Qjw:QaA Tryz.prog Tryz.f119=some QiI:=QfE.2
def QfD:CFn Tryz.prog Tryz.f121:=by refine⟨?a,?h⟩;case h=>conv=>lhs;cbv
def QiH:AF:=QfD.1
abbrev Qfs:Nat:=121
theorem QiT:Tryz.prog.funcs[Qfs]? =some Tryz.f121:=Tryz.func121
theorem Qjv:QaA Tryz.prog Tryz.f121=some QiH:=QfD.2
def Qa7:CFn Tryz.prog Tryz.f124:=by refine⟨?a,?h⟩;case h=>conv=>lhs;cbv
def QbU:AF:=Qa7.1
abbrev Qb3:Nat:=124
theorem QbW:Tryz.prog.funcs[Qb3]? =some Tryz.f124:=Tryz.func124
theorem Qb0:QaA Tryz.prog Tryz.f124=some QbU:=Qa7.2
theorem mixed:Tryz.prog.follows .mixedOrders=true:=by decide
end Go.Ab
