/-
  Merged texts, part l.
-/
import Derived.Test.YtohbofilgkdihaaGreatDoorZk
import Derived.Test.YtohbofilgkdihaaGreatDoorProg
set_option linter.all false
namespace Go.Ab
open Go.Proofs
set_option maxRecDepth 100000
abbrev CFn (P:Program) (f:Func):={a:AF // Qay P f=some a}
def QfL:CFn Tryz.prog Tryz.f6:=by refine⟨?a,?h⟩;case h=>conv=>lhs;cbv
def Qbl:AF:=QfL.1
abbrev QfA:Nat:=6
theorem Qi7:Tryz.prog.funcs[QfA]? =some Tryz.f6:=Tryz.func6
theorem QjL:Qay Tryz.prog Tryz.f6=some Qbl:=QfL.2
def Qhh:CFn Tryz.prog Tryz.f9:=by refine⟨?a,?h⟩;case h=>conv=>lhs;cbv
def Qau:AF:=Qhh.1
abbrev QcD:Nat:=9
theorem Qgi:Tryz.prog.funcs[QcD]? =some Tryz.f9:=Tryz.func9
theorem QmA:Qay Tryz.prog Tryz.f9=some Qau:=Qhh.2
def Qhi:CFn Tryz.prog Tryz.f10:=by refine⟨?a,?h⟩;case h=>conv=>lhs;cbv
def Qk2:AF:=Qhi.1
abbrev QeT:Nat:=10
theorem Qlm:Tryz.prog.funcs[QeT]? =some Tryz.f10:=Tryz.func10
theorem QmB:Qay Tryz.prog Tryz.f10=some Qk2:=Qhi.2
def QlV:CFn Tryz.prog Tryz.f11:=by refine⟨?a,?h⟩;case h=>conv=>lhs;cbv
def QpA:AF:=QlV.1
abbrev Qf1:Nat:=11
theorem Qp4:Tryz.prog.funcs[Qf1]? =some Tryz.f11:=Tryz.func11
theorem Qse:Qay Tryz.prog Tryz.f11=some QpA:=QlV.2
def QiJ:CFn Tryz.prog Tryz.f13:=by refine⟨?a,?h⟩;case h=>conv=>lhs;cbv
def Qms:AF:=QiJ.1
abbrev Qir:Nat:=13
theorem Qna:Tryz.prog.funcs[Qir]? =some Tryz.f13:=Tryz.func13
theorem Qoi:Qay Tryz.prog Tryz.f13=some Qms:=QiJ.2
def QiK:CFn Tryz.prog Tryz.f15:=by refine⟨?a,?h⟩;case h=>conv=>lhs;cbv
def Qmt:AF:=QiK.1
abbrev Qd0:Nat:=15
theorem Qnb:Tryz.prog.funcs[Qd0]? =some Tryz.f15:=Tryz.func15
theorem Qoj:Qay Tryz.prog Tryz.f15=some Qmt:=QiK.2
def QgB:CFn Tryz.prog Tryz.f17:=by refine⟨?a,?h⟩;case h=>conv=>lhs;cbv
def Qjx:AF:=QgB.1
abbrev Qc0:Nat:=17
theorem Qke:Tryz.prog.funcs[Qc0]? =some Tryz.f17:=Tryz.func17
theorem Qli:Qay Tryz.prog Tryz.f17=some Qjx:=QgB.2
def Qfd:CFn Tryz.prog Tryz.f19:=by refine⟨?a,?h⟩;case h=>conv=>lhs;cbv
def Qhz:AF:=Qfd.1
abbrev Qdk:Nat:=19
theorem QhM:Tryz.prog.funcs[Qdk]? =some Tryz.f19:=Tryz.func19
theorem QiZ:Qay Tryz.prog Tryz.f19=some Qhz:=Qfd.2
def QkK:CFn Tryz.prog Tryz.f21:=by refine⟨?a,?h⟩;case h=>conv=>lhs;cbv
def QnY:AF:=QkK.1
abbrev QeU:Nat:=21
theorem QoC:Tryz.prog.funcs[QeU]? =some Tryz.f21:=Tryz.func21
theorem QpO:Qay Tryz.prog Tryz.f21=some QnY:=QkK.2
def QlW:CFn Tryz.prog Tryz.f23:=by refine⟨?a,?h⟩;case h=>conv=>lhs;cbv
def QpB:AF:=QlW.1
abbrev Qf2:Nat:=23
theorem Qp5:Tryz.prog.funcs[Qf2]? =some Tryz.f23:=Tryz.func23
theorem Qsf:Qay Tryz.prog Tryz.f23=some QpB:=QlW.2
def Qgv:CFn Tryz.prog Tryz.f24:=by refine⟨?a,?h⟩;case h=>conv=>lhs;cbv
def Qjr:AF:=Qgv.1
abbrev Qgm:Nat:=24
theorem Qj8:Tryz.prog.funcs[Qgm]? =some Tryz.f24:=Tryz.func24
theorem Qlc:Qay Tryz.prog Tryz.f24=some Qjr:=Qgv.2
def Qgz:CFn Tryz.prog Tryz.f25:=by refine⟨?a,?h⟩;case h=>conv=>lhs;cbv
def Qjv:AF:=Qgz.1
abbrev Qgp:Nat:=25
theorem Qkc:Tryz.prog.funcs[Qgp]? =some Tryz.f25:=Tryz.func25
theorem Qlg:Qay Tryz.prog Tryz.f25=some Qjv:=Qgz.2
def Qff:CFn Tryz.prog Tryz.f26:=by refine⟨?a,?h⟩;case h=>conv=>lhs;cbv
def QhB:AF:=Qff.1
abbrev Qfa:Nat:=26
theorem QhO:Tryz.prog.funcs[Qfa]? =some Tryz.f26:=Tryz.func26
theorem Qi1:Qay Tryz.prog Tryz.f26=some QhB:=Qff.2
def QiC:CFn Tryz.prog Tryz.f28:=by refine⟨?a,?h⟩;case h=>conv=>lhs;cbv
def Qml:AF:=QiC.1
abbrev Qim:Nat:=28
theorem Qm3:Tryz.prog.funcs[Qim]? =some Tryz.f28:=Tryz.func28
theorem Qob:Qay Tryz.prog Tryz.f28=some Qml:=QiC.2
def QiB:CFn Tryz.prog Tryz.f29:=by refine⟨?a,?h⟩;case h=>conv=>lhs;cbv
def Qmk:AF:=QiB.1
abbrev QfB:Nat:=29
theorem Qm2:Tryz.prog.funcs[QfB]? =some Tryz.f29:=Tryz.func29
theorem Qoa:Qay Tryz.prog Tryz.f29=some Qmk:=QiB.2
def QfN:CFn Tryz.prog Tryz.f30:=by refine⟨?a,?h⟩;case h=>conv=>lhs;cbv
def QiW:AF:=QfN.1
abbrev QdH:Nat:=30
theorem Qi9:Tryz.prog.funcs[QdH]? =some Tryz.f30:=Tryz.func30
theorem QjN:Qay Tryz.prog Tryz.f30=some QiW:=QfN.2
def Qho:CFn Tryz.prog Tryz.f31:=by refine⟨?a,?h⟩;case h=>conv=>lhs;cbv
def Qk8:AF:=Qho.1
abbrev QeW:Nat:=31
theorem Qlr:Tryz.prog.funcs[QeW]? =some Tryz.f31:=Tryz.func31
theorem QmG:Qay Tryz.prog Tryz.f31=some Qk8:=Qho.2
def QbN:CFn Tryz.prog Tryz.f32:=by refine⟨?a,?h⟩;case h=>conv=>lhs;cbv
def Qdi:AF:=QbN.1
abbrev QbL:Nat:=32
theorem Qdj:Tryz.prog.funcs[QbL]? =some Tryz.f32:=Tryz.func32
theorem Qdp:Qay Tryz.prog Tryz.f32=some Qdi:=QbN.2
def Qde:CFn Tryz.prog Tryz.f33:=by refine⟨?a,?h⟩;case h=>conv=>lhs;cbv
def Qfj:AF:=Qde.1
abbrev Qdd:Nat:=33
theorem Qfl:Tryz.prog.funcs[Qdd]? =some Tryz.f33:=Tryz.func33
theorem Qfo:Qay Tryz.prog Tryz.f33=some Qfj:=Qde.2
abbrev Qdc:Nat:=36
theorem QcH:Tryz.prog.funcs[Qdc]? =some Tryz.f36:=Tryz.func36
def Qct:CFn Tryz.prog Tryz.f37:=by refine⟨?a,?h⟩;case h=>conv=>lhs;cbv
def Qd7:AF:=Qct.1
abbrev Qcp:Nat:=37
theorem Qea:Tryz.prog.funcs[Qcp]? =some Tryz.f37:=Tryz.func37
theorem Qek:Qay Tryz.prog Tryz.f37=some Qd7:=Qct.2
def Qiz:CFn Tryz.prog Tryz.f38:=by refine⟨?a,?h⟩;case h=>conv=>lhs;cbv
def Qmi:AF:=Qiz.1
abbrev Qik:Nat:=38
theorem Qm0:Tryz.prog.funcs[Qik]? =some Tryz.f38:=Tryz.func38
theorem Qn8:Qay Tryz.prog Tryz.f38=some Qmi:=Qiz.2
def QkI:CFn Tryz.prog Tryz.f39:=by refine⟨?a,?h⟩;case h=>conv=>lhs;cbv
def QnW:AF:=QkI.1
abbrev Qkx:Nat:=39
theorem QoA:Tryz.prog.funcs[Qkx]? =some Tryz.f39:=Tryz.func39
theorem QpM:Qay Tryz.prog Tryz.f39=some QnW:=QkI.2
def QiE:CFn Tryz.prog Tryz.f42:=by refine⟨?a,?h⟩;case h=>conv=>lhs;cbv
def Qmn:AF:=QiE.1
abbrev Qio:Nat:=42
theorem Qm5:Tryz.prog.funcs[Qio]? =some Tryz.f42:=Tryz.func42
theorem Qod:Qay Tryz.prog Tryz.f42=some Qmn:=QiE.2
def Qgy:CFn Tryz.prog Tryz.f43:=by refine⟨?a,?h⟩;case h=>conv=>lhs;cbv
def Qju:AF:=Qgy.1
abbrev Qed:Nat:=43
theorem Qkb:Tryz.prog.funcs[Qed]? =some Tryz.f43:=Tryz.func43
theorem Qlf:Qay Tryz.prog Tryz.f43=some Qju:=Qgy.2
def Qhj:CFn Tryz.prog Tryz.f44:=by refine⟨?a,?h⟩;case h=>conv=>lhs;cbv
def Qk3:AF:=Qhj.1
abbrev Qg7:Nat:=44
theorem Qln:Tryz.prog.funcs[Qg7]? =some Tryz.f44:=Tryz.func44
theorem QmC:Qay Tryz.prog Tryz.f44=some Qk3:=Qhj.2
def Qd5:CFn Tryz.prog Tryz.f45:=by refine⟨?a,?h⟩;case h=>conv=>lhs;cbv
def QgD:AF:=Qd5.1
abbrev QdZ:Nat:=45
theorem QgN:Tryz.prog.funcs[QdZ]? =some Tryz.f45:=Tryz.func45
theorem QgW:Qay Tryz.prog Tryz.f45=some QgD:=Qd5.2
def QiA:CFn Tryz.prog Tryz.f46:=by refine⟨?a,?h⟩;case h=>conv=>lhs;cbv
def Qmj:AF:=QiA.1
abbrev Qil:Nat:=46
theorem Qm1:Tryz.prog.funcs[Qil]? =some Tryz.f46:=Tryz.func46
theorem Qn9:Qay Tryz.prog Tryz.f46=some Qmj:=QiA.2
def QiL:CFn Tryz.prog Tryz.f47:=by refine⟨?a,?h⟩;case h=>conv=>lhs;cbv
def Qmu:AF:=QiL.1
abbrev Qis:Nat:=47
theorem Qnc:Tryz.prog.funcs[Qis]? =some Tryz.f47:=Tryz.func47
theorem Qok:Qay Tryz.prog Tryz.f47=some Qmu:=QiL.2
abbrev Qkz:Nat:=48
theorem QoD:Tryz.prog.funcs[Qkz]? =some Tryz.f48:=Tryz.func48
def Qgs:CFn Tryz.prog Tryz.f49:=by refine⟨?a,?h⟩;case h=>conv=>lhs;cbv
def Qjo:AF:=Qgs.1
abbrev Qec:Nat:=49
theorem Qj5:Tryz.prog.funcs[Qec]? =some Tryz.f49:=Tryz.func49
theorem Qk9:Qay Tryz.prog Tryz.f49=some Qjo:=Qgs.2
def QlX:CFn Tryz.prog Tryz.f50:=by refine⟨?a,?h⟩;case h=>conv=>lhs;cbv
def QcN:AF:=QlX.1
abbrev QlM:Nat:=50
theorem Qkf:Tryz.prog.funcs[QlM]? =some Tryz.f50:=Tryz.func50
theorem Qsg:Qay Tryz.prog Tryz.f50=some QcN:=QlX.2
def Qiw:CFn Tryz.prog Tryz.f51:=by refine⟨?a,?h⟩;case h=>conv=>lhs;cbv
def Qmf:AF:=Qiw.1
abbrev QdY:Nat:=51
theorem QmX:Tryz.prog.funcs[QdY]? =some Tryz.f51:=Tryz.func51
theorem Qn5:Qay Tryz.prog Tryz.f51=some Qmf:=Qiw.2
def Qfc:CFn Tryz.prog Tryz.f52:=by refine⟨?a,?h⟩;case h=>conv=>lhs;cbv
def Qhy:AF:=Qfc.1
abbrev Qaj:Nat:=52
theorem Qep:Tryz.prog.funcs[Qaj]? =some Tryz.f52:=Tryz.func52
theorem QiY:Qay Tryz.prog Tryz.f52=some Qhy:=Qfc.2
def QeB:CFn Tryz.prog Tryz.f53:=by refine⟨?a,?h⟩;case h=>conv=>lhs;cbv
def QgU:AF:=QeB.1
abbrev QcV:Nat:=53
theorem QgZ:Tryz.prog.funcs[QcV]? =some Tryz.f53:=Tryz.func53
theorem QhD:Qay Tryz.prog Tryz.f53=some QgU:=QeB.2
def QiI:CFn Tryz.prog Tryz.f54:=by refine⟨?a,?h⟩;case h=>conv=>lhs;cbv
def Qmr:AF:=QiI.1
abbrev QfE:Nat:=54
theorem Qm9:Tryz.prog.funcs[QfE]? =some Tryz.f54:=Tryz.func54
theorem Qoh:Qay Tryz.prog Tryz.f54=some Qmr:=QiI.2
def Qhl:CFn Tryz.prog Tryz.f55:=by refine⟨?a,?h⟩;case h=>conv=>lhs;cbv
def Qk5:AF:=Qhl.1
abbrev Qg9:Nat:=55
theorem Qlp:Tryz.prog.funcs[Qg9]? =some Tryz.f55:=Tryz.func55
theorem QmE:Qay Tryz.prog Tryz.f55=some Qk5:=Qhl.2
def QfP:CFn Tryz.prog Tryz.f56:=by refine⟨?a,?h⟩;case h=>conv=>lhs;cbv
def Qe8:AF:=QfP.1
abbrev QaL:Nat:=56
theorem Qck:Tryz.prog.funcs[QaL]? =some Tryz.f56:=Tryz.func56
theorem Qfp:Qay Tryz.prog Tryz.f56=some Qe8:=QfP.2
def QcJ:CFn Tryz.prog Tryz.f59:=by refine⟨?a,?h⟩;case h=>conv=>lhs;cbv
def QeH:AF:=QcJ.1
abbrev QaG:Nat:=59
theorem QbC:Tryz.prog.funcs[QaG]? =some Tryz.f59:=Tryz.func59
theorem QbI:Qay Tryz.prog Tryz.f59=some QeH:=QcJ.2
def QlU:CFn Tryz.prog Tryz.f63:=by refine⟨?a,?h⟩;case h=>conv=>lhs;cbv
def Qpz:AF:=QlU.1
abbrev QlL:Nat:=63
theorem Qp3:Tryz.prog.funcs[QlL]? =some Tryz.f63:=Tryz.func63
theorem Qsd:Qay Tryz.prog Tryz.f63=some Qpz:=QlU.2
def QiF:CFn Tryz.prog Tryz.f66:=by refine⟨?a,?h⟩;case h=>conv=>lhs;cbv
def Qmo:AF:=QiF.1
abbrev Qip:Nat:=66
theorem Qm6:Tryz.prog.funcs[Qip]? =some Tryz.f66:=Tryz.func66
theorem Qoe:Qay Tryz.prog Tryz.f66=some Qmo:=QiF.2
def QkJ:CFn Tryz.prog Tryz.f67:=by refine⟨?a,?h⟩;case h=>conv=>lhs;cbv
def QnX:AF:=QkJ.1
abbrev Qky:Nat:=67
theorem QoB:Tryz.prog.funcs[Qky]? =some Tryz.f67:=Tryz.func67
theorem QpN:Qay Tryz.prog Tryz.f67=some QnX:=QkJ.2
def Qgw:CFn Tryz.prog Tryz.f68:=by refine⟨?a,?h⟩;case h=>conv=>lhs;cbv
def Qjs:AF:=Qgw.1
abbrev Qgn:Nat:=68
theorem Qj9:Tryz.prog.funcs[Qgn]? =some Tryz.f68:=Tryz.func68
theorem Qld:Qay Tryz.prog Tryz.f68=some Qjs:=Qgw.2
def Qfg:CFn Tryz.prog Tryz.f69:=by refine⟨?a,?h⟩;case h=>conv=>lhs;cbv
def QhC:AF:=Qfg.1
abbrev Qfb:Nat:=69
theorem QhP:Tryz.prog.funcs[Qfb]? =some Tryz.f69:=Tryz.func69
theorem Qi2:Qay Tryz.prog Tryz.f69=some QhC:=Qfg.2
def Qhn:CFn Tryz.prog Tryz.f70:=by refine⟨?a,?h⟩;case h=>conv=>lhs;cbv
def Qk7:AF:=Qhn.1
abbrev Qha:Nat:=70
theorem Qlq:Tryz.prog.funcs[Qha]? =some Tryz.f70:=Tryz.func70
theorem QmF:Qay Tryz.prog Tryz.f70=some Qk7:=Qhn.2
def Qix:CFn Tryz.prog Tryz.f71:=by refine⟨?a,?h⟩;case h=>conv=>lhs;cbv
def Qmg:AF:=Qix.1
abbrev Qii:Nat:=71
theorem QmY:Tryz.prog.funcs[Qii]? =some Tryz.f71:=Tryz.func71
theorem Qn6:Qay Tryz.prog Tryz.f71=some Qmg:=Qix.2
def Qgt:CFn Tryz.prog Tryz.f76:=by refine⟨?a,?h⟩;case h=>conv=>lhs;cbv
def Qjp:AF:=Qgt.1
abbrev Qgk:Nat:=76
theorem Qj6:Tryz.prog.funcs[Qgk]? =some Tryz.f76:=Tryz.func76
theorem Qla:Qay Tryz.prog Tryz.f76=some Qjp:=Qgt.2
def Qgu:CFn Tryz.prog Tryz.f77:=by refine⟨?a,?h⟩;case h=>conv=>lhs;cbv
def Qjq:AF:=Qgu.1
abbrev Qgl:Nat:=77
theorem Qj7:Tryz.prog.funcs[Qgl]? =some Tryz.f77:=Tryz.func77
theorem Qlb:Qay Tryz.prog Tryz.f77=some Qjq:=Qgu.2
def QkH:CFn Tryz.prog Tryz.f78:=by refine⟨?a,?h⟩;case h=>conv=>lhs;cbv
def QnV:AF:=QkH.1
abbrev Qkw:Nat:=78
theorem Qoz:Tryz.prog.funcs[Qkw]? =some Tryz.f78:=Tryz.func78
theorem QpL:Qay Tryz.prog Tryz.f78=some QnV:=QkH.2
def Qiy:CFn Tryz.prog Tryz.f79:=by refine⟨?a,?h⟩;case h=>conv=>lhs;cbv
def Qmh:AF:=Qiy.1
abbrev Qij:Nat:=79
theorem QmZ:Tryz.prog.funcs[Qij]? =some Tryz.f79:=Tryz.func79
theorem Qn7:Qay Tryz.prog Tryz.f79=some Qmh:=Qiy.2
def Qcg:CFn Tryz.prog Tryz.f80:=by refine⟨?a,?h⟩;case h=>conv=>lhs;cbv
def QdP:AF:=Qcg.1
abbrev Qcc:Nat:=80
theorem QdS:Tryz.prog.funcs[Qcc]? =some Tryz.f80:=Tryz.func80
theorem Qd8:Qay Tryz.prog Tryz.f80=some QdP:=Qcg.2
def QfJ:CFn Tryz.prog Tryz.f81:=by refine⟨?a,?h⟩;case h=>conv=>lhs;cbv
def QiT:AF:=QfJ.1
abbrev Qfy:Nat:=81
theorem Qi5:Tryz.prog.funcs[Qfy]? =some Tryz.f81:=Tryz.func81
theorem QjJ:Qay Tryz.prog Tryz.f81=some QiT:=QfJ.2
def QfI:CFn Tryz.prog Tryz.f82:=by refine⟨?a,?h⟩;case h=>conv=>lhs;cbv
def QiS:AF:=QfI.1
abbrev Qfx:Nat:=82
theorem Qi4:Tryz.prog.funcs[Qfx]? =some Tryz.f82:=Tryz.func82
theorem QjI:Qay Tryz.prog Tryz.f82=some QiS:=QfI.2
abbrev QaW:Nat:=83
def QiH:CFn Tryz.prog Tryz.f84:=by refine⟨?a,?h⟩;case h=>conv=>lhs;cbv
def Qmq:AF:=QiH.1
abbrev QfD:Nat:=84
theorem Qm8:Tryz.prog.funcs[QfD]? =some Tryz.f84:=Tryz.func84
theorem Qog:Qay Tryz.prog Tryz.f84=some Qmq:=QiH.2
def Qhm:CFn Tryz.prog Tryz.f85:=by refine⟨?a,?h⟩;case h=>conv=>lhs;cbv
def Qk6:AF:=Qhm.1
abbrev QeV:Nat:=85
theorem Qgj:Tryz.prog.funcs[QeV]? =some Tryz.f85:=Tryz.func85
theorem QgX:Qay Tryz.prog Tryz.f85=some Qk6:=Qhm.2
def Qfe:CFn Tryz.prog Tryz.f86:=by refine⟨?a,?h⟩;case h=>conv=>lhs;cbv
def QhA:AF:=Qfe.1
abbrev Qe9:Nat:=86
theorem QhN:Tryz.prog.funcs[Qe9]? =some Tryz.f86:=Tryz.func86
theorem Qi0:Qay Tryz.prog Tryz.f86=some QhA:=Qfe.2
def Qhk:CFn Tryz.prog Tryz.f87:=by refine⟨?a,?h⟩;case h=>conv=>lhs;cbv
def Qk4:AF:=Qhk.1
abbrev Qg8:Nat:=87
theorem Qlo:Tryz.prog.funcs[Qg8]? =some Tryz.f87:=Tryz.func87
theorem QmD:Qay Tryz.prog Tryz.f87=some Qk4:=Qhk.2
def QiD:CFn Tryz.prog Tryz.f99:=by refine⟨?a,?h⟩;case h=>conv=>lhs;cbv
def Qmm:AF:=QiD.1
abbrev Qin:Nat:=99
theorem Qm4:Tryz.prog.funcs[Qin]? =some Tryz.f99:=Tryz.func99
theorem Qoc:Qay Tryz.prog Tryz.f99=some Qmm:=QiD.2
def QlT:CFn Tryz.prog Tryz.f100:=by refine⟨?a,?h⟩;case h=>conv=>lhs;cbv
def Qpy:AF:=QlT.1
abbrev QlK:Nat:=100
theorem Qp2:Tryz.prog.funcs[QlK]? =some Tryz.f100:=Tryz.func100
theorem Qsc:Qay Tryz.prog Tryz.f100=some Qpy:=QlT.2
def QiG:CFn Tryz.prog Tryz.f102:=by refine⟨?a,?h⟩;case h=>conv=>lhs;cbv
def Qmp:AF:=QiG.1
abbrev Qiq:Nat:=102
theorem Qm7:Tryz.prog.funcs[Qiq]? =some Tryz.f102:=Tryz.func102
theorem Qof:Qay Tryz.prog Tryz.f102=some Qmp:=QiG.2
def QeC:CFn Tryz.prog Tryz.f103:=by refine⟨?a,?h⟩;case h=>conv=>lhs;cbv
def QgV:AF:=QeC.1
abbrev Qev:Nat:=103
theorem Qg0:Tryz.prog.funcs[Qev]? =some Tryz.f103:=Tryz.func103
theorem QhE:Qay Tryz.prog Tryz.f103=some QgV:=QeC.2
def QfO:CFn Tryz.prog Tryz.f104:=by refine⟨?a,?h⟩;case h=>conv=>lhs;cbv
def QiX:AF:=QfO.1
abbrev QfF:Nat:=104
theorem Qja:Tryz.prog.funcs[QfF]? =some Tryz.f104:=Tryz.func104
theorem QjO:Qay Tryz.prog Tryz.f104=some QiX:=QfO.2
def QgA:CFn Tryz.prog Tryz.f105:=by refine⟨?a,?h⟩;case h=>conv=>lhs;cbv
def Qjw:AF:=QgA.1
abbrev Qgq:Nat:=105
theorem Qkd:Tryz.prog.funcs[Qgq]? =some Tryz.f105:=Tryz.func105
theorem Qlh:Qay Tryz.prog Tryz.f105=some Qjw:=QgA.2
def Qa7:CFn Tryz.prog Tryz.f108:=by refine⟨?a,?h⟩;case h=>conv=>lhs;cbv
def QbQ:AF:=Qa7.1
abbrev QaM:Nat:=108
theorem QbT:Tryz.prog.funcs[QaM]? =some Tryz.f108:=Tryz.func108
theorem QbY:Qay Tryz.prog Tryz.f108=some QbQ:=Qa7.2
def Qiv:CFn Tryz.prog Tryz.f109:=by refine⟨?a,?h⟩;case h=>conv=>lhs;cbv
def Qme:AF:=Qiv.1
abbrev Qih:Nat:=109
theorem QmW:Tryz.prog.funcs[Qih]? =some Tryz.f109:=Tryz.func109
theorem Qn4:Qay Tryz.prog Tryz.f109=some Qme:=Qiv.2
def QcK:CFn Tryz.prog Tryz.f110:=by refine⟨?a,?h⟩;case h=>conv=>lhs;cbv
def QeI:AF:=QcK.1
abbrev QcI:Nat:=110
theorem QeP:Tryz.prog.funcs[QcI]? =some Tryz.f110:=Tryz.func110
theorem Qfk:Qay Tryz.prog Tryz.f110=some QeI:=QcK.2
def Qa4:CFn Tryz.prog Tryz.f111:=by refine⟨?a,?h⟩;case h=>conv=>lhs;cbv
def QbO:AF:=Qa4.1
abbrev Qa2:Nat:=111
theorem QbP:Tryz.prog.funcs[Qa2]? =some Tryz.f111:=Tryz.func111
theorem QbR:Qay Tryz.prog Tryz.f111=some QbO:=Qa4.2
def Qgx:CFn Tryz.prog Tryz.f118:=by refine⟨?a,?h⟩;case h=>conv=>lhs;cbv
def Qjt:AF:=Qgx.1
abbrev Qgo:Nat:=118
theorem Qka:Tryz.prog.funcs[Qgo]? =some Tryz.f118:=Tryz.func118
theorem Qle:Qay Tryz.prog Tryz.f118=some Qjt:=Qgx.2
def QfM:CFn Tryz.prog Tryz.f119:=by refine⟨?a,?h⟩;case h=>conv=>lhs;cbv
def QiV:AF:=QfM.1
abbrev QfC:Nat:=119
theorem Qi8:Tryz.prog.funcs[QfC]? =some Tryz.f119:=Tryz.func119
theorem QjM:Qay Tryz.prog Tryz.f119=some QiV:=QfM.2
def QfK:CFn Tryz.prog Tryz.f121:=by refine⟨?a,?h⟩;case h=>conv=>lhs;cbv
def QiU:AF:=QfK.1
abbrev Qfz:Nat:=121
theorem Qi6:Tryz.prog.funcs[Qfz]? =some Tryz.f121:=Tryz.func121
theorem QjK:Qay Tryz.prog Tryz.f121=some QiU:=QfK.2
def Qa9:CFn Tryz.prog Tryz.f124:=by refine⟨?a,?h⟩;case h=>conv=>lhs;cbv
def QbX:AF:=Qa9.1
abbrev Qb8:Nat:=124
theorem Qb1:Tryz.prog.funcs[Qb8]? =some Tryz.f124:=Tryz.func124
theorem Qb5:Qay Tryz.prog Tryz.f124=some QbX:=Qa9.2
theorem mixed:Tryz.prog.follows .mixedOrders=true:=by decide
end Go.Ab
