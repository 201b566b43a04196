/-
  Merged texts, part y.
-/
import Derived.Test.YtohbofilgkdihaaGreatDoorZx
set_option linter.all false
namespace Go.Ab
open Go.Proofs
theorem Qx1(P:Program)(hP:P=Tryz.prog)(haw:QlV P)(t:Top)(down:List Bool)(s:Int)(q:List Int)(m:Ar)(hT:Qbt m):FnS P QdB [QaF t,Qau down,iA s,Qao q] [.am m] λr h'=>r=bA true/\∃m' tl,h'= .am m'::tl/\Qbt m':=by
 have haw:=QsY P haw m hT;have hall:=Qud P hP t down;have hli:=λhq=>Qr0 P hP t down s q hq
 have hpa:=λd hv h0 hp hg=>QyB P hP t d s q hv h0 hp hg
 have hec:=λhf l hs hw he hl hq hb=>QvA P hP t down hf s q l hs hw he hl hq hb
 have hsm:=QgH P hP q q;refine QaW (hP▸mixed) (hP▸Qf0) (hP▸Qgq) (nle rfl) λΛ Λo Q hQ=> ?_
 clear hP;have fin:=λm' tl hT=>hQ (bA true) (.am m'::tl) ⟨rfl,m',tl,rfl,hT⟩
 clear hQ;by_cases hq:q.length<=10
 ·replace hli:=hli (by omega);simp only[QBh]at hli;by_cases hf:QaK t down=true
  ·have hv:=Qdw hf;rw[QiL,if_pos hf]at hall;replace hec:=λl hs hw he hl hb=>hec hf l hs hw he hl hq hb
   replace hpa:=λd h0 hg=>hpa d hv h0 (by omega) hg
   rw[decide_eq_true rfl]at hsm;generalize QaK t down=fb at*;subst hf;generalize QbH t down t.nodes.toNat=xs at*;generalize Qdh t s q=d at*;generalize hRW:(λd=>RW t d s q)=rw0 at*;have hRW':∀d,RW t d s q=rw0 d:=λd=>by rw[<-hRW]
   simp only[hRW']at*;clear hRW hRW';generalize EncS t down s q=enc at*;obtain⟨cs,hcs⟩:∃z:Int,z=(q.map (Qbp t)).sum:=⟨_,rfl⟩;rw[<-hcs]at hpa;clear hcs;simp only[QaF,Qcy,Qcr,Qu5,Qau,Qao,Qax,QcI,QaZ,Qaf,Qak,Qzw]at*;generalize hxl:List.map Qav xs=xl at*;generalize hol:t.ov.map QaY=ol at*;generalize hll:t.links.map Qaz=ll at*;generalize hdl:down.map QaY=dl at*;generalize t.nodes=nodes at*;have lq:=Λo (q.map Qar);rw[List.length_map]at lq;obtain⟨ql,hql⟩:∃z,z=q.map Qar:=⟨_,rfl⟩;obtain⟨al,hal⟩:∃z:List (List D),z=List.map Qfg [⟨d,-1,q⟩]:=⟨_,rfl⟩;have l1:Λ al=1:=by rw[Λo,hal];rfl
   have he0:al[(0:Int).toNat]? =some [iD d,iD (-1),.list false 1 ql]:=by rw[hal,hql];rfl
   rw[<-hal]at hec;clear hal;rw[<-hql]at lq hli hpa hsm;simp only[<-hql]at*;clear hql
   conv=>cbv
   repeat' first|(left;intro(_:Unit);(conv=>cbv))|(refine QaH [0] haw ?_;rintro r hc' ⟨m1,rfl,hT1,rfl⟩;(conv=>cbv))|(refine Qag hall rfl rfl ?_;conv=>cbv)|(refine QaH [] hli ?_;rintro r hc' ⟨⟨l,e,rfl,hle⟩,rfl⟩;(have hec2:=hec l);generalize List.map Qaj l=sl at *;(conv=>cbv))|exact fin _ _ (by assumption)|exact gxQ|refine And.intro ?_ ?_|(intro hc;(first|rw[wS (by omega) (by omega)]at hc|rw[Qab]at hc|skip);try (conv=>cbv))
   obtain⟨-,h1,h2,h3,h4,h5⟩:=hle (by omega);have hp1:=hpa d h1 h2;have hw:=hec2 h1 h2 h3 h4 h5;have hwf:=λm hT=>(FnS.fg (hw m hT):FnS P Qdq [.agg [.d (iD nodes),.d (.list false 1 ol),.d (.list false 7 ll)],.c (.d (.list false 3 xl)),.agg [.d (iD 0),.d (iD 0),.d (iD d),.d (iD 0),.d (.list false 2 sl),.d (iD 0)],iA s] [.am m] _)
   have hw1:=hwf m1 hT1;clear hpa hec hec2 hle h2 h3 h4 h5 hw hwf haw hall hli
   conv=>cbv
   repeat' first|(left;intro(_:Unit);(conv=>cbv))|(refine Qag hp1 rfl rfl ?_;conv=>cbv)|(refine QaH [0] hw1 ?_;rintro r hc' ⟨m2,rfl,hT2,rfl⟩;(conv=>cbv))|(intro(e:List D) he;cases osj (he.symm.trans he0);(conv=>cbv))|(refine Qag hsm rfl rfl ?_;conv=>cbv)|exact fin _ _ (by assumption)|exact gxQ|refine And.intro ?_ ?_|(intro hc;(first|rw[wS (by omega) (by omega)]at hc|rw[Qab]at hc|skip);try (conv=>cbv))
  ·have hbad:(QiL t down).2≠0:=by rw[QiL,if_neg hf];simp
   obtain⟨ea,hea⟩:∃e,e=(QiL t down).2:=⟨_,rfl⟩;rw[<-hea]at hall hbad;clear hpa hec hea;generalize (QiL t down).1=xs at*;have hff:QaK t down=false:=by simpa using hf
   rw[hff]at hli;generalize hRW:RW t (Qdh t s q) s q=rw0 at*;clear hRW;generalize EncS t down s q=enc at*;clear hf hff;simp only[QaF,Qcy,Qau,Qao,Qax,QcI,QaZ,Qaf,Qak]at*;generalize hxl:List.map Qav xs=xl at*;generalize hol:t.ov.map QaY=ol at*;generalize hll:t.links.map Qaz=ll at*;generalize hdl:down.map QaY=dl at*;generalize t.nodes=nodes at*;generalize q.map Qar=ql at*
   conv=>cbv
   repeat' first|(left;intro(_:Unit);(conv=>cbv))|(refine QaH [0] haw ?_;rintro r hc' ⟨m1,rfl,hT1,rfl⟩;(conv=>cbv))|(refine Qag hall rfl rfl ?_;conv=>cbv)|(refine QaH [] hli ?_;rintro r hc' ⟨⟨l,e,rfl,hle⟩,rfl⟩;(conv=>cbv))|exact fin _ _ (by assumption)|exact gxQ|refine And.intro ?_ ?_|(intro hc;(first|rw[wS (by omega) (by omega)]at hc|rw[Qab]at hc|skip);try (conv=>cbv))
 ·clear hall hli hpa hec hsm;have lq:=Λo (q.map Qar);rw[List.length_map]at lq;simp only[QaF,Qau,Qao,Qax,Qaf,Qak]at*;generalize hol:t.ov.map QaY=ol at*;generalize hll:t.links.map Qaz=ll at*;generalize hdl:down.map QaY=dl at*;generalize t.nodes=nodes at*;generalize q.map Qar=ql at*
  conv=>cbv
  repeat' first|(left;intro(_:Unit);(conv=>cbv))|(refine QaH [0] haw ?_;rintro r hc' ⟨m1,rfl,hT1,rfl⟩;(conv=>cbv))|exact fin _ _ (by assumption)|exact gxQ|refine And.intro ?_ ?_|(intro hc;(first|rw[wS (by omega) (by omega)]at hc|rw[Qab]at hc|skip);try (conv=>cbv))
end Go.Ab
