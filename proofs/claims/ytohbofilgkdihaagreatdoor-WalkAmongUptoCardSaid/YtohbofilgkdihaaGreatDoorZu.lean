/-
  Merged texts, part u.
-/
import Derived.Test.YtohbofilgkdihaaGreatDoorZt
set_option linter.all false
namespace Go.Ab
open Go.Proofs
def QpB(g:Wlk)(x:WSt):Bool:= !(decide ((g.ar x).length=0)&&decide (g.rs x≠ -1))
def Qxx(g:Wlk)(U:List WSt)(s:WSt)(e:Int):Bool×Int:=
 if e=0 then (match dfs g.nx U.length [] s with
  |none=>(false,16)
  |some _=>(U.all (QpB g),0))else (false,e)
theorem Qvz{α:Type}{l l':List α}{f:α->Bool}(h:∀x,x∈l↔x∈l'):l.all f=l'.all f:=by
 rw[Bool.eq_iff_iff,List.all_eq_true,List.all_eq_true];exact⟨λhf x hx=>hf x ((h x).2 hx),λhf x hx=>hf x ((h x).1 hx)⟩
structure PlR (g:Wlk) (m:Ar) (ks:List WSt) (bn:Nat) (cap:Nat):Prop where
 at_:∃N xs,m bn=some (.cs N xs)/\∀(k:Nat) (x:WSt),ks[k]? =some x->∃a Na nx c,xs[k]? =some (.adr a 0)/\m a=some (.cs Na (plD g x nx false c))
theorem QxS{g:Wlk}{m:Ar}{K:Kn WSt}{al:List Nat}{S:Nat->Prop}{d:D}(hI:PI g m K al S d)(hd:∀y∈K.map (·.1),∃c,lkK K y=some (some c))(hnd:(K.map (·.1)).Nodup)(hne:K≠[]):∃bn cap,d= .sl bn 0 1 (K.map (·.1)).length cap/\PlR g m (K.map (·.1)) bn cap:=by
 have hl:al.length=(K.map (·.1)).length:=by rw[List.length_map];exact hI.len
 rcases hI.row with ⟨-,h⟩|⟨bn,N,cap,h1,h2,h3⟩
 ·have:al=[]:=by simpa using h
  rw[this]at hl;cases K with
  |nil=>exact absurd rfl hne
  |cons=>simp at hl
 ·refine⟨bn,cap,by rw[h1,List.length_map,hl],⟨N,_,h2,λk x hx=> ?_⟩⟩;obtain⟨a,ha⟩:∃a,al[k]? =some a:=⟨_,lgE (by have:=Qaa hx;omega)⟩;obtain⟨c,hc⟩:=hd x (mgE hx);have hx':=hx;rw[gtm,omi]at hx';obtain⟨⟨y,c'⟩,h4,rfl⟩:=hx';have h5:=Qlq hnd h4;rw[hc]at h5;cases h5;obtain⟨-,Na,nx,ads,h6,-⟩:=hI.pl k _ c a h4 ha;exact⟨a,Na,nx,c,by rw[QmQ,gtm,ha];rfl,h6⟩
theorem QzY(P:Program)(hP:P=Tryz.prog)(t:Top)(xs:List Tab)(p:Pkt)(from_:Int)(g:Wlk)(U:List WSt)(m:Ar)(hT:Qbk m)(hU:Qas t xs from_=0->UOK P t xs p g U/\Expl g.nx (from_,p.stack) U):
  FnS P Qc0 [QaU t,QbF xs,QbK p,iA from_] [.am m] λr h'=>∃m' tl,h'= .am m'::tl/\Qbk m'/\r= .tup [bA (Qxx g U (from_,p.stack) (Qas t xs from_)).1,iA (Qxx g U (from_,p.stack) (Qas t xs from_)).2]:=by
 have hsr:=Qh7 P hP t xs p from_ g U m hT λh=>⟨(hU h).1,(hU h).2.st⟩
 refine QaI (hP▸mixed) (hP▸Qkc) (hP▸Qle) (nle rfl) λΛ Λo Q hQ=> ?_
 clear hP;have fin:=λm' tl (h1:Qbk m')=>hQ (.tup [bA (Qxx g U (from_,p.stack) (Qas t xs from_)).1,iA (Qxx g U (from_,p.stack) (Qas t xs from_)).2]) (.am m'::tl) ⟨m',tl,rfl,h1,rfl⟩
 clear hQ;have htab:¬New m (.list true 1 []) 0:=λe=>by
  rcases e with e|e
  ·rw[Qbk]at hT;rw[hT]at e;cases e
  ·exact Qa9 e
 by_cases h0:Qas t xs from_=0
 ·obtain⟨hUK,hE⟩:=hU h0;rw[h0]at hsr fin;simp only[QiN,if_true]at hsr;cases hd:dfs g.nx U.length [] (from_,p.stack)with
  |some K=>
   rw[hd]at hsr;simp only[Qxx,hd,if_true]at fin;obtain⟨hnd,hmem,-,hdn,r0,hr0⟩:=QlY hE hd;rw[<-Qvz hmem]at fin;have hpl:=λ{m':Ar} {al:List Nat} {S:Nat->Prop} {d:D} (hI:PI g m' K al S d)=>QxS hI hdn hnd λe=>by rw[e]at hr0;cases hr0
   have hKl:(K.map (·.1)).length<=1000:=by
    have:=hnd.length_le_of_subset λx hx=>(hmem x).1 hx
    have:=hUK.len;omega
   have hgl:∀x∈K.map (·.1),(g.ar x).length<=1000:=λx hx=>by
    obtain⟨_,_,_,h⟩:=hUK.st x ((hmem x).1 hx);exact h.len
   clear hdn hnd hr0 hmem hE hUK hd hU;generalize K.map (·.1)=ks at*;generalize (from_,p.stack)=st at*;obtain⟨id,src,dst,flow,st0,hops⟩:=p;simp only[QaU,QbF,QbK,QaG,Qag,Qai]at hsr |-;generalize hxl:List.map Qal xs=xl at*;generalize hol:t.ov.map Qbq=ol at*;generalize hll:t.links.map QaD=ll at*;generalize htn:t.nodes=nodes at*;generalize List.map Qaf st0=sl at*;have hno:ks.all (QpB g)=false->∀m' tl,Qbk m'->Q (.tup [bA false,iA 0]) (.am m'::tl):=λh m' tl hT=>by have:=fin m' tl hT;rw[h]at this;exact this
   have hyes:ks.all (QpB g)=true->∀m' tl,Qbk m'->Q (.tup [bA true,iA 0]) (.am m'::tl):=λh m' tl hT=>by have:=fin m' tl hT;rw[h]at this;exact this
   clear fin;obtain⟨cn,hcn⟩:∃z:Int,z=(ks.length:Int):=⟨_,rfl⟩
   conv=>cbv
   repeat' first|(left;intro(_:Unit);(conv=>cbv))|(refine QaE [0] hsr ?_;rintro r hc' ⟨m',tl,rfl,d3,al3,S3,a,rfl,p3,hab,f3⟩;have hT3:Qbk m':=((f3.same _ htab).trans hT);obtain⟨bn,cap,rfl,hpr⟩:=hpl p3;generalize hn:ks.length=n at *;(conv=>cbv))|(intro(c:Int) hc;refine(λ(hz:cn=c)=> ?_) (by rw[hc,Qab];omega);subst hz;(conv=>cbv))|exact gxQ|refine And.intro ?_ ?_|(intro hc;(first|rw[wS (by omega) (by omega)]at hc|rw[Qab]at hc|skip);try (conv=>cbv))
   obtain⟨Nr,rx,hrow,hrat⟩:=hpr.at_;refine QaT n (λ(i:Int)=>[(27,.c (.d (.sl bn 0 1 n cap))),(28,iA cn),(29,iA i)]) (λ_=>[.am m']) (λk i=>i=k/\k<=n/\∀(j:Nat) (x:WSt),j<k->ks[j]? =some x->QpB g x=true) 0
    (Wk.ca) ⟨rfl,by omega,λj x h=>by omega⟩ (λk s h=>h.2.1) ?_
   rintro kk i Q' ⟨hi,hk,hall⟩ norm ex rt;by_cases hlt:kk<n
   ·obtain⟨x,hx⟩:∃x,ks[kk]? =some x:=⟨_,lgE (by omega)⟩;obtain⟨a1,Na,nx,c,hxa,hpa⟩:=hrat kk x hx;have hgx:=hgl x (mgE hx);simp only[plD]at hpa;have hbad:QpB g x=false->∃b,Q'=b:=λ_=>⟨_,rfl⟩
    have hE1:(g.ar x).length=0->g.rs x≠ -1->QpB g x=false:=λh1 h2=>by simp[QpB,h1,h2]
    have hE2:¬(g.ar x).length=0->QpB g x=true:=λh1=>by simp[QpB,h1]
    have hE3:g.rs x= -1->QpB g x=true:=λh1=>by simp[QpB,h1]
    have hfl:QpB g x=false->ks.all (QpB g)=false:=λh=>by
     rw[Bool.eq_false_iff];intro h2;rw[List.all_eq_true.1 h2 x (mgE hx)]at h;cases h
    have hal:Λ ((g.ar x).map QaC)=(g.ar x).length:=by rw[Λo];simp
    have hnrm:QpB g x=true->∀j y,j<kk+1->ks[j]? =some y->QpB g y=true:=λh j y hj hy=>by
     rcases Nat.lt_or_ge j kk with h2|h2
     ·exact hall j y h2 hy
     ·obtain rfl:j=kk:=by omega
      rw[hx]at hy;cases hy;exact h
    have hno':=λh=>hno (hfl h) m' [] hT3
    clear hbad hfl hno hyes hrat hpl hsr;generalize (g.ar x).map QaC=arl at*;generalize g.rs x=rs at*;obtain⟨i1,hi1⟩:∃z:Int,z=((kk+1:Nat):Int):=⟨_,rfl⟩
    conv=>cbv
    repeat' first|(intro(k:Nat) hk;refine(λ(hz:kk=k)=> ?_) ?_;rotate_left;omega;subst hz;(conv=>cbv))|(refine⟨Nr,_,_,hrow,hxa,?_⟩;(conv=>cbv))|(refine⟨Na,_,_,hpa,rfl,?_⟩;(conv=>cbv))|(refine rt _ _ ?_;(conv=>cbv))|(intro(k:Int) hk;rw[wS (by omega) (by omega)]at hk;refine(λ(hz:i1=k)=> ?_) ?_;rotate_left;omega;subst hz;(conv=>cbv))|exact hno' (hE1 (by omega) (by omega))|exact gxQ|refine And.intro ?_ ?_|(intro hc;(first|rw[wS (by omega) (by omega)]at hc|rw[Qab]at hc|skip);try (conv=>cbv))
    all_goals (first|(refine norm _ _ _ ⟨hi1,by omega,hnrm (hE2 (by omega))⟩ (Wk.ca))|(refine norm _ _ _ ⟨hi1,by omega,hnrm (hE3 (by omega))⟩ (Wk.ca)))
   ·obtain rfl:n=kk:=by omega
    have hyy:=hyes (List.all_eq_true.2 λx hx=>by
     obtain⟨j,hj⟩:=List.getElem?_of_mem hx;exact hall j x (by have:=Qaa hj;omega) hj) m' [] hT3
    clear hno hyes hpl hsr hrat norm
    conv=>cbv
    repeat' first|(refine ex 0 _ _ ?_;(conv=>cbv))|exact hyy|exact gxQ|refine And.intro ?_ ?_|(intro hc;(first|rw[wS (by omega) (by omega)]at hc|rw[Qab]at hc|skip);try (conv=>cbv))
  |none=>
   rw[hd]at hsr;simp only[Qxx,hd,if_true]at fin;clear hU hE;generalize (from_,p.stack)=st at*;obtain⟨id,src,dst,flow,st0,hops⟩:=p;simp only[QaU,QbF,QbK,QaG,Qag,Qai]at hsr |-;generalize hxl:List.map Qal xs=xl at*;generalize hol:t.ov.map Qbq=ol at*;generalize hll:t.links.map QaD=ll at*;generalize htn:t.nodes=nodes at*;generalize List.map Qaf st0=sl at*
   conv=>cbv
   repeat' first|(left;intro(_:Unit);(conv=>cbv))|(refine QaE [0] hsr ?_;rintro r hc' ⟨m',tl,rfl,rfl,d3,f3⟩;have hfin:=λtl=>fin m' tl ((f3.same _ htab).trans hT);(conv=>cbv))|exact hfin _|exact gxQ|refine And.intro ?_ ?_|(intro hc;(first|rw[wS (by omega) (by omega)]at hc|rw[Qab]at hc|skip);try (conv=>cbv))
 ·simp only[QiN,if_neg h0]at hsr;simp only[Qxx,if_neg h0]at fin;have fin:=λtl=>fin m tl hT
  generalize Qas t xs from_=e at*;clear hU;obtain⟨id,src,dst,flow,st0,hops⟩:=p;simp only[QaU,QbF,QbK,QaG,Qag,Qai]at hsr |-;generalize hxl:List.map Qal xs=xl at*;generalize hol:t.ov.map Qbq=ol at*;generalize hll:t.links.map QaD=ll at*;generalize htn:t.nodes=nodes at*;generalize List.map Qaf st0=sl at*
  conv=>cbv
  repeat' first|(left;intro(_:Unit);(conv=>cbv))|(refine QaE [0] hsr ?_;rintro r hc' ⟨m',tl,rfl,rfl,rfl⟩;(conv=>cbv))|exact fin _|exact gxQ|refine And.intro ?_ ?_|(intro hc;(first|rw[wS (by omega) (by omega)]at hc|rw[Qab]at hc|skip);try (conv=>cbv))
theorem Expl.mem{σ:Type}{nx:σ->List σ}{s:σ}{S S':List σ}(h:Expl nx s S)(h':Expl nx s S')(x:σ):x∈S↔x∈S':=
 ⟨λhx=>h.mn (·∈S') h'.st h'.cl x hx,λhx=>h'.mn (·∈S) h.st h.cl x hx⟩
def QCn(g:Wlk)(U:List WSt)(n:Nat):List Int:=((List.range n).map λ(a:Nat)=>(a:Int)).filter λa=>U.any λx=>decide (a∈g.ar x)
def QxK(t:Top)(g:Wlk)(U:List WSt)(s:WSt)(e:Int):List Int×Int:=
 if e=0 then (match dfs g.nx U.length [] s with
  |none=>([],16)
  |some _=>(QCn g U (QbA t).toNat,0))else ([],e)
theorem QrN:∀{a b:List Int},a.Pairwise (·<·)->b.Pairwise (·<·)->(∀x,x∈a↔x∈b)->a=b
 |[],[],_,_,_=>rfl
 |[],y::b,_,_,h=>absurd ((h y).2 (by simp)) (by simp)
 |x::a,[],_,_,h=>absurd ((h x).1 (by simp)) (by simp)
 |x::a,y::b,ha,hb,h=>by
  have ha:=List.pairwise_cons.1 ha;have hb:=List.pairwise_cons.1 hb;have e:x=y:=by
   rcases List.mem_cons.1 ((h x).1 (by simp))with e|e
   ·exact e
   ·rcases List.mem_cons.1 ((h y).2 (by simp))with e2|e2
    ·exact e2.symm
    ·have:=hb.1 x e;have:=ha.1 y e2;omega
  subst e;rw[QrN ha.2 hb.2 λz=>⟨λhz=> ?_,λhz=> ?_⟩]
  ·rcases List.mem_cons.1 ((h z).1 (List.mem_cons_of_mem _ hz))with e|e
   ·have:=ha.1 z hz;omega
   ·exact e
  ·rcases List.mem_cons.1 ((h z).2 (List.mem_cons_of_mem _ hz))with e|e
   ·have:=hb.1 z hz;omega
   ·exact e
def QbC:List Int->List Int
 |[]=>[]
 |[x]=>[x]
 |x::y::l=>if x=y then QbC (y::l)else x::QbC (y::l)
theorem Qkt:∀(l:List Int) (z:Int),z∈QbC l↔z∈l
 |[],z=>by simp[QbC]
 |[x],z=>by simp[QbC]
 |x::y::l,z=>by
  rw[QbC];have ih:=Qkt (y::l) z;split
  ·rename_i e;rw[ih,e];simp
  ·rw[List.mem_cons,ih,List.mem_cons (a:=z) (b:=x)]
theorem Qh3:∀(l:List Int),l.Pairwise (·<=·)->(QbC l).Pairwise (·<·)
 |[],_=>by simp[QbC]
 |[x],_=>by simp[QbC]
 |x::y::l,h=>by
  have h1:=List.pairwise_cons.1 h;have h2:=List.pairwise_cons.1 h1.2;rw[QbC];split
  ·exact Qh3 _ h1.2
  ·rename_i hne;refine List.pairwise_cons.2 ⟨λz hz=> ?_,Qh3 _ h1.2⟩;have hxy:=h1.1 y (by simp);rcases List.mem_cons.1 ((Qkt _ z).1 hz)with e|e
   ·omega
   ·have:=h2.1 z e;omega
end Go.Ab
