/-
  Merged texts, part u.
-/
import Derived.Test.YtohbofilgkdihaaGreatDoorZt
set_option linter.all false
namespace Go.Ab
open Go.Proofs
theorem Qik(P:Program)(hP:P=Tryz.prog)(t:Top)(xs:List Tab)(p:Pkt)(from_:Int)(g:Wlk)(m:Ar)(I:WSt->Prop)(hI:I (from_,p.stack))(hst:∀s,I s->∃x st hp,StpG P t xs p g s x st hp)(hcl:∀s,I s->∀y∈g.nx s,I y):
  FnS P Qdx [QaR t,Qbn xs,Qbz p,iA from_] [.am m] fun r h'=>∃m' v q l ok,r= .tup [.c (.ptr 1 0 0 0),bA ok]/\h'=vsH t xs m' v q l/\(∃i,XpI g p m m' l i []/\ExpI g.nx (from_,p.stack) (l.map StR.key) i/\if ok=true then i=l.length else 20000<i):=by
 refine FnS.gct (Qqn P hP t xs p from_ g m I hI hst hcl) _ fun r h' hR=> ?_
 obtain⟨m',v,q,l,ok,b,rfl,rfl,h⟩:=hR;refine⟨[0,3,4],.tup [.c (.ptr 1 0 0 0),bA ok],vsH t xs m' v q l,⟨m',v,q,l,ok,rfl,rfl,h⟩,rfl,by decide,fun l hl=>by simp at hl ⊢;omega,
  fun i k hk=> ?_,rfl,rfl,rfl,by simp,fun i hi=> ?_,fun k hk=> ?_⟩
 ·match i,hk with
  |0,hk=>cases osj hk;rfl
  |1,hk=>cases osj hk;rfl
  |2,hk=>cases osj hk;rfl
 ·have:i=0:=by simp at hi;omega
  subst this;rfl
 ·simp at hk;rcases hk with rfl|rfl|rfl<;>intro _ _ _ h<;>cases h
structure GOK (P:Program) (t:Top) (xs:List Tab) (p:Pkt) (g:Wlk) (U:List WSt):Prop where
 len:U.length<=1000
 st:∀s∈U,∃x st hp,StpG P t xs p g s x st hp
 cl:∀s∈U,∀y∈g.nx s,y∈U
theorem GOK.nx{P:Program}{t:Top}{xs:List Tab}{p:Pkt}{g:Wlk}{U:List WSt}(h:GOK P t xs p g U):∀s∈U,(g.nx s).length<=1000:=by
 intro s hs;obtain⟨x,st,hp,e⟩:=h.st s hs;rw[Wlk.nx,nxt,List.length_map];exact e.len
structure GrF (g:Wlk) (s0:WSt) (K:Kn WSt) (S:List WSt) (l:List StR):Prop where
 ks:l.map StR.key=S
 ex:Expl g.nx s0 S
 st:∀s∈l,s.ar=Qay (g.ar s.key)/\s.rs=g.rs s.key/\(∀y∈g.nx s.key,y∈S)/\∀c,lkK K s.key=some (some c)->s.ct=c
def Qda(g:Wlk)(S:List WSt)(s:StR):List D:=[iD s.node,iD s.p.id,iD s.p.src,iD s.p.dst,iD s.p.flow,QaA s.p.stack,iD s.p.hops,s.ar,.list false 1 (QgY S (g.nx s.key)),iD s.rs,iD s.co,iD s.ct]
def grD(t:Top)(xs:List Tab)(g:Wlk)(S:List WSt)(l:List StR):List D:=[iD t.nodes,Qag t.ov,Qai t.links,.list false 3 (xs.map Qak),.list false 12 (l.map (Qda g S))]
theorem QAj{g:Wlk}{p:Pkt}{m m':Ar}{s0:WSt}{K:Kn WSt}{l l':List StR}(hX:XpI g p m m' l l.length [])(hE:Expl g.nx s0 (l.map StR.key))(hb:l'.map StR.base=l.map StR.base)(hV:VsI g m' (l.map StR.key) K l'):GrF g s0 K (l.map StR.key) l':=by
 refine⟨hV.ks,hE,fun s hs=> ?_⟩;obtain⟨j,hj⟩:=List.getElem?_of_mem hs;obtain⟨u,hu,hub⟩:=Qjb hb.symm hj;obtain⟨b1,b2,b3,b4,b5⟩:=Qmn hub;obtain⟨q1,q2,q3,-⟩:=hX.dn j u (List.getElem?_eq_some_iff.1 hu).1 hu;rw[←b3,←b5,←b1];exact⟨q1,q2,q3,by rw[b1];exact(hV.ct s hs).1⟩
theorem Qc8.thaw{sz:Nat}{m:Ar}{d:D}{l:List (List D)}(h:Qc8 sz m d l)(hl:l.length<=9223372036854775807):ThD m d (.list false sz l):=by
 rcases h with ⟨rfl,rfl⟩|⟨b,N,cap,rfl,hm,hs,hc,hN⟩
 ·exact .fg _
 ·refine .row b 0 sz l.length cap N l.flatten l (fun i j=>l.flatten.getD (i*sz+j) default) hm rfl hc hl (fun i e he=>hs e (mgE he)) (fun i e j x he hx=> ?_) fun i e j x he hx=> ?_
  ·rw[Nat.zero_add,List.getD_eq_getElem?_getD,Qcj hs he hx];rfl
  ·simp only[List.getD_eq_getElem?_getD,Qcj hs he hx,Option.getD_some];exact .same _
theorem Qyk{g:Wlk}{m:Ar}{S:List WSt}{K:Kn WSt}{l:List StR}(hV:VsI g m S K l)(hn:∀s∈S,(g.nx s).length<=1000):ThD m (.list false 12 (l.map Qar)) (.list false 12 (l.map (Qda g S))):=by
 refine .list _ _ _ _ (by simp) (fun i e he=> ?_) fun i e e' j x x' he he' hx hx'=> ?_
 ·simp only[gtm,omi]at he;obtain⟨_,_,rfl⟩:=he;rfl
 ·simp only[gtm,omi]at he he';obtain⟨s,hs,rfl⟩:=he;obtain⟨s',hs',rfl⟩:=he';rw[hs]at hs';cases hs';have hm:=mgE hs;by_cases hj:j=8
  ·subst hj;simp only[Qar,Qda,List.getElem?_cons_succ,List.getElem?_cons_zero,osi]at hx hx';subst hx hx';refine(hV.row s hm).1.thaw ?_;have hk:s.key∈S:=by rw[←hV.ks];exact List.mem_map.2 ⟨s,hm,rfl⟩
   have:=hn _ hk;rw[QgY,List.length_map];omega
  ·have:x=x':=by
    match j,hj,hx,hx' with
    |0,_,hx,hx'=>cases hx;cases hx';rfl
    |1,_,hx,hx'=>cases hx;cases hx';rfl
    |2,_,hx,hx'=>cases hx;cases hx';rfl
    |3,_,hx,hx'=>cases hx;cases hx';rfl
    |4,_,hx,hx'=>cases hx;cases hx';rfl
    |5,_,hx,hx'=>cases hx;cases hx';rfl
    |6,_,hx,hx'=>cases hx;cases hx';rfl
    |7,_,hx,hx'=>cases hx;cases hx';rfl
    |8,hj,_,_=>exact absurd rfl hj
    |9,_,hx,hx'=>cases hx;cases hx';rfl
    |10,_,hx,hx'=>cases hx;cases hx';rfl
    |11,_,hx,hx'=>cases hx;cases hx';rfl
    |j+12,_,hx,_=>simp[Qar]at hx
   rw[this];exact .same _
def QsY(t:Top)(xs:List Tab)(g:Wlk)(s0:WSt)(n:Nat)(e:Int)(r:AV):Prop:=
 if e=0 then (match dfs g.nx n [] s0 with
  |some K=>∃S l,r= .tup [.c (.rp (grD t xs g S l)),iA 0]/\GrF g s0 K S l
  |none=>r= .tup [.c (.d .nilp),iA 16])
 else r= .tup [.c (.d .nilp),iA e]
abbrev QzG (P:Program) (f:Nat) (args:List AV) (R:AV->Prop):Prop:=FnS P f args [] fun r _=>QbN r=true/\R r
theorem QlK{P:Program}{f:Nat}{fn:Func}{af:AF}{args:List AV}{R:AV->Prop}(hm:P.follows .mixedOrders=true)(hf:P.funcs[f]? =some fn)(hc:QaB P fn=some af)(hl:args.length<=af.nt)
 (hv:∀(Λ:Len),(∀l,Λ l=(l.length:Int))->∀(K:AV->Prop),(∀r,R r->K r)->QCl P Λ af args K):QzG P f args R:=
 QvN (K:=R) hm hf hc hl fun Λ h=>hv Λ h _ fun _ h=>h
theorem Qum(P:Program)(hP:P=Tryz.prog)(t:Top)(xs:List Tab)(p:Pkt)(from_:Int)(g:Wlk)(U:List WSt)(hU:Qam t xs from_=0->GOK P t xs p g U/\Expl g.nx (from_,p.stack) U):
  QzG P Qg7 [QaR t,Qbn xs,Qbz p,iA from_] (QsY t xs g (from_,p.stack) U.length (Qam t xs from_)):=by
 have hco:=Qo2 P hP t xs;have hex:=fun(h:Qam t xs from_=0)=>Qik P hP t xs p from_ g am0 (·∈U) (hU h).2.st (hU h).1.st (hU h).1.cl
 have hvi:=fun(h:Qam t xs from_=0) m v r (l:List StR) (hE:Expl g.nx (from_,p.stack) (l.map StR.key)) hV=>QuC P hP t xs g m (l.map StR.key) hE.nd hE.cl (fun s hs=>(hU h).1.nx s ((hE.mn (·∈U) (hU h).2.st (hU h).2.cl) s hs)) v r (l.map StR.key).length (from_,p.stack) hE.st [] l hV (Qsn g _)
 refine QlK (hP▸mixed) (hP▸Qle) (hP▸Qmu) (nle rfl) fun Λ Λo Q hQ=> ?_
 clear hP;obtain⟨id,src,dst,flow,st0,hops⟩:=p;by_cases h0:Qam t xs from_=0
 ·have hex:=hex h0;have hvi:=hvi h0;have hE0:=(hU h0).2;have hG:=(hU h0).1;clear hU;have hcb:Qcu t xs=true:=by
   by_cases h:Qcu t xs=true
   ·exact h
   ·rw[Qam,if_neg h]at h0;cases h0
  have hrg:0<=from_/\from_<t.nodes:=by
   rw[Qam,if_pos hcb]at h0;by_cases h:0<=from_/\from_<t.nodes
   ·exact h
   ·rw[if_neg h]at h0;cases h0
  rw[hcb]at hco;rw[h0]at hQ;simp only[QsY,if_true]at hQ;generalize hs0:(from_,st0)=s0 at*;have hix:∀l:List StR,Expl g.nx s0 (l.map StR.key)->((Qf7 (l.map StR.key) s0:Nat):Int)=0:=by
   intro l hE;obtain⟨r,e⟩:=hE.hd;rw[Qkc (k:=0) (by rw[e];rfl) (by simp)];rfl
  have hfin:∀m1 (l1:List StR) (ok:Bool) i1,XpI g ⟨id,src,dst,flow,st0,hops⟩ am0 m1 l1 i1 []->ExpI g.nx s0 (l1.map StR.key) i1->(if ok=true then i1=l1.length else 20000<i1)->XpI g ⟨id,src,dst,flow,st0,hops⟩ am0 m1 l1 l1.length []/\Expl g.nx s0 (l1.map StR.key):=by
   intro m1 l1 ok i1 hX hE hok;have h1:=hE.le;have h2:=QvI hE hE0.st hG.cl;have h3:=hG.len;rw[List.length_map]at h1 h2;have h4:i1=l1.length:=by
    split at hok
    ·exact hok
    ·omega
   subst h4;exact⟨hX,Qot hE (by rw[List.length_map];omega)⟩
  have hvi:∀m v r (l:List StR),Expl g.nx s0 (l.map StR.key)->VsI g m (l.map StR.key) [] l->FnS P Qas [.c (.ptr 1 0 0 0),iA 0] (vsH t xs m v r l) fun q h'=>∃l',h'=vsH t xs m v r l'/\VisO g m (l.map StR.key) [] l (dfs g.nx U.length [] s0) q l':=by
   intro m v r l hE hV;have:=hvi m v r l hE hV;rw[hix l hE,hE.len hE0]at this;exact this
  cases hd:dfs g.nx U.length [] s0 with
  |none=>
   rw[hd]at hQ;have fin:=hQ _ rfl;have hvi:∀m v r (l:List StR),Expl g.nx s0 (l.map StR.key)->VsI g m (l.map StR.key) [] l->FnS P Qas [.c (.ptr 1 0 0 0),iA 0] (vsH t xs m v r l) fun q h'=>∃l',h'=vsH t xs m v r l'/\q=bA false:=by
    intro m v r l hE hV;refine(hvi m v r l hE hV).mono fun q h' ⟨l',h1,h2⟩=>⟨l',h1,?_⟩
    have:=h2.res;rw[hd]at this;exact this
   simp only[vsH,QaR,Qbn,Qbz,QaA,Qag,Qai]at hvi hex hco fin ⊢;generalize hxl:List.map Qak xs=xl at*;generalize hol:t.ov.map Qbh=ol at*;generalize hll:t.links.map QaD=ll at*;generalize htn:t.nodes=nodes at*;generalize hsl:List.map Qaf st0=sl at*
   conv=>cbv
   repeat' first|(left;intro(_:Unit);(conv=>cbv))|refine Qax hco rfl rfl ?_ ?_|(refine Qaw [0] hex rfl rfl (by decide) (by repeat' first|exact trivial|refine And.intro ?_ ?_|rfl) rfl rfl ?_;rintro r hc' ⟨m1,v1,q1,l1,ok,rfl,rfl,i1,hX,hE,hok⟩;obtain⟨hX1,hE1⟩:=hfin _ _ _ _ hX hE hok;have hv:=hvi m1 v1 q1 l1 hE1 (Qpp hX1);generalize hes:l1.map Qar=es1 at *;generalize hn1:l1.length=n1 at *;(conv=>cbv))|(refine Qaw [0,3,4] hv rfl rfl (by decide) (by repeat' first|exact trivial|refine And.intro ?_ ?_|rfl) rfl rfl ?_;rintro r hc' ⟨l2,rfl,rfl⟩;generalize hes2:l2.map Qar=es2 at *;generalize hn2:l2.length=n2 at *;(conv=>cbv))|exact gu|exact trivial|refine And.intro ?_ ?_|(intro hc;first|exact absurd hc (by decide)|(exfalso;omega)|((first|rw[wS (by omega) (by omega)]at hc|rw[Qab]at hc|skip);try (conv=>cbv)))|refine CallG.old ?_
   exact⟨[.c (.d .nilp),iA 16],⟨.c _ _ (.d _ _ (.same _)),.c _ _ (.d _ _ (.same _)),trivial⟩,fin⟩
  |some K=>
   rw[hd]at hQ;have fin:=fun S l h=>hQ _ ⟨S,l,rfl,h⟩
   have hvi:∀m v r (l:List StR),Expl g.nx s0 (l.map StR.key)->VsI g m (l.map StR.key) [] l->FnS P Qas [.c (.ptr 1 0 0 0),iA 0] (vsH t xs m v r l) fun q h'=>∃l',h'=vsH t xs m v r l'/\q=bA true/\VsI g m (l.map StR.key) K l'/\l'.map StR.base=l.map StR.base:=by
    intro m v r l hE hV;refine(hvi m v r l hE hV).mono fun q h' ⟨l',h1,h2⟩=>⟨l',h1,?_⟩
    have:=h2.res;rw[hd]at this;exact⟨this.1,this.2,h2.base⟩
   have hth:∀m1 (l1 l2:List StR),Expl g.nx s0 (l1.map StR.key)->VsI g m1 (l1.map StR.key) K l2->ThD m1 (.list false 12 (l2.map Qar)) (.list false 12 (l2.map (Qda g (l1.map StR.key)))):=fun m1 l1 l2 hE hV=>Qyk hV fun s hs=>hG.nx s (hE.mn (·∈U) hE0.st hE0.cl s hs)
   simp only[vsH,QaR,Qbn,Qbz,QaA,Qag,Qai,grD]at hvi hex hco fin ⊢;generalize hxl:List.map Qak xs=xl at*;generalize hol:t.ov.map Qbh=ol at*;generalize hll:t.links.map QaD=ll at*;generalize htn:t.nodes=nodes at*;generalize hsl:List.map Qaf st0=sl at*
   conv=>cbv
   repeat' first|(left;intro(_:Unit);(conv=>cbv))|refine Qax hco rfl rfl ?_ ?_|(refine Qaw [0] hex rfl rfl (by decide) (by repeat' first|exact trivial|refine And.intro ?_ ?_|rfl) rfl rfl ?_;rintro r hc' ⟨m1,v1,q1,l1,ok,rfl,rfl,i1,hX,hE,hok⟩;obtain⟨hX1,hE1⟩:=hfin _ _ _ _ hX hE hok;have hv:=hvi m1 v1 q1 l1 hE1 (Qpp hX1);clear hX hE hok;generalize hes:l1.map Qar=es1 at *;generalize hn1:l1.length=n1 at *;(conv=>cbv))|(refine Qaw [0,3,4] hv rfl rfl (by decide) (by repeat' first|exact trivial|refine And.intro ?_ ?_|rfl) rfl rfl ?_;rintro r hc' ⟨l2,rfl,rfl,hV,hb⟩;have hthd:=hth m1 l1 l2 hE1 hV;generalize hes2:l2.map Qar=es2 at *;generalize hn2:l2.length=n2 at *;(conv=>cbv))|exact gu|exact trivial|refine And.intro ?_ ?_|(intro hc;first|exact absurd hc (by decide)|(exfalso;omega)|((first|rw[wS (by omega) (by omega)]at hc|rw[Qab]at hc|skip);try (conv=>cbv)))|refine CallG.old ?_
   refine(fun(hz:_=es2)=> ?_) (hc.trans (by rw[List.drop_zero,List.take_of_length_le (by rw[←hes2,List.length_map,hn2];exact Nat.le_refl _)]));rw[hz];exact⟨[.c (.rp [iD nodes,.list false 1 ol,.list false 7 ll,.list false 3 xl,.list false 12 (l2.map (Qda g (l1.map StR.key)))]),iA 0],
    ⟨.c _ _ (.rp _ _ ⟨.same _,.same _,.same _,.same _,hthd,trivial⟩),.c _ _ (.d _ _ (.same _)),trivial⟩,fin _ _ (QAj (by rw[hn1];exact hX1) hE1 hb hV)⟩
 ·have fin:=hQ (.tup [.c (.d .nilp),iA (Qam t xs from_)]) (by simp only[QsY,if_neg h0]);clear hQ hex hvi hU;have k1:Qcu t xs=false->Qam t xs from_=1:=fun h=>by rw[Qam,h];rfl
  have k2:Qcu t xs=true->¬(0<=from_/\from_<t.nodes)->Qam t xs from_=2:=fun h h2=>by rw[Qam,if_pos h,if_neg h2]
  have k3:Qcu t xs=true->¬(0<=from_/\from_<t.nodes):=fun h h2=>h0 (by rw[Qam,if_pos h,if_pos h2])
  generalize Qam t xs from_=e at*;generalize Qcu t xs=cb at*;simp only[QaR,Qbn,Qbz,QaA,Qag,Qai]at hco fin ⊢;generalize hxl:List.map Qak xs=xl at*;generalize hol:t.ov.map Qbh=ol at*;generalize hll:t.links.map QaD=ll at*;generalize htn:t.nodes=nodes at*;generalize hsl:List.map Qaf st0=sl at*
  conv=>cbv
  repeat' first|(left;intro(_:Unit);(conv=>cbv))|refine Qax hco rfl rfl ?_ ?_|exact gu|exact trivial|refine And.intro ?_ ?_|(intro hc;first|exact absurd hc (by decide)|(exfalso;omega)|((first|rw[wS (by omega) (by omega)]at hc|rw[Qab]at hc|skip);try (conv=>cbv)))|refine CallG.old ?_
  all_goals first
   |exact absurd ⟨by omega,by omega⟩ (k3 (by assumption))
   |(rw[k1 (by assumption)]at fin;exact⟨[.c (.d .nilp),iA 1],⟨.c _ _ (.d _ _ (.same _)),.c _ _ (.d _ _ (.same _)),trivial⟩,fin⟩)
   |(rw[k2 (by assumption) (by omega)]at fin;exact⟨[.c (.d .nilp),iA 2],⟨.c _ _ (.d _ _ (.same _)),.c _ _ (.d _ _ (.same _)),trivial⟩,fin⟩)
  all_goals trace_state
theorem Qxi{σ:Type}{nx:σ->List σ}{U:List σ}(hU:∀x∈U,∀y∈nx x,y∈U){n:Nat}{x:σ}(hx:x∈U)(h:Dep nx n x):Dep nx U.length x:=by
 have key:∀n x,x∈U->Dep nx n x->(∀k,n=k+1->¬Dep nx k x)->∃l:List σ,l.Nodup/\(∀y∈l,y∈U/\Dep nx n y)/\l.length=n+1:=by
  intro n;induction n with
  |zero=>intro x hx h _;exact⟨[x],by simp,fun y hy=>by simp at hy;rw[hy];exact⟨hx,h⟩,rfl⟩
  |succ n ih=>
   intro x hx h hn;have hn:=hn n rfl;obtain⟨y,hy,hy2⟩:∃y∈nx x,∀k,n=k+1->¬Dep nx k y:=by
    cases n with
    |zero=>
     cases he:nx x with
     |nil=>exact absurd he hn
     |cons y r=>exact⟨y,by simp,fun k hk=>by omega⟩
    |succ k=>
     refine Classical.byContradiction fun hc=>hn fun y hy=>Classical.byContradiction fun hd=>hc ⟨y,hy,fun k' hk=> ?_⟩
     obtain rfl:k'=k:=by omega
     exact hd
   obtain⟨l,h1,h2,h3⟩:=ih y (hU x hx y hy) (h y hy) hy2;refine⟨x::l,?_,fun z hz=> ?_,by simp[h3]⟩
   ·rw[List.nodup_cons];exact⟨fun hm=>hn (h2 x hm).2,h1⟩
   ·rcases List.mem_cons.1 hz with rfl|hz
    ·exact⟨hx,h⟩
    ·exact⟨(h2 z hz).1,Qtr (h2 z hz).2⟩
 have min:∀n,Dep nx n x->∃k,k<=n/\Dep nx k x/\∀j,k=j+1->¬Dep nx j x:=by
  intro n;induction n with
  |zero=>intro h;exact⟨0,Nat.le_refl _,h,fun j hj=>by omega⟩
  |succ n ih=>
   intro h;by_cases hd:Dep nx n x
   ·obtain⟨k,h1,h2⟩:=ih hd;exact⟨k,by omega,h2⟩
   ·exact⟨n+1,Nat.le_refl _,h,fun j hj=>by
     obtain rfl:n=j:=by omega
     exact hd⟩
 obtain⟨k,-,h1,h2⟩:=min n h;obtain⟨l,g1,g2,g3⟩:=key k x hx h1 h2;have:=g1.length_le_of_subset fun y hy=>(g2 y hy).1
 exact Qom (by omega) h1
theorem QrV(P:Program)(hP:P=Tryz.prog){g:Wlk}{n:Nat}{x:WSt}{a bx bp Nx Np:Nat}{m:Ar}(hpt:PT g (fun _=>False) m n x a)(hmx:m bx=some (.cs Nx [.adr a 0]))(hmp:m bp=some (.cs Np [.list true 1 []]))(hn:n<=1000000)(hlen:(brR g n x []).length<=1000):
  FnS P QbI [.c (.fn false Qaj [.d (.adr bx 0),.d (.adr bp 0)])] [.am m] fun r h'=>∃m' d,h'=[.am m']/\r= .c (.d d)/\Qc8 3 m' d ((brR g n x []).map Qbv)/\(∀b,m b≠none->m' b=m b)/\∀b,InB d b->m b=none:=by
 have hsq:=QAR P hP hpt hmx hmp hn hlen;refine QaF (hP▸mixed) (hP▸Qdb) (hP▸Qdh) (nle rfl) fun Λ Λo K hK=> ?_
 clear hP;have hend:=fun m' d h1 h2 h3=>hK (.c (.d d)) [.am m'] ⟨m',d,rfl,rfl,h1,h2,h3⟩
 clear hK;generalize (brR g n x []).map Qbv=rl at*
 conv=>cbv
 repeat' first|(refine Qaw [0] hsq rfl rfl (by decide) (by repeat' first|exact trivial|refine And.intro ?_ ?_|rfl) rfl rfl ?_;rintro r hc' ⟨m',d,rfl,rfl,q1,q2,q3⟩;have hfin:=hend m' d q1 q2 q3;(conv=>cbv))|exact hfin|exact gu|exact trivial|refine And.intro ?_ ?_|(intro hc;first|exact absurd hc (by decide)|(exfalso;omega)|((first|rw[wS (by omega) (by omega)]at hc|rw[Qab]at hc|skip);try (conv=>cbv)))|refine CallG.old ?_
def Qju(g:Wlk)(n:Nat)(s:WSt)(e:Int):List Rsl×Int:=
 if e=0 then (match dfs g.nx n [] s with
  |none=>([],16)
  |some _=>if 1000<num g.nx n s then ([],6)else (brR g n s [],0))else ([],e)
theorem QlR{g:Wlk}{m:Ar}{K:Kn WSt}{al:List Nat}{S:Nat->Prop}{d:D}{s:WSt}{a:Nat}{c:Int}(hI:PI g m K al S d)(hnd:(K.map (·.1)).Nodup)(ha:QnH K al s a)(hc:lkK K s=some (some c)):∃N nx,m a=some (.cs N (plD g s nx false c)):=by
 obtain⟨j,h1,h2⟩:=ha;rw[gtm,omi]at h1;obtain⟨⟨y,c'⟩,h3,rfl⟩:=h1;have:=Qlj hnd h3;rw[hc]at this;cases this;obtain⟨-,N,nx,ads,h4,-⟩:=hI.pl j _ c a h3 h2;exact⟨N,nx,h4⟩
theorem Qrk{g:Wlk}{n k:Nat}{s:WSt}(hn:Dep g.nx n s)(hk:Dep g.nx k s):num g.nx n s=num g.nx k s:=by
 have h1:=Qgx (ar:=g.ar) (to:=g.to) n s [];have h2:=Qgx (ar:=g.ar) (to:=g.to) k s [];rcases Nat.le_total n k with h|h
 ·rw[Qxe g.ar g.to [] h hn,h1]at h2;exact h2
 ·rw[Qxe g.ar g.to [] h hk,h2]at h1;exact h1.symm
theorem Qu5(P:Program)(hP:P=Tryz.prog)(t:Top)(xs:List Tab)(p:Pkt)(from_:Int)(g:Wlk)(U:List WSt)(m:Ar)(hT:QbA m)(hU:Qam t xs from_=0->UOK P t xs p g U/\(from_,p.stack)∈U):
  FnS P QfU [QaR t,Qbn xs,Qbz p,iA from_] [.am m] fun r h'=>∃m' tl,h'= .am m'::tl/\QbA m'/\r= .tup [.c (.d (Qnu (Qju g U.length (from_,p.stack) (Qam t xs from_)).1)),iA (Qju g U.length (from_,p.stack) (Qam t xs from_)).2]:=by
 have hsr:=Qh1 P hP t xs p from_ g U m hT hU;have hmk:=fun m a=>Qt9 P hP m a true []
 have hcol:=fun{n:Nat} {x:WSt} {a bx bp Nx Np:Nat} {m:Ar}=>QrV P hP (g:=g) (n:=n) (x:=x) (a:=a) (bx:=bx) (bp:=bp) (Nx:=Nx) (Np:=Np) (m:=m)
 refine FnS.thawP (R:=fun r h'=>∃m' tl d,h'= .am m'::tl/\r= .tup [.c (.d d),iA (Qju g U.length (from_,p.stack) (Qam t xs from_)).2]/\Qc8 3 m' d ((Qju g U.length (from_,p.stack) (Qam t xs from_)).1.map Qbv)/\QbA m'/\¬InB d 0/\(Qju g U.length (from_,p.stack) (Qam t xs from_)).1.length<=1000) ?_ ?_
 ·refine QaF (hP▸mixed) (hP▸QpW) (hP▸QrR) (nle rfl) fun Λ Λo Q hQ=> ?_
  clear hP;have fin:=fun m' tl d (h1:Qc8 3 m' d ((Qju g U.length (from_,p.stack) (Qam t xs from_)).1.map Qbv)) h2 h3 h4=>hQ (.tup [.c (.d d),iA (Qju g U.length (from_,p.stack) (Qam t xs from_)).2]) (.am m'::tl) ⟨m',tl,d,rfl,rfl,h1,h2,h3,h4⟩
  clear hQ;by_cases h0:Qam t xs from_=0
  ·obtain⟨hUK,hsU⟩:=hU h0;rw[h0]at hsr fin;simp only[QiK,if_true]at hsr;cases hd:dfs g.nx U.length [] (from_,p.stack)with
   |some K=>
    rw[hd]at hsr;simp only[Qju,hd,if_true]at fin;have hlaw:=QhF (nx:=g.nx) (K:=[]) (fun x c h=>by cases h) hd;have hnd:=QgT (nx:=g.nx) (K:=[]) (by simp) hd;have hUl:=hUK.len;obtain⟨hres,c,hc⟩:=hlaw;obtain⟨n0,hdep0,hcn⟩:=(hres.dn _ _ hc).1;have hdep:Dep g.nx U.length (from_,p.stack):=Qxi hUK.cl hsU hdep0;rw[Qrk hdep0 hdep]at hcn;have hlen:(brR g U.length (from_,p.stack) []).length=num g.nx U.length (from_,p.stack):=by rw[brR,List.length_map];exact Qgx g.ar g.to U.length (from_,p.stack) []
    have htab:¬New m (.list true 1 []) 0:=fun e=>by
     rcases e with e|e
     ·rw[QbA]at hT;rw[hT]at e;cases e
     ·exact Qa6 e
    clear hU hUK;by_cases hnum:1000<num g.nx U.length (from_,p.stack)
    ·rw[if_pos hnum]at fin;have hc1:c=1001:=by rw[hcn,QiW,if_neg (by omega)]
     have fin:=fun m' tl hT hb=>fin m' tl (.list true 3 []) (.inl ⟨rfl,rfl⟩) hT hb (by simp)
     generalize num g.nx U.length (from_,p.stack)=nm at*;clear hmk hcol hlen hdep hdep0 hres hd hsU;have hpl:=fun{m':Ar} {al:List Nat} {S:Nat->Prop} {d:D} {a:Nat} (hI:PI g m' K al S d) (ha:QnH K al (from_,p.stack) a)=>QlR hI hnd ha hc
     clear hc;generalize (from_,p.stack)=st at*;simp only[plD]at hpl;obtain⟨id,src,dst,flow,st0,hops⟩:=p;simp only[QaR,Qbn,Qbz,QaA,Qag,Qai]at hsr ⊢;generalize hxl:List.map Qak xs=xl at*;generalize hol:t.ov.map Qbh=ol at*;generalize hll:t.links.map QaD=ll at*;generalize htn:t.nodes=nodes at*;generalize List.map Qaf st0=sl at*
     conv=>cbv
     repeat' first|(left;intro(_:Unit);(conv=>cbv))|(refine Qaw [0] hsr rfl rfl (by decide) (by repeat' first|exact trivial|refine And.intro ?_ ?_|rfl) rfl rfl ?_;rintro r hc' ⟨m',tl,rfl,d3,al3,S3,a,rfl,p3,hab,f3⟩;obtain⟨Na,nx,ha⟩:=hpl p3 hab;have hfin:=fun tl=>fin m' tl ((f3.same _ htab).trans hT) (fun h=>Qa6 h);(conv=>cbv))|(refine⟨Na,_,_,ha,rfl,?_⟩;(conv=>cbv))|exact hfin _|exact gu|exact trivial|refine And.intro ?_ ?_|(intro hc;first|exact absurd hc (by decide)|(exfalso;omega)|((first|rw[wS (by omega) (by omega)]at hc|rw[Qab]at hc|skip);try (conv=>cbv)))|refine CallG.old ?_
    ·rw[if_neg hnum]at fin;have hc1:c=num g.nx U.length (from_,p.stack):=by rw[hcn,QiW,if_pos (by omega)]
     have hcle:c<=1000:=by omega
     have hdn:∀y∈K.map (·.1),∃c,lkK K y=some (some c):=fun y hy=>by
      cases hk:lkK K y with
      |none=>exact absurd hy (Qfe.1 hk)
      |some c'=>
       obtain⟨c2,e⟩:=hres.new y c' hk rfl;exact⟨c2,by rw[e]⟩
     have hpl:=fun{m':Ar} {al:List Nat} {S:Nat->Prop} {d:D} {a:Nat} (hI:PI g m' K al S d) (ha:QnH K al (from_,p.stack) a)=>And.intro (QlR hI hnd ha hc) (QBL hI hdn hnd U.length _ a hdep ha)
     have fin:=fun m' tl d h1 h2 h3=>fin m' tl d h1 h2 h3 (by simp only;omega)
     simp only at fin;have hlen2:(brR g U.length (from_,p.stack) []).length<=1000:=by omega
     clear hcn hc1 hdep hdep0 hres hd hsU hc hdn;clear hlen;generalize hst:(from_,p.stack)=st at*;simp only[plD]at hpl;obtain⟨id,src,dst,flow,st0,hops⟩:=p;simp only[QaR,Qbn,Qbz,QaA,Qag,Qai]at hsr ⊢;clear hst;generalize hxl:List.map Qak xs=xl at*;generalize hol:t.ov.map Qbh=ol at*;generalize hll:t.links.map QaD=ll at*;generalize htn:t.nodes=nodes at*;generalize List.map Qaf st0=sl at*
     conv=>cbv
     repeat' first|(left;intro(_:Unit);(conv=>cbv))|(refine Qaw [0] hsr rfl rfl (by decide) (by repeat' first|exact trivial|refine And.intro ?_ ?_|rfl) rfl rfl ?_;rintro r hc' ⟨m',tl,rfl,d3,al3,S3,a,rfl,p3,hab,f3⟩;obtain⟨⟨Na,nx,ha⟩,hpt⟩:=hpl p3 hab;have hT3:QbA m':=((f3.same _ htab).trans hT);(conv=>cbv))|(refine⟨Na,_,_,ha,rfl,?_⟩;(conv=>cbv))|(refine Qaw [0] (hmk m' a) rfl rfl (by decide) (by repeat' first|exact trivial|refine And.intro ?_ ?_|rfl) rfl rfl ?_;rintro r hc' ⟨bx1,bp1,Nx1,Np1,m3,m4,rfl,rfl,hbx1,hm3,hbp1,hm4⟩;have hx4:=QbY hm4 hbp1 (Qbl hm3);have hp4:=Qbl hm4;have hT4:QbA m4:=QbY hm4 hbp1 (QbY hm3 hbx1 hT3);have hcl:=hcol (hpt.keep (fun b hb _=>(Qc2 hm4 hbp1 (by rw[Qc2 hm3 hbx1 hb];exact hb)).trans (Qc2 hm3 hbx1 hb)) (fun b hb=> .inl hb)) hx4 hp4 (by omega) hlen2;(conv=>cbv))|(refine Qaw [0] hcl rfl rfl (by decide) (by repeat' first|exact trivial|refine And.intro ?_ ?_|rfl) rfl rfl ?_;rintro r hc' ⟨m6,d6,rfl,rfl,q1,q2,q3⟩;have hfin:=fun tl=>fin m6 tl d6 q1 ((q2 _ (by rw[hT4];simp)).trans hT4) (fun hb=>by have:=q3 _ hb;rw[hT4]at this;cases this);(conv=>cbv))|exact hfin _|exact gu|exact trivial|refine And.intro ?_ ?_|(intro hc;first|exact absurd hc (by decide)|(exfalso;omega)|((first|rw[wS (by omega) (by omega)]at hc|rw[Qab]at hc|skip);try (conv=>cbv)))|refine CallG.old ?_
   |none=>
    rw[hd]at hsr;simp only[Qju,hd,if_true]at fin;have fin:=fun m' tl hT hb=>fin m' tl (.list true 3 []) (.inl ⟨rfl,rfl⟩) hT hb (by simp)
    have htab:¬New m (.list true 1 []) 0:=fun e=>by
     rcases e with e|e
     ·rw[QbA]at hT;rw[hT]at e;cases e
     ·exact Qa6 e
    clear hmk hcol hU;generalize (from_,p.stack)=st at*;obtain⟨id,src,dst,flow,st0,hops⟩:=p;simp only[QaR,Qbn,Qbz,QaA,Qag,Qai]at hsr ⊢;generalize hxl:List.map Qak xs=xl at*;generalize hol:t.ov.map Qbh=ol at*;generalize hll:t.links.map QaD=ll at*;generalize htn:t.nodes=nodes at*;generalize List.map Qaf st0=sl at*
    conv=>cbv
    repeat' first|(left;intro(_:Unit);(conv=>cbv))|(refine Qaw [0] hsr rfl rfl (by decide) (by repeat' first|exact trivial|refine And.intro ?_ ?_|rfl) rfl rfl ?_;rintro r hc' ⟨m',tl,rfl,rfl,d3,f3⟩;have hfin:=fun tl=>fin m' tl ((f3.same _ htab).trans hT) (fun h=>Qa6 h);(conv=>cbv))|exact hfin _|exact gu|exact trivial|refine And.intro ?_ ?_|(intro hc;first|exact absurd hc (by decide)|(exfalso;omega)|((first|rw[wS (by omega) (by omega)]at hc|rw[Qab]at hc|skip);try (conv=>cbv)))|refine CallG.old ?_
  ·simp only[QiK,if_neg h0]at hsr;simp only[Qju,if_neg h0]at fin;have fin:=fun tl=>fin m tl (.list true 3 []) (.inl ⟨rfl,rfl⟩) hT (fun h=>Qa6 h) (by simp)
   generalize Qam t xs from_=e at*;clear hmk hcol hU;obtain⟨id,src,dst,flow,st0,hops⟩:=p;simp only[QaR,Qbn,Qbz,QaA,Qag,Qai]at hsr ⊢;generalize hxl:List.map Qak xs=xl at*;generalize hol:t.ov.map Qbh=ol at*;generalize hll:t.links.map QaD=ll at*;generalize htn:t.nodes=nodes at*;generalize List.map Qaf st0=sl at*
   conv=>cbv
   repeat' first|(left;intro(_:Unit);(conv=>cbv))|(refine Qaw [0] hsr rfl rfl (by decide) (by repeat' first|exact trivial|refine And.intro ?_ ?_|rfl) rfl rfl ?_;rintro r hc' ⟨m',tl,rfl,rfl,rfl⟩;(conv=>cbv))|exact fin _|exact gu|exact trivial|refine And.intro ?_ ?_|(intro hc;first|exact absurd hc (by decide)|(exfalso;omega)|((first|rw[wS (by omega) (by omega)]at hc|rw[Qab]at hc|skip);try (conv=>cbv)))|refine CallG.old ?_
 ·rintro r h' ⟨m',tl,d,rfl,rfl,hrow,hT',hnb,hle⟩;rcases hrow with ⟨rfl,hl⟩|hrow
  ·refine⟨m',tl,_,_,am0,m',_,rfl,fun b x h=>(by cases h),fun b x h=>h,rfl,rfl,.fg _,m',tl,rfl,hT',?_⟩;rw[Qnu,hl];rfl
  ·have hrow':=hrow;obtain⟨b,N,cap,rfl,hb,h3⟩:=hrow;refine⟨m',tl,_,_,fun c=>if c=b then m' b else none,mdel m' b,_,rfl,fun c x h=> ?_,fun c x h=> ?_,rfl,rfl,Qc8.thaw (l:=(Qju g U.length (from_,p.stack) (Qam t xs from_)).1.map Qbv) (.inr ⟨b,N,cap,rfl,by simpa using hb,h3⟩) (by rw[List.length_map];omega),mdel m' b,tl,rfl,?_,rfl⟩
   ·simp only at h;split at h
    ·rename_i e;subst e;exact⟨h,QhS _ _⟩
    ·cases h
   ·by_cases e:c=b
    ·rw[e,QhS]at h;cases h
    ·rw[QbS e]at h;exact h
   ·rw[QbA,QbS fun e=>hnb ⟨_,_,_,_,by rw[←e]⟩];exact hT'
theorem FnS.frz1z{P:Program}{f:Nat}{args:List AV}{h0:Hp}{sz:Nat}{Q:List (List D)->Prop}(hrefs:QcR h0.length h0=true)
 (hf:FnS P f args h0 fun r h'=>∃k ve rr es,Q es/\r= .c (.arr k ve 0 es.length)/\h'[k]? =some (.da rr ve sz es)/\h0.length<=k/\∃t,h'=h0++t):
  FnS P f args h0 fun r h'=>(∃es,Q es/\r= .c (.d (.list false sz es)))/\h'=h0:=by
 have h1:FnS P f args h0 fun r h'=>∃es h2,Q es/\r= .c (.d (.list false sz es))/\h'=h0++h2:=by
  refine⟨fun G ι w vs hr hv=>(hf.out G ι w vs hr hv).mono fun e w2 ⟨u,r,G2,ι2,h',he,⟨k,ve,rr,es,hQ,hre,hk,hle,t,ht⟩,hr2,hvr,hx⟩=> ?_⟩;subst hre;cases hvr with
  |c _ _ hc=>
   have hfz:frz h' (.arr k ve 0 es.length)=some (.list false sz es,h'.set k Blk.dead):=by
    simp[frz,hk]
   obtain⟨G',q1,q2,q3⟩:=Qcx hr2 hc hfz;refine⟨u,_,G',ι2,_,he,⟨es,(h'.set k Blk.dead).drop h0.length,hQ,rfl,?_⟩,q1,.c _ _ (.d _ _ q2),hx.trans q3⟩;subst ht;rw[List.set_append_right _ _ hle];simp
 refine(FnS.cut h1 ?_).mono ?_
 ·rintro r h' ⟨es,h2,_,rfl,rfl⟩;refine⟨rfl,?_⟩;rw[List.take_append_of_le_length (Nat.le_refl _),List.take_length];exact hrefs
 ·rintro r h1 ⟨h2,⟨es,h3,hQ,rfl,e⟩,hl⟩;exact⟨⟨es,hQ,rfl⟩,(List.append_inj e hl).1⟩
def RlS(P:Program)(gr:List D)(g:Wlk)(S:List WSt)(n:Nat)(x:WSt):Prop:=
 ∀(p:List Int) (r:Bool) (v:Nat) (h:Hp) (L np:Nat),np=p.length->p.length+n<=1000000->h[L]? =some (.da r v 1 (p.map QaC))->
  AgR P h QaP [.c (.rp gr),iA (Qf7 S x:Nat),.c (.arr L v 0 np)] (.c (.d (Qnu (brR g n x p))))
theorem Quu{P:Program}{gr:List D}{g:Wlk}{S:List WSt}{n:Nat}{x:WSt}
 (h:∀(p:List Int) (r:Bool) (v np:Nat),np=p.length->p.length+n<=1000000->FnS P QaP [.c (.rp gr),iA (Qf7 S x:Nat),.c (.arr 0 v 0 np)] [.da r v 1 (p.map QaC)] fun q h'=>∃k ve rr es,es=(brR g n x p).map Qbv/\q= .c (.arr k ve 0 es.length)/\h'[k]? =some (.da rr ve 3 es)/\1<=k/\∃t,h'=[.da r v 1 (p.map QaC)]++t):RlS P gr g S n x:=by
 intro p r v h0 L np hnp hle hL h' hag;have h1:=FnS.frz1z (Q:=fun es=>es=(brR g n x p).map Qbv) rfl (h p r v np hnp hle);have hL':h'[L]? =some (.da r v 1 (p.map QaC)):=by
  have:=hag (.c (.arr L v 0 np)) (by simp);rw[←hL];exact this
 refine(h1.frame [L] h' rfl (by simp) (fun i k hk=> ?_) rfl (by simp[QeN,Qej])).mono ?_
 ·match i,hk with
  |0,hk=>cases hk;exact hL'
  |i+1,hk=>simp at hk
 ·rintro q h'' ⟨q0,hc',⟨⟨es,rfl,rfl⟩,rfl⟩,rfl,rfl⟩;refine⟨?_,rfl⟩;simp only[QgP,QcA,rnH,rnB,List.length_singleton,List.drop_succ_cons,List.drop_nil,List.append_nil];refine List.ext_getElem? fun i=> ?_
  rw[List.getElem?_set];split
  ·rename_i e;subst e;rw[hL',if_pos (Qaa hL')]
  ·rfl
theorem QlL(P:Program)(hP:P=Tryz.prog)(t:Top)(xs:List Tab){g:Wlk}{s0:WSt}{K:Kn WSt}{S:List WSt}{l:List StR}(hG:GrF g s0 K S l){n:Nat}{x:WSt}(hx:x∈S)(ha:g.ar x=[])(p:List Int)(r:Bool)(v np:Nat)(hnp:np=p.length)(hle:p.length+n<=1000000):
  FnS P QaP [.c (.rp (grD t xs g S l)),iA (Qf7 S x:Nat),.c (.arr 0 v 0 np)] [.da r v 1 (p.map QaC)] fun q h'=>∃k ve rr es,es=(brR g n x p).map Qbv/\q= .c (.arr k ve 0 es.length)/\h'[k]? =some (.da rr ve 3 es)/\1<=k/\∃t,h'=[.da r v 1 (p.map QaC)]++t:=by
 refine QaF (hP▸mixed) (hP▸Qdt) (hP▸QdL) (nle rfl) fun Λ Λo Q hQ=> ?_
 clear hP;obtain⟨j,hj⟩:=List.getElem?_of_mem hx;have hix:Qf7 S x=j:=Qkc hj (by
  intro hm;obtain⟨i,hi,he⟩:=List.getElem_of_mem hm;rw[List.length_take]at hi;have h1:S[i]? =some x:=by rw[←he,List.getElem_take];exact lgE _
  have:=(List.getElem?_inj (by omega) hG.ex.nd).1 (h1.trans hj.symm);omega)
 rw[hix];have hk:=hG.ks;obtain⟨u,hu,hux⟩:∃u,l[j]? =some u/\u.key=x:=by
  rw[←hk,gtm,omi]at hj;exact hj
 obtain⟨e1,e2,-,-⟩:=hG.st u (mgE hu);have hatj:(l.map (Qda g S))[j]? =some (Qda g S u):=by rw[gtm,hu];rfl
 have hnx:g.nx x=[]:=by rw[Wlk.nx,nxt,ha];rfl
 rw[hux]at e1 e2;have hun:u.node=x.1:=by rw[←hux]
 have hgl:(l.map (Qda g S)).length<=(l.map (Qda g S)).length:=Nat.le_refl _;simp only[Qda,e1,e2,hux,hnx,hun,QgY,List.map_nil]at hatj;have fin:=fun k ve rr es n h' (h0:n=es.length) h1 h2 h3 h4=>hQ (.c (.arr k ve 0 n)) h' ⟨k,ve,rr,es,h1,by rw[h0],h2,h3,h4⟩
 rw[Qjc ha]at fin;clear hQ;simp only[grD];generalize hgrl:l.map (Qda g S)=grl at*;generalize hpl:p.map QaC=pl at*;have hpln:pl.length=np:=by rw[←hpl,List.length_map];exact hnp.symm
 obtain⟨ji,hji⟩:∃ji:Int,(j:Int)=ji:=⟨_,rfl⟩;have hjl:j<grl.length:=Qaa hatj;have hjt:ji.toNat=j:=by omega
 have hatk:=hatj;rw[←hjt]at hatk;have hΛ:Λ grl=grl.length:=Λo grl;rw[hji];have hl0:Λ []=0:=Λo [];have htk:List.take np pl=pl:=List.take_of_length_le (by omega);rw[List.take.eq_def]at htk;simp only[QaR,Qbn,Qbz,QaA,Qag,Qai,Qay]at*
 conv=>cbv
 repeat' first|(intro(k:Nat) hk;refine(fun(hz:j=k)=> ?_) ?_;rotate_left;omega;subst hz;(conv=>cbv))|(intro(e:List D) he;cases osj (he.symm.trans hatk);(conv=>cbv))|(intro(m:Nat) (r:Bool) (y:List (List D)) hm hr hy;refine(fun(hz:np=m) (hz2:pl=y)=> ?_) (by rw[htk]at hm;omega) (by rw[htk]at hy;exact hy.symm);subst hz;subst hz2;(conv=>cbv))|(intro(_:Unit);rw[htk];exact⟨rfl,by omega⟩)|exact gu|exact trivial|refine And.intro ?_ ?_|(intro hc;first|exact absurd hc (by decide)|(exfalso;omega)|((first|rw[wS (by omega) (by omega)]at hc|rw[Qab]at hc|skip);try (conv=>cbv)))|refine CallG.old ?_
 have heq:[[iD x.1,iD (g.rs x),.list false 1 pl]]=List.map Qbv [⟨x.1,g.rs x,p⟩]:=by rw[←hpl];rfl
 refine fin 3 0 true _ 1 _ rfl heq ?_ (by omega) ?_
 ·rw[htk];rfl
 ·exact⟨_,rfl⟩
theorem QAM{P:Program}{gr:List D}{g:Wlk}{S:List WSt}{n:Nat}{x:WSt}(h:RlS P gr g S n x)(p:List Int)(r:Bool)(v np:Nat)(hnp:np=p.length)(hle:p.length+n<=1000000)(hh:Hp)(L:Nat)(hL:hh[L]? =some (.da r v 1 (p.map QaC)))(i:Int)(hi:((Qf7 S x:Nat):Int)=i):
  QiJ P hh QaP [.c (.rp gr),iA i,.c (.arr L v 0 np)] (.c (.d (Qnu (brR g n x p)))):=by
 subst hi;exact .inr (.inr (h p r v hh L np hnp hle hL))
theorem Qss(P:Program)(hP:P=Tryz.prog)(t:Top)(xs:List Tab){g:Wlk}{s0:WSt}{K:Kn WSt}{S:List WSt}{l:List StR}(hG:GrF g s0 K S l){n:Nat}{x:WSt}(hx:x∈S)(ha:g.ar x≠[])(p:List Int)(r:Bool)(v np:Nat)(hnp:np=p.length)(hle:p.length+(n+1)<=1000000)(hbl:(brR g (n+1) x p).length<=1000)
 (ih:∀e∈g.ar x,RlS P (grD t xs g S l) g S n (g.to x e)):
  FnS P QaP [.c (.rp (grD t xs g S l)),iA (Qf7 S x:Nat),.c (.arr 0 v 0 np)] [.da r v 1 (p.map QaC)] fun q h'=>∃k ve rr es,es=(brR g (n+1) x p).map Qbv/\q= .c (.arr k ve 0 es.length)/\h'[k]? =some (.da rr ve 3 es)/\1<=k/\∃t,h'=[.da r v 1 (p.map QaC)]++t:=by
 have ihp:=fun e he=>QAM (ih e he)
 refine QaF (hP▸mixed) (hP▸Qdt) (hP▸QdL) (nle rfl) fun Λ Λo Q hQ=> ?_
 clear hP ih;obtain⟨j,hj⟩:=List.getElem?_of_mem hx;have hix:Qf7 S x=j:=Qkc hj (by
  intro hm;obtain⟨i,hi,he⟩:=List.getElem_of_mem hm;rw[List.length_take]at hi;have h1:S[i]? =some x:=by rw[←he,List.getElem_take];exact lgE _
  have:=(List.getElem?_inj (by omega) hG.ex.nd).1 (h1.trans hj.symm);omega)
 rw[hix];have hk:=hG.ks;obtain⟨u,hu,hux⟩:∃u,l[j]? =some u/\u.key=x:=by
  rw[←hk,gtm,omi]at hj;exact hj
 obtain⟨e1,e2,-,-⟩:=hG.st u (mgE hu);have hatj:(l.map (Qda g S))[j]? =some (Qda g S u):=by rw[gtm,hu];rfl
 rw[hux]at e1 e2;have hun:u.node=x.1:=by rw[←hux]
 simp only[Qda,e1,e2,hux,hun]at hatj;have fin:=fun k ve rr n' h' (h0:n'=((brR g (n+1) x p).map Qbv).length) h2 h3 h4=>hQ (.c (.arr k ve 0 n')) h' ⟨k,ve,rr,_,rfl,by rw[h0],h2,h3,h4⟩
 clear hQ;simp only[grD]at ihp ⊢;generalize hgrl:l.map (Qda g S)=grl at*;generalize hpl:p.map QaC=pl at*;have hpln:pl.length=np:=by rw[←hpl,List.length_map];exact hnp.symm
 obtain⟨ji,hji⟩:∃ji:Int,(j:Int)=ji:=⟨_,rfl⟩;have hjl:j<grl.length:=Qaa hatj;have hΛ:Λ grl=grl.length:=Λo grl;rw[hji];have hjt:ji.toNat=j:=by omega
 have hatk:=hatj;rw[←hjt]at hatk;have hgn:(QgY S (g.nx x)).length=(g.ar x).length:=by rw[QgY,List.length_map,Wlk.nx,nxt,List.length_map]
 have hpos:0<(g.ar x).length:=by
  cases h:g.ar x with
  |nil=>exact absurd h ha
  |cons=>simp
 generalize hnl:QgY S (g.nx x)=nl at*;have hΛn:Λ nl=nl.length:=Λo nl;simp only[QaA,Qag,Qai,Qay]at*;generalize harl:(g.ar x).map QaC=arl at*;have hΛa:Λ arl=(g.ar x).length:=by rw[Λo,←harl,List.length_map]
 obtain⟨un,⟨pid,psr,pds,pfl,pst,pho⟩,uar,unx,urs,uco,uct⟩:=u;simp only at hatj hatk;clear hatj hu hux e1 e2 hun hk;generalize List.map Qaf pst=skl at*;generalize hol:List.map Qbh t.ov=ol at*;generalize hll:List.map QaD t.links=ll at*;generalize hxl:List.map Qak xs=xl at*;generalize htn:t.nodes=nodes at*
 conv=>cbv
 repeat' first|(intro(k:Nat) hk;refine(fun(hz:j=k)=> ?_) ?_;rotate_left;omega;subst hz;(conv=>cbv))|(intro(e:List D) he;cases osj (he.symm.trans hatk);(conv=>cbv))|exact gu|exact trivial|refine And.intro ?_ ?_|(intro hc;first|exact absurd hc (by decide)|(exfalso;omega)|((first|rw[wS (by omega) (by omega)]at hc|rw[Qab]at hc|skip);try (conv=>cbv)))|refine CallG.old ?_
 have htk:List.take np pl=pl:=List.take_of_length_le (by omega);rw[List.take.eq_def]at htk;refine Qby (g.ar x).length (fun(s:Int×Nat×Nat×Bool×List (List D))=>[(0,.c (.rp [iD nodes,.list false 1 ol,.list false 7 ll,.list false 3 xl,.list false 12 grl])),(2,.c (.arr 0 v 0 np)),(7,.c (.ptr 1 0 0 0)),(8,.c (.arr 2 s.2.1 0 s.2.2.1)),(9,iA s.1)])
  (fun s=>[.da r v 1 pl,.bx [.d (iD x.1),.d (iD pid),.d (iD psr),.d (iD pds),.d (iD pfl),.d (.list false 2 skl),.d (iD pho),.d (.list false 1 arl),.d (.list false 1 nl),.d (iD (g.rs x)),.d (iD uco),.d (iD uct)],.da s.2.2.2.1 s.2.1 3 s.2.2.2.2])
  (fun k s=>s.1=k/\k<=(g.ar x).length/\s.2.2.1=s.2.2.2.2.length/\s.2.2.2.2=(brT g n x p k).map Qbv) (0,0,0,false,[])
  0 (fun(s:Nat×Bool×Nat)=>[(8,.c (.arr 2 s.1 0 s.2.2))])
  (fun s=>[.da r v 1 pl,.bx [.d (iD x.1),.d (iD pid),.d (iD psr),.d (iD pds),.d (iD pfl),.d (.list false 2 skl),.d (iD pho),.d (.list false 1 arl),.d (.list false 1 nl),.d (iD (g.rs x)),.d (iD uco),.d (iD uct)],.da s.2.1 s.1 3 ((brT g n x p (g.ar x).length).map Qbv)]) (fun s=>s.2.2=((brT g n x p (g.ar x).length).map Qbv).length)
  (.trans (.nilS 8 3 rfl) (Wk.ca)) ⟨rfl,by omega,rfl,rfl⟩ (fun k s h=>h.2.1) ?_ ?_
 ·rintro kk ⟨d,ve,m,rb,es⟩ Q' ⟨hi,hk,hm,hes⟩ norm jn ex rt;simp only at hi hm hes;by_cases hlt:kk<(g.ar x).length
  ·obtain⟨e,he⟩:∃e,(g.ar x)[kk]? =some e:=⟨_,lgE hlt⟩;have hem:=mgE he;have hdt:d.toNat=kk:=by omega
   have hea:arl[d.toNat]? =some (QaC e):=by rw[hdt,←harl,gtm,he];rfl
   have hna:nl[d.toNat]? =some [iD (Qf7 S (g.to x e):Nat)]:=by rw[hdt,←hnl,QgY,gtm,Wlk.nx,nxt,gtm,he];rfl
   obtain⟨ye,hye⟩:∃ye,ye=pl++[QaC e]:=⟨_,rfl⟩;obtain⟨n1,hn1⟩:∃n1,n1=np+1:=⟨_,rfl⟩;have hpe:(p++[e]).map QaC=ye:=by rw[List.map_append,hpl,hye];rfl
   have hcall:=ihp e hem (p++[e]);rw[hpe]at hcall;have hsucc:=Qjd (n:=n) (p:=p) he;have hbt:=Qth (n:=n) (p:=p) (k:=kk+1) ha;have hes2:(brT g n x p (kk+1)).map Qbv=es++(brR g n (g.to x e) (p++[e])).map Qbv:=by rw[hsucc,List.map_append,hes]
   have hrl:es.length+((brR g n (g.to x e) (p++[e])).map Qbv).length<=1000:=by
    rw[←List.length_append,←hes2,List.length_map];omega
   have hpe1:n1=(p++[e]).length:=by rw[List.length_append,hn1,hnp];rfl
   have hpe2:(p++[e]).length+n<=1000000:=by rw[List.length_append];simp;omega
   simp only[Qnu]at hcall;generalize (brR g n (g.to x e) (p++[e])).map Qbv=rl2 at*;obtain⟨y2,hy2⟩:∃y,y=es++rl2:=⟨_,rfl⟩;obtain⟨m2,hm2⟩:∃z,z=m+rl2.length:=⟨_,rfl⟩;obtain⟨i1,hi1⟩:∃z:Int,z=((kk+1:Nat):Int):=⟨_,rfl⟩;obtain⟨jx,hjx⟩:∃z:Int,((Qf7 S (g.to x e):Nat):Int)=z:=⟨_,rfl⟩;rw[hjx]at hna;have hcall:=fun r v hh L hL=>hcall r v n1 hpe1 hpe2 hh L hL jx hjx
   clear fin ihp hix hsucc hbt
   conv=>cbv
   repeat' first|(intro(e:List D) he;cases osj (he.symm.trans hea);(conv=>cbv))|(intro(e:List D) he;cases osj (he.symm.trans hna);(conv=>cbv))|(intro(m:Nat) (r:Bool) (y:List (List D)) hm hr hy;refine(fun(hz:np=m) (hz2:pl=y)=> ?_) (by rw[htk]at hm;omega) (by rw[htk]at hy;exact hy.symm);subst hz;subst hz2;(conv=>cbv))|(intro(_:Unit);rw[htk];exact⟨rfl,by omega⟩)|(refine CallS.pure (hcall _ _ _ 3 rfl) ?_;(conv=>cbv))|(intro(m:Nat) (r:Bool) (y:List (List D)) hm hr hy;refine(fun(hz:n1=m) (hz2:ye=y)=> ?_) (by first|omega|(simp only[List.length_cons,List.length_nil]at hm;omega)) (by first|(rw[hy,List.drop_zero,List.take_of_length_le (by omega)];exact hye)|(rw[hy];exact hye));subst hz;subst hz2;(conv=>cbv))|(intro(m:Nat) (r:Bool) (y:List (List D)) hm hr hy;refine(fun(hz:m2=m) (hz2:y2=y)=> ?_) (by first|omega|(simp only[List.length_cons,List.length_nil]at hm;omega)) (by first|(rw[hy,List.drop_zero,List.take_of_length_le (by omega)];exact hy2)|(rw[hy];exact hy2));subst hz;subst hz2;(conv=>cbv))|(intro(k:Int) hk;rw[wS (by omega) (by omega)]at hk;refine(fun(hz:i1=k)=> ?_) ?_;rotate_left;omega;subst hz;(conv=>cbv))|exact gu|exact trivial|refine And.intro ?_ ?_|(intro hc;first|exact absurd hc (by decide)|(exfalso;omega)|((first|rw[wS (by omega) (by omega)]at hc|rw[Qab]at hc|skip);try (conv=>cbv)))|refine CallG.old ?_
   refine norm _ _ (_,_,_,_,_) ?_ (Wk.ca);exact⟨hi1,by omega,by simp only;rw[hy2,List.length_append];omega,by simp only;rw[hy2,hes2]⟩
  ·obtain rfl:kk=(g.ar x).length:=by omega
   clear fin ihp norm;subst hes;generalize hbl:(brT g n x p (g.ar x).length).map Qbv=rl2 at*
   conv=>cbv
   repeat' first|exact gu|exact trivial|refine And.intro ?_ ?_|(intro hc;first|exact absurd hc (by decide)|(exfalso;omega)|((first|rw[wS (by omega) (by omega)]at hc|rw[Qab]at hc|skip);try (conv=>cbv)))|refine CallG.old ?_
   refine jn _ _ (_,_,_) ?_ (Wk.ca);exact hm
 ·rintro⟨ve,rb,m⟩ hm;simp only at hm;rw[Qtg ha (Nat.le_refl _)]at hm ⊢;clear ihp;generalize (brR g (n+1) x p).map Qbv=rl2 at*;have hfin:=fun h' h2 h4=>fin 2 ve rb m h' hm h2 (by omega) h4
  conv=>cbv
  repeat' first|exact gu|exact trivial|refine And.intro ?_ ?_|(intro hc;first|exact absurd hc (by decide)|(exfalso;omega)|((first|rw[wS (by omega) (by omega)]at hc|rw[Qab]at hc|skip);try (conv=>cbv)))|refine CallG.old ?_
  refine hfin _ ?_ ?_
  ·rfl
  ·exact⟨_,rfl⟩
theorem Qwx(P:Program)(hP:P=Tryz.prog)(t:Top)(xs:List Tab){g:Wlk}{s0:WSt}{K:Kn WSt}{S:List WSt}{l:List StR}(hG:GrF g s0 K S l):∀(n:Nat) (x:WSt),x∈S->Dep g.nx n x->(∀p,(brR g n x p).length<=1000)->RlS P (grD t xs g S l) g S n x:=by
 intro n;induction n with
 |zero=>
  intro x hx hd _;have ha:g.ar x=[]:=by
   have:g.nx x=[]:=hd;rw[Wlk.nx,nxt,List.map_eq_nil_iff]at this;exact this
  exact Quu fun p r v np h1 h2=>QlL P hP t xs hG hx ha p r v np h1 h2
 |succ n ih=>
  intro x hx hd hl;by_cases ha:g.ar x=[]
  ·exact Quu fun p r v np h1 h2=>QlL P hP t xs hG hx ha p r v np h1 h2
  ·have hin:∀e∈g.ar x,g.to x e∈g.nx x:=fun e he=>by rw[Wlk.nx,nxt];exact List.mem_map_of_mem he
   refine Quu fun p r v np h1 h2=>Qss P hP t xs hG hx ha p r v np h1 h2 (hl p) fun e he=>ih _ (hG.ex.cl x hx _ (hin e he)) (hd _ (hin e he)) fun q=> ?_
   have hq:=hl (q.take (q.length-1));obtain⟨k,hk⟩:=List.getElem?_of_mem he;have h3:=Qth (n:=n) (p:=p) (k:=k+1) ha;rw[Qjd hk,List.length_append]at h3;have h4:=hl p;have h5:(brR g n (g.to x e) q).length=(brR g n (g.to x e) (p++[e])).length:=by
    simp only[brR,List.length_map];rw[Qgx,Qgx]
   omega
theorem FnS.nilAz{P:Program}{f:Nat}{pre:List AV}{sz:Nat}{h:Hp}{R:AV->Hp->Prop}(hf:FnS P f (pre++[.c (.arr h.length 0 0 0)]) (h++[.da false 0 sz []]) R):FnS P f (pre++[.c (.d (.list true sz []))]) h R:=by
 refine⟨fun G ι w vs hr hv=> ?_⟩;obtain⟨q1,q2,q3⟩:=Qne (sz:=sz) hr;refine(hf.out G _ w vs q1 ⟨by have:=hv.1;simpa using this,fun i v u h1 h2=> ?_⟩).mono fun e w' ⟨v,r,G',ι',h',a1,a2,a3,a4,a5⟩=>⟨v,r,G',ι',h',a1,a2,a3,a4,q3.trans a5⟩
 rcases Nat.lt_or_ge i pre.length with hi|hi
 ·rw[gal hi]at h2;exact(hv.2 i v u h1 (by rw[gal hi];exact h2)).ext q3 hr
 ·have hl:=hv.1;have hi2:=Qaa h1;rw[hl,List.length_append,List.length_singleton]at hi2;obtain rfl:i=pre.length:=by omega
  rw[List.getElem?_append_right (by omega)]at h2;simp at h2;subst h2;have hd:=Qb8 (hv.2 pre.length v _ h1 (by rw[List.getElem?_append_right (by omega)];simp;rfl));rw[Qfr hd];exact q2
theorem Qut{P:Program}{gr:List D}{g:Wlk}{S:List WSt}{n:Nat}{x:WSt}(h:RlS P gr g S n x)(hn:n<=1000000)(h0:Hp)(i:Int)(hi:((Qf7 S x:Nat):Int)=i):
  FnS P QaP [.c (.rp gr),iA i,.c (.d (.list true 1 []))] h0 fun r h'=>r= .c (.d (Qnu (brR g n x [])))/\h'=h0++[.da false 0 1 []]:=by
 subst hi;refine FnS.nilAz (pre:=[.c (.rp gr),iA (Qf7 S x:Nat)]) ?_;have h1:=h [] false 0 (h0++[.da false 0 1 []]) h0.length 0 rfl (by simpa using hn) (by simp) (h0++[.da false 0 1 []]) (fun a _=>Qgu _ a);exact h1.mono fun r h' hh=>⟨hh.2,hh.1⟩
theorem QvU{g:Wlk}{s0:WSt}{K:Kn WSt}{S:List WSt}{l:List StR}(hG:GrF g s0 K S l){c:Int}(hc:lkK K s0=some (some c)):∃d0 d1 d2 d3 d4 d5 d6 d7 d8 d9 d10 r,l.map (Qda g S)=[d0,d1,d2,d3,d4,d5,d6,d7,d8,d9,d10,iD c]::r:=by
 obtain⟨r,hS⟩:=hG.ex.hd;have hk:=hG.ks;cases l with
 |nil=>rw[hS]at hk;cases hk
 |cons u l=>
  rw[hS,List.map_cons,List.cons.injEq]at hk;have h4:=(hG.st u (by simp)).2.2.2 c (by rw[hk.1];exact hc);exact⟨_,_,_,_,_,_,_,_,_,_,_,_,by rw[List.map_cons,Qda,h4]⟩
theorem Qsd{g:Wlk}{s0:WSt}{K:Kn WSt}{S:List WSt}{l:List StR}(hG:GrF g s0 K S l):((Qf7 S s0:Nat):Int)=0:=by
 obtain⟨r,e⟩:=hG.ex.hd;rw[Qkc (k:=0) (by rw[e];rfl) (by simp)];rfl
theorem Qtm{g:Wlk}{U:List WSt}{s0:WSt}{K:Kn WSt}(hcl:∀s∈U,∀y∈g.nx s,y∈U)(hs:s0∈U)(hd:dfs g.nx U.length [] s0=some K):∃c,lkK K s0=some (some c)/\Dep g.nx U.length s0/\(1000<c↔1000<num g.nx U.length s0)/\∀p,(brR g U.length s0 p).length=num g.nx U.length s0:=by
 obtain⟨hres,c,hc⟩:=QhF (nx:=g.nx) (K:=[]) (fun x c h=>by cases h) hd;obtain⟨n0,hdep0,hcn⟩:=(hres.dn _ _ hc).1;have hdep:Dep g.nx U.length s0:=Qxi hcl hs hdep0;rw[Qrk hdep0 hdep]at hcn;refine⟨c,hc,hdep,?_,fun p=>by rw[brR,List.length_map];exact Qgx g.ar g.to U.length s0 p⟩;rw[hcn,QiW];split<;>omega
theorem QyK(P:Program)(hP:P=Tryz.prog)(t:Top)(xs:List Tab)(p:Pkt)(from_:Int)(g:Wlk)(U:List WSt)(hU:Qam t xs from_=0->GOK P t xs p g U/\Expl g.nx (from_,p.stack) U):
  Ret P Qkq [QaR t,Qbn xs,Qbz p,iA from_] (.tup [.c (.d (Qnu (Qju g U.length (from_,p.stack) (Qam t xs from_)).1)),iA (Qju g U.length (from_,p.stack) (Qam t xs from_)).2]):=by
 have hck:=Qum P hP t xs p from_ g U hU;have hli:=fun{s0:WSt} {K:Kn WSt} {S:List WSt} {l:List StR} (hG:GrF g s0 K S l)=>Qwx P hP t xs hG U.length
 refine Qah (hP▸mixed) (hP▸QoB) (hP▸QpH) (nle rfl) fun Λ Λo K hK=> ?_
 clear hP;by_cases h0:Qam t xs from_=0
 ·obtain⟨hGK,hE⟩:=hU h0;have hUl:=hGK.len;rw[h0]at hck hK;simp only[QzG,QsY,if_true]at hck;cases hd:dfs g.nx U.length [] (from_,p.stack)with
  |none=>
   rw[hd]at hck;simp only[Qju,hd,if_true]at hK;simp only at hck;clear hli hU;generalize (from_,p.stack)=st at*;obtain⟨id,src,dst,flow,st0,hops⟩:=p;simp only[QaR,Qbn,Qbz,QaA,Qag,Qai]at hck ⊢;generalize hxl:List.map Qak xs=xl at*;generalize hol:t.ov.map Qbh=ol at*;generalize hll:t.links.map QaD=ll at*;generalize htn:t.nodes=nodes at*;generalize List.map Qaf st0=sl at*
   conv=>cbv
   repeat' first|(refine Qaw [] hck rfl rfl (by decide) trivial rfl rfl ?_;rintro r hc' ⟨_,rfl⟩;(conv=>cbv))|exact hK|exact gu|exact trivial|refine And.intro ?_ ?_|(intro hc;first|exact absurd hc (by decide)|(exfalso;omega)|((first|rw[wS (by omega) (by omega)]at hc|rw[Qab]at hc|skip);try (conv=>cbv)))|refine CallG.old ?_
  |some K=>
   rw[hd]at hck;simp only at hck;obtain⟨c,hc,hdep,hcn,hbl⟩:=Qtm hGK.cl hE.st hd;simp only[Qju,hd,if_true]at hK;have hlist:∀{S:List WSt} {l:List StR},GrF g (from_,p.stack) K S l->¬1000<num g.nx U.length (from_,p.stack)->∀h0,FnS P QaP [.c (.rp (grD t xs g S l)),iA 0,.c (.d (.list true 1 []))] h0 fun r h'=>r= .c (.d (Qnu (brR g U.length (from_,p.stack) [])))/\h'=h0++[.da false 0 1 []]:=fun hG hn h0=>
    Qut (hli hG _ hG.ex.st hdep fun p=>by rw[hbl];omega) (by omega) h0 0 (Qsd hG)
   clear hli hU hbl hdep hE hGK hd;have hfst:=fun{S:List WSt} {l:List StR} (hG:GrF g (from_,p.stack) K S l)=>QvU hG hc
   by_cases hnum:1000<num g.nx U.length (from_,p.stack)
   ·rw[if_pos hnum]at hK;have hc1:1000<c:=hcn.2 hnum;clear hcn hlist hnum;generalize (from_,p.stack)=st at*;obtain⟨id,src,dst,flow,st0,hops⟩:=p;simp only[QaR,Qbn,Qbz,QaA,Qag,Qai]at hck ⊢;generalize hxl:List.map Qak xs=xl at*;generalize hol:t.ov.map Qbh=ol at*;generalize hll:t.links.map QaD=ll at*;generalize htn:t.nodes=nodes at*;generalize List.map Qaf st0=sl at*
    conv=>cbv
    repeat' first|(refine Qaw [] hck rfl rfl (by decide) trivial rfl rfl ?_;rintro r hc' ⟨_,S,l,rfl,hG⟩;obtain⟨d0,d1,d2,d3,d4,d5,d6,d7,d8,d9,d10,grr,hgr⟩:=hfst hG;have hgl:=Λo (l.map (Qda g S));have hg0:(l.map (Qda g S))[(0:Int).toNat]? =some [d0,d1,d2,d3,d4,d5,d6,d7,d8,d9,d10,iD c]:=(by rw[hgr];rfl);have hgp:0<(l.map (Qda g S)).length:=(by rw[hgr];simp);simp only[grD,Qag,Qai,hxl,hol,hll,htn];generalize l.map (Qda g S)=grl at *;(conv=>cbv))|(intro(e:List D) he;cases osj (he.symm.trans hg0);(conv=>cbv))|exact hK|exact gu|exact trivial|refine And.intro ?_ ?_|(intro hc;first|exact absurd hc (by decide)|(exfalso;omega)|((first|rw[wS (by omega) (by omega)]at hc|rw[Qab]at hc|skip);try (conv=>cbv)))|refine CallG.old ?_
   ·rw[if_neg hnum]at hK;have hc1:¬1000<c:=fun h=>hnum (hcn.1 h)
    have hlist:=fun{S:List WSt} {l:List StR} (hG:GrF g (from_,p.stack) K S l)=>hlist hG hnum
    clear hcn hnum;simp only[Qnu]at hK hlist;generalize List.map Qbv (brR g U.length (from_,p.stack) [])=rl at*;generalize (from_,p.stack)=st at*;obtain⟨id,src,dst,flow,st0,hops⟩:=p;simp only[QaR,Qbn,Qbz,QaA,Qag,Qai]at hck ⊢;generalize hxl:List.map Qak xs=xl at*;generalize hol:t.ov.map Qbh=ol at*;generalize hll:t.links.map QaD=ll at*;generalize htn:t.nodes=nodes at*;generalize List.map Qaf st0=sl at*
    conv=>cbv
    repeat' first|(refine Qaw [] hck rfl rfl (by decide) trivial rfl rfl ?_;rintro r hc' ⟨_,S,l,rfl,hG⟩;obtain⟨d0,d1,d2,d3,d4,d5,d6,d7,d8,d9,d10,grr,hgr⟩:=hfst hG;have hgl:=Λo (l.map (Qda g S));have hg0:(l.map (Qda g S))[(0:Int).toNat]? =some [d0,d1,d2,d3,d4,d5,d6,d7,d8,d9,d10,iD c]:=(by rw[hgr];rfl);have hgp:0<(l.map (Qda g S)).length:=(by rw[hgr];simp);have hcall:=hlist hG;simp only[grD,Qag,Qai,hxl,hol,hll,htn]at hcall ⊢;generalize l.map (Qda g S)=grl at *;(conv=>cbv))|(intro(e:List D) he;cases osj (he.symm.trans hg0);(conv=>cbv))|(refine CallS.fn (FnS.mono (hcall _) ?_);rintro r h' ⟨rfl,rfl⟩;(conv=>cbv))|exact hK|exact gu|exact trivial|refine And.intro ?_ ?_|(intro hc;first|exact absurd hc (by decide)|(exfalso;omega)|((first|rw[wS (by omega) (by omega)]at hc|rw[Qab]at hc|skip);try (conv=>cbv)))|refine CallG.old ?_
 ·simp only[QzG,QsY,if_neg h0]at hck;simp only[Qju,if_neg h0]at hK;generalize Qam t xs from_=e at*;clear hli hU;obtain⟨id,src,dst,flow,st0,hops⟩:=p;simp only[QaR,Qbn,Qbz,QaA,Qag,Qai]at hck ⊢;generalize hxl:List.map Qak xs=xl at*;generalize hol:t.ov.map Qbh=ol at*;generalize hll:t.links.map QaD=ll at*;generalize htn:t.nodes=nodes at*;generalize List.map Qaf st0=sl at*
  conv=>cbv
  repeat' first|(refine Qaw [] hck rfl rfl (by decide) trivial rfl rfl ?_;rintro r hc' ⟨_,rfl⟩;(conv=>cbv))|exact hK|exact gu|exact trivial|refine And.intro ?_ ?_|(intro hc;first|exact absurd hc (by decide)|(exfalso;omega)|((first|rw[wS (by omega) (by omega)]at hc|rw[Qab]at hc|skip);try (conv=>cbv)))|refine CallG.old ?_
def Qhp(xs:List Tab)(n:Int):Tab:=xs.getD n.toNat ⟨0,[],[]⟩
def gA(t:Top)(xs:List Tab)(p:Pkt)(s:WSt):Ans:=QhX t (Qhp xs s.1) {p with stack:=s.2,hops:=0}
def gW(t:Top)(xs:List Tab)(p:Pkt):Wlk:=⟨fun s=>(gA t xs p s).1,fun s=>(gA t xs p s).2.2,fun s a=>(QcB t a,(gA t xs p s).2.1.stack)⟩
structure StI (t:Top) (s:WSt):Prop where
 nn:0<=s.1
 lt:s.1<t.nodes
 len:s.2.length<=40
 ins:InS s.2
structure TbI (xs:List Tab):Prop where
 ar:∀x∈xs,∀e∈x.to,e.arcs.length<=1000/\e.push.length<=1000
structure AnI (a:Ans):Prop where
 ar:a.1.length<=1000
 st:InS a.2.1.stack
section
variable{t:Top}{x:Tab}{p:Pkt}
structure EtI (x:Tab):Prop where
 et:∀e∈x.to,e.arcs.length<=1000/\InS e.push
theorem EtI.ent(h:EtI x)(n:Int):(ent x n).arcs.length<=1000/\InS (ent x n).push:=by
 unfold Go.Ab.ent;rw[List.getD_eq_getElem?_getD];cases hg:x.to[n.toNat]? with
 |none=>exact⟨by simp[default],fun s hs=>by simp[default]at hs⟩
 |some e=>exact h.et e (mgE hg)
theorem Qlp(r:Int)(h:InS p.stack):AnI ([],p,r):=⟨by simp,h⟩
theorem Qjv{l:List Seg}{ar:List Int}(h1:ar.length<=1000)(h2:InS l):AnI (Qed p l ar):=⟨h1,h2⟩
theorem QnV{l:List Seg}{e:Ety}(he:e.arcs.length<=1000/\InS e.push)(hp:InS p.stack)(hl:InS l):AnI (Qde p l e):=by
 unfold Qde;split
 ·split
  ·exact Qlp _ hp
  ·refine Qjv he.1 fun s hs=> ?_
   rcases List.mem_append.1 hs with hs|hs
   ·exact he.2 s hs
   ·exact hl s (List.mem_of_mem_drop hs)
 ·exact Qjv he.1 hl
theorem QnW(hx:EtI x)(hp:InS p.stack):AnI (Qei t x p):=by
 unfold Qei;split
 ·exact⟨by simp,fun s hs=>by simp at hs⟩
 ·split
  ·exact Qlp _ hp
  ·split
   ·exact QnV (hx.ent _) hp fun s hs=>by simp at hs
   ·exact Qlp _ hp
theorem Qs5(hx:EtI x)(hp:InS p.stack){l:List Seg}(hl:InS l):AnI (Qfv t x p l):=by
 cases l with
 |nil=>exact QnW hx hp
 |cons s r=>
  have hr:InS r:=fun y hy=>hl y (by simp[hy])
  simp only[Qfv]
  repeat' split
  all_goals first
   |exact Qlp _ hp
   |exact QnW hx hp
   |exact QnV (hx.ent _) hp hl
   |exact Qjv (by simp) hr
theorem Qvk(hx:EtI x)(hp:InS p.stack):AnI (QhX t x p):=by
 unfold QhX;split
 ·split
  ·exact Qlp _ hp
  ·exact Qs5 hx hp fun s hs=>hp s (List.dropWhile_subset _ hs)
 ·exact Qlp _ hp
end
theorem QAQ{t:Top}(hv:Qan t=true){s:Seg}(h:Qsy t s=true):In64 s.kind/\In64 s.num:=by
 have v:=Qat.1 hv;have h:=QfE.1 h;unfold In64;omega
theorem QqQ{t:Top}{xs:List Tab}(h:Qcu t xs=true){n:Int}(h0:0<=n)(h1:n<t.nodes):xs[n.toNat]? =some (Qhp xs n)/\Qhp xs n∈xs/\(Qhp xs n).node=n/\Qh0 t (Qhp xs n)=true:=by
 obtain⟨-,h2,h3⟩:=QbE.1 h;have hl:n.toNat<xs.length:=by omega
 have e:xs[n.toNat]? =some (Qhp xs n):=by rw[Qhp,List.getD_eq_getElem?_getD,lgE hl];rfl
 obtain⟨q1,q2⟩:=h3 _ _ e;exact⟨e,mgE e,by omega,q2⟩
theorem QAd{t:Top}{x:Tab}(h:Qh0 t x=true)(hs:∀e∈x.to,e.arcs.length<=1000):EtI x:=by
 obtain⟨v,-,-,-,h5⟩:=Qce.1 h;refine⟨fun e he=>⟨hs e he,fun s hs'=> ?_⟩⟩;obtain⟨i,hi⟩:=List.getElem?_of_mem he;exact QAQ v ((Qfb.1 (h5 i e hi)).2.2.2.2 s hs')
section
variable{P:Program}(hP:P=Tryz.prog){t:Top}{xs:List Tab}{p:Pkt}(hc:Qcu t xs=true)(hx:TbI xs)
theorem QBI{x:Tab}{p q:Pkt}{a:Ans}(h:Bnd t x q a)(hq:q.id=p.id/\q.src=p.src/\q.dst=p.dst/\q.flow=p.flow):a.2.1={p with stack:=a.2.1.stack,hops:=a.2.1.hops}:=by
 obtain⟨a1,⟨i,s,d,f,st,hp⟩,r⟩:=a;have h1:=h.id;have h2:=h.src;have h3:=h.dst;have h4:=h.flow;simp only at h1 h2 h3 h4;rw[hq.1]at h1;rw[hq.2.1]at h2;rw[hq.2.2.1]at h3;rw[hq.2.2.2]at h4;subst h1 h2 h3 h4;rfl
include hc hx in
theorem QnA{s:WSt}(hs:StI t s):AnI (gA t xs p s)/\(∀a∈(gA t xs p s).1,0<=a/\a<2*t.links.length)/\(∀a∈(gA t xs p s).1,StI t ((gW t xs p).to s a)):=by
 obtain⟨e1,e2,e3,e4⟩:=QqQ hc hs.nn hs.lt;have hv:=(QbE.1 hc).1;have hani:=Qvk (t:=t) (p:={p with stack:=s.2,hops:=0}) (QAd e4 fun e he=>(hx.ar _ e2 e he).1) hs.ins;have hb:=QqM t (Qhp xs s.1) {p with stack:=s.2,hops:=0};have hra:∀a∈(gA t xs p s).1,0<=a/\a<2*t.links.length:=fun a ha=>by
  have h0:(gA t xs p s).2.2=0:=hb.some.2 (by
   show 0<(gA t xs p s).1.length;cases h:(gA t xs p s).1 with
   |nil=>rw[h]at ha;cases ha
   |cons=>simp)
  have h1:=(hb.yes h0).1 a ha;rw[e3]at h1;rw[Qbe]at h1;split at h1
  ·rename_i h2;have:=Qes t;omega
  ·have:=hs.nn;omega
 refine⟨hani,hra,fun a ha=> ?_⟩;have h0:(gA t xs p s).2.2=0:=hb.some.2 (by
  show 0<(gA t xs p s).1.length;cases h:(gA t xs p s).1 with
  |nil=>rw[h]at ha;cases ha
  |cons=>simp)
 obtain⟨r0,r1⟩:=hra a ha;have hhd:QcB t a=QA7 t true a:=by
  rw[QcB,QbB,if_pos hv,if_pos ⟨r0,r1⟩];rfl
 obtain⟨q1,q2⟩:=QrZ hv true r0 r1;exact⟨by show 0<=QcB t a;rw[hhd];exact q1,by show QcB t a<t.nodes;rw[hhd];exact q2,by have:=(hb.yes h0).2.1;show(gA t xs p s).2.1.stack.length<=40;exact Nat.le_trans this (by omega),hani.st⟩
include hP hc hx in
theorem QuM{s:WSt}(hs:StI t s):StpW P t xs p (gW t xs p) s (Qhp xs s.1) (gA t xs p s).2.1.stack (gA t xs p s).2.1.hops/\StpG P t xs p (gW t xs p) s (Qhp xs s.1) (gA t xs p s).2.1.stack (gA t xs p s).2.1.hops:=by
 obtain⟨e1,e2,e3,e4⟩:=QqQ hc hs.nn hs.lt;have hv:=Qat.1 (QbE.1 hc).1;obtain⟨k1,k2,k3⟩:=QnA hc hx hs (p:=p);have hf:Fit (Qhp xs s.1) {p with stack:=s.2,hops:=0}:=⟨fun e he=>hx.ar _ e2 e he,by have:=hs.len;show s.2.length<=1000;omega⟩;have hb:=QqM t (Qhp xs s.1) {p with stack:=s.2,hops:=0};have hpk:=QBI (p:=p) hb ⟨rfl,rfl,rfl,rfl⟩;have h1:=Qza P hP t (Qhp xs s.1) _ hf;have h2:=QwD P hP t (Qhp xs s.1) _ hf;unfold Qgw QsG at h1 h2;rw[hpk]at h1 h2;have hh:∀a∈(gA t xs p s).1,Qp6 t a=QcB t a:=fun a ha=>by
  obtain⟨r0,r1⟩:=k2 a ha;rw[QcB,QbB,if_pos (QbE.1 hc).1,if_pos ⟨r0,r1⟩];rfl
 exact⟨⟨e1,hs.nn,h1,fun a ha=>by
   have:=QvT P hP t a (k2 a ha).1 (k2 a ha).2 hv.2.2.1;rw[hh a ha]at this;exact this,fun a _=>rfl,k1.ar⟩,⟨e1,hs.nn,h2,fun a _=>Qp7 P hP t a,fun a _=>rfl,k1.ar⟩⟩
include hP hc hx in
theorem QyE{s0:WSt}{U:List WSt}(h0:StI t s0)(hE:Expl (gW t xs p).nx s0 U)(hl:U.length<=1000):UOK P t xs p (gW t xs p) U/\GOK P t xs p (gW t xs p) U:=by
 have hall:∀x∈U,StI t x:=hE.mn (StI t) h0 fun x hx' y hy=>by
  rw[Wlk.nx,nxt,List.mem_map]at hy;obtain⟨a,ha,rfl⟩:=hy;exact(QnA hc hx hx').2.2 a ha
 have hv:=Qat.1 (QbE.1 hc).1;refine⟨⟨hl,fun s hs=>⟨?_,by have:=(hall s hs).len;omega,(hall s hs).ins⟩,fun s hs=>⟨_,_,_,(QuM hP hc hx (hall s hs)).1⟩,hE.cl⟩,⟨hl,fun s hs=>⟨_,_,_,(QuM hP hc hx (hall s hs)).2⟩,hE.cl⟩⟩;have h1:=(hall s hs).nn;have h2:=(hall s hs).lt;unfold In64;omega
end
structure C24 where
 (t:Top) (xs:List Tab) (p:Pkt) (fr:Int)
def Qxg(c:C24):AV:= .agg [.d (iD c.t.nodes),.d (Qag c.t.ov),.d (Qai c.t.links),.d (.list false 3 (c.xs.map Qak)),.d (iD c.p.id),.d (iD c.p.src),.d (iD c.p.dst),.d (iD c.p.flow),.d (QaA c.p.stack),.d (iD c.p.hops),.d (iD c.fr)]
def sE(l:List Ety):Nat:=(l.map fun e=>e.arcs.length+e.push.length).sum
def QA0(c:C24):Prop:=∀x∈c.xs,x.down.length+sE x.to<=100000000
structure Sm24 (c:C24):Prop where
 tb:TbI c.xs
 st:c.p.stack.length<=40
 ex:Qcu c.t c.xs=true->0<=c.fr->c.fr<c.t.nodes->∃U,U.length<=300/\Expl (gW c.t c.xs c.p).nx (c.fr,c.p.stack) U
theorem QuD{l:List Ety}{k:Nat}{e:Ety}(h:l[k]? =some e):sE (l.take (k+1))=sE (l.take k)+(e.arcs.length+e.push.length):=by
 rw[sE,Qal h,List.map_append,List.sum_append];simp[sE]
theorem QAN{l:List Ety}(k:Nat):sE (l.take k)<=sE l:=by
 conv=>rhs;rw[←List.take_append_drop k l]
 rw[sE,sE,List.map_append,List.sum_append];omega
theorem QAO{l:List Ety}{e:Ety}(h:e∈l):e.arcs.length+e.push.length<=sE l:=by
 obtain⟨k,hk⟩:=List.getElem?_of_mem h;have h1:=QuD hk;have h2:=QAN (l:=l) (k+1);omega
theorem Qv8(P:Program)(hP:P=Tryz.prog)(c:C24)(hs:QA0 c)(hi:InS c.p.stack):QzG P Qg3 [Qxg c] fun r=>∃b,r=bA b/\(b=false->Sm24 c):=by
 have hco:=Qo2 P hP c.t c.xs;have hex:=fun(h:Qcu c.t c.xs=true) (hx:TbI c.xs) (h0:StI c.t (c.fr,c.p.stack))=>Qik P hP c.t c.xs c.p c.fr (gW c.t c.xs c.p) am0 (StI c.t) h0 (fun s hs=>⟨_,_,_,(QuM hP h hx hs).2⟩) (fun s hs y hy=>by
  rw[Wlk.nx,nxt,List.mem_map]at hy;obtain⟨a,ha,rfl⟩:=hy;exact(QnA h hx hs).2.2 a ha)
 refine QlK (hP▸mixed) (hP▸Qla) (hP▸Qmq) (nle rfl) fun Λ Λo Q hQ=> ?_
 clear hP;have ht:Q (bA true):=hQ _ ⟨true,rfl,fun h=>by cases h⟩;have hf:Sm24 c->Q (bA false):=fun h=>hQ _ ⟨false,rfl,fun _=>h⟩
 clear hQ;obtain⟨t,xs,p,fr⟩:=c;obtain⟨id,src,dst,flow,st0,hops⟩:=p;simp only[Qxg,QA0,QaR,Qbn,Qbz,QaA,Qag,Qai]at*;generalize hxl:List.map Qak xs=xl at*;generalize hol:t.ov.map Qbh=ol at*;generalize hll:t.links.map QaD=ll at*;generalize htn:t.nodes=nodes at*;generalize hsl:List.map Qaf st0=sl at*;have n1:Λ xl=xs.length:=by rw[Λo,←hxl];simp
 have n2:Λ ol=t.ov.length:=by rw[Λo,←hol];simp
 have n3:Λ ll=t.links.length:=by rw[Λo,←hll];simp
 have n4:Λ sl=st0.length:=by rw[Λo,←hsl];simp
 conv=>cbv
 repeat' first|(left;intro(_:Unit);(conv=>cbv))|exact⟨[bA true],⟨.c _ _ (.same _ rfl),trivial⟩,ht⟩|exact gu|exact trivial|refine And.intro ?_ ?_|(intro hc;first|exact absurd hc (by decide)|(exfalso;omega)|((first|rw[wS (by omega) (by omega)]at hc|rw[Qab]at hc|skip);try (conv=>cbv)))|refine CallG.old ?_
 have hst40:st0.length<=40:=by omega
 refine Qby xs.length (fun(i:Int)=>[(1,.c (.ptr 1 0 0 0)),(42,.c (.d (.list false 3 xl))),(43,iA (Λ xl)),(44,iA i)]) (fun _=>[.am am0,.bx [.d (.int .i64 nodes),.d (.list false 1 ol),.d (.list false 7 ll),.d (.list false 3 xl),.d (.int .i64 id),.d (.int .i64 src),.d (.int .i64 dst),.d (.int .i64 flow),.d (.list false 2 sl),.d (.int .i64 hops),.d (.int .i64 fr)]])
  (fun k i=>i=k/\k<=xs.length/\∀(j:Nat) (x:Tab),j<k->xs[j]? =some x->∀e∈x.to,e.arcs.length<=1000/\e.push.length<=1000) 0
  0 (fun(_:Unit)=>[(1,.c (.ptr 1 0 0 0))]) (fun _=>[.am am0,.bx [.d (.int .i64 nodes),.d (.list false 1 ol),.d (.list false 7 ll),.d (.list false 3 xl),.d (.int .i64 id),.d (.int .i64 src),.d (.int .i64 dst),.d (.int .i64 flow),.d (.list false 2 sl),.d (.int .i64 hops),.d (.int .i64 fr)]]) (fun _=>TbI xs) (Wk.ca) ⟨rfl,by omega,fun j x h=>by omega⟩ (fun k s h=>h.2.1) ?_ ?_
 ·rintro kk i Q' ⟨hi,hk,hall⟩ norm jn ex rt;by_cases hlt:kk<xs.length
  ·obtain⟨⟨nd,tl,dl⟩,hx⟩:∃x,xs[kk]? =some x:=⟨_,lgE hlt⟩;have hxa:=Qdd hxl hi hx;simp only[Qak,Qd7,Qay]at hxa;have hsz:=hs _ (mgE hx);simp only at hsz;generalize hdl:dl.map QaC=dll at*;generalize htl:tl.map Qaz=tll at*;have m1:Λ dll=dl.length:=by rw[Λo,←hdl];simp
   have m2:Λ tll=tl.length:=by rw[Λo,←htl];simp
   clear hco hex hf jn
   conv=>cbv
   repeat' first|(left;intro(_:Unit);(conv=>cbv))|(intro(e:List D) he;cases osj (he.symm.trans hxa);(conv=>cbv))|exact gu|exact trivial|refine And.intro ?_ ?_|(intro hc;first|exact absurd hc (by decide)|(exfalso;omega)|((first|rw[wS (by omega) (by omega)]at hc|rw[Qab]at hc|skip);try (conv=>cbv)))|refine CallG.old ?_
   obtain⟨nt,hnt⟩:∃z:Int,z=dl.length+(sE tl:Nat):=⟨_,rfl⟩;refine Qby tl.length (fun(q:Int×Int)=>[(1,.c (.ptr 1 0 0 0)),(42,.c (.d (.list false 3 xl))),(43,iA (Λ xl)),(44,iA i),(4,.c (.ptr 2 0 0 0)),(5,iA q.2),(52,.c (.d (.list false 3 tll))),(53,iA (Λ tll)),(54,iA q.1)]) (fun _=>[.am am0,.bx [.d (.int .i64 nodes),.d (.list false 1 ol),.d (.list false 7 ll),.d (.list false 3 xl),.d (.int .i64 id),.d (.int .i64 src),.d (.int .i64 dst),.d (.int .i64 flow),.d (.list false 2 sl),.d (.int .i64 hops),.d (.int .i64 fr)],.bx [.d (iD nd),.d (.list false 3 tll),.d (.list false 1 dll)]])
    (fun kj q=>q.1=kj/\kj<=tl.length/\q.2=dl.length+(sE (tl.take kj):Nat)) (0,dl.length)
    2 (fun(_:Unit)=>[(1,.c (.ptr 1 0 0 0)),(42,.c (.d (.list false 3 xl))),(43,iA (Λ xl)),(44,iA i),(4,.c (.ptr 2 0 0 0)),(5,iA nt)]) (fun _=>[.am am0,.bx [.d (.int .i64 nodes),.d (.list false 1 ol),.d (.list false 7 ll),.d (.list false 3 xl),.d (.int .i64 id),.d (.int .i64 src),.d (.int .i64 dst),.d (.int .i64 flow),.d (.list false 2 sl),.d (.int .i64 hops),.d (.int .i64 fr)],.bx [.d (iD nd),.d (.list false 3 tll),.d (.list false 1 dll)]]) (fun _=>True) (by rw[←m1];exact(Wk.ca)) ⟨rfl,by omega,by simp[sE]⟩ (fun k s h=>h.2.1) ?_ ?_
   ·rintro kj ⟨j,n⟩ Q2 ⟨hj,hkj,hn⟩ norm2 jn2 ex2 rt2;simp only at hj hn;clear norm ex rt;by_cases hlj:kj<tl.length
    ·obtain⟨⟨ea,er,ep⟩,hy⟩:∃y,tl[kj]? =some y:=⟨_,lgE hlj⟩;have hya:=Qdd htl hj hy;simp only[Qaz,Qay,QaA]at hya;have e1:=QuD hy;have e2:=QAN (l:=tl) (kj+1);simp only at e1;generalize hel:ea.map QaC=eal at*;generalize hpl:ep.map Qaf=epl at*;have m3:Λ eal=ea.length:=by rw[Λo,←hel];simp
     have m4:Λ epl=ep.length:=by rw[Λo,←hpl];simp
     obtain⟨j1,hj1⟩:∃z:Int,z=((kj+1:Nat):Int):=⟨_,rfl⟩;obtain⟨z1,hz1⟩:∃z:Int,z=ea.length+ep.length:=⟨_,rfl⟩;obtain⟨n1',hn1⟩:∃z:Int,z=n+z1:=⟨_,rfl⟩;clear jn2
     conv=>cbv
     repeat' first|(left;intro(_:Unit);(conv=>cbv))|(intro(e:List D) he;cases osj (he.symm.trans hya);(conv=>cbv))|(intro(k:Int) hk;rw[wS (by omega) (by omega)]at hk;refine(fun(hz:j1=k)=> ?_) ?_;rotate_left;omega;subst hz;(conv=>cbv))|(intro(k:Int) hk;rw[wS (by omega) (by omega)]at hk;refine(fun(hz:z1=k)=> ?_) ?_;rotate_left;omega;subst hz;(conv=>cbv))|(intro(k:Int) hk;rw[wS (by omega) (by omega)]at hk;refine(fun(hz:n1'=k)=> ?_) ?_;rotate_left;omega;subst hz;(conv=>cbv))|exact gu|exact trivial|refine And.intro ?_ ?_|(intro hc;first|exact absurd hc (by decide)|(exfalso;omega)|((first|rw[wS (by omega) (by omega)]at hc|rw[Qab]at hc|skip);try (conv=>cbv)))|refine CallG.old ?_
     refine norm2 _ _ (_,_) ?_ (Wk.ca);exact⟨hj1,by omega,by simp only;omega⟩
    ·obtain rfl:kj=tl.length:=by omega
     rw[List.take_of_length_le (Nat.le_refl _)]at hn;obtain rfl:nt=n:=by omega
     conv=>cbv
     repeat' first|exact gu|exact trivial|refine And.intro ?_ ?_|(intro hc;first|exact absurd hc (by decide)|(exfalso;omega)|((first|rw[wS (by omega) (by omega)]at hc|rw[Qab]at hc|skip);try (conv=>cbv)))|refine CallG.old ?_
     refine jn2 _ _ () trivial (Wk.ca)
   ·rintro⟨⟩-
    obtain⟨i1,hi1⟩:∃z:Int,z=((kk+1:Nat):Int):=⟨_,rfl⟩;have hnx:nt<=100->∀e∈tl,e.arcs.length<=1000/\e.push.length<=1000:=fun h e he=>by
     have:=QAO he;omega
    conv=>cbv
    repeat' first|(refine rt _ _ ?_;(conv=>cbv))|exact⟨[bA true],⟨.c _ _ (.same _ rfl),trivial⟩,ht⟩|(intro(k:Int) hk;rw[wS (by omega) (by omega)]at hk;refine(fun(hz:i1=k)=> ?_) ?_;rotate_left;omega;subst hz;(conv=>cbv))|exact gu|exact trivial|refine And.intro ?_ ?_|(intro hc;first|exact absurd hc (by decide)|(exfalso;omega)|((first|rw[wS (by omega) (by omega)]at hc|rw[Qab]at hc|skip);try (conv=>cbv)))|refine CallG.old ?_
    refine norm _ _ _ ?_ (Wk.ca);refine⟨hi1,by omega,fun j x hj hx' e he=> ?_⟩;rcases Nat.lt_or_ge j kk with h|h
    ·exact hall j x h hx' e he
    ·obtain rfl:j=kk:=by omega
     rw[hx]at hx';cases hx';exact hnx (by omega) e he
  ·have htb:TbI xs:=⟨fun x hx e he=>by
    obtain⟨j,hj⟩:=List.getElem?_of_mem hx;exact hall j x (by have:=Qaa hj;omega) hj e he⟩
   clear hco hex hf norm
   conv=>cbv
   repeat' first|exact gu|exact trivial|refine And.intro ?_ ?_|(intro hc;first|exact absurd hc (by decide)|(exfalso;omega)|((first|rw[wS (by omega) (by omega)]at hc|rw[Qab]at hc|skip);try (conv=>cbv)))|refine CallG.old ?_
   refine jn _ _ () htb (Wk.ca)
 ·rintro⟨⟩ htb;have hex:=fun h=>hex h htb
  by_cases hcv:Qcu t xs=true/\0<=fr/\fr<nodes
  ·obtain⟨c1,c2,c3⟩:=hcv;have hex:=hex c1 ⟨c2,by rw[htn];exact c3,hst40,hi⟩;have hf:=fun U h1 h2=>hf ⟨htb,hst40,fun _ _ _=>⟨U,h1,h2⟩⟩
   rw[c1]at hco
   conv=>cbv
   repeat' first|(refine Qaq hco rfl rfl ?_;conv=>cbv)|exact gu|exact trivial|refine And.intro ?_ ?_|(intro hc;first|exact absurd hc (by decide)|(exfalso;omega)|((first|rw[wS (by omega) (by omega)]at hc|rw[Qab]at hc|skip);try (conv=>cbv)))|refine CallG.old ?_
   refine Qaw [0] hex rfl rfl (by decide) (by repeat' first|exact trivial|refine And.intro ?_ ?_|rfl) rfl rfl ?_;rintro r hc' ⟨m',v,q,l,ok,rfl,rfl,i,hX,hE,hok⟩;have hU:ok=true->l.length<=300->Q (bA false):=fun h1 h2=>by
    rw[if_pos h1]at hok;exact hf (l.map StR.key) (by rw[List.length_map];exact h2) (Qot hE (by rw[List.length_map];omega))
   clear hE hX hok hf hex hco;simp only[vsH,Qag,Qai,hol,hll,htn,hxl];generalize l.map Qar=gl;generalize l.length=nl at*;cases ok with
   |false=>
    clear hU
    conv=>cbv
    repeat' first|exact⟨[bA true],⟨.c _ _ (.same _ rfl),trivial⟩,ht⟩|exact gu|exact trivial|refine And.intro ?_ ?_|(intro hc;first|exact absurd hc (by decide)|(exfalso;omega)|((first|rw[wS (by omega) (by omega)]at hc|rw[Qab]at hc|skip);try (conv=>cbv)))|refine CallG.old ?_
   |true=>
    have hU:=fun h=>hU rfl h
    conv=>cbv
    repeat' first|exact⟨[bA true],⟨.c _ _ (.same _ rfl),trivial⟩,ht⟩|exact⟨[bA false],⟨.c _ _ (.same _ rfl),trivial⟩,hU (by omega)⟩|exact gu|exact trivial|refine And.intro ?_ ?_|(intro hc;first|exact absurd hc (by decide)|(exfalso;omega)|((first|rw[wS (by omega) (by omega)]at hc|rw[Qab]at hc|skip);try (conv=>cbv)))|refine CallG.old ?_
  ·have hf:=hf ⟨htb,hst40,fun h1 h2 h3=>absurd ⟨h1,h2,by rw[←htn];exact h3⟩ hcv⟩;clear hex;have hne:Qcu t xs=true->¬(0<=fr/\fr<nodes):=fun h h2=>hcv ⟨h,h2⟩
   generalize Qcu t xs=cb at*;have hff:∃rs',QA1 am0 [.c (.d (.bool false))] rs'/\Q (pack rs'):=⟨[bA false],⟨.c _ _ (.same _ rfl),trivial⟩,hf⟩;cases cb with
   |false=>
    clear hne
    conv=>cbv
    repeat' first|(refine Qaq hco rfl rfl ?_;conv=>cbv)|exact hff|exact gu|exact trivial|refine And.intro ?_ ?_|(intro hc;first|exact absurd hc (by decide)|(exfalso;omega)|((first|rw[wS (by omega) (by omega)]at hc|rw[Qab]at hc|skip);try (conv=>cbv)))|refine CallG.old ?_
   |true=>
    have hne:=hne rfl
    conv=>cbv
    repeat' first|(refine Qaq hco rfl rfl ?_;conv=>cbv)|exact hff|exact gu|exact trivial|refine And.intro ?_ ?_|(intro hc;first|exact absurd hc (by decide)|(exfalso;omega)|((first|rw[wS (by omega) (by omega)]at hc|rw[Qab]at hc|skip);try (conv=>cbv)))|refine CallG.old ?_
def Qpr(P:Program):Prop:=∀m,QbA m->FnS P Qdi [] [.am m] fun r h'=>r=bA true/\∃m' tl,h'= .am m'::tl/\QbA m'
theorem Sm24.ok{P:Program}(hP:P=Tryz.prog){c:C24}(h:Sm24 c)(hi:InS c.p.stack):∃U,(Qam c.t c.xs c.fr=0->UOK P c.t c.xs c.p (gW c.t c.xs c.p) U/\GOK P c.t c.xs c.p (gW c.t c.xs c.p) U/\Expl (gW c.t c.xs c.p).nx (c.fr,c.p.stack) U):=by
 by_cases h0:Qam c.t c.xs c.fr=0
 ·unfold Qam at h0;split at h0
  ·rename_i hc;split at h0
   ·rename_i hr;obtain⟨U,h1,h2⟩:=h.ex hc hr.1 hr.2;obtain⟨k1,k2⟩:=QyE hP hc h.tb (s0:=(c.fr,c.p.stack)) ⟨hr.1,hr.2,h.st,hi⟩ h2 (by omega);exact⟨U,fun _=>⟨k1,k2,h2⟩⟩
   ·cases h0
  ·cases h0
 ·exact⟨[],fun h=>absurd h h0⟩
theorem Qw3(P:Program)(hP:P=Tryz.prog)(haw:Qpr P)(c:C24)(hs:QA0 c)(hi:InS c.p.stack)(m:Ar)(hT:QbA m):FnS P Qfj [Qxg c] [.am m] fun r h'=>r=bA true/\∃m' tl,h'= .am m'::tl/\QbA m':=by
 have hlg:=Qv8 P hP c hs hi;have haw:=haw m hT;have hU:=fun h=>Sm24.ok (P:=P) hP (c:=c) h hi
 have h1:=fun U m hT (h:Qam c.t c.xs c.fr=0->UOK P c.t c.xs c.p (gW c.t c.xs c.p) U/\GOK P c.t c.xs c.p (gW c.t c.xs c.p) U/\Expl (gW c.t c.xs c.p).nx (c.fr,c.p.stack) U)=>Qu5 P hP c.t c.xs c.p c.fr (gW c.t c.xs c.p) U m hT fun h0=>⟨(h h0).1,(h h0).2.2.st⟩
 have h2:=fun U (h:Qam c.t c.xs c.fr=0->UOK P c.t c.xs c.p (gW c.t c.xs c.p) U/\GOK P c.t c.xs c.p (gW c.t c.xs c.p) U/\Expl (gW c.t c.xs c.p).nx (c.fr,c.p.stack) U)=>QyK P hP c.t c.xs c.p c.fr (gW c.t c.xs c.p) U fun h0=>⟨(h h0).2.1,(h h0).2.2⟩
 have h3:=fun a h=>Qwc P hP a h
 have h4:∀a,Ret P Qfo [.c (.d (Qnu a)),.c (.d (Qnu a))] (bA true):=fun a=>by
  have:=Qsu P hP a a
  rwa [decide_eq_true rfl]at this
 have h5:∀U,(Qam c.t c.xs c.fr=0->UOK P c.t c.xs c.p (gW c.t c.xs c.p) U/\GOK P c.t c.xs c.p (gW c.t c.xs c.p) U/\Expl (gW c.t c.xs c.p).nx (c.fr,c.p.stack) U)->(Qju (gW c.t c.xs c.p) U.length (c.fr,c.p.stack) (Qam c.t c.xs c.fr)).1.length<=100000:=fun U h=>by
  by_cases h0:Qam c.t c.xs c.fr=0
  ·obtain⟨k1,k2,k3⟩:=h h0;rw[Qju,if_pos h0];split
   ·simp
   ·rename_i K hK;obtain⟨-,-,-,-,hb⟩:=Qtm k2.cl k3.st hK;split
    ·simp
    ·simp only[hb];omega
  ·rw[Qju,if_neg h0];simp
 refine QaF (hP▸mixed) (hP▸Qi3) (hP▸QjG) (nle rfl) fun Λ Λo Q hQ=> ?_
 clear hP;have fin:=fun m' tl hT=>hQ (bA true) (.am m'::tl) ⟨rfl,m',tl,rfl,hT⟩
 clear hQ;by_cases hsm:Sm24 c
 ·obtain⟨U,hU⟩:=hU hsm;have h1:=fun m hT=>h1 U m hT hU
  have h2:=h2 U hU;have h5:=h5 U hU;have h3:=h3 _ h5;have h4:=h4 (Qju (gW c.t c.xs c.p) U.length (c.fr,c.p.stack) (Qam c.t c.xs c.fr)).1;clear hU h5 hsm;generalize (Qju (gW c.t c.xs c.p) U.length (c.fr,c.p.stack) (Qam c.t c.xs c.fr)).2=er at*;simp only[Qnu]at h1 h2 h3 h4;generalize (Qju (gW c.t c.xs c.p) U.length (c.fr,c.p.stack) (Qam c.t c.xs c.fr)).1.map Qbv=rl at*;generalize hsmc:Sm24 c=sm at*;clear hsmc hs hi;obtain⟨t,xs,p,fr⟩:=c;obtain⟨id,src,dst,flow,st0,hops⟩:=p;simp only[Qxg,QaR,Qbn,Qbz,QaA,Qag,Qai]at*;generalize List.map Qak xs=xl at*;generalize t.ov.map Qbh=ol at*;generalize t.links.map QaD=ll at*;generalize t.nodes=nodes at*;generalize List.map Qaf st0=sl at*
  conv=>cbv
  repeat' first|(left;intro(_:Unit);(conv=>cbv))|(refine Qaw [0] haw rfl rfl (by decide) (by repeat' first|exact trivial|refine And.intro ?_ ?_|rfl) rfl rfl ?_;rintro r hc' ⟨rfl,m1,tl1,rfl,hT1⟩;have h1:=h1 m1 hT1;(conv=>cbv))|(refine Qaw [] hlg rfl rfl (by decide) trivial rfl rfl ?_;rintro r hc' ⟨_,b,rfl,-⟩;cases b<;>(conv=>cbv))|exact fin _ _ (by assumption)|(refine Qaw [0] h1 rfl rfl (by decide) (by repeat' first|exact trivial|refine And.intro ?_ ?_|rfl) rfl rfl ?_;rintro r hc' ⟨m2,tl2,rfl,hT2,rfl⟩;(conv=>cbv))|(refine Qaq h2 rfl rfl ?_;conv=>cbv)|(refine Qaq h3 rfl rfl ?_;conv=>cbv)|(refine Qaq h4 rfl rfl ?_;conv=>cbv)|exact gu|exact trivial|refine And.intro ?_ ?_|(intro hc;first|exact absurd hc (by decide)|(exfalso;omega)|((first|rw[wS (by omega) (by omega)]at hc|rw[Qab]at hc|skip);try (conv=>cbv)))|refine CallG.old ?_
 ·clear h1 h2 h3 h4 h5 hU;obtain⟨t,xs,p,fr⟩:=c;obtain⟨id,src,dst,flow,st0,hops⟩:=p;simp only[Qxg,QaA,Qag,Qai]at*;generalize List.map Qak xs=xl at*;generalize t.ov.map Qbh=ol at*;generalize t.links.map QaD=ll at*;generalize List.map Qaf st0=sl at*
  conv=>cbv
  repeat' first|(left;intro(_:Unit);(conv=>cbv))|(refine Qaw [0] haw rfl rfl (by decide) (by repeat' first|exact trivial|refine And.intro ?_ ?_|rfl) rfl rfl ?_;rintro r hc' ⟨rfl,m1,tl1,rfl,hT1⟩;(conv=>cbv))|(refine Qaw [] hlg rfl rfl (by decide) trivial rfl rfl ?_;rintro r hc' ⟨_,b,rfl,hb⟩;cases b;exact absurd (hb rfl) hsm;(conv=>cbv))|exact fin _ _ (by assumption)|exact gu|exact trivial|refine And.intro ?_ ?_|(intro hc;first|exact absurd hc (by decide)|(exfalso;omega)|((first|rw[wS (by omega) (by omega)]at hc|rw[Qab]at hc|skip);try (conv=>cbv)))|refine CallG.old ?_
def QpA(g:Wlk)(x:WSt):Bool:= !(decide ((g.ar x).length=0)&&decide (g.rs x≠ -1))
def Qxd(g:Wlk)(U:List WSt)(s:WSt)(e:Int):Bool×Int:=
 if e=0 then (match dfs g.nx U.length [] s with
  |none=>(false,16)
  |some _=>(U.all (QpA g),0))else (false,e)
theorem Qvj{α:Type}{l l':List α}{f:α->Bool}(h:∀x,x∈l↔x∈l'):l.all f=l'.all f:=by
 rw[Bool.eq_iff_iff,List.all_eq_true,List.all_eq_true];exact⟨fun hf x hx=>hf x ((h x).2 hx),fun hf x hx=>hf x ((h x).1 hx)⟩
structure PlR (g:Wlk) (m:Ar) (ks:List WSt) (bn:Nat) (cap:Nat):Prop where
 at_:∃N xs,m bn=some (.cs N xs)/\∀(k:Nat) (x:WSt),ks[k]? =some x->∃a Na nx c,xs[k]? =some (.adr a 0)/\m a=some (.cs Na (plD g x nx false c))
theorem Qxw{g:Wlk}{m:Ar}{K:Kn WSt}{al:List Nat}{S:Nat->Prop}{d:D}(hI:PI g m K al S d)(hd:∀y∈K.map (·.1),∃c,lkK K y=some (some c))(hnd:(K.map (·.1)).Nodup)(hne:K≠[]):∃bn cap,d= .sl bn 0 1 (K.map (·.1)).length cap/\PlR g m (K.map (·.1)) bn cap:=by
 have hl:al.length=(K.map (·.1)).length:=by rw[List.length_map];exact hI.len
 rcases hI.row with ⟨-,h⟩|⟨bn,N,cap,h1,h2,h3⟩
 ·have:al=[]:=by simpa using h
  rw[this]at hl;cases K with
  |nil=>exact absurd rfl hne
  |cons=>simp at hl
 ·refine⟨bn,cap,by rw[h1,List.length_map,hl],⟨N,_,h2,fun k x hx=> ?_⟩⟩;obtain⟨a,ha⟩:∃a,al[k]? =some a:=⟨_,lgE (by have:=Qaa hx;omega)⟩;obtain⟨c,hc⟩:=hd x (mgE hx);have hx':=hx;rw[gtm,omi]at hx';obtain⟨⟨y,c'⟩,h4,rfl⟩:=hx';have h5:=Qlj hnd h4;rw[hc]at h5;cases h5;obtain⟨-,Na,nx,ads,h6,-⟩:=hI.pl k _ c a h4 ha;exact⟨a,Na,nx,c,by rw[QmJ,gtm,ha];rfl,h6⟩
theorem Qzr(P:Program)(hP:P=Tryz.prog)(t:Top)(xs:List Tab)(p:Pkt)(from_:Int)(g:Wlk)(U:List WSt)(m:Ar)(hT:QbA m)(hU:Qam t xs from_=0->UOK P t xs p g U/\Expl g.nx (from_,p.stack) U):
  FnS P QcU [QaR t,Qbn xs,Qbz p,iA from_] [.am m] fun r h'=>∃m' tl,h'= .am m'::tl/\QbA m'/\r= .tup [bA (Qxd g U (from_,p.stack) (Qam t xs from_)).1,iA (Qxd g U (from_,p.stack) (Qam t xs from_)).2]:=by
 have hsr:=Qh1 P hP t xs p from_ g U m hT fun h=>⟨(hU h).1,(hU h).2.st⟩
 refine QaF (hP▸mixed) (hP▸Qj5) (hP▸Qk6) (nle rfl) fun Λ Λo Q hQ=> ?_
 clear hP;have fin:=fun m' tl (h1:QbA m')=>hQ (.tup [bA (Qxd g U (from_,p.stack) (Qam t xs from_)).1,iA (Qxd g U (from_,p.stack) (Qam t xs from_)).2]) (.am m'::tl) ⟨m',tl,rfl,h1,rfl⟩
 clear hQ;have htab:¬New m (.list true 1 []) 0:=fun e=>by
  rcases e with e|e
  ·rw[QbA]at hT;rw[hT]at e;cases e
  ·exact Qa6 e
 by_cases h0:Qam t xs from_=0
 ·obtain⟨hUK,hE⟩:=hU h0;rw[h0]at hsr fin;simp only[QiK,if_true]at hsr;cases hd:dfs g.nx U.length [] (from_,p.stack)with
  |some K=>
   rw[hd]at hsr;simp only[Qxd,hd,if_true]at fin;obtain⟨hnd,hmem,-,hdn,r0,hr0⟩:=QlQ hE hd;rw[←Qvj hmem]at fin;have hpl:=fun{m':Ar} {al:List Nat} {S:Nat->Prop} {d:D} (hI:PI g m' K al S d)=>Qxw hI hdn hnd fun e=>by rw[e]at hr0;cases hr0
   have hKl:(K.map (·.1)).length<=1000:=by
    have:=hnd.length_le_of_subset fun x hx=>(hmem x).1 hx
    have:=hUK.len;omega
   have hgl:∀x∈K.map (·.1),(g.ar x).length<=1000:=fun x hx=>by
    obtain⟨_,_,_,h⟩:=hUK.st x ((hmem x).1 hx);exact h.len
   clear hdn hnd hr0 hmem hE hUK hd hU;generalize K.map (·.1)=ks at*;generalize (from_,p.stack)=st at*;obtain⟨id,src,dst,flow,st0,hops⟩:=p;simp only[QaR,Qbn,Qbz,QaA,Qag,Qai]at hsr ⊢;generalize hxl:List.map Qak xs=xl at*;generalize hol:t.ov.map Qbh=ol at*;generalize hll:t.links.map QaD=ll at*;generalize htn:t.nodes=nodes at*;generalize List.map Qaf st0=sl at*;have hno:ks.all (QpA g)=false->∀m' tl,QbA m'->Q (.tup [bA false,iA 0]) (.am m'::tl):=fun h m' tl hT=>by have:=fin m' tl hT;rw[h]at this;exact this
   have hyes:ks.all (QpA g)=true->∀m' tl,QbA m'->Q (.tup [bA true,iA 0]) (.am m'::tl):=fun h m' tl hT=>by have:=fin m' tl hT;rw[h]at this;exact this
   clear fin;obtain⟨cn,hcn⟩:∃z:Int,z=(ks.length:Int):=⟨_,rfl⟩
   conv=>cbv
   repeat' first|(left;intro(_:Unit);(conv=>cbv))|(refine Qaw [0] hsr rfl rfl (by decide) (by repeat' first|exact trivial|refine And.intro ?_ ?_|rfl) rfl rfl ?_;rintro r hc' ⟨m',tl,rfl,d3,al3,S3,a,rfl,p3,hab,f3⟩;have hT3:QbA m':=((f3.same _ htab).trans hT);obtain⟨bn,cap,rfl,hpr⟩:=hpl p3;generalize hn:ks.length=n at *;(conv=>cbv))|(intro(c:Int) hc;refine(fun(hz:cn=c)=> ?_) (by rw[hc,Qab];omega);subst hz;(conv=>cbv))|exact gu|exact trivial|refine And.intro ?_ ?_|(intro hc;first|exact absurd hc (by decide)|(exfalso;omega)|((first|rw[wS (by omega) (by omega)]at hc|rw[Qab]at hc|skip);try (conv=>cbv)))|refine CallG.old ?_
   obtain⟨Nr,rx,hrow,hrat⟩:=hpr.at_;refine QaS n (fun(i:Int)=>[(27,.c (.d (.sl bn 0 1 n cap))),(28,iA cn),(29,iA i)]) (fun _=>[.am m']) (fun k i=>i=k/\k<=n/\∀(j:Nat) (x:WSt),j<k->ks[j]? =some x->QpA g x=true) 0
    (Wk.ca) ⟨rfl,by omega,fun j x h=>by omega⟩ (fun k s h=>h.2.1) ?_
   rintro kk i Q' ⟨hi,hk,hall⟩ norm ex rt;by_cases hlt:kk<n
   ·obtain⟨x,hx⟩:∃x,ks[kk]? =some x:=⟨_,lgE (by omega)⟩;obtain⟨a1,Na,nx,c,hxa,hpa⟩:=hrat kk x hx;have hgx:=hgl x (mgE hx);simp only[plD]at hpa;have hbad:QpA g x=false->∃b,Q'=b:=fun _=>⟨_,rfl⟩
    have hE1:(g.ar x).length=0->g.rs x≠ -1->QpA g x=false:=fun h1 h2=>by simp[QpA,h1,h2]
    have hE2:¬(g.ar x).length=0->QpA g x=true:=fun h1=>by simp[QpA,h1]
    have hE3:g.rs x= -1->QpA g x=true:=fun h1=>by simp[QpA,h1]
    have hfl:QpA g x=false->ks.all (QpA g)=false:=fun h=>by
     rw[Bool.eq_false_iff];intro h2;rw[List.all_eq_true.1 h2 x (mgE hx)]at h;cases h
    have hal:Λ ((g.ar x).map QaC)=(g.ar x).length:=by rw[Λo];simp
    have hnrm:QpA g x=true->∀j y,j<kk+1->ks[j]? =some y->QpA g y=true:=fun h j y hj hy=>by
     rcases Nat.lt_or_ge j kk with h2|h2
     ·exact hall j y h2 hy
     ·obtain rfl:j=kk:=by omega
      rw[hx]at hy;cases hy;exact h
    have hno':=fun h=>hno (hfl h) m' [] hT3
    clear hbad hfl hno hyes hrat hpl hsr;generalize (g.ar x).map QaC=arl at*;generalize g.rs x=rs at*;obtain⟨i1,hi1⟩:∃z:Int,z=((kk+1:Nat):Int):=⟨_,rfl⟩
    conv=>cbv
    repeat' first|(intro(k:Nat) hk;refine(fun(hz:kk=k)=> ?_) ?_;rotate_left;omega;subst hz;(conv=>cbv))|(refine⟨Nr,_,_,hrow,hxa,?_⟩;(conv=>cbv))|(refine⟨Na,_,_,hpa,rfl,?_⟩;(conv=>cbv))|(refine rt _ _ ?_;(conv=>cbv))|(intro(k:Int) hk;rw[wS (by omega) (by omega)]at hk;refine(fun(hz:i1=k)=> ?_) ?_;rotate_left;omega;subst hz;(conv=>cbv))|exact hno' (hE1 (by omega) (by omega))|exact gu|exact trivial|refine And.intro ?_ ?_|(intro hc;first|exact absurd hc (by decide)|(exfalso;omega)|((first|rw[wS (by omega) (by omega)]at hc|rw[Qab]at hc|skip);try (conv=>cbv)))|refine CallG.old ?_
    all_goals (first|(refine norm _ _ _ ⟨hi1,by omega,hnrm (hE2 (by omega))⟩ (Wk.ca))|(refine norm _ _ _ ⟨hi1,by omega,hnrm (hE3 (by omega))⟩ (Wk.ca)))
   ·obtain rfl:n=kk:=by omega
    have hyy:=hyes (List.all_eq_true.2 fun x hx=>by
     obtain⟨j,hj⟩:=List.getElem?_of_mem hx;exact hall j x (by have:=Qaa hj;omega) hj) m' [] hT3
    clear hno hyes hpl hsr hrat norm
    conv=>cbv
    repeat' first|(refine ex 0 _ _ ?_;(conv=>cbv))|exact hyy|exact gu|exact trivial|refine And.intro ?_ ?_|(intro hc;first|exact absurd hc (by decide)|(exfalso;omega)|((first|rw[wS (by omega) (by omega)]at hc|rw[Qab]at hc|skip);try (conv=>cbv)))|refine CallG.old ?_
  |none=>
   rw[hd]at hsr;simp only[Qxd,hd,if_true]at fin;clear hU hE;generalize (from_,p.stack)=st at*;obtain⟨id,src,dst,flow,st0,hops⟩:=p;simp only[QaR,Qbn,Qbz,QaA,Qag,Qai]at hsr ⊢;generalize hxl:List.map Qak xs=xl at*;generalize hol:t.ov.map Qbh=ol at*;generalize hll:t.links.map QaD=ll at*;generalize htn:t.nodes=nodes at*;generalize List.map Qaf st0=sl at*
   conv=>cbv
   repeat' first|(left;intro(_:Unit);(conv=>cbv))|(refine Qaw [0] hsr rfl rfl (by decide) (by repeat' first|exact trivial|refine And.intro ?_ ?_|rfl) rfl rfl ?_;rintro r hc' ⟨m',tl,rfl,rfl,d3,f3⟩;have hfin:=fun tl=>fin m' tl ((f3.same _ htab).trans hT);(conv=>cbv))|exact hfin _|exact gu|exact trivial|refine And.intro ?_ ?_|(intro hc;first|exact absurd hc (by decide)|(exfalso;omega)|((first|rw[wS (by omega) (by omega)]at hc|rw[Qab]at hc|skip);try (conv=>cbv)))|refine CallG.old ?_
 ·simp only[QiK,if_neg h0]at hsr;simp only[Qxd,if_neg h0]at fin;have fin:=fun tl=>fin m tl hT
  generalize Qam t xs from_=e at*;clear hU;obtain⟨id,src,dst,flow,st0,hops⟩:=p;simp only[QaR,Qbn,Qbz,QaA,Qag,Qai]at hsr ⊢;generalize hxl:List.map Qak xs=xl at*;generalize hol:t.ov.map Qbh=ol at*;generalize hll:t.links.map QaD=ll at*;generalize htn:t.nodes=nodes at*;generalize List.map Qaf st0=sl at*
  conv=>cbv
  repeat' first|(left;intro(_:Unit);(conv=>cbv))|(refine Qaw [0] hsr rfl rfl (by decide) (by repeat' first|exact trivial|refine And.intro ?_ ?_|rfl) rfl rfl ?_;rintro r hc' ⟨m',tl,rfl,rfl,rfl⟩;(conv=>cbv))|exact fin _|exact gu|exact trivial|refine And.intro ?_ ?_|(intro hc;first|exact absurd hc (by decide)|(exfalso;omega)|((first|rw[wS (by omega) (by omega)]at hc|rw[Qab]at hc|skip);try (conv=>cbv)))|refine CallG.old ?_
theorem Expl.mem{σ:Type}{nx:σ->List σ}{s:σ}{S S':List σ}(h:Expl nx s S)(h':Expl nx s S')(x:σ):x∈S↔x∈S':=
 ⟨fun hx=>h.mn (·∈S') h'.st h'.cl x hx,fun hx=>h'.mn (·∈S) h.st h.cl x hx⟩
def QBF(g:Wlk)(U:List WSt)(n:Nat):List Int:=((List.range n).map fun(a:Nat)=>(a:Int)).filter fun a=>U.any fun x=>decide (a∈g.ar x)
def Qxq(t:Top)(g:Wlk)(U:List WSt)(s:WSt)(e:Int):List Int×Int:=
 if e=0 then (match dfs g.nx U.length [] s with
  |none=>([],16)
  |some _=>(QBF g U (QbB t).toNat,0))else ([],e)
theorem Qrx:∀{a b:List Int},a.Pairwise (·<·)->b.Pairwise (·<·)->(∀x,x∈a↔x∈b)->a=b
 |[],[],_,_,_=>rfl
 |[],y::b,_,_,h=>absurd ((h y).2 (by simp)) (by simp)
 |x::a,[],_,_,h=>absurd ((h x).1 (by simp)) (by simp)
 |x::a,y::b,ha,hb,h=>by
  have ha:=List.pairwise_cons.1 ha;have hb:=List.pairwise_cons.1 hb;have e:x=y:=by
   rcases List.mem_cons.1 ((h x).1 (by simp))with e|e
   ·exact e
   ·rcases List.mem_cons.1 ((h y).2 (by simp))with e2|e2
    ·exact e2.symm
    ·have:=hb.1 x e;have:=ha.1 y e2;omega
  subst e;rw[Qrx ha.2 hb.2 fun z=>⟨fun hz=> ?_,fun hz=> ?_⟩]
  ·rcases List.mem_cons.1 ((h z).1 (List.mem_cons_of_mem _ hz))with e|e
   ·have:=ha.1 z hz;omega
   ·exact e
  ·rcases List.mem_cons.1 ((h z).2 (List.mem_cons_of_mem _ hz))with e|e
   ·have:=hb.1 z hz;omega
   ·exact e
def QbC:List Int->List Int
 |[]=>[]
 |[x]=>[x]
 |x::y::l=>if x=y then QbC (y::l)else x::QbC (y::l)
theorem Qkl:∀(l:List Int) (z:Int),z∈QbC l↔z∈l
 |[],z=>by simp[QbC]
 |[x],z=>by simp[QbC]
 |x::y::l,z=>by
  rw[QbC];have ih:=Qkl (y::l) z;split
  ·rename_i e;rw[ih,e];simp
  ·rw[List.mem_cons,ih,List.mem_cons (a:=z) (b:=x)]
theorem QhW:∀(l:List Int),l.Pairwise (·<=·)->(QbC l).Pairwise (·<·)
 |[],_=>by simp[QbC]
 |[x],_=>by simp[QbC]
 |x::y::l,h=>by
  have h1:=List.pairwise_cons.1 h;have h2:=List.pairwise_cons.1 h1.2;rw[QbC];split
  ·exact QhW _ h1.2
  ·rename_i hne;refine List.pairwise_cons.2 ⟨fun z hz=> ?_,QhW _ h1.2⟩;have hxy:=h1.1 y (by simp);rcases List.mem_cons.1 ((Qkl _ z).1 hz)with e|e
   ·omega
   ·have:=h2.1 z e;omega
end Go.Ab
