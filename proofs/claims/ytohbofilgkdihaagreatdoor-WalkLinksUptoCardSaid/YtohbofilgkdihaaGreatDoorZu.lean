/-
  Merged texts, part u.
-/
import Derived.Test.YtohbofilgkdihaaGreatDoorZt
set_option linter.all false
namespace Go.Ab
open Go.Proofs
theorem Qik(P:Program)(hP:P=Tryz.prog)(t:Top)(xs:List Tab)(p:Pkt)(from_:Int)(g:Wlk)(m:Ar)(I:WSt->Prop)(hI:I (from_,p.stack))(hst:∀s,I s->∃x st hp,StpG P t xs p g s x st hp)(hcl:∀s,I s->∀y∈g.nx s,I y):
  FnS P Qds [QaQ t,Qbf xs,Qbt p,iA from_] [.am m] fun r h'=>∃m' v q l ok,r= .tup [.c (.ptr 1 0 0 0),bA ok]/\h'=vsH t xs m' v q l/\(∃i,XpI g p m m' l i []/\ExpI g.nx (from_,p.stack) (l.map StR.key) i/\if ok=true then i=l.length else 20000<i):=by
 refine FnS.gct (Qqc P hP t xs p from_ g m I hI hst hcl) _ fun r h' hR=> ?_
 obtain⟨m',v,q,l,ok,b,rfl,rfl,h⟩:=hR;refine⟨[0,3,4],.tup [.c (.ptr 1 0 0 0),bA ok],vsH t xs m' v q l,⟨m',v,q,l,ok,rfl,rfl,h⟩,rfl,by decide,fun l hl=>by simp at hl ⊢;omega,
  fun i k hk=> ?_,rfl,rfl,rfl,by simp,fun i hi=> ?_,fun k hk=> ?_⟩
 ·match i,hk with
  |0,hk=>cases osj hk;rfl
  |1,hk=>cases osj hk;rfl
  |2,hk=>cases osj hk;rfl
 ·have:i=0:=by simp at hi;omega
  subst this;rfl
 ·simp at hk;rcases hk with rfl|rfl|rfl<;>intro _ _ _ h<;>cases h
structure GOK (P:Program) (t:Top) (xs:List Tab) (p:Pkt) (g:Wlk) (U:List WSt):Prop where
 len:U.length<=1000
 st:∀s∈U,∃x st hp,StpG P t xs p g s x st hp
 cl:∀s∈U,∀y∈g.nx s,y∈U
theorem GOK.nx{P:Program}{t:Top}{xs:List Tab}{p:Pkt}{g:Wlk}{U:List WSt}(h:GOK P t xs p g U):∀s∈U,(g.nx s).length<=1000:=by
 intro s hs;obtain⟨x,st,hp,e⟩:=h.st s hs;rw[Wlk.nx,nxt,List.length_map];exact e.len
structure GrF (g:Wlk) (s0:WSt) (K:Kn WSt) (S:List WSt) (l:List StR):Prop where
 ks:l.map StR.key=S
 ex:Expl g.nx s0 S
 st:∀s∈l,s.ar=Qax (g.ar s.key)/\s.rs=g.rs s.key/\(∀y∈g.nx s.key,y∈S)/\∀c,lkK K s.key=some (some c)->s.ct=c
def QhG(g:Wlk)(S:List WSt)(s:StR):List D:=[iD s.node,iD s.p.id,iD s.p.src,iD s.p.dst,iD s.p.flow,QaA s.p.stack,iD s.p.hops,s.ar,.list false 1 (QgT S (g.nx s.key)),iD s.rs,iD s.co,iD s.ct]
def grD(t:Top)(xs:List Tab)(g:Wlk)(S:List WSt)(l:List StR):List D:=[iD t.nodes,Qag t.ov,Qah t.links,.list false 3 (xs.map Qaj),.list false 12 (l.map (QhG g S))]
theorem Qz4{g:Wlk}{p:Pkt}{m m':Ar}{s0:WSt}{K:Kn WSt}{l l':List StR}(hX:XpI g p m m' l l.length [])(hE:Expl g.nx s0 (l.map StR.key))(hb:l'.map StR.base=l.map StR.base)(hV:VsI g m' (l.map StR.key) K l'):GrF g s0 K (l.map StR.key) l':=by
 refine⟨hV.ks,hE,fun s hs=> ?_⟩;obtain⟨j,hj⟩:=List.getElem?_of_mem hs;obtain⟨u,hu,hub⟩:=Qi6 hb.symm hj;obtain⟨b1,b2,b3,b4,b5⟩:=Qmf hub;obtain⟨q1,q2,q3,-⟩:=hX.dn j u (List.getElem?_eq_some_iff.1 hu).1 hu;rw[←b3,←b5,←b1];exact⟨q1,q2,q3,by rw[b1];exact(hV.ct s hs).1⟩
theorem Qc7.thaw{sz:Nat}{m:Ar}{d:D}{l:List (List D)}(h:Qc7 sz m d l)(hl:l.length<=9223372036854775807):ThD m d (.list false sz l):=by
 rcases h with ⟨rfl,rfl⟩|⟨b,N,cap,rfl,hm,hs,hc,hN⟩
 ·exact .fg _
 ·refine .row b 0 sz l.length cap N l.flatten l (fun i j=>l.flatten.getD (i*sz+j) default) hm rfl hc hl (fun i e he=>hs e (mgE he)) (fun i e j x he hx=> ?_) fun i e j x he hx=> ?_
  ·rw[Nat.zero_add,List.getD_eq_getElem?_getD,Qci hs he hx];rfl
  ·simp only[List.getD_eq_getElem?_getD,Qci hs he hx,Option.getD_some];exact .same _
theorem Qx3{g:Wlk}{m:Ar}{S:List WSt}{K:Kn WSt}{l:List StR}(hV:VsI g m S K l)(hn:∀s∈S,(g.nx s).length<=1000):ThD m (.list false 12 (l.map Qas)) (.list false 12 (l.map (QhG g S))):=by
 refine .list _ _ _ _ (by simp) (fun i e he=> ?_) fun i e e' j x x' he he' hx hx'=> ?_
 ·simp only[gtm,omi]at he;obtain⟨_,_,rfl⟩:=he;rfl
 ·simp only[gtm,omi]at he he';obtain⟨s,hs,rfl⟩:=he;obtain⟨s',hs',rfl⟩:=he';rw[hs]at hs';cases hs';have hm:=mgE hs;by_cases hj:j=8
  ·subst hj;simp only[Qas,QhG,List.getElem?_cons_succ,List.getElem?_cons_zero,osi]at hx hx';subst hx hx';refine(hV.row s hm).1.thaw ?_;have hk:s.key∈S:=by rw[←hV.ks];exact List.mem_map.2 ⟨s,hm,rfl⟩
   have:=hn _ hk;rw[QgT,List.length_map];omega
  ·have:x=x':=by
    match j,hj,hx,hx' with
    |0,_,hx,hx'=>cases hx;cases hx';rfl
    |1,_,hx,hx'=>cases hx;cases hx';rfl
    |2,_,hx,hx'=>cases hx;cases hx';rfl
    |3,_,hx,hx'=>cases hx;cases hx';rfl
    |4,_,hx,hx'=>cases hx;cases hx';rfl
    |5,_,hx,hx'=>cases hx;cases hx';rfl
    |6,_,hx,hx'=>cases hx;cases hx';rfl
    |7,_,hx,hx'=>cases hx;cases hx';rfl
    |8,hj,_,_=>exact absurd rfl hj
    |9,_,hx,hx'=>cases hx;cases hx';rfl
    |10,_,hx,hx'=>cases hx;cases hx';rfl
    |11,_,hx,hx'=>cases hx;cases hx';rfl
    |j+12,_,hx,_=>simp[Qas]at hx
   rw[this];exact .same _
def Qpg(t:Top)(xs:List Tab)(g:Wlk)(s0:WSt)(n:Nat)(e:Int)(r:AV):Prop:=
 if e=0 then (match dfs g.nx n [] s0 with
  |some K=>∃S l,r= .tup [.c (.rp (grD t xs g S l)),iA 0]/\GrF g s0 K S l
  |none=>r= .tup [.c (.d .nilp),iA 16])
 else r= .tup [.c (.d .nilp),iA e]
abbrev Qxq (P:Program) (f:Nat) (args:List AV) (R:AV->Prop):Prop:=FnS P f args [] fun r _=>QbL r=true/\R r
theorem QlF{P:Program}{f:Nat}{fn:Func}{af:AF}{args:List AV}{R:AV->Prop}(hm:P.follows .mixedOrders=true)(hf:P.funcs[f]? =some fn)(hc:QaC P fn=some af)(hl:args.length<=af.nt)
 (hv:∀(Λ:Len),(∀l,Λ l=(l.length:Int))->∀(K:AV->Prop),(∀r,R r->K r)->QB5 P Λ af args K):Qxq P f args R:=
 Qvx (K:=R) hm hf hc hl fun Λ h=>hv Λ h _ fun _ h=>h
theorem QoN(P:Program)(hP:P=Tryz.prog)(t:Top)(xs:List Tab)(p:Pkt)(from_:Int)(g:Wlk)(U:List WSt)(hU:Qal t xs from_=0->GOK P t xs p g U/\Expl g.nx (from_,p.stack) U):
  Qxq P QeF [QaQ t,Qbf xs,Qbt p,iA from_] (Qpg t xs g (from_,p.stack) U.length (Qal t xs from_)):=by
 have hco:=QoO P hP t xs;have hex:=fun(h:Qal t xs from_=0)=>Qik P hP t xs p from_ g am0 (·∈U) (hU h).2.st (hU h).1.st (hU h).1.cl
 have hvi:=fun(h:Qal t xs from_=0) m v r (l:List StR) (hE:Expl g.nx (from_,p.stack) (l.map StR.key)) hV=>Qul P hP t xs g m (l.map StR.key) hE.nd hE.cl (fun s hs=>(hU h).1.nx s ((hE.mn (·∈U) (hU h).2.st (hU h).2.cl) s hs)) v r (l.map StR.key).length (from_,p.stack) hE.st [] l hV (Qsc g _)
 refine QlF (hP▸mixed) (hP▸Qk7) (hP▸Qmo) (nle rfl) fun Λ Λo Q hQ=> ?_
 clear hP;obtain⟨id,src,dst,flow,st0,hops⟩:=p;by_cases h0:Qal t xs from_=0
 ·have hex:=hex h0;have hvi:=hvi h0;have hE0:=(hU h0).2;have hG:=(hU h0).1;clear hU;have hcb:Qcj t xs=true:=by
   by_cases h:Qcj t xs=true
   ·exact h
   ·rw[Qal,if_neg h]at h0;cases h0
  have hrg:0<=from_/\from_<t.nodes:=by
   rw[Qal,if_pos hcb]at h0;by_cases h:0<=from_/\from_<t.nodes
   ·exact h
   ·rw[if_neg h]at h0;cases h0
  rw[hcb]at hco;rw[h0]at hQ;simp only[Qpg,if_true]at hQ;generalize hs0:(from_,st0)=s0 at*;have hix:∀l:List StR,Expl g.nx s0 (l.map StR.key)->((Qld (l.map StR.key) s0:Nat):Int)=0:=by
   intro l hE;obtain⟨r,e⟩:=hE.hd;rw[QtI (k:=0) (by rw[e];rfl) (by simp)];rfl
  have hfin:∀m1 (l1:List StR) (ok:Bool) i1,XpI g ⟨id,src,dst,flow,st0,hops⟩ am0 m1 l1 i1 []->ExpI g.nx s0 (l1.map StR.key) i1->(if ok=true then i1=l1.length else 20000<i1)->XpI g ⟨id,src,dst,flow,st0,hops⟩ am0 m1 l1 l1.length []/\Expl g.nx s0 (l1.map StR.key):=by
   intro m1 l1 ok i1 hX hE hok;have h1:=hE.le;have h2:=Qvs hE hE0.st hG.cl;have h3:=hG.len;rw[List.length_map]at h1 h2;have h4:i1=l1.length:=by
    split at hok
    ·exact hok
    ·omega
   subst h4;exact⟨hX,Qog hE (by rw[List.length_map];omega)⟩
  have hvi:∀m v r (l:List StR),Expl g.nx s0 (l.map StR.key)->VsI g m (l.map StR.key) [] l->FnS P Qat [.c (.ptr 1 0 0 0),iA 0] (vsH t xs m v r l) fun q h'=>∃l',h'=vsH t xs m v r l'/\VisO g m (l.map StR.key) [] l (dfs g.nx U.length [] s0) q l':=by
   intro m v r l hE hV;have:=hvi m v r l hE hV;rw[hix l hE,hE.len hE0]at this;exact this
  cases hd:dfs g.nx U.length [] s0 with
  |none=>
   rw[hd]at hQ;have fin:=hQ _ rfl;have hvi:∀m v r (l:List StR),Expl g.nx s0 (l.map StR.key)->VsI g m (l.map StR.key) [] l->FnS P Qat [.c (.ptr 1 0 0 0),iA 0] (vsH t xs m v r l) fun q h'=>∃l',h'=vsH t xs m v r l'/\q=bA false:=by
    intro m v r l hE hV;refine(hvi m v r l hE hV).mono fun q h' ⟨l',h1,h2⟩=>⟨l',h1,?_⟩
    have:=h2.res;rw[hd]at this;exact this
   simp only[vsH,QaQ,Qbf,Qbt,QaA,Qag,Qah]at hvi hex hco fin ⊢;generalize hxl:List.map Qaj xs=xl at*;generalize hol:t.ov.map Qbh=ol at*;generalize hll:t.links.map QaB=ll at*;generalize htn:t.nodes=nodes at*;generalize hsl:List.map Qaf st0=sl at*
   conv=>cbv
   repeat' first|(left;intro(_:Unit);(conv=>cbv))|refine Qay hco rfl rfl ?_ ?_|(refine Qar [0] hex rfl rfl (by decide) (by repeat' first|exact trivial|refine And.intro ?_ ?_|rfl) rfl rfl ?_;rintro r hc' ⟨m1,v1,q1,l1,ok,rfl,rfl,i1,hX,hE,hok⟩;obtain⟨hX1,hE1⟩:=hfin _ _ _ _ hX hE hok;have hv:=hvi m1 v1 q1 l1 hE1 (Qpb hX1);generalize hes:l1.map Qas=es1 at *;generalize hn1:l1.length=n1 at *;(conv=>cbv))|(refine Qar [0,3,4] hv rfl rfl (by decide) (by repeat' first|exact trivial|refine And.intro ?_ ?_|rfl) rfl rfl ?_;rintro r hc' ⟨l2,rfl,rfl⟩;generalize hes2:l2.map Qas=es2 at *;generalize hn2:l2.length=n2 at *;(conv=>cbv))|exact gu|exact trivial|refine And.intro ?_ ?_|(intro hc;first|exact absurd hc (by decide)|(exfalso;omega)|((first|rw[wS (by omega) (by omega)]at hc|rw[Qab]at hc|skip);try (conv=>cbv)))|refine CallG.old ?_
   exact⟨[.c (.d .nilp),iA 16],⟨.c _ _ (.d _ _ (.same _)),.c _ _ (.d _ _ (.same _)),trivial⟩,fin⟩
  |some K=>
   rw[hd]at hQ;have fin:=fun S l h=>hQ _ ⟨S,l,rfl,h⟩
   have hvi:∀m v r (l:List StR),Expl g.nx s0 (l.map StR.key)->VsI g m (l.map StR.key) [] l->FnS P Qat [.c (.ptr 1 0 0 0),iA 0] (vsH t xs m v r l) fun q h'=>∃l',h'=vsH t xs m v r l'/\q=bA true/\VsI g m (l.map StR.key) K l'/\l'.map StR.base=l.map StR.base:=by
    intro m v r l hE hV;refine(hvi m v r l hE hV).mono fun q h' ⟨l',h1,h2⟩=>⟨l',h1,?_⟩
    have:=h2.res;rw[hd]at this;exact⟨this.1,this.2,h2.base⟩
   have hth:∀m1 (l1 l2:List StR),Expl g.nx s0 (l1.map StR.key)->VsI g m1 (l1.map StR.key) K l2->ThD m1 (.list false 12 (l2.map Qas)) (.list false 12 (l2.map (QhG g (l1.map StR.key)))):=fun m1 l1 l2 hE hV=>Qx3 hV fun s hs=>hG.nx s (hE.mn (·∈U) hE0.st hE0.cl s hs)
   simp only[vsH,QaQ,Qbf,Qbt,QaA,Qag,Qah,grD]at hvi hex hco fin ⊢;generalize hxl:List.map Qaj xs=xl at*;generalize hol:t.ov.map Qbh=ol at*;generalize hll:t.links.map QaB=ll at*;generalize htn:t.nodes=nodes at*;generalize hsl:List.map Qaf st0=sl at*
   conv=>cbv
   repeat' first|(left;intro(_:Unit);(conv=>cbv))|refine Qay hco rfl rfl ?_ ?_|(refine Qar [0] hex rfl rfl (by decide) (by repeat' first|exact trivial|refine And.intro ?_ ?_|rfl) rfl rfl ?_;rintro r hc' ⟨m1,v1,q1,l1,ok,rfl,rfl,i1,hX,hE,hok⟩;obtain⟨hX1,hE1⟩:=hfin _ _ _ _ hX hE hok;have hv:=hvi m1 v1 q1 l1 hE1 (Qpb hX1);clear hX hE hok;generalize hes:l1.map Qas=es1 at *;generalize hn1:l1.length=n1 at *;(conv=>cbv))|(refine Qar [0,3,4] hv rfl rfl (by decide) (by repeat' first|exact trivial|refine And.intro ?_ ?_|rfl) rfl rfl ?_;rintro r hc' ⟨l2,rfl,rfl,hV,hb⟩;have hthd:=hth m1 l1 l2 hE1 hV;generalize hes2:l2.map Qas=es2 at *;generalize hn2:l2.length=n2 at *;(conv=>cbv))|exact gu|exact trivial|refine And.intro ?_ ?_|(intro hc;first|exact absurd hc (by decide)|(exfalso;omega)|((first|rw[wS (by omega) (by omega)]at hc|rw[Qab]at hc|skip);try (conv=>cbv)))|refine CallG.old ?_
   refine(fun(hz:_=es2)=> ?_) (hc.trans (by rw[List.drop_zero,List.take_of_length_le (by rw[←hes2,List.length_map,hn2];exact Nat.le_refl _)]));rw[hz];exact⟨[.c (.rp [iD nodes,.list false 1 ol,.list false 7 ll,.list false 3 xl,.list false 12 (l2.map (QhG g (l1.map StR.key)))]),iA 0],
    ⟨.c _ _ (.rp _ _ ⟨.same _,.same _,.same _,.same _,hthd,trivial⟩),.c _ _ (.d _ _ (.same _)),trivial⟩,fin _ _ (Qz4 (by rw[hn1];exact hX1) hE1 hb hV)⟩
 ·have fin:=hQ (.tup [.c (.d .nilp),iA (Qal t xs from_)]) (by simp only[Qpg,if_neg h0]);clear hQ hex hvi hU;have k1:Qcj t xs=false->Qal t xs from_=1:=fun h=>by rw[Qal,h];rfl
  have k2:Qcj t xs=true->¬(0<=from_/\from_<t.nodes)->Qal t xs from_=2:=fun h h2=>by rw[Qal,if_pos h,if_neg h2]
  have k3:Qcj t xs=true->¬(0<=from_/\from_<t.nodes):=fun h h2=>h0 (by rw[Qal,if_pos h,if_pos h2])
  generalize Qal t xs from_=e at*;generalize Qcj t xs=cb at*;simp only[QaQ,Qbf,Qbt,QaA,Qag,Qah]at hco fin ⊢;generalize hxl:List.map Qaj xs=xl at*;generalize hol:t.ov.map Qbh=ol at*;generalize hll:t.links.map QaB=ll at*;generalize htn:t.nodes=nodes at*;generalize hsl:List.map Qaf st0=sl at*
  conv=>cbv
  repeat' first|(left;intro(_:Unit);(conv=>cbv))|refine Qay hco rfl rfl ?_ ?_|exact gu|exact trivial|refine And.intro ?_ ?_|(intro hc;first|exact absurd hc (by decide)|(exfalso;omega)|((first|rw[wS (by omega) (by omega)]at hc|rw[Qab]at hc|skip);try (conv=>cbv)))|refine CallG.old ?_
  all_goals first
   |exact absurd ⟨by omega,by omega⟩ (k3 (by assumption))
   |(rw[k1 (by assumption)]at fin;exact⟨[.c (.d .nilp),iA 1],⟨.c _ _ (.d _ _ (.same _)),.c _ _ (.d _ _ (.same _)),trivial⟩,fin⟩)
   |(rw[k2 (by assumption) (by omega)]at fin;exact⟨[.c (.d .nilp),iA 2],⟨.c _ _ (.d _ _ (.same _)),.c _ _ (.d _ _ (.same _)),trivial⟩,fin⟩)
  all_goals trace_state
theorem QzR{σ:Type}{nx:σ->List σ}{U:List σ}(hU:∀x∈U,∀y∈nx x,y∈U){n:Nat}{x:σ}(hx:x∈U)(h:Dep nx n x):Dep nx U.length x:=by
 have key:∀n x,x∈U->Dep nx n x->(∀k,n=k+1->¬Dep nx k x)->∃l:List σ,l.Nodup/\(∀y∈l,y∈U/\Dep nx n y)/\l.length=n+1:=by
  intro n;induction n with
  |zero=>intro x hx h _;exact⟨[x],by simp,fun y hy=>by simp at hy;rw[hy];exact⟨hx,h⟩,rfl⟩
  |succ n ih=>
   intro x hx h hn;have hn:=hn n rfl;obtain⟨y,hy,hy2⟩:∃y∈nx x,∀k,n=k+1->¬Dep nx k y:=by
    cases n with
    |zero=>
     cases he:nx x with
     |nil=>exact absurd he hn
     |cons y r=>exact⟨y,by simp,fun k hk=>by omega⟩
    |succ k=>
     refine Classical.byContradiction fun hc=>hn fun y hy=>Classical.byContradiction fun hd=>hc ⟨y,hy,fun k' hk=> ?_⟩
     obtain rfl:k'=k:=by omega
     exact hd
   obtain⟨l,h1,h2,h3⟩:=ih y (hU x hx y hy) (h y hy) hy2;refine⟨x::l,?_,fun z hz=> ?_,by simp[h3]⟩
   ·rw[List.nodup_cons];exact⟨fun hm=>hn (h2 x hm).2,h1⟩
   ·rcases List.mem_cons.1 hz with rfl|hz
    ·exact⟨hx,h⟩
    ·exact⟨(h2 z hz).1,Qtc (h2 z hz).2⟩
 have min:∀n,Dep nx n x->∃k,k<=n/\Dep nx k x/\∀j,k=j+1->¬Dep nx j x:=by
  intro n;induction n with
  |zero=>intro h;exact⟨0,Nat.le_refl _,h,fun j hj=>by omega⟩
  |succ n ih=>
   intro h;by_cases hd:Dep nx n x
   ·obtain⟨k,h1,h2⟩:=ih hd;exact⟨k,by omega,h2⟩
   ·exact⟨n+1,Nat.le_refl _,h,fun j hj=>by
     obtain rfl:n=j:=by omega
     exact hd⟩
 obtain⟨k,-,h1,h2⟩:=min n h;obtain⟨l,g1,g2,g3⟩:=key k x hx h1 h2;have:=g1.length_le_of_subset fun y hy=>(g2 y hy).1
 exact Qn9 (by omega) h1
theorem QrL(P:Program)(hP:P=Tryz.prog){g:Wlk}{n:Nat}{x:WSt}{a bx bp Nx Np:Nat}{m:Ar}(hpt:PT g (fun _=>False) m n x a)(hmx:m bx=some (.cs Nx [.adr a 0]))(hmp:m bp=some (.cs Np [.list true 1 []]))(hn:n<=1000000)(hlen:(brR g n x []).length<=1000):
  FnS P QbG [.c (.fn false Qak [.d (.adr bx 0),.d (.adr bp 0)])] [.am m] fun r h'=>∃m' d,h'=[.am m']/\r= .c (.d d)/\Qc7 3 m' d ((brR g n x []).map Qf2)/\(∀b,m b≠none->m' b=m b)/\∀b,InB d b->m b=none:=by
 have hsq:=QAB P hP hpt hmx hmp hn hlen;refine QaI (hP▸mixed) (hP▸Qc9) (hP▸Qdd) (nle rfl) fun Λ Λo K hK=> ?_
 clear hP;have hend:=fun m' d h1 h2 h3=>hK (.c (.d d)) [.am m'] ⟨m',d,rfl,rfl,h1,h2,h3⟩
 clear hK;generalize (brR g n x []).map Qf2=rl at*
 conv=>cbv
 repeat' first|(refine Qar [0] hsq rfl rfl (by decide) (by repeat' first|exact trivial|refine And.intro ?_ ?_|rfl) rfl rfl ?_;rintro r hc' ⟨m',d,rfl,rfl,q1,q2,q3⟩;have hfin:=hend m' d q1 q2 q3;(conv=>cbv))|exact hfin|exact gu|exact trivial|refine And.intro ?_ ?_|(intro hc;first|exact absurd hc (by decide)|(exfalso;omega)|((first|rw[wS (by omega) (by omega)]at hc|rw[Qab]at hc|skip);try (conv=>cbv)))|refine CallG.old ?_
def QsG(g:Wlk)(n:Nat)(s:WSt)(e:Int):List Rsl×Int:=
 if e=0 then (match dfs g.nx n [] s with
  |none=>([],16)
  |some _=>if 1000<num g.nx n s then ([],6)else (brR g n s [],0))else ([],e)
theorem QlL{g:Wlk}{m:Ar}{K:Kn WSt}{al:List Nat}{S:Nat->Prop}{d:D}{s:WSt}{a:Nat}{c:Int}(hI:PI g m K al S d)(hnd:(K.map (·.1)).Nodup)(ha:Qnx K al s a)(hc:lkK K s=some (some c)):∃N nx,m a=some (.cs N (plD g s nx false c)):=by
 obtain⟨j,h1,h2⟩:=ha;rw[gtm,omi]at h1;obtain⟨⟨y,c'⟩,h3,rfl⟩:=h1;have:=Qle hnd h3;rw[hc]at this;cases this;obtain⟨-,N,nx,ads,h4,-⟩:=hI.pl j _ c a h3 h2;exact⟨N,nx,h4⟩
theorem Qv4{g:Wlk}{n k:Nat}{s:WSt}(hn:Dep g.nx n s)(hk:Dep g.nx k s):num g.nx n s=num g.nx k s:=by
 have h1:=Qmi (ar:=g.ar) (to:=g.to) n s [];have h2:=Qmi (ar:=g.ar) (to:=g.to) k s [];rcases Nat.le_total n k with h|h
 ·rw[QwW g.ar g.to [] h hn,h1]at h2;exact h2
 ·rw[QwW g.ar g.to [] h hk,h2]at h1;exact h1.symm
theorem Qzc(P:Program)(hP:P=Tryz.prog)(t:Top)(xs:List Tab)(p:Pkt)(from_:Int)(g:Wlk)(U:List WSt)(m:Ar)(hT:QbA m)(hU:Qal t xs from_=0->UOK P t xs p g U/\(from_,p.stack)∈U):
  FnS P QfP [QaQ t,Qbf xs,Qbt p,iA from_] [.am m] fun r h'=>∃m' tl,h'= .am m'::tl/\QbA m'/\r= .tup [.c (.d (QBA (QsG g U.length (from_,p.stack) (Qal t xs from_)).1)),iA (QsG g U.length (from_,p.stack) (Qal t xs from_)).2]:=by
 have hsr:=Qh2 P hP t xs p from_ g U m hT hU;have hmk:=fun m a=>QtV P hP m a true []
 have hcol:=fun{n:Nat} {x:WSt} {a bx bp Nx Np:Nat} {m:Ar}=>QrL P hP (g:=g) (n:=n) (x:=x) (a:=a) (bx:=bx) (bp:=bp) (Nx:=Nx) (Np:=Np) (m:=m)
 refine FnS.thawP (R:=fun r h'=>∃m' tl d,h'= .am m'::tl/\r= .tup [.c (.d d),iA (QsG g U.length (from_,p.stack) (Qal t xs from_)).2]/\Qc7 3 m' d ((QsG g U.length (from_,p.stack) (Qal t xs from_)).1.map Qf2)/\QbA m'/\¬InB d 0/\(QsG g U.length (from_,p.stack) (Qal t xs from_)).1.length<=1000) ?_ ?_
 ·refine QaI (hP▸mixed) (hP▸QpJ) (hP▸QrH) (nle rfl) fun Λ Λo Q hQ=> ?_
  clear hP;have fin:=fun m' tl d (h1:Qc7 3 m' d ((QsG g U.length (from_,p.stack) (Qal t xs from_)).1.map Qf2)) h2 h3 h4=>hQ (.tup [.c (.d d),iA (QsG g U.length (from_,p.stack) (Qal t xs from_)).2]) (.am m'::tl) ⟨m',tl,d,rfl,rfl,h1,h2,h3,h4⟩
  clear hQ;by_cases h0:Qal t xs from_=0
  ·obtain⟨hUK,hsU⟩:=hU h0;rw[h0]at hsr fin;simp only[QiG,if_true]at hsr;cases hd:dfs g.nx U.length [] (from_,p.stack)with
   |some K=>
    rw[hd]at hsr;simp only[QsG,hd,if_true]at fin;have hlaw:=QjH (nx:=g.nx) (K:=[]) (fun x c h=>by cases h) hd;have hnd:=QgN (nx:=g.nx) (K:=[]) (by simp) hd;have hUl:=hUK.len;obtain⟨hres,c,hc⟩:=hlaw;obtain⟨n0,hdep0,hcn⟩:=(hres.dn _ _ hc).1;have hdep:Dep g.nx U.length (from_,p.stack):=QzR hUK.cl hsU hdep0;rw[Qv4 hdep0 hdep]at hcn;have hlen:(brR g U.length (from_,p.stack) []).length=num g.nx U.length (from_,p.stack):=by rw[brR,List.length_map];exact Qmi g.ar g.to U.length (from_,p.stack) []
    have htab:¬New m (.list true 1 []) 0:=fun e=>by
     rcases e with e|e
     ·rw[QbA]at hT;rw[hT]at e;cases e
     ·exact Qa5 e
    clear hU hUK;by_cases hnum:1000<num g.nx U.length (from_,p.stack)
    ·rw[if_pos hnum]at fin;have hc1:c=1001:=by rw[hcn,Qi7,if_neg (by omega)]
     have fin:=fun m' tl hT hb=>fin m' tl (.list true 3 []) (.inl ⟨rfl,rfl⟩) hT hb (by simp)
     generalize num g.nx U.length (from_,p.stack)=nm at*;clear hmk hcol hlen hdep hdep0 hres hd hsU;have hpl:=fun{m':Ar} {al:List Nat} {S:Nat->Prop} {d:D} {a:Nat} (hI:PI g m' K al S d) (ha:Qnx K al (from_,p.stack) a)=>QlL hI hnd ha hc
     clear hc;generalize (from_,p.stack)=st at*;simp only[plD]at hpl;obtain⟨id,src,dst,flow,st0,hops⟩:=p;simp only[QaQ,Qbf,Qbt,QaA,Qag,Qah]at hsr ⊢;generalize hxl:List.map Qaj xs=xl at*;generalize hol:t.ov.map Qbh=ol at*;generalize hll:t.links.map QaB=ll at*;generalize htn:t.nodes=nodes at*;generalize List.map Qaf st0=sl at*
     conv=>cbv
     repeat' first|(left;intro(_:Unit);(conv=>cbv))|(refine Qar [0] hsr rfl rfl (by decide) (by repeat' first|exact trivial|refine And.intro ?_ ?_|rfl) rfl rfl ?_;rintro r hc' ⟨m',tl,rfl,d3,al3,S3,a,rfl,p3,hab,f3⟩;obtain⟨Na,nx,ha⟩:=hpl p3 hab;have hfin:=fun tl=>fin m' tl ((f3.same _ htab).trans hT) (fun h=>Qa5 h);(conv=>cbv))|(refine⟨Na,_,_,ha,rfl,?_⟩;(conv=>cbv))|exact hfin _|exact gu|exact trivial|refine And.intro ?_ ?_|(intro hc;first|exact absurd hc (by decide)|(exfalso;omega)|((first|rw[wS (by omega) (by omega)]at hc|rw[Qab]at hc|skip);try (conv=>cbv)))|refine CallG.old ?_
    ·rw[if_neg hnum]at fin;have hc1:c=num g.nx U.length (from_,p.stack):=by rw[hcn,Qi7,if_pos (by omega)]
     have hcle:c<=1000:=by omega
     have hdn:∀y∈K.map (·.1),∃c,lkK K y=some (some c):=fun y hy=>by
      cases hk:lkK K y with
      |none=>exact absurd hy (Qfb.1 hk)
      |some c'=>
       obtain⟨c2,e⟩:=hres.new y c' hk rfl;exact⟨c2,by rw[e]⟩
     have hpl:=fun{m':Ar} {al:List Nat} {S:Nat->Prop} {d:D} {a:Nat} (hI:PI g m' K al S d) (ha:Qnx K al (from_,p.stack) a)=>And.intro (QlL hI hnd ha hc) (QBu hI hdn hnd U.length _ a hdep ha)
     have fin:=fun m' tl d h1 h2 h3=>fin m' tl d h1 h2 h3 (by simp only;omega)
     simp only at fin;have hlen2:(brR g U.length (from_,p.stack) []).length<=1000:=by omega
     clear hcn hc1 hdep hdep0 hres hd hsU hc hdn;clear hlen;generalize hst:(from_,p.stack)=st at*;simp only[plD]at hpl;obtain⟨id,src,dst,flow,st0,hops⟩:=p;simp only[QaQ,Qbf,Qbt,QaA,Qag,Qah]at hsr ⊢;clear hst;generalize hxl:List.map Qaj xs=xl at*;generalize hol:t.ov.map Qbh=ol at*;generalize hll:t.links.map QaB=ll at*;generalize htn:t.nodes=nodes at*;generalize List.map Qaf st0=sl at*
     conv=>cbv
     repeat' first|(left;intro(_:Unit);(conv=>cbv))|(refine Qar [0] hsr rfl rfl (by decide) (by repeat' first|exact trivial|refine And.intro ?_ ?_|rfl) rfl rfl ?_;rintro r hc' ⟨m',tl,rfl,d3,al3,S3,a,rfl,p3,hab,f3⟩;obtain⟨⟨Na,nx,ha⟩,hpt⟩:=hpl p3 hab;have hT3:QbA m':=((f3.same _ htab).trans hT);(conv=>cbv))|(refine⟨Na,_,_,ha,rfl,?_⟩;(conv=>cbv))|(refine Qar [0] (hmk m' a) rfl rfl (by decide) (by repeat' first|exact trivial|refine And.intro ?_ ?_|rfl) rfl rfl ?_;rintro r hc' ⟨bx1,bp1,Nx1,Np1,m3,m4,rfl,rfl,hbx1,hm3,hbp1,hm4⟩;have hx4:=QbW hm4 hbp1 (Qbl hm3);have hp4:=Qbl hm4;have hT4:QbA m4:=QbW hm4 hbp1 (QbW hm3 hbx1 hT3);have hcl:=hcol (hpt.keep (fun b hb _=>(Qc1 hm4 hbp1 (by rw[Qc1 hm3 hbx1 hb];exact hb)).trans (Qc1 hm3 hbx1 hb)) (fun b hb=> .inl hb)) hx4 hp4 (by omega) hlen2;(conv=>cbv))|(refine Qar [0] hcl rfl rfl (by decide) (by repeat' first|exact trivial|refine And.intro ?_ ?_|rfl) rfl rfl ?_;rintro r hc' ⟨m6,d6,rfl,rfl,q1,q2,q3⟩;have hfin:=fun tl=>fin m6 tl d6 q1 ((q2 _ (by rw[hT4];simp)).trans hT4) (fun hb=>by have:=q3 _ hb;rw[hT4]at this;cases this);(conv=>cbv))|exact hfin _|exact gu|exact trivial|refine And.intro ?_ ?_|(intro hc;first|exact absurd hc (by decide)|(exfalso;omega)|((first|rw[wS (by omega) (by omega)]at hc|rw[Qab]at hc|skip);try (conv=>cbv)))|refine CallG.old ?_
   |none=>
    rw[hd]at hsr;simp only[QsG,hd,if_true]at fin;have fin:=fun m' tl hT hb=>fin m' tl (.list true 3 []) (.inl ⟨rfl,rfl⟩) hT hb (by simp)
    have htab:¬New m (.list true 1 []) 0:=fun e=>by
     rcases e with e|e
     ·rw[QbA]at hT;rw[hT]at e;cases e
     ·exact Qa5 e
    clear hmk hcol hU;generalize (from_,p.stack)=st at*;obtain⟨id,src,dst,flow,st0,hops⟩:=p;simp only[QaQ,Qbf,Qbt,QaA,Qag,Qah]at hsr ⊢;generalize hxl:List.map Qaj xs=xl at*;generalize hol:t.ov.map Qbh=ol at*;generalize hll:t.links.map QaB=ll at*;generalize htn:t.nodes=nodes at*;generalize List.map Qaf st0=sl at*
    conv=>cbv
    repeat' first|(left;intro(_:Unit);(conv=>cbv))|(refine Qar [0] hsr rfl rfl (by decide) (by repeat' first|exact trivial|refine And.intro ?_ ?_|rfl) rfl rfl ?_;rintro r hc' ⟨m',tl,rfl,rfl,d3,f3⟩;have hfin:=fun tl=>fin m' tl ((f3.same _ htab).trans hT) (fun h=>Qa5 h);(conv=>cbv))|exact hfin _|exact gu|exact trivial|refine And.intro ?_ ?_|(intro hc;first|exact absurd hc (by decide)|(exfalso;omega)|((first|rw[wS (by omega) (by omega)]at hc|rw[Qab]at hc|skip);try (conv=>cbv)))|refine CallG.old ?_
  ·simp only[QiG,if_neg h0]at hsr;simp only[QsG,if_neg h0]at fin;have fin:=fun tl=>fin m tl (.list true 3 []) (.inl ⟨rfl,rfl⟩) hT (fun h=>Qa5 h) (by simp)
   generalize Qal t xs from_=e at*;clear hmk hcol hU;obtain⟨id,src,dst,flow,st0,hops⟩:=p;simp only[QaQ,Qbf,Qbt,QaA,Qag,Qah]at hsr ⊢;generalize hxl:List.map Qaj xs=xl at*;generalize hol:t.ov.map Qbh=ol at*;generalize hll:t.links.map QaB=ll at*;generalize htn:t.nodes=nodes at*;generalize List.map Qaf st0=sl at*
   conv=>cbv
   repeat' first|(left;intro(_:Unit);(conv=>cbv))|(refine Qar [0] hsr rfl rfl (by decide) (by repeat' first|exact trivial|refine And.intro ?_ ?_|rfl) rfl rfl ?_;rintro r hc' ⟨m',tl,rfl,rfl,rfl⟩;(conv=>cbv))|exact fin _|exact gu|exact trivial|refine And.intro ?_ ?_|(intro hc;first|exact absurd hc (by decide)|(exfalso;omega)|((first|rw[wS (by omega) (by omega)]at hc|rw[Qab]at hc|skip);try (conv=>cbv)))|refine CallG.old ?_
 ·rintro r h' ⟨m',tl,d,rfl,rfl,hrow,hT',hnb,hle⟩;rcases hrow with ⟨rfl,hl⟩|hrow
  ·refine⟨m',tl,_,_,am0,m',_,rfl,fun b x h=>(by cases h),fun b x h=>h,rfl,rfl,.fg _,m',tl,rfl,hT',?_⟩;rw[QBA,hl];rfl
  ·have hrow':=hrow;obtain⟨b,N,cap,rfl,hb,h3⟩:=hrow;refine⟨m',tl,_,_,fun c=>if c=b then m' b else none,mdel m' b,_,rfl,fun c x h=> ?_,fun c x h=> ?_,rfl,rfl,Qc7.thaw (l:=(QsG g U.length (from_,p.stack) (Qal t xs from_)).1.map Qf2) (.inr ⟨b,N,cap,rfl,by simpa using hb,h3⟩) (by rw[List.length_map];omega),mdel m' b,tl,rfl,?_,rfl⟩
   ·simp only at h;split at h
    ·rename_i e;subst e;exact⟨h,QhT _ _⟩
    ·cases h
   ·by_cases e:c=b
    ·rw[e,QhT]at h;cases h
    ·rw[QbQ e]at h;exact h
   ·rw[QbA,QbQ fun e=>hnb ⟨_,_,_,_,by rw[←e]⟩];exact hT'
def Qhn(xs:List Tab)(n:Int):Tab:=xs.getD n.toNat ⟨0,[],[]⟩
def gA(t:Top)(xs:List Tab)(p:Pkt)(s:WSt):Ans:=QhY t (Qhn xs s.1) {p with stack:=s.2,hops:=0}
def gW(t:Top)(xs:List Tab)(p:Pkt):Wlk:=⟨fun s=>(gA t xs p s).1,fun s=>(gA t xs p s).2.2,fun s a=>(Qcy t a,(gA t xs p s).2.1.stack)⟩
structure StI (t:Top) (s:WSt):Prop where
 nn:0<=s.1
 lt:s.1<t.nodes
 len:s.2.length<=40
 ins:InS s.2
structure TbI (xs:List Tab):Prop where
 ar:∀x∈xs,∀e∈x.to,e.arcs.length<=1000/\e.push.length<=1000
structure AnI (a:Ans):Prop where
 ar:a.1.length<=1000
 st:InS a.2.1.stack
section
variable{t:Top}{x:Tab}{p:Pkt}
structure EtI (x:Tab):Prop where
 et:∀e∈x.to,e.arcs.length<=1000/\InS e.push
theorem EtI.ent(h:EtI x)(n:Int):(ent x n).arcs.length<=1000/\InS (ent x n).push:=by
 unfold Go.Ab.ent;rw[List.getD_eq_getElem?_getD];cases hg:x.to[n.toNat]? with
 |none=>exact⟨by simp[default],fun s hs=>by simp[default]at hs⟩
 |some e=>exact h.et e (mgE hg)
theorem Qlk(r:Int)(h:InS p.stack):AnI ([],p,r):=⟨by simp,h⟩
theorem Qjq{l:List Seg}{ar:List Int}(h1:ar.length<=1000)(h2:InS l):AnI (Qd8 p l ar):=⟨h1,h2⟩
theorem QnK{l:List Seg}{e:Ety}(he:e.arcs.length<=1000/\InS e.push)(hp:InS p.stack)(hl:InS l):AnI (Qda p l e):=by
 unfold Qda;split
 ·split
  ·exact Qlk _ hp
  ·refine Qjq he.1 fun s hs=> ?_
   rcases List.mem_append.1 hs with hs|hs
   ·exact he.2 s hs
   ·exact hl s (List.mem_of_mem_drop hs)
 ·exact Qjq he.1 hl
theorem QnL(hx:EtI x)(hp:InS p.stack):AnI (Qee t x p):=by
 unfold Qee;split
 ·exact⟨by simp,fun s hs=>by simp at hs⟩
 ·split
  ·exact Qlk _ hp
  ·split
   ·exact QnK (hx.ent _) hp fun s hs=>by simp at hs
   ·exact Qlk _ hp
theorem QsT(hx:EtI x)(hp:InS p.stack){l:List Seg}(hl:InS l):AnI (Qfq t x p l):=by
 cases l with
 |nil=>exact QnL hx hp
 |cons s r=>
  have hr:InS r:=fun y hy=>hl y (by simp[hy])
  simp only[Qfq]
  repeat' split
  all_goals first
   |exact Qlk _ hp
   |exact QnL hx hp
   |exact QnK (hx.ent _) hp hl
   |exact Qjq (by simp) hr
theorem Qu3(hx:EtI x)(hp:InS p.stack):AnI (QhY t x p):=by
 unfold QhY;split
 ·split
  ·exact Qlk _ hp
  ·exact QsT hx hp fun s hs=>hp s (List.dropWhile_subset _ hs)
 ·exact Qlk _ hp
end
theorem QAA{t:Top}(hv:Qam t=true){s:Seg}(h:Qsl t s=true):In64 s.kind/\In64 s.num:=by
 have v:=Qau.1 hv;have h:=Qfz.1 h;unfold In64;omega
theorem QqH{t:Top}{xs:List Tab}(h:Qcj t xs=true){n:Int}(h0:0<=n)(h1:n<t.nodes):xs[n.toNat]? =some (Qhn xs n)/\Qhn xs n∈xs/\(Qhn xs n).node=n/\Qh1 t (Qhn xs n)=true:=by
 obtain⟨-,h2,h3⟩:=Qbq.1 h;have hl:n.toNat<xs.length:=by omega
 have e:xs[n.toNat]? =some (Qhn xs n):=by rw[Qhn,List.getD_eq_getElem?_getD,lgE hl];rfl
 obtain⟨q1,q2⟩:=h3 _ _ e;exact⟨e,mgE e,by omega,q2⟩
theorem QzY{t:Top}{x:Tab}(h:Qh1 t x=true)(hs:∀e∈x.to,e.arcs.length<=1000):EtI x:=by
 obtain⟨v,-,-,-,h5⟩:=Qcb.1 h;refine⟨fun e he=>⟨hs e he,fun s hs'=> ?_⟩⟩;obtain⟨i,hi⟩:=List.getElem?_of_mem he;exact QAA v ((Qe8.1 (h5 i e hi)).2.2.2.2 s hs')
section
variable{P:Program}(hP:P=Tryz.prog){t:Top}{xs:List Tab}{p:Pkt}(hc:Qcj t xs=true)(hx:TbI xs)
theorem QBr{x:Tab}{p q:Pkt}{a:Ans}(h:Bnd t x q a)(hq:q.id=p.id/\q.src=p.src/\q.dst=p.dst/\q.flow=p.flow):a.2.1={p with stack:=a.2.1.stack,hops:=a.2.1.hops}:=by
 obtain⟨a1,⟨i,s,d,f,st,hp⟩,r⟩:=a;have h1:=h.id;have h2:=h.src;have h3:=h.dst;have h4:=h.flow;simp only at h1 h2 h3 h4;rw[hq.1]at h1;rw[hq.2.1]at h2;rw[hq.2.2.1]at h3;rw[hq.2.2.2]at h4;subst h1 h2 h3 h4;rfl
include hc hx in
theorem Qhl{s:WSt}(hs:StI t s):AnI (gA t xs p s)/\(∀a∈(gA t xs p s).1,0<=a/\a<2*t.links.length)/\(∀a∈(gA t xs p s).1,StI t ((gW t xs p).to s a)):=by
 obtain⟨e1,e2,e3,e4⟩:=QqH hc hs.nn hs.lt;have hv:=(Qbq.1 hc).1;have hani:=Qu3 (t:=t) (p:={p with stack:=s.2,hops:=0}) (QzY e4 fun e he=>(hx.ar _ e2 e he).1) hs.ins;have hb:=QqC t (Qhn xs s.1) {p with stack:=s.2,hops:=0};have hra:∀a∈(gA t xs p s).1,0<=a/\a<2*t.links.length:=fun a ha=>by
  have h0:(gA t xs p s).2.2=0:=hb.some.2 (by
   show 0<(gA t xs p s).1.length;cases h:(gA t xs p s).1 with
   |nil=>rw[h]at ha;cases ha
   |cons=>simp)
  have h1:=(hb.yes h0).1 a ha;rw[e3]at h1;rw[Qbd]at h1;split at h1
  ·rename_i h2;have:=QdF t;omega
  ·have:=hs.nn;omega
 refine⟨hani,hra,fun a ha=> ?_⟩;have h0:(gA t xs p s).2.2=0:=hb.some.2 (by
  show 0<(gA t xs p s).1.length;cases h:(gA t xs p s).1 with
  |nil=>rw[h]at ha;cases ha
  |cons=>simp)
 obtain⟨r0,r1⟩:=hra a ha;have hhd:Qcy t a=QAR t true a:=by
  rw[Qcy,Qbn,if_pos hv,if_pos ⟨r0,r1⟩];rfl
 obtain⟨q1,q2⟩:=QrP hv true r0 r1;exact⟨by show 0<=Qcy t a;rw[hhd];exact q1,by show Qcy t a<t.nodes;rw[hhd];exact q2,by have:=(hb.yes h0).2.1;show(gA t xs p s).2.1.stack.length<=40;exact Nat.le_trans this (by omega),hani.st⟩
include hP hc hx in
theorem Quv{s:WSt}(hs:StI t s):StpW P t xs p (gW t xs p) s (Qhn xs s.1) (gA t xs p s).2.1.stack (gA t xs p s).2.1.hops/\StpG P t xs p (gW t xs p) s (Qhn xs s.1) (gA t xs p s).2.1.stack (gA t xs p s).2.1.hops:=by
 obtain⟨e1,e2,e3,e4⟩:=QqH hc hs.nn hs.lt;have hv:=Qau.1 (Qbq.1 hc).1;obtain⟨k1,k2,k3⟩:=Qhl hc hx hs (p:=p);have hf:Fit (Qhn xs s.1) {p with stack:=s.2,hops:=0}:=⟨fun e he=>hx.ar _ e2 e he,by have:=hs.len;show s.2.length<=1000;omega⟩;have hb:=QqC t (Qhn xs s.1) {p with stack:=s.2,hops:=0};have hpk:=QBr (p:=p) hb ⟨rfl,rfl,rfl,rfl⟩;have h1:=QyV P hP t (Qhn xs s.1) _ hf;have h2:=Qwm P hP t (Qhn xs s.1) _ hf;unfold Qgp Qst at h1 h2;rw[hpk]at h1 h2;have hh:∀a∈(gA t xs p s).1,QpT t a=Qcy t a:=fun a ha=>by
  obtain⟨r0,r1⟩:=k2 a ha;rw[Qcy,Qbn,if_pos (Qbq.1 hc).1,if_pos ⟨r0,r1⟩];rfl
 exact⟨⟨e1,hs.nn,h1,fun a ha=>by
   have:=QvD P hP t a (k2 a ha).1 (k2 a ha).2 hv.2.2.1;rw[hh a ha]at this;exact this,fun a _=>rfl,k1.ar⟩,⟨e1,hs.nn,h2,fun a _=>QpU P hP t a,fun a _=>rfl,k1.ar⟩⟩
include hP hc hx in
theorem Qyo{s0:WSt}{U:List WSt}(h0:StI t s0)(hE:Expl (gW t xs p).nx s0 U)(hl:U.length<=1000):UOK P t xs p (gW t xs p) U/\GOK P t xs p (gW t xs p) U:=by
 have hall:∀x∈U,StI t x:=hE.mn (StI t) h0 fun x hx' y hy=>by
  rw[Wlk.nx,nxt,List.mem_map]at hy;obtain⟨a,ha,rfl⟩:=hy;exact(Qhl hc hx hx').2.2 a ha
 have hv:=Qau.1 (Qbq.1 hc).1;refine⟨⟨hl,fun s hs=>⟨?_,by have:=(hall s hs).len;omega,(hall s hs).ins⟩,fun s hs=>⟨_,_,_,(Quv hP hc hx (hall s hs)).1⟩,hE.cl⟩,⟨hl,fun s hs=>⟨_,_,_,(Quv hP hc hx (hall s hs)).2⟩,hE.cl⟩⟩;have h1:=(hall s hs).nn;have h2:=(hall s hs).lt;unfold In64;omega
end
structure C24 where
 (t:Top) (xs:List Tab) (p:Pkt) (fr:Int)
def QwY(c:C24):AV:= .agg [.d (iD c.t.nodes),.d (Qag c.t.ov),.d (Qah c.t.links),.d (.list false 3 (c.xs.map Qaj)),.d (iD c.p.id),.d (iD c.p.src),.d (iD c.p.dst),.d (iD c.p.flow),.d (QaA c.p.stack),.d (iD c.p.hops),.d (iD c.fr)]
def sE(l:List Ety):Nat:=(l.map fun e=>e.arcs.length+e.push.length).sum
def QAK(c:C24):Prop:=∀x∈c.xs,x.down.length+sE x.to<=100000000
structure Sm24 (c:C24):Prop where
 tb:TbI c.xs
 st:c.p.stack.length<=40
 ex:Qcj c.t c.xs=true->0<=c.fr->c.fr<c.t.nodes->∃U,U.length<=300/\Expl (gW c.t c.xs c.p).nx (c.fr,c.p.stack) U
theorem Qum{l:List Ety}{k:Nat}{e:Ety}(h:l[k]? =some e):sE (l.take (k+1))=sE (l.take k)+(e.arcs.length+e.push.length):=by
 rw[sE,Qan h,List.map_append,List.sum_append];simp[sE]
theorem QAx{l:List Ety}(k:Nat):sE (l.take k)<=sE l:=by
 conv=>rhs;rw[←List.take_append_drop k l]
 rw[sE,sE,List.map_append,List.sum_append];omega
theorem QAy{l:List Ety}{e:Ety}(h:e∈l):e.arcs.length+e.push.length<=sE l:=by
 obtain⟨k,hk⟩:=List.getElem?_of_mem h;have h1:=Qum hk;have h2:=QAx (l:=l) (k+1);omega
theorem QvR(P:Program)(hP:P=Tryz.prog)(c:C24)(hs:QAK c)(hi:InS c.p.stack):Qxq P QgY [QwY c] fun r=>∃b,r=bA b/\(b=false->Sm24 c):=by
 have hco:=QoO P hP c.t c.xs;have hex:=fun(h:Qcj c.t c.xs=true) (hx:TbI c.xs) (h0:StI c.t (c.fr,c.p.stack))=>Qik P hP c.t c.xs c.p c.fr (gW c.t c.xs c.p) am0 (StI c.t) h0 (fun s hs=>⟨_,_,_,(Quv hP h hx hs).2⟩) (fun s hs y hy=>by
  rw[Wlk.nx,nxt,List.mem_map]at hy;obtain⟨a,ha,rfl⟩:=hy;exact(Qhl h hx hs).2.2 a ha)
 refine QlF (hP▸mixed) (hP▸Qk3) (hP▸Qmk) (nle rfl) fun Λ Λo Q hQ=> ?_
 clear hP;have ht:Q (bA true):=hQ _ ⟨true,rfl,fun h=>by cases h⟩;have hf:Sm24 c->Q (bA false):=fun h=>hQ _ ⟨false,rfl,fun _=>h⟩
 clear hQ;obtain⟨t,xs,p,fr⟩:=c;obtain⟨id,src,dst,flow,st0,hops⟩:=p;simp only[QwY,QAK,QaQ,Qbf,Qbt,QaA,Qag,Qah]at*;generalize hxl:List.map Qaj xs=xl at*;generalize hol:t.ov.map Qbh=ol at*;generalize hll:t.links.map QaB=ll at*;generalize htn:t.nodes=nodes at*;generalize hsl:List.map Qaf st0=sl at*;have n1:Λ xl=xs.length:=by rw[Λo,←hxl];simp
 have n2:Λ ol=t.ov.length:=by rw[Λo,←hol];simp
 have n3:Λ ll=t.links.length:=by rw[Λo,←hll];simp
 have n4:Λ sl=st0.length:=by rw[Λo,←hsl];simp
 conv=>cbv
 repeat' first|(left;intro(_:Unit);(conv=>cbv))|exact⟨[bA true],⟨.c _ _ (.same _ rfl),trivial⟩,ht⟩|exact gu|exact trivial|refine And.intro ?_ ?_|(intro hc;first|exact absurd hc (by decide)|(exfalso;omega)|((first|rw[wS (by omega) (by omega)]at hc|rw[Qab]at hc|skip);try (conv=>cbv)))|refine CallG.old ?_
 have hst40:st0.length<=40:=by omega
 refine Qbz xs.length (fun(i:Int)=>[(1,.c (.ptr 1 0 0 0)),(42,.c (.d (.list false 3 xl))),(43,iA (Λ xl)),(44,iA i)]) (fun _=>[.am am0,.bx [.d (.int .i64 nodes),.d (.list false 1 ol),.d (.list false 7 ll),.d (.list false 3 xl),.d (.int .i64 id),.d (.int .i64 src),.d (.int .i64 dst),.d (.int .i64 flow),.d (.list false 2 sl),.d (.int .i64 hops),.d (.int .i64 fr)]])
  (fun k i=>i=k/\k<=xs.length/\∀(j:Nat) (x:Tab),j<k->xs[j]? =some x->∀e∈x.to,e.arcs.length<=1000/\e.push.length<=1000) 0
  0 (fun(_:Unit)=>[(1,.c (.ptr 1 0 0 0))]) (fun _=>[.am am0,.bx [.d (.int .i64 nodes),.d (.list false 1 ol),.d (.list false 7 ll),.d (.list false 3 xl),.d (.int .i64 id),.d (.int .i64 src),.d (.int .i64 dst),.d (.int .i64 flow),.d (.list false 2 sl),.d (.int .i64 hops),.d (.int .i64 fr)]]) (fun _=>TbI xs) (Wk.ca) ⟨rfl,by omega,fun j x h=>by omega⟩ (fun k s h=>h.2.1) ?_ ?_
 ·rintro kk i Q' ⟨hi,hk,hall⟩ norm jn ex rt;by_cases hlt:kk<xs.length
  ·obtain⟨⟨nd,tl,dl⟩,hx⟩:∃x,xs[kk]? =some x:=⟨_,lgE hlt⟩;have hxa:=Qd1 hxl hi hx;simp only[Qaj,Qd2,Qax]at hxa;have hsz:=hs _ (mgE hx);simp only at hsz;generalize hdl:dl.map QaE=dll at*;generalize htl:tl.map Qaz=tll at*;have m1:Λ dll=dl.length:=by rw[Λo,←hdl];simp
   have m2:Λ tll=tl.length:=by rw[Λo,←htl];simp
   clear hco hex hf jn
   conv=>cbv
   repeat' first|(left;intro(_:Unit);(conv=>cbv))|(intro(e:List D) he;cases osj (he.symm.trans hxa);(conv=>cbv))|exact gu|exact trivial|refine And.intro ?_ ?_|(intro hc;first|exact absurd hc (by decide)|(exfalso;omega)|((first|rw[wS (by omega) (by omega)]at hc|rw[Qab]at hc|skip);try (conv=>cbv)))|refine CallG.old ?_
   obtain⟨nt,hnt⟩:∃z:Int,z=dl.length+(sE tl:Nat):=⟨_,rfl⟩;refine Qbz tl.length (fun(q:Int×Int)=>[(1,.c (.ptr 1 0 0 0)),(42,.c (.d (.list false 3 xl))),(43,iA (Λ xl)),(44,iA i),(4,.c (.ptr 2 0 0 0)),(5,iA q.2),(52,.c (.d (.list false 3 tll))),(53,iA (Λ tll)),(54,iA q.1)]) (fun _=>[.am am0,.bx [.d (.int .i64 nodes),.d (.list false 1 ol),.d (.list false 7 ll),.d (.list false 3 xl),.d (.int .i64 id),.d (.int .i64 src),.d (.int .i64 dst),.d (.int .i64 flow),.d (.list false 2 sl),.d (.int .i64 hops),.d (.int .i64 fr)],.bx [.d (iD nd),.d (.list false 3 tll),.d (.list false 1 dll)]])
    (fun kj q=>q.1=kj/\kj<=tl.length/\q.2=dl.length+(sE (tl.take kj):Nat)) (0,dl.length)
    2 (fun(_:Unit)=>[(1,.c (.ptr 1 0 0 0)),(42,.c (.d (.list false 3 xl))),(43,iA (Λ xl)),(44,iA i),(4,.c (.ptr 2 0 0 0)),(5,iA nt)]) (fun _=>[.am am0,.bx [.d (.int .i64 nodes),.d (.list false 1 ol),.d (.list false 7 ll),.d (.list false 3 xl),.d (.int .i64 id),.d (.int .i64 src),.d (.int .i64 dst),.d (.int .i64 flow),.d (.list false 2 sl),.d (.int .i64 hops),.d (.int .i64 fr)],.bx [.d (iD nd),.d (.list false 3 tll),.d (.list false 1 dll)]]) (fun _=>True) (by rw[←m1];exact(Wk.ca)) ⟨rfl,by omega,by simp[sE]⟩ (fun k s h=>h.2.1) ?_ ?_
   ·rintro kj ⟨j,n⟩ Q2 ⟨hj,hkj,hn⟩ norm2 jn2 ex2 rt2;simp only at hj hn;clear norm ex rt;by_cases hlj:kj<tl.length
    ·obtain⟨⟨ea,er,ep⟩,hy⟩:∃y,tl[kj]? =some y:=⟨_,lgE hlj⟩;have hya:=Qd1 htl hj hy;simp only[Qaz,Qax,QaA]at hya;have e1:=Qum hy;have e2:=QAx (l:=tl) (kj+1);simp only at e1;generalize hel:ea.map QaE=eal at*;generalize hpl:ep.map Qaf=epl at*;have m3:Λ eal=ea.length:=by rw[Λo,←hel];simp
     have m4:Λ epl=ep.length:=by rw[Λo,←hpl];simp
     obtain⟨j1,hj1⟩:∃z:Int,z=((kj+1:Nat):Int):=⟨_,rfl⟩;obtain⟨z1,hz1⟩:∃z:Int,z=ea.length+ep.length:=⟨_,rfl⟩;obtain⟨n1',hn1⟩:∃z:Int,z=n+z1:=⟨_,rfl⟩;clear jn2
     conv=>cbv
     repeat' first|(left;intro(_:Unit);(conv=>cbv))|(intro(e:List D) he;cases osj (he.symm.trans hya);(conv=>cbv))|(intro(k:Int) hk;rw[wS (by omega) (by omega)]at hk;refine(fun(hz:j1=k)=> ?_) ?_;rotate_left;omega;subst hz;(conv=>cbv))|(intro(k:Int) hk;rw[wS (by omega) (by omega)]at hk;refine(fun(hz:z1=k)=> ?_) ?_;rotate_left;omega;subst hz;(conv=>cbv))|(intro(k:Int) hk;rw[wS (by omega) (by omega)]at hk;refine(fun(hz:n1'=k)=> ?_) ?_;rotate_left;omega;subst hz;(conv=>cbv))|exact gu|exact trivial|refine And.intro ?_ ?_|(intro hc;first|exact absurd hc (by decide)|(exfalso;omega)|((first|rw[wS (by omega) (by omega)]at hc|rw[Qab]at hc|skip);try (conv=>cbv)))|refine CallG.old ?_
     refine norm2 _ _ (_,_) ?_ (Wk.ca);exact⟨hj1,by omega,by simp only;omega⟩
    ·obtain rfl:kj=tl.length:=by omega
     rw[List.take_of_length_le (Nat.le_refl _)]at hn;obtain rfl:nt=n:=by omega
     conv=>cbv
     repeat' first|exact gu|exact trivial|refine And.intro ?_ ?_|(intro hc;first|exact absurd hc (by decide)|(exfalso;omega)|((first|rw[wS (by omega) (by omega)]at hc|rw[Qab]at hc|skip);try (conv=>cbv)))|refine CallG.old ?_
     refine jn2 _ _ () trivial (Wk.ca)
   ·rintro⟨⟩-
    obtain⟨i1,hi1⟩:∃z:Int,z=((kk+1:Nat):Int):=⟨_,rfl⟩;have hnx:nt<=100->∀e∈tl,e.arcs.length<=1000/\e.push.length<=1000:=fun h e he=>by
     have:=QAy he;omega
    conv=>cbv
    repeat' first|(refine rt _ _ ?_;(conv=>cbv))|exact⟨[bA true],⟨.c _ _ (.same _ rfl),trivial⟩,ht⟩|(intro(k:Int) hk;rw[wS (by omega) (by omega)]at hk;refine(fun(hz:i1=k)=> ?_) ?_;rotate_left;omega;subst hz;(conv=>cbv))|exact gu|exact trivial|refine And.intro ?_ ?_|(intro hc;first|exact absurd hc (by decide)|(exfalso;omega)|((first|rw[wS (by omega) (by omega)]at hc|rw[Qab]at hc|skip);try (conv=>cbv)))|refine CallG.old ?_
    refine norm _ _ _ ?_ (Wk.ca);refine⟨hi1,by omega,fun j x hj hx' e he=> ?_⟩;rcases Nat.lt_or_ge j kk with h|h
    ·exact hall j x h hx' e he
    ·obtain rfl:j=kk:=by omega
     rw[hx]at hx';cases hx';exact hnx (by omega) e he
  ·have htb:TbI xs:=⟨fun x hx e he=>by
    obtain⟨j,hj⟩:=List.getElem?_of_mem hx;exact hall j x (by have:=Qaa hj;omega) hj e he⟩
   clear hco hex hf norm
   conv=>cbv
   repeat' first|exact gu|exact trivial|refine And.intro ?_ ?_|(intro hc;first|exact absurd hc (by decide)|(exfalso;omega)|((first|rw[wS (by omega) (by omega)]at hc|rw[Qab]at hc|skip);try (conv=>cbv)))|refine CallG.old ?_
   refine jn _ _ () htb (Wk.ca)
 ·rintro⟨⟩ htb;have hex:=fun h=>hex h htb
  by_cases hcv:Qcj t xs=true/\0<=fr/\fr<nodes
  ·obtain⟨c1,c2,c3⟩:=hcv;have hex:=hex c1 ⟨c2,by rw[htn];exact c3,hst40,hi⟩;have hf:=fun U h1 h2=>hf ⟨htb,hst40,fun _ _ _=>⟨U,h1,h2⟩⟩
   rw[c1]at hco
   conv=>cbv
   repeat' first|(refine Qao hco rfl rfl ?_;conv=>cbv)|exact gu|exact trivial|refine And.intro ?_ ?_|(intro hc;first|exact absurd hc (by decide)|(exfalso;omega)|((first|rw[wS (by omega) (by omega)]at hc|rw[Qab]at hc|skip);try (conv=>cbv)))|refine CallG.old ?_
   refine Qar [0] hex rfl rfl (by decide) (by repeat' first|exact trivial|refine And.intro ?_ ?_|rfl) rfl rfl ?_;rintro r hc' ⟨m',v,q,l,ok,rfl,rfl,i,hX,hE,hok⟩;have hU:ok=true->l.length<=300->Q (bA false):=fun h1 h2=>by
    rw[if_pos h1]at hok;exact hf (l.map StR.key) (by rw[List.length_map];exact h2) (Qog hE (by rw[List.length_map];omega))
   clear hE hX hok hf hex hco;simp only[vsH,Qag,Qah,hol,hll,htn,hxl];generalize l.map Qas=gl;generalize l.length=nl at*;cases ok with
   |false=>
    clear hU
    conv=>cbv
    repeat' first|exact⟨[bA true],⟨.c _ _ (.same _ rfl),trivial⟩,ht⟩|exact gu|exact trivial|refine And.intro ?_ ?_|(intro hc;first|exact absurd hc (by decide)|(exfalso;omega)|((first|rw[wS (by omega) (by omega)]at hc|rw[Qab]at hc|skip);try (conv=>cbv)))|refine CallG.old ?_
   |true=>
    have hU:=fun h=>hU rfl h
    conv=>cbv
    repeat' first|exact⟨[bA true],⟨.c _ _ (.same _ rfl),trivial⟩,ht⟩|exact⟨[bA false],⟨.c _ _ (.same _ rfl),trivial⟩,hU (by omega)⟩|exact gu|exact trivial|refine And.intro ?_ ?_|(intro hc;first|exact absurd hc (by decide)|(exfalso;omega)|((first|rw[wS (by omega) (by omega)]at hc|rw[Qab]at hc|skip);try (conv=>cbv)))|refine CallG.old ?_
  ·have hf:=hf ⟨htb,hst40,fun h1 h2 h3=>absurd ⟨h1,h2,by rw[←htn];exact h3⟩ hcv⟩;clear hex;have hne:Qcj t xs=true->¬(0<=fr/\fr<nodes):=fun h h2=>hcv ⟨h,h2⟩
   generalize Qcj t xs=cb at*;have hff:∃rs',QAL am0 [.c (.d (.bool false))] rs'/\Q (pack rs'):=⟨[bA false],⟨.c _ _ (.same _ rfl),trivial⟩,hf⟩;cases cb with
   |false=>
    clear hne
    conv=>cbv
    repeat' first|(refine Qao hco rfl rfl ?_;conv=>cbv)|exact hff|exact gu|exact trivial|refine And.intro ?_ ?_|(intro hc;first|exact absurd hc (by decide)|(exfalso;omega)|((first|rw[wS (by omega) (by omega)]at hc|rw[Qab]at hc|skip);try (conv=>cbv)))|refine CallG.old ?_
   |true=>
    have hne:=hne rfl
    conv=>cbv
    repeat' first|(refine Qao hco rfl rfl ?_;conv=>cbv)|exact hff|exact gu|exact trivial|refine And.intro ?_ ?_|(intro hc;first|exact absurd hc (by decide)|(exfalso;omega)|((first|rw[wS (by omega) (by omega)]at hc|rw[Qab]at hc|skip);try (conv=>cbv)))|refine CallG.old ?_
def Qpe(P:Program):Prop:=∀m,QbA m->FnS P Qde [] [.am m] fun r h'=>r=bA true/\∃m' tl,h'= .am m'::tl/\QbA m'
theorem Sm24.ok{P:Program}(hP:P=Tryz.prog){c:C24}(h:Sm24 c)(hi:InS c.p.stack):∃U,(Qal c.t c.xs c.fr=0->UOK P c.t c.xs c.p (gW c.t c.xs c.p) U/\GOK P c.t c.xs c.p (gW c.t c.xs c.p) U/\Expl (gW c.t c.xs c.p).nx (c.fr,c.p.stack) U):=by
 by_cases h0:Qal c.t c.xs c.fr=0
 ·unfold Qal at h0;split at h0
  ·rename_i hc;split at h0
   ·rename_i hr;obtain⟨U,h1,h2⟩:=h.ex hc hr.1 hr.2;obtain⟨k1,k2⟩:=Qyo hP hc h.tb (s0:=(c.fr,c.p.stack)) ⟨hr.1,hr.2,h.st,hi⟩ h2 (by omega);exact⟨U,fun _=>⟨k1,k2,h2⟩⟩
   ·cases h0
  ·cases h0
 ·exact⟨[],fun h=>absurd h h0⟩
def QgJ(g:Wlk)(x:WSt):Bool:= !(decide ((g.ar x).length=0)&&decide (g.rs x≠ -1))
def Qpo(g:Wlk)(U:List WSt)(s:WSt)(e:Int):Bool×Int:=
 if e=0 then (match dfs g.nx U.length [] s with
  |none=>(false,16)
  |some _=>(U.all (QgJ g),0))else (false,e)
theorem QqA{α:Type}{l l':List α}{f:α->Bool}(h:∀x,x∈l↔x∈l'):l.all f=l'.all f:=by
 rw[Bool.eq_iff_iff,List.all_eq_true,List.all_eq_true];exact⟨fun hf x hx=>hf x ((h x).2 hx),fun hf x hx=>hf x ((h x).1 hx)⟩
structure PlR (g:Wlk) (m:Ar) (ks:List WSt) (bn:Nat) (cap:Nat):Prop where
 at_:∃N xs,m bn=some (.cs N xs)/\∀(k:Nat) (x:WSt),ks[k]? =some x->∃a Na nx c,xs[k]? =some (.adr a 0)/\m a=some (.cs Na (plD g x nx false c))
theorem Qxd{g:Wlk}{m:Ar}{K:Kn WSt}{al:List Nat}{S:Nat->Prop}{d:D}(hI:PI g m K al S d)(hd:∀y∈K.map (·.1),∃c,lkK K y=some (some c))(hnd:(K.map (·.1)).Nodup)(hne:K≠[]):∃bn cap,d= .sl bn 0 1 (K.map (·.1)).length cap/\PlR g m (K.map (·.1)) bn cap:=by
 have hl:al.length=(K.map (·.1)).length:=by rw[List.length_map];exact hI.len
 rcases hI.row with ⟨-,h⟩|⟨bn,N,cap,h1,h2,h3⟩
 ·have:al=[]:=by simpa using h
  rw[this]at hl;cases K with
  |nil=>exact absurd rfl hne
  |cons=>simp at hl
 ·refine⟨bn,cap,by rw[h1,List.length_map,hl],⟨N,_,h2,fun k x hx=> ?_⟩⟩;obtain⟨a,ha⟩:∃a,al[k]? =some a:=⟨_,lgE (by have:=Qaa hx;omega)⟩;obtain⟨c,hc⟩:=hd x (mgE hx);have hx':=hx;rw[gtm,omi]at hx';obtain⟨⟨y,c'⟩,h4,rfl⟩:=hx';have h5:=Qle hnd h4;rw[hc]at h5;cases h5;obtain⟨-,Na,nx,ads,h6,-⟩:=hI.pl k _ c a h4 ha;exact⟨a,Na,nx,c,by rw[QmE,gtm,ha];rfl,h6⟩
theorem QuO(P:Program)(hP:P=Tryz.prog)(t:Top)(xs:List Tab)(p:Pkt)(from_:Int)(g:Wlk)(U:List WSt)(m:Ar)(hT:QbA m)(hU:Qal t xs from_=0->UOK P t xs p g U/\Expl g.nx (from_,p.stack) U):
  FnS P QcS [QaQ t,Qbf xs,Qbt p,iA from_] [.am m] fun r h'=>∃m' tl,h'= .am m'::tl/\QbA m'/\r= .tup [bA (Qpo g U (from_,p.stack) (Qal t xs from_)).1,iA (Qpo g U (from_,p.stack) (Qal t xs from_)).2]:=by
 have hsr:=Qh2 P hP t xs p from_ g U m hT fun h=>⟨(hU h).1,(hU h).2.st⟩
 refine QaI (hP▸mixed) (hP▸Qj0) (hP▸QkZ) (nle rfl) fun Λ Λo Q hQ=> ?_
 clear hP;have fin:=fun m' tl (h1:QbA m')=>hQ (.tup [bA (Qpo g U (from_,p.stack) (Qal t xs from_)).1,iA (Qpo g U (from_,p.stack) (Qal t xs from_)).2]) (.am m'::tl) ⟨m',tl,rfl,h1,rfl⟩
 clear hQ;have htab:¬New m (.list true 1 []) 0:=fun e=>by
  rcases e with e|e
  ·rw[QbA]at hT;rw[hT]at e;cases e
  ·exact Qa5 e
 by_cases h0:Qal t xs from_=0
 ·obtain⟨hUK,hE⟩:=hU h0;rw[h0]at hsr fin;simp only[QiG,if_true]at hsr;cases hd:dfs g.nx U.length [] (from_,p.stack)with
  |some K=>
   rw[hd]at hsr;simp only[Qpo,hd,if_true]at fin;obtain⟨hnd,hmem,-,hdn,r0,hr0⟩:=QlK hE hd;rw[←QqA hmem]at fin;have hpl:=fun{m':Ar} {al:List Nat} {S:Nat->Prop} {d:D} (hI:PI g m' K al S d)=>Qxd hI hdn hnd fun e=>by rw[e]at hr0;cases hr0
   have hKl:(K.map (·.1)).length<=1000:=by
    have:=hnd.length_le_of_subset fun x hx=>(hmem x).1 hx
    have:=hUK.len;omega
   have hgl:∀x∈K.map (·.1),(g.ar x).length<=1000:=fun x hx=>by
    obtain⟨_,_,_,h⟩:=hUK.st x ((hmem x).1 hx);exact h.len
   clear hdn hnd hr0 hmem hE hUK hd hU;generalize K.map (·.1)=ks at*;generalize (from_,p.stack)=st at*;obtain⟨id,src,dst,flow,st0,hops⟩:=p;simp only[QaQ,Qbf,Qbt,QaA,Qag,Qah]at hsr ⊢;generalize hxl:List.map Qaj xs=xl at*;generalize hol:t.ov.map Qbh=ol at*;generalize hll:t.links.map QaB=ll at*;generalize htn:t.nodes=nodes at*;generalize List.map Qaf st0=sl at*;have hno:ks.all (QgJ g)=false->∀m' tl,QbA m'->Q (.tup [bA false,iA 0]) (.am m'::tl):=fun h m' tl hT=>by have:=fin m' tl hT;rw[h]at this;exact this
   have hyes:ks.all (QgJ g)=true->∀m' tl,QbA m'->Q (.tup [bA true,iA 0]) (.am m'::tl):=fun h m' tl hT=>by have:=fin m' tl hT;rw[h]at this;exact this
   clear fin;obtain⟨cn,hcn⟩:∃z:Int,z=(ks.length:Int):=⟨_,rfl⟩
   conv=>cbv
   repeat' first|(left;intro(_:Unit);(conv=>cbv))|(refine Qar [0] hsr rfl rfl (by decide) (by repeat' first|exact trivial|refine And.intro ?_ ?_|rfl) rfl rfl ?_;rintro r hc' ⟨m',tl,rfl,d3,al3,S3,a,rfl,p3,hab,f3⟩;have hT3:QbA m':=((f3.same _ htab).trans hT);obtain⟨bn,cap,rfl,hpr⟩:=hpl p3;generalize hn:ks.length=n at *;(conv=>cbv))|(intro(c:Int) hc;refine(fun(hz:cn=c)=> ?_) (by rw[hc,Qab];omega);subst hz;(conv=>cbv))|exact gu|exact trivial|refine And.intro ?_ ?_|(intro hc;first|exact absurd hc (by decide)|(exfalso;omega)|((first|rw[wS (by omega) (by omega)]at hc|rw[Qab]at hc|skip);try (conv=>cbv)))|refine CallG.old ?_
   obtain⟨Nr,rx,hrow,hrat⟩:=hpr.at_;refine QaR n (fun(i:Int)=>[(27,.c (.d (.sl bn 0 1 n cap))),(28,iA cn),(29,iA i)]) (fun _=>[.am m']) (fun k i=>i=k/\k<=n/\∀(j:Nat) (x:WSt),j<k->ks[j]? =some x->QgJ g x=true) 0
    (Wk.ca) ⟨rfl,by omega,fun j x h=>by omega⟩ (fun k s h=>h.2.1) ?_
   rintro kk i Q' ⟨hi,hk,hall⟩ norm ex rt;by_cases hlt:kk<n
   ·obtain⟨x,hx⟩:∃x,ks[kk]? =some x:=⟨_,lgE (by omega)⟩;obtain⟨a1,Na,nx,c,hxa,hpa⟩:=hrat kk x hx;have hgx:=hgl x (mgE hx);simp only[plD]at hpa;have hbad:QgJ g x=false->∃b,Q'=b:=fun _=>⟨_,rfl⟩
    have hE1:(g.ar x).length=0->g.rs x≠ -1->QgJ g x=false:=fun h1 h2=>by simp[QgJ,h1,h2]
    have hE2:¬(g.ar x).length=0->QgJ g x=true:=fun h1=>by simp[QgJ,h1]
    have hE3:g.rs x= -1->QgJ g x=true:=fun h1=>by simp[QgJ,h1]
    have hfl:QgJ g x=false->ks.all (QgJ g)=false:=fun h=>by
     rw[Bool.eq_false_iff];intro h2;rw[List.all_eq_true.1 h2 x (mgE hx)]at h;cases h
    have hal:Λ ((g.ar x).map QaE)=(g.ar x).length:=by rw[Λo];simp
    have hnrm:QgJ g x=true->∀j y,j<kk+1->ks[j]? =some y->QgJ g y=true:=fun h j y hj hy=>by
     rcases Nat.lt_or_ge j kk with h2|h2
     ·exact hall j y h2 hy
     ·obtain rfl:j=kk:=by omega
      rw[hx]at hy;cases hy;exact h
    have hno':=fun h=>hno (hfl h) m' [] hT3
    clear hbad hfl hno hyes hrat hpl hsr;generalize (g.ar x).map QaE=arl at*;generalize g.rs x=rs at*;obtain⟨i1,hi1⟩:∃z:Int,z=((kk+1:Nat):Int):=⟨_,rfl⟩
    conv=>cbv
    repeat' first|(intro(k:Nat) hk;refine(fun(hz:kk=k)=> ?_) ?_;rotate_left;omega;subst hz;(conv=>cbv))|(refine⟨Nr,_,_,hrow,hxa,?_⟩;(conv=>cbv))|(refine⟨Na,_,_,hpa,rfl,?_⟩;(conv=>cbv))|(refine rt _ _ ?_;(conv=>cbv))|(intro(k:Int) hk;rw[wS (by omega) (by omega)]at hk;refine(fun(hz:i1=k)=> ?_) ?_;rotate_left;omega;subst hz;(conv=>cbv))|exact hno' (hE1 (by omega) (by omega))|exact gu|exact trivial|refine And.intro ?_ ?_|(intro hc;first|exact absurd hc (by decide)|(exfalso;omega)|((first|rw[wS (by omega) (by omega)]at hc|rw[Qab]at hc|skip);try (conv=>cbv)))|refine CallG.old ?_
    all_goals (first|(refine norm _ _ _ ⟨hi1,by omega,hnrm (hE2 (by omega))⟩ (Wk.ca))|(refine norm _ _ _ ⟨hi1,by omega,hnrm (hE3 (by omega))⟩ (Wk.ca)))
   ·obtain rfl:n=kk:=by omega
    have hyy:=hyes (List.all_eq_true.2 fun x hx=>by
     obtain⟨j,hj⟩:=List.getElem?_of_mem hx;exact hall j x (by have:=Qaa hj;omega) hj) m' [] hT3
    clear hno hyes hpl hsr hrat norm
    conv=>cbv
    repeat' first|(refine ex 0 _ _ ?_;(conv=>cbv))|exact hyy|exact gu|exact trivial|refine And.intro ?_ ?_|(intro hc;first|exact absurd hc (by decide)|(exfalso;omega)|((first|rw[wS (by omega) (by omega)]at hc|rw[Qab]at hc|skip);try (conv=>cbv)))|refine CallG.old ?_
  |none=>
   rw[hd]at hsr;simp only[Qpo,hd,if_true]at fin;clear hU hE;generalize (from_,p.stack)=st at*;obtain⟨id,src,dst,flow,st0,hops⟩:=p;simp only[QaQ,Qbf,Qbt,QaA,Qag,Qah]at hsr ⊢;generalize hxl:List.map Qaj xs=xl at*;generalize hol:t.ov.map Qbh=ol at*;generalize hll:t.links.map QaB=ll at*;generalize htn:t.nodes=nodes at*;generalize List.map Qaf st0=sl at*
   conv=>cbv
   repeat' first|(left;intro(_:Unit);(conv=>cbv))|(refine Qar [0] hsr rfl rfl (by decide) (by repeat' first|exact trivial|refine And.intro ?_ ?_|rfl) rfl rfl ?_;rintro r hc' ⟨m',tl,rfl,rfl,d3,f3⟩;have hfin:=fun tl=>fin m' tl ((f3.same _ htab).trans hT);(conv=>cbv))|exact hfin _|exact gu|exact trivial|refine And.intro ?_ ?_|(intro hc;first|exact absurd hc (by decide)|(exfalso;omega)|((first|rw[wS (by omega) (by omega)]at hc|rw[Qab]at hc|skip);try (conv=>cbv)))|refine CallG.old ?_
 ·simp only[QiG,if_neg h0]at hsr;simp only[Qpo,if_neg h0]at fin;have fin:=fun tl=>fin m tl hT
  generalize Qal t xs from_=e at*;clear hU;obtain⟨id,src,dst,flow,st0,hops⟩:=p;simp only[QaQ,Qbf,Qbt,QaA,Qag,Qah]at hsr ⊢;generalize hxl:List.map Qaj xs=xl at*;generalize hol:t.ov.map Qbh=ol at*;generalize hll:t.links.map QaB=ll at*;generalize htn:t.nodes=nodes at*;generalize List.map Qaf st0=sl at*
  conv=>cbv
  repeat' first|(left;intro(_:Unit);(conv=>cbv))|(refine Qar [0] hsr rfl rfl (by decide) (by repeat' first|exact trivial|refine And.intro ?_ ?_|rfl) rfl rfl ?_;rintro r hc' ⟨m',tl,rfl,rfl,rfl⟩;(conv=>cbv))|exact fin _|exact gu|exact trivial|refine And.intro ?_ ?_|(intro hc;first|exact absurd hc (by decide)|(exfalso;omega)|((first|rw[wS (by omega) (by omega)]at hc|rw[Qab]at hc|skip);try (conv=>cbv)))|refine CallG.old ?_
theorem Expl.mem{σ:Type}{nx:σ->List σ}{s:σ}{S S':List σ}(h:Expl nx s S)(h':Expl nx s S')(x:σ):x∈S↔x∈S':=
 ⟨fun hx=>h.mn (·∈S') h'.st h'.cl x hx,fun hx=>h'.mn (·∈S) h.st h.cl x hx⟩
theorem Qz5{g:Wlk}{s0:WSt}{K:Kn WSt}{S:List WSt}{l:List StR}(hG:GrF g s0 K S l){k:Nat}{x:WSt}(hx:S[k]? =some x):∃d0 d1 d2 d3 d4 d5 d6 d10 d11,(l.map (QhG g S))[k]? =some [d0,d1,d2,d3,d4,d5,d6,Qax (g.ar x),.list false 1 (QgT S (g.nx x)),iD (g.rs x),d10,d11]:=by
 have hk:=hG.ks;obtain⟨u,hu,hux⟩:∃u,l[k]? =some u/\u.key=x:=by
  rw[←hk,gtm,omi]at hx;exact hx
 obtain⟨e1,e2,-,-⟩:=hG.st u (mgE hu);refine⟨_,_,_,_,_,_,_,_,_,by rw[gtm,hu,Option.map_some,QhG,e1,e2,hux]⟩
theorem Qyu(P:Program)(hP:P=Tryz.prog)(t:Top)(xs:List Tab)(p:Pkt)(from_:Int)(g:Wlk)(U:List WSt)(hU:Qal t xs from_=0->GOK P t xs p g U/\Expl g.nx (from_,p.stack) U):
  Ret P Qfk [QaQ t,Qbf xs,Qbt p,iA from_] (.tup [bA (Qpo g U (from_,p.stack) (Qal t xs from_)).1,iA (Qpo g U (from_,p.stack) (Qal t xs from_)).2]):=by
 have hck:=QoN P hP t xs p from_ g U hU;refine Qai (hP▸mixed) (hP▸QiZ) (hP▸QjB) (nle rfl) fun Λ Λo K hK=> ?_
 clear hP;by_cases h0:Qal t xs from_=0
 ·obtain⟨hGK,hE⟩:=hU h0;have hUl:=hGK.len;rw[h0]at hck hK;simp only[Qxq,Qpg,if_true]at hck;cases hd:dfs g.nx U.length [] (from_,p.stack)with
  |none=>
   rw[hd]at hck;simp only[Qpo,hd,if_true]at hK;simp only at hck;clear hU hE;generalize (from_,p.stack)=st at*;obtain⟨id,src,dst,flow,st0,hops⟩:=p;simp only[QaQ,Qbf,Qbt,QaA,Qag,Qah]at hck ⊢;generalize hxl:List.map Qaj xs=xl at*;generalize hol:t.ov.map Qbh=ol at*;generalize hll:t.links.map QaB=ll at*;generalize htn:t.nodes=nodes at*;generalize List.map Qaf st0=sl at*
   conv=>cbv
   repeat' first|(refine Qar [] hck rfl rfl (by decide) trivial rfl rfl ?_;rintro r hc' ⟨_,rfl⟩;(conv=>cbv))|exact hK|exact gu|exact trivial|refine And.intro ?_ ?_|(intro hc;first|exact absurd hc (by decide)|(exfalso;omega)|((first|rw[wS (by omega) (by omega)]at hc|rw[Qab]at hc|skip);try (conv=>cbv)))|refine CallG.old ?_
  |some KK=>
   rw[hd]at hck;simp only at hck;simp only[Qpo,hd,if_true]at hK;have hall:∀{S:List WSt} {l:List StR},GrF g (from_,p.stack) KK S l->S.all (QgJ g)=U.all (QgJ g)/\S.length<=1000:=fun hG=>⟨QqA fun x=>hG.ex.mem hE x,by rw[hG.ex.len hE];exact hUl⟩
   have hat:=fun{S:List WSt} {l:List StR} (hG:GrF g (from_,p.stack) KK S l)=> @Qz5 g _ KK S l hG
   have hgl:∀{S:List WSt} {l:List StR},GrF g (from_,p.stack) KK S l->(l.map (QhG g S)).length=S.length:=fun hG=>by rw[List.length_map,←hG.ks,List.length_map]
   have hno:U.all (QgJ g)=false->K (.tup [bA false,iA 0]):=fun h=>by rw[h]at hK;exact hK
   have hyes:U.all (QgJ g)=true->K (.tup [bA true,iA 0]):=fun h=>by rw[h]at hK;exact hK
   clear hK hU hE hGK;generalize (from_,p.stack)=st at*;obtain⟨id,src,dst,flow,st0,hops⟩:=p;simp only[QaQ,Qbf,Qbt,QaA,Qag,Qah]at hck ⊢;generalize hxl:List.map Qaj xs=xl at*;generalize hol:t.ov.map Qbh=ol at*;generalize hll:t.links.map QaB=ll at*;generalize htn:t.nodes=nodes at*;generalize List.map Qaf st0=sl at*
   conv=>cbv
   repeat' first|exact gu|exact trivial|refine And.intro ?_ ?_|(intro hc;first|exact absurd hc (by decide)|(exfalso;omega)|((first|rw[wS (by omega) (by omega)]at hc|rw[Qab]at hc|skip);try (conv=>cbv)))|refine CallG.old ?_
   refine Qar [] hck rfl rfl (by decide) trivial rfl rfl ?_;rintro r hc' ⟨_,S,l,rfl,hG⟩;obtain⟨ha1,hSl⟩:=hall hG;have hgrl:=hgl hG;have hat:=fun{k:Nat} {x:WSt} (h:S[k]? =some x)=>hat hG h
   have hgΛ:=Λo (l.map (QhG g S));rw[hgrl]at hgΛ;have hidx:∀x,Λ (QgT S (g.nx x))=(g.ar x).length:=fun x=>by rw[Λo,QgT,List.length_map,Wlk.nx,nxt,List.length_map]
   clear hck hall hgl;simp only[grD,Qag,Qah,hxl,hol,hll,htn,Qax]at hat ⊢;generalize l.map (QhG g S)=grl at*
   conv=>cbv
   repeat' first|exact gu|exact trivial|refine And.intro ?_ ?_|(intro hc;first|exact absurd hc (by decide)|(exfalso;omega)|((first|rw[wS (by omega) (by omega)]at hc|rw[Qab]at hc|skip);try (conv=>cbv)))|refine CallG.old ?_
   refine QaR S.length (fun(i:Int)=>[(10,.c (.rp [iD nodes,.list false 1 ol,.list false 7 ll,.list false 3 xl,.list false 12 grl])),(12,iA i)]) (fun _=>[]) (fun k i=>i=k/\k<=S.length/\∀(j:Nat) (x:WSt),j<k->S[j]? =some x->QgJ g x=true) 0
    (Wk.cw) ⟨rfl,by omega,fun j x h=>by omega⟩ (fun k s h=>h.2.1) ?_
   rintro kk i Q' ⟨hi,hk,hal⟩ norm ex rt;by_cases hlt:kk<S.length
   ·obtain⟨x,hx⟩:∃x,S[kk]? =some x:=⟨_,lgE (by omega)⟩;obtain⟨d0,d1,d2,d3,d4,d5,d6,d10,d11,hxa⟩:=hat hx;have hit:i.toNat=kk:=by omega
    rw[←hit]at hxa;have hix:=hidx x;have hE1:(g.ar x).length=0->g.rs x≠ -1->QgJ g x=false:=fun h1 h2=>by simp[QgJ,h1,h2]
    have hE2:¬(g.ar x).length=0->QgJ g x=true:=fun h1=>by simp[QgJ,h1]
    have hE3:g.rs x= -1->QgJ g x=true:=fun h1=>by simp[QgJ,h1]
    have hno':QgJ g x=false->K (.tup [bA false,iA 0]):=fun h=>hno (by
     rw[←ha1,Bool.eq_false_iff];intro h2;rw[List.all_eq_true.1 h2 x (mgE hx)]at h;cases h)
    have hnrm:QgJ g x=true->∀j y,j<kk+1->S[j]? =some y->QgJ g y=true:=fun h j y hj hy=>by
     rcases Nat.lt_or_ge j kk with h2|h2
     ·exact hal j y h2 hy
     ·obtain rfl:j=kk:=by omega
      rw[hx]at hy;cases hy;exact h
    clear hno hyes hat hidx;generalize QgT S (g.nx x)=nxl at*;generalize (g.ar x).map QaE=arl at*;generalize g.rs x=rs at*;obtain⟨i1,hi1⟩:∃z:Int,z=((kk+1:Nat):Int):=⟨_,rfl⟩
    conv=>cbv
    repeat' first|(intro(e:List D) he;cases osj (he.symm.trans hxa);(conv=>cbv))|(refine rt _ _ ?_;(conv=>cbv))|(intro(k:Int) hk;rw[wS (by omega) (by omega)]at hk;refine(fun(hz:i1=k)=> ?_) ?_;rotate_left;omega;subst hz;(conv=>cbv))|exact hno' (hE1 (by omega) (by omega))|exact gu|exact trivial|refine And.intro ?_ ?_|(intro hc;first|exact absurd hc (by decide)|(exfalso;omega)|((first|rw[wS (by omega) (by omega)]at hc|rw[Qab]at hc|skip);try (conv=>cbv)))|refine CallG.old ?_
    all_goals (first|(refine norm _ _ _ ⟨hi1,by omega,hnrm (hE2 (by omega))⟩ (Wk.cw))|(refine norm _ _ _ ⟨hi1,by omega,hnrm (hE3 (by omega))⟩ (Wk.cw)))
   ·have hyy:=hyes (by
     rw[←ha1];exact List.all_eq_true.2 fun x hx=>by
      obtain⟨j,hj⟩:=List.getElem?_of_mem hx;exact hal j x (by have:=Qaa hj;omega) hj)
    clear hno hyes hat hidx norm
    conv=>cbv
    repeat' first|(refine ex 0 _ _ ?_;(conv=>cbv))|exact hyy|exact gu|exact trivial|refine And.intro ?_ ?_|(intro hc;first|exact absurd hc (by decide)|(exfalso;omega)|((first|rw[wS (by omega) (by omega)]at hc|rw[Qab]at hc|skip);try (conv=>cbv)))|refine CallG.old ?_
 ·simp only[Qxq,Qpg,if_neg h0]at hck;simp only[Qpo,if_neg h0]at hK;generalize Qal t xs from_=e at*;clear hU;obtain⟨id,src,dst,flow,st0,hops⟩:=p;simp only[QaQ,Qbf,Qbt,QaA,Qag,Qah]at hck ⊢;generalize hxl:List.map Qaj xs=xl at*;generalize hol:t.ov.map Qbh=ol at*;generalize hll:t.links.map QaB=ll at*;generalize htn:t.nodes=nodes at*;generalize List.map Qaf st0=sl at*
  conv=>cbv
  repeat' first|(refine Qar [] hck rfl rfl (by decide) trivial rfl rfl ?_;rintro r hc' ⟨_,rfl⟩;(conv=>cbv))|exact hK|exact gu|exact trivial|refine And.intro ?_ ?_|(intro hc;first|exact absurd hc (by decide)|(exfalso;omega)|((first|rw[wS (by omega) (by omega)]at hc|rw[Qab]at hc|skip);try (conv=>cbv)))|refine CallG.old ?_
def QsJ(g:Wlk)(U:List WSt)(n:Nat):List Int:=((List.range n).map fun(a:Nat)=>(a:Int)).filter fun a=>U.any fun x=>decide (a∈g.ar x)
def Qpd(t:Top)(g:Wlk)(U:List WSt)(s:WSt)(e:Int):List Int×Int:=
 if e=0 then (match dfs g.nx U.length [] s with
  |none=>([],16)
  |some _=>(QsJ g U (Qbn t).toNat,0))else ([],e)
theorem Qu4{α:Type}{l l':List α}{f:α->Bool}(h:∀x,x∈l↔x∈l'):l.any f=l'.any f:=by
 rw[Bool.eq_iff_iff,List.any_eq_true,List.any_eq_true];exact⟨fun⟨x,hx,hf⟩=>⟨x,(h x).1 hx,hf⟩,fun⟨x,hx,hf⟩=>⟨x,(h x).2 hx,hf⟩⟩
theorem QvW(g:Wlk)(U:List WSt)(n:Nat):QsJ g U (n+1)=if (U.any fun x=>decide ((n:Int)∈g.ar x))=true then QsJ g U n++[(n:Int)]else QsJ g U n:=by
 rw[QsJ,List.range_succ,List.map_append,List.filter_append];split
 ·rename_i h;simp[QsJ,h]
 ·rename_i h;simp[QsJ,h]
theorem QyH(P:Program)(hP:P=Tryz.prog)(t:Top)(xs:List Tab)(p:Pkt)(from_:Int)(g:Wlk)(U:List WSt)(hU:Qal t xs from_=0->GOK P t xs p g U/\Expl g.nx (from_,p.stack) U):
  Ret P Qg2 [QaQ t,Qbf xs,Qbt p,iA from_] (.tup [QaK (Qpd t g U (from_,p.stack) (Qal t xs from_)).1,iA (Qpd t g U (from_,p.stack) (Qal t xs from_)).2]):=by
 have hck:=QoN P hP t xs p from_ g U hU;have hac:=Qhw P hP t;have hha:=fun l n=>Qw3 P hP l n
 refine Qai (hP▸mixed) (hP▸Qk8) (hP▸Qmp) (nle rfl) fun Λ Λo K hK=> ?_
 clear hP;by_cases h0:Qal t xs from_=0
 ·obtain⟨hGK,hE⟩:=hU h0;have hUl:=hGK.len;rw[h0]at hck hK;simp only[Qxq,Qpg,if_true]at hck;cases hd:dfs g.nx U.length [] (from_,p.stack)with
  |none=>
   rw[hd]at hck;simp only[Qpd,hd,if_true]at hK;simp only at hck;clear hU hE hac hha;generalize (from_,p.stack)=st at*;obtain⟨id,src,dst,flow,st0,hops⟩:=p;simp only[QaQ,Qbf,Qbt,QaA,Qag,Qah]at hck ⊢;generalize hxl:List.map Qaj xs=xl at*;generalize hol:t.ov.map Qbh=ol at*;generalize hll:t.links.map QaB=ll at*;generalize htn:t.nodes=nodes at*;generalize List.map Qaf st0=sl at*
   conv=>cbv
   repeat' first|(refine Qar [] hck rfl rfl (by decide) trivial rfl rfl ?_;rintro r hc' ⟨_,rfl⟩;(conv=>cbv))|exact hK|exact gu|exact trivial|refine And.intro ?_ ?_|(intro hc;first|exact absurd hc (by decide)|(exfalso;omega)|((first|rw[wS (by omega) (by omega)]at hc|rw[Qab]at hc|skip);try (conv=>cbv)))|refine CallG.old ?_
  |some KK=>
   rw[hd]at hck;simp only at hck;simp only[Qpd,hd,if_true]at hK;have hall:∀{S:List WSt} {l:List StR},GrF g (from_,p.stack) KK S l->(∀a:Int,(S.any fun x=>decide (a∈g.ar x))=U.any fun x=>decide (a∈g.ar x))/\S.length<=1000:=fun hG=>⟨fun a=>Qu4 fun x=>hG.ex.mem hE x,by rw[hG.ex.len hE];exact hUl⟩
   have hat:=fun{S:List WSt} {l:List StR} (hG:GrF g (from_,p.stack) KK S l)=> @Qz5 g _ KK S l hG
   have hgl:∀{S:List WSt} {l:List StR},GrF g (from_,p.stack) KK S l->(l.map (QhG g S)).length=S.length:=fun hG=>by rw[List.length_map,←hG.ks,List.length_map]
   have hsc:=QvW g U;have hl0:QsJ g U 0=[]:=rfl;have hll':∀n,(QsJ g U n).length<=n:=fun n=>by
    have:=List.length_filter_le (fun a=>U.any fun x=>decide (a∈g.ar x)) ((List.range n).map fun(a:Nat)=>(a:Int));rw[List.length_map,List.length_range]at this;exact this
   obtain⟨hA1,hA2,hA3⟩:=QdF t;have hck:FnS P QeF [QaQ t,Qbf xs,Qbt p,iA from_] [] fun r h'=>(∃S l,r= .tup [.c (.rp (grD t xs g S l)),iA 0]/\GrF g (from_,p.stack) KK S l)/\h'=[]:=by
    refine(hck.cut2 ?_).mono ?_
    ·rintro r h' ⟨_,S,l,rfl,_⟩;exact⟨_,_,rfl,rfl,rfl,rfl⟩
    ·rintro r h1 ⟨h2,⟨_,S,l,rfl,hG⟩,hl⟩;exact⟨⟨S,l,rfl,hG⟩,List.eq_nil_of_length_eq_zero hl⟩
   clear hU hE hGK;generalize hAn:Qbn t=A at*;generalize (from_,p.stack)=st at*;generalize QsJ g U=lk at*;obtain⟨id,src,dst,flow,st0,hops⟩:=p;simp only[QaQ,Qbf,Qbt,QaA,Qag,Qah]at hck hac ⊢;generalize hxl:List.map Qaj xs=xl at*;generalize hol:t.ov.map Qbh=ol at*;generalize hll:t.links.map QaB=ll at*;generalize htn:t.nodes=nodes at*;generalize List.map Qaf st0=sl at*
   conv=>cbv
   repeat' first|exact gu|exact trivial|refine And.intro ?_ ?_|(intro hc;first|exact absurd hc (by decide)|(exfalso;omega)|((first|rw[wS (by omega) (by omega)]at hc|rw[Qab]at hc|skip);try (conv=>cbv)))|refine CallG.old ?_
   refine Qar [] hck rfl rfl (by decide) trivial rfl rfl ?_;rintro r hc' ⟨⟨S,l,rfl,hG⟩,rfl⟩;obtain⟨ha1,hSl⟩:=hall hG;have hgrl:=hgl hG;have hat:=fun{k:Nat} {x:WSt} (h:S[k]? =some x)=>hat hG h
   have hgΛ:=Λo (l.map (QhG g S));rw[hgrl]at hgΛ;clear hck hall hgl hG;simp only[grD,Qag,Qah,hxl,hol,hll,htn,Qax]at hat ⊢;generalize l.map (QhG g S)=grl at*
   conv=>cbv
   repeat' first|exact gu|exact trivial|refine And.intro ?_ ?_|(intro hc;first|exact absurd hc (by decide)|(exfalso;omega)|((first|rw[wS (by omega) (by omega)]at hc|rw[Qab]at hc|skip);try (conv=>cbv)))|refine CallG.old ?_
   refine Qbz A.toNat (fun(s:Int×Nat×Nat×Bool×List (List D))=>[(4,.c (.ptr 0 0 0 0)),(10,.c (.rp [iD nodes,.list false 1 ol,.list false 7 ll,.list false 3 xl,.list false 12 grl])),(12,.c (.arr 2 s.2.1 0 s.2.2.1)),(13,iA s.1)])
    (fun s=>[.bx [.d (iD nodes),.d (.list false 1 ol),.d (.list false 7 ll)],.bx [.d (iD id),.d (iD src),.d (iD dst),.d (iD flow),.d (.list false 2 sl),.d (iD hops)],.da s.2.2.2.1 s.2.1 1 s.2.2.2.2])
    (fun k s=>s.1=k/\k<=A.toNat/\s.2.2.1=s.2.2.2.2.length/\s.2.2.2.2=(lk k).map QaE) (0,0,0,false,[])
    0 (fun(s:Nat×Bool×Nat)=>[(12,.c (.arr 2 s.1 0 s.2.2))])
    (fun s=>[.bx [.d (iD nodes),.d (.list false 1 ol),.d (.list false 7 ll)],.bx [.d (iD id),.d (iD src),.d (iD dst),.d (iD flow),.d (.list false 2 sl),.d (iD hops)],.da s.2.1 s.1 1 ((lk A.toNat).map QaE)]) (fun s=>s.2.2=((lk A.toNat).map QaE).length)
    (.trans (.nilS 12 1 rfl) (Wk.cw)) ⟨rfl,by omega,rfl,by rw[hl0];rfl⟩ (fun k s h=>h.2.1) ?_ ?_
   ·rintro kk ⟨d,ve,m,rb,es⟩ Q' ⟨hi,hk,hm,hes⟩ norm jn ex rt;simp only at hi hm hes;by_cases hlt:kk<A.toNat
    ·have hsk:=hsc kk;have hml:m<=512:=by
      have:=hll' kk;rw[hm,hes,List.length_map];omega
     conv=>cbv
     repeat' first|(refine Qao hac rfl rfl ?_;conv=>cbv)|exact gu|exact trivial|refine And.intro ?_ ?_|(intro hc;first|exact absurd hc (by decide)|(exfalso;omega)|((first|rw[wS (by omega) (by omega)]at hc|rw[Qab]at hc|skip);try (conv=>cbv)))|refine CallG.old ?_
     refine Qbz S.length (fun(q:Int×Bool)=>[(4,.c (.ptr 0 0 0 0)),(10,.c (.rp [iD nodes,.list false 1 ol,.list false 7 ll,.list false 3 xl,.list false 12 grl])),(12,.c (.arr 2 ve 0 m)),(13,iA d),(14,.c (.d (.bool q.2))),(15,iA q.1)]) (fun _=>[.bx [.d (iD nodes),.d (.list false 1 ol),.d (.list false 7 ll)],.bx [.d (iD id),.d (iD src),.d (iD dst),.d (iD flow),.d (.list false 2 sl),.d (iD hops)],.da rb ve 1 es]) (fun kj q=>q.1=kj/\kj<=S.length/\q.2=(S.take kj).any fun x=>decide ((kk:Int)∈g.ar x)) (0,false)
      2 (fun(b:Bool)=>[(4,.c (.ptr 0 0 0 0)),(10,.c (.rp [iD nodes,.list false 1 ol,.list false 7 ll,.list false 3 xl,.list false 12 grl])),(12,.c (.arr 2 ve 0 m)),(13,iA d),(14,.c (.d (.bool b)))]) (fun _=>[.bx [.d (iD nodes),.d (.list false 1 ol),.d (.list false 7 ll)],.bx [.d (iD id),.d (iD src),.d (iD dst),.d (iD flow),.d (.list false 2 sl),.d (iD hops)],.da rb ve 1 es]) (fun b=>b=U.any fun x=>decide ((kk:Int)∈g.ar x)) (Wk.cw) ⟨rfl,by omega,rfl⟩ (fun k s h=>h.2.1) ?_ ?_
     ·rintro kj ⟨j,b⟩ Q2 ⟨hj,hkj,hb⟩ norm2 jn2 ex2 rt2;simp only at hj hb;clear norm jn ex rt;by_cases hlj:kj<S.length
      ·obtain⟨x,hx⟩:∃x,S[kj]? =some x:=⟨_,lgE (by omega)⟩;obtain⟨d0,d1,d2,d3,d4,d5,d6,d10,d11,hxa⟩:=hat hx;have hit:j.toNat=kj:=by omega
       rw[←hit]at hxa;have hcx:Ret P QgA [.c (.d (.list false 1 ((g.ar x).map QaE))),iA d] (bA (decide (d∈g.ar x))):=hha (g.ar x) d;have hb2:((S.take (kj+1)).any fun x=>decide ((kk:Int)∈g.ar x))=(b||decide (d∈g.ar x)):=by rw[Qan hx,List.any_append,hb,hi];simp
       clear hha hat hsk hsc hl0 hK jn2 ha1;generalize decide (d∈g.ar x)=dx at*;generalize (g.ar x).map QaE=arl at*;generalize QgT S (g.nx x)=nxl at*;obtain⟨j1,hj1⟩:∃z:Int,z=((kj+1:Nat):Int):=⟨_,rfl⟩;cases b with
       |true=>
        conv=>cbv
        repeat' first|(intro(e:List D) he;cases osj (he.symm.trans hxa);(conv=>cbv))|(intro(k:Int) hk;rw[wS (by omega) (by omega)]at hk;refine(fun(hz:j1=k)=> ?_) ?_;rotate_left;omega;subst hz;(conv=>cbv))|exact gu|exact trivial|refine And.intro ?_ ?_|(intro hc;first|exact absurd hc (by decide)|(exfalso;omega)|((first|rw[wS (by omega) (by omega)]at hc|rw[Qab]at hc|skip);try (conv=>cbv)))|refine CallG.old ?_
        all_goals (refine norm2 _ _ (_,_) ⟨hj1,by omega,by simp only;rw[hb2]⟩ (Wk.cw))
       |false=>
        conv=>cbv
        repeat' first|(intro(e:List D) he;cases osj (he.symm.trans hxa);(conv=>cbv))|(refine Qao hcx rfl rfl ?_;conv=>cbv)|(intro(k:Int) hk;rw[wS (by omega) (by omega)]at hk;refine(fun(hz:j1=k)=> ?_) ?_;rotate_left;omega;subst hz;(conv=>cbv))|exact gu|exact trivial|refine And.intro ?_ ?_|(intro hc;first|exact absurd hc (by decide)|(exfalso;omega)|((first|rw[wS (by omega) (by omega)]at hc|rw[Qab]at hc|skip);try (conv=>cbv)))|refine CallG.old ?_
        all_goals (refine norm2 _ _ (_,_) ⟨hj1,by omega,by simp only;rw[hb2]⟩ (Wk.cw))
      ·obtain rfl:kj=S.length:=by omega
       rw[List.take_of_length_le (Nat.le_refl _),ha1]at hb;clear hha hat hsk hsc hl0 hK norm2 ha1
       conv=>cbv
       repeat' first|exact gu|exact trivial|refine And.intro ?_ ?_|(intro hc;first|exact absurd hc (by decide)|(exfalso;omega)|((first|rw[wS (by omega) (by omega)]at hc|rw[Qab]at hc|skip);try (conv=>cbv)))|refine CallG.old ?_
       refine jn2 _ _ b hb (Wk.cw)
     ·rintro b hb;rw[←hb]at hsk;obtain⟨i1,hi1⟩:∃z:Int,z=((kk+1:Nat):Int):=⟨_,rfl⟩;clear hha hat hsc hl0 hK jn ha1;cases b with
      |true=>
       rw[if_pos rfl]at hsk;have hnew:(lk (kk+1)).map QaE=es++[QaE d]:=by rw[hsk,List.map_append,hes,hi];rfl
       obtain⟨ye,hye⟩:∃z,z=es++[QaE d]:=⟨_,rfl⟩;obtain⟨m1,hm1⟩:∃z,z=m+1:=⟨_,rfl⟩
       conv=>cbv
       repeat' first|(intro(m:Nat) (r:Bool) (y:List (List D)) hm hr hy;refine(fun(hz:m1=m) (hz2:ye=y)=> ?_) (by first|omega|(simp only[List.length_cons,List.length_nil]at hm;omega)) (by first|(rw[hy,List.drop_zero,List.take_of_length_le (by omega)];exact hye)|(rw[hy];exact hye));subst hz;subst hz2;(conv=>cbv))|(intro(k:Int) hk;rw[wS (by omega) (by omega)]at hk;refine(fun(hz:i1=k)=> ?_) ?_;rotate_left;omega;subst hz;(conv=>cbv))|exact gu|exact trivial|refine And.intro ?_ ?_|(intro hc;first|exact absurd hc (by decide)|(exfalso;omega)|((first|rw[wS (by omega) (by omega)]at hc|rw[Qab]at hc|skip);try (conv=>cbv)))|refine CallG.old ?_
       refine norm _ _ (_,_,_,_,_) ?_ (Wk.cw);exact⟨hi1,by omega,by simp only;rw[hye,List.length_append];simp;omega,by simp only;rw[hye,hnew]⟩
      |false=>
       rw[if_neg (by simp)]at hsk
       conv=>cbv
       repeat' first|(intro(k:Int) hk;rw[wS (by omega) (by omega)]at hk;refine(fun(hz:i1=k)=> ?_) ?_;rotate_left;omega;subst hz;(conv=>cbv))|exact gu|exact trivial|refine And.intro ?_ ?_|(intro hc;first|exact absurd hc (by decide)|(exfalso;omega)|((first|rw[wS (by omega) (by omega)]at hc|rw[Qab]at hc|skip);try (conv=>cbv)))|refine CallG.old ?_
       refine norm _ _ (_,_,_,_,_) ?_ (Wk.cw);exact⟨hi1,by omega,hm,by simp only;rw[hes,hsk]⟩
    ·obtain rfl:kk=A.toNat:=by omega
     clear norm;subst hes;generalize (lk A.toNat).map QaE=rl2 at*
     conv=>cbv
     repeat' first|(refine Qao hac rfl rfl ?_;conv=>cbv)|exact gu|exact trivial|refine And.intro ?_ ?_|(intro hc;first|exact absurd hc (by decide)|(exfalso;omega)|((first|rw[wS (by omega) (by omega)]at hc|rw[Qab]at hc|skip);try (conv=>cbv)))|refine CallG.old ?_
     refine jn _ _ (_,_,_) ?_ (Wk.cw);exact hm
   ·rintro⟨ve,rb,m⟩ hm;simp only at hm;have hKK:K (.tup [.c (.d (.list false 1 ((lk A.toNat).map QaE))),iA 0]):=hK;clear hat hsc hK;generalize (lk A.toNat).map QaE=rl2 at*
    conv=>cbv
    repeat' first|exact gu|exact trivial|refine And.intro ?_ ?_|(intro hc;first|exact absurd hc (by decide)|(exfalso;omega)|((first|rw[wS (by omega) (by omega)]at hc|rw[Qab]at hc|skip);try (conv=>cbv)))|refine CallG.old ?_
    all_goals (refine(fun(hz:_=rl2)=> ?_) (hc.trans (by rw[List.drop_zero,List.take_of_length_le (by omega)]));rw[hz];exact hKK)
 ·simp only[Qxq,Qpg,if_neg h0]at hck;simp only[Qpd,if_neg h0]at hK;generalize Qal t xs from_=e at*;clear hU hac hha;obtain⟨id,src,dst,flow,st0,hops⟩:=p;simp only[QaQ,Qbf,Qbt,QaA,Qag,Qah]at hck ⊢;generalize hxl:List.map Qaj xs=xl at*;generalize hol:t.ov.map Qbh=ol at*;generalize hll:t.links.map QaB=ll at*;generalize htn:t.nodes=nodes at*;generalize List.map Qaf st0=sl at*
  conv=>cbv
  repeat' first|(refine Qar [] hck rfl rfl (by decide) trivial rfl rfl ?_;rintro r hc' ⟨_,rfl⟩;(conv=>cbv))|exact hK|exact gu|exact trivial|refine And.intro ?_ ?_|(intro hc;first|exact absurd hc (by decide)|(exfalso;omega)|((first|rw[wS (by omega) (by omega)]at hc|rw[Qab]at hc|skip);try (conv=>cbv)))|refine CallG.old ?_
theorem Qrn:∀{a b:List Int},a.Pairwise (·<·)->b.Pairwise (·<·)->(∀x,x∈a↔x∈b)->a=b
 |[],[],_,_,_=>rfl
 |[],y::b,_,_,h=>absurd ((h y).2 (by simp)) (by simp)
 |x::a,[],_,_,h=>absurd ((h x).1 (by simp)) (by simp)
 |x::a,y::b,ha,hb,h=>by
  have ha:=List.pairwise_cons.1 ha;have hb:=List.pairwise_cons.1 hb;have e:x=y:=by
   rcases List.mem_cons.1 ((h x).1 (by simp))with e|e
   ·exact e
   ·rcases List.mem_cons.1 ((h y).2 (by simp))with e2|e2
    ·exact e2.symm
    ·have:=hb.1 x e;have:=ha.1 y e2;omega
  subst e;rw[Qrn ha.2 hb.2 fun z=>⟨fun hz=> ?_,fun hz=> ?_⟩]
  ·rcases List.mem_cons.1 ((h z).1 (List.mem_cons_of_mem _ hz))with e|e
   ·have:=ha.1 z hz;omega
   ·exact e
  ·rcases List.mem_cons.1 ((h z).2 (List.mem_cons_of_mem _ hz))with e|e
   ·have:=hb.1 z hz;omega
   ·exact e
def QbB:List Int->List Int
 |[]=>[]
 |[x]=>[x]
 |x::y::l=>if x=y then QbB (y::l)else x::QbB (y::l)
theorem Qkf:∀(l:List Int) (z:Int),z∈QbB l↔z∈l
 |[],z=>by simp[QbB]
 |[x],z=>by simp[QbB]
 |x::y::l,z=>by
  rw[QbB];have ih:=Qkf (y::l) z;split
  ·rename_i e;rw[ih,e];simp
  ·rw[List.mem_cons,ih,List.mem_cons (a:=z) (b:=x)]
theorem QhX:∀(l:List Int),l.Pairwise (·<=·)->(QbB l).Pairwise (·<·)
 |[],_=>by simp[QbB]
 |[x],_=>by simp[QbB]
 |x::y::l,h=>by
  have h1:=List.pairwise_cons.1 h;have h2:=List.pairwise_cons.1 h1.2;rw[QbB];split
  ·exact QhX _ h1.2
  ·rename_i hne;refine List.pairwise_cons.2 ⟨fun z hz=> ?_,QhX _ h1.2⟩;have hxy:=h1.1 y (by simp);rcases List.mem_cons.1 ((Qkf _ z).1 hz)with e|e
   ·omega
   ·have:=h2.1 z e;omega
end Go.Ab
