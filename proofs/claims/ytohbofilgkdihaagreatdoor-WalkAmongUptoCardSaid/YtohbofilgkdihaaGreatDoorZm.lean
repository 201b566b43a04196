/-
  Merged texts, part m.
-/
import Derived.Test.YtohbofilgkdihaaGreatDoorZl
set_option linter.all false
namespace Go.Ab
open Go.Proofs
abbrev iA (n:Int):AV:= .c (.d (.int .i64 n))
abbrev bA (b:Bool):AV:= .c (.d (.bool b))
def Ret(P:Program)(f:Nat)(args:List AV)(r:AV):Prop:=FnS P f args [] λr' _=>QbL r'=true/\r'=r
theorem Qah{P:Program}{f:Nat}{fn:Func}{af:AF}{args:List AV}{r:AV}(hm:P.follows .mixedOrders=true)(hf:P.funcs[f]? =some fn)(hc:QaA P fn=some af)(hl:args.length<=af.nt)
 (hv:∀(Λ:Len),(∀l,Λ l=(l.length:Int))->∀(K:AV->Prop),K r->vcF P Λ af args K):Ret P f args r:=
 QyK (K:=λr'=>r'=r) hm hf hc hl λΛ h=>hv Λ h _ rfl
theorem Qx2(x:Int):IntKind.i64.wrap x=(x+9223372036854775808)%18446744073709551616-9223372036854775808:=by
 simp only[IntKind.wrap,IntKind.bits,IntKind.signed,Bool.true_and,decide_eq_true_eq,Nat.reduceSub,ge_iff_le];have e1:(2:Int) ^ 64=18446744073709551616:=by decide
 have e2:(2:Int) ^ 63=9223372036854775808:=by decide
 rw[e1,e2];split<;>omega
theorem wS{x:Int}(h: -9223372036854775808<=x)(h':x<9223372036854775808):IntKind.i64.wrap x=x:=by
 rw[Qx2];omega
theorem Qaz{P:Program}{m:Nat}{d:Bool}{L:Lv}{h:Hp}{f:Nat}{xs:List X}{args':List AV}{K:Lv->AV->Hp->Prop}{b:Bool}(hf:Ret P f args' (bA b))(ha:(Qic L xs).map fgA=args')(hp:args'.all QbL=true)
 (k1:b=true->K L (bA true) h)(k2:b=false->K L (bA false) h):CallS P m d L h f xs K:=by
 refine CallS.pure (r:=bA b) (Or.inl ⟨args',.inl ha.symm,hp,hf⟩) ?_;cases b
 ·exact k2 rfl
 ·exact k1 rfl
theorem Qc7{P:Program}{m:Nat}{d:Bool}{L:Lv}{h:Hp}{f:Nat}{xs:List X}{args':List AV}{K:Lv->AV->Hp->Prop}{n:Int}(hf:Ret P f args' (iA n))(ha:(Qic L xs).map fgA=args')(hp:args'.all QbL=true)
 (k:∀c,c=n->K L (iA c) h):CallS P m d L h f xs K:=
 CallS.pure (r:=iA n) (Or.inl ⟨args',.inl ha.symm,hp,hf⟩) (k n rfl)
theorem Qan{P:Program}{m:Nat}{d:Bool}{L:Lv}{h:Hp}{f:Nat}{xs:List X}{args':List AV}{K:Lv->AV->Hp->Prop}{r:AV}(hf:Ret P f args' r)(ha:(Qic L xs).map fgA=args')(hp:args'.all QbL=true)
 (k:K L r h):CallS P m d L h f xs K:=
 CallS.pure (r:=r) (Or.inl ⟨args',.inl ha.symm,hp,hf⟩) k
theorem Qly{P:Program}{m:Nat}{L:Lv}{h:Hp}{f:Nat}{xs:List X}{K:Lv->AV->Hp->Prop}(l v sz k:Nat){r:Bool}{es:List (List D)}(hl:h[l]? =some (.da r v sz es))(hk:k=es.length)(h1:okL l v k L)(h2:okH l v k h)
 (hc:CallS P m false (zL l v sz es L) (zH l v sz es 0 h) f xs K):CallS P m false L h f xs K:=
 .wk (.fz l v sz r es hl (λi=> .inr (by rw[<-Qb5,<-Qb5,QA8];exact QBC hk (QuA h1 i))) (QBE hk h2)) hc
theorem gu{p:Prop}(h:Unit->p:=by
  intro(_:Unit)
  first
   |omega
   |rfl
   |exact⟨rfl,by omega⟩
   |(simp only[Qab];omega)
   |((repeat' first|rfl|omega|refine And.intro ?_ ?_|(simp only[Qab];omega)|(simp only[List.length_cons,List.length_nil];omega)|exact nle rfl);fail_if_success intros)):Unit->p:=h
theorem gxQ{p:Prop}(h:p:=by first|exact trivial|exact gu|(intro hc;exact absurd hc (by decide))|(intro hc;exfalso;omega)):p:=h
theorem Wk.cw{m:Nat}{L:Lv}{h:Hp}{L':Lv}{h':Hp}(heap:∃t,h=h'++t:=by exact⟨_,rfl⟩)(least:m<=h'.length:=by exact Nat.zero_le _)(refs:QcE h'.length h'=true:=by rfl)
 (env:Qpq h'.length L L':=by repeat' first|exact trivial|refine And.intro ?_ ?_|rfl):Wk m L h L' h':= .cut heap least refs env
theorem Wk.ca{m:Nat}{L:Lv}{h:Hp}{L':Lv}{h':Hp}(heap:∃t,h=h'++t:=by exact⟨_,rfl⟩)(least:m<=h'.length:=by exact nle rfl)(refs:QcE h'.length h'=true:=by rfl)
 (env:Qpq h'.length L L':=by repeat' first|exact trivial|refine And.intro ?_ ?_|rfl):Wk m L h L' h':= .cut heap least refs env
theorem Wk.ch{m:Nat}{L:Lv}{h:Hp}{L':Lv}(least:m<=h.length:=by exact nle rfl)(refs:QcE h.length h=true:=by rfl)
 (env:Qpq h.length L L':=by repeat' first|exact trivial|refine And.intro ?_ ?_|rfl):Wk m L h L' h:= .cut ⟨[],(List.append_nil h).symm⟩ least refs env
structure Lk where
 (a b c0 c1 cap dl gr:Int)
structure Top where
 (nodes:Int) (ov:List Bool) (links:List Lk)
structure Seg where
 (kind num:Int)
 deriving DecidableEq
structure Ety where
 (arcs:List Int) (rep:Bool) (push:List Seg)
structure Tab where
 (node:Int) (to:List Ety) (down:List Int)
structure Pkt where
 (id src dst flow:Int) (stack:List Seg) (hops:Int)
instance:Inhabited Lk:=⟨⟨0,0,0,0,0,0,0⟩⟩
instance:Inhabited Seg:=⟨⟨0,0⟩⟩
instance:Inhabited Ety:=⟨⟨[],false,[]⟩⟩
abbrev iD (n:Int):D:= .int .i64 n
def Qbq(b:Bool):List D:=[.bool b]
def QaC(n:Int):List D:=[.int .i64 n]
def QaD(l:Lk):List D:=[iD l.a,iD l.b,iD l.c0,iD l.c1,iD l.cap,iD l.dl,iD l.gr]
def Qaf(s:Seg):List D:=[iD s.kind,iD s.num]
abbrev Qav (l:List Int):D:= .list false 1 (l.map QaC)
abbrev Qag (l:List Bool):D:= .list false 1 (l.map Qbq)
abbrev QaG (l:List Seg):D:= .list false 2 (l.map Qaf)
abbrev Qai (l:List Lk):D:= .list false 7 (l.map QaD)
def Qax(e:Ety):List D:=[Qav e.arcs,.bool e.rep,QaG e.push]
abbrev Qea (l:List Ety):D:= .list false 3 (l.map Qax)
def QaU(t:Top):AV:= .agg [.d (iD t.nodes),.d (Qag t.ov),.d (Qai t.links)]
def Qz9(s:Seg):AV:= .agg [.d (iD s.kind),.d (iD s.num)]
def QyD(e:Ety):AV:= .agg [.d (Qav e.arcs),.d (.bool e.rep),.d (QaG e.push)]
def Qls(x:Tab):AV:= .agg [.d (iD x.node),.d (Qea x.to),.d (Qav x.down)]
def QbK(p:Pkt):AV:= .agg [.d (iD p.id),.d (iD p.src),.d (iD p.dst),.d (iD p.flow),.d (QaG p.stack),.d (iD p.hops)]
abbrev Qay (l:List Int):AV:= .c (.d (Qav l))
abbrev Qco (l:List Seg):AV:= .c (.d (QaG l))
theorem Qus{α β:Type}{f:α->β}{l:List α}{i:Nat}{y:β}(h:(l.map f)[i]? =some y):∃x,l[i]? =some x/\y=f x:=by
 simp only[gtm,omi]at h;obtain⟨x,h1,h2⟩:=h;exact⟨x,h1,h2.symm⟩
theorem Qa1{α β:Type}{f:α->β}{l:List α}{ll:List β}{i:Nat}{y:β}(hl:l.map f=ll)(h:ll[i]? =some y):∃x,l[i]? =some x/\y=f x:=by
 subst hl;exact Qus h
theorem QdE{α:Type}{l:List α}{i j:Nat}{x:α}(h:l[i]? =some x)(e:i=j):l[j]? =some x:=e▸h
theorem QdB{α β:Type}{f:α->β}{l:List α}{ll:List β}(hl:l.map f=ll){k:Nat}{i:Int}(hi:i=k){x:α}(h:l[k]? =some x):ll[i.toNat]? =some (f x):=by
 subst hi hl;simp[h]
theorem Qam{α:Type}{l:List α}{k:Nat}{x:α}(h:l[k]? =some x):l.take (k+1)=l.take k++[x]:=by
 rw[List.take_add_one,h];rfl
theorem QaT{m:Nat}{body:Lv->Hp->Post->Prop}{L:Lv}{h:Hp}{Q:Post}{σ:Type}(N:Nat)(S:σ->Lv)(H:σ->Hp)(Inv:Nat->σ->Prop)(s0:σ)(wk:Wk m L h (S s0) (H s0))(h0:Inv 0 s0)
 (hle:∀k s,Inv k s->k<=N)
 (round:∀k s (Q':Post),Inv k s->(∀L' h' s',Inv (k+1) s'->Wk m L' h' (S s') (H s')->Q' .normal L' h')->(∀i L' h',Q (.exit i) L' h'->Q' (.exit i) L' h')->(∀L' h',Q .ret L' h'->Q' .ret L' h')->body (S s) (H s) Q'):
  LoopI m body L h Q:=by
 refine LoopI.mk (λn L h=>∃k s,Inv k s/\n=N-k/\L=S s/\h=H s) N (S s0) (H s0) wk ⟨0,s0,h0,rfl,rfl,rfl⟩ ?_;rintro n L h ⟨k,s,hi,rfl,rfl,rfl⟩;refine round k s _ hi (λL' h' s' hi' hw=> ?_) (λi L' h' hq=>⟨L',h',.same rfl λ_=> .inr rfl,hq⟩) λL' h' hq=>hq
 have h1:=hle _ _ hi;have h2:=hle _ _ hi';exact⟨N-(k+1),_,_,by omega,hw,k+1,s',hi',rfl,rfl,rfl⟩
theorem QbM{m:Nat}{body:Lv->Hp->Post->Prop}{L:Lv}{h:Hp}{Q:Post}{σ τ:Type}(N:Nat)(S:σ->Lv)(H:σ->Hp)(Inv:Nat->σ->Prop)(s0:σ)(i0:Nat)(S':τ->Lv)(H':τ->Hp)(E:τ->Prop)(wk:Wk m L h (S s0) (H s0))(h0:Inv 0 s0)
 (hle:∀k s,Inv k s->k<=N)
 (round:∀k s (Q':Post),Inv k s->(∀L' h' s',Inv (k+1) s'->Wk m L' h' (S s') (H s')->Q' .normal L' h')->(∀L' h' s',E s'->Wk m L' h' (S' s') (H' s')->Q' (.exit i0) L' h')->(∀i L' h',Q (.exit i) L' h'->Q' (.exit i) L' h')->(∀L' h',Q .ret L' h'->Q' .ret L' h')->body (S s) (H s) Q')
 (rest:∀s,E s->Q (.exit i0) (S' s) (H' s)):
  LoopI m body L h Q:=by
 refine LoopI.mk (λn L h=>∃k s,Inv k s/\n=N-k/\L=S s/\h=H s) N (S s0) (H s0) wk ⟨0,s0,h0,rfl,rfl,rfl⟩ ?_;rintro n L h ⟨k,s,hi,rfl,rfl,rfl⟩;refine round k s _ hi (λL' h' s' hi' hw=> ?_) (λL' h' s' he hw=>⟨_,_,hw,rest s' he⟩) (λi L' h' hq=>⟨L',h',.same rfl λ_=> .inr rfl,hq⟩) λL' h' hq=>hq
 have h1:=hle _ _ hi;have h2:=hle _ _ hi';exact⟨N-(k+1),_,_,by omega,hw,k+1,s',hi',rfl,rfl,rfl⟩
theorem Qvo(P:Program)(hP:P=Tryz.prog)(n lo hi:Int):Ret P Qgn [iA n,iA lo,iA hi] (bA (decide (lo<=n/\n<=hi))):=by
 refine Qah (hP▸mixed) (hP▸Qj8) (hP▸Qla) (nle rfl) λΛ Λo K hK=> ?_
 clear hP
 conv=>cbv
 repeat' first|exact gxQ|refine And.intro ?_ ?_|(intro hc;(first|rw[wS (by omega) (by omega)]at hc|rw[Qab]at hc|skip);try (conv=>cbv))
 all_goals (refine cast (congrArg (λb=>K (bA b)) ?_) hK;simp;omega)
def Qz7(n:Int)(l:Lk):Bool:=
 decide (0<=l.a/\l.a<=n-1)&&decide (0<=l.b/\l.b<=n-1)&& !decide (l.a=l.b)&&decide (1<=l.c0/\l.c0<=65535)&&decide (1<=l.c1/\l.c1<=65535)&&
 decide (0<=l.cap/\l.cap<=1048576)&&decide (1<=l.dl/\l.dl<=65536)&&decide (0<=l.gr/\l.gr<=64)
def Qao(t:Top):Bool:=
 decide (1<=t.nodes/\t.nodes<=64)&&(decide (t.ov.length=0)||decide ((t.ov.length:Int)=t.nodes))&&decide (t.links.length<=256)&&t.links.all (Qz7 t.nodes)
theorem QeA{n:Int}{l:Lk}:Qz7 n l=true↔(0<=l.a/\l.a<=n-1)/\(0<=l.b/\l.b<=n-1)/\l.a≠l.b/\(1<=l.c0/\l.c0<=65535)/\(1<=l.c1/\l.c1<=65535)/\
  (0<=l.cap/\l.cap<=1048576)/\(1<=l.dl/\l.dl<=65536)/\(0<=l.gr/\l.gr<=64):=by
 simp only[Qz7,Bool.and_eq_true,decide_eq_true_eq,Bool.not_eq_true',decide_eq_false_iff_not,and_assoc,ne_eq]
theorem Qap{t:Top}:Qao t=true↔(1<=t.nodes/\t.nodes<=64)/\((t.ov.length:Int)=0\/(t.ov.length:Int)=t.nodes)/\(t.links.length:Int)<=256/\∀l∈t.links,Qz7 t.nodes l=true:=by
 simp only[Qao,Bool.and_eq_true,Bool.or_eq_true,decide_eq_true_eq,List.all_eq_true,and_assoc];constructor
 ·rintro⟨h1,h2,h3,h4,h5⟩;exact⟨h1,h2,by omega,by omega,h5⟩
 ·rintro⟨h1,h2,h3,h4,h5⟩;exact⟨h1,h2,by omega,by omega,h5⟩
theorem Qgd(P:Program)(hP:P=Tryz.prog)(t:Top):Ret P Qg8 [QaU t] (bA (Qao t)):=by
 refine Qah (hP▸mixed) (hP▸Qlj) (hP▸Qmz) (nle rfl) λΛ Λo K hK=> ?_
 have hw:=Qvo P hP;clear hP;obtain⟨nodes,ov,links⟩:=t;simp only[QaU,Qag,Qai]at*;generalize hol:ov.map Qbq=ol at*;generalize hll:links.map QaD=ll at*;have hlo:Λ ol=ov.length:=by rw[Λo,<-hol];simp
 have hls:Λ ll=links.length:=by rw[Λo,<-hll];simp
 have leaf:∀b,Qao ⟨nodes,ov,links⟩=b->K (bA b):=λb hb=>by rw[<-hb];exact hK
 have no:(Qao ⟨nodes,ov,links⟩=true->False)->K (bA false):=λh=>leaf _ (Bool.eq_false_iff.2 h)
 conv=>cbv
 repeat' first|refine Qaz (hw _ _ _) rfl rfl ?_ ?_|exact gxQ|refine And.intro ?_ ?_|(intro hc;(first|rw[wS (by omega) (by omega)]at hc|rw[Qab]at hc|skip);try (conv=>cbv))
 all_goals try simp only[decide_eq_true_eq,decide_eq_false_iff_not]at*
 all_goals try (refine no λh=> ?_;obtain⟨h1,h2,h3,h4⟩:=Qap.1 h;simp only at h1 h2 h3;omega)
 all_goals
  refine QaT links.length (λ(i:Int)=>[(1,.c (.ptr 0 0 0 0)),(3,iA i)]) (λ_=>[.bx [.d (.int .i64 nodes),.d (.list false 1 ol),.d (.list false 7 ll)]]) (λk i=>i=k/\k<=links.length/\∀l∈links.take k,Qz7 nodes l=true) 0 (Wk.cw) ⟨rfl,by omega,by simp⟩ (λk s h=>h.2.1) ?_;rintro k i Q' ⟨hi,hk,hok⟩ norm ex rt
  conv=>cbv
  repeat' first|(refine ex _ _ _ ?_;(conv=>cbv))|(refine rt _ _ ?_;(conv=>cbv))|refine Qaz (hw _ _ _) rfl rfl ?_ ?_|(intro e he;obtain⟨⟨xa,xb,xc,xd,xe,xf,xg⟩,hx,rfl⟩:=Qa1 hll he;(conv=>cbv))|exact gxQ|refine And.intro ?_ ?_|(intro hc;(first|rw[wS (by omega) (by omega)]at hc|rw[Qab]at hc|skip);try (conv=>cbv))
 all_goals try simp only[decide_eq_true_eq,decide_eq_false_iff_not]at*
 all_goals try (refine no λh=> ?_;obtain⟨h1,h2,h3,h4⟩:=Qap.1 h;have h5:=QeA.1 (h4 _ (mgE hx));simp only at h5;omega)
 all_goals try (refine leaf _ (Qap.2 ⟨by assumption,by simp only;omega,by simp only;omega,λl hl=>hok l ?_⟩);rw[tkQ (by omega)];exact hl)
 all_goals
  refine norm _ _ _ ?_ (Wk.cw);refine⟨by omega,by omega,?_⟩;rw[show i.toNat=k by omega]at hx;rw[Qam hx];intro l hl;rcases List.mem_append.1 hl with hl|hl
  ·exact hok l hl
  ·simp only[List.mem_singleton]at hl;subst hl;exact QeA.2 ⟨by simp only;omega,by simp only;omega,by simp only;omega,by simp only;omega,by simp only;omega,by simp only;omega,by simp only;omega,by simp only;omega⟩
def QbA(t:Top):Int:=if Qao t then 2*t.links.length else 0
def Qfr(t:Top)(a:Int):Lk:=(t.links[(a/2).toNat]?).getD default
def Qba(t:Top)(a:Int):Int:=if 0<=a/\a<QbA t then (if a%2=0 then (Qfr t a).a else (Qfr t a).b)else -1
def QbD(t:Top)(a:Int):Int:=if 0<=a/\a<QbA t then (if a%2=0 then (Qfr t a).b else (Qfr t a).a)else -1
def QcA(t:Top)(a:Int):Int:=if 0<=a/\a<QbA t then (if a%2=0 then (Qfr t a).c0 else (Qfr t a).c1)else -1
theorem QeM(t:Top):QbA t<=2*t.links.length/\QbA t<=512/\0<=QbA t:=by
 rw[QbA];split
 ·rename_i h;have:=(Qap.1 h).2.2.1;omega
 ·omega
theorem Qxb{x:Int}(h1:0<=x)(h2:x<9223372036854775808):IntKind.i64.wrap (x.tdiv 2)=x/2:=by
 rw[Int.tdiv_eq_ediv_of_nonneg h1,Qx2];omega
theorem Qxf{x:Int}(h1:0<=x):x.tmod 2=x%2:=Int.tmod_eq_emod_of_nonneg h1
theorem Qjz(P:Program)(hP:P=Tryz.prog)(t:Top):Ret P Qij [QaU t] (iA (QbA t)):=by
 refine Qah (hP▸mixed) (hP▸QmV) (hP▸Qn2) (nle rfl) λΛ Λo K hK=> ?_
 have hw:=Qgd P hP t;clear hP;have leaf:∀b,QbA t=b->K (iA b):=λb hb=>by rw[<-hb];exact hK
 have h256:Qao t=true->(t.links.length:Int)<=256:=λh=>(Qap.1 h).2.2.1
 have ha:QbA t=if Qao t then 2*(t.links.length:Int)else 0:=rfl
 generalize QbA t=r at*;generalize Qao t=v at*;cases v
 all_goals
  obtain⟨nodes,ov,links⟩:=t;simp only[QaU,Qag,Qai]at*;generalize hol:ov.map Qbq=ol at*;generalize hll:links.map QaD=ll at*;have hlo:Λ ol=ov.length:=by rw[Λo,<-hol];simp
  have hls:Λ ll=links.length:=by rw[Λo,<-hll];simp
  simp only[Bool.false_eq_true,if_true,if_false,forall_const]at ha h256
  conv=>cbv
  repeat' first|refine Qaz hw rfl rfl ?_ ?_|(intro hc;cases hc;done)|exact gxQ|refine And.intro ?_ ?_|(intro hc;(first|rw[wS (by omega) (by omega)]at hc|rw[Qab]at hc|skip);try (conv=>cbv))
 ·exact leaf _ ha
 ·exact leaf _ (by omega)
theorem Qe8(P:Program)(hP:P=Tryz.prog)(t:Top)(a:Int):Ret P Qil [QaU t,iA a] (iA (Qba t a)):=by
 refine Qah (hP▸mixed) (hP▸QmY) (hP▸Qn5) (nle rfl) λΛ Λo K hK=> ?_
 have hw:=Qjz P hP t;clear hP;have leaf:∀b,Qba t a=b->K (iA b):=λb hb=>by rw[<-hb];exact hK
 have hv2:=QeM t;have hta:Qba t a=if 0<=a/\a<QbA t then (if a%2=0 then (Qfr t a).a else (Qfr t a).b)else -1:=rfl
 have hat:∀x,t.links[(a/2).toNat]? =some x->Qfr t a=x:=λx hx=>by simp[Qfr,hx]
 generalize QbA t=v at*;obtain⟨nodes,ov,links⟩:=t;simp only[QaU,Qag,Qai]at*;generalize hol:ov.map Qbq=ol at*;generalize hll:links.map QaD=ll at*;have hlo:Λ ol=ov.length:=by rw[Λo,<-hol];simp
 have hls:Λ ll=links.length:=by rw[Λo,<-hll];simp
 conv=>cbv
 repeat' first|refine Qc7 hw rfl rfl ?_|(intro hc;rw[Qxb (by omega) (by omega)]at hc;conv=>cbv)|(intro hc;rw[Qxf (by omega)]at hc;conv=>cbv)|(intro(_:Unit);decide)|(intro e he;obtain⟨⟨xa,xb,xc,xd,xe,xf,xg⟩,hx,rfl⟩:=Qa1 hll he;(conv=>cbv))|exact gxQ|refine And.intro ?_ ?_|(intro hc;(first|rw[wS (by omega) (by omega)]at hc|rw[Qab]at hc|skip);try (conv=>cbv))
 ·exact leaf _ (by rw[hta,if_neg (by omega)])
 ·exact leaf _ (by rw[hta,if_neg (by omega)])
 all_goals
  refine leaf _ ?_;rw[hta,if_pos (by omega),hat _ (QdE hx (by omega))]
 ·rw[if_pos (by omega)]
 ·rw[if_neg (by omega)]
theorem Qkh(P:Program)(hP:P=Tryz.prog)(t:Top)(a:Int):Ret P QfE [QaU t,iA a] (iA (QbD t a)):=by
 refine Qah (hP▸mixed) (hP▸QmX) (hP▸Qn4) (nle rfl) λΛ Λo K hK=> ?_
 have hw:=Qjz P hP t;have ht:=Qe8 P hP t;clear hP;have leaf:∀b,QbD t a=b->K (iA b):=λb hb=>by rw[<-hb];exact hK
 have hv2:=QeM t;have hta:QbD t a=if 0<=a/\a<QbA t then (if a%2=0 then (Qfr t a).b else (Qfr t a).a)else -1:=rfl
 have htt:∀c,Qba t c=if 0<=c/\c<QbA t then (if c%2=0 then (Qfr t c).a else (Qfr t c).b)else -1:=λ_=>rfl
 have hlk:∀c,c/2=a/2->Qfr t c=Qfr t a:=λc hc=>by rw[Qfr,Qfr,hc]
 have hev:QbA t%2=0:=by rw[QbA];split<;>omega
 generalize QbD t a=r at*;generalize hf:Qba t=f at*;generalize QbA t=v at*;generalize Qfr t=lk at*;obtain⟨nodes,ov,links⟩:=t;simp only[QaU,Qag,Qai]at*;generalize hol:ov.map Qbq=ol at*;generalize hll:links.map QaD=ll at*;have hlo:Λ ol=ov.length:=by rw[Λo,<-hol];simp
 have hls:Λ ll=links.length:=by rw[Λo,<-hll];simp
 conv=>cbv
 repeat' first|refine Qc7 hw rfl rfl ?_|refine Qc7 (ht _) rfl rfl ?_|(intro hc;rw[Qxb (by omega) (by omega)]at hc;conv=>cbv)|(intro hc;rw[Qxf (by omega)]at hc;conv=>cbv)|(intro(_:Unit);decide)|exact gxQ|refine And.intro ?_ ?_|(intro hc;(first|rw[wS (by omega) (by omega)]at hc|rw[Qab]at hc|skip);try (conv=>cbv))
 ·exact leaf _ (by rw[hta,if_neg (by omega)])
 ·exact leaf _ (by rw[hta,if_neg (by omega)])
 ·refine leaf _ ?_;subst hc;rename_i c;rw[hta.trans (if_pos (by omega)),(htt c).trans (if_pos (by omega)),hlk c (by omega)];by_cases h0:a%2=0
  ·rw[if_pos h0,if_neg (by omega)]
  ·rw[if_neg h0,if_pos (by omega)]
theorem QkX{K:AV->Prop}{p:Prop}[Decidable p](hK:K (bA (decide p))):p->K (bA true):=λh=>by rw[decide_eq_true h]at hK;exact hK
theorem Qql{K:AV->Prop}{p:Prop}[Decidable p](hK:K (bA (decide p))):¬p->K (bA false):=λh=>by rw[decide_eq_false h]at hK;exact hK
theorem QeU{α:Type}{l:List α}{k:Nat}{x y:α}(h:l[k]? =some x):y∈l.take (k+1)↔y∈l.take k\/y=x:=by
 rw[Qam h];simp
theorem QAU(P:Program)(hP:P=Tryz.prog)(l:List Int)(n:Int):Ret P Qkw [Qay l,iA n] (bA (decide (n∈l))):=by
 refine Qah (hP▸mixed) (hP▸Qou) (hP▸QpG) (nle rfl) λΛ Λo K hK=> ?_
 clear hP;have yes:=QkX hK;have no:=Qql hK;simp only[Qay,Qav]at*;generalize llh:List.map QaC l=ll at*;have lln:Λ ll=l.length:=by rw[Λo,<-llh];simp
 conv=>cbv
 refine QaT l.length (λi:Int=>[(0,.c (.d (.list false 1 ll))),(1,iA n),(5,iA i)]) (λ_=>[]) (λk i=>i=k/\k<=l.length/\n∉l.take k) 0 (Wk.cw) ⟨rfl,by omega,by simp⟩ (λk s h=>h.2.1) ?_;rintro k i Q' ⟨hi,hk,hno⟩ norm ex rt
 conv=>cbv
 repeat' first|(refine ex _ _ _ ?_;(conv=>cbv))|(refine rt _ _ ?_;(conv=>cbv))|(intro e he;obtain⟨x,hx,rfl⟩:=Qa1 llh he;(conv=>cbv))|exact gxQ|refine And.intro ?_ ?_|(intro hc;(first|rw[wS (by omega) (by omega)]at hc|rw[Qab]at hc|skip);try (conv=>cbv))
 ·subst hc;exact yes (mgE hx)
 ·refine norm _ _ _ ?_ (Wk.cw);exact⟨by omega,by omega,by rw[QeU (QdE hx (by omega))];intro h;rcases h with h|h;exact hno h;omega⟩
 ·exact no (by rw[tkQ (by omega)]at hno;exact hno)
theorem QgP(P:Program)(hP:P=Tryz.prog)(l m:List Int):Ret P Qdk [Qay l,Qay m] (bA (decide (l=m))):=by
 refine Qah (hP▸mixed) (hP▸QhM) (hP▸QiV) (nle rfl) λΛ Λo K hK=> ?_
 clear hP;have yes:=QkX hK;have no:=Qql hK;simp only[Qay,Qav]at*;generalize llh:List.map QaC l=ll at*;have lln:Λ ll=l.length:=by rw[Λo,<-llh];simp
 generalize mlh:List.map QaC m=ml at*;have mln:Λ ml=m.length:=by rw[Λo,<-mlh];simp
 conv=>cbv
 repeat' first|exact gxQ|refine And.intro ?_ ?_|(intro hc;(first|rw[wS (by omega) (by omega)]at hc|rw[Qab]at hc|skip);try (conv=>cbv))
 ·exact no λh=>by subst h;omega
 refine QaT l.length (λi:Int=>[(0,.c (.d (.list false 1 ll))),(1,.c (.d (.list false 1 ml))),(5,iA i)]) (λ_=>[]) (λk i=>i=k/\k<=l.length/\l.take k=m.take k) 0 (Wk.cw) ⟨rfl,by omega,by simp⟩ (λk s h=>h.2.1) ?_;rintro k i Q' ⟨hi,hk,hno⟩ norm ex rt
 conv=>cbv
 repeat' first|(refine ex _ _ _ ?_;(conv=>cbv))|(refine rt _ _ ?_;(conv=>cbv))|(intro e he;obtain⟨x,hx,rfl⟩:=Qa1 llh he;(conv=>cbv))|(intro e he;obtain⟨y,hy,rfl⟩:=Qa1 mlh he;(conv=>cbv))|exact gxQ|refine And.intro ?_ ?_|(intro hc;(first|rw[wS (by omega) (by omega)]at hc|rw[Qab]at hc|skip);try (conv=>cbv))
 ·refine no λh=> ?_
  subst h;rw[hx]at hy;cases hy;exact hc rfl
 ·refine norm _ _ _ ?_ (Wk.cw);exact⟨by omega,by omega,by rw[Qam (QdE hx (by omega)),Qam (QdE hy (by omega)),hno,show x=y by omega]⟩
 ·exact yes (by rw[tkQ (by omega),tkQ (by omega)]at hno;exact hno)
theorem QqB(P:Program)(hP:P=Tryz.prog)(l m:List Seg):Ret P QfG [Qco l,Qco m] (bA (decide (l=m))):=by
 refine Qah (hP▸mixed) (hP▸Qm3) (hP▸Qoa) (nle rfl) λΛ Λo K hK=> ?_
 clear hP;have yes:=QkX hK;have no:=Qql hK;simp only[Qco,QaG]at*;generalize llh:List.map Qaf l=ll at*;have lln:Λ ll=l.length:=by rw[Λo,<-llh];simp
 generalize mlh:List.map Qaf m=ml at*;have mln:Λ ml=m.length:=by rw[Λo,<-mlh];simp
 conv=>cbv
 repeat' first|exact gxQ|refine And.intro ?_ ?_|(intro hc;(first|rw[wS (by omega) (by omega)]at hc|rw[Qab]at hc|skip);try (conv=>cbv))
 ·exact no λh=>by subst h;omega
 refine QaT l.length (λi:Int=>[(0,.c (.d (.list false 2 ll))),(1,.c (.d (.list false 2 ml))),(5,iA i)]) (λ_=>[]) (λk i=>i=k/\k<=l.length/\l.take k=m.take k) 0 (Wk.cw) ⟨rfl,by omega,by simp⟩ (λk s h=>h.2.1) ?_;rintro k i Q' ⟨hi,hk,hno⟩ norm ex rt
 conv=>cbv
 repeat' first|(refine ex _ _ _ ?_;(conv=>cbv))|(refine rt _ _ ?_;(conv=>cbv))|(intro e he;obtain⟨⟨xa,xb⟩,hx,rfl⟩:=Qa1 llh he;(conv=>cbv))|(intro e he;obtain⟨⟨ya,yb⟩,hy,rfl⟩:=Qa1 mlh he;(conv=>cbv))|exact gxQ|refine And.intro ?_ ?_|(intro hc;(first|rw[wS (by omega) (by omega)]at hc|rw[Qab]at hc|skip);try (conv=>cbv))
 ·refine norm _ _ _ ?_ (Wk.cw);exact⟨by omega,by omega,by rw[Qam (QdE hx (by omega)),Qam (QdE hy (by omega)),hno,show xa=ya by omega,show xb=yb by omega]⟩
 ·refine no λh=>hc ?_
  subst h;rw[hx]at hy;cases hy;exact⟨rfl,rfl,trivial⟩
 ·exact yes (by rw[tkQ (by omega),tkQ (by omega)]at hno;exact hno)
theorem Qwa(P:Program)(hP:P=Tryz.prog)(l:List Int)(n:Int):Ret P QcI [Qay l,iA n] (iA (if n∈l then (l.idxOf n:Int)else -1)):=by
 refine Qah (hP▸mixed) (hP▸QeS) (hP▸Qfo) (nle rfl) λΛ Λo K hK=> ?_
 clear hP;have leaf:∀b:Int,(if n∈l then (l.idxOf n:Int)else -1)=b->K (iA b):=λb hb=>by rw[<-hb];exact hK
 simp only[Qay,Qav]at*;generalize llh:List.map QaC l=ll at*;have lln:Λ ll=l.length:=by rw[Λo,<-llh];simp
 conv=>cbv
 intro hmax
 conv=>cbv
 refine QaT l.length (λi:Int=>[(0,.c (.d (.list false 1 ll))),(1,iA n),(7,iA (Λ ll)),(8,iA i)]) (λ_=>[]) (λk i=>i=k/\k<=l.length/\n∉l.take k) 0 (Wk.cw) ⟨rfl,by omega,by simp⟩ (λk s h=>h.2.1) ?_;rintro k i Q' ⟨hi,hk,hno⟩ norm ex rt
 conv=>cbv
 repeat' first|(refine ex _ _ _ ?_;(conv=>cbv))|(refine rt _ _ ?_;(conv=>cbv))|(intro e he;obtain⟨x,hx,rfl⟩:=Qa1 llh he;(conv=>cbv))|exact gxQ|refine And.intro ?_ ?_|(intro hc;(first|rw[wS (by omega) (by omega)]at hc|rw[Qab]at hc|skip);try (conv=>cbv))
 ·refine leaf _ ?_;subst hc;have hx:=QdE hx (show i.toNat=k by omega);rw[if_pos (mgE hx),hi]
  congr 1
  have e:l=l.take k++n::l.drop (k+1):=by
   conv=>lhs;rw[<-List.take_append_drop k l]
   congr 1
   rw[List.drop_eq_getElem_cons (by have:=Qaa hx;exact this)]
   congr 1
   rw[lgE (Qaa hx)]at hx;exact osj hx
  rw[e,List.idxOf_append,if_neg hno,List.idxOf_cons_self];simp;omega
 ·refine norm _ _ _ ?_ (Wk.cw);exact⟨by omega,by omega,by rw[QeU (QdE hx (by omega))];intro h;rcases h with h|h;exact hno h;omega⟩
 ·exact leaf _ (if_neg (by rw[tkQ (by omega)]at hno;exact hno))
theorem QpM(P:Program)(hP:P=Tryz.prog)(l:List Int)(n:Int):Ret P Qcd [Qay l,iA n] (bA (decide (n∈l))):=by
 refine Qah (hP▸mixed) (hP▸QdR) (hP▸Qd7) (nle rfl) λΛ Λo K hK=> ?_
 have hw:=Qwa P hP l n;clear hP;have yes:=QkX hK;have no:=Qql hK;have hi:(0:Int)<=(if n∈l then (l.idxOf n:Int)else -1)↔n∈l:=by split<;>simp_all<;>omega
 generalize (if n∈l then (l.idxOf n:Int)else -1)=r at*;simp only[Qay,Qav]at*;generalize llh:List.map QaC l=ll at*;have lln:Λ ll=l.length:=by rw[Λo,<-llh];simp
 conv=>cbv
 repeat' first|refine Qc7 hw rfl rfl ?_|exact gxQ|refine And.intro ?_ ?_|(intro hc;(first|rw[wS (by omega) (by omega)]at hc|rw[Qab]at hc|skip);try (conv=>cbv))
 ·exact yes (hi.1 (by omega))
 ·exact no λh=>by have:=hi.2 h;omega
theorem QsV(P:Program)(hP:P=Tryz.prog)(n lo hi:Int):Ret P Qew [iA n,iA lo,iA hi] (bA (decide (lo<=n/\n<=hi))):=by
 refine Qah (hP▸mixed) (hP▸Qg1) (hP▸QhE) (nle rfl) λΛ Λo K hK=> ?_
 clear hP;have yes:=QkX hK;have no:=Qql hK
 conv=>cbv
 repeat' first|exact gxQ|refine And.intro ?_ ?_|(intro hc;(first|rw[wS (by omega) (by omega)]at hc|rw[Qab]at hc|skip);try (conv=>cbv))
 ·exact yes (by omega)
 ·exact no (by omega)
 ·exact no (by omega)
theorem Qg3(P:Program)(hP:P=Tryz.prog)(t:Top)(n:Int):Ret P Qih [QaU t,iA n] (bA (decide (0<=n/\n<t.nodes))):=by
 refine Qah (hP▸mixed) (hP▸QmT) (hP▸Qn0) (nle rfl) λΛ Λo K hK=> ?_
 clear hP;have yes:=QkX hK;have no:=Qql hK;obtain⟨nodes,ov,links⟩:=t;simp only[QaU,Qag,Qai]at*;generalize hol:ov.map Qbq=ol at*;generalize hll:links.map QaD=ll at*;have hlo:Λ ol=ov.length:=by rw[Λo,<-hol];simp
 have hls:Λ ll=links.length:=by rw[Λo,<-hll];simp
 conv=>cbv
 repeat' first|exact gxQ|refine And.intro ?_ ?_|(intro hc;(first|rw[wS (by omega) (by omega)]at hc|rw[Qab]at hc|skip);try (conv=>cbv))
 ·exact yes (by omega)
 ·exact no (by omega)
 ·exact no (by omega)
theorem Qpd(P:Program)(hP:P=Tryz.prog)(t:Top):Ret P Qff [QaU t] (bA (Qao t)):=by
 refine Qah (hP▸mixed) (hP▸QhP) (hP▸QiY) (nle rfl) λΛ Λo K hK=> ?_
 have hw:=QsV P hP;have hn:=Qg3 P hP t;clear hP;have leaf:∀b,Qao t=b->K (bA b):=λb hb=>by rw[<-hb];exact hK
 have no:(Qao t=true->False)->K (bA false):=λh=>leaf _ (Bool.eq_false_iff.2 h)
 obtain⟨nodes,ov,links⟩:=t;simp only[QaU,Qag,Qai]at*;generalize hol:ov.map Qbq=ol at*;generalize hll:links.map QaD=ll at*;have hlo:Λ ol=ov.length:=by rw[Λo,<-hol];simp
 have hls:Λ ll=links.length:=by rw[Λo,<-hll];simp
 conv=>cbv
 repeat' first|refine Qaz (hw _ _ _) rfl rfl ?_ ?_|exact gxQ|refine And.intro ?_ ?_|(intro hc;(first|rw[wS (by omega) (by omega)]at hc|rw[Qab]at hc|skip);try (conv=>cbv))
 all_goals try simp only[decide_eq_true_eq,decide_eq_false_iff_not]at*
 all_goals try (refine no λh=> ?_;obtain⟨h1,h2,h3,h4⟩:=Qap.1 h;simp only at h1 h2 h3;omega)
 all_goals
  refine QaT links.length (λ(i:Int)=>[(1,.c (.ptr 0 0 0 0)),(29,iA (Λ ll)),(30,iA i)]) (λ_=>[.bx [.d (.int .i64 nodes),.d (.list false 1 ol),.d (.list false 7 ll)]]) (λk i=>i=k/\k<=links.length/\∀l∈links.take k,Qz7 nodes l=true) 0 (Wk.cw) ⟨rfl,by omega,by simp⟩ (λk s h=>h.2.1) ?_;rintro k i Q' ⟨hi,hk,hok⟩ norm ex rt
  conv=>cbv
  repeat' first|(refine ex _ _ _ ?_;(conv=>cbv))|(refine rt _ _ ?_;(conv=>cbv))|refine Qaz (hw _ _ _) rfl rfl ?_ ?_|refine Qaz (hn _) rfl rfl ?_ ?_|(intro e he;obtain⟨⟨xa,xb,xc,xd,xe,xf,xg⟩,hx,rfl⟩:=Qa1 hll he;(conv=>cbv))|exact gxQ|refine And.intro ?_ ?_|(intro hc;(first|rw[wS (by omega) (by omega)]at hc|rw[Qab]at hc|skip);try (conv=>cbv))
 all_goals try simp only[decide_eq_true_eq,decide_eq_false_iff_not]at*
 all_goals try (refine no λh=> ?_;obtain⟨h1,h2,h3,h4⟩:=Qap.1 h;have h5:=QeA.1 (h4 _ (mgE hx));simp only at h5;omega)
 all_goals try (refine leaf _ (Qap.2 ⟨by simp only;omega,by simp only;omega,by simp only;omega,λl hl=>hok l ?_⟩);rw[tkQ (by omega)];exact hl)
 all_goals
  refine norm _ _ _ ?_ (Wk.cw);refine⟨by omega,by omega,?_⟩;rw[show i.toNat=k by omega]at hx;rw[Qam hx];intro l hl;rcases List.mem_append.1 hl with hl|hl
  ·exact hok l hl
  ·simp only[List.mem_singleton]at hl;subst hl;exact QeA.2 ⟨by simp only;omega,by simp only;omega,by simp only;omega,by simp only;omega,by simp only;omega,by simp only;omega,by simp only;omega,by simp only;omega⟩
theorem Qv9(P:Program)(hP:P=Tryz.prog)(t:Top)(h:(t.links.length:Int)<=256):Ret P Qig [QaU t] (iA (2*t.links.length)):=by
 refine Qah (hP▸mixed) (hP▸QmR) (hP▸QnY) (nle rfl) λΛ Λo K hK=> ?_
 clear hP;obtain⟨nodes,ov,links⟩:=t;simp only[QaU,Qag,Qai]at*;generalize hol:ov.map Qbq=ol at*;generalize hll:links.map QaD=ll at*;have hlo:Λ ol=ov.length:=by rw[Λo,<-hol];simp
 have hls:Λ ll=links.length:=by rw[Λo,<-hll];simp
 conv=>cbv
 repeat' first|exact gxQ|refine And.intro ?_ ?_|(intro hc;(first|rw[wS (by omega) (by omega)]at hc|rw[Qab]at hc|skip);try (conv=>cbv))
 rename_i c;rw[show c=2*(links.length:Int)by omega];exact hK
theorem Qp7(P:Program)(hP:P=Tryz.prog)(t:Top)(a:Int)(h:(t.links.length:Int)<=256):Ret P Qkv [QaU t,iA a] (bA (decide (0<=a/\a<2*t.links.length))):=by
 refine Qah (hP▸mixed) (hP▸Qot) (hP▸QpF) (nle rfl) λΛ Λo K hK=> ?_
 have hw:=Qv9 P hP t h;clear hP;have yes:=QkX hK;have no:=Qql hK;obtain⟨nodes,ov,links⟩:=t;simp only[QaU,Qag,Qai]at*;generalize hol:ov.map Qbq=ol at*;generalize hll:links.map QaD=ll at*;have hlo:Λ ol=ov.length:=by rw[Λo,<-hol];simp
 have hls:Λ ll=links.length:=by rw[Λo,<-hll];simp
 conv=>cbv
 repeat' first|refine Qc7 hw rfl rfl ?_|exact gxQ|refine And.intro ?_ ?_|(intro hc;(first|rw[wS (by omega) (by omega)]at hc|rw[Qab]at hc|skip);try (conv=>cbv))
 ·exact yes (by omega)
 ·exact no (by omega)
 ·exact no (by omega)
def Qgf(t:Top)(a:Int):Int:=if a%2=0 then (Qfr t a).a else (Qfr t a).b
def QoE(t:Top)(a:Int):Int:=if a%2=0 then (Qfr t a).b else (Qfr t a).a
theorem Qm9(P:Program)(hP:P=Tryz.prog)(t:Top)(a:Int)(h0:0<=a)(h1:a<2*t.links.length)(h2:(t.links.length:Int)<=256):Ret P Qii [QaU t,iA a] (iA (Qgf t a)):=by
 refine Qah (hP▸mixed) (hP▸QmU) (hP▸Qn1) (nle rfl) λΛ Λo K hK=> ?_
 clear hP;have leaf:∀b,Qgf t a=b->K (iA b):=λb hb=>by rw[<-hb];exact hK
 have hta:Qgf t a=if a%2=0 then (Qfr t a).a else (Qfr t a).b:=rfl
 have hat:∀x,t.links[(a/2).toNat]? =some x->Qfr t a=x:=λx hx=>by simp[Qfr,hx]
 obtain⟨nodes,ov,links⟩:=t;simp only[QaU,Qag,Qai]at*;generalize hol:ov.map Qbq=ol at*;generalize hll:links.map QaD=ll at*;have hlo:Λ ol=ov.length:=by rw[Λo,<-hol];simp
 have hls:Λ ll=links.length:=by rw[Λo,<-hll];simp
 conv=>cbv
 repeat' first|(intro hc;rw[Qxb (by omega) (by omega)]at hc;conv=>cbv)|(intro hc;rw[Qxf (by omega)]at hc;conv=>cbv)|(intro(_:Unit);decide)|(intro e he;obtain⟨⟨xa,xb,xc,xd,xe,xf,xg⟩,hx,rfl⟩:=Qa1 hll he;(conv=>cbv))|exact gxQ|refine And.intro ?_ ?_|(intro hc;(first|rw[wS (by omega) (by omega)]at hc|rw[Qab]at hc|skip);try (conv=>cbv))
 ·exact leaf _ (by rw[hta,if_pos (by omega),hat _ (QdE hx (by omega))])
 ·exact leaf _ (by rw[hta,if_neg (by omega),hat _ (QdE hx (by omega))])
def QsP(t:Top)(s:Seg):Bool:=decide (0<=s.num)&&(decide (s.kind=1/\s.num<t.nodes)||decide (s.kind=2/\s.num<2*t.links.length)||decide (s.kind=3/\1<=s.num/\s.num<=64)||decide (s.kind=4/\s.num<=65535))
theorem QfT{t:Top}{s:Seg}:QsP t s=true↔0<=s.num/\((s.kind=1/\s.num<t.nodes)\/(s.kind=2/\s.num<2*t.links.length)\/(s.kind=3/\1<=s.num/\s.num<=64)\/(s.kind=4/\s.num<=65535)):=by
 simp only[QsP,Bool.and_eq_true,Bool.or_eq_true,decide_eq_true_eq,or_assoc]
theorem QyQ(P:Program)(hP:P=Tryz.prog)(t:Top)(s:Seg)(h:(t.links.length:Int)<=256):Ret P QfD [QaU t,Qz9 s] (bA (QsP t s)):=by
 refine Qah (hP▸mixed) (hP▸Qi2) (hP▸QjI) (nle rfl) λΛ Λo K hK=> ?_
 have hn:=Qg3 P hP t;have ha:=λa=>Qp7 P hP t a h
 clear hP;have leaf:∀b,QsP t s=b->K (bA b):=λb hb=>by rw[<-hb];exact hK
 have yes:(0<=s.num/\((s.kind=1/\s.num<t.nodes)\/(s.kind=2/\s.num<2*t.links.length)\/(s.kind=3/\1<=s.num/\s.num<=64)\/(s.kind=4/\s.num<=65535)))->K (bA true):=λh=>leaf _ (QfT.2 h)
 have no:¬(0<=s.num/\((s.kind=1/\s.num<t.nodes)\/(s.kind=2/\s.num<2*t.links.length)\/(s.kind=3/\1<=s.num/\s.num<=64)\/(s.kind=4/\s.num<=65535)))->K (bA false):=λh=>leaf _ (Bool.eq_false_iff.2 λh'=>h (QfT.1 h'))
 clear leaf hK;obtain⟨kind,num⟩:=s;simp only[Qz9]at*;obtain⟨nodes,ov,links⟩:=t;simp only[QaU,Qag,Qai]at*;generalize hol:ov.map Qbq=ol at*;generalize hll:links.map QaD=ll at*;have hlo:Λ ol=ov.length:=by rw[Λo,<-hol];simp
 have hls:Λ ll=links.length:=by rw[Λo,<-hll];simp
 conv=>cbv
 repeat' first|refine Qaz (hn _) rfl rfl ?_ ?_|refine Qaz (ha _) rfl rfl ?_ ?_|exact gxQ|refine And.intro ?_ ?_|(intro hc;(first|rw[wS (by omega) (by omega)]at hc|rw[Qab]at hc|skip);try (conv=>cbv))
 all_goals try simp only[decide_eq_true_eq,decide_eq_false_iff_not]at*
 all_goals first|(refine yes ?_;omega)|(refine no ?_;omega)
theorem Qzz(P:Program)(hP:P=Tryz.prog)(t:Top)(s:Seg):Ret P Qg9 [QaU t,Qz9 s] (bA (Qao t&&QsP t s)):=by
 refine Qah (hP▸mixed) (hP▸Qlk) (hP▸QmA) (nle rfl) λΛ Λo K hK=> ?_
 have hn:=Qgd P hP t;have ha:=Qjz P hP t;clear hP;have hb:Qao t=true->QbA t=2*t.links.length:=λh=>by rw[QbA,if_pos h]
 have leaf:∀b,(Qao t&&QsP t s)=b->K (bA b):=λb hb=>by rw[<-hb];exact hK
 have yes:(Qao t=true/\0<=s.num/\((s.kind=1/\s.num<t.nodes)\/(s.kind=2/\s.num<2*t.links.length)\/(s.kind=3/\1<=s.num/\s.num<=64)\/(s.kind=4/\s.num<=65535)))->K (bA true):=λh=>leaf _ (by rw[h.1,QfT.2 h.2];rfl)
 have no:(Qao t=true->¬(0<=s.num/\((s.kind=1/\s.num<t.nodes)\/(s.kind=2/\s.num<2*t.links.length)\/(s.kind=3/\1<=s.num/\s.num<=64)\/(s.kind=4/\s.num<=65535))))->K (bA false):=λh=>leaf _ (by
  cases hv:Qao t with
  |false=>rfl
  |true=>exact Bool.eq_false_iff.2 λh'=>h hv (QfT.1 h'))
 clear leaf hK;generalize Qao t=v at*;generalize QbA t=r at*;obtain⟨kind,num⟩:=s;simp only[Qz9]at*;obtain⟨nodes,ov,links⟩:=t;simp only[QaU,Qag,Qai]at*;generalize hol:ov.map Qbq=ol at*;generalize hll:links.map QaD=ll at*;have hlo:Λ ol=ov.length:=by rw[Λo,<-hol];simp
 have hls:Λ ll=links.length:=by rw[Λo,<-hll];simp
 conv=>cbv
 repeat' first|refine Qaz hn rfl rfl ?_ ?_|refine Qc7 ha rfl rfl ?_|exact gxQ|refine And.intro ?_ ?_|(intro hc;(first|rw[wS (by omega) (by omega)]at hc|rw[Qab]at hc|skip);try (conv=>cbv))
 all_goals first|(refine no λh=> ?_;have:=hb h;omega)|(refine no λh=> ?_;exact absurd (h.symm.trans ‹v=false›) (by simp))|(refine yes ⟨‹v=true›,?_⟩;have:=hb ‹v=true›;omega)
def Qhe(t:Top)(n:Int)(l:List Int)(i:Nat):Bool:=decide (Qba t (l.getD i 0)=n)&&(decide (i=0)||decide (l.getD (i-1) 0<l.getD i 0))
def Qnm(t:Top)(n:Int)(l:List Int):Bool:=(List.range l.length).all (Qhe t n l)
theorem QfJ{t:Top}{n:Int}{l:List Int}:Qnm t n l=true↔∀i,i<l.length->Qhe t n l i=true:=by
 simp[Qnm,List.all_eq_true]
theorem QhT{α:Type}{l:List α}{i:Nat}{x d:α}(h:l[i]? =some x):l.getD i d=x:=by
 simp[List.getD,h]
theorem QoU{t:Top}{n:Int}{l:List Int}{i:Nat}{x:Int}(hx:l[i]? =some x)(h1:Qba t x=n)(h2:i=0\/∃y,l[i-1]? =some y/\y<x):Qhe t n l i=true:=by
 simp only[Qhe,QhT hx,h1,decide_true,Bool.true_and,Bool.or_eq_true,decide_eq_true_eq];rcases h2 with h2|⟨y,hy,h2⟩
 ·exact .inl h2
 ·exact .inr (by rw[QhT hy];exact h2)
theorem QrC{t:Top}{n:Int}{l:List Int}{i:Nat}{x:Int}(hx:l[i]? =some x)(h:Qba t x≠n\/(i≠0/\∃y,l[i-1]? =some y/\x<=y)):¬Qhe t n l i=true:=by
 simp only[Qhe,QhT hx,Bool.and_eq_true,Bool.or_eq_true,decide_eq_true_eq];rintro⟨h1,h2⟩;rcases h with h|⟨h0,y,hy,h⟩
 ·exact h h1
 ·rcases h2 with h2|h2
  ·exact h0 h2
  ·rw[QhT hy]at h2;omega
theorem QkR{t:Top}{a:Int}(hv:Qao t=true)(h0:0<=a)(h1:a<2*t.links.length):Qba t a=Qgf t a:=by
 rw[Qba,QbA,if_pos hv,if_pos ⟨h0,h1⟩];rfl
theorem Ql3{t:Top}{a:Int}(hv:Qao t=true)(h:¬(0<=a/\a<2*t.links.length)):Qba t a= -1:=by
 rw[Qba,QbA,if_pos hv,if_neg h]
theorem Qqm(P:Program)(hP:P=Tryz.prog)(t:Top)(n:Int)(l:List Int):Ret P Qfd [QaU t,iA n,Qay l] (bA (Qnm t n l)):=by
 refine Qah (hP▸mixed) (hP▸QhN) (hP▸QiW) (nle rfl) λΛ Λo K hK=> ?_
 have ht:=Qe8 P hP t;clear hP;have yes:(∀i,i<l.length->Qhe t n l i=true)->K (bA true):=λh=>by rw[QfJ.2 h]at hK;exact hK
 have no:∀i,i<l.length->¬Qhe t n l i=true->K (bA false):=λi hi h=>by
  rw[show Qnm t n l=false from Bool.eq_false_iff.2 λh'=>h (QfJ.1 h' i hi)]at hK;exact hK
 have ya:=λi x=> @QoU t n l i x
 have na:=λi x=> @QrC t n l i x
 generalize Qhe t n l=oa at*;generalize Qba t=f at*;clear hK;simp only[Qay,Qav]at*;generalize alh:List.map QaC l=al at*;have aln:Λ al=l.length:=by rw[Λo,<-alh];simp
 obtain⟨nodes,ov,links⟩:=t;simp only[QaU,Qag,Qai]at*;generalize hol:ov.map Qbq=ol at*;generalize hll:links.map QaD=ll at*;have hlo:Λ ol=ov.length:=by rw[Λo,<-hol];simp
 have hls:Λ ll=links.length:=by rw[Λo,<-hll];simp
 conv=>cbv
 refine QaT l.length (λ(i:Int)=>[(1,iA n),(2,.c (.d (.list false 1 al))),(3,.c (.ptr 0 0 0 0)),(7,iA i)]) (λ_=>[.bx [.d (.int .i64 nodes),.d (.list false 1 ol),.d (.list false 7 ll)]]) (λk i=>i=k/\k<=l.length/\∀j,j<k->oa j=true) 0 (Wk.cw) ⟨rfl,by omega,by simp⟩ (λk s h=>h.2.1) ?_;rintro k i Q' ⟨hi,hk,hok⟩ norm ex rt;by_cases hlt:k<l.length
 ·obtain⟨x,hx⟩:∃x,l[k]? =some x:=⟨_,lgE hlt⟩;have hxa:=QdB alh hi hx
  conv=>cbv
  repeat' first|(refine ex _ _ _ ?_;(conv=>cbv))|(refine rt _ _ ?_;(conv=>cbv))|refine Qc7 (ht _) rfl rfl ?_|(intro e he;cases osj (he.symm.trans hxa);(conv=>cbv))|(intro e he;obtain⟨y,hy,rfl⟩:=Qa1 alh he;(conv=>cbv))|exact gxQ|refine And.intro ?_ ?_|(intro hc;(first|rw[wS (by omega) (by omega)]at hc|rw[Qab]at hc|skip);try (conv=>cbv))
  ·exact no k hlt (na k x hx (.inl (by omega)))
  ·exact no k hlt (na k x hx (.inr ⟨by omega,_,QdE hy (by omega),by omega⟩))
  all_goals
   refine norm _ _ _ ?_ (Wk.cw);refine⟨by omega,by omega,λj hj=> ?_⟩;rcases Nat.lt_or_ge j k with h|h
   ·exact hok j h
   ·obtain rfl:j=k:=by omega
    first|exact ya j x hx (by omega) (.inr ⟨_,QdE hy (by omega),by omega⟩)|exact ya j x hx (by omega) (.inl (by omega))
 ·conv=>cbv
  repeat' first|(refine ex _ _ _ ?_;(conv=>cbv))|(refine rt _ _ ?_;(conv=>cbv))|exact gxQ|refine And.intro ?_ ?_|(intro hc;(first|rw[wS (by omega) (by omega)]at hc|rw[Qab]at hc|skip);try (conv=>cbv))
  exact yes λj hj=>hok j (by omega)
theorem QlH(P:Program)(hP:P=Tryz.prog)(t:Top)(n:Int)(l:List Int)(hv:Qao t=true)(hn0:0<=n):Ret P QfI [QaU t,iA n,Qay l] (bA (Qnm t n l)):=by
 refine Qah (hP▸mixed) (hP▸Qi5) (hP▸QjL) (nle rfl) λΛ Λo K hK=> ?_
 have h256:=(Qap.1 hv).2.2.1;have har:=λa=>Qp7 P hP t a h256
 have ht:=λa h0 h1=>Qm9 P hP t a h0 h1 h256
 clear hP;have yes:(∀i,i<l.length->Qhe t n l i=true)->K (bA true):=λh=>by rw[QfJ.2 h]at hK;exact hK
 have no:∀i,i<l.length->¬Qhe t n l i=true->K (bA false):=λi hi h=>by
  rw[show Qnm t n l=false from Bool.eq_false_iff.2 λh'=>h (QfJ.1 h' i hi)]at hK;exact hK
 have ya:=λi x=> @QoU t n l i x
 have na:=λi x=> @QrC t n l i x
 have tv:=λa=> @QkR t a hv
 have tn:=λa=> @Ql3 t a hv
 generalize Qhe t n l=oa at*;generalize Qba t=f at*;generalize Qgf t=g at*;clear hK hv;simp only[Qay,Qav]at*;generalize alh:List.map QaC l=al at*;have aln:Λ al=l.length:=by rw[Λo,<-alh];simp
 obtain⟨nodes,ov,links⟩:=t;simp only[QaU,Qag,Qai]at*;generalize hol:ov.map Qbq=ol at*;generalize hll:links.map QaD=ll at*;have hlo:Λ ol=ov.length:=by rw[Λo,<-hol];simp
 have hls:Λ ll=links.length:=by rw[Λo,<-hll];simp
 conv=>cbv
 intro hmax
 conv=>cbv
 refine QaT l.length (λ(i:Int)=>[(1,iA n),(2,.c (.d (.list false 1 al))),(3,.c (.ptr 0 0 0 0)),(9,.c (.d (.list false 1 al))),(10,iA (Λ al)),(11,iA i)]) (λ_=>[.bx [.d (.int .i64 nodes),.d (.list false 1 ol),.d (.list false 7 ll)]]) (λk i=>i=k/\k<=l.length/\∀j,j<k->oa j=true) 0 (Wk.cw) ⟨rfl,by omega,by simp⟩ (λk s h=>h.2.1) ?_;rintro k i Q' ⟨hi,hk,hok⟩ norm ex rt;by_cases hlt:k<l.length
 ·obtain⟨x,hx⟩:∃x,l[k]? =some x:=⟨_,lgE hlt⟩;have hxa:=QdB alh hi hx
  conv=>cbv
  repeat' first|(refine ex _ _ _ ?_;(conv=>cbv))|(refine rt _ _ ?_;(conv=>cbv))|refine Qaz (har _) rfl rfl ?_ ?_|(refine Qc7 (ht _ (by simp only[decide_eq_true_eq]at *;omega) (by simp only[decide_eq_true_eq]at *;omega)) rfl rfl ?_)|(intro e he;cases osj (he.symm.trans hxa);(conv=>cbv))|(intro e he;obtain⟨y,hy,rfl⟩:=Qa1 alh he;(conv=>cbv))|exact gxQ|refine And.intro ?_ ?_|(intro hc;(first|rw[wS (by omega) (by omega)]at hc|rw[Qab]at hc|skip);try (conv=>cbv))
  all_goals simp only[decide_eq_true_eq,decide_eq_false_iff_not]at*
  all_goals first
   |(refine no k hlt (na k x hx (.inl ?_));rw[tn x (by omega)];omega)
   |(refine no k hlt (na k x hx (.inl ?_));rw[tv x (by omega) (by omega)];omega)
   |(refine no k hlt (na k x hx (.inr ⟨?_,y,QdE hy ?_,?_⟩))<;>omega)
   |skip
  all_goals
   refine norm _ _ _ ?_ (Wk.cw);refine⟨by omega,by omega,λj hj=> ?_⟩;rcases Nat.lt_or_ge j k with h|h
   ·exact hok j h
   ·obtain rfl:j=k:=by omega
    first
     |(refine ya j x hx ?_ (.inr ⟨y,QdE hy ?_,?_⟩);(rw[tv x (by omega) (by omega)];omega);all_goals omega)
     |(refine ya j x hx ?_ (.inl ?_);(rw[tv x (by omega) (by omega)];omega);all_goals omega)
 ·conv=>cbv
  repeat' first|(refine ex _ _ _ ?_;(conv=>cbv))|(refine rt _ _ ?_;(conv=>cbv))|exact gxQ|refine And.intro ?_ ?_|(intro hc;(first|rw[wS (by omega) (by omega)]at hc|rw[Qab]at hc|skip);try (conv=>cbv))
  exact yes λj hj=>hok j (by omega)
def Qs6(t:Top)(n d:Int)(e:Ety):Bool:=
 Qnm t n e.arcs&& !(decide (d=n)&&decide (0<e.arcs.length))&&(if e.rep then decide (e.arcs.length=1/\e.push.length<=32)else decide (e.push.length=0))&&e.push.all (QsP t)
theorem Qfw{t:Top}{n d:Int}{e:Ety}:Qs6 t n d e=true↔
  Qnm t n e.arcs=true/\¬(d=n/\0<e.arcs.length)/\(e.rep=true->e.arcs.length=1/\e.push.length<=32)/\(e.rep=false->e.push.length=0)/\∀s∈e.push,QsP t s=true:=by
 cases h:e.rep<;>simp only[Qs6,h,Bool.and_eq_true,List.all_eq_true,and_assoc,Bool.not_eq_true',Bool.and_eq_false_iff,decide_eq_false_iff_not,decide_eq_true_eq,if_true,if_false,Bool.false_eq_true,false_implies,true_and,forall_const,Classical.not_and_iff_not_or_not,reduceCtorEq]
def Qh6(t:Top)(x:Tab):Bool:=
 Qao t&&decide (0<=x.node/\x.node<t.nodes)&&decide ((x.to.length:Int)=t.nodes)&&Qnm t x.node x.down&&(List.range x.to.length).all λd=>Qs6 t x.node d (x.to.getD d default)
theorem Qci{t:Top}{x:Tab}:Qh6 t x=true↔Qao t=true/\(0<=x.node/\x.node<t.nodes)/\(x.to.length:Int)=t.nodes/\Qnm t x.node x.down=true/\∀(i:Nat) (e:Ety),x.to[i]? =some e->Qs6 t x.node i e=true:=by
 simp only[Qh6,Bool.and_eq_true,decide_eq_true_eq,List.all_eq_true,List.mem_range,and_assoc];constructor
 ·rintro⟨h1,h2,h3,h4,h5,h6⟩;refine⟨h1,h2,h3,h4,h5,λi e he=> ?_⟩;have:=h6 i (Qaa he);rw[QhT he]at this;exact this
 ·rintro⟨h1,h2,h3,h4,h5,h6⟩;exact⟨h1,h2,h3,h4,h5,λi hi=>h6 i _ (by simp[List.getD,lgE hi])⟩
theorem QuG(P:Program)(hP:P=Tryz.prog)(t:Top)(e:Ety)(n d:Int)(hv:Qao t=true)(hn0:0<=n):Ret P Qgp [QaU t,QyD e,iA n,iA d] (bA (Qs6 t n d e)):=by
 refine Qah (hP▸mixed) (hP▸Qkb) (hP▸Qld) (nle rfl) λΛ Λo K hK=> ?_
 have h256:=(Qap.1 hv).2.2.1;have hl:=QlH P hP t n e.arcs hv hn0;have hg:=λs=>QyQ P hP t s h256
 clear hP;have yes:(Qnm t n e.arcs=true/\¬(d=n/\0<e.arcs.length)/\(e.rep=true->e.arcs.length=1/\e.push.length<=32)/\(e.rep=false->e.push.length=0)/\∀s∈e.push,QsP t s=true)->K (bA true):=λh=>by
  rw[Qfw.2 h]at hK;exact hK
 have no:¬(Qnm t n e.arcs=true/\¬(d=n/\0<e.arcs.length)/\(e.rep=true->e.arcs.length=1/\e.push.length<=32)/\(e.rep=false->e.push.length=0)/\∀s∈e.push,QsP t s=true)->K (bA false):=λh=>by
  rw[show Qs6 t n d e=false from Bool.eq_false_iff.2 λh'=>h (Qfw.1 h')]at hK;exact hK
 clear hK hv;obtain⟨arcs,rep,push⟩:=e;simp only[QyD,Qay,Qav,QaG,Qz9]at*;generalize Qnm t n arcs=ob at*;generalize QsP t=sb at*;generalize alh:List.map QaC arcs=al at*;have aln:Λ al=arcs.length:=by rw[Λo,<-alh];simp
 generalize plh:List.map Qaf push=pl at*;have pln:Λ pl=push.length:=by rw[Λo,<-plh];simp
 obtain⟨nodes,ov,links⟩:=t;simp only[QaU,Qag,Qai]at*;generalize hol:ov.map Qbq=ol at*;generalize hll:links.map QaD=ll at*;have hlo:Λ ol=ov.length:=by rw[Λo,<-hol];simp
 have hls:Λ ll=links.length:=by rw[Λo,<-hll];simp
 cases rep
 all_goals
  conv=>cbv
  repeat' first|refine Qaz hl rfl rfl ?_ ?_|exact gxQ|refine And.intro ?_ ?_|(intro hc;(first|rw[wS (by omega) (by omega)]at hc|rw[Qab]at hc|skip);try (conv=>cbv))
 all_goals try (refine no λh=> ?_;obtain⟨h1,h2,h3,h4,_⟩:=h;first|omega|(have:=h3 rfl;omega)|(have:=h4 rfl;omega)|(rw[h1]at hc;cases hc))
 all_goals try (refine yes ⟨by assumption,by omega,(by simp),by intro _;omega,?_⟩;obtain rfl:push=[]:=lzQ (by omega);simp)
 all_goals
  refine QaT push.length (λ(i:Int)=>[(4,.c (.ptr 0 0 0 0)),(46,.c (.d (.list false 2 pl))),(47,iA (Λ pl)),(48,iA i)]) (λ_=>[.bx [.d (.int .i64 nodes),.d (.list false 1 ol),.d (.list false 7 ll)]]) (λk i=>i=k/\k<=push.length/\∀s∈push.take k,sb s=true) 0 (Wk.cw) ⟨rfl,by omega,by simp⟩ (λk s h=>h.2.1) ?_;rintro k i Q' ⟨hi,hk,hok⟩ norm ex rt;by_cases hlt:k<push.length
  ·obtain⟨x,hx⟩:∃x,push[k]? =some x:=⟨_,lgE hlt⟩;have hxa:=QdB plh hi hx;obtain⟨xk,xn⟩:=x;have hgx:=hg ⟨xk,xn⟩
   conv=>cbv
   repeat' first|(refine ex _ _ _ ?_;(conv=>cbv))|(refine rt _ _ ?_;(conv=>cbv))|refine Qaz hgx rfl rfl ?_ ?_|(intro e he;cases osj (he.symm.trans hxa);(conv=>cbv))|exact gxQ|refine And.intro ?_ ?_|(intro hc;(first|rw[wS (by omega) (by omega)]at hc|rw[Qab]at hc|skip);try (conv=>cbv))
   ·refine norm _ _ _ ?_ (Wk.cw);refine⟨by omega,by omega,λs hs=> ?_⟩;rw[Qam hx]at hs;rcases List.mem_append.1 hs with hs|hs
    ·exact hok s hs
    ·simp only[List.mem_singleton]at hs;subst hs;assumption
   ·refine no λh=> ?_
    have:=h.2.2.2.2 _ (mgE hx);rw[this]at hc;cases hc
  ·conv=>cbv
   repeat' first|(refine ex _ _ _ ?_;(conv=>cbv))|(refine rt _ _ ?_;(conv=>cbv))|exact gxQ|refine And.intro ?_ ?_|(intro hc;(first|rw[wS (by omega) (by omega)]at hc|rw[Qab]at hc|skip);try (conv=>cbv))
   refine yes ⟨by assumption,by omega,λ_=>by omega,by simp,?_⟩;rw[tkQ (by omega)]at hok;exact hok
theorem Qhr(P:Program)(hP:P=Tryz.prog)(t:Top)(x:Tab):Ret P Qhb [QaU t,Qls x] (bA (Qh6 t x)):=by
 refine Qah (hP▸mixed) (hP▸Qlm) (hP▸QmC) (nle rfl) λΛ Λo K hK=> ?_
 have hw:=Qpd P hP t;have hn:=Qg3 P hP t;have hl:=λl=>QlH P hP t x.node l
 have hp:=λe d=>QuG P hP t e x.node d
 clear hP;have yes:(Qao t=true/\(0<=x.node/\x.node<t.nodes)/\(x.to.length:Int)=t.nodes/\Qnm t x.node x.down=true/\∀(i:Nat) (e:Ety),x.to[i]? =some e->Qs6 t x.node i e=true)->K (bA true):=λh=>by
  rw[Qci.2 h]at hK;exact hK
 have no:¬(Qao t=true/\(0<=x.node/\x.node<t.nodes)/\(x.to.length:Int)=t.nodes/\Qnm t x.node x.down=true/\∀(i:Nat) (e:Ety),x.to[i]? =some e->Qs6 t x.node i e=true)->K (bA false):=λh=>by
  rw[show Qh6 t x=false from Bool.eq_false_iff.2 λh'=>h (Qci.1 h')]at hK;exact hK
 clear hK;obtain⟨node,to,down⟩:=x;have hld:=hl down;simp only[Qls,Qea,Qay,Qav]at*;generalize Qnm t node down=ob at*;generalize Qs6 t node=eb at*;generalize Qao t=v at*;generalize elh:List.map Qax to=el at*;have eln:Λ el=to.length:=by rw[Λo,<-elh];simp
 generalize dlh:List.map QaC down=dl at*;have dln:Λ dl=down.length:=by rw[Λo,<-dlh];simp
 obtain⟨nodes,ov,links⟩:=t;simp only[QaU,Qag,Qai]at*;generalize hol:ov.map Qbq=ol at*;generalize hll:links.map QaD=ll at*;have hlo:Λ ol=ov.length:=by rw[Λo,<-hol];simp
 have hls:Λ ll=links.length:=by rw[Λo,<-hll];simp
 conv=>cbv
 repeat' first|refine Qaz hw rfl rfl ?_ ?_|refine Qaz (hn _) rfl rfl ?_ ?_|refine Qaz (hld (by assumption) (by simp only[decide_eq_true_eq]at *;omega)) rfl rfl ?_ ?_|exact gxQ|refine And.intro ?_ ?_|(intro hc;(first|rw[wS (by omega) (by omega)]at hc|rw[Qab]at hc|skip);try (conv=>cbv))
 all_goals try simp only[decide_eq_true_eq,decide_eq_false_iff_not]at*
 all_goals try (refine no λh=> ?_;obtain⟨h1,h2,h3,h4,_⟩:=h;first|omega|(rw[h1]at hc;cases hc;done)|(rw[h4]at hc;cases hc;done)|(have:=‹ob=false›;rw[h4]at this;cases this;done))
 refine QaT to.length (λ(i:Int)=>[(2,.c (.ptr 0 0 0 0)),(3,.c (.ptr 1 0 0 0)),(35,.c (.d (.list false 3 el))),(36,iA (Λ el)),(37,iA i)]) (λ_=>[.bx [.d (.int .i64 nodes),.d (.list false 1 ol),.d (.list false 7 ll)],.bx [.d (.int .i64 node),.d (.list false 3 el),.d (.list false 1 dl)]]) (λk i=>i=k/\k<=to.length/\∀(j:Nat) (e:Ety),j<k->to[j]? =some e->eb j e=true) 0 (Wk.cw) ⟨rfl,by omega,by simp⟩ (λk s h=>h.2.1) ?_;rintro k i Q' ⟨hi,hk,hok⟩ norm ex rt;by_cases hlt:k<to.length
 ·obtain⟨x,hx⟩:∃x,to[k]? =some x:=⟨_,lgE hlt⟩;have hxa:=QdB elh hi hx;obtain⟨arcs,rep,push⟩:=x;have hpx:=hp ⟨arcs,rep,push⟩ i (by assumption) (by omega);simp only[QyD,Qax,Qav,QaG]at hxa hpx;generalize List.map QaC arcs=al at*;generalize List.map Qaf push=pl at*
  conv=>cbv
  repeat' first|(refine ex _ _ _ ?_;(conv=>cbv))|(refine rt _ _ ?_;(conv=>cbv))|refine Qaz hpx rfl rfl ?_ ?_|(intro e he;cases osj (he.symm.trans hxa);(conv=>cbv))|exact gxQ|refine And.intro ?_ ?_|(intro hc;(first|rw[wS (by omega) (by omega)]at hc|rw[Qab]at hc|skip);try (conv=>cbv))
  ·refine norm _ _ _ ?_ (Wk.cw);refine⟨by omega,by omega,λj e hj he=> ?_⟩;rcases Nat.lt_or_ge j k with h|h
   ·exact hok j e h he
   ·obtain rfl:j=k:=by omega
    rw[hx]at he;cases he;rw[<-hi];assumption
  ·refine no λh=> ?_
   have:=h.2.2.2.2 k _ hx;rw[<-hi,hc]at this;cases this
 ·conv=>cbv
  repeat' first|(refine ex _ _ _ ?_;(conv=>cbv))|(refine rt _ _ ?_;(conv=>cbv))|exact gxQ|refine And.intro ?_ ?_|(intro hc;(first|rw[wS (by omega) (by omega)]at hc|rw[Qab]at hc|skip);try (conv=>cbv))
  exact yes ⟨by assumption,by omega,by omega,by assumption,λj e he=>hok j e (by have:=Qaa he;omega) he⟩
theorem Qgq(P:Program)(hP:P=Tryz.prog)(t:Top)(x:Tab):Ret P Qha [QaU t,Qls x] (bA (Qh6 t x)):=by
  refine Qah (hP▸mixed) (hP▸Qll) (hP▸QmB) (nle rfl) λΛ Λo K hK=> ?_
  have hw:=Qgd P hP t;have hl:=λl=>Qqm P hP t x.node l
  have hg:=Qzz P hP t;clear hP;have yes:(Qao t=true/\(0<=x.node/\x.node<t.nodes)/\(x.to.length:Int)=t.nodes/\Qnm t x.node x.down=true/\∀(i:Nat) (e:Ety),x.to[i]? =some e->Qs6 t x.node i e=true)->K (bA true):=λh=>by
    rw[Qci.2 h]at hK;exact hK
  have no:¬(Qao t=true/\(0<=x.node/\x.node<t.nodes)/\(x.to.length:Int)=t.nodes/\Qnm t x.node x.down=true/\∀(i:Nat) (e:Ety),x.to[i]? =some e->Qs6 t x.node i e=true)->K (bA false):=λh=>by
    rw[show Qh6 t x=false from Bool.eq_false_iff.2 λh'=>h (Qci.1 h')]at hK;exact hK
  clear hK;obtain⟨node,to,down⟩:=x;have hld:=hl down;have hes:=λd e=> @Qfw t node d e
  simp only[Qls,Qea,Qay,Qav,Qz9]at*;generalize Qnm t node=ob at*;generalize Qs6 t node=eb at*;generalize Qao t=v at*;generalize QsP t=sb at*;generalize elh:List.map Qax to=el at*;have eln:Λ el=to.length:=by rw[Λo,<-elh];simp
  generalize dlh:List.map QaC down=dl at*;have dln:Λ dl=down.length:=by rw[Λo,<-dlh];simp
  obtain⟨nodes,ov,links⟩:=t;simp only[QaU,Qag,Qai]at*;generalize hol:ov.map Qbq=ol at*;generalize hll:links.map QaD=ll at*;have hlo:Λ ol=ov.length:=by rw[Λo,<-hol];simp
  have hls:Λ ll=links.length:=by rw[Λo,<-hll];simp
  conv=>cbv
  repeat' first|refine Qaz hw rfl rfl ?_ ?_|refine Qaz hld rfl rfl ?_ ?_|exact gxQ|refine And.intro ?_ ?_|(intro hc;(first|rw[wS (by omega) (by omega)]at hc|rw[Qab]at hc|skip);try (conv=>cbv))
  all_goals try (refine no λh=> ?_;obtain⟨h1,h2,h3,h4,_⟩:=h;first|omega|(rw[h1]at hc;cases hc;done)|(rw[h4]at hc;cases hc;done))
  refine QaT to.length (λ(i:Int)=>[(2,.c (.ptr 0 0 0 0)),(3,.c (.ptr 1 0 0 0)),(5,iA i)]) (λ_=>[.bx [.d (.int .i64 nodes),.d (.list false 1 ol),.d (.list false 7 ll)],.bx [.d (.int .i64 node),.d (.list false 3 el),.d (.list false 1 dl)]]) (λk i=>i=k/\k<=to.length/\∀(j:Nat) (e:Ety),j<k->to[j]? =some e->eb j e=true) 0 (Wk.cw) ⟨rfl,by omega,by simp⟩ (λk s h=>h.2.1) ?_;rintro k i Q' ⟨hi,hk,hok⟩ norm exo rto;by_cases hlt:k<to.length
  · obtain⟨x,hx⟩:∃x,to[k]? =some x:=⟨_,lgE hlt⟩
    have hxa:=QdB elh hi hx;obtain⟨arcs,rep,push⟩:=x;have hlx:=hl arcs;have hesx:=hes i ⟨arcs,rep,push⟩;have bad:¬eb i ⟨arcs,rep,push⟩=true->K (bA false):=λh=>no λh'=>h (by rw[hi];exact h'.2.2.2.2 k _ hx)
    simp only[Qax,Qav,QaG]at hxa hlx hesx;generalize alh:List.map QaC arcs=al at*;have aln:Λ al=arcs.length:=by rw[Λo,<-alh];simp
    generalize plh:List.map Qaf push=pl at*;have pln:Λ pl=push.length:=by rw[Λo,<-plh];simp
    cases rep
    all_goals
      conv=>cbv
      repeat' first|(refine rto _ _ ?_;(conv=>cbv))|refine Qaz hlx rfl rfl ?_ ?_|(intro e he;cases osj (he.symm.trans hxa);(conv=>cbv))|exact gxQ|refine And.intro ?_ ?_|(intro hc;(first|rw[wS (by omega) (by omega)]at hc|rw[Qab]at hc|skip);try (conv=>cbv))
    all_goals try (refine bad λh=> ?_;obtain⟨h1,h2,h3,h4,_⟩:=hesx.1 h;first|omega|(have:=h3 rfl;omega)|(have:=h4 rfl;omega)|(rw[h1]at hc;cases hc;done))
    all_goals
      refine QaT push.length (λ(i':Int)=>[(2,.c (.ptr 0 0 0 0)),(3,.c (.ptr 1 0 0 0)),(5,iA i),(6,.c (.ptr 2 0 0 0)),(7,iA i')]) (λ_=>[.bx [.d (.int .i64 nodes),.d (.list false 1 ol),.d (.list false 7 ll)],.bx [.d (.int .i64 node),.d (.list false 3 el),.d (.list false 1 dl)],.bx [.d (.list false 1 al),.d (.bool _),.d (.list false 2 pl)]]) (λk i=>i=k/\k<=push.length/\∀s∈push.take k,sb s=true) 0 (Wk.cw) ⟨rfl,by omega,by simp⟩ (λk s h=>h.2.1) ?_
    all_goals
      rintro k2 i2 Q2 ⟨hi2,hk2,hok2⟩ norm2 ex rt;by_cases hlt2:k2<push.length
      · obtain⟨s,hs⟩:∃s,push[k2]? =some s:=⟨_,lgE hlt2⟩
        have hsa:=QdB plh hi2 hs;obtain⟨xk,xn⟩:=s;have hgx:=hg ⟨xk,xn⟩
        conv=>cbv
        repeat' first|(refine ex _ _ _ ?_;(conv=>cbv))|(refine rt _ _ ?_;(conv=>cbv))|(refine rto _ _ ?_;(conv=>cbv))|refine Qaz hgx rfl rfl ?_ ?_|(intro e he;cases osj (he.symm.trans hsa);(conv=>cbv))|exact gxQ|refine And.intro ?_ ?_|(intro hc;(first|rw[wS (by omega) (by omega)]at hc|rw[Qab]at hc|skip);try (conv=>cbv))
        all_goals first
          |(refine bad λh=> ?_
            have:=(hesx.1 h).2.2.2.2 _ (mgE hs);rw[this,‹v=true›]at hc;cases hc;done)
          |(refine norm2 _ _ _ ?_ (Wk.cw)
            refine⟨by omega,by omega,λs' hs'=> ?_⟩;rw[Qam hs]at hs';rcases List.mem_append.1 hs' with h|h
            · exact hok2 s' h
            · simp only[List.mem_singleton]at h;subst h
              have hvs:(v&&sb ⟨xk,xn⟩)=true:=by assumption
              simp only[Bool.and_eq_true]at hvs;exact hvs.2)
      · conv=>cbv
        repeat' first|(refine ex _ _ _ ?_;(conv=>cbv))|(refine rt _ _ ?_;(conv=>cbv))|exact gxQ|refine And.intro ?_ ?_|(intro hc;(first|rw[wS (by omega) (by omega)]at hc|rw[Qab]at hc|skip);try (conv=>cbv))
        refine norm _ _ _ ?_ (Wk.cw);refine⟨by omega,by omega,λj e hj he=> ?_⟩;rcases Nat.lt_or_ge j k with h|h
        · exact hok j e h he
        · obtain rfl:j=k:=by omega
          rw[hx]at he;cases he;rw[<-hi];rw[tkQ (by omega)]at hok2;exact hesx.2 ⟨by assumption,by omega,by first|(intro h;cases h;done)|(intro _;omega),by first|(intro h;cases h;done)|(intro _;omega),hok2⟩
  · conv=>cbv
    repeat' first|(refine exo _ _ _ ?_;(conv=>cbv))|exact gxQ|refine And.intro ?_ ?_|(intro hc;(first|rw[wS (by omega) (by omega)]at hc|rw[Qab]at hc|skip);try (conv=>cbv))
    exact yes ⟨by assumption,by omega,by omega,by assumption,λj e he=>hok j e (by have:=Qaa he;omega) he⟩
theorem QmG(P:Program)(hP:P=Tryz.prog)(ll:List (List D))(hl:ll.length<=1000000):Ret P QaM [.c (.d (.list false 2 ll))] (.c (.d (.list false 2 ll))):=by
 refine Qah (hP▸mixed) (hP▸QbV) (hP▸Qb0) (nle rfl) λΛ Λo K hK=> ?_
 clear hP;have h0:ll=[]->K (.c (.d (.list false 2 []))):=λh=>by rw[h]at hK;exact hK
 have lln:=Λo ll
 conv=>cbv
 repeat' first|exact gxQ|refine And.intro ?_ ?_|(intro hc;(first|rw[wS (by omega) (by omega)]at hc|rw[Qab]at hc|skip);try (conv=>cbv))
 ·rename_i m r es hm hr hes ls;have:ls=ll:=by subst hc hes hm;simp
  rw[this];exact hK
 ·exact h0 hc
theorem Qog(P:Program)(hP:P=Tryz.prog)(l:List Seg)(hl:l.length<=1000000):Ret P QaM [Qco l] (Qco l):=
 QmG P hP _ (by rw[List.length_map];exact hl)
theorem QgX(P:Program)(hP:P=Tryz.prog)(ll:List (List D))(hl:ll.length<=1000000):Ret P QaF [.c (.d (.list false 1 ll))] (.c (.d (.list false 1 ll))):=by
 refine Qah (hP▸mixed) (hP▸QbB) (hP▸QbI) (nle rfl) λΛ Λo K hK=> ?_
 clear hP;have h0:ll=[]->K (.c (.d (.list false 1 []))):=λh=>by rw[h]at hK;exact hK
 have lln:=Λo ll
 conv=>cbv
 repeat' first|exact gxQ|refine And.intro ?_ ?_|(intro hc;(first|rw[wS (by omega) (by omega)]at hc|rw[Qab]at hc|skip);try (conv=>cbv))
 ·rename_i m r es hm hr hes ls;have:ls=ll:=by subst hc hes hm;simp
  rw[this];exact hK
 ·exact h0 hc
theorem Qib(P:Program)(hP:P=Tryz.prog)(l:List Int)(hl:l.length<=1000000):Ret P QaF [Qay l] (Qay l):=
 QgX P hP _ (by rw[List.length_map];exact hl)
def QjU(l:List Seg):List D:=[QaG l]
theorem Qyq{P:Program}{m:Nat}{L:Lv}{h:Hp}{f:Nat}{fn:Func}{af:AF}{xs:List X}{K:Lv->AV->Hp->Prop}(hm:P.follows .mixedOrders=true)(hf:P.funcs[f]? =some fn)(hc:QaA P fn=some af)(hl:(Qic L xs).length<=af.nt)
 (hv:∀Λ:Len,(∀l,Λ l=(l.length:Int))->vcH P Λ af (Qic L xs) h (K L)):CallS P m false L h f xs K:= .fn (QpV hm hf hc hl hv)
def Qdf(l:List (List Seg)):Nat:=(l.map List.length).sum
theorem QkP{l:List (List Seg)}{k:Nat}{x:List Seg}(h:l[k]? =some x):Qdf (l.take (k+1))=Qdf (l.take k)+x.length:=by
 rw[Qam h];simp[Qdf]
theorem Qhq(l:List (List Seg))(k:Nat):Qdf (l.take k)<=Qdf l:=by
 have:Qdf l=Qdf (l.take k)+Qdf (l.drop k):=by
  conv=>lhs;rw[<-List.take_append_drop k l]
  simp[Qdf,-List.take_append_drop]
 omega
theorem Qv3(l:List (List Seg)):l.flatten.length=Qdf l:=by simp[Qdf,List.length_flatten]
theorem QmH(P:Program)(hP:P=Tryz.prog)(l:List (List Seg))(hl:Qdf l<=1000000):Ret P Qa3 [.c (.d (.list false 1 (l.map QjU)))] (Qco l.flatten):=by
 refine Qah (hP▸mixed) (hP▸QbR) (hP▸QbT) (nle rfl) λΛ Λo K hK=> ?_
 have gm:P.follows .mixedOrders=true:=hP▸mixed;have gf:=hP▸Qb3;have gc:=hP▸Qb6;clear hP;generalize llh:l.map QjU=ll at*;have lln:Λ ll=l.length:=by rw[Λo,<-llh];simp
 conv=>cbv
 repeat' first|exact gxQ|refine And.intro ?_ ?_|(intro hc;(first|rw[wS (by omega) (by omega)]at hc|rw[Qab]at hc|skip);try (conv=>cbv))
 refine QaT l.length (λ(s:Int×Int)=>[(0,.c (.d (.list false 1 ll))),(3,iA s.2),(9,.c (.d (.list false 1 ll))),(10,iA (Λ ll)),(11,iA s.1)]) (λ_=>[]) (λk s=>s.1=k/\k<=l.length/\s.2=Qdf (l.take k)) (0,0) (Wk.cw) ⟨rfl,by omega,by simp[Qdf]⟩ (λk s h=>h.2.1) ?_;rintro k ⟨i,sz⟩ Q' ⟨hi,hk,hsz⟩ norm ex rt;simp only at hi hsz;have hle:=Qhq l k;by_cases hlt:k<l.length
 ·obtain⟨x,hx⟩:∃x,l[k]? =some x:=⟨_,lgE hlt⟩;have hxa:=QdB llh hi hx;have hst:=QkP hx;have hle2:=Qhq l (k+1);simp only[QjU,QaG]at hxa;generalize xlh:List.map Qaf x=xl at*;have xln:Λ xl=x.length:=by rw[Λo,<-xlh];simp
  conv=>cbv
  repeat' first|(refine ex _ _ _ ?_;(conv=>cbv))|(refine rt _ _ ?_;(conv=>cbv))|(intro e he;cases osj (he.symm.trans hxa);(conv=>cbv))|exact gxQ|refine And.intro ?_ ?_|(intro hc;(first|rw[wS (by omega) (by omega)]at hc|rw[Qab]at hc|skip);try (conv=>cbv))
  refine norm _ _ (_,_) ?_ (Wk.cw);exact⟨by simp only;omega,by omega,by simp only;omega⟩
 ·conv=>cbv
  repeat' first|(refine ex _ _ _ ?_;(conv=>cbv))|(refine rt _ _ ?_;(conv=>cbv))|exact gxQ|refine And.intro ?_ ?_|(intro hc;(first|rw[wS (by omega) (by omega)]at hc|rw[Qab]at hc|skip);try (conv=>cbv))
  clear norm ex rt;rw[tkQ (by omega)]at hsz;refine Qyq gm gf gc (nle rfl) λΛ' Λo'=> ?_
  have hΛ0:Λ' []=0:=by rw[Λo'];rfl
  conv=>cbv
  repeat' first|exact gxQ|refine And.intro ?_ ?_|(intro hc;(first|rw[wS (by omega) (by omega)]at hc|rw[Qab]at hc|skip);try (conv=>cbv))
  all_goals (clear gm gf gc)
  all_goals first
   |refine QaT l.length (λ(s:Int×Nat×Nat×Bool×List (List D))=>[(6,.c (.arr 0 s.2.1 0 s.2.2.1)),(25,.c (.d (.list false 1 ll))),(26,iA (Λ ll)),(27,iA s.1)]) (λs=>[.da s.2.2.2.1 s.2.1 2 s.2.2.2.2]) (λk s=>s.1=k/\k<=l.length/\s.2.2.1=Qdf (l.take k)/\s.2.2.2.2.take s.2.2.1=(l.take k).flatten.map Qaf) (0,0,_,_,_) (Wk.cw) ⟨rfl,by omega,?_,?_⟩ (λk s h=>h.2.1) ?_
   |refine QaT l.length (λ(s:Int×Nat×Nat×Bool×List (List D))=>[(6,.c (.arr 0 s.2.1 0 s.2.2.1)),(25,.c (.d (.list false 1 ll))),(26,iA (Λ ll)),(27,iA s.1)]) (λs=>[.da s.2.2.2.1 s.2.1 2 s.2.2.2.2]) (λk s=>s.1=k/\k<=l.length/\s.2.2.1=Qdf (l.take k)/\s.2.2.2.2.take s.2.2.1=(l.take k).flatten.map Qaf) (0,0,0,false,[]) (.trans (.nilS 6 2 rfl) (Wk.cw)) ⟨rfl,by omega,rfl,rfl⟩ (λk s h=>h.2.1) ?_
  ·rename_i n0 hn0;rw[show n0=0 by omega];rfl
  ·rename_i n0 hn0;rw[show n0=0 by omega];rfl
  all_goals clear hle hlt hi hk
  all_goals rintro k ⟨i,v,n,r,es⟩ Q' ⟨hi,hk,hn,hes⟩ norm ex rt
  all_goals simp only at hi hes hn
  all_goals have hle:=Qhq l k
  all_goals by_cases hlt:k<l.length
  case pos|pos=>
   obtain⟨x,hx⟩:∃x,l[k]? =some x:=⟨_,lgE hlt⟩;have hxa:=QdB llh hi hx;have hst:=QkP hx;have hle2:=Qhq l (k+1);simp only[QjU,QaG]at hxa;generalize xlh:List.map Qaf x=xl at*;have xln:Λ xl=x.length:=by rw[Λo,<-xlh];simp
   have xll:xl.length=x.length:=by rw[<-xlh];simp
   conv=>cbv
   repeat' first|(refine ex _ _ _ ?_;(conv=>cbv))|(refine rt _ _ ?_;(conv=>cbv))|(intro e he;cases osj (he.symm.trans hxa);(conv=>cbv))|(intro(_:Unit);refine⟨rfl,?_⟩;rw[xll];omega)|exact gxQ|refine And.intro ?_ ?_|(intro hc;(first|rw[wS (by omega) (by omega)]at hc|rw[Qab]at hc|skip);try (conv=>cbv))
   rename_i m r' es' hm hr he' _;refine norm _ _ (_,_,_,_,_) ?_ (Wk.cw);refine⟨by simp only;omega,by omega,by simp only;omega,?_⟩;simp only;rw[hm,he',Qam hx,List.drop_zero,xll,hes,<-xlh];have:n=(List.map Qaf (List.take k l).flatten).length:=by rw[List.length_map,Qv3];exact hn
   rw[tkQ (by simp only[List.length_append,List.length_map]at this |-;omega)];simp
  all_goals
   conv=>cbv
   repeat' first|(refine ex _ _ _ ?_;(conv=>cbv))|(refine rt _ _ ?_;(conv=>cbv))|exact gxQ|refine And.intro ?_ ?_|(intro hc;(first|rw[wS (by omega) (by omega)]at hc|rw[Qab]at hc|skip);try (conv=>cbv))
   rename_i ls;have:ls=l.flatten.map Qaf:=by rw[hc,List.drop_zero,hes,tkQ (by omega)]
   subst this;exact hK
theorem QqK(P:Program)(hP:P=Tryz.prog)(p:Pkt)(l:List Seg)(hl:l.length<=1000000):Ret P Qgl [QbK p,Qco l] (QbK {p with stack:=l}):=by
 have hq:=Qog P hP l hl;refine Qah (hP▸mixed) (hP▸Qj6) (hP▸Qk8) (nle rfl) λΛ Λo K hK=> ?_
 clear hP;obtain⟨id,src,dst,flow,stack,hops⟩:=p;simp only[Qco,QaG,QbK]at*;generalize llh:List.map Qaf l=ll at*;generalize slh:List.map Qaf stack=sl at*
 conv=>cbv
 repeat' first|(refine Qan hq rfl rfl ?_;conv=>cbv)|exact gxQ|refine And.intro ?_ ?_|(intro hc;(first|rw[wS (by omega) (by omega)]at hc|rw[Qab]at hc|skip);try (conv=>cbv))
 exact hK
def QrU(arcs:List Int)(p:Pkt)(r:Int):AV:= .tup [Qay arcs,QbK p,iA r]
theorem QtO(P:Program)(hP:P=Tryz.prog)(p:Pkt)(r:Int)(hl:p.stack.length<=1000000):Ret P Qgk [QbK p,iA r] (QrU [] p r):=by
 have hq:=QqK P hP p p.stack hl;refine Qah (hP▸mixed) (hP▸Qj5) (hP▸Qk7) (nle rfl) λΛ Λo K hK=> ?_
 clear hP;obtain⟨id,src,dst,flow,stack,hops⟩:=p;simp only[Qco,QaG,QbK,QrU,Qay,Qav,List.map_nil]at*;generalize slh:List.map Qaf stack=sl at*
 conv=>cbv
 repeat' first|(refine Qan hq rfl rfl ?_;conv=>cbv)|exact gxQ|refine And.intro ?_ ?_|(intro hc;(first|rw[wS (by omega) (by omega)]at hc|rw[Qab]at hc|skip);try (conv=>cbv))
 exact hK
theorem Qne(P:Program)(hP:P=Tryz.prog)(p:Pkt)(l:List Seg)(arcs:List Int)(hl:l.length<=1000000)(ha:arcs.length<=1000000)(h0: -1000<=p.hops)(h1:p.hops<=1000):Ret P QfC [QbK p,Qco l,Qay arcs] (QrU arcs {p with stack:=l,hops:=p.hops+1} 0):=by
 have hq:=QqK P hP p l hl;have hr:=Qib P hP arcs ha;refine Qah (hP▸mixed) (hP▸Qi1) (hP▸QjH) (nle rfl) λΛ Λo K hK=> ?_
 clear hP;obtain⟨id,src,dst,flow,stack,hops⟩:=p;simp only[Qco,QaG,QbK,QrU,Qay,Qav]at*;generalize slh:List.map Qaf stack=sl at*;generalize llh:List.map Qaf l=ll at*;generalize alh:List.map QaC arcs=al at*
 conv=>cbv
 repeat' first|(refine Qan hq rfl rfl ?_;conv=>cbv)|(refine Qan hr rfl rfl ?_;conv=>cbv)|exact gxQ|refine And.intro ?_ ?_|(intro hc;(first|rw[wS (by omega) (by omega)]at hc|rw[Qab]at hc|skip);try (conv=>cbv))
 all_goals (subst hc;exact hK)
def Qeu(p:Pkt)(l:List Seg)(arcs:List Int):List Int×Pkt×Int:=(arcs,{p with stack:=l,hops:=p.hops+1},0)
def Qdo(p:Pkt)(l:List Seg)(e:Ety):List Int×Pkt×Int:=
 if e.rep=true then (if (e.push++l.drop 1).length>32 then ([],p,5)else Qeu p (e.push++l.drop 1) e.arcs)else Qeu p l e.arcs
abbrev Qgg (x:List Int×Pkt×Int):AV:=QrU x.1 x.2.1 x.2.2
theorem QvT(P:Program)(hP:P=Tryz.prog)(p:Pkt)(l:List Seg)(e:Ety)(hl:l.length<=100000)(hs:p.stack.length<=1000000)(ha:e.arcs.length<=1000000)(hp:e.push.length<=100000)(h0: -1000<=p.hops)(h1:p.hops<=1000):
  Ret P QfB [QbK p,Qco l,QyD e] (Qgg (Qdo p l e)):=by
 obtain⟨arcs,rep,push⟩:=e;have hdrop:=QtO P hP p 5 hs;have hleave:=Qne P hP p l arcs (by omega) ha h0 h1;have hcat:=QmH P hP [push,l.drop 1] (by simp[Qdf];simp only at hp;omega);have hleave2:=Qne P hP p (push++l.drop 1) arcs (by simp;simp only at hp;omega) ha h0 h1;refine Qah (hP▸mixed) (hP▸Qi0) (hP▸QjG) (nle rfl) λΛ Λo K hK=> ?_
 clear hP;have k0:rep=false->K (Qgg (Qeu p l arcs)):=by intro h;subst h;simpa [Qdo]using hK
 have k1:rep=true->(push++l.drop 1).length>32->K (Qgg ([],p,5)):=by
  intro h h';subst h;simp only[Qdo,if_true]at hK;rw[if_pos h']at hK;exact hK
 have k2:rep=true->¬(push++l.drop 1).length>32->K (Qgg (Qeu p (push++l.drop 1) arcs)):=by
  intro h h';subst h;simp only[Qdo,if_true]at hK;rw[if_neg h']at hK;exact hK
 clear hK;simp only at ha hp;obtain⟨id,src,dst,flow,stack,hops⟩:=p;simp only[Qco,QaG,QbK,QrU,Qay,Qav,QyD,Qgg,Qeu,List.map_nil,List.map_cons,QjU,List.flatten_cons,List.flatten_nil,List.append_nil]at*;have hcl:Λ (List.map Qaf (push++l.drop 1))=(push++l.drop 1).length:=by rw[Λo];simp
 generalize clh:push++l.drop 1=c at*;generalize cmh:List.map Qaf c=cm at*;generalize slh:List.map Qaf stack=sl at*;generalize plh:List.map Qaf push=pl at*;simp only[List.map_drop]at*;generalize llh:List.map Qaf l=ll at*;have lln:Λ ll=l.length:=by rw[Λo,<-llh];simp
 generalize tlh:List.drop 1 ll=tl at*;generalize alh:List.map QaC arcs=al at*;cases rep
 all_goals (conv=>cbv)
 all_goals (repeat' first|(refine Qan hleave rfl rfl ?_;conv=>cbv)|(refine Qan hdrop rfl rfl ?_;conv=>cbv)|(refine Qan hleave2 rfl rfl ?_;conv=>cbv)|exact gxQ|refine And.intro ?_ ?_|(intro hc;(first|rw[wS (by omega) (by omega)]at hc|rw[Qab]at hc|skip);try (conv=>cbv)))
 all_goals (try exact k0 rfl)
 ·rename_i tl';have e:tl'=tl:=hc.trans tlh;subst e
  (refine Qly 3 0 1 2 rfl rfl (by repeat' first|exact trivial|refine And.intro ?_ ?_|rfl) (by repeat' first|exact trivial|refine And.intro ?_ ?_|rfl) ?_;conv=>cbv)
  (refine Qan hcat rfl rfl ?_;conv=>cbv)
  repeat' first|(refine Qan hleave2 rfl rfl ?_;conv=>cbv)|(refine Qan hdrop rfl rfl ?_;conv=>cbv)|exact gxQ|refine And.intro ?_ ?_|(intro hc;(first|rw[wS (by omega) (by omega)]at hc|rw[Qab]at hc|skip);try (conv=>cbv))
  ·exact k1 rfl (by omega)
  ·exact k2 rfl (by omega)
 ·have e:tl=ll:=by
   rw[<-tlh];have h0:ll.length=0:=by rw[Λo]at hc;omega
   rw[lzQ h0];rfl
  subst e
  (refine Qly 3 0 1 2 rfl rfl (by repeat' first|exact trivial|refine And.intro ?_ ?_|rfl) (by repeat' first|exact trivial|refine And.intro ?_ ?_|rfl) ?_;conv=>cbv)
  (refine Qan hcat rfl rfl ?_;conv=>cbv)
  repeat' first|(refine Qan hleave2 rfl rfl ?_;conv=>cbv)|(refine Qan hdrop rfl rfl ?_;conv=>cbv)|exact gxQ|refine And.intro ?_ ?_|(intro hc;(first|rw[wS (by omega) (by omega)]at hc|rw[Qab]at hc|skip);try (conv=>cbv))
  ·exact k1 rfl (by omega)
  ·exact k2 rfl (by omega)
abbrev Ans:=List Int×Pkt×Int
def ent(x:Tab)(n:Int):Ety:=x.to.getD n.toNat default
def QeC(t:Top)(x:Tab)(p:Pkt):Ans:=
 if p.dst=x.node then ([],{p with stack:=[]},-1)
 else if p.hops<0\/255<=p.hops then ([],p,4)
 else if (0<=p.dst/\p.dst<t.nodes)/\0<(ent x p.dst).arcs.length then Qdo p [] (ent x p.dst)else ([],p,1)
def QfL(t:Top)(x:Tab)(p:Pkt):List Seg->Ans
 |[]=>QeC t x p
 |s::r=>
  if p.hops<0\/255<=p.hops then ([],p,4)
  else if s.kind=1 then (if (0<=s.num/\s.num<t.nodes)/\0<(ent x s.num).arcs.length then Qdo p (s::r) (ent x s.num)else QeC t x p)
  else if s.kind=2 then (if (0<=s.num/\s.num<2*t.links.length)/\Qgf t s.num=x.node then (if s.num∈x.down then QeC t x p else Qeu p r [s.num])else ([],p,2))
  else ([],p,1)
def Qfq(n:Int)(l:List Seg):List Seg:=l.dropWhile λs=>decide (s=⟨1,n⟩)
def Qh4(t:Top)(x:Tab)(p:Pkt):Ans:=
 if Qh6 t x=true/\0<=p.dst/\p.dst<t.nodes then (if p.stack.length>32 then ([],p,5)else QfL t x p (Qfq x.node p.stack))else ([],p,1)
theorem Qzg{K:Ans->Prop}{t:Top}{x:Tab}{p:Pkt}(h:K (QeC t x p)):
  (p.dst=x.node->K ([],{p with stack:=[]},-1))/\(p.dst≠x.node->(p.hops<0\/255<=p.hops)->K ([],p,4))/\
  (p.dst≠x.node->¬(p.hops<0\/255<=p.hops)->(0<=p.dst/\p.dst<t.nodes)->0<(ent x p.dst).arcs.length->K (Qdo p [] (ent x p.dst)))/\
  (p.dst≠x.node->¬(p.hops<0\/255<=p.hops)->¬((0<=p.dst/\p.dst<t.nodes)/\0<(ent x p.dst).arcs.length)->K ([],p,1)):=by
 unfold QeC at h;refine⟨λh1=> ?_,λh1 h2=> ?_,λh1 h2 h3 h4=> ?_,λh1 h2 h3=> ?_⟩
 ·rw[if_pos h1]at h;exact h
 ·rw[if_neg h1,if_pos h2]at h;exact h
 ·rw[if_neg h1,if_neg h2,if_pos ⟨h3,h4⟩]at h;exact h
 ·rw[if_neg h1,if_neg h2,if_neg h3]at h;exact h
theorem Qzy{K:Ans->Prop}{t:Top}{x:Tab}{p:Pkt}{s:Seg}{r:List Seg}(h:K (QfL t x p (s::r))):
  ((p.hops<0\/255<=p.hops)->K ([],p,4))/\
  (¬(p.hops<0\/255<=p.hops)->s.kind=1->(0<=s.num/\s.num<t.nodes)->0<(ent x s.num).arcs.length->K (Qdo p (s::r) (ent x s.num)))/\
  (¬(p.hops<0\/255<=p.hops)->s.kind=1->¬((0<=s.num/\s.num<t.nodes)/\0<(ent x s.num).arcs.length)->K (QeC t x p))/\
  (¬(p.hops<0\/255<=p.hops)->s.kind=2->¬((0<=s.num/\s.num<2*t.links.length)/\Qgf t s.num=x.node)->K ([],p,2))/\
  (¬(p.hops<0\/255<=p.hops)->s.kind=2->(0<=s.num/\s.num<2*t.links.length)->Qgf t s.num=x.node->s.num∈x.down->K (QeC t x p))/\
  (¬(p.hops<0\/255<=p.hops)->s.kind=2->(0<=s.num/\s.num<2*t.links.length)->Qgf t s.num=x.node->s.num∉x.down->K (Qeu p r [s.num]))/\
  (¬(p.hops<0\/255<=p.hops)->s.kind≠1->s.kind≠2->K ([],p,1)):=by
 simp only[QfL]at h;refine⟨λh1=> ?_,λh1 h2 h3 h4=> ?_,λh1 h2 h3=> ?_,λh1 h2 h3=> ?_,λh1 h2 h3 h4 h5=> ?_,λh1 h2 h3 h4 h5=> ?_,λh1 h2 h3=> ?_⟩
 ·rw[if_pos h1]at h;exact h
 ·rw[if_neg h1,if_pos h2,if_pos ⟨h3,h4⟩]at h;exact h
 ·rw[if_neg h1,if_pos h2,if_neg h3]at h;exact h
 ·rw[if_neg h1,if_neg (by omega),if_pos h2,if_neg h3]at h;exact h
 ·rw[if_neg h1,if_neg (by omega),if_pos h2,if_pos ⟨h3,h4⟩,if_pos h5]at h;exact h
 ·rw[if_neg h1,if_neg (by omega),if_pos h2,if_pos ⟨h3,h4⟩,if_neg h5]at h;exact h
 ·rw[if_neg h1,if_neg h2,if_neg h3]at h;exact h
def Fit(x:Tab)(p:Pkt):Prop:=(∀e∈x.to,e.arcs.length<=1000/\e.push.length<=1000)/\p.stack.length<=1000
abbrev Qpa (nodes:Int) (ol ll:List (List D)) (node:Int) (tl dl:List (List D)) (id src dst flow:Int) (sl:List (List D)) (hops:Int):Hp:=
  [.bx [.d (iD nodes),.d (.list false 1 ol),.d (.list false 7 ll)],.bx [.d (iD node),.d (.list false 3 tl),.d (.list false 1 dl)],
   .bx [.d (iD id),.d (iD src),.d (iD dst),.d (iD flow),.d (.list false 2 sl),.d (iD hops)],.bx [.d (iD 0),.d (iD 0),.d (iD 0),.d (iD 0),.d (.list true 2 []),.d (iD 0)]]
abbrev Qu4 (l:List (List D)):Lv:=[(3,.c (.ptr 0 0 0 0)),(4,.c (.ptr 1 0 0 0)),(5,.c (.ptr 2 0 0 0)),(6,.c (.d (.list true 1 []))),(7,.c (.ptr 3 0 0 0)),(8,iA 0),(9,.c (.d (.list false 2 l)))]
set_option maxHeartbeats 4000000 in
theorem Qu6(P:Program)(hP:P=Tryz.prog)(t:Top)(x:Tab)(p:Pkt)(hf:Fit x p):Ret P Qed [QaU t,Qls x,QbK p] (Qgg (Qh4 t x p)):=by
 obtain⟨hf1,hf2⟩:=hf;have hval:=Qhr P hP t x;have hnode:=λn=>Qg3 P hP t n
 have harc:=λn=>Qp7 P hP t n
 have htail:=λn=>Qm9 P hP t n
 have hcont:=λn=>QpM P hP x.down n
 have hdrop:=λr=>QtO P hP p r (by omega)
 have hwith:=QqK P hP p [] (by simp);have hleave:=λr n=>Qne P hP p r [n]
 have henter:=λl e=>QvT P hP p l e
 refine Qah (hP▸mixed) (hP▸Qj4) (hP▸Qk6) (nle rfl) λΛ Λo K hK=> ?_
 clear hP;have k1:¬(Qh6 t x=true/\0<=p.dst/\p.dst<t.nodes)->K (Qgg ([],p,1)):=by
  intro h;unfold Qh4 at hK;rw[if_neg h]at hK;exact hK
 have k2:(Qh6 t x=true/\0<=p.dst/\p.dst<t.nodes)->p.stack.length>32->K (Qgg ([],p,5)):=by
  intro h h';unfold Qh4 at hK;rw[if_pos h,if_pos h']at hK;exact hK
 have k3:(Qh6 t x=true/\0<=p.dst/\p.dst<t.nodes)->¬p.stack.length>32->K (Qgg (QfL t x p (Qfq x.node p.stack))):=by
  intro h h';unfold Qh4 at hK;rw[if_pos h,if_neg h']at hK;exact hK
 clear hK;have hspec:= @Qci t x;have hpk:= @Qzg (λa=>K (Qgg a)) t x p;have hrk:= @Qzy (λa=>K (Qgg a)) t x p;have hskip:∀s r,s=⟨1,x.node⟩->Qfq x.node (s::r)=Qfq x.node r:=by intro s r h;subst h;simp[Qfq]
 have hskip':∀s r,s≠⟨1,x.node⟩->Qfq x.node (s::r)=s::r:=by intro s r h;simp[Qfq,h]
 have hsn:Qfq x.node []=[]:=rfl;generalize Qfq x.node=sk at*;generalize hvb:Qh6 t x=vb at*;obtain⟨nodes,ov,links⟩:=t;obtain⟨node,to,down⟩:=x;obtain⟨id,src,dst,flow,stack,hops⟩:=p;generalize htg:Qgf ⟨nodes,ov,links⟩=tg at*;generalize hrs:QfL ⟨nodes,ov,links⟩ ⟨node,to,down⟩ ⟨id,src,dst,flow,stack,hops⟩=rs at*;simp only[QaU,Qls,Qea,Qag,Qai,Qco,QaG,QbK,Qgg,QrU,Qay,Qav,List.map_nil,List.map_cons,QaC]at*;generalize hol:ov.map Qbq=ol at*;generalize hll:links.map QaD=ll at*;generalize htl:to.map Qax=tl at*;have tln:Λ tl=to.length:=by rw[Λo,<-htl];simp
 generalize hdl:down.map QaC=dl at*;generalize slh:List.map Qaf stack=sl at*;have sln:Λ sl=stack.length:=by rw[Λo,<-slh];simp
 conv=>cbv
 repeat' first|refine Qaz hval rfl rfl ?_ ?_|refine Qaz (hnode _) rfl rfl ?_ ?_|(refine Qan (hdrop _) rfl rfl ?_;conv=>cbv)|exact gxQ|refine And.intro ?_ ?_|(intro hc;(first|rw[wS (by omega) (by omega)]at hc|rw[Qab]at hc|skip);try (conv=>cbv))
 all_goals try simp only[decide_eq_true_eq,decide_eq_false_iff_not]at*
 all_goals try (first|(refine k1 ?_;first|omega|simp_all;done)|(refine k2 ⟨by assumption,by omega,by omega⟩ (by omega)))
 rename_i hvt hd1 _;have hvt:vb=true:=by assumption
 have hd:0<=dst/\dst<nodes:=by assumption
 have kr:K (Qgg (rs (sk stack))):=k3 ⟨hvt,hd⟩ (by omega);have hto:(to.length:Int)=nodes:=(hspec.1 hvt).2.2.1;have hlk:(links.length:Int)<=256:=(Qap.1 (hspec.1 hvt).1).2.2.1;have hento:∀n:Int,0<=n->n<nodes->∃a r q,to[n.toNat]? =some ⟨a,r,q⟩/\ent ⟨node,to,down⟩ n=⟨a,r,q⟩/\a.length<=1000/\q.length<=1000:=by
  intro n h1 h2;have h3:to[n.toNat]? =some (to[n.toNat]'(by omega)):=lgE (by omega);have h4:=hf1 _ (List.getElem_mem (l:=to) (n:=n.toNat) (by omega));generalize to[n.toNat]'(by omega)=e at h3 h4;obtain⟨a,r,q⟩:=e;exact⟨a,r,q,h3,by simp[ent,List.getD,h3],h4⟩
 clear k1 k2 k3 hspec hvb hf1;refine QbM stack.length (λ(s:List Seg)=>(10,.c (.ptr 4 0 0 0))::Qu4 (s.map Qaf)) (λ_=>Qpa nodes ol ll node tl dl id src dst flow sl hops++[.bx [.d (iD 1),.d (iD node)]]) (λk s=>s.length+k=stack.length/\sk s=sk stack) stack
  0 (λ(s:List Seg)=>Qu4 (s.map Qaf)) (λ_=>Qpa nodes ol ll node tl dl id src dst flow sl hops) (λs=>s.length<=1000/\K (Qgg (rs s))) (by rw[slh];exact Wk.cw) ⟨by omega,rfl⟩ (λk s h=>by omega) ?_ ?_
 ·rintro k s Q' ⟨hk,hs⟩ norm jn ex rt;rw[<-hs]at kr;have hj:∀L' h',sk s=s->Wk 0 L' h' (Qu4 (s.map Qaf)) (Qpa nodes ol ll node tl dl id src dst flow sl hops)->Q' (.exit 0) L' h':=λL' h' hw=>jn L' h' s ⟨by omega,by rw[hw]at kr;exact kr⟩
  generalize rlh:List.map Qaf s=rl at*;have rln:Λ rl=s.length:=by rw[Λo,<-rlh];simp
  conv=>cbv
  repeat' first|(intro e he;obtain⟨⟨xk,xn⟩,hx,rfl⟩:=Qa1 rlh he;(conv=>cbv))|exact gxQ|refine And.intro ?_ ?_|(intro hc;(first|rw[wS (by omega) (by omega)]at hc|rw[Qab]at hc|skip);try (conv=>cbv))
  ·rename_i hxe rl';cases s with
   |nil=>cases hx
   |cons s0 r=>
    cases hx;have e:rl'=r.map Qaf:=by rw[hc,<-rlh];rfl
    subst e;refine norm _ _ r ?_ (Wk.cw);rw[hskip _ _ (by rw[hxe.1,hxe.2.1])]at hs;simp only[List.length_cons]at hk;exact⟨by omega,hs⟩
  all_goals refine hj _ _ ?_ (Wk.cw)
  ·cases s with
   |nil=>exact hsn
   |cons s0 r=>
    cases hx;refine hskip' _ _ λh=>hc ?_
    injection h with h1 h2
    exact⟨h1,h2,trivial⟩
  ·cases s with
   |nil=>exact hsn
   |cons s0 r=>exfalso;simp only[List.length_cons]at rln;omega
 clear kr hskip hskip' hsn;rintro s ⟨hsl,kr⟩;generalize hsm:List.map Qaf s=sm
 conv=>cbv
 refine QaT 1 (λ(s:List Seg)=>Qu4 (s.map Qaf)) (λ_=>Qpa nodes ol ll node tl dl id src dst flow sl hops) (λk s=>k<=1/\(k=1->s=[])/\s.length<=1000/\K (Qgg (rs s))) s (by rw[hsm];exact Wk.cw) ⟨by omega,by omega,by omega,kr⟩ (λk s h=>h.1) ?_;clear kr hsl hsm sm;rintro k s Q' ⟨hk,hks,hsl,kr⟩ norm ex rt;cases s with
 |nil=>
  obtain⟨f1,f2,f3,f4⟩:=hpk (by have:=kr;rw[<-hrs]at this;exact this);obtain⟨ea,er,eq,hx,he,hb1,hb2⟩:=hento dst hd.1 hd.2;have hxa:tl[dst.toNat]? =some (Qax ⟨ea,er,eq⟩):=by rw[<-htl];simp[hx]
  have hen:=henter [] ⟨ea,er,eq⟩ (by simp) (Nat.le_trans hf2 (by decide)) (Nat.le_trans hb1 (by decide)) (Nat.le_trans hb2 (by decide));rw[he]at f3 f4;clear norm hrk hpk hento;generalize Qdo ⟨id,src,dst,flow,stack,hops⟩ [] ⟨ea,er,eq⟩=en at*;obtain⟨na,⟨j1,j2,j3,j4,j5,j6⟩,nr⟩:=en;simp only[Qax,QyD,Qav,QaG,List.map_nil]at hxa hen f1 f2 f3 f4 |-;generalize ealh:List.map QaC ea=eal at*;have ealn:Λ eal=ea.length:=by rw[Λo,<-ealh];simp
  generalize eqlh:List.map Qaf eq=eql at*;have eqln:Λ eql=eq.length:=by rw[Λo,<-eqlh];simp
  generalize List.map QaC na=nal at*;generalize List.map Qaf j5=jl at*;have hΛ0:Λ []=0:=by rw[Λo];rfl
  conv=>cbv
  repeat' first|(refine ex _ _ _ ?_;(conv=>cbv))|(refine rt _ _ ?_;(conv=>cbv))|(intro e he;cases osj (he.symm.trans hxa);(conv=>cbv))|(refine Qan hwith rfl rfl ?_;conv=>cbv)|(refine Qan (hdrop _) rfl rfl ?_;conv=>cbv)|refine Qaz (hnode _) rfl rfl ?_ ?_|(refine Qan (hen (by omega) (by omega)) rfl rfl ?_;conv=>cbv)|exact gxQ|refine And.intro ?_ ?_|(intro hc;(first|rw[wS (by omega) (by omega)]at hc|rw[Qab]at hc|skip);try (conv=>cbv))
  all_goals try simp only[decide_eq_true_eq,decide_eq_false_iff_not]at*
  all_goals first
   |(refine f1 ?_;assumption)
   |(refine f2 ?_ ?_;assumption;omega)
   |(refine f3 ?_ ?_ ?_ ?_;assumption;omega;omega;omega)
   |(refine f4 ?_ ?_ ?_;assumption;omega;omega)
 |cons s0 r=>
  obtain⟨s1,s2⟩:=s0;obtain rfl:k=0:=by
   rcases Nat.lt_or_ge k 1 with h|h
   ·omega
   ·exact absurd (hks (by omega)) (by simp)
  obtain⟨f1,f2,f3,f4,f5,f6,f7⟩:=hrk (s:=⟨s1,s2⟩) (r:=r) kr;have f3:¬(hops<0\/255<=hops)->s1=1->¬((0<=s2/\s2<nodes)/\0<(ent ⟨node,to,down⟩ s2).arcs.length)->K (Qgg (rs [])):=by rw[<-hrs];exact f3
  have f5:¬(hops<0\/255<=hops)->s1=2->(0<=s2/\s2<2*links.length)->tg s2=node->s2∈down->K (Qgg (rs [])):=by rw[<-hrs];exact f5
  simp only at f1 f2 f4 f6 f7;have hlv:=hleave r s2 (by simp only[List.length_cons]at hsl;omega) (by simp);have hnx:∀L' h',K (Qgg (rs []))->Wk 0 L' h' (Qu4 []) (Qpa nodes ol ll node tl dl id src dst flow sl hops)->Q' .normal L' h':=λL' h' hK hw=>norm L' h' [] ⟨by omega,λ_=>rfl,by simp,hK⟩ hw
  generalize hrlh:List.map Qaf (⟨s1,s2⟩::r)=rl at*;have rln:Λ rl=r.length+1:=by rw[Λo,<-hrlh];simp
  have rl0:rl[(0:Int).toNat]? =some [iD s1,iD s2]:=by rw[<-hrlh];rfl
  have rl1:List.drop 1 rl=r.map Qaf:=by rw[<-hrlh];rfl
  by_cases hs2:0<=s2/\s2<nodes
  ·obtain⟨ea,er,eq,hx,he,hb1,hb2⟩:=hento s2 hs2.1 hs2.2;have hxa:tl[s2.toNat]? =some (Qax ⟨ea,er,eq⟩):=by rw[<-htl];simp[hx]
   have hen:=henter (⟨s1,s2⟩::r) ⟨ea,er,eq⟩ (by omega) (Nat.le_trans hf2 (by decide)) (Nat.le_trans hb1 (by decide)) (Nat.le_trans hb2 (by decide));rw[he]at f2 f3;generalize Qdo ⟨id,src,dst,flow,stack,hops⟩ (⟨s1,s2⟩::r) ⟨ea,er,eq⟩=en at*;obtain⟨na,⟨j1,j2,j3,j4,j5,j6⟩,nr⟩:=en;simp only[hrlh]at hen;simp only[Qax,QyD,Qeu,Qav,QaG,List.map_nil,List.map_cons,QaC]at hxa hen f1 f2 f3 f4 f5 f6 f7 hlv |-;generalize List.map Qaf r=rr at*;generalize ealh:List.map QaC ea=eal at*;have ealn:Λ eal=ea.length:=by rw[Λo,<-ealh];simp
   generalize eqlh:List.map Qaf eq=eql at*;have eqln:Λ eql=eq.length:=by rw[Λo,<-eqlh];simp
   generalize List.map QaC na=nal at*;generalize List.map Qaf j5=jl at*;clear hpk hento kr norm henter hleave
   conv=>cbv
   repeat' first|(refine ex _ _ _ ?_;(conv=>cbv))|(refine rt _ _ ?_;(conv=>cbv))|(intro e he;cases osj (he.symm.trans hxa);(conv=>cbv))|(intro e he;cases osj (he.symm.trans rl0);(conv=>cbv))|(intro x hx;have e:=hx.trans rl1;subst e;(conv=>cbv))|(refine Qan (hdrop _) rfl rfl ?_;conv=>cbv)|refine Qaz (hnode _) rfl rfl ?_ ?_|refine Qaz (harc _ hlk) rfl rfl ?_ ?_|refine Qc7 (htail _ (by simp only[decide_eq_true_eq]at *;omega) (by simp only[decide_eq_true_eq]at *;omega) hlk) rfl rfl ?_|refine Qaz (hcont _) rfl rfl ?_ ?_|(refine Qan (hen (by omega) (by omega)) rfl rfl ?_;conv=>cbv)|(refine Qly 4 0 1 1 rfl rfl (by repeat' first|exact trivial|refine And.intro ?_ ?_|rfl) (by repeat' first|exact trivial|refine And.intro ?_ ?_|rfl) ?_;conv=>cbv)|(refine Qan (hlv (by omega) (by omega)) rfl rfl ?_;conv=>cbv)|exact gxQ|refine And.intro ?_ ?_|(intro hc;(first|rw[wS (by omega) (by omega)]at hc|rw[Qab]at hc|skip);try (conv=>cbv))
   all_goals try simp only[decide_eq_true_eq,decide_eq_false_iff_not]at*
   all_goals try subst hc
   all_goals first
    |(refine f1 ?_;omega)
    |(refine f2 ?_ ?_ ?_ ?_;omega;omega;omega;omega)
    |(refine f4 ?_ ?_ ?_;omega;omega;omega)
    |(refine f6 ?_ ?_ ?_ ?_ ?_;omega;omega;omega;omega;assumption)
    |(refine f7 ?_ ?_ ?_;omega;omega;omega)
    |(refine hnx _ _ ?_ (.trans (.fg 9) (Wk.cw));first|(refine f3 ?_ ?_ ?_;omega;omega;omega;done)|(refine f5 ?_ ?_ ?_ ?_ ?_;omega;omega;omega;omega;assumption;done))
    |trace_state
  ·simp only[Qeu,List.map_nil,List.map_cons,QaC]at f1 f4 f5 f6 f7 hlv |-;generalize List.map Qaf r=rr at*;clear hpk hento kr norm henter hleave f2
   conv=>cbv
   repeat' first|(refine ex _ _ _ ?_;(conv=>cbv))|(refine rt _ _ ?_;(conv=>cbv))|(intro e he;cases osj (he.symm.trans rl0);(conv=>cbv))|(intro x hx;have e:=hx.trans rl1;subst e;(conv=>cbv))|(refine Qan (hdrop _) rfl rfl ?_;conv=>cbv)|refine Qaz (hnode _) rfl rfl ?_ ?_|refine Qaz (harc _ hlk) rfl rfl ?_ ?_|refine Qc7 (htail _ (by simp only[decide_eq_true_eq]at *;omega) (by simp only[decide_eq_true_eq]at *;omega) hlk) rfl rfl ?_|refine Qaz (hcont _) rfl rfl ?_ ?_|(refine Qly 4 0 1 1 rfl rfl (by repeat' first|exact trivial|refine And.intro ?_ ?_|rfl) (by repeat' first|exact trivial|refine And.intro ?_ ?_|rfl) ?_;conv=>cbv)|(refine Qan (hlv (by omega) (by omega)) rfl rfl ?_;conv=>cbv)|(intro hc;exact absurd (of_decide_eq_true hc) hs2)|exact gxQ|refine And.intro ?_ ?_|(intro hc;(first|rw[wS (by omega) (by omega)]at hc|rw[Qab]at hc|skip);try (conv=>cbv))
   all_goals try simp only[decide_eq_true_eq,decide_eq_false_iff_not]at*
   all_goals try subst hc
   all_goals first
    |(refine f1 ?_;omega)
    |(refine f4 ?_ ?_ ?_;omega;omega;omega)
    |(refine f6 ?_ ?_ ?_ ?_ ?_;omega;omega;omega;omega;assumption)
    |(refine f7 ?_ ?_ ?_;omega;omega;omega)
    |(refine hnx _ _ ?_ (.trans (.fg 9) (Wk.cw));first|(refine f3 ?_ ?_ ?_;omega;omega;omega;done)|(refine f5 ?_ ?_ ?_ ?_ ?_;omega;omega;omega;omega;assumption;done))
    |trace_state
theorem QtF(P:Program)(hP:P=Tryz.prog)(t:Top)(a:Int):Ret P Qik [QaU t,iA a] (iA (QcA t a)):=by
 refine Qah (hP▸mixed) (hP▸QmW) (hP▸Qn3) (nle rfl) λΛ Λo K hK=> ?_
 have hw:=Qjz P hP t;clear hP;have leaf:∀b,QcA t a=b->K (iA b):=λb hb=>by rw[<-hb];exact hK
 have hv2:=QeM t;have hta:QcA t a=if 0<=a/\a<QbA t then (if a%2=0 then (Qfr t a).c0 else (Qfr t a).c1)else -1:=rfl
 have hat:∀x,t.links[(a/2).toNat]? =some x->Qfr t a=x:=λx hx=>by simp[Qfr,hx]
 generalize QbA t=v at*;obtain⟨nodes,ov,links⟩:=t;simp only[QaU,Qag,Qai]at*;generalize hol:ov.map Qbq=ol at*;generalize hll:links.map QaD=ll at*;have hlo:Λ ol=ov.length:=by rw[Λo,<-hol];simp
 have hls:Λ ll=links.length:=by rw[Λo,<-hll];simp
 conv=>cbv
 repeat' first|refine Qc7 hw rfl rfl ?_|(intro hc;rw[Qxb (by omega) (by omega)]at hc;conv=>cbv)|(intro hc;rw[Qxf (by omega)]at hc;conv=>cbv)|(intro(_:Unit);decide)|(intro e he;obtain⟨⟨xa,xb,xc,xd,xe,xf,xg⟩,hx,rfl⟩:=Qa1 hll he;(conv=>cbv))|exact gxQ|refine And.intro ?_ ?_|(intro hc;(first|rw[wS (by omega) (by omega)]at hc|rw[Qab]at hc|skip);try (conv=>cbv))
 ·exact leaf _ (by rw[hta,if_neg (by omega)])
 ·exact leaf _ (by rw[hta,if_neg (by omega)])
 all_goals
  refine leaf _ ?_;rw[hta,if_pos (by omega),hat _ (QdE hx (by omega))]
 ·rw[if_pos (by omega)]
 ·rw[if_neg (by omega)]
abbrev Qbx (l:List Bool):AV:= .c (.d (Qag l))
def ovT(t:Top)(n:Int):Bool:=Qao t&&decide (0<=n/\n<t.ov.length)&&t.ov.getD n.toNat false
theorem Qnn(P:Program)(hP:P=Tryz.prog)(t:Top)(n:Int):Ret P QdY [QaU t,iA n] (bA (ovT t n)):=by
 refine Qah (hP▸mixed) (hP▸QgL) (hP▸QgV) (nle rfl) λΛ Λo K hK=> ?_
 have hw:=Qgd P hP t;clear hP;have leaf:∀b,ovT t n=b->K (bA b):=λb hb=>by rw[<-hb];exact hK
 have hta:ovT t n=(Qao t&&decide (0<=n/\n<t.ov.length)&&t.ov.getD n.toNat false):=rfl;generalize ovT t n=r at*;generalize Qao t=v at*;obtain⟨nodes,ov,links⟩:=t;simp only[QaU,Qag,Qai]at*;generalize hol:ov.map Qbq=ol at*;generalize hll:links.map QaD=ll at*;have hlo:Λ ol=ov.length:=by rw[Λo,<-hol];simp
 have hls:Λ ll=links.length:=by rw[Λo,<-hll];simp
 conv=>cbv
 repeat' first|refine Qaz hw rfl rfl ?_ ?_|(intro e he;obtain⟨x,hx,rfl⟩:=Qa1 hol he;(conv=>cbv))|exact gxQ|refine And.intro ?_ ?_|(intro hc;(first|rw[wS (by omega) (by omega)]at hc|rw[Qab]at hc|skip);try (conv=>cbv))
 ·refine leaf _ (hta.trans ?_);rw[‹v=true›,decide_eq_true (by omega)];simp[hx]
 ·refine leaf _ (hta.trans ?_);rw[decide_eq_false (by omega)];simp
 ·refine leaf _ (hta.trans ?_);rw[decide_eq_false (by omega)];simp
 ·refine leaf _ (hta.trans ?_);rw[hc];simp
def upB(down:List Bool)(a:Int):Bool:=decide (down.length=0)|| !down.getD a.toNat false
theorem QzU(P:Program)(hP:P=Tryz.prog)(down:List Bool)(a:Int)(h:down.length=0\/(0<=a/\a<down.length)):Ret P QlK [Qbx down,iA a] (bA (upB down a)):=by
 refine Qah (hP▸mixed) (hP▸QpX) (hP▸Qr7) (nle rfl) λΛ Λo K hK=> ?_
 clear hP;have leaf:∀b,upB down a=b->K (bA b):=λb hb=>by rw[<-hb];exact hK
 have hta:upB down a=(decide (down.length=0)|| !down.getD a.toNat false):=rfl;generalize upB down a=r at*;simp only[Qbx,Qag]at*;generalize hdl:down.map Qbq=dl at*;have hdn:Λ dl=down.length:=by rw[Λo,<-hdl];simp
 conv=>cbv
 repeat' first|(intro e he;obtain⟨x,hx,rfl⟩:=Qa1 hdl he;(conv=>cbv))|exact gxQ|refine And.intro ?_ ?_|(intro hc;(first|rw[wS (by omega) (by omega)]at hc|rw[Qab]at hc|skip);try (conv=>cbv))
 ·refine leaf _ (hta.trans ?_);rw[decide_eq_true (by omega)];simp
 ·have e:r= !x:=by
   rw[hta,decide_eq_false (by omega)];simp[hx]
  cases x
  ·conv=>cbv
   exact leaf _ e
  ·conv=>cbv
   exact leaf _ e
def QcT(t:Top)(down:List Bool):Bool:=Qao t&&(decide (down.length=0)||decide (down.length=2*t.links.length))
theorem QpT(P:Program)(hP:P=Tryz.prog)(t:Top)(down:List Bool):Ret P Qin [QaU t,Qbx down] (bA (QcT t down)):=by
 refine Qah (hP▸mixed) (hP▸Qm0) (hP▸Qn7) (nle rfl) λΛ Λo K hK=> ?_
 have hw:=Qgd P hP t;clear hP;have h256:Qao t=true->(t.links.length:Int)<=256:=λh=>(Qap.1 h).2.2.1
 have leaf:∀b,QcT t down=b->K (bA b):=λb hb=>by rw[<-hb];exact hK
 have hta:QcT t down=(Qao t&&(decide (down.length=0)||decide (down.length=2*t.links.length))):=rfl;generalize QcT t down=r at*;generalize Qao t=v at*;simp only[Qbx,Qag]at*;generalize hdl:down.map Qbq=dl at*;have hdn:Λ dl=down.length:=by rw[Λo,<-hdl];simp
 obtain⟨nodes,ov,links⟩:=t;simp only[QaU,Qag,Qai]at*;generalize hol:ov.map Qbq=ol at*;generalize hll:links.map QaD=ll at*;have hlo:Λ ol=ov.length:=by rw[Λo,<-hol];simp
 have hls:Λ ll=links.length:=by rw[Λo,<-hll];simp
 cases v
 all_goals (try simp only[forall_const]at h256)
 all_goals (conv=>cbv)
 all_goals (repeat' first|refine Qaz hw rfl rfl ?_ ?_|(intro hc;cases hc;done)|exact gxQ|refine And.intro ?_ ?_|(intro hc;(first|rw[wS (by omega) (by omega)]at hc|rw[Qab]at hc|skip);try (conv=>cbv)))
 ·exact leaf _ (hta.trans (by simp))
 all_goals (refine leaf _ (hta.trans ?_);first|(rw[decide_eq_true (p:=down.length=0) (by omega)];simp;done)|(rw[decide_eq_true (p:=down.length=2*links.length) (by omega)];simp;done)|(rw[decide_eq_false (p:=down.length=0) (by omega),decide_eq_false (p:=down.length=2*links.length) (by omega)];simp;done))
def Qc2(t:Top)(n e:Int):Bool:=decide (n=e)|| !ovT t n
theorem Ql4(P:Program)(hP:P=Tryz.prog)(t:Top)(n e:Int):Ret P QfF [QaU t,iA n,iA e] (bA (Qc2 t n e)):=by
 refine Qah (hP▸mixed) (hP▸Qi3) (hP▸QjJ) (nle rfl) λΛ Λo K hK=> ?_
 have hw:=Qnn P hP t n;clear hP;have leaf:∀b,Qc2 t n e=b->K (bA b):=λb hb=>by rw[<-hb];exact hK
 have hta:Qc2 t n e=(decide (n=e)|| !ovT t n):=rfl;generalize Qc2 t n e=r at*;generalize ovT t n=v at*;obtain⟨nodes,ov,links⟩:=t;simp only[QaU,Qag,Qai]at*;generalize hol:ov.map Qbq=ol at*;generalize hll:links.map QaD=ll at*;have hlo:Λ ol=ov.length:=by rw[Λo,<-hol];simp
 have hls:Λ ll=links.length:=by rw[Λo,<-hll];simp
 conv=>cbv
 repeat' first|refine Qaz hw rfl rfl ?_ ?_|exact gxQ|refine And.intro ?_ ?_|(intro hc;(first|rw[wS (by omega) (by omega)]at hc|rw[Qab]at hc|skip);try (conv=>cbv))
 all_goals (refine leaf _ ?_;simp_all)
def Qbt(k:Nat):List Int:=(List.range k).map λ(k:Nat)=>(k:Int)
def QrD(t:Top)(n:Int):List Int:=(Qbt (QbA t).toNat).filter λa=>decide (Qba t a=n)
theorem QcP(k:Nat):Qbt (k+1)=Qbt k++[(k:Int)]:=by simp[Qbt,List.range_succ]
theorem QBe(P:Program)(hP:P=Tryz.prog)(t:Top)(n:Int):Ret P Qkx [QaU t,iA n] (Qay (QrD t n)):=by
 refine Qah (hP▸mixed) (hP▸Qov) (hP▸QpH) (nle rfl) λΛ Λo K hK=> ?_
 have hw:=Qjz P hP t;have ht:=Qe8 P hP t;clear hP;have hv2:=QeM t;have ho:QrD t n=(Qbt (QbA t).toNat).filter λa=>decide (Qba t a=n):=rfl
 rw[ho]at hK;clear ho;generalize hf:Qba t=f at*;generalize QbA t=v at*;obtain⟨nodes,ov,links⟩:=t;simp only[QaU,Qag,Qai]at*;generalize hol:ov.map Qbq=ol at*;generalize hll:links.map QaD=ll at*;have hlo:Λ ol=ov.length:=by rw[Λo,<-hol];simp
 have hls:Λ ll=links.length:=by rw[Λo,<-hll];simp
 simp only[Qay,Qav]at hK
 conv=>cbv
 repeat' first|exact gxQ|refine And.intro ?_ ?_|(intro hc;(first|rw[wS (by omega) (by omega)]at hc|rw[Qab]at hc|skip);try (conv=>cbv))
 refine QaT v.toNat (λ(s:Int×Nat×Nat×Bool×List (List D))=>[(1,iA n),(2,.c (.ptr 0 0 0 0)),(5,.c (.arr 1 s.2.1 0 s.2.2.1)),(6,iA s.1)]) (λs=>[.bx [.d (.int .i64 nodes),.d (.list false 1 ol),.d (.list false 7 ll)],.da s.2.2.2.1 s.2.1 1 s.2.2.2.2])
  (λk s=>s.1=k/\k<=v.toNat/\s.2.2.1=s.2.2.2.2.length/\s.2.2.2.2=(((Qbt k).filter λa=>decide (f a=n)).map QaC)) (0,0,0,false,[]) (.trans (.nilS 5 1 rfl) (Wk.cw)) ⟨rfl,by omega,rfl,rfl⟩ (λk s h=>h.2.1) ?_
 rintro k ⟨i,ve,m,r,es⟩ Q' ⟨hi,hk,hm,hes⟩ norm ex rt;simp only at hi hm hes;have hesl:es.length<=k:=by
  rw[hes,List.length_map];refine Nat.le_trans (List.length_filter_le _ _) ?_;simp[Qbt]
 conv=>cbv
 repeat' first|(refine ex _ _ _ ?_;(conv=>cbv))|(refine rt _ _ ?_;(conv=>cbv))|refine Qc7 hw rfl rfl ?_|refine Qc7 (ht _) rfl rfl ?_|(intro(_:Unit);refine⟨rfl,?_⟩;simp only[List.length_cons,List.length_nil];omega)|exact gxQ|refine And.intro ?_ ?_|(intro hc;(first|rw[wS (by omega) (by omega)]at hc|rw[Qab]at hc|skip);try (conv=>cbv))
 ·rename_i hfi hn m' r' es' hm' hr' he' i';refine norm _ _ (_,_,_,_,_) ?_ (Wk.cw);have e:es'=((Qbt (k+1)).filter λa=>decide (f a=n)).map QaC:=by
   rw[he',List.drop_zero,hm,List.take_length,hes,QcP,List.filter_append,List.map_append];rw[<-hi,List.filter_cons_of_pos (by simp only[decide_eq_true_eq];omega)];rfl
  exact⟨by simp only;omega,by omega,by simp only;rw[hm',he',List.drop_zero,hm,List.take_length];simp,e⟩
 ·rename_i hfi hn i';refine norm _ _ (_,_,_,_,_) ?_ (Wk.cw);have e:es=((Qbt (k+1)).filter λa=>decide (f a=n)).map QaC:=by
   rw[hes,QcP,List.filter_append,List.map_append];rw[<-hi,List.filter_cons_of_neg (by simp only[decide_eq_true_eq];omega)];simp
  exact⟨by simp only;omega,by omega,hm,e⟩
 ·rename_i ls;have e:ls=((Qbt v.toNat).filter λa=>decide (f a=n)).map QaC:=by
   rw[hc,List.drop_zero,hm,List.take_length,hes,show k=v.toNat by omega]
  subst e;exact hK
def xOf(t:Top)(fr:Bool)(a:Int):Int:=if fr then QbD t a else Qba t a
def yOf(t:Top)(fr:Bool)(a:Int):Int:=if fr then Qba t a else QbD t a
def Qhd(t:Top)(down:List Bool)(e:Int)(fr:Bool)(a:Int):Bool:=upB down a&&Qc2 t (yOf t fr a) e
abbrev gt (D:List Int) (i:Int):Int:=D.getD i.toNat (-1)
def QpU(t:Top)(down:List Bool)(e:Int)(fr:Bool)(D:List Int)(a:Int):Prop:=
 Qhd t down e fr a=true->0<=gt D (yOf t fr a)->0<=gt D (xOf t fr a)/\gt D (xOf t fr a)<=gt D (yOf t fr a)+QcA t a
structure IsDist (t:Top) (down:List Bool) (e:Int) (fr:Bool) (D:List Int):Prop where
 len:(D.length:Int)=t.nodes
 zero:gt D e=0
 lo:∀i,0<=i->i<t.nodes-> -1<=gt D i
 fix:∀a:Int,0<=a->a<2*t.links.length->QpU t down e fr D a
 tight:∀x,0<=x->x<t.nodes->x≠e->0<=gt D x->∃a:Int,0<=a/\a<2*t.links.length/\Qhd t down e fr a=true/\xOf t fr a=x/\0<=gt D (yOf t fr a)/\gt D x=gt D (yOf t fr a)+QcA t a
theorem Qek{t:Top}(hv:Qao t=true){a:Int}(h0:0<=a)(h1:a<2*t.links.length):
  (0<=Qba t a/\Qba t a<t.nodes)/\(0<=QbD t a/\QbD t a<t.nodes)/\Qba t a≠QbD t a/\1<=QcA t a/\QcA t a<=65535:=by
 have ha:QbA t=2*t.links.length:=by rw[QbA,if_pos hv]
 have hx:t.links[(a/2).toNat]? =some (t.links[(a/2).toNat]'(by omega)):=lgE (by omega);have hk:=QeA.1 ((Qap.1 hv).2.2.2 _ (List.getElem_mem (l:=t.links) (n:=(a/2).toNat) (by omega)));have hl:Qfr t a=t.links[(a/2).toNat]'(by omega):=by rw[Qfr,hx];rfl
 rw[<-hl]at hk;have hin:0<=a/\a<QbA t:=by omega
 simp only[Qba,QbD,QcA,if_pos hin];by_cases h:a%2=0
 ·simp only[if_pos h];omega
 ·simp only[if_neg h];omega
theorem Qge{t:Top}(hv:Qao t=true)(fr:Bool){a:Int}(h0:0<=a)(h1:a<2*t.links.length):
  (0<=xOf t fr a/\xOf t fr a<t.nodes)/\(0<=yOf t fr a/\yOf t fr a<t.nodes)/\xOf t fr a≠yOf t fr a:=by
 have:=Qek hv h0 h1;cases fr
 ·simp only[xOf,yOf,Bool.false_eq_true,if_false];exact⟨this.1,this.2.1,this.2.2.1⟩
 ·simp only[xOf,yOf,if_true];exact⟨this.2.1,this.1,λh=>this.2.2.1 h.symm⟩
theorem QpP{t:Top}(hv:Qao t=true){down:List Bool}{e:Int}{fr:Bool}{D D':List Int}(h:IsDist t down e fr D)(h':IsDist t down e fr D'):∀(n:Nat) (x:Int),0<=x->x<t.nodes->gt D x=n->0<=gt D' x/\gt D' x<=n:=by
 intro n;induction n using Nat.strongRecOn with
 |_ n ih=>
  intro x h0 h1 hx;by_cases hxe:x=e
  ·subst hxe;rw[h'.zero];omega
  ·obtain⟨a,a0,a1,ha,hxa,hy,hd⟩:=h.tight x h0 h1 hxe (by omega);have hf:=Qge hv fr a0 a1;have hc:=Qek hv a0 a1;obtain⟨i0,i1⟩:=ih (gt D (yOf t fr a)).toNat (by omega) (yOf t fr a) hf.2.1.1 hf.2.1.2 (by omega);obtain⟨j0,j1⟩:=h'.fix a a0 a1 ha i0;rw[hxa]at j0 j1;exact⟨j0,by omega⟩
theorem QpQ{t:Top}(hv:Qao t=true){down:List Bool}{e:Int}{fr:Bool}{D D':List Int}(h:IsDist t down e fr D)(h':IsDist t down e fr D'):D=D':=by
 have hl:=h.len;have hl':=h'.len;have key:∀x:Int,0<=x->x<t.nodes->gt D x=gt D' x:=by
  intro x h0 h1;have l1:=h.lo x h0 h1;have l2:=h'.lo x h0 h1;by_cases c:0<=gt D x
  ·have e1:=QpP hv h h' (gt D x).toNat x h0 h1 (by omega);have e2:=QpP hv h' h (gt D' x).toNat x h0 h1 (by omega);omega
  ·by_cases c':0<=gt D' x
   ·have e2:=QpP hv h' h (gt D' x).toNat x h0 h1 (by omega);omega
   ·omega
 apply List.ext_getElem?;intro i;rcases Nat.lt_or_ge i D.length with hi|hi
 ·have:=key (i:Int) (by omega) (by omega);simp only[gt,Int.toNat_natCast,List.getD_eq_getElem?_getD,lgE hi,lgE (show i<D'.length by omega),Option.getD_some]at this;rw[lgE hi,lgE (by omega),this]
 ·rw[List.getElem?_eq_none hi,List.getElem?_eq_none (by omega)]
noncomputable def Qem(t:Top)(down:List Bool)(e:Int)(fr:Bool):List Int:=by
 classical
 exact if h:∃D,IsDist t down e fr D then Classical.choose h else []
theorem QfW{t:Top}(hv:Qao t=true){down:List Bool}{e:Int}{fr:Bool}{D:List Int}(h:IsDist t down e fr D):Qem t down e fr=D:=by
 have hx:∃D,IsDist t down e fr D:=⟨D,h⟩;unfold Qem;rw[dif_pos hx];exact QpQ hv (Classical.choose_spec hx) h
def wt(d:Int):Nat:=if d<0 then 5000000 else d.toNat
def msr(D:List Int):Nat:=(D.map wt).sum
def QxA(D:List Int):Nat:=(D.map λd=>if d<0 then 0 else 1).sum
theorem Qu7(f:Int->Nat):∀(D:List Int) (i:Nat) (v:Int) (u:Int),D[i]? =some u->((D.set i v).map f).sum+f u=(D.map f).sum+f v:=by
 intro D;induction D with
 |nil=>intro i v u h;simp at h
 |cons d D ih=>
  intro i v u h;cases i with
  |zero=>simp at h;subst h;simp;omega
  |succ i=>
   simp only[List.getElem?_cons_succ]at h;have:=ih i v u h;simp only[List.set_cons_succ,List.map_cons,List.sum_cons];omega
theorem QAD:∀(D:List Int),QxA D<=D.length:=by
 intro D;induction D with
 |nil=>simp[QxA]
 |cons d D ih=>simp only[QxA,List.map_cons,List.sum_cons,List.length_cons]at *;split<;>omega
structure Mid (t:Top) (down:List Bool) (e:Int) (fr:Bool) (D:List Int):Prop where
 len:(D.length:Int)=t.nodes
 zero:gt D e=0
 lo:∀i,0<=i->i<t.nodes-> -1<=gt D i
 hi:∀i,0<=i->i<t.nodes->gt D i<=65535*QxA D
 loose:∀x,0<=x->x<t.nodes->x≠e->0<=gt D x->∃a:Int,0<=a/\a<2*t.links.length/\Qhd t down e fr a=true/\xOf t fr a=x/\0<=gt D (yOf t fr a)/\gt D (yOf t fr a)+QcA t a<=gt D x
theorem Mid.le{t:Top}(hv:Qao t=true){down:List Bool}{e:Int}{fr:Bool}{D:List Int}(h:Mid t down e fr D){i:Int}(h0:0<=i)(h1:i<t.nodes):gt D i<=4194240:=by
 have:=h.hi i h0 h1;have h2:=QAD D;have h3:=h.len;have h4:=(Qap.1 hv).1;omega
theorem Mid.dist{t:Top}{down:List Bool}{e:Int}{fr:Bool}{D:List Int}(h:Mid t down e fr D)(hf:∀a:Int,0<=a->a<2*t.links.length->QpU t down e fr D a):IsDist t down e fr D where
 len:=h.len
 zero:=h.zero
 lo:=h.lo
 fix:=hf
 tight x h0 h1 hx hd:=by
  obtain⟨a,a0,a1,ha,hxa,hy,hc⟩:=h.loose x h0 h1 hx hd;have:=(hf a a0 a1 ha hy).2;rw[hxa]at this;exact⟨a,a0,a1,ha,hxa,hy,by omega⟩
theorem Qt5{D:List Int}{i j:Int}{v:Int}(h0:0<=i)(h1:i<D.length)(j0:0<=j):gt (D.set i.toNat v) j=if j=i then v else gt D j:=by
 simp only[gt,List.getD_eq_getElem?_getD,List.getElem?_set];by_cases h:j=i
 ·subst h;simp[show j.toNat<D.length by omega]
 ·have:i.toNat≠j.toNat:=by omega
  simp[this,h]
theorem Mid.step{t:Top}(hv:Qao t=true){down:List Bool}{e:Int}{fr:Bool}{D:List Int}(h:Mid t down e fr D){a:Int}(a0:0<=a)(a1:a<2*t.links.length)(ha:Qhd t down e fr a=true)(hy:0<=gt D (yOf t fr a))
 (hc:gt D (xOf t fr a)<0\/gt D (yOf t fr a)+QcA t a<gt D (xOf t fr a)):Mid t down e fr (D.set (xOf t fr a).toNat (gt D (yOf t fr a)+QcA t a))/\msr (D.set (xOf t fr a).toNat (gt D (yOf t fr a)+QcA t a))<msr D:=by
 have hf:=Qge hv fr a0 a1;have hcs:=(Qek hv a0 a1).2.2.2;have hlen:=h.len;generalize hX:xOf t fr a=X at*;generalize hY:yOf t fr a=Y at*;generalize hC:gt D Y+QcA t a=C at*;have hXl:X<D.length:=by omega
 have hg:∀j,0<=j->gt (D.set X.toNat C) j=if j=X then C else gt D j:=λj j0=>Qt5 hf.1.1 hXl j0
 have hget:D[X.toNat]? =some (gt D X):=by
  simp only[gt,List.getD_eq_getElem?_getD,lgE (show X.toNat<D.length by omega),Option.getD_some]
 have hYle:=h.hi Y hf.2.1.1 hf.2.1.2;have hs1:=Qu7 wt D X.toNat C (gt D X) hget;have hs2:=Qu7 (λd=>if d<0 then 0 else 1) D X.toNat C (gt D X) hget;have hYm:=h.le hv hf.2.1.1 hf.2.1.2;have hXe:X≠e:=by
  intro hh;rw[hh,h.zero]at hc;omega
 have hcnt:QxA (D.set X.toNat C)=QxA D+(if gt D X<0 then 1 else 0):=by
  simp only[QxA];simp only[show ¬C<0 by omega,if_false]at hs2;by_cases hX0:gt D X<0
  ·rw[if_pos hX0]at hs2 |-;omega
  ·rw[if_neg hX0]at hs2 |-;omega
 refine⟨⟨by simp only[List.length_set];exact hlen,?_,?_,?_,?_⟩,?_⟩
 ·have he:gt D e=0:=h.zero;by_cases e0:0<=e
  ·rw[hg e e0,if_neg (λhh=>hXe hh.symm)];exact he
  ·simp only[gt,show e.toNat=0 by omega]at he |-;by_cases x0:X=0
   ·exfalso;have hXg:gt D X=0:=by rw[x0];exact he
    rw[hXg]at hc;omega
   ·rw[List.getD_eq_getElem?_getD,List.getElem?_set_ne (by omega),<-List.getD_eq_getElem?_getD];exact he
 ·intro i i0 i1;rw[hg i i0];split
  ·omega
  ·exact h.lo i i0 i1
 ·intro i i0 i1;rw[hg i i0,hcnt];have hi:=h.hi i i0 i1;split
  ·split
   ·omega
   ·have hX:=h.hi X hf.1.1 hf.1.2;omega
  ·split<;>omega
 ·intro x x0 x1 hxe hd;rw[hg x x0]at hd |-;by_cases hxX:x=X
  ·subst hxX;refine⟨a,a0,a1,ha,hX,?_,?_⟩
   ·rw[hY,hg Y hf.2.1.1,if_neg (λhh=>hf.2.2 hh.symm)];exact hy
   ·rw[hY,hg Y hf.2.1.1,if_neg (λhh=>hf.2.2 hh.symm),if_pos rfl];omega
  ·rw[if_neg hxX]at hd |-;obtain⟨b,b0,b1,hb,hxb,hyb,hcb⟩:=h.loose x x0 x1 hxe hd;have hfb:=Qge hv fr b0 b1;refine⟨b,b0,b1,hb,hxb,?_,?_⟩
   ·rw[hg _ hfb.2.1.1];split<;>omega
   ·rw[hg _ hfb.2.1.1];split
    ·rename_i hh;rw[hh]at hyb hcb;omega
    ·exact hcb
 ·simp only[msr];have w1:wt C=C.toNat:=by rw[wt,if_neg (by omega)]
  have w2:wt (gt D X)>C.toNat:=by
   rw[wt];split<;>omega
  omega
end Go.Ab
