/-
  Merged texts, part m.
-/
import Derived.Test.YtohbofilgkdihaaGreatDoorZl
set_option linter.all false
namespace Go.Ab
open Go.Proofs
abbrev iA (n:Int):AV:= .c (.d (.int .i64 n))
abbrev bA (b:Bool):AV:= .c (.d (.bool b))
def Ret(P:Program)(f:Nat)(args:List AV)(r:AV):Prop:=FnS P f args [] λr' _=>QcE r'=true/\r'=r
theorem Qah{P:Program}{f:Nat}{fn:Func}{af:AF}{args:List AV}{r:AV}(hm:P.follows .mixedOrders=true)(hf:P.funcs[f]? =some fn)(hc:QaC P fn=some af)(hl:args.length<=af.nt)
 (hv:∀(Λ:Len),(∀l,Λ l=(l.length:Int))->∀(K:AV->Prop),K r->vcF P Λ af args K):Ret P f args r:=
 Qtr (K:=λr'=>r'=r) hm hf hc hl λΛ h=>hv Λ h _ rfl
theorem QxB(x:Int):IntKind.i64.wrap x=(x+9223372036854775808)%18446744073709551616-9223372036854775808:=by
 simp only[IntKind.wrap,IntKind.bits,IntKind.signed,Bool.true_and,decide_eq_true_eq,Nat.reduceSub,ge_iff_le];have e1:(2:Int) ^ 64=18446744073709551616:=by decide
 have e2:(2:Int) ^ 63=9223372036854775808:=by decide
 rw[e1,e2];split<;>omega
theorem wS{x:Int}(h: -9223372036854775808<=x)(h':x<9223372036854775808):IntKind.i64.wrap x=x:=by
 rw[QxB];omega
theorem Qaw{P:Program}{m:Nat}{d:Bool}{L:Lv}{h:Hp}{f:Nat}{xs:List X}{args':List AV}{K:Lv->AV->Hp->Prop}{b:Bool}(hf:Ret P f args' (bA b))(ha:(QgQ L xs).map fgA=args')(hp:args'.all QcE=true)
 (k1:b=true->K L (bA true) h)(k2:b=false->K L (bA false) h):CallS P m d L h f xs K:=by
 refine CallS.pure (r:=bA b) (Or.inl ⟨args',.inl ha.symm,hp,hf⟩) ?_;cases b
 ·exact k2 rfl
 ·exact k1 rfl
theorem Qc6{P:Program}{m:Nat}{d:Bool}{L:Lv}{h:Hp}{f:Nat}{xs:List X}{args':List AV}{K:Lv->AV->Hp->Prop}{n:Int}(hf:Ret P f args' (iA n))(ha:(QgQ L xs).map fgA=args')(hp:args'.all QcE=true)
 (k:∀c,c=n->K L (iA c) h):CallS P m d L h f xs K:=
 CallS.pure (r:=iA n) (Or.inl ⟨args',.inl ha.symm,hp,hf⟩) (k n rfl)
theorem Qag{P:Program}{m:Nat}{d:Bool}{L:Lv}{h:Hp}{f:Nat}{xs:List X}{args':List AV}{K:Lv->AV->Hp->Prop}{r:AV}(hf:Ret P f args' r)(ha:(QgQ L xs).map fgA=args')(hp:args'.all QcE=true)
 (k:K L r h):CallS P m d L h f xs K:=
 CallS.pure (r:=r) (Or.inl ⟨args',.inl ha.symm,hp,hf⟩) k
theorem Qxk{P:Program}{m:Nat}{d:Bool}{L:Lv}{h:Hp}{f:Nat}{xs:List X}{vargs:List AV}{K:Lv->AV->Hp->Prop}{b:Bool}(hf:Ret P f vargs (bA b))(ha:Qet h (QgQ L xs)=some vargs)
 (k1:b=true->K L (bA true) h)(k2:b=false->K L (bA false) h):CallS P m d L h f xs K:=by
 refine CallS.pure (r:=bA b) (Or.inr (.inl ⟨vargs,ha,.inl (hf.mono λr _ ⟨_,e⟩=>⟨by rw[e];rfl,e⟩)⟩)) ?_;cases b
 ·exact k2 rfl
 ·exact k1 rfl
theorem Qln{P:Program}{m:Nat}{L:Lv}{h:Hp}{f:Nat}{xs:List X}{K:Lv->AV->Hp->Prop}(l v sz k:Nat){r:Bool}{es:List (List D)}(hl:h[l]? =some (.da r v sz es))(hk:k=es.length)(h1:okL l v k L)(h2:okH l v k h)
 (hc:CallS P m false (zL l v sz es L) (zH l v sz es 0 h) f xs K):CallS P m false L h f xs K:=
 .wk (.fz l v sz r es hl (λi=> .inr (by rw[<-Qb2,<-Qb2,QAy];exact QAV hk (Qt5 h1 i))) (QAX hk h2)) hc
theorem gu{p:Prop}(h:Unit->p:=by
  intro(_:Unit)
  first
   |omega
   |rfl
   |exact⟨rfl,by omega⟩
   |(simp only[Qab];omega)
   |((repeat' first|rfl|omega|refine And.intro ?_ ?_|(simp only[Qab];omega)|(simp only[List.length_cons,List.length_nil];omega)|exact nle rfl);fail_if_success intros)):Unit->p:=h
theorem gxQ{p:Prop}(h:p:=by first|exact trivial|exact gu|(intro hc;exact absurd hc (by decide))|(intro hc;exfalso;omega)):p:=h
theorem Wk.cw{m:Nat}{L:Lv}{h:Hp}{L':Lv}{h':Hp}(heap:∃t,h=h'++t:=by exact⟨_,rfl⟩)(least:m<=h'.length:=by exact Nat.zero_le _)(refs:QcG h'.length h'=true:=by rfl)
 (env:Qo8 h'.length L L':=by repeat' first|exact trivial|refine And.intro ?_ ?_|rfl):Wk m L h L' h':= .cut heap least refs env
theorem Wk.ca{m:Nat}{L:Lv}{h:Hp}{L':Lv}{h':Hp}(heap:∃t,h=h'++t:=by exact⟨_,rfl⟩)(least:m<=h'.length:=by exact nle rfl)(refs:QcG h'.length h'=true:=by rfl)
 (env:Qo8 h'.length L L':=by repeat' first|exact trivial|refine And.intro ?_ ?_|rfl):Wk m L h L' h':= .cut heap least refs env
theorem Wk.ch{m:Nat}{L:Lv}{h:Hp}{L':Lv}(least:m<=h.length:=by exact nle rfl)(refs:QcG h.length h=true:=by rfl)
 (env:Qo8 h.length L L':=by repeat' first|exact trivial|refine And.intro ?_ ?_|rfl):Wk m L h L' h:= .cut ⟨[],(List.append_nil h).symm⟩ least refs env
structure Lk where
 (a b c0 c1 cap dl gr:Int)
structure Top where
 (nodes:Int) (ov:List Bool) (links:List Lk)
structure Seg where
 (kind num:Int)
 deriving DecidableEq
structure Ety where
 (arcs:List Int) (rep:Bool) (push:List Seg)
structure Tab where
 (node:Int) (to:List Ety) (down:List Int)
structure Pkt where
 (id src dst flow:Int) (stack:List Seg) (hops:Int)
instance:Inhabited Lk:=⟨⟨0,0,0,0,0,0,0⟩⟩
instance:Inhabited Seg:=⟨⟨0,0⟩⟩
instance:Inhabited Ety:=⟨⟨[],false,[]⟩⟩
abbrev iD (n:Int):D:= .int .i64 n
def QaY(b:Bool):List D:=[.bool b]
def Qar(n:Int):List D:=[.int .i64 n]
def Qaz(l:Lk):List D:=[iD l.a,iD l.b,iD l.c0,iD l.c1,iD l.cap,iD l.dl,iD l.gr]
def Qaj(s:Seg):List D:=[iD s.kind,iD s.num]
abbrev Qax (l:List Int):D:= .list false 1 (l.map Qar)
abbrev Qaf (l:List Bool):D:= .list false 1 (l.map QaY)
abbrev QaZ (l:List Seg):D:= .list false 2 (l.map Qaj)
abbrev Qak (l:List Lk):D:= .list false 7 (l.map Qaz)
def Qay(e:Ety):List D:=[Qax e.arcs,.bool e.rep,QaZ e.push]
abbrev Qfa (l:List Ety):D:= .list false 3 (l.map Qay)
def QaF(t:Top):AV:= .agg [.d (iD t.nodes),.d (Qaf t.ov),.d (Qak t.links)]
def Qzx(s:Seg):AV:= .agg [.d (iD s.kind),.d (iD s.num)]
def Qx2(e:Ety):AV:= .agg [.d (Qax e.arcs),.d (.bool e.rep),.d (QaZ e.push)]
def Qjc(x:Tab):AV:= .agg [.d (iD x.node),.d (Qfa x.to),.d (Qax x.down)]
def Qcr(p:Pkt):AV:= .agg [.d (iD p.id),.d (iD p.src),.d (iD p.dst),.d (iD p.flow),.d (QaZ p.stack),.d (iD p.hops)]
abbrev Qao (l:List Int):AV:= .c (.d (Qax l))
abbrev QcI (l:List Seg):AV:= .c (.d (QaZ l))
theorem QtT{α β:Type}{f:α->β}{l:List α}{i:Nat}{y:β}(h:(l.map f)[i]? =some y):∃x,l[i]? =some x/\y=f x:=by
 simp only[gtm,omi]at h;obtain⟨x,h1,h2⟩:=h;exact⟨x,h1,h2.symm⟩
theorem Qbc{α β:Type}{f:α->β}{l:List α}{ll:List β}{i:Nat}{y:β}(hl:l.map f=ll)(h:ll[i]? =some y):∃x,l[i]? =some x/\y=f x:=by
 subst hl;exact QtT h
theorem Qef{α:Type}{l:List α}{i j:Nat}{x:α}(h:l[i]? =some x)(e:i=j):l[j]? =some x:=e▸h
theorem QdS{α β:Type}{f:α->β}{l:List α}{ll:List β}(hl:l.map f=ll){k:Nat}{i:Int}(hi:i=k){x:α}(h:l[k]? =some x):ll[i.toNat]? =some (f x):=by
 subst hi hl;simp[h]
theorem Qal{α:Type}{l:List α}{k:Nat}{x:α}(h:l[k]? =some x):l.take (k+1)=l.take k++[x]:=by
 rw[List.take_add_one,h];rfl
theorem QaT{m:Nat}{body:Lv->Hp->Post->Prop}{L:Lv}{h:Hp}{Q:Post}{σ:Type}(N:Nat)(S:σ->Lv)(H:σ->Hp)(Inv:Nat->σ->Prop)(s0:σ)(wk:Wk m L h (S s0) (H s0))(h0:Inv 0 s0)
 (hle:∀k s,Inv k s->k<=N)
 (round:∀k s (Q':Post),Inv k s->(∀L' h' s',Inv (k+1) s'->Wk m L' h' (S s') (H s')->Q' .normal L' h')->(∀i L' h',Q (.exit i) L' h'->Q' (.exit i) L' h')->(∀L' h',Q .ret L' h'->Q' .ret L' h')->body (S s) (H s) Q'):
  LoopI m body L h Q:=by
 refine LoopI.mk (λn L h=>∃k s,Inv k s/\n=N-k/\L=S s/\h=H s) N (S s0) (H s0) wk ⟨0,s0,h0,rfl,rfl,rfl⟩ ?_;rintro n L h ⟨k,s,hi,rfl,rfl,rfl⟩;refine round k s _ hi (λL' h' s' hi' hw=> ?_) (λi L' h' hq=>⟨L',h',.same rfl λ_=> .inr rfl,hq⟩) λL' h' hq=>hq
 have h1:=hle _ _ hi;have h2:=hle _ _ hi';exact⟨N-(k+1),_,_,by omega,hw,k+1,s',hi',rfl,rfl,rfl⟩
theorem Qbs{m:Nat}{body:Lv->Hp->Post->Prop}{L:Lv}{h:Hp}{Q:Post}{σ τ:Type}(N:Nat)(S:σ->Lv)(H:σ->Hp)(Inv:Nat->σ->Prop)(s0:σ)(i0:Nat)(S':τ->Lv)(H':τ->Hp)(E:τ->Prop)(wk:Wk m L h (S s0) (H s0))(h0:Inv 0 s0)
 (hle:∀k s,Inv k s->k<=N)
 (round:∀k s (Q':Post),Inv k s->(∀L' h' s',Inv (k+1) s'->Wk m L' h' (S s') (H s')->Q' .normal L' h')->(∀L' h' s',E s'->Wk m L' h' (S' s') (H' s')->Q' (.exit i0) L' h')->(∀i L' h',Q (.exit i) L' h'->Q' (.exit i) L' h')->(∀L' h',Q .ret L' h'->Q' .ret L' h')->body (S s) (H s) Q')
 (rest:∀s,E s->Q (.exit i0) (S' s) (H' s)):
  LoopI m body L h Q:=by
 refine LoopI.mk (λn L h=>∃k s,Inv k s/\n=N-k/\L=S s/\h=H s) N (S s0) (H s0) wk ⟨0,s0,h0,rfl,rfl,rfl⟩ ?_;rintro n L h ⟨k,s,hi,rfl,rfl,rfl⟩;refine round k s _ hi (λL' h' s' hi' hw=> ?_) (λL' h' s' he hw=>⟨_,_,hw,rest s' he⟩) (λi L' h' hq=>⟨L',h',.same rfl λ_=> .inr rfl,hq⟩) λL' h' hq=>hq
 have h1:=hle _ _ hi;have h2:=hle _ _ hi';exact⟨N-(k+1),_,_,by omega,hw,k+1,s',hi',rfl,rfl,rfl⟩
theorem Qu0(P:Program)(hP:P=Tryz.prog)(n lo hi:Int):Ret P Qga [iA n,iA lo,iA hi] (bA (decide (lo<=n/\n<=hi))):=by
 refine Qah (hP▸mixed) (hP▸Qj1) (hP▸QkV) (nle rfl) λΛ Λo K hK=> ?_
 clear hP
 conv=>cbv
 repeat' first|exact gxQ|refine And.intro ?_ ?_|(intro hc;(first|rw[wS (by omega) (by omega)]at hc|rw[Qab]at hc|skip);try (conv=>cbv))
 all_goals (refine cast (congrArg (λb=>K (bA b)) ?_) hK;simp;omega)
def Qzu(n:Int)(l:Lk):Bool:=
 decide (0<=l.a/\l.a<=n-1)&&decide (0<=l.b/\l.b<=n-1)&& !decide (l.a=l.b)&&decide (1<=l.c0/\l.c0<=65535)&&decide (1<=l.c1/\l.c1<=65535)&&
 decide (0<=l.cap/\l.cap<=1048576)&&decide (1<=l.dl/\l.dl<=65536)&&decide (0<=l.gr/\l.gr<=64)
def Qam(t:Top):Bool:=
 decide (1<=t.nodes/\t.nodes<=64)&&(decide (t.ov.length=0)||decide ((t.ov.length:Int)=t.nodes))&&decide (t.links.length<=256)&&t.links.all (Qzu t.nodes)
theorem Qeo{n:Int}{l:Lk}:Qzu n l=true↔(0<=l.a/\l.a<=n-1)/\(0<=l.b/\l.b<=n-1)/\l.a≠l.b/\(1<=l.c0/\l.c0<=65535)/\(1<=l.c1/\l.c1<=65535)/\
  (0<=l.cap/\l.cap<=1048576)/\(1<=l.dl/\l.dl<=65536)/\(0<=l.gr/\l.gr<=64):=by
 simp only[Qzu,Bool.and_eq_true,decide_eq_true_eq,Bool.not_eq_true',decide_eq_false_iff_not,and_assoc,ne_eq]
theorem Qai{t:Top}:Qam t=true↔(1<=t.nodes/\t.nodes<=64)/\((t.ov.length:Int)=0\/(t.ov.length:Int)=t.nodes)/\(t.links.length:Int)<=256/\∀l∈t.links,Qzu t.nodes l=true:=by
 simp only[Qam,Bool.and_eq_true,Bool.or_eq_true,decide_eq_true_eq,List.all_eq_true,and_assoc];constructor
 ·rintro⟨h1,h2,h3,h4,h5⟩;exact⟨h1,h2,by omega,by omega,h5⟩
 ·rintro⟨h1,h2,h3,h4,h5⟩;exact⟨h1,h2,by omega,by omega,h5⟩
theorem QeY(P:Program)(hP:P=Tryz.prog)(t:Top):Ret P Qg1 [QaF t] (bA (Qam t)):=by
 refine Qah (hP▸mixed) (hP▸Qk4) (hP▸Qmn) (nle rfl) λΛ Λo K hK=> ?_
 have hw:=Qu0 P hP;clear hP;obtain⟨nodes,ov,links⟩:=t;simp only[QaF,Qaf,Qak]at*;generalize hol:ov.map QaY=ol at*;generalize hll:links.map Qaz=ll at*;have hlo:Λ ol=ov.length:=by rw[Λo,<-hol];simp
 have hls:Λ ll=links.length:=by rw[Λo,<-hll];simp
 have leaf:∀b,Qam ⟨nodes,ov,links⟩=b->K (bA b):=λb hb=>by rw[<-hb];exact hK
 have no:(Qam ⟨nodes,ov,links⟩=true->False)->K (bA false):=λh=>leaf _ (Bool.eq_false_iff.2 h)
 conv=>cbv
 repeat' first|refine Qaw (hw _ _ _) rfl rfl ?_ ?_|exact gxQ|refine And.intro ?_ ?_|(intro hc;(first|rw[wS (by omega) (by omega)]at hc|rw[Qab]at hc|skip);try (conv=>cbv))
 all_goals try simp only[decide_eq_true_eq,decide_eq_false_iff_not]at*
 all_goals try (refine no λh=> ?_;obtain⟨h1,h2,h3,h4⟩:=Qai.1 h;simp only at h1 h2 h3;omega)
 all_goals
  refine QaT links.length (λ(i:Int)=>[(1,.c (.ptr 0 0 0 0)),(3,iA i)]) (λ_=>[.bx [.d (.int .i64 nodes),.d (.list false 1 ol),.d (.list false 7 ll)]]) (λk i=>i=k/\k<=links.length/\∀l∈links.take k,Qzu nodes l=true) 0 (Wk.cw) ⟨rfl,by omega,by simp⟩ (λk s h=>h.2.1) ?_;rintro k i Q' ⟨hi,hk,hok⟩ norm ex rt
  conv=>cbv
  repeat' first|(refine ex _ _ _ ?_;(conv=>cbv))|(refine rt _ _ ?_;(conv=>cbv))|refine Qaw (hw _ _ _) rfl rfl ?_ ?_|(intro e he;obtain⟨⟨xa,xb,xc,xd,xe,xf,xg⟩,hx,rfl⟩:=Qbc hll he;(conv=>cbv))|exact gxQ|refine And.intro ?_ ?_|(intro hc;(first|rw[wS (by omega) (by omega)]at hc|rw[Qab]at hc|skip);try (conv=>cbv))
 all_goals try simp only[decide_eq_true_eq,decide_eq_false_iff_not]at*
 all_goals try (refine no λh=> ?_;obtain⟨h1,h2,h3,h4⟩:=Qai.1 h;have h5:=Qeo.1 (h4 _ (mgE hx));simp only at h5;omega)
 all_goals try (refine leaf _ (Qai.2 ⟨by assumption,by simp only;omega,by simp only;omega,λl hl=>hok l ?_⟩);rw[tkQ (by omega)];exact hl)
 all_goals
  refine norm _ _ _ ?_ (Wk.cw);refine⟨by omega,by omega,?_⟩;rw[show i.toNat=k by omega]at hx;rw[Qal hx];intro l hl;rcases List.mem_append.1 hl with hl|hl
  ·exact hok l hl
  ·simp only[List.mem_singleton]at hl;subst hl;exact Qeo.2 ⟨by simp only;omega,by simp only;omega,by simp only;omega,by simp only;omega,by simp only;omega,by simp only;omega,by simp only;omega,by simp only;omega⟩
def Qbo(t:Top):Int:=if Qam t then 2*t.links.length else 0
def Qfc(t:Top)(a:Int):Lk:=(t.links[(a/2).toNat]?).getD default
def QaE(t:Top)(a:Int):Int:=if 0<=a/\a<Qbo t then (if a%2=0 then (Qfc t a).a else (Qfc t a).b)else -1
def QaA(t:Top)(a:Int):Int:=if 0<=a/\a<Qbo t then (if a%2=0 then (Qfc t a).b else (Qfc t a).a)else -1
def Qbp(t:Top)(a:Int):Int:=if 0<=a/\a<Qbo t then (if a%2=0 then (Qfc t a).c0 else (Qfc t a).c1)else -1
theorem QdQ(t:Top):Qbo t<=2*t.links.length/\Qbo t<=512/\0<=Qbo t:=by
 rw[Qbo];split
 ·rename_i h;have:=(Qai.1 h).2.2.1;omega
 ·omega
theorem QwP{x:Int}(h1:0<=x)(h2:x<9223372036854775808):IntKind.i64.wrap (x.tdiv 2)=x/2:=by
 rw[Int.tdiv_eq_ediv_of_nonneg h1,QxB];omega
theorem QwQ{x:Int}(h1:0<=x):x.tmod 2=x%2:=Int.tmod_eq_emod_of_nonneg h1
theorem Qgp(P:Program)(hP:P=Tryz.prog)(t:Top):Ret P Qia [QaF t] (iA (Qbo t)):=by
 refine Qah (hP▸mixed) (hP▸QmQ) (hP▸QnQ) (nle rfl) λΛ Λo K hK=> ?_
 have hw:=QeY P hP t;clear hP;have leaf:∀b,Qbo t=b->K (iA b):=λb hb=>by rw[<-hb];exact hK
 have h256:Qam t=true->(t.links.length:Int)<=256:=λh=>(Qai.1 h).2.2.1
 have ha:Qbo t=if Qam t then 2*(t.links.length:Int)else 0:=rfl
 generalize Qbo t=r at*;generalize Qam t=v at*;cases v
 all_goals
  obtain⟨nodes,ov,links⟩:=t;simp only[QaF,Qaf,Qak]at*;generalize hol:ov.map QaY=ol at*;generalize hll:links.map Qaz=ll at*;have hlo:Λ ol=ov.length:=by rw[Λo,<-hol];simp
  have hls:Λ ll=links.length:=by rw[Λo,<-hll];simp
  simp only[Bool.false_eq_true,if_true,if_false,forall_const]at ha h256
  conv=>cbv
  repeat' first|refine Qaw hw rfl rfl ?_ ?_|(intro hc;cases hc;done)|exact gxQ|refine And.intro ?_ ?_|(intro hc;(first|rw[wS (by omega) (by omega)]at hc|rw[Qab]at hc|skip);try (conv=>cbv))
 ·exact leaf _ ha
 ·exact leaf _ (by omega)
theorem QdI(P:Program)(hP:P=Tryz.prog)(t:Top)(a:Int):Ret P Qic [QaF t,iA a] (iA (QaE t a)):=by
 refine Qah (hP▸mixed) (hP▸QmT) (hP▸QnT) (nle rfl) λΛ Λo K hK=> ?_
 have hw:=Qgp P hP t;clear hP;have leaf:∀b,QaE t a=b->K (iA b):=λb hb=>by rw[<-hb];exact hK
 have hv2:=QdQ t;have hta:QaE t a=if 0<=a/\a<Qbo t then (if a%2=0 then (Qfc t a).a else (Qfc t a).b)else -1:=rfl
 have hat:∀x,t.links[(a/2).toNat]? =some x->Qfc t a=x:=λx hx=>by simp[Qfc,hx]
 generalize Qbo t=v at*;obtain⟨nodes,ov,links⟩:=t;simp only[QaF,Qaf,Qak]at*;generalize hol:ov.map QaY=ol at*;generalize hll:links.map Qaz=ll at*;have hlo:Λ ol=ov.length:=by rw[Λo,<-hol];simp
 have hls:Λ ll=links.length:=by rw[Λo,<-hll];simp
 conv=>cbv
 repeat' first|refine Qc6 hw rfl rfl ?_|(intro hc;rw[QwP (by omega) (by omega)]at hc;conv=>cbv)|(intro hc;rw[QwQ (by omega)]at hc;conv=>cbv)|(intro(_:Unit);decide)|(intro e he;obtain⟨⟨xa,xb,xc,xd,xe,xf,xg⟩,hx,rfl⟩:=Qbc hll he;(conv=>cbv))|exact gxQ|refine And.intro ?_ ?_|(intro hc;(first|rw[wS (by omega) (by omega)]at hc|rw[Qab]at hc|skip);try (conv=>cbv))
 ·exact leaf _ (by rw[hta,if_neg (by omega)])
 ·exact leaf _ (by rw[hta,if_neg (by omega)])
 all_goals
  refine leaf _ ?_;rw[hta,if_pos (by omega),hat _ (Qef hx (by omega))]
 ·rw[if_pos (by omega)]
 ·rw[if_neg (by omega)]
theorem QeH(P:Program)(hP:P=Tryz.prog)(t:Top)(a:Int):Ret P Qfp [QaF t,iA a] (iA (QaA t a)):=by
 refine Qah (hP▸mixed) (hP▸QmS) (hP▸QnS) (nle rfl) λΛ Λo K hK=> ?_
 have hw:=Qgp P hP t;have ht:=QdI P hP t;clear hP;have leaf:∀b,QaA t a=b->K (iA b):=λb hb=>by rw[<-hb];exact hK
 have hv2:=QdQ t;have hta:QaA t a=if 0<=a/\a<Qbo t then (if a%2=0 then (Qfc t a).b else (Qfc t a).a)else -1:=rfl
 have htt:∀c,QaE t c=if 0<=c/\c<Qbo t then (if c%2=0 then (Qfc t c).a else (Qfc t c).b)else -1:=λ_=>rfl
 have hlk:∀c,c/2=a/2->Qfc t c=Qfc t a:=λc hc=>by rw[Qfc,Qfc,hc]
 have hev:Qbo t%2=0:=by rw[Qbo];split<;>omega
 generalize QaA t a=r at*;generalize hf:QaE t=f at*;generalize Qbo t=v at*;generalize Qfc t=lk at*;obtain⟨nodes,ov,links⟩:=t;simp only[QaF,Qaf,Qak]at*;generalize hol:ov.map QaY=ol at*;generalize hll:links.map Qaz=ll at*;have hlo:Λ ol=ov.length:=by rw[Λo,<-hol];simp
 have hls:Λ ll=links.length:=by rw[Λo,<-hll];simp
 conv=>cbv
 repeat' first|refine Qc6 hw rfl rfl ?_|refine Qc6 (ht _) rfl rfl ?_|(intro hc;rw[QwP (by omega) (by omega)]at hc;conv=>cbv)|(intro hc;rw[QwQ (by omega)]at hc;conv=>cbv)|(intro(_:Unit);decide)|exact gxQ|refine And.intro ?_ ?_|(intro hc;(first|rw[wS (by omega) (by omega)]at hc|rw[Qab]at hc|skip);try (conv=>cbv))
 ·exact leaf _ (by rw[hta,if_neg (by omega)])
 ·exact leaf _ (by rw[hta,if_neg (by omega)])
 ·refine leaf _ ?_;subst hc;rename_i c;rw[hta.trans (if_pos (by omega)),(htt c).trans (if_pos (by omega)),hlk c (by omega)];by_cases h0:a%2=0
  ·rw[if_pos h0,if_neg (by omega)]
  ·rw[if_neg h0,if_pos (by omega)]
theorem QlT{K:AV->Prop}{p:Prop}[Decidable p](hK:K (bA (decide p))):p->K (bA true):=λh=>by rw[decide_eq_true h]at hK;exact hK
theorem Qr4{K:AV->Prop}{p:Prop}[Decidable p](hK:K (bA (decide p))):¬p->K (bA false):=λh=>by rw[decide_eq_false h]at hK;exact hK
theorem QgZ{α:Type}{l:List α}{k:Nat}{x y:α}(h:l[k]? =some x):y∈l.take (k+1)↔y∈l.take k\/y=x:=by
 rw[Qal h];simp
theorem Qxe(P:Program)(hP:P=Tryz.prog)(l:List Int)(n:Int):Ret P QgC [Qao l,iA n] (bA (decide (n∈l))):=by
 refine Qah (hP▸mixed) (hP▸Qok) (hP▸Qpl) (nle rfl) λΛ Λo K hK=> ?_
 clear hP;have yes:=QlT hK;have no:=Qr4 hK;simp only[Qao,Qax]at*;generalize llh:List.map Qar l=ll at*;have lln:Λ ll=l.length:=by rw[Λo,<-llh];simp
 conv=>cbv
 refine QaT l.length (λi:Int=>[(0,.c (.d (.list false 1 ll))),(1,iA n),(5,iA i)]) (λ_=>[]) (λk i=>i=k/\k<=l.length/\n∉l.take k) 0 (Wk.cw) ⟨rfl,by omega,by simp⟩ (λk s h=>h.2.1) ?_;rintro k i Q' ⟨hi,hk,hno⟩ norm ex rt
 conv=>cbv
 repeat' first|(refine ex _ _ _ ?_;(conv=>cbv))|(refine rt _ _ ?_;(conv=>cbv))|(intro e he;obtain⟨x,hx,rfl⟩:=Qbc llh he;(conv=>cbv))|exact gxQ|refine And.intro ?_ ?_|(intro hc;(first|rw[wS (by omega) (by omega)]at hc|rw[Qab]at hc|skip);try (conv=>cbv))
 ·subst hc;exact yes (mgE hx)
 ·refine norm _ _ _ ?_ (Wk.cw);exact⟨by omega,by omega,by rw[QgZ (Qef hx (by omega))];intro h;rcases h with h|h;exact hno h;omega⟩
 ·exact no (by rw[tkQ (by omega)]at hno;exact hno)
theorem QgH(P:Program)(hP:P=Tryz.prog)(l m:List Int):Ret P Qck [Qao l,Qao m] (bA (decide (l=m))):=by
 refine Qah (hP▸mixed) (hP▸QhF) (hP▸QiM) (nle rfl) λΛ Λo K hK=> ?_
 clear hP;have yes:=QlT hK;have no:=Qr4 hK;simp only[Qao,Qax]at*;generalize llh:List.map Qar l=ll at*;have lln:Λ ll=l.length:=by rw[Λo,<-llh];simp
 generalize mlh:List.map Qar m=ml at*;have mln:Λ ml=m.length:=by rw[Λo,<-mlh];simp
 conv=>cbv
 repeat' first|exact gxQ|refine And.intro ?_ ?_|(intro hc;(first|rw[wS (by omega) (by omega)]at hc|rw[Qab]at hc|skip);try (conv=>cbv))
 ·exact no λh=>by subst h;omega
 refine QaT l.length (λi:Int=>[(0,.c (.d (.list false 1 ll))),(1,.c (.d (.list false 1 ml))),(5,iA i)]) (λ_=>[]) (λk i=>i=k/\k<=l.length/\l.take k=m.take k) 0 (Wk.cw) ⟨rfl,by omega,by simp⟩ (λk s h=>h.2.1) ?_;rintro k i Q' ⟨hi,hk,hno⟩ norm ex rt
 conv=>cbv
 repeat' first|(refine ex _ _ _ ?_;(conv=>cbv))|(refine rt _ _ ?_;(conv=>cbv))|(intro e he;obtain⟨x,hx,rfl⟩:=Qbc llh he;(conv=>cbv))|(intro e he;obtain⟨y,hy,rfl⟩:=Qbc mlh he;(conv=>cbv))|exact gxQ|refine And.intro ?_ ?_|(intro hc;(first|rw[wS (by omega) (by omega)]at hc|rw[Qab]at hc|skip);try (conv=>cbv))
 ·refine no λh=> ?_
  subst h;rw[hx]at hy;cases hy;exact hc rfl
 ·refine norm _ _ _ ?_ (Wk.cw);exact⟨by omega,by omega,by rw[Qal (Qef hx (by omega)),Qal (Qef hy (by omega)),hno,show x=y by omega]⟩
 ·exact yes (by rw[tkQ (by omega),tkQ (by omega)]at hno;exact hno)
theorem QvR(P:Program)(hP:P=Tryz.prog)(l:List Int)(n:Int):Ret P QcM [Qao l,iA n] (iA (if n∈l then (l.idxOf n:Int)else -1)):=by
 refine Qah (hP▸mixed) (hP▸QeG) (hP▸Qe9) (nle rfl) λΛ Λo K hK=> ?_
 clear hP;have leaf:∀b:Int,(if n∈l then (l.idxOf n:Int)else -1)=b->K (iA b):=λb hb=>by rw[<-hb];exact hK
 simp only[Qao,Qax]at*;generalize llh:List.map Qar l=ll at*;have lln:Λ ll=l.length:=by rw[Λo,<-llh];simp
 conv=>cbv
 intro hmax
 conv=>cbv
 refine QaT l.length (λi:Int=>[(0,.c (.d (.list false 1 ll))),(1,iA n),(7,iA (Λ ll)),(8,iA i)]) (λ_=>[]) (λk i=>i=k/\k<=l.length/\n∉l.take k) 0 (Wk.cw) ⟨rfl,by omega,by simp⟩ (λk s h=>h.2.1) ?_;rintro k i Q' ⟨hi,hk,hno⟩ norm ex rt
 conv=>cbv
 repeat' first|(refine ex _ _ _ ?_;(conv=>cbv))|(refine rt _ _ ?_;(conv=>cbv))|(intro e he;obtain⟨x,hx,rfl⟩:=Qbc llh he;(conv=>cbv))|exact gxQ|refine And.intro ?_ ?_|(intro hc;(first|rw[wS (by omega) (by omega)]at hc|rw[Qab]at hc|skip);try (conv=>cbv))
 ·refine leaf _ ?_;subst hc;have hx:=Qef hx (show i.toNat=k by omega);rw[if_pos (mgE hx),hi]
  congr 1
  have e:l=l.take k++n::l.drop (k+1):=by
   conv=>lhs;rw[<-List.take_append_drop k l]
   congr 1
   rw[List.drop_eq_getElem_cons (by have:=Qaa hx;exact this)]
   congr 1
   rw[lgE (Qaa hx)]at hx;exact osj hx
  rw[e,List.idxOf_append,if_neg hno,List.idxOf_cons_self];simp;omega
 ·refine norm _ _ _ ?_ (Wk.cw);exact⟨by omega,by omega,by rw[QgZ (Qef hx (by omega))];intro h;rcases h with h|h;exact hno h;omega⟩
 ·exact leaf _ (if_neg (by rw[tkQ (by omega)]at hno;exact hno))
theorem Qps(P:Program)(hP:P=Tryz.prog)(l:List Int)(n:Int):Ret P Qcc [Qao l,iA n] (bA (decide (n∈l))):=by
 refine Qah (hP▸mixed) (hP▸QdO) (hP▸Qd4) (nle rfl) λΛ Λo K hK=> ?_
 have hw:=QvR P hP l n;clear hP;have yes:=QlT hK;have no:=Qr4 hK;have hi:(0:Int)<=(if n∈l then (l.idxOf n:Int)else -1)↔n∈l:=by split<;>simp_all<;>omega
 generalize (if n∈l then (l.idxOf n:Int)else -1)=r at*;simp only[Qao,Qax]at*;generalize llh:List.map Qar l=ll at*;have lln:Λ ll=l.length:=by rw[Λo,<-llh];simp
 conv=>cbv
 repeat' first|refine Qc6 hw rfl rfl ?_|exact gxQ|refine And.intro ?_ ?_|(intro hc;(first|rw[wS (by omega) (by omega)]at hc|rw[Qab]at hc|skip);try (conv=>cbv))
 ·exact yes (hi.1 (by omega))
 ·exact no λh=>by have:=hi.2 h;omega
theorem Qss(P:Program)(hP:P=Tryz.prog)(n lo hi:Int):Ret P Qel [iA n,iA lo,iA hi] (bA (decide (lo<=n/\n<=hi))):=by
 refine Qah (hP▸mixed) (hP▸QgS) (hP▸Qhu) (nle rfl) λΛ Λo K hK=> ?_
 clear hP;have yes:=QlT hK;have no:=Qr4 hK
 conv=>cbv
 repeat' first|exact gxQ|refine And.intro ?_ ?_|(intro hc;(first|rw[wS (by omega) (by omega)]at hc|rw[Qab]at hc|skip);try (conv=>cbv))
 ·exact yes (by omega)
 ·exact no (by omega)
 ·exact no (by omega)
theorem QgU(P:Program)(hP:P=Tryz.prog)(t:Top)(n:Int):Ret P Qh8 [QaF t,iA n] (bA (decide (0<=n/\n<t.nodes))):=by
 refine Qah (hP▸mixed) (hP▸QmO) (hP▸QnO) (nle rfl) λΛ Λo K hK=> ?_
 clear hP;have yes:=QlT hK;have no:=Qr4 hK;obtain⟨nodes,ov,links⟩:=t;simp only[QaF,Qaf,Qak]at*;generalize hol:ov.map QaY=ol at*;generalize hll:links.map Qaz=ll at*;have hlo:Λ ol=ov.length:=by rw[Λo,<-hol];simp
 have hls:Λ ll=links.length:=by rw[Λo,<-hll];simp
 conv=>cbv
 repeat' first|exact gxQ|refine And.intro ?_ ?_|(intro hc;(first|rw[wS (by omega) (by omega)]at hc|rw[Qab]at hc|skip);try (conv=>cbv))
 ·exact yes (by omega)
 ·exact no (by omega)
 ·exact no (by omega)
theorem QoX(P:Program)(hP:P=Tryz.prog)(t:Top):Ret P Qe2 [QaF t] (bA (Qam t)):=by
 refine Qah (hP▸mixed) (hP▸QhH) (hP▸QiO) (nle rfl) λΛ Λo K hK=> ?_
 have hw:=Qss P hP;have hn:=QgU P hP t;clear hP;have leaf:∀b,Qam t=b->K (bA b):=λb hb=>by rw[<-hb];exact hK
 have no:(Qam t=true->False)->K (bA false):=λh=>leaf _ (Bool.eq_false_iff.2 h)
 obtain⟨nodes,ov,links⟩:=t;simp only[QaF,Qaf,Qak]at*;generalize hol:ov.map QaY=ol at*;generalize hll:links.map Qaz=ll at*;have hlo:Λ ol=ov.length:=by rw[Λo,<-hol];simp
 have hls:Λ ll=links.length:=by rw[Λo,<-hll];simp
 conv=>cbv
 repeat' first|refine Qaw (hw _ _ _) rfl rfl ?_ ?_|exact gxQ|refine And.intro ?_ ?_|(intro hc;(first|rw[wS (by omega) (by omega)]at hc|rw[Qab]at hc|skip);try (conv=>cbv))
 all_goals try simp only[decide_eq_true_eq,decide_eq_false_iff_not]at*
 all_goals try (refine no λh=> ?_;obtain⟨h1,h2,h3,h4⟩:=Qai.1 h;simp only at h1 h2 h3;omega)
 all_goals
  refine QaT links.length (λ(i:Int)=>[(1,.c (.ptr 0 0 0 0)),(29,iA (Λ ll)),(30,iA i)]) (λ_=>[.bx [.d (.int .i64 nodes),.d (.list false 1 ol),.d (.list false 7 ll)]]) (λk i=>i=k/\k<=links.length/\∀l∈links.take k,Qzu nodes l=true) 0 (Wk.cw) ⟨rfl,by omega,by simp⟩ (λk s h=>h.2.1) ?_;rintro k i Q' ⟨hi,hk,hok⟩ norm ex rt
  conv=>cbv
  repeat' first|(refine ex _ _ _ ?_;(conv=>cbv))|(refine rt _ _ ?_;(conv=>cbv))|refine Qaw (hw _ _ _) rfl rfl ?_ ?_|refine Qaw (hn _) rfl rfl ?_ ?_|(intro e he;obtain⟨⟨xa,xb,xc,xd,xe,xf,xg⟩,hx,rfl⟩:=Qbc hll he;(conv=>cbv))|exact gxQ|refine And.intro ?_ ?_|(intro hc;(first|rw[wS (by omega) (by omega)]at hc|rw[Qab]at hc|skip);try (conv=>cbv))
 all_goals try simp only[decide_eq_true_eq,decide_eq_false_iff_not]at*
 all_goals try (refine no λh=> ?_;obtain⟨h1,h2,h3,h4⟩:=Qai.1 h;have h5:=Qeo.1 (h4 _ (mgE hx));simp only at h5;omega)
 all_goals try (refine leaf _ (Qai.2 ⟨by simp only;omega,by simp only;omega,by simp only;omega,λl hl=>hok l ?_⟩);rw[tkQ (by omega)];exact hl)
 all_goals
  refine norm _ _ _ ?_ (Wk.cw);refine⟨by omega,by omega,?_⟩;rw[show i.toNat=k by omega]at hx;rw[Qal hx];intro l hl;rcases List.mem_append.1 hl with hl|hl
  ·exact hok l hl
  ·simp only[List.mem_singleton]at hl;subst hl;exact Qeo.2 ⟨by simp only;omega,by simp only;omega,by simp only;omega,by simp only;omega,by simp only;omega,by simp only;omega,by simp only;omega,by simp only;omega⟩
theorem QvP(P:Program)(hP:P=Tryz.prog)(t:Top)(h:(t.links.length:Int)<=256):Ret P Qh7 [QaF t] (iA (2*t.links.length)):=by
 refine Qah (hP▸mixed) (hP▸QmM) (hP▸QnM) (nle rfl) λΛ Λo K hK=> ?_
 clear hP;obtain⟨nodes,ov,links⟩:=t;simp only[QaF,Qaf,Qak]at*;generalize hol:ov.map QaY=ol at*;generalize hll:links.map Qaz=ll at*;have hlo:Λ ol=ov.length:=by rw[Λo,<-hol];simp
 have hls:Λ ll=links.length:=by rw[Λo,<-hll];simp
 conv=>cbv
 repeat' first|exact gxQ|refine And.intro ?_ ?_|(intro hc;(first|rw[wS (by omega) (by omega)]at hc|rw[Qab]at hc|skip);try (conv=>cbv))
 rename_i c;rw[show c=2*(links.length:Int)by omega];exact hK
theorem QpN(P:Program)(hP:P=Tryz.prog)(t:Top)(a:Int)(h:(t.links.length:Int)<=256):Ret P Qkj [QaF t,iA a] (bA (decide (0<=a/\a<2*t.links.length))):=by
 refine Qah (hP▸mixed) (hP▸Qoj) (hP▸Qpk) (nle rfl) λΛ Λo K hK=> ?_
 have hw:=QvP P hP t h;clear hP;have yes:=QlT hK;have no:=Qr4 hK;obtain⟨nodes,ov,links⟩:=t;simp only[QaF,Qaf,Qak]at*;generalize hol:ov.map QaY=ol at*;generalize hll:links.map Qaz=ll at*;have hlo:Λ ol=ov.length:=by rw[Λo,<-hol];simp
 have hls:Λ ll=links.length:=by rw[Λo,<-hll];simp
 conv=>cbv
 repeat' first|refine Qc6 hw rfl rfl ?_|exact gxQ|refine And.intro ?_ ?_|(intro hc;(first|rw[wS (by omega) (by omega)]at hc|rw[Qab]at hc|skip);try (conv=>cbv))
 ·exact yes (by omega)
 ·exact no (by omega)
 ·exact no (by omega)
def Qf1(t:Top)(a:Int):Int:=if a%2=0 then (Qfc t a).a else (Qfc t a).b
def Qou(t:Top)(a:Int):Int:=if a%2=0 then (Qfc t a).b else (Qfc t a).a
theorem Qm4(P:Program)(hP:P=Tryz.prog)(t:Top)(a:Int)(h0:0<=a)(h1:a<2*t.links.length)(h2:(t.links.length:Int)<=256):Ret P Qh9 [QaF t,iA a] (iA (Qf1 t a)):=by
 refine Qah (hP▸mixed) (hP▸QmP) (hP▸QnP) (nle rfl) λΛ Λo K hK=> ?_
 clear hP;have leaf:∀b,Qf1 t a=b->K (iA b):=λb hb=>by rw[<-hb];exact hK
 have hta:Qf1 t a=if a%2=0 then (Qfc t a).a else (Qfc t a).b:=rfl
 have hat:∀x,t.links[(a/2).toNat]? =some x->Qfc t a=x:=λx hx=>by simp[Qfc,hx]
 obtain⟨nodes,ov,links⟩:=t;simp only[QaF,Qaf,Qak]at*;generalize hol:ov.map QaY=ol at*;generalize hll:links.map Qaz=ll at*;have hlo:Λ ol=ov.length:=by rw[Λo,<-hol];simp
 have hls:Λ ll=links.length:=by rw[Λo,<-hll];simp
 conv=>cbv
 repeat' first|(intro hc;rw[QwP (by omega) (by omega)]at hc;conv=>cbv)|(intro hc;rw[QwQ (by omega)]at hc;conv=>cbv)|(intro(_:Unit);decide)|(intro e he;obtain⟨⟨xa,xb,xc,xd,xe,xf,xg⟩,hx,rfl⟩:=Qbc hll he;(conv=>cbv))|exact gxQ|refine And.intro ?_ ?_|(intro hc;(first|rw[wS (by omega) (by omega)]at hc|rw[Qab]at hc|skip);try (conv=>cbv))
 ·exact leaf _ (by rw[hta,if_pos (by omega),hat _ (Qef hx (by omega))])
 ·exact leaf _ (by rw[hta,if_neg (by omega),hat _ (Qef hx (by omega))])
def Qsi(t:Top)(s:Seg):Bool:=decide (0<=s.num)&&(decide (s.kind=1/\s.num<t.nodes)||decide (s.kind=2/\s.num<2*t.links.length)||decide (s.kind=3/\1<=s.num/\s.num<=64)||decide (s.kind=4/\s.num<=65535))
theorem QfE{t:Top}{s:Seg}:Qsi t s=true↔0<=s.num/\((s.kind=1/\s.num<t.nodes)\/(s.kind=2/\s.num<2*t.links.length)\/(s.kind=3/\1<=s.num/\s.num<=64)\/(s.kind=4/\s.num<=65535)):=by
 simp only[Qsi,Bool.and_eq_true,Bool.or_eq_true,decide_eq_true_eq,or_assoc]
theorem Qyd(P:Program)(hP:P=Tryz.prog)(t:Top)(s:Seg)(h:(t.links.length:Int)<=256):Ret P Qfo [QaF t,Qzx s] (bA (Qsi t s)):=by
 refine Qah (hP▸mixed) (hP▸QiU) (hP▸QjB) (nle rfl) λΛ Λo K hK=> ?_
 have hn:=QgU P hP t;have ha:=λa=>QpN P hP t a h
 clear hP;have leaf:∀b,Qsi t s=b->K (bA b):=λb hb=>by rw[<-hb];exact hK
 have yes:(0<=s.num/\((s.kind=1/\s.num<t.nodes)\/(s.kind=2/\s.num<2*t.links.length)\/(s.kind=3/\1<=s.num/\s.num<=64)\/(s.kind=4/\s.num<=65535)))->K (bA true):=λh=>leaf _ (QfE.2 h)
 have no:¬(0<=s.num/\((s.kind=1/\s.num<t.nodes)\/(s.kind=2/\s.num<2*t.links.length)\/(s.kind=3/\1<=s.num/\s.num<=64)\/(s.kind=4/\s.num<=65535)))->K (bA false):=λh=>leaf _ (Bool.eq_false_iff.2 λh'=>h (QfE.1 h'))
 clear leaf hK;obtain⟨kind,num⟩:=s;simp only[Qzx]at*;obtain⟨nodes,ov,links⟩:=t;simp only[QaF,Qaf,Qak]at*;generalize hol:ov.map QaY=ol at*;generalize hll:links.map Qaz=ll at*;have hlo:Λ ol=ov.length:=by rw[Λo,<-hol];simp
 have hls:Λ ll=links.length:=by rw[Λo,<-hll];simp
 conv=>cbv
 repeat' first|refine Qaw (hn _) rfl rfl ?_ ?_|refine Qaw (ha _) rfl rfl ?_ ?_|exact gxQ|refine And.intro ?_ ?_|(intro hc;(first|rw[wS (by omega) (by omega)]at hc|rw[Qab]at hc|skip);try (conv=>cbv))
 all_goals try simp only[decide_eq_true_eq,decide_eq_false_iff_not]at*
 all_goals first|(refine yes ?_;omega)|(refine no ?_;omega)
theorem QyW(P:Program)(hP:P=Tryz.prog)(t:Top)(s:Seg):Ret P Qg2 [QaF t,Qzx s] (bA (Qam t&&Qsi t s)):=by
 refine Qah (hP▸mixed) (hP▸Qk7) (hP▸Qmq) (nle rfl) λΛ Λo K hK=> ?_
 have hn:=QeY P hP t;have ha:=Qgp P hP t;clear hP;have hb:Qam t=true->Qbo t=2*t.links.length:=λh=>by rw[Qbo,if_pos h]
 have leaf:∀b,(Qam t&&Qsi t s)=b->K (bA b):=λb hb=>by rw[<-hb];exact hK
 have yes:(Qam t=true/\0<=s.num/\((s.kind=1/\s.num<t.nodes)\/(s.kind=2/\s.num<2*t.links.length)\/(s.kind=3/\1<=s.num/\s.num<=64)\/(s.kind=4/\s.num<=65535)))->K (bA true):=λh=>leaf _ (by rw[h.1,QfE.2 h.2];rfl)
 have no:(Qam t=true->¬(0<=s.num/\((s.kind=1/\s.num<t.nodes)\/(s.kind=2/\s.num<2*t.links.length)\/(s.kind=3/\1<=s.num/\s.num<=64)\/(s.kind=4/\s.num<=65535))))->K (bA false):=λh=>leaf _ (by
  cases hv:Qam t with
  |false=>rfl
  |true=>exact Bool.eq_false_iff.2 λh'=>h hv (QfE.1 h'))
 clear leaf hK;generalize Qam t=v at*;generalize Qbo t=r at*;obtain⟨kind,num⟩:=s;simp only[Qzx]at*;obtain⟨nodes,ov,links⟩:=t;simp only[QaF,Qaf,Qak]at*;generalize hol:ov.map QaY=ol at*;generalize hll:links.map Qaz=ll at*;have hlo:Λ ol=ov.length:=by rw[Λo,<-hol];simp
 have hls:Λ ll=links.length:=by rw[Λo,<-hll];simp
 conv=>cbv
 repeat' first|refine Qaw hn rfl rfl ?_ ?_|refine Qc6 ha rfl rfl ?_|exact gxQ|refine And.intro ?_ ?_|(intro hc;(first|rw[wS (by omega) (by omega)]at hc|rw[Qab]at hc|skip);try (conv=>cbv))
 all_goals first|(refine no λh=> ?_;have:=hb h;omega)|(refine no λh=> ?_;exact absurd (h.symm.trans ‹v=false›) (by simp))|(refine yes ⟨‹v=true›,?_⟩;have:=hb ‹v=true›;omega)
def Qg6(t:Top)(n:Int)(l:List Int)(i:Nat):Bool:=decide (QaE t (l.getD i 0)=n)&&(decide (i=0)||decide (l.getD (i-1) 0<l.getD i 0))
def Qlf(t:Top)(n:Int)(l:List Int):Bool:=(List.range l.length).all (Qg6 t n l)
theorem Qep{t:Top}{n:Int}{l:List Int}:Qlf t n l=true↔∀i,i<l.length->Qg6 t n l i=true:=by
 simp[Qlf,List.all_eq_true]
theorem QhL{α:Type}{l:List α}{i:Nat}{x d:α}(h:l[i]? =some x):l.getD i d=x:=by
 simp[List.getD,h]
theorem Qkm{t:Top}{n:Int}{l:List Int}{i:Nat}{x:Int}(hx:l[i]? =some x)(h1:QaE t x=n)(h2:i=0\/∃y,l[i-1]? =some y/\y<x):Qg6 t n l i=true:=by
 simp only[Qg6,QhL hx,h1,decide_true,Bool.true_and,Bool.or_eq_true,decide_eq_true_eq];rcases h2 with h2|⟨y,hy,h2⟩
 ·exact .inl h2
 ·exact .inr (by rw[QhL hy];exact h2)
theorem Qq6{t:Top}{n:Int}{l:List Int}{i:Nat}{x:Int}(hx:l[i]? =some x)(h:QaE t x≠n\/(i≠0/\∃y,l[i-1]? =some y/\x<=y)):¬Qg6 t n l i=true:=by
 simp only[Qg6,QhL hx,Bool.and_eq_true,Bool.or_eq_true,decide_eq_true_eq];rintro⟨h1,h2⟩;rcases h with h|⟨h0,y,hy,h⟩
 ·exact h h1
 ·rcases h2 with h2|h2
  ·exact h0 h2
  ·rw[QhL hy]at h2;omega
theorem QgI{t:Top}{a:Int}(hv:Qam t=true)(h0:0<=a)(h1:a<2*t.links.length):QaE t a=Qf1 t a:=by
 rw[QaE,Qbo,if_pos hv,if_pos ⟨h0,h1⟩];rfl
theorem QlO{t:Top}{a:Int}(hv:Qam t=true)(h:¬(0<=a/\a<2*t.links.length)):QaE t a= -1:=by
 rw[QaE,Qbo,if_pos hv,if_neg h]
theorem QpZ(P:Program)(hP:P=Tryz.prog)(t:Top)(n:Int)(l:List Int):Ret P Qe1 [QaF t,iA n,Qao l] (bA (Qlf t n l)):=by
 refine Qah (hP▸mixed) (hP▸QhG) (hP▸QiN) (nle rfl) λΛ Λo K hK=> ?_
 have ht:=QdI P hP t;clear hP;have yes:(∀i,i<l.length->Qg6 t n l i=true)->K (bA true):=λh=>by rw[Qep.2 h]at hK;exact hK
 have no:∀i,i<l.length->¬Qg6 t n l i=true->K (bA false):=λi hi h=>by
  rw[show Qlf t n l=false from Bool.eq_false_iff.2 λh'=>h (Qep.1 h' i hi)]at hK;exact hK
 have ya:=λi x=> @Qkm t n l i x
 have na:=λi x=> @Qq6 t n l i x
 generalize Qg6 t n l=oa at*;generalize QaE t=f at*;clear hK;simp only[Qao,Qax]at*;generalize alh:List.map Qar l=al at*;have aln:Λ al=l.length:=by rw[Λo,<-alh];simp
 obtain⟨nodes,ov,links⟩:=t;simp only[QaF,Qaf,Qak]at*;generalize hol:ov.map QaY=ol at*;generalize hll:links.map Qaz=ll at*;have hlo:Λ ol=ov.length:=by rw[Λo,<-hol];simp
 have hls:Λ ll=links.length:=by rw[Λo,<-hll];simp
 conv=>cbv
 refine QaT l.length (λ(i:Int)=>[(1,iA n),(2,.c (.d (.list false 1 al))),(3,.c (.ptr 0 0 0 0)),(7,iA i)]) (λ_=>[.bx [.d (.int .i64 nodes),.d (.list false 1 ol),.d (.list false 7 ll)]]) (λk i=>i=k/\k<=l.length/\∀j,j<k->oa j=true) 0 (Wk.cw) ⟨rfl,by omega,by simp⟩ (λk s h=>h.2.1) ?_;rintro k i Q' ⟨hi,hk,hok⟩ norm ex rt;by_cases hlt:k<l.length
 ·obtain⟨x,hx⟩:∃x,l[k]? =some x:=⟨_,lgE hlt⟩;have hxa:=QdS alh hi hx
  conv=>cbv
  repeat' first|(refine ex _ _ _ ?_;(conv=>cbv))|(refine rt _ _ ?_;(conv=>cbv))|refine Qc6 (ht _) rfl rfl ?_|(intro e he;cases osj (he.symm.trans hxa);(conv=>cbv))|(intro e he;obtain⟨y,hy,rfl⟩:=Qbc alh he;(conv=>cbv))|exact gxQ|refine And.intro ?_ ?_|(intro hc;(first|rw[wS (by omega) (by omega)]at hc|rw[Qab]at hc|skip);try (conv=>cbv))
  ·exact no k hlt (na k x hx (.inl (by omega)))
  ·exact no k hlt (na k x hx (.inr ⟨by omega,_,Qef hy (by omega),by omega⟩))
  all_goals
   refine norm _ _ _ ?_ (Wk.cw);refine⟨by omega,by omega,λj hj=> ?_⟩;rcases Nat.lt_or_ge j k with h|h
   ·exact hok j h
   ·obtain rfl:j=k:=by omega
    first|exact ya j x hx (by omega) (.inr ⟨_,Qef hy (by omega),by omega⟩)|exact ya j x hx (by omega) (.inl (by omega))
 ·conv=>cbv
  repeat' first|(refine ex _ _ _ ?_;(conv=>cbv))|(refine rt _ _ ?_;(conv=>cbv))|exact gxQ|refine And.intro ?_ ?_|(intro hc;(first|rw[wS (by omega) (by omega)]at hc|rw[Qab]at hc|skip);try (conv=>cbv))
  exact yes λj hj=>hok j (by omega)
theorem Qlw(P:Program)(hP:P=Tryz.prog)(t:Top)(n:Int)(l:List Int)(hv:Qam t=true)(hn0:0<=n):Ret P Qfu [QaF t,iA n,Qao l] (bA (Qlf t n l)):=by
 refine Qah (hP▸mixed) (hP▸QiW) (hP▸QjE) (nle rfl) λΛ Λo K hK=> ?_
 have h256:=(Qai.1 hv).2.2.1;have har:=λa=>QpN P hP t a h256
 have ht:=λa h0 h1=>Qm4 P hP t a h0 h1 h256
 clear hP;have yes:(∀i,i<l.length->Qg6 t n l i=true)->K (bA true):=λh=>by rw[Qep.2 h]at hK;exact hK
 have no:∀i,i<l.length->¬Qg6 t n l i=true->K (bA false):=λi hi h=>by
  rw[show Qlf t n l=false from Bool.eq_false_iff.2 λh'=>h (Qep.1 h' i hi)]at hK;exact hK
 have ya:=λi x=> @Qkm t n l i x
 have na:=λi x=> @Qq6 t n l i x
 have tv:=λa=> @QgI t a hv
 have tn:=λa=> @QlO t a hv
 generalize Qg6 t n l=oa at*;generalize QaE t=f at*;generalize Qf1 t=g at*;clear hK hv;simp only[Qao,Qax]at*;generalize alh:List.map Qar l=al at*;have aln:Λ al=l.length:=by rw[Λo,<-alh];simp
 obtain⟨nodes,ov,links⟩:=t;simp only[QaF,Qaf,Qak]at*;generalize hol:ov.map QaY=ol at*;generalize hll:links.map Qaz=ll at*;have hlo:Λ ol=ov.length:=by rw[Λo,<-hol];simp
 have hls:Λ ll=links.length:=by rw[Λo,<-hll];simp
 conv=>cbv
 intro hmax
 conv=>cbv
 refine QaT l.length (λ(i:Int)=>[(1,iA n),(2,.c (.d (.list false 1 al))),(3,.c (.ptr 0 0 0 0)),(9,.c (.d (.list false 1 al))),(10,iA (Λ al)),(11,iA i)]) (λ_=>[.bx [.d (.int .i64 nodes),.d (.list false 1 ol),.d (.list false 7 ll)]]) (λk i=>i=k/\k<=l.length/\∀j,j<k->oa j=true) 0 (Wk.cw) ⟨rfl,by omega,by simp⟩ (λk s h=>h.2.1) ?_;rintro k i Q' ⟨hi,hk,hok⟩ norm ex rt;by_cases hlt:k<l.length
 ·obtain⟨x,hx⟩:∃x,l[k]? =some x:=⟨_,lgE hlt⟩;have hxa:=QdS alh hi hx
  conv=>cbv
  repeat' first|(refine ex _ _ _ ?_;(conv=>cbv))|(refine rt _ _ ?_;(conv=>cbv))|refine Qaw (har _) rfl rfl ?_ ?_|(refine Qc6 (ht _ (by simp only[decide_eq_true_eq]at *;omega) (by simp only[decide_eq_true_eq]at *;omega)) rfl rfl ?_)|(intro e he;cases osj (he.symm.trans hxa);(conv=>cbv))|(intro e he;obtain⟨y,hy,rfl⟩:=Qbc alh he;(conv=>cbv))|exact gxQ|refine And.intro ?_ ?_|(intro hc;(first|rw[wS (by omega) (by omega)]at hc|rw[Qab]at hc|skip);try (conv=>cbv))
  all_goals simp only[decide_eq_true_eq,decide_eq_false_iff_not]at*
  all_goals first
   |(refine no k hlt (na k x hx (.inl ?_));rw[tn x (by omega)];omega)
   |(refine no k hlt (na k x hx (.inl ?_));rw[tv x (by omega) (by omega)];omega)
   |(refine no k hlt (na k x hx (.inr ⟨?_,y,Qef hy ?_,?_⟩))<;>omega)
   |skip
  all_goals
   refine norm _ _ _ ?_ (Wk.cw);refine⟨by omega,by omega,λj hj=> ?_⟩;rcases Nat.lt_or_ge j k with h|h
   ·exact hok j h
   ·obtain rfl:j=k:=by omega
    first
     |(refine ya j x hx ?_ (.inr ⟨y,Qef hy ?_,?_⟩);(rw[tv x (by omega) (by omega)];omega);all_goals omega)
     |(refine ya j x hx ?_ (.inl ?_);(rw[tv x (by omega) (by omega)];omega);all_goals omega)
 ·conv=>cbv
  repeat' first|(refine ex _ _ _ ?_;(conv=>cbv))|(refine rt _ _ ?_;(conv=>cbv))|exact gxQ|refine And.intro ?_ ?_|(intro hc;(first|rw[wS (by omega) (by omega)]at hc|rw[Qab]at hc|skip);try (conv=>cbv))
  exact yes λj hj=>hok j (by omega)
def QsH(t:Top)(n d:Int)(e:Ety):Bool:=
 Qlf t n e.arcs&& !(decide (d=n)&&decide (0<e.arcs.length))&&(if e.rep then decide (e.arcs.length=1/\e.push.length<=32)else decide (e.push.length=0))&&e.push.all (Qsi t)
theorem Qed{t:Top}{n d:Int}{e:Ety}:QsH t n d e=true↔
  Qlf t n e.arcs=true/\¬(d=n/\0<e.arcs.length)/\(e.rep=true->e.arcs.length=1/\e.push.length<=32)/\(e.rep=false->e.push.length=0)/\∀s∈e.push,Qsi t s=true:=by
 cases h:e.rep<;>simp only[QsH,h,Bool.and_eq_true,List.all_eq_true,and_assoc,Bool.not_eq_true',Bool.and_eq_false_iff,decide_eq_false_iff_not,decide_eq_true_eq,if_true,if_false,Bool.false_eq_true,false_implies,true_and,forall_const,Classical.not_and_iff_not_or_not,reduceCtorEq]
def Qhq(t:Top)(x:Tab):Bool:=
 Qam t&&decide (0<=x.node/\x.node<t.nodes)&&decide ((x.to.length:Int)=t.nodes)&&Qlf t x.node x.down&&(List.range x.to.length).all λd=>QsH t x.node d (x.to.getD d default)
theorem QbV{t:Top}{x:Tab}:Qhq t x=true↔Qam t=true/\(0<=x.node/\x.node<t.nodes)/\(x.to.length:Int)=t.nodes/\Qlf t x.node x.down=true/\∀(i:Nat) (e:Ety),x.to[i]? =some e->QsH t x.node i e=true:=by
 simp only[Qhq,Bool.and_eq_true,decide_eq_true_eq,List.all_eq_true,List.mem_range,and_assoc];constructor
 ·rintro⟨h1,h2,h3,h4,h5,h6⟩;refine⟨h1,h2,h3,h4,h5,λi e he=> ?_⟩;have:=h6 i (Qaa he);rw[QhL he]at this;exact this
 ·rintro⟨h1,h2,h3,h4,h5,h6⟩;exact⟨h1,h2,h3,h4,h5,λi hi=>h6 i _ (by simp[List.getD,lgE hi])⟩
theorem Qub(P:Program)(hP:P=Tryz.prog)(t:Top)(e:Ety)(n d:Int)(hv:Qam t=true)(hn0:0<=n):Ret P Qgc [QaF t,Qx2 e,iA n,iA d] (bA (QsH t n d e)):=by
 refine Qah (hP▸mixed) (hP▸Qj5) (hP▸QkZ) (nle rfl) λΛ Λo K hK=> ?_
 have h256:=(Qai.1 hv).2.2.1;have hl:=Qlw P hP t n e.arcs hv hn0;have hg:=λs=>Qyd P hP t s h256
 clear hP;have yes:(Qlf t n e.arcs=true/\¬(d=n/\0<e.arcs.length)/\(e.rep=true->e.arcs.length=1/\e.push.length<=32)/\(e.rep=false->e.push.length=0)/\∀s∈e.push,Qsi t s=true)->K (bA true):=λh=>by
  rw[Qed.2 h]at hK;exact hK
 have no:¬(Qlf t n e.arcs=true/\¬(d=n/\0<e.arcs.length)/\(e.rep=true->e.arcs.length=1/\e.push.length<=32)/\(e.rep=false->e.push.length=0)/\∀s∈e.push,Qsi t s=true)->K (bA false):=λh=>by
  rw[show QsH t n d e=false from Bool.eq_false_iff.2 λh'=>h (Qed.1 h')]at hK;exact hK
 clear hK hv;obtain⟨arcs,rep,push⟩:=e;simp only[Qx2,Qao,Qax,QaZ,Qzx]at*;generalize Qlf t n arcs=ob at*;generalize Qsi t=sb at*;generalize alh:List.map Qar arcs=al at*;have aln:Λ al=arcs.length:=by rw[Λo,<-alh];simp
 generalize plh:List.map Qaj push=pl at*;have pln:Λ pl=push.length:=by rw[Λo,<-plh];simp
 obtain⟨nodes,ov,links⟩:=t;simp only[QaF,Qaf,Qak]at*;generalize hol:ov.map QaY=ol at*;generalize hll:links.map Qaz=ll at*;have hlo:Λ ol=ov.length:=by rw[Λo,<-hol];simp
 have hls:Λ ll=links.length:=by rw[Λo,<-hll];simp
 cases rep
 all_goals
  conv=>cbv
  repeat' first|refine Qaw hl rfl rfl ?_ ?_|exact gxQ|refine And.intro ?_ ?_|(intro hc;(first|rw[wS (by omega) (by omega)]at hc|rw[Qab]at hc|skip);try (conv=>cbv))
 all_goals try (refine no λh=> ?_;obtain⟨h1,h2,h3,h4,_⟩:=h;first|omega|(have:=h3 rfl;omega)|(have:=h4 rfl;omega)|(rw[h1]at hc;cases hc))
 all_goals try (refine yes ⟨by assumption,by omega,(by simp),by intro _;omega,?_⟩;obtain rfl:push=[]:=lzQ (by omega);simp)
 all_goals
  refine QaT push.length (λ(i:Int)=>[(4,.c (.ptr 0 0 0 0)),(46,.c (.d (.list false 2 pl))),(47,iA (Λ pl)),(48,iA i)]) (λ_=>[.bx [.d (.int .i64 nodes),.d (.list false 1 ol),.d (.list false 7 ll)]]) (λk i=>i=k/\k<=push.length/\∀s∈push.take k,sb s=true) 0 (Wk.cw) ⟨rfl,by omega,by simp⟩ (λk s h=>h.2.1) ?_;rintro k i Q' ⟨hi,hk,hok⟩ norm ex rt;by_cases hlt:k<push.length
  ·obtain⟨x,hx⟩:∃x,push[k]? =some x:=⟨_,lgE hlt⟩;have hxa:=QdS plh hi hx;obtain⟨xk,xn⟩:=x;have hgx:=hg ⟨xk,xn⟩
   conv=>cbv
   repeat' first|(refine ex _ _ _ ?_;(conv=>cbv))|(refine rt _ _ ?_;(conv=>cbv))|refine Qaw hgx rfl rfl ?_ ?_|(intro e he;cases osj (he.symm.trans hxa);(conv=>cbv))|exact gxQ|refine And.intro ?_ ?_|(intro hc;(first|rw[wS (by omega) (by omega)]at hc|rw[Qab]at hc|skip);try (conv=>cbv))
   ·refine norm _ _ _ ?_ (Wk.cw);refine⟨by omega,by omega,λs hs=> ?_⟩;rw[Qal hx]at hs;rcases List.mem_append.1 hs with hs|hs
    ·exact hok s hs
    ·simp only[List.mem_singleton]at hs;subst hs;assumption
   ·refine no λh=> ?_
    have:=h.2.2.2.2 _ (mgE hx);rw[this]at hc;cases hc
  ·conv=>cbv
   repeat' first|(refine ex _ _ _ ?_;(conv=>cbv))|(refine rt _ _ ?_;(conv=>cbv))|exact gxQ|refine And.intro ?_ ?_|(intro hc;(first|rw[wS (by omega) (by omega)]at hc|rw[Qab]at hc|skip);try (conv=>cbv))
   refine yes ⟨by assumption,by omega,λ_=>by omega,by simp,?_⟩;rw[tkQ (by omega)]at hok;exact hok
theorem Qhm(P:Program)(hP:P=Tryz.prog)(t:Top)(x:Tab):Ret P Qg4 [QaF t,Qjc x] (bA (Qhq t x)):=by
 refine Qah (hP▸mixed) (hP▸Qla) (hP▸Qmt) (nle rfl) λΛ Λo K hK=> ?_
 have hw:=QoX P hP t;have hn:=QgU P hP t;have hl:=λl=>Qlw P hP t x.node l
 have hp:=λe d=>Qub P hP t e x.node d
 clear hP;have yes:(Qam t=true/\(0<=x.node/\x.node<t.nodes)/\(x.to.length:Int)=t.nodes/\Qlf t x.node x.down=true/\∀(i:Nat) (e:Ety),x.to[i]? =some e->QsH t x.node i e=true)->K (bA true):=λh=>by
  rw[QbV.2 h]at hK;exact hK
 have no:¬(Qam t=true/\(0<=x.node/\x.node<t.nodes)/\(x.to.length:Int)=t.nodes/\Qlf t x.node x.down=true/\∀(i:Nat) (e:Ety),x.to[i]? =some e->QsH t x.node i e=true)->K (bA false):=λh=>by
  rw[show Qhq t x=false from Bool.eq_false_iff.2 λh'=>h (QbV.1 h')]at hK;exact hK
 clear hK;obtain⟨node,to,down⟩:=x;have hld:=hl down;simp only[Qjc,Qfa,Qao,Qax]at*;generalize Qlf t node down=ob at*;generalize QsH t node=eb at*;generalize Qam t=v at*;generalize elh:List.map Qay to=el at*;have eln:Λ el=to.length:=by rw[Λo,<-elh];simp
 generalize dlh:List.map Qar down=dl at*;have dln:Λ dl=down.length:=by rw[Λo,<-dlh];simp
 obtain⟨nodes,ov,links⟩:=t;simp only[QaF,Qaf,Qak]at*;generalize hol:ov.map QaY=ol at*;generalize hll:links.map Qaz=ll at*;have hlo:Λ ol=ov.length:=by rw[Λo,<-hol];simp
 have hls:Λ ll=links.length:=by rw[Λo,<-hll];simp
 conv=>cbv
 repeat' first|refine Qaw hw rfl rfl ?_ ?_|refine Qaw (hn _) rfl rfl ?_ ?_|refine Qaw (hld (by assumption) (by simp only[decide_eq_true_eq]at *;omega)) rfl rfl ?_ ?_|exact gxQ|refine And.intro ?_ ?_|(intro hc;(first|rw[wS (by omega) (by omega)]at hc|rw[Qab]at hc|skip);try (conv=>cbv))
 all_goals try simp only[decide_eq_true_eq,decide_eq_false_iff_not]at*
 all_goals try (refine no λh=> ?_;obtain⟨h1,h2,h3,h4,_⟩:=h;first|omega|(rw[h1]at hc;cases hc;done)|(rw[h4]at hc;cases hc;done)|(have:=‹ob=false›;rw[h4]at this;cases this;done))
 refine QaT to.length (λ(i:Int)=>[(2,.c (.ptr 0 0 0 0)),(3,.c (.ptr 1 0 0 0)),(35,.c (.d (.list false 3 el))),(36,iA (Λ el)),(37,iA i)]) (λ_=>[.bx [.d (.int .i64 nodes),.d (.list false 1 ol),.d (.list false 7 ll)],.bx [.d (.int .i64 node),.d (.list false 3 el),.d (.list false 1 dl)]]) (λk i=>i=k/\k<=to.length/\∀(j:Nat) (e:Ety),j<k->to[j]? =some e->eb j e=true) 0 (Wk.cw) ⟨rfl,by omega,by simp⟩ (λk s h=>h.2.1) ?_;rintro k i Q' ⟨hi,hk,hok⟩ norm ex rt;by_cases hlt:k<to.length
 ·obtain⟨x,hx⟩:∃x,to[k]? =some x:=⟨_,lgE hlt⟩;have hxa:=QdS elh hi hx;obtain⟨arcs,rep,push⟩:=x;have hpx:=hp ⟨arcs,rep,push⟩ i (by assumption) (by omega);simp only[Qx2,Qay,Qax,QaZ]at hxa hpx;generalize List.map Qar arcs=al at*;generalize List.map Qaj push=pl at*
  conv=>cbv
  repeat' first|(refine ex _ _ _ ?_;(conv=>cbv))|(refine rt _ _ ?_;(conv=>cbv))|refine Qaw hpx rfl rfl ?_ ?_|(intro e he;cases osj (he.symm.trans hxa);(conv=>cbv))|exact gxQ|refine And.intro ?_ ?_|(intro hc;(first|rw[wS (by omega) (by omega)]at hc|rw[Qab]at hc|skip);try (conv=>cbv))
  ·refine norm _ _ _ ?_ (Wk.cw);refine⟨by omega,by omega,λj e hj he=> ?_⟩;rcases Nat.lt_or_ge j k with h|h
   ·exact hok j e h he
   ·obtain rfl:j=k:=by omega
    rw[hx]at he;cases he;rw[<-hi];assumption
  ·refine no λh=> ?_
   have:=h.2.2.2.2 k _ hx;rw[<-hi,hc]at this;cases this
 ·conv=>cbv
  repeat' first|(refine ex _ _ _ ?_;(conv=>cbv))|(refine rt _ _ ?_;(conv=>cbv))|exact gxQ|refine And.intro ?_ ?_|(intro hc;(first|rw[wS (by omega) (by omega)]at hc|rw[Qab]at hc|skip);try (conv=>cbv))
  exact yes ⟨by assumption,by omega,by omega,by assumption,λj e he=>hok j e (by have:=Qaa he;omega) he⟩
theorem Qlh(P:Program)(hP:P=Tryz.prog)(t:Top)(x:Tab):Ret P Qg3 [QaF t,Qjc x] (bA (Qhq t x)):=by
  refine Qah (hP▸mixed) (hP▸Qk9) (hP▸Qms) (nle rfl) λΛ Λo K hK=> ?_
  have hw:=QeY P hP t;have hl:=λl=>QpZ P hP t x.node l
  have hg:=QyW P hP t;clear hP;have yes:(Qam t=true/\(0<=x.node/\x.node<t.nodes)/\(x.to.length:Int)=t.nodes/\Qlf t x.node x.down=true/\∀(i:Nat) (e:Ety),x.to[i]? =some e->QsH t x.node i e=true)->K (bA true):=λh=>by
    rw[QbV.2 h]at hK;exact hK
  have no:¬(Qam t=true/\(0<=x.node/\x.node<t.nodes)/\(x.to.length:Int)=t.nodes/\Qlf t x.node x.down=true/\∀(i:Nat) (e:Ety),x.to[i]? =some e->QsH t x.node i e=true)->K (bA false):=λh=>by
    rw[show Qhq t x=false from Bool.eq_false_iff.2 λh'=>h (QbV.1 h')]at hK;exact hK
  clear hK;obtain⟨node,to,down⟩:=x;have hld:=hl down;have hes:=λd e=> @Qed t node d e
  simp only[Qjc,Qfa,Qao,Qax,Qzx]at*;generalize Qlf t node=ob at*;generalize QsH t node=eb at*;generalize Qam t=v at*;generalize Qsi t=sb at*;generalize elh:List.map Qay to=el at*;have eln:Λ el=to.length:=by rw[Λo,<-elh];simp
  generalize dlh:List.map Qar down=dl at*;have dln:Λ dl=down.length:=by rw[Λo,<-dlh];simp
  obtain⟨nodes,ov,links⟩:=t;simp only[QaF,Qaf,Qak]at*;generalize hol:ov.map QaY=ol at*;generalize hll:links.map Qaz=ll at*;have hlo:Λ ol=ov.length:=by rw[Λo,<-hol];simp
  have hls:Λ ll=links.length:=by rw[Λo,<-hll];simp
  conv=>cbv
  repeat' first|refine Qaw hw rfl rfl ?_ ?_|refine Qaw hld rfl rfl ?_ ?_|exact gxQ|refine And.intro ?_ ?_|(intro hc;(first|rw[wS (by omega) (by omega)]at hc|rw[Qab]at hc|skip);try (conv=>cbv))
  all_goals try (refine no λh=> ?_;obtain⟨h1,h2,h3,h4,_⟩:=h;first|omega|(rw[h1]at hc;cases hc;done)|(rw[h4]at hc;cases hc;done))
  refine QaT to.length (λ(i:Int)=>[(2,.c (.ptr 0 0 0 0)),(3,.c (.ptr 1 0 0 0)),(5,iA i)]) (λ_=>[.bx [.d (.int .i64 nodes),.d (.list false 1 ol),.d (.list false 7 ll)],.bx [.d (.int .i64 node),.d (.list false 3 el),.d (.list false 1 dl)]]) (λk i=>i=k/\k<=to.length/\∀(j:Nat) (e:Ety),j<k->to[j]? =some e->eb j e=true) 0 (Wk.cw) ⟨rfl,by omega,by simp⟩ (λk s h=>h.2.1) ?_;rintro k i Q' ⟨hi,hk,hok⟩ norm exo rto;by_cases hlt:k<to.length
  · obtain⟨x,hx⟩:∃x,to[k]? =some x:=⟨_,lgE hlt⟩
    have hxa:=QdS elh hi hx;obtain⟨arcs,rep,push⟩:=x;have hlx:=hl arcs;have hesx:=hes i ⟨arcs,rep,push⟩;have bad:¬eb i ⟨arcs,rep,push⟩=true->K (bA false):=λh=>no λh'=>h (by rw[hi];exact h'.2.2.2.2 k _ hx)
    simp only[Qay,Qax,QaZ]at hxa hlx hesx;generalize alh:List.map Qar arcs=al at*;have aln:Λ al=arcs.length:=by rw[Λo,<-alh];simp
    generalize plh:List.map Qaj push=pl at*;have pln:Λ pl=push.length:=by rw[Λo,<-plh];simp
    cases rep
    all_goals
      conv=>cbv
      repeat' first|(refine rto _ _ ?_;(conv=>cbv))|refine Qaw hlx rfl rfl ?_ ?_|(intro e he;cases osj (he.symm.trans hxa);(conv=>cbv))|exact gxQ|refine And.intro ?_ ?_|(intro hc;(first|rw[wS (by omega) (by omega)]at hc|rw[Qab]at hc|skip);try (conv=>cbv))
    all_goals try (refine bad λh=> ?_;obtain⟨h1,h2,h3,h4,_⟩:=hesx.1 h;first|omega|(have:=h3 rfl;omega)|(have:=h4 rfl;omega)|(rw[h1]at hc;cases hc;done))
    all_goals
      refine QaT push.length (λ(i':Int)=>[(2,.c (.ptr 0 0 0 0)),(3,.c (.ptr 1 0 0 0)),(5,iA i),(6,.c (.ptr 2 0 0 0)),(7,iA i')]) (λ_=>[.bx [.d (.int .i64 nodes),.d (.list false 1 ol),.d (.list false 7 ll)],.bx [.d (.int .i64 node),.d (.list false 3 el),.d (.list false 1 dl)],.bx [.d (.list false 1 al),.d (.bool _),.d (.list false 2 pl)]]) (λk i=>i=k/\k<=push.length/\∀s∈push.take k,sb s=true) 0 (Wk.cw) ⟨rfl,by omega,by simp⟩ (λk s h=>h.2.1) ?_
    all_goals
      rintro k2 i2 Q2 ⟨hi2,hk2,hok2⟩ norm2 ex rt;by_cases hlt2:k2<push.length
      · obtain⟨s,hs⟩:∃s,push[k2]? =some s:=⟨_,lgE hlt2⟩
        have hsa:=QdS plh hi2 hs;obtain⟨xk,xn⟩:=s;have hgx:=hg ⟨xk,xn⟩
        conv=>cbv
        repeat' first|(refine ex _ _ _ ?_;(conv=>cbv))|(refine rt _ _ ?_;(conv=>cbv))|(refine rto _ _ ?_;(conv=>cbv))|refine Qaw hgx rfl rfl ?_ ?_|(intro e he;cases osj (he.symm.trans hsa);(conv=>cbv))|exact gxQ|refine And.intro ?_ ?_|(intro hc;(first|rw[wS (by omega) (by omega)]at hc|rw[Qab]at hc|skip);try (conv=>cbv))
        all_goals first
          |(refine bad λh=> ?_
            have:=(hesx.1 h).2.2.2.2 _ (mgE hs);rw[this,‹v=true›]at hc;cases hc;done)
          |(refine norm2 _ _ _ ?_ (Wk.cw)
            refine⟨by omega,by omega,λs' hs'=> ?_⟩;rw[Qal hs]at hs';rcases List.mem_append.1 hs' with h|h
            · exact hok2 s' h
            · simp only[List.mem_singleton]at h;subst h
              have hvs:(v&&sb ⟨xk,xn⟩)=true:=by assumption
              simp only[Bool.and_eq_true]at hvs;exact hvs.2)
      · conv=>cbv
        repeat' first|(refine ex _ _ _ ?_;(conv=>cbv))|(refine rt _ _ ?_;(conv=>cbv))|exact gxQ|refine And.intro ?_ ?_|(intro hc;(first|rw[wS (by omega) (by omega)]at hc|rw[Qab]at hc|skip);try (conv=>cbv))
        refine norm _ _ _ ?_ (Wk.cw);refine⟨by omega,by omega,λj e hj he=> ?_⟩;rcases Nat.lt_or_ge j k with h|h
        · exact hok j e h he
        · obtain rfl:j=k:=by omega
          rw[hx]at he;cases he;rw[<-hi];rw[tkQ (by omega)]at hok2;exact hesx.2 ⟨by assumption,by omega,by first|(intro h;cases h;done)|(intro _;omega),by first|(intro h;cases h;done)|(intro _;omega),hok2⟩
  · conv=>cbv
    repeat' first|(refine exo _ _ _ ?_;(conv=>cbv))|exact gxQ|refine And.intro ?_ ?_|(intro hc;(first|rw[wS (by omega) (by omega)]at hc|rw[Qab]at hc|skip);try (conv=>cbv))
    exact yes ⟨by assumption,by omega,by omega,by assumption,λj e he=>hok j e (by have:=Qaa he;omega) he⟩
theorem Qmx(P:Program)(hP:P=Tryz.prog)(ll:List (List D))(hl:ll.length<=1000000):Ret P QaN [.c (.d (.list false 2 ll))] (.c (.d (.list false 2 ll))):=by
 refine Qah (hP▸mixed) (hP▸QbQ) (hP▸QbY) (nle rfl) λΛ Λo K hK=> ?_
 clear hP;have h0:ll=[]->K (.c (.d (.list false 2 []))):=λh=>by rw[h]at hK;exact hK
 have lln:=Λo ll
 conv=>cbv
 repeat' first|exact gxQ|refine And.intro ?_ ?_|(intro hc;(first|rw[wS (by omega) (by omega)]at hc|rw[Qab]at hc|skip);try (conv=>cbv))
 ·rename_i m r es hm hr hes ls;have:ls=ll:=by subst hc hes hm;simp
  rw[this];exact hK
 ·exact h0 hc
theorem Qn6(P:Program)(hP:P=Tryz.prog)(l:List Seg)(hl:l.length<=1000000):Ret P QaN [QcI l] (QcI l):=
 Qmx P hP _ (by rw[List.length_map];exact hl)
theorem QgP(P:Program)(hP:P=Tryz.prog)(ll:List (List D))(hl:ll.length<=1000000):Ret P QaG [.c (.d (.list false 1 ll))] (.c (.d (.list false 1 ll))):=by
 refine Qah (hP▸mixed) (hP▸Qbz) (hP▸QbF) (nle rfl) λΛ Λo K hK=> ?_
 clear hP;have h0:ll=[]->K (.c (.d (.list false 1 []))):=λh=>by rw[h]at hK;exact hK
 have lln:=Λo ll
 conv=>cbv
 repeat' first|exact gxQ|refine And.intro ?_ ?_|(intro hc;(first|rw[wS (by omega) (by omega)]at hc|rw[Qab]at hc|skip);try (conv=>cbv))
 ·rename_i m r es hm hr hes ls;have:ls=ll:=by subst hc hes hm;simp
  rw[this];exact hK
 ·exact h0 hc
theorem Qn5(P:Program)(hP:P=Tryz.prog)(l:List Int)(hl:l.length<=1000000):Ret P QaG [Qao l] (Qao l):=
 QgP P hP _ (by rw[List.length_map];exact hl)
def QjN(l:List Seg):List D:=[QaZ l]
theorem QxT{P:Program}{m:Nat}{L:Lv}{h:Hp}{f:Nat}{fn:Func}{af:AF}{xs:List X}{K:Lv->AV->Hp->Prop}(hm:P.follows .mixedOrders=true)(hf:P.funcs[f]? =some fn)(hc:QaC P fn=some af)(hl:(QgQ L xs).length<=af.nt)
 (hv:∀Λ:Len,(∀l,Λ l=(l.length:Int))->vcH P Λ af (QgQ L xs) h (K L)):CallS P m false L h f xs K:= .fn (QpA hm hf hc hl hv)
def Qdf(l:List (List Seg)):Nat:=(l.map List.length).sum
theorem QkC{l:List (List Seg)}{k:Nat}{x:List Seg}(h:l[k]? =some x):Qdf (l.take (k+1))=Qdf (l.take k)+x.length:=by
 rw[Qal h];simp[Qdf]
theorem Qhl(l:List (List Seg))(k:Nat):Qdf (l.take k)<=Qdf l:=by
 have:Qdf l=Qdf (l.take k)+Qdf (l.drop k):=by
  conv=>lhs;rw[<-List.take_append_drop k l]
  simp[Qdf,-List.take_append_drop]
 omega
theorem QvL(l:List (List Seg)):l.flatten.length=Qdf l:=by simp[Qdf,List.length_flatten]
theorem Qmz(P:Program)(hP:P=Tryz.prog)(l:List (List Seg))(hl:Qdf l<=1000000):Ret P Qa3 [.c (.d (.list false 1 (l.map QjN)))] (QcI l.flatten):=by
 refine Qah (hP▸mixed) (hP▸QbM) (hP▸QbO) (nle rfl) λΛ Λo K hK=> ?_
 have gm:P.follows .mixedOrders=true:=hP▸mixed;have gf:=hP▸Qb0;have gc:=hP▸Qb3;clear hP;generalize llh:l.map QjN=ll at*;have lln:Λ ll=l.length:=by rw[Λo,<-llh];simp
 conv=>cbv
 repeat' first|exact gxQ|refine And.intro ?_ ?_|(intro hc;(first|rw[wS (by omega) (by omega)]at hc|rw[Qab]at hc|skip);try (conv=>cbv))
 refine QaT l.length (λ(s:Int×Int)=>[(0,.c (.d (.list false 1 ll))),(3,iA s.2),(9,.c (.d (.list false 1 ll))),(10,iA (Λ ll)),(11,iA s.1)]) (λ_=>[]) (λk s=>s.1=k/\k<=l.length/\s.2=Qdf (l.take k)) (0,0) (Wk.cw) ⟨rfl,by omega,by simp[Qdf]⟩ (λk s h=>h.2.1) ?_;rintro k ⟨i,sz⟩ Q' ⟨hi,hk,hsz⟩ norm ex rt;simp only at hi hsz;have hle:=Qhl l k;by_cases hlt:k<l.length
 ·obtain⟨x,hx⟩:∃x,l[k]? =some x:=⟨_,lgE hlt⟩;have hxa:=QdS llh hi hx;have hst:=QkC hx;have hle2:=Qhl l (k+1);simp only[QjN,QaZ]at hxa;generalize xlh:List.map Qaj x=xl at*;have xln:Λ xl=x.length:=by rw[Λo,<-xlh];simp
  conv=>cbv
  repeat' first|(refine ex _ _ _ ?_;(conv=>cbv))|(refine rt _ _ ?_;(conv=>cbv))|(intro e he;cases osj (he.symm.trans hxa);(conv=>cbv))|exact gxQ|refine And.intro ?_ ?_|(intro hc;(first|rw[wS (by omega) (by omega)]at hc|rw[Qab]at hc|skip);try (conv=>cbv))
  refine norm _ _ (_,_) ?_ (Wk.cw);exact⟨by simp only;omega,by omega,by simp only;omega⟩
 ·conv=>cbv
  repeat' first|(refine ex _ _ _ ?_;(conv=>cbv))|(refine rt _ _ ?_;(conv=>cbv))|exact gxQ|refine And.intro ?_ ?_|(intro hc;(first|rw[wS (by omega) (by omega)]at hc|rw[Qab]at hc|skip);try (conv=>cbv))
  clear norm ex rt;rw[tkQ (by omega)]at hsz;refine QxT gm gf gc (nle rfl) λΛ' Λo'=> ?_
  have hΛ0:Λ' []=0:=by rw[Λo'];rfl
  conv=>cbv
  repeat' first|exact gxQ|refine And.intro ?_ ?_|(intro hc;(first|rw[wS (by omega) (by omega)]at hc|rw[Qab]at hc|skip);try (conv=>cbv))
  all_goals (clear gm gf gc)
  all_goals first
   |refine QaT l.length (λ(s:Int×Nat×Nat×Bool×List (List D))=>[(6,.c (.arr 0 s.2.1 0 s.2.2.1)),(25,.c (.d (.list false 1 ll))),(26,iA (Λ ll)),(27,iA s.1)]) (λs=>[.da s.2.2.2.1 s.2.1 2 s.2.2.2.2]) (λk s=>s.1=k/\k<=l.length/\s.2.2.1=Qdf (l.take k)/\s.2.2.2.2.take s.2.2.1=(l.take k).flatten.map Qaj) (0,0,_,_,_) (Wk.cw) ⟨rfl,by omega,?_,?_⟩ (λk s h=>h.2.1) ?_
   |refine QaT l.length (λ(s:Int×Nat×Nat×Bool×List (List D))=>[(6,.c (.arr 0 s.2.1 0 s.2.2.1)),(25,.c (.d (.list false 1 ll))),(26,iA (Λ ll)),(27,iA s.1)]) (λs=>[.da s.2.2.2.1 s.2.1 2 s.2.2.2.2]) (λk s=>s.1=k/\k<=l.length/\s.2.2.1=Qdf (l.take k)/\s.2.2.2.2.take s.2.2.1=(l.take k).flatten.map Qaj) (0,0,0,false,[]) (.trans (.nilS 6 2 rfl) (Wk.cw)) ⟨rfl,by omega,rfl,rfl⟩ (λk s h=>h.2.1) ?_
  ·rename_i n0 hn0;rw[show n0=0 by omega];rfl
  ·rename_i n0 hn0;rw[show n0=0 by omega];rfl
  all_goals clear hle hlt hi hk
  all_goals rintro k ⟨i,v,n,r,es⟩ Q' ⟨hi,hk,hn,hes⟩ norm ex rt
  all_goals simp only at hi hes hn
  all_goals have hle:=Qhl l k
  all_goals by_cases hlt:k<l.length
  case pos|pos=>
   obtain⟨x,hx⟩:∃x,l[k]? =some x:=⟨_,lgE hlt⟩;have hxa:=QdS llh hi hx;have hst:=QkC hx;have hle2:=Qhl l (k+1);simp only[QjN,QaZ]at hxa;generalize xlh:List.map Qaj x=xl at*;have xln:Λ xl=x.length:=by rw[Λo,<-xlh];simp
   have xll:xl.length=x.length:=by rw[<-xlh];simp
   conv=>cbv
   repeat' first|(refine ex _ _ _ ?_;(conv=>cbv))|(refine rt _ _ ?_;(conv=>cbv))|(intro e he;cases osj (he.symm.trans hxa);(conv=>cbv))|(intro(_:Unit);refine⟨rfl,?_⟩;rw[xll];omega)|exact gxQ|refine And.intro ?_ ?_|(intro hc;(first|rw[wS (by omega) (by omega)]at hc|rw[Qab]at hc|skip);try (conv=>cbv))
   rename_i m r' es' hm hr he' _;refine norm _ _ (_,_,_,_,_) ?_ (Wk.cw);refine⟨by simp only;omega,by omega,by simp only;omega,?_⟩;simp only;rw[hm,he',Qal hx,List.drop_zero,xll,hes,<-xlh];have:n=(List.map Qaj (List.take k l).flatten).length:=by rw[List.length_map,QvL];exact hn
   rw[tkQ (by simp only[List.length_append,List.length_map]at this |-;omega)];simp
  all_goals
   conv=>cbv
   repeat' first|(refine ex _ _ _ ?_;(conv=>cbv))|(refine rt _ _ ?_;(conv=>cbv))|exact gxQ|refine And.intro ?_ ?_|(intro hc;(first|rw[wS (by omega) (by omega)]at hc|rw[Qab]at hc|skip);try (conv=>cbv))
   rename_i ls;have:ls=l.flatten.map Qaj:=by rw[hc,List.drop_zero,hes,tkQ (by omega)]
   subst this;exact hK
theorem Qqm(P:Program)(hP:P=Tryz.prog)(p:Pkt)(l:List Seg)(hl:l.length<=1000000):Ret P Qf9 [Qcr p,QcI l] (Qcr {p with stack:=l}):=by
 have hq:=Qn6 P hP l hl;refine Qah (hP▸mixed) (hP▸Qj0) (hP▸QkU) (nle rfl) λΛ Λo K hK=> ?_
 clear hP;obtain⟨id,src,dst,flow,stack,hops⟩:=p;simp only[QcI,QaZ,Qcr]at*;generalize llh:List.map Qaj l=ll at*;generalize slh:List.map Qaj stack=sl at*
 conv=>cbv
 repeat' first|(refine Qag hq rfl rfl ?_;conv=>cbv)|exact gxQ|refine And.intro ?_ ?_|(intro hc;(first|rw[wS (by omega) (by omega)]at hc|rw[Qab]at hc|skip);try (conv=>cbv))
 exact hK
def Qrn(arcs:List Int)(p:Pkt)(r:Int):AV:= .tup [Qao arcs,Qcr p,iA r]
theorem Qth(P:Program)(hP:P=Tryz.prog)(p:Pkt)(r:Int)(hl:p.stack.length<=1000000):Ret P Qf8 [Qcr p,iA r] (Qrn [] p r):=by
 have hq:=Qqm P hP p p.stack hl;refine Qah (hP▸mixed) (hP▸QjZ) (hP▸QkT) (nle rfl) λΛ Λo K hK=> ?_
 clear hP;obtain⟨id,src,dst,flow,stack,hops⟩:=p;simp only[QcI,QaZ,Qcr,Qrn,Qao,Qax,List.map_nil]at*;generalize slh:List.map Qaj stack=sl at*
 conv=>cbv
 repeat' first|(refine Qag hq rfl rfl ?_;conv=>cbv)|exact gxQ|refine And.intro ?_ ?_|(intro hc;(first|rw[wS (by omega) (by omega)]at hc|rw[Qab]at hc|skip);try (conv=>cbv))
 exact hK
theorem Qm9(P:Program)(hP:P=Tryz.prog)(p:Pkt)(l:List Seg)(arcs:List Int)(hl:l.length<=1000000)(ha:arcs.length<=1000000)(h0: -1000<=p.hops)(h1:p.hops<=1000):Ret P Qfn [Qcr p,QcI l,Qao arcs] (Qrn arcs {p with stack:=l,hops:=p.hops+1} 0):=by
 have hq:=Qqm P hP p l hl;have hr:=Qn5 P hP arcs ha;refine Qah (hP▸mixed) (hP▸QiT) (hP▸QjA) (nle rfl) λΛ Λo K hK=> ?_
 clear hP;obtain⟨id,src,dst,flow,stack,hops⟩:=p;simp only[QcI,QaZ,Qcr,Qrn,Qao,Qax]at*;generalize slh:List.map Qaj stack=sl at*;generalize llh:List.map Qaj l=ll at*;generalize alh:List.map Qar arcs=al at*
 conv=>cbv
 repeat' first|(refine Qag hq rfl rfl ?_;conv=>cbv)|(refine Qag hr rfl rfl ?_;conv=>cbv)|exact gxQ|refine And.intro ?_ ?_|(intro hc;(first|rw[wS (by omega) (by omega)]at hc|rw[Qab]at hc|skip);try (conv=>cbv))
 all_goals (subst hc;exact hK)
def QdA(p:Pkt)(l:List Seg)(arcs:List Int):List Int×Pkt×Int:=(arcs,{p with stack:=l,hops:=p.hops+1},0)
def Qc8(p:Pkt)(l:List Seg)(e:Ety):List Int×Pkt×Int:=
 if e.rep=true then (if (e.push++l.drop 1).length>32 then ([],p,5)else QdA p (e.push++l.drop 1) e.arcs)else QdA p l e.arcs
abbrev Qf2 (x:List Int×Pkt×Int):AV:=Qrn x.1 x.2.1 x.2.2
theorem QvB(P:Program)(hP:P=Tryz.prog)(p:Pkt)(l:List Seg)(e:Ety)(hl:l.length<=100000)(hs:p.stack.length<=1000000)(ha:e.arcs.length<=1000000)(hp:e.push.length<=100000)(h0: -1000<=p.hops)(h1:p.hops<=1000):
  Ret P Qfm [Qcr p,QcI l,Qx2 e] (Qf2 (Qc8 p l e)):=by
 obtain⟨arcs,rep,push⟩:=e;have hdrop:=Qth P hP p 5 hs;have hleave:=Qm9 P hP p l arcs (by omega) ha h0 h1;have hcat:=Qmz P hP [push,l.drop 1] (by simp[Qdf];simp only at hp;omega);have hleave2:=Qm9 P hP p (push++l.drop 1) arcs (by simp;simp only at hp;omega) ha h0 h1;refine Qah (hP▸mixed) (hP▸QiS) (hP▸Qjz) (nle rfl) λΛ Λo K hK=> ?_
 clear hP;have k0:rep=false->K (Qf2 (QdA p l arcs)):=by intro h;subst h;simpa [Qc8]using hK
 have k1:rep=true->(push++l.drop 1).length>32->K (Qf2 ([],p,5)):=by
  intro h h';subst h;simp only[Qc8,if_true]at hK;rw[if_pos h']at hK;exact hK
 have k2:rep=true->¬(push++l.drop 1).length>32->K (Qf2 (QdA p (push++l.drop 1) arcs)):=by
  intro h h';subst h;simp only[Qc8,if_true]at hK;rw[if_neg h']at hK;exact hK
 clear hK;simp only at ha hp;obtain⟨id,src,dst,flow,stack,hops⟩:=p;simp only[QcI,QaZ,Qcr,Qrn,Qao,Qax,Qx2,Qf2,QdA,List.map_nil,List.map_cons,QjN,List.flatten_cons,List.flatten_nil,List.append_nil]at*;have hcl:Λ (List.map Qaj (push++l.drop 1))=(push++l.drop 1).length:=by rw[Λo];simp
 generalize clh:push++l.drop 1=c at*;generalize cmh:List.map Qaj c=cm at*;generalize slh:List.map Qaj stack=sl at*;generalize plh:List.map Qaj push=pl at*;simp only[List.map_drop]at*;generalize llh:List.map Qaj l=ll at*;have lln:Λ ll=l.length:=by rw[Λo,<-llh];simp
 generalize tlh:List.drop 1 ll=tl at*;generalize alh:List.map Qar arcs=al at*;cases rep
 all_goals (conv=>cbv)
 all_goals (repeat' first|(refine Qag hleave rfl rfl ?_;conv=>cbv)|(refine Qag hdrop rfl rfl ?_;conv=>cbv)|(refine Qag hleave2 rfl rfl ?_;conv=>cbv)|exact gxQ|refine And.intro ?_ ?_|(intro hc;(first|rw[wS (by omega) (by omega)]at hc|rw[Qab]at hc|skip);try (conv=>cbv)))
 all_goals (try exact k0 rfl)
 ·rename_i tl';have e:tl'=tl:=hc.trans tlh;subst e
  (refine Qln 3 0 1 2 rfl rfl (by repeat' first|exact trivial|refine And.intro ?_ ?_|rfl) (by repeat' first|exact trivial|refine And.intro ?_ ?_|rfl) ?_;conv=>cbv)
  (refine Qag hcat rfl rfl ?_;conv=>cbv)
  repeat' first|(refine Qag hleave2 rfl rfl ?_;conv=>cbv)|(refine Qag hdrop rfl rfl ?_;conv=>cbv)|exact gxQ|refine And.intro ?_ ?_|(intro hc;(first|rw[wS (by omega) (by omega)]at hc|rw[Qab]at hc|skip);try (conv=>cbv))
  ·exact k1 rfl (by omega)
  ·exact k2 rfl (by omega)
 ·have e:tl=ll:=by
   rw[<-tlh];have h0:ll.length=0:=by rw[Λo]at hc;omega
   rw[lzQ h0];rfl
  subst e
  (refine Qln 3 0 1 2 rfl rfl (by repeat' first|exact trivial|refine And.intro ?_ ?_|rfl) (by repeat' first|exact trivial|refine And.intro ?_ ?_|rfl) ?_;conv=>cbv)
  (refine Qag hcat rfl rfl ?_;conv=>cbv)
  repeat' first|(refine Qag hleave2 rfl rfl ?_;conv=>cbv)|(refine Qag hdrop rfl rfl ?_;conv=>cbv)|exact gxQ|refine And.intro ?_ ?_|(intro hc;(first|rw[wS (by omega) (by omega)]at hc|rw[Qab]at hc|skip);try (conv=>cbv))
  ·exact k1 rfl (by omega)
  ·exact k2 rfl (by omega)
abbrev Ans:=List Int×Pkt×Int
def ent(x:Tab)(n:Int):Ety:=x.to.getD n.toNat default
def QdZ(t:Top)(x:Tab)(p:Pkt):Ans:=
 if p.dst=x.node then ([],{p with stack:=[]},-1)
 else if p.hops<0\/255<=p.hops then ([],p,4)
 else if (0<=p.dst/\p.dst<t.nodes)/\0<(ent x p.dst).arcs.length then Qc8 p [] (ent x p.dst)else ([],p,1)
def QdE(t:Top)(x:Tab)(p:Pkt):List Seg->Ans
 |[]=>QdZ t x p
 |s::r=>
  if p.hops<0\/255<=p.hops then ([],p,4)
  else if s.kind=1 then (if (0<=s.num/\s.num<t.nodes)/\0<(ent x s.num).arcs.length then Qc8 p (s::r) (ent x s.num)else QdZ t x p)
  else if s.kind=2 then (if (0<=s.num/\s.num<2*t.links.length)/\Qf1 t s.num=x.node then (if s.num∈x.down then QdZ t x p else QdA p r [s.num])else ([],p,2))
  else ([],p,1)
def QcK(n:Int)(l:List Seg):List Seg:=l.dropWhile λs=>decide (s=⟨1,n⟩)
def Qhk(t:Top)(x:Tab)(p:Pkt):Ans:=
 if Qhq t x=true/\0<=p.dst/\p.dst<t.nodes then (if p.stack.length>32 then ([],p,5)else QdE t x p (QcK x.node p.stack))else ([],p,1)
theorem QyC{K:Ans->Prop}{t:Top}{x:Tab}{p:Pkt}(h:K (QdZ t x p)):
  (p.dst=x.node->K ([],{p with stack:=[]},-1))/\(p.dst≠x.node->(p.hops<0\/255<=p.hops)->K ([],p,4))/\
  (p.dst≠x.node->¬(p.hops<0\/255<=p.hops)->(0<=p.dst/\p.dst<t.nodes)->0<(ent x p.dst).arcs.length->K (Qc8 p [] (ent x p.dst)))/\
  (p.dst≠x.node->¬(p.hops<0\/255<=p.hops)->¬((0<=p.dst/\p.dst<t.nodes)/\0<(ent x p.dst).arcs.length)->K ([],p,1)):=by
 unfold QdZ at h;refine⟨λh1=> ?_,λh1 h2=> ?_,λh1 h2 h3 h4=> ?_,λh1 h2 h3=> ?_⟩
 ·rw[if_pos h1]at h;exact h
 ·rw[if_neg h1,if_pos h2]at h;exact h
 ·rw[if_neg h1,if_neg h2,if_pos ⟨h3,h4⟩]at h;exact h
 ·rw[if_neg h1,if_neg h2,if_neg h3]at h;exact h
theorem QyV{K:Ans->Prop}{t:Top}{x:Tab}{p:Pkt}{s:Seg}{r:List Seg}(h:K (QdE t x p (s::r))):
  ((p.hops<0\/255<=p.hops)->K ([],p,4))/\
  (¬(p.hops<0\/255<=p.hops)->s.kind=1->(0<=s.num/\s.num<t.nodes)->0<(ent x s.num).arcs.length->K (Qc8 p (s::r) (ent x s.num)))/\
  (¬(p.hops<0\/255<=p.hops)->s.kind=1->¬((0<=s.num/\s.num<t.nodes)/\0<(ent x s.num).arcs.length)->K (QdZ t x p))/\
  (¬(p.hops<0\/255<=p.hops)->s.kind=2->¬((0<=s.num/\s.num<2*t.links.length)/\Qf1 t s.num=x.node)->K ([],p,2))/\
  (¬(p.hops<0\/255<=p.hops)->s.kind=2->(0<=s.num/\s.num<2*t.links.length)->Qf1 t s.num=x.node->s.num∈x.down->K (QdZ t x p))/\
  (¬(p.hops<0\/255<=p.hops)->s.kind=2->(0<=s.num/\s.num<2*t.links.length)->Qf1 t s.num=x.node->s.num∉x.down->K (QdA p r [s.num]))/\
  (¬(p.hops<0\/255<=p.hops)->s.kind≠1->s.kind≠2->K ([],p,1)):=by
 simp only[QdE]at h;refine⟨λh1=> ?_,λh1 h2 h3 h4=> ?_,λh1 h2 h3=> ?_,λh1 h2 h3=> ?_,λh1 h2 h3 h4 h5=> ?_,λh1 h2 h3 h4 h5=> ?_,λh1 h2 h3=> ?_⟩
 ·rw[if_pos h1]at h;exact h
 ·rw[if_neg h1,if_pos h2,if_pos ⟨h3,h4⟩]at h;exact h
 ·rw[if_neg h1,if_pos h2,if_neg h3]at h;exact h
 ·rw[if_neg h1,if_neg (by omega),if_pos h2,if_neg h3]at h;exact h
 ·rw[if_neg h1,if_neg (by omega),if_pos h2,if_pos ⟨h3,h4⟩,if_pos h5]at h;exact h
 ·rw[if_neg h1,if_neg (by omega),if_pos h2,if_pos ⟨h3,h4⟩,if_neg h5]at h;exact h
 ·rw[if_neg h1,if_neg h2,if_neg h3]at h;exact h
def Fit(x:Tab)(p:Pkt):Prop:=(∀e∈x.to,e.arcs.length<=1000/\e.push.length<=1000)/\p.stack.length<=1000
abbrev QoT (nodes:Int) (ol ll:List (List D)) (node:Int) (tl dl:List (List D)) (id src dst flow:Int) (sl:List (List D)) (hops:Int):Hp:=
  [.bx [.d (iD nodes),.d (.list false 1 ol),.d (.list false 7 ll)],.bx [.d (iD node),.d (.list false 3 tl),.d (.list false 1 dl)],
   .bx [.d (iD id),.d (iD src),.d (iD dst),.d (iD flow),.d (.list false 2 sl),.d (iD hops)],.bx [.d (iD 0),.d (iD 0),.d (iD 0),.d (iD 0),.d (.list true 2 []),.d (iD 0)]]
abbrev QuB (l:List (List D)):Lv:=[(3,.c (.ptr 0 0 0 0)),(4,.c (.ptr 1 0 0 0)),(5,.c (.ptr 2 0 0 0)),(6,.c (.d (.list true 1 []))),(7,.c (.ptr 3 0 0 0)),(8,iA 0),(9,.c (.d (.list false 2 l)))]
set_option maxHeartbeats 4000000 in
theorem QuD(P:Program)(hP:P=Tryz.prog)(t:Top)(x:Tab)(p:Pkt)(hf:Fit x p):Ret P Qd6 [QaF t,Qjc x,Qcr p] (Qf2 (Qhk t x p)):=by
 obtain⟨hf1,hf2⟩:=hf;have hval:=Qhm P hP t x;have hnode:=λn=>QgU P hP t n
 have harc:=λn=>QpN P hP t n
 have htail:=λn=>Qm4 P hP t n
 have hcont:=λn=>Qps P hP x.down n
 have hdrop:=λr=>Qth P hP p r (by omega)
 have hwith:=Qqm P hP p [] (by simp);have hleave:=λr n=>Qm9 P hP p r [n]
 have henter:=λl e=>QvB P hP p l e
 refine Qah (hP▸mixed) (hP▸QjY) (hP▸QkS) (nle rfl) λΛ Λo K hK=> ?_
 clear hP;have k1:¬(Qhq t x=true/\0<=p.dst/\p.dst<t.nodes)->K (Qf2 ([],p,1)):=by
  intro h;unfold Qhk at hK;rw[if_neg h]at hK;exact hK
 have k2:(Qhq t x=true/\0<=p.dst/\p.dst<t.nodes)->p.stack.length>32->K (Qf2 ([],p,5)):=by
  intro h h';unfold Qhk at hK;rw[if_pos h,if_pos h']at hK;exact hK
 have k3:(Qhq t x=true/\0<=p.dst/\p.dst<t.nodes)->¬p.stack.length>32->K (Qf2 (QdE t x p (QcK x.node p.stack))):=by
  intro h h';unfold Qhk at hK;rw[if_pos h,if_neg h']at hK;exact hK
 clear hK;have hspec:= @QbV t x;have hpk:= @QyC (λa=>K (Qf2 a)) t x p;have hrk:= @QyV (λa=>K (Qf2 a)) t x p;have hskip:∀s r,s=⟨1,x.node⟩->QcK x.node (s::r)=QcK x.node r:=by intro s r h;subst h;simp[QcK]
 have hskip':∀s r,s≠⟨1,x.node⟩->QcK x.node (s::r)=s::r:=by intro s r h;simp[QcK,h]
 have hsn:QcK x.node []=[]:=rfl;generalize QcK x.node=sk at*;generalize hvb:Qhq t x=vb at*;obtain⟨nodes,ov,links⟩:=t;obtain⟨node,to,down⟩:=x;obtain⟨id,src,dst,flow,stack,hops⟩:=p;generalize htg:Qf1 ⟨nodes,ov,links⟩=tg at*;generalize hrs:QdE ⟨nodes,ov,links⟩ ⟨node,to,down⟩ ⟨id,src,dst,flow,stack,hops⟩=rs at*;simp only[QaF,Qjc,Qfa,Qaf,Qak,QcI,QaZ,Qcr,Qf2,Qrn,Qao,Qax,List.map_nil,List.map_cons,Qar]at*;generalize hol:ov.map QaY=ol at*;generalize hll:links.map Qaz=ll at*;generalize htl:to.map Qay=tl at*;have tln:Λ tl=to.length:=by rw[Λo,<-htl];simp
 generalize hdl:down.map Qar=dl at*;generalize slh:List.map Qaj stack=sl at*;have sln:Λ sl=stack.length:=by rw[Λo,<-slh];simp
 conv=>cbv
 repeat' first|refine Qaw hval rfl rfl ?_ ?_|refine Qaw (hnode _) rfl rfl ?_ ?_|(refine Qag (hdrop _) rfl rfl ?_;conv=>cbv)|exact gxQ|refine And.intro ?_ ?_|(intro hc;(first|rw[wS (by omega) (by omega)]at hc|rw[Qab]at hc|skip);try (conv=>cbv))
 all_goals try simp only[decide_eq_true_eq,decide_eq_false_iff_not]at*
 all_goals try (first|(refine k1 ?_;first|omega|simp_all;done)|(refine k2 ⟨by assumption,by omega,by omega⟩ (by omega)))
 rename_i hvt hd1 _;have hvt:vb=true:=by assumption
 have hd:0<=dst/\dst<nodes:=by assumption
 have kr:K (Qf2 (rs (sk stack))):=k3 ⟨hvt,hd⟩ (by omega);have hto:(to.length:Int)=nodes:=(hspec.1 hvt).2.2.1;have hlk:(links.length:Int)<=256:=(Qai.1 (hspec.1 hvt).1).2.2.1;have hento:∀n:Int,0<=n->n<nodes->∃a r q,to[n.toNat]? =some ⟨a,r,q⟩/\ent ⟨node,to,down⟩ n=⟨a,r,q⟩/\a.length<=1000/\q.length<=1000:=by
  intro n h1 h2;have h3:to[n.toNat]? =some (to[n.toNat]'(by omega)):=lgE (by omega);have h4:=hf1 _ (List.getElem_mem (l:=to) (n:=n.toNat) (by omega));generalize to[n.toNat]'(by omega)=e at h3 h4;obtain⟨a,r,q⟩:=e;exact⟨a,r,q,h3,by simp[ent,List.getD,h3],h4⟩
 clear k1 k2 k3 hspec hvb hf1;refine Qbs stack.length (λ(s:List Seg)=>(10,.c (.ptr 4 0 0 0))::QuB (s.map Qaj)) (λ_=>QoT nodes ol ll node tl dl id src dst flow sl hops++[.bx [.d (iD 1),.d (iD node)]]) (λk s=>s.length+k=stack.length/\sk s=sk stack) stack
  0 (λ(s:List Seg)=>QuB (s.map Qaj)) (λ_=>QoT nodes ol ll node tl dl id src dst flow sl hops) (λs=>s.length<=1000/\K (Qf2 (rs s))) (by rw[slh];exact Wk.cw) ⟨by omega,rfl⟩ (λk s h=>by omega) ?_ ?_
 ·rintro k s Q' ⟨hk,hs⟩ norm jn ex rt;rw[<-hs]at kr;have hj:∀L' h',sk s=s->Wk 0 L' h' (QuB (s.map Qaj)) (QoT nodes ol ll node tl dl id src dst flow sl hops)->Q' (.exit 0) L' h':=λL' h' hw=>jn L' h' s ⟨by omega,by rw[hw]at kr;exact kr⟩
  generalize rlh:List.map Qaj s=rl at*;have rln:Λ rl=s.length:=by rw[Λo,<-rlh];simp
  conv=>cbv
  repeat' first|(intro e he;obtain⟨⟨xk,xn⟩,hx,rfl⟩:=Qbc rlh he;(conv=>cbv))|exact gxQ|refine And.intro ?_ ?_|(intro hc;(first|rw[wS (by omega) (by omega)]at hc|rw[Qab]at hc|skip);try (conv=>cbv))
  ·rename_i hxe rl';cases s with
   |nil=>cases hx
   |cons s0 r=>
    cases hx;have e:rl'=r.map Qaj:=by rw[hc,<-rlh];rfl
    subst e;refine norm _ _ r ?_ (Wk.cw);rw[hskip _ _ (by rw[hxe.1,hxe.2.1])]at hs;simp only[List.length_cons]at hk;exact⟨by omega,hs⟩
  all_goals refine hj _ _ ?_ (Wk.cw)
  ·cases s with
   |nil=>exact hsn
   |cons s0 r=>
    cases hx;refine hskip' _ _ λh=>hc ?_
    injection h with h1 h2
    exact⟨h1,h2,trivial⟩
  ·cases s with
   |nil=>exact hsn
   |cons s0 r=>exfalso;simp only[List.length_cons]at rln;omega
 clear kr hskip hskip' hsn;rintro s ⟨hsl,kr⟩;generalize hsm:List.map Qaj s=sm
 conv=>cbv
 refine QaT 1 (λ(s:List Seg)=>QuB (s.map Qaj)) (λ_=>QoT nodes ol ll node tl dl id src dst flow sl hops) (λk s=>k<=1/\(k=1->s=[])/\s.length<=1000/\K (Qf2 (rs s))) s (by rw[hsm];exact Wk.cw) ⟨by omega,by omega,by omega,kr⟩ (λk s h=>h.1) ?_;clear kr hsl hsm sm;rintro k s Q' ⟨hk,hks,hsl,kr⟩ norm ex rt;cases s with
 |nil=>
  obtain⟨f1,f2,f3,f4⟩:=hpk (by have:=kr;rw[<-hrs]at this;exact this);obtain⟨ea,er,eq,hx,he,hb1,hb2⟩:=hento dst hd.1 hd.2;have hxa:tl[dst.toNat]? =some (Qay ⟨ea,er,eq⟩):=by rw[<-htl];simp[hx]
  have hen:=henter [] ⟨ea,er,eq⟩ (by simp) (Nat.le_trans hf2 (by decide)) (Nat.le_trans hb1 (by decide)) (Nat.le_trans hb2 (by decide));rw[he]at f3 f4;clear norm hrk hpk hento;generalize Qc8 ⟨id,src,dst,flow,stack,hops⟩ [] ⟨ea,er,eq⟩=en at*;obtain⟨na,⟨j1,j2,j3,j4,j5,j6⟩,nr⟩:=en;simp only[Qay,Qx2,Qax,QaZ,List.map_nil]at hxa hen f1 f2 f3 f4 |-;generalize ealh:List.map Qar ea=eal at*;have ealn:Λ eal=ea.length:=by rw[Λo,<-ealh];simp
  generalize eqlh:List.map Qaj eq=eql at*;have eqln:Λ eql=eq.length:=by rw[Λo,<-eqlh];simp
  generalize List.map Qar na=nal at*;generalize List.map Qaj j5=jl at*;have hΛ0:Λ []=0:=by rw[Λo];rfl
  conv=>cbv
  repeat' first|(refine ex _ _ _ ?_;(conv=>cbv))|(refine rt _ _ ?_;(conv=>cbv))|(intro e he;cases osj (he.symm.trans hxa);(conv=>cbv))|(refine Qag hwith rfl rfl ?_;conv=>cbv)|(refine Qag (hdrop _) rfl rfl ?_;conv=>cbv)|refine Qaw (hnode _) rfl rfl ?_ ?_|(refine Qag (hen (by omega) (by omega)) rfl rfl ?_;conv=>cbv)|exact gxQ|refine And.intro ?_ ?_|(intro hc;(first|rw[wS (by omega) (by omega)]at hc|rw[Qab]at hc|skip);try (conv=>cbv))
  all_goals try simp only[decide_eq_true_eq,decide_eq_false_iff_not]at*
  all_goals first
   |(refine f1 ?_;assumption)
   |(refine f2 ?_ ?_;assumption;omega)
   |(refine f3 ?_ ?_ ?_ ?_;assumption;omega;omega;omega)
   |(refine f4 ?_ ?_ ?_;assumption;omega;omega)
 |cons s0 r=>
  obtain⟨s1,s2⟩:=s0;obtain rfl:k=0:=by
   rcases Nat.lt_or_ge k 1 with h|h
   ·omega
   ·exact absurd (hks (by omega)) (by simp)
  obtain⟨f1,f2,f3,f4,f5,f6,f7⟩:=hrk (s:=⟨s1,s2⟩) (r:=r) kr;have f3:¬(hops<0\/255<=hops)->s1=1->¬((0<=s2/\s2<nodes)/\0<(ent ⟨node,to,down⟩ s2).arcs.length)->K (Qf2 (rs [])):=by rw[<-hrs];exact f3
  have f5:¬(hops<0\/255<=hops)->s1=2->(0<=s2/\s2<2*links.length)->tg s2=node->s2∈down->K (Qf2 (rs [])):=by rw[<-hrs];exact f5
  simp only at f1 f2 f4 f6 f7;have hlv:=hleave r s2 (by simp only[List.length_cons]at hsl;omega) (by simp);have hnx:∀L' h',K (Qf2 (rs []))->Wk 0 L' h' (QuB []) (QoT nodes ol ll node tl dl id src dst flow sl hops)->Q' .normal L' h':=λL' h' hK hw=>norm L' h' [] ⟨by omega,λ_=>rfl,by simp,hK⟩ hw
  generalize hrlh:List.map Qaj (⟨s1,s2⟩::r)=rl at*;have rln:Λ rl=r.length+1:=by rw[Λo,<-hrlh];simp
  have rl0:rl[(0:Int).toNat]? =some [iD s1,iD s2]:=by rw[<-hrlh];rfl
  have rl1:List.drop 1 rl=r.map Qaj:=by rw[<-hrlh];rfl
  by_cases hs2:0<=s2/\s2<nodes
  ·obtain⟨ea,er,eq,hx,he,hb1,hb2⟩:=hento s2 hs2.1 hs2.2;have hxa:tl[s2.toNat]? =some (Qay ⟨ea,er,eq⟩):=by rw[<-htl];simp[hx]
   have hen:=henter (⟨s1,s2⟩::r) ⟨ea,er,eq⟩ (by omega) (Nat.le_trans hf2 (by decide)) (Nat.le_trans hb1 (by decide)) (Nat.le_trans hb2 (by decide));rw[he]at f2 f3;generalize Qc8 ⟨id,src,dst,flow,stack,hops⟩ (⟨s1,s2⟩::r) ⟨ea,er,eq⟩=en at*;obtain⟨na,⟨j1,j2,j3,j4,j5,j6⟩,nr⟩:=en;simp only[hrlh]at hen;simp only[Qay,Qx2,QdA,Qax,QaZ,List.map_nil,List.map_cons,Qar]at hxa hen f1 f2 f3 f4 f5 f6 f7 hlv |-;generalize List.map Qaj r=rr at*;generalize ealh:List.map Qar ea=eal at*;have ealn:Λ eal=ea.length:=by rw[Λo,<-ealh];simp
   generalize eqlh:List.map Qaj eq=eql at*;have eqln:Λ eql=eq.length:=by rw[Λo,<-eqlh];simp
   generalize List.map Qar na=nal at*;generalize List.map Qaj j5=jl at*;clear hpk hento kr norm henter hleave
   conv=>cbv
   repeat' first|(refine ex _ _ _ ?_;(conv=>cbv))|(refine rt _ _ ?_;(conv=>cbv))|(intro e he;cases osj (he.symm.trans hxa);(conv=>cbv))|(intro e he;cases osj (he.symm.trans rl0);(conv=>cbv))|(intro x hx;have e:=hx.trans rl1;subst e;(conv=>cbv))|(refine Qag (hdrop _) rfl rfl ?_;conv=>cbv)|refine Qaw (hnode _) rfl rfl ?_ ?_|refine Qaw (harc _ hlk) rfl rfl ?_ ?_|refine Qc6 (htail _ (by simp only[decide_eq_true_eq]at *;omega) (by simp only[decide_eq_true_eq]at *;omega) hlk) rfl rfl ?_|refine Qaw (hcont _) rfl rfl ?_ ?_|(refine Qag (hen (by omega) (by omega)) rfl rfl ?_;conv=>cbv)|(refine Qln 4 0 1 1 rfl rfl (by repeat' first|exact trivial|refine And.intro ?_ ?_|rfl) (by repeat' first|exact trivial|refine And.intro ?_ ?_|rfl) ?_;conv=>cbv)|(refine Qag (hlv (by omega) (by omega)) rfl rfl ?_;conv=>cbv)|exact gxQ|refine And.intro ?_ ?_|(intro hc;(first|rw[wS (by omega) (by omega)]at hc|rw[Qab]at hc|skip);try (conv=>cbv))
   all_goals try simp only[decide_eq_true_eq,decide_eq_false_iff_not]at*
   all_goals try subst hc
   all_goals first
    |(refine f1 ?_;omega)
    |(refine f2 ?_ ?_ ?_ ?_;omega;omega;omega;omega)
    |(refine f4 ?_ ?_ ?_;omega;omega;omega)
    |(refine f6 ?_ ?_ ?_ ?_ ?_;omega;omega;omega;omega;assumption)
    |(refine f7 ?_ ?_ ?_;omega;omega;omega)
    |(refine hnx _ _ ?_ (.trans (.fg 9) (Wk.cw));first|(refine f3 ?_ ?_ ?_;omega;omega;omega;done)|(refine f5 ?_ ?_ ?_ ?_ ?_;omega;omega;omega;omega;assumption;done))
    |trace_state
  ·simp only[QdA,List.map_nil,List.map_cons,Qar]at f1 f4 f5 f6 f7 hlv |-;generalize List.map Qaj r=rr at*;clear hpk hento kr norm henter hleave f2
   conv=>cbv
   repeat' first|(refine ex _ _ _ ?_;(conv=>cbv))|(refine rt _ _ ?_;(conv=>cbv))|(intro e he;cases osj (he.symm.trans rl0);(conv=>cbv))|(intro x hx;have e:=hx.trans rl1;subst e;(conv=>cbv))|(refine Qag (hdrop _) rfl rfl ?_;conv=>cbv)|refine Qaw (hnode _) rfl rfl ?_ ?_|refine Qaw (harc _ hlk) rfl rfl ?_ ?_|refine Qc6 (htail _ (by simp only[decide_eq_true_eq]at *;omega) (by simp only[decide_eq_true_eq]at *;omega) hlk) rfl rfl ?_|refine Qaw (hcont _) rfl rfl ?_ ?_|(refine Qln 4 0 1 1 rfl rfl (by repeat' first|exact trivial|refine And.intro ?_ ?_|rfl) (by repeat' first|exact trivial|refine And.intro ?_ ?_|rfl) ?_;conv=>cbv)|(refine Qag (hlv (by omega) (by omega)) rfl rfl ?_;conv=>cbv)|(intro hc;exact absurd (of_decide_eq_true hc) hs2)|exact gxQ|refine And.intro ?_ ?_|(intro hc;(first|rw[wS (by omega) (by omega)]at hc|rw[Qab]at hc|skip);try (conv=>cbv))
   all_goals try simp only[decide_eq_true_eq,decide_eq_false_iff_not]at*
   all_goals try subst hc
   all_goals first
    |(refine f1 ?_;omega)
    |(refine f4 ?_ ?_ ?_;omega;omega;omega)
    |(refine f6 ?_ ?_ ?_ ?_ ?_;omega;omega;omega;omega;assumption)
    |(refine f7 ?_ ?_ ?_;omega;omega;omega)
    |(refine hnx _ _ ?_ (.trans (.fg 9) (Wk.cw));first|(refine f3 ?_ ?_ ?_;omega;omega;omega;done)|(refine f5 ?_ ?_ ?_ ?_ ?_;omega;omega;omega;omega;assumption;done))
    |trace_state
theorem QmA(P:Program)(hP:P=Tryz.prog)(t:Top)(a:Int):Ret P Qib [QaF t,iA a] (iA (Qbp t a)):=by
 refine Qah (hP▸mixed) (hP▸QmR) (hP▸QnR) (nle rfl) λΛ Λo K hK=> ?_
 have hw:=Qgp P hP t;clear hP;have leaf:∀b,Qbp t a=b->K (iA b):=λb hb=>by rw[<-hb];exact hK
 have hv2:=QdQ t;have hta:Qbp t a=if 0<=a/\a<Qbo t then (if a%2=0 then (Qfc t a).c0 else (Qfc t a).c1)else -1:=rfl
 have hat:∀x,t.links[(a/2).toNat]? =some x->Qfc t a=x:=λx hx=>by simp[Qfc,hx]
 generalize Qbo t=v at*;obtain⟨nodes,ov,links⟩:=t;simp only[QaF,Qaf,Qak]at*;generalize hol:ov.map QaY=ol at*;generalize hll:links.map Qaz=ll at*;have hlo:Λ ol=ov.length:=by rw[Λo,<-hol];simp
 have hls:Λ ll=links.length:=by rw[Λo,<-hll];simp
 conv=>cbv
 repeat' first|refine Qc6 hw rfl rfl ?_|(intro hc;rw[QwP (by omega) (by omega)]at hc;conv=>cbv)|(intro hc;rw[QwQ (by omega)]at hc;conv=>cbv)|(intro(_:Unit);decide)|(intro e he;obtain⟨⟨xa,xb,xc,xd,xe,xf,xg⟩,hx,rfl⟩:=Qbc hll he;(conv=>cbv))|exact gxQ|refine And.intro ?_ ?_|(intro hc;(first|rw[wS (by omega) (by omega)]at hc|rw[Qab]at hc|skip);try (conv=>cbv))
 ·exact leaf _ (by rw[hta,if_neg (by omega)])
 ·exact leaf _ (by rw[hta,if_neg (by omega)])
 all_goals
  refine leaf _ ?_;rw[hta,if_pos (by omega),hat _ (Qef hx (by omega))]
 ·rw[if_pos (by omega)]
 ·rw[if_neg (by omega)]
abbrev Qau (l:List Bool):AV:= .c (.d (Qaf l))
def ovT(t:Top)(n:Int):Bool:=Qam t&&decide (0<=n/\n<t.ov.length)&&t.ov.getD n.toNat false
theorem QeR(P:Program)(hP:P=Tryz.prog)(t:Top)(n:Int):Ret P QdV [QaF t,iA n] (bA (ovT t n)):=by
 refine Qah (hP▸mixed) (hP▸Qgz) (hP▸QgN) (nle rfl) λΛ Λo K hK=> ?_
 have hw:=QeY P hP t;clear hP;have leaf:∀b,ovT t n=b->K (bA b):=λb hb=>by rw[<-hb];exact hK
 have hta:ovT t n=(Qam t&&decide (0<=n/\n<t.ov.length)&&t.ov.getD n.toNat false):=rfl;generalize ovT t n=r at*;generalize Qam t=v at*;obtain⟨nodes,ov,links⟩:=t;simp only[QaF,Qaf,Qak]at*;generalize hol:ov.map QaY=ol at*;generalize hll:links.map Qaz=ll at*;have hlo:Λ ol=ov.length:=by rw[Λo,<-hol];simp
 have hls:Λ ll=links.length:=by rw[Λo,<-hll];simp
 conv=>cbv
 repeat' first|refine Qaw hw rfl rfl ?_ ?_|(intro e he;obtain⟨x,hx,rfl⟩:=Qbc hol he;(conv=>cbv))|exact gxQ|refine And.intro ?_ ?_|(intro hc;(first|rw[wS (by omega) (by omega)]at hc|rw[Qab]at hc|skip);try (conv=>cbv))
 ·refine leaf _ (hta.trans ?_);rw[‹v=true›,decide_eq_true (by omega)];simp[hx]
 ·refine leaf _ (hta.trans ?_);rw[decide_eq_false (by omega)];simp
 ·refine leaf _ (hta.trans ?_);rw[decide_eq_false (by omega)];simp
 ·refine leaf _ (hta.trans ?_);rw[hc];simp
def upB(down:List Bool)(a:Int):Bool:=decide (down.length=0)|| !down.getD a.toNat false
theorem QuM(P:Program)(hP:P=Tryz.prog)(down:List Bool)(a:Int)(h:down.length=0\/(0<=a/\a<down.length)):Ret P Qlz [Qau down,iA a] (bA (upB down a)):=by
 refine Qah (hP▸mixed) (hP▸QpC) (hP▸Qrz) (nle rfl) λΛ Λo K hK=> ?_
 clear hP;have leaf:∀b,upB down a=b->K (bA b):=λb hb=>by rw[<-hb];exact hK
 have hta:upB down a=(decide (down.length=0)|| !down.getD a.toNat false):=rfl;generalize upB down a=r at*;simp only[Qau,Qaf]at*;generalize hdl:down.map QaY=dl at*;have hdn:Λ dl=down.length:=by rw[Λo,<-hdl];simp
 conv=>cbv
 repeat' first|(intro e he;obtain⟨x,hx,rfl⟩:=Qbc hdl he;(conv=>cbv))|exact gxQ|refine And.intro ?_ ?_|(intro hc;(first|rw[wS (by omega) (by omega)]at hc|rw[Qab]at hc|skip);try (conv=>cbv))
 ·refine leaf _ (hta.trans ?_);rw[decide_eq_true (by omega)];simp
 ·have e:r= !x:=by
   rw[hta,decide_eq_false (by omega)];simp[hx]
  cases x
  ·conv=>cbv
   exact leaf _ e
  ·conv=>cbv
   exact leaf _ e
def QaK(t:Top)(down:List Bool):Bool:=Qam t&&(decide (down.length=0)||decide (down.length=2*t.links.length))
theorem QhE(P:Program)(hP:P=Tryz.prog)(t:Top)(down:List Bool):Ret P Qie [QaF t,Qau down] (bA (QaK t down)):=by
 refine Qah (hP▸mixed) (hP▸QmV) (hP▸QnV) (nle rfl) λΛ Λo K hK=> ?_
 have hw:=QeY P hP t;clear hP;have h256:Qam t=true->(t.links.length:Int)<=256:=λh=>(Qai.1 h).2.2.1
 have leaf:∀b,QaK t down=b->K (bA b):=λb hb=>by rw[<-hb];exact hK
 have hta:QaK t down=(Qam t&&(decide (down.length=0)||decide (down.length=2*t.links.length))):=rfl;generalize QaK t down=r at*;generalize Qam t=v at*;simp only[Qau,Qaf]at*;generalize hdl:down.map QaY=dl at*;have hdn:Λ dl=down.length:=by rw[Λo,<-hdl];simp
 obtain⟨nodes,ov,links⟩:=t;simp only[QaF,Qaf,Qak]at*;generalize hol:ov.map QaY=ol at*;generalize hll:links.map Qaz=ll at*;have hlo:Λ ol=ov.length:=by rw[Λo,<-hol];simp
 have hls:Λ ll=links.length:=by rw[Λo,<-hll];simp
 cases v
 all_goals (try simp only[forall_const]at h256)
 all_goals (conv=>cbv)
 all_goals (repeat' first|refine Qaw hw rfl rfl ?_ ?_|(intro hc;cases hc;done)|exact gxQ|refine And.intro ?_ ?_|(intro hc;(first|rw[wS (by omega) (by omega)]at hc|rw[Qab]at hc|skip);try (conv=>cbv)))
 ·exact leaf _ (hta.trans (by simp))
 all_goals (refine leaf _ (hta.trans ?_);first|(rw[decide_eq_true (p:=down.length=0) (by omega)];simp;done)|(rw[decide_eq_true (p:=down.length=2*links.length) (by omega)];simp;done)|(rw[decide_eq_false (p:=down.length=0) (by omega),decide_eq_false (p:=down.length=2*links.length) (by omega)];simp;done))
def QcJ(t:Top)(n e:Int):Bool:=decide (n=e)|| !ovT t n
theorem QlP(P:Program)(hP:P=Tryz.prog)(t:Top)(n e:Int):Ret P Qfr [QaF t,iA n,iA e] (bA (QcJ t n e)):=by
 refine Qah (hP▸mixed) (hP▸QiV) (hP▸QjC) (nle rfl) λΛ Λo K hK=> ?_
 have hw:=QeR P hP t n;clear hP;have leaf:∀b,QcJ t n e=b->K (bA b):=λb hb=>by rw[<-hb];exact hK
 have hta:QcJ t n e=(decide (n=e)|| !ovT t n):=rfl;generalize QcJ t n e=r at*;generalize ovT t n=v at*;obtain⟨nodes,ov,links⟩:=t;simp only[QaF,Qaf,Qak]at*;generalize hol:ov.map QaY=ol at*;generalize hll:links.map Qaz=ll at*;have hlo:Λ ol=ov.length:=by rw[Λo,<-hol];simp
 have hls:Λ ll=links.length:=by rw[Λo,<-hll];simp
 conv=>cbv
 repeat' first|refine Qaw hw rfl rfl ?_ ?_|exact gxQ|refine And.intro ?_ ?_|(intro hc;(first|rw[wS (by omega) (by omega)]at hc|rw[Qab]at hc|skip);try (conv=>cbv))
 all_goals (refine leaf _ ?_;simp_all)
def QaS(k:Nat):List Int:=(List.range k).map λ(k:Nat)=>(k:Int)
def Qlg(t:Top)(n:Int):List Int:=(QaS (Qbo t).toNat).filter λa=>decide (QaE t a=n)
theorem Qcl(k:Nat):QaS (k+1)=QaS k++[(k:Int)]:=by simp[QaS,List.range_succ]
theorem Qxp(P:Program)(hP:P=Tryz.prog)(t:Top)(n:Int):Ret P Qkk [QaF t,iA n] (Qao (Qlg t n)):=by
 refine Qah (hP▸mixed) (hP▸Qol) (hP▸Qpm) (nle rfl) λΛ Λo K hK=> ?_
 have hw:=Qgp P hP t;have ht:=QdI P hP t;clear hP;have hv2:=QdQ t;have ho:Qlg t n=(QaS (Qbo t).toNat).filter λa=>decide (QaE t a=n):=rfl
 rw[ho]at hK;clear ho;generalize hf:QaE t=f at*;generalize Qbo t=v at*;obtain⟨nodes,ov,links⟩:=t;simp only[QaF,Qaf,Qak]at*;generalize hol:ov.map QaY=ol at*;generalize hll:links.map Qaz=ll at*;have hlo:Λ ol=ov.length:=by rw[Λo,<-hol];simp
 have hls:Λ ll=links.length:=by rw[Λo,<-hll];simp
 simp only[Qao,Qax]at hK
 conv=>cbv
 repeat' first|exact gxQ|refine And.intro ?_ ?_|(intro hc;(first|rw[wS (by omega) (by omega)]at hc|rw[Qab]at hc|skip);try (conv=>cbv))
 refine QaT v.toNat (λ(s:Int×Nat×Nat×Bool×List (List D))=>[(1,iA n),(2,.c (.ptr 0 0 0 0)),(5,.c (.arr 1 s.2.1 0 s.2.2.1)),(6,iA s.1)]) (λs=>[.bx [.d (.int .i64 nodes),.d (.list false 1 ol),.d (.list false 7 ll)],.da s.2.2.2.1 s.2.1 1 s.2.2.2.2])
  (λk s=>s.1=k/\k<=v.toNat/\s.2.2.1=s.2.2.2.2.length/\s.2.2.2.2=(((QaS k).filter λa=>decide (f a=n)).map Qar)) (0,0,0,false,[]) (.trans (.nilS 5 1 rfl) (Wk.cw)) ⟨rfl,by omega,rfl,rfl⟩ (λk s h=>h.2.1) ?_
 rintro k ⟨i,ve,m,r,es⟩ Q' ⟨hi,hk,hm,hes⟩ norm ex rt;simp only at hi hm hes;have hesl:es.length<=k:=by
  rw[hes,List.length_map];refine Nat.le_trans (List.length_filter_le _ _) ?_;simp[QaS]
 conv=>cbv
 repeat' first|(refine ex _ _ _ ?_;(conv=>cbv))|(refine rt _ _ ?_;(conv=>cbv))|refine Qc6 hw rfl rfl ?_|refine Qc6 (ht _) rfl rfl ?_|(intro(_:Unit);refine⟨rfl,?_⟩;simp only[List.length_cons,List.length_nil];omega)|exact gxQ|refine And.intro ?_ ?_|(intro hc;(first|rw[wS (by omega) (by omega)]at hc|rw[Qab]at hc|skip);try (conv=>cbv))
 ·rename_i hfi hn m' r' es' hm' hr' he' i';refine norm _ _ (_,_,_,_,_) ?_ (Wk.cw);have e:es'=((QaS (k+1)).filter λa=>decide (f a=n)).map Qar:=by
   rw[he',List.drop_zero,hm,List.take_length,hes,Qcl,List.filter_append,List.map_append];rw[<-hi,List.filter_cons_of_pos (by simp only[decide_eq_true_eq];omega)];rfl
  exact⟨by simp only;omega,by omega,by simp only;rw[hm',he',List.drop_zero,hm,List.take_length];simp,e⟩
 ·rename_i hfi hn i';refine norm _ _ (_,_,_,_,_) ?_ (Wk.cw);have e:es=((QaS (k+1)).filter λa=>decide (f a=n)).map Qar:=by
   rw[hes,Qcl,List.filter_append,List.map_append];rw[<-hi,List.filter_cons_of_neg (by simp only[decide_eq_true_eq];omega)];simp
  exact⟨by simp only;omega,by omega,hm,e⟩
 ·rename_i ls;have e:ls=((QaS v.toNat).filter λa=>decide (f a=n)).map Qar:=by
   rw[hc,List.drop_zero,hm,List.take_length,hes,show k=v.toNat by omega]
  subst e;exact hK
def xOf(t:Top)(fr:Bool)(a:Int):Int:=if fr then QaA t a else QaE t a
def yOf(t:Top)(fr:Bool)(a:Int):Int:=if fr then QaE t a else QaA t a
def QgE(t:Top)(down:List Bool)(e:Int)(fr:Bool)(a:Int):Bool:=upB down a&&QcJ t (yOf t fr a) e
abbrev gt (D:List Int) (i:Int):Int:=D.getD i.toNat (-1)
def Qpz(t:Top)(down:List Bool)(e:Int)(fr:Bool)(D:List Int)(a:Int):Prop:=
 QgE t down e fr a=true->0<=gt D (yOf t fr a)->0<=gt D (xOf t fr a)/\gt D (xOf t fr a)<=gt D (yOf t fr a)+Qbp t a
structure IsDist (t:Top) (down:List Bool) (e:Int) (fr:Bool) (D:List Int):Prop where
 len:(D.length:Int)=t.nodes
 zero:gt D e=0
 lo:∀i,0<=i->i<t.nodes-> -1<=gt D i
 fix:∀a:Int,0<=a->a<2*t.links.length->Qpz t down e fr D a
 tight:∀x,0<=x->x<t.nodes->x≠e->0<=gt D x->∃a:Int,0<=a/\a<2*t.links.length/\QgE t down e fr a=true/\xOf t fr a=x/\0<=gt D (yOf t fr a)/\gt D x=gt D (yOf t fr a)+Qbp t a
theorem QbB{t:Top}(hv:Qam t=true){a:Int}(h0:0<=a)(h1:a<2*t.links.length):
  (0<=QaE t a/\QaE t a<t.nodes)/\(0<=QaA t a/\QaA t a<t.nodes)/\QaE t a≠QaA t a/\1<=Qbp t a/\Qbp t a<=65535:=by
 have ha:Qbo t=2*t.links.length:=by rw[Qbo,if_pos hv]
 have hx:t.links[(a/2).toNat]? =some (t.links[(a/2).toNat]'(by omega)):=lgE (by omega);have hk:=Qeo.1 ((Qai.1 hv).2.2.2 _ (List.getElem_mem (l:=t.links) (n:=(a/2).toNat) (by omega)));have hl:Qfc t a=t.links[(a/2).toNat]'(by omega):=by rw[Qfc,hx];rfl
 rw[<-hl]at hk;have hin:0<=a/\a<Qbo t:=by omega
 simp only[QaE,QaA,Qbp,if_pos hin];by_cases h:a%2=0
 ·simp only[if_pos h];omega
 ·simp only[if_neg h];omega
theorem QfY{t:Top}(hv:Qam t=true)(fr:Bool){a:Int}(h0:0<=a)(h1:a<2*t.links.length):
  (0<=xOf t fr a/\xOf t fr a<t.nodes)/\(0<=yOf t fr a/\yOf t fr a<t.nodes)/\xOf t fr a≠yOf t fr a:=by
 have:=QbB hv h0 h1;cases fr
 ·simp only[xOf,yOf,Bool.false_eq_true,if_false];exact⟨this.1,this.2.1,this.2.2.1⟩
 ·simp only[xOf,yOf,if_true];exact⟨this.2.1,this.1,λh=>this.2.2.1 h.symm⟩
theorem Qpv{t:Top}(hv:Qam t=true){down:List Bool}{e:Int}{fr:Bool}{D D':List Int}(h:IsDist t down e fr D)(h':IsDist t down e fr D'):∀(n:Nat) (x:Int),0<=x->x<t.nodes->gt D x=n->0<=gt D' x/\gt D' x<=n:=by
 intro n;induction n using Nat.strongRecOn with
 |_ n ih=>
  intro x h0 h1 hx;by_cases hxe:x=e
  ·subst hxe;rw[h'.zero];omega
  ·obtain⟨a,a0,a1,ha,hxa,hy,hd⟩:=h.tight x h0 h1 hxe (by omega);have hf:=QfY hv fr a0 a1;have hc:=QbB hv a0 a1;obtain⟨i0,i1⟩:=ih (gt D (yOf t fr a)).toNat (by omega) (yOf t fr a) hf.2.1.1 hf.2.1.2 (by omega);obtain⟨j0,j1⟩:=h'.fix a a0 a1 ha i0;rw[hxa]at j0 j1;exact⟨j0,by omega⟩
theorem Qpw{t:Top}(hv:Qam t=true){down:List Bool}{e:Int}{fr:Bool}{D D':List Int}(h:IsDist t down e fr D)(h':IsDist t down e fr D'):D=D':=by
 have hl:=h.len;have hl':=h'.len;have key:∀x:Int,0<=x->x<t.nodes->gt D x=gt D' x:=by
  intro x h0 h1;have l1:=h.lo x h0 h1;have l2:=h'.lo x h0 h1;by_cases c:0<=gt D x
  ·have e1:=Qpv hv h h' (gt D x).toNat x h0 h1 (by omega);have e2:=Qpv hv h' h (gt D' x).toNat x h0 h1 (by omega);omega
  ·by_cases c':0<=gt D' x
   ·have e2:=Qpv hv h' h (gt D' x).toNat x h0 h1 (by omega);omega
   ·omega
 apply List.ext_getElem?;intro i;rcases Nat.lt_or_ge i D.length with hi|hi
 ·have:=key (i:Int) (by omega) (by omega);simp only[gt,Int.toNat_natCast,List.getD_eq_getElem?_getD,lgE hi,lgE (show i<D'.length by omega),Option.getD_some]at this;rw[lgE hi,lgE (by omega),this]
 ·rw[List.getElem?_eq_none hi,List.getElem?_eq_none (by omega)]
noncomputable def QaM(t:Top)(down:List Bool)(e:Int)(fr:Bool):List Int:=by
 classical
 exact if h:∃D,IsDist t down e fr D then Classical.choose h else []
theorem QfI{t:Top}(hv:Qam t=true){down:List Bool}{e:Int}{fr:Bool}{D:List Int}(h:IsDist t down e fr D):QaM t down e fr=D:=by
 have hx:∃D,IsDist t down e fr D:=⟨D,h⟩;unfold QaM;rw[dif_pos hx];exact Qpw hv (Classical.choose_spec hx) h
def wt(d:Int):Nat:=if d<0 then 5000000 else d.toNat
def msr(D:List Int):Nat:=(D.map wt).sum
def Qw9(D:List Int):Nat:=(D.map λd=>if d<0 then 0 else 1).sum
theorem QuE(f:Int->Nat):∀(D:List Int) (i:Nat) (v:Int) (u:Int),D[i]? =some u->((D.set i v).map f).sum+f u=(D.map f).sum+f v:=by
 intro D;induction D with
 |nil=>intro i v u h;simp at h
 |cons d D ih=>
  intro i v u h;cases i with
  |zero=>simp at h;subst h;simp;omega
  |succ i=>
   simp only[List.getElem?_cons_succ]at h;have:=ih i v u h;simp only[List.set_cons_succ,List.map_cons,List.sum_cons];omega
theorem Qz1:∀(D:List Int),Qw9 D<=D.length:=by
 intro D;induction D with
 |nil=>simp[Qw9]
 |cons d D ih=>simp only[Qw9,List.map_cons,List.sum_cons,List.length_cons]at *;split<;>omega
structure Mid (t:Top) (down:List Bool) (e:Int) (fr:Bool) (D:List Int):Prop where
 len:(D.length:Int)=t.nodes
 zero:gt D e=0
 lo:∀i,0<=i->i<t.nodes-> -1<=gt D i
 hi:∀i,0<=i->i<t.nodes->gt D i<=65535*Qw9 D
 loose:∀x,0<=x->x<t.nodes->x≠e->0<=gt D x->∃a:Int,0<=a/\a<2*t.links.length/\QgE t down e fr a=true/\xOf t fr a=x/\0<=gt D (yOf t fr a)/\gt D (yOf t fr a)+Qbp t a<=gt D x
theorem Mid.le{t:Top}(hv:Qam t=true){down:List Bool}{e:Int}{fr:Bool}{D:List Int}(h:Mid t down e fr D){i:Int}(h0:0<=i)(h1:i<t.nodes):gt D i<=4194240:=by
 have:=h.hi i h0 h1;have h2:=Qz1 D;have h3:=h.len;have h4:=(Qai.1 hv).1;omega
theorem Mid.dist{t:Top}{down:List Bool}{e:Int}{fr:Bool}{D:List Int}(h:Mid t down e fr D)(hf:∀a:Int,0<=a->a<2*t.links.length->Qpz t down e fr D a):IsDist t down e fr D where
 len:=h.len
 zero:=h.zero
 lo:=h.lo
 fix:=hf
 tight x h0 h1 hx hd:=by
  obtain⟨a,a0,a1,ha,hxa,hy,hc⟩:=h.loose x h0 h1 hx hd;have:=(hf a a0 a1 ha hy).2;rw[hxa]at this;exact⟨a,a0,a1,ha,hxa,hy,by omega⟩
theorem Qlt{D:List Int}{i j:Int}{v:Int}(h0:0<=i)(h1:i<D.length)(j0:0<=j):gt (D.set i.toNat v) j=if j=i then v else gt D j:=by
 simp only[gt,List.getD_eq_getElem?_getD,List.getElem?_set];by_cases h:j=i
 ·subst h;simp[show j.toNat<D.length by omega]
 ·have:i.toNat≠j.toNat:=by omega
  simp[this,h]
theorem Mid.step{t:Top}(hv:Qam t=true){down:List Bool}{e:Int}{fr:Bool}{D:List Int}(h:Mid t down e fr D){a:Int}(a0:0<=a)(a1:a<2*t.links.length)(ha:QgE t down e fr a=true)(hy:0<=gt D (yOf t fr a))
 (hc:gt D (xOf t fr a)<0\/gt D (yOf t fr a)+Qbp t a<gt D (xOf t fr a)):Mid t down e fr (D.set (xOf t fr a).toNat (gt D (yOf t fr a)+Qbp t a))/\msr (D.set (xOf t fr a).toNat (gt D (yOf t fr a)+Qbp t a))<msr D:=by
 have hf:=QfY hv fr a0 a1;have hcs:=(QbB hv a0 a1).2.2.2;have hlen:=h.len;generalize hX:xOf t fr a=X at*;generalize hY:yOf t fr a=Y at*;generalize hC:gt D Y+Qbp t a=C at*;have hXl:X<D.length:=by omega
 have hg:∀j,0<=j->gt (D.set X.toNat C) j=if j=X then C else gt D j:=λj j0=>Qlt hf.1.1 hXl j0
 have hget:D[X.toNat]? =some (gt D X):=by
  simp only[gt,List.getD_eq_getElem?_getD,lgE (show X.toNat<D.length by omega),Option.getD_some]
 have hYle:=h.hi Y hf.2.1.1 hf.2.1.2;have hs1:=QuE wt D X.toNat C (gt D X) hget;have hs2:=QuE (λd=>if d<0 then 0 else 1) D X.toNat C (gt D X) hget;have hYm:=h.le hv hf.2.1.1 hf.2.1.2;have hXe:X≠e:=by
  intro hh;rw[hh,h.zero]at hc;omega
 have hcnt:Qw9 (D.set X.toNat C)=Qw9 D+(if gt D X<0 then 1 else 0):=by
  simp only[Qw9];simp only[show ¬C<0 by omega,if_false]at hs2;by_cases hX0:gt D X<0
  ·rw[if_pos hX0]at hs2 |-;omega
  ·rw[if_neg hX0]at hs2 |-;omega
 refine⟨⟨by simp only[List.length_set];exact hlen,?_,?_,?_,?_⟩,?_⟩
 ·have he:gt D e=0:=h.zero;by_cases e0:0<=e
  ·rw[hg e e0,if_neg (λhh=>hXe hh.symm)];exact he
  ·simp only[gt,show e.toNat=0 by omega]at he |-;by_cases x0:X=0
   ·exfalso;have hXg:gt D X=0:=by rw[x0];exact he
    rw[hXg]at hc;omega
   ·rw[List.getD_eq_getElem?_getD,List.getElem?_set_ne (by omega),<-List.getD_eq_getElem?_getD];exact he
 ·intro i i0 i1;rw[hg i i0];split
  ·omega
  ·exact h.lo i i0 i1
 ·intro i i0 i1;rw[hg i i0,hcnt];have hi:=h.hi i i0 i1;split
  ·split
   ·omega
   ·have hX:=h.hi X hf.1.1 hf.1.2;omega
  ·split<;>omega
 ·intro x x0 x1 hxe hd;rw[hg x x0]at hd |-;by_cases hxX:x=X
  ·subst hxX;refine⟨a,a0,a1,ha,hX,?_,?_⟩
   ·rw[hY,hg Y hf.2.1.1,if_neg (λhh=>hf.2.2 hh.symm)];exact hy
   ·rw[hY,hg Y hf.2.1.1,if_neg (λhh=>hf.2.2 hh.symm),if_pos rfl];omega
  ·rw[if_neg hxX]at hd |-;obtain⟨b,b0,b1,hb,hxb,hyb,hcb⟩:=h.loose x x0 x1 hxe hd;have hfb:=QfY hv fr b0 b1;refine⟨b,b0,b1,hb,hxb,?_,?_⟩
   ·rw[hg _ hfb.2.1.1];split<;>omega
   ·rw[hg _ hfb.2.1.1];split
    ·rename_i hh;rw[hh]at hyb hcb;omega
    ·exact hcb
 ·simp only[msr];have w1:wt C=C.toNat:=by rw[wt,if_neg (by omega)]
  have w2:wt (gt D X)>C.toNat:=by
   rw[wt];split<;>omega
  omega
end Go.Ab
