/-
  Merged texts, part m.
-/
import Derived.Test.YtohbofilgkdihaaGreatDoorZl
set_option linter.all false
namespace Go.Ab
open Go.Proofs
abbrev iA (n:Int):AV:= .c (.d (.int .i64 n))
abbrev bA (b:Bool):AV:= .c (.d (.bool b))
def Ret(P:Program)(f:Nat)(args:List AV)(r:AV):Prop:=FnS P f args [] fun r' _=>QbL r'=true/\r'=r
theorem Qai{P:Program}{f:Nat}{fn:Func}{af:AF}{args:List AV}{r:AV}(hm:P.follows .mixedOrders=true)(hf:P.funcs[f]? =some fn)(hc:QaC P fn=some af)(hl:args.length<=af.nt)
 (hv:∀(Λ:Len),(∀l,Λ l=(l.length:Int))->∀(K:AV->Prop),K r->vcF P Λ af args K):Ret P f args r:=
 QxY (K:=fun r'=>r'=r) hm hf hc hl fun Λ h=>hv Λ h _ rfl
theorem Qxm(x:Int):IntKind.i64.wrap x=(x+9223372036854775808)%18446744073709551616-9223372036854775808:=by
 simp only[IntKind.wrap,IntKind.bits,IntKind.signed,Bool.true_and,decide_eq_true_eq,Nat.reduceSub,ge_iff_le];have e1:(2:Int) ^ 64=18446744073709551616:=by decide
 have e2:(2:Int) ^ 63=9223372036854775808:=by decide
 rw[e1,e2];split<;>omega
theorem wS{x:Int}(h: -9223372036854775808<=x)(h':x<9223372036854775808):IntKind.i64.wrap x=x:=by
 rw[Qxm];omega
theorem Qay{P:Program}{m:Nat}{d:Bool}{L:Lv}{h:Hp}{f:Nat}{xs:List X}{args':List AV}{K:Lv->AV->Hp->Prop}{b:Bool}(hf:Ret P f args' (bA b))(ha:(QiU L xs).map fgA=args')(hp:args'.all QbL=true)
 (k1:b=true->K L (bA true) h)(k2:b=false->K L (bA false) h):CallS P m d L h f xs K:=by
 refine CallS.pure (r:=bA b) (Or.inl ⟨args',.inl ha.symm,hp,hf⟩) ?_;cases b
 ·exact k2 rfl
 ·exact k1 rfl
theorem QcY{P:Program}{m:Nat}{d:Bool}{L:Lv}{h:Hp}{f:Nat}{xs:List X}{args':List AV}{K:Lv->AV->Hp->Prop}{n:Int}(hf:Ret P f args' (iA n))(ha:(QiU L xs).map fgA=args')(hp:args'.all QbL=true)
 (k:∀c,c=n->K L (iA c) h):CallS P m d L h f xs K:=
 CallS.pure (r:=iA n) (Or.inl ⟨args',.inl ha.symm,hp,hf⟩) (k n rfl)
theorem Qao{P:Program}{m:Nat}{d:Bool}{L:Lv}{h:Hp}{f:Nat}{xs:List X}{args':List AV}{K:Lv->AV->Hp->Prop}{r:AV}(hf:Ret P f args' r)(ha:(QiU L xs).map fgA=args')(hp:args'.all QbL=true)
 (k:K L r h):CallS P m d L h f xs K:=
 CallS.pure (r:=r) (Or.inl ⟨args',.inl ha.symm,hp,hf⟩) k
theorem Qlm{P:Program}{m:Nat}{L:Lv}{h:Hp}{f:Nat}{xs:List X}{K:Lv->AV->Hp->Prop}(l v sz k:Nat){r:Bool}{es:List (List D)}(hl:h[l]? =some (.da r v sz es))(hk:k=es.length)(h1:okL l v k L)(h2:okH l v k h)
 (hc:CallS P m false (zL l v sz es L) (zH l v sz es 0 h) f xs K):CallS P m false L h f xs K:=
 .wk (.fz l v sz r es hl (fun i=> .inr (by rw[←QbX,←QbX,QAh];exact QAF hk (Qt2 h1 i))) (QAH hk h2)) hc
theorem gu{p:Prop}(h:Unit->p:=by
  intro(_:Unit)
  first
   |omega
   |rfl
   |exact⟨rfl,by omega⟩
   |(simp only[Qab];omega)
   |((repeat' first|rfl|omega|refine And.intro ?_ ?_|(simp only[Qab];omega)|(simp only[List.length_cons,List.length_nil];omega)|exact nle rfl);fail_if_success intros)):Unit->p:=h
theorem Wk.cw{m:Nat}{L:Lv}{h:Hp}{L':Lv}{h':Hp}(heap:∃t,h=h'++t:=by exact⟨_,rfl⟩)(least:m<=h'.length:=by exact Nat.zero_le _)(refs:QcP h'.length h'=true:=by rfl)
 (env:Qpf h'.length L L':=by repeat' first|exact trivial|refine And.intro ?_ ?_|rfl):Wk m L h L' h':= .cut heap least refs env
theorem Wk.ca{m:Nat}{L:Lv}{h:Hp}{L':Lv}{h':Hp}(heap:∃t,h=h'++t:=by exact⟨_,rfl⟩)(least:m<=h'.length:=by exact nle rfl)(refs:QcP h'.length h'=true:=by rfl)
 (env:Qpf h'.length L L':=by repeat' first|exact trivial|refine And.intro ?_ ?_|rfl):Wk m L h L' h':= .cut heap least refs env
theorem Wk.ch{m:Nat}{L:Lv}{h:Hp}{L':Lv}(least:m<=h.length:=by exact nle rfl)(refs:QcP h.length h=true:=by rfl)
 (env:Qpf h.length L L':=by repeat' first|exact trivial|refine And.intro ?_ ?_|rfl):Wk m L h L' h:= .cut ⟨[],(List.append_nil h).symm⟩ least refs env
structure Lk where
 (a b c0 c1 cap dl gr:Int)
structure Top where
 (nodes:Int) (ov:List Bool) (links:List Lk)
structure Seg where
 (kind num:Int)
 deriving DecidableEq
structure Ety where
 (arcs:List Int) (rep:Bool) (push:List Seg)
structure Tab where
 (node:Int) (to:List Ety) (down:List Int)
structure Pkt where
 (id src dst flow:Int) (stack:List Seg) (hops:Int)
instance:Inhabited Lk:=⟨⟨0,0,0,0,0,0,0⟩⟩
instance:Inhabited Seg:=⟨⟨0,0⟩⟩
instance:Inhabited Ety:=⟨⟨[],false,[]⟩⟩
abbrev iD (n:Int):D:= .int .i64 n
def Qbh(b:Bool):List D:=[.bool b]
def QaE(n:Int):List D:=[.int .i64 n]
def QaB(l:Lk):List D:=[iD l.a,iD l.b,iD l.c0,iD l.c1,iD l.cap,iD l.dl,iD l.gr]
def Qaf(s:Seg):List D:=[iD s.kind,iD s.num]
abbrev Qax (l:List Int):D:= .list false 1 (l.map QaE)
abbrev Qag (l:List Bool):D:= .list false 1 (l.map Qbh)
abbrev QaA (l:List Seg):D:= .list false 2 (l.map Qaf)
abbrev Qah (l:List Lk):D:= .list false 7 (l.map QaB)
def Qaz(e:Ety):List D:=[Qax e.arcs,.bool e.rep,QaA e.push]
abbrev Qd2 (l:List Ety):D:= .list false 3 (l.map Qaz)
def QaQ(t:Top):AV:= .agg [.d (iD t.nodes),.d (Qag t.ov),.d (Qah t.links)]
def Qzk(s:Seg):AV:= .agg [.d (iD s.kind),.d (iD s.num)]
def QxR(e:Ety):AV:= .agg [.d (Qax e.arcs),.d (.bool e.rep),.d (QaA e.push)]
def QlM(x:Tab):AV:= .agg [.d (iD x.node),.d (Qd2 x.to),.d (Qax x.down)]
def Qbt(p:Pkt):AV:= .agg [.d (iD p.id),.d (iD p.src),.d (iD p.dst),.d (iD p.flow),.d (QaA p.stack),.d (iD p.hops)]
abbrev QaK (l:List Int):AV:= .c (.d (Qax l))
abbrev Qcz (l:List Seg):AV:= .c (.d (QaA l))
theorem QtT{α β:Type}{f:α->β}{l:List α}{i:Nat}{y:β}(h:(l.map f)[i]? =some y):∃x,l[i]? =some x/\y=f x:=by
 simp only[gtm,omi]at h;obtain⟨x,h1,h2⟩:=h;exact⟨x,h1,h2.symm⟩
theorem QaX{α β:Type}{f:α->β}{l:List α}{ll:List β}{i:Nat}{y:β}(hl:l.map f=ll)(h:ll[i]? =some y):∃x,l[i]? =some x/\y=f x:=by
 subst hl;exact QtT h
theorem Qdp{α:Type}{l:List α}{i j:Nat}{x:α}(h:l[i]? =some x)(e:i=j):l[j]? =some x:=e▸h
theorem Qd1{α β:Type}{f:α->β}{l:List α}{ll:List β}(hl:l.map f=ll){k:Nat}{i:Int}(hi:i=k){x:α}(h:l[k]? =some x):ll[i.toNat]? =some (f x):=by
 subst hi hl;simp[h]
theorem Qan{α:Type}{l:List α}{k:Nat}{x:α}(h:l[k]? =some x):l.take (k+1)=l.take k++[x]:=by
 rw[List.take_add_one,h];rfl
theorem QaR{m:Nat}{body:Lv->Hp->Post->Prop}{L:Lv}{h:Hp}{Q:Post}{σ:Type}(N:Nat)(S:σ->Lv)(H:σ->Hp)(Inv:Nat->σ->Prop)(s0:σ)(wk:Wk m L h (S s0) (H s0))(h0:Inv 0 s0)
 (hle:∀k s,Inv k s->k<=N)
 (round:∀k s (Q':Post),Inv k s->(∀L' h' s',Inv (k+1) s'->Wk m L' h' (S s') (H s')->Q' .normal L' h')->(∀i L' h',Q (.exit i) L' h'->Q' (.exit i) L' h')->(∀L' h',Q .ret L' h'->Q' .ret L' h')->body (S s) (H s) Q'):
  LoopI m body L h Q:=by
 refine LoopI.mk (fun n L h=>∃k s,Inv k s/\n=N-k/\L=S s/\h=H s) N (S s0) (H s0) wk ⟨0,s0,h0,rfl,rfl,rfl⟩ ?_;rintro n L h ⟨k,s,hi,rfl,rfl,rfl⟩;refine round k s _ hi (fun L' h' s' hi' hw=> ?_) (fun i L' h' hq=>⟨L',h',.same rfl fun _=> .inr rfl,hq⟩) fun L' h' hq=>hq
 have h1:=hle _ _ hi;have h2:=hle _ _ hi';exact⟨N-(k+1),_,_,by omega,hw,k+1,s',hi',rfl,rfl,rfl⟩
theorem Qbz{m:Nat}{body:Lv->Hp->Post->Prop}{L:Lv}{h:Hp}{Q:Post}{σ τ:Type}(N:Nat)(S:σ->Lv)(H:σ->Hp)(Inv:Nat->σ->Prop)(s0:σ)(i0:Nat)(S':τ->Lv)(H':τ->Hp)(E:τ->Prop)(wk:Wk m L h (S s0) (H s0))(h0:Inv 0 s0)
 (hle:∀k s,Inv k s->k<=N)
 (round:∀k s (Q':Post),Inv k s->(∀L' h' s',Inv (k+1) s'->Wk m L' h' (S s') (H s')->Q' .normal L' h')->(∀L' h' s',E s'->Wk m L' h' (S' s') (H' s')->Q' (.exit i0) L' h')->(∀i L' h',Q (.exit i) L' h'->Q' (.exit i) L' h')->(∀L' h',Q .ret L' h'->Q' .ret L' h')->body (S s) (H s) Q')
 (rest:∀s,E s->Q (.exit i0) (S' s) (H' s)):
  LoopI m body L h Q:=by
 refine LoopI.mk (fun n L h=>∃k s,Inv k s/\n=N-k/\L=S s/\h=H s) N (S s0) (H s0) wk ⟨0,s0,h0,rfl,rfl,rfl⟩ ?_;rintro n L h ⟨k,s,hi,rfl,rfl,rfl⟩;refine round k s _ hi (fun L' h' s' hi' hw=> ?_) (fun L' h' s' he hw=>⟨_,_,hw,rest s' he⟩) (fun i L' h' hq=>⟨L',h',.same rfl fun _=> .inr rfl,hq⟩) fun L' h' hq=>hq
 have h1:=hle _ _ hi;have h2:=hle _ _ hi';exact⟨N-(k+1),_,_,by omega,hw,k+1,s',hi',rfl,rfl,rfl⟩
theorem QuQ(P:Program)(hP:P=Tryz.prog)(n lo hi:Int):Ret P Qga [iA n,iA lo,iA hi] (bA (decide (lo<=n/\n<=hi))):=by
 refine Qai (hP▸mixed) (hP▸QjW) (hP▸QkV) (nle rfl) fun Λ Λo K hK=> ?_
 clear hP
 conv=>cbv
 repeat' first|exact gu|exact trivial|refine And.intro ?_ ?_|(intro hc;first|exact absurd hc (by decide)|(exfalso;omega)|((first|rw[wS (by omega) (by omega)]at hc|rw[Qab]at hc|skip);try (conv=>cbv)))|refine CallG.old ?_
 all_goals (refine cast (congrArg (fun b=>K (bA b)) ?_) hK;simp;omega)
def Qzi(n:Int)(l:Lk):Bool:=
 decide (0<=l.a/\l.a<=n-1)&&decide (0<=l.b/\l.b<=n-1)&& !decide (l.a=l.b)&&decide (1<=l.c0/\l.c0<=65535)&&decide (1<=l.c1/\l.c1<=65535)&&
 decide (0<=l.cap/\l.cap<=1048576)&&decide (1<=l.dl/\l.dl<=65536)&&decide (0<=l.gr/\l.gr<=64)
def Qam(t:Top):Bool:=
 decide (1<=t.nodes/\t.nodes<=64)&&(decide (t.ov.length=0)||decide ((t.ov.length:Int)=t.nodes))&&decide (t.links.length<=256)&&t.links.all (Qzi t.nodes)
theorem Qed{n:Int}{l:Lk}:Qzi n l=true↔(0<=l.a/\l.a<=n-1)/\(0<=l.b/\l.b<=n-1)/\l.a≠l.b/\(1<=l.c0/\l.c0<=65535)/\(1<=l.c1/\l.c1<=65535)/\
  (0<=l.cap/\l.cap<=1048576)/\(1<=l.dl/\l.dl<=65536)/\(0<=l.gr/\l.gr<=64):=by
 simp only[Qzi,Bool.and_eq_true,decide_eq_true_eq,Bool.not_eq_true',decide_eq_false_iff_not,and_assoc,ne_eq]
theorem Qau{t:Top}:Qam t=true↔(1<=t.nodes/\t.nodes<=64)/\((t.ov.length:Int)=0\/(t.ov.length:Int)=t.nodes)/\(t.links.length:Int)<=256/\∀l∈t.links,Qzi t.nodes l=true:=by
 simp only[Qam,Bool.and_eq_true,Bool.or_eq_true,decide_eq_true_eq,List.all_eq_true,and_assoc];constructor
 ·rintro⟨h1,h2,h3,h4,h5⟩;exact⟨h1,h2,by omega,by omega,h5⟩
 ·rintro⟨h1,h2,h3,h4,h5⟩;exact⟨h1,h2,by omega,by omega,h5⟩
theorem QfY(P:Program)(hP:P=Tryz.prog)(t:Top):Ret P QgZ [QaQ t] (bA (Qam t)):=by
 refine Qai (hP▸mixed) (hP▸Qk4) (hP▸Qml) (nle rfl) fun Λ Λo K hK=> ?_
 have hw:=QuQ P hP;clear hP;obtain⟨nodes,ov,links⟩:=t;simp only[QaQ,Qag,Qah]at*;generalize hol:ov.map Qbh=ol at*;generalize hll:links.map QaB=ll at*;have hlo:Λ ol=ov.length:=by rw[Λo,←hol];simp
 have hls:Λ ll=links.length:=by rw[Λo,←hll];simp
 have leaf:∀b,Qam ⟨nodes,ov,links⟩=b->K (bA b):=fun b hb=>by rw[←hb];exact hK
 have no:(Qam ⟨nodes,ov,links⟩=true->False)->K (bA false):=fun h=>leaf _ (Bool.eq_false_iff.2 h)
 conv=>cbv
 repeat' first|refine Qay (hw _ _ _) rfl rfl ?_ ?_|exact gu|exact trivial|refine And.intro ?_ ?_|(intro hc;first|exact absurd hc (by decide)|(exfalso;omega)|((first|rw[wS (by omega) (by omega)]at hc|rw[Qab]at hc|skip);try (conv=>cbv)))|refine CallG.old ?_
 all_goals try simp only[decide_eq_true_eq,decide_eq_false_iff_not]at*
 all_goals try (refine no fun h=> ?_;obtain⟨h1,h2,h3,h4⟩:=Qau.1 h;simp only at h1 h2 h3;omega)
 all_goals
  refine QaR links.length (fun(i:Int)=>[(1,.c (.ptr 0 0 0 0)),(3,iA i)]) (fun _=>[.bx [.d (.int .i64 nodes),.d (.list false 1 ol),.d (.list false 7 ll)]]) (fun k i=>i=k/\k<=links.length/\∀l∈links.take k,Qzi nodes l=true) 0 (Wk.cw) ⟨rfl,by omega,by simp⟩ (fun k s h=>h.2.1) ?_;rintro k i Q' ⟨hi,hk,hok⟩ norm ex rt
  conv=>cbv
  repeat' first|(refine ex _ _ _ ?_;(conv=>cbv))|(refine rt _ _ ?_;(conv=>cbv))|refine Qay (hw _ _ _) rfl rfl ?_ ?_|(intro e he;obtain⟨⟨xa,xb,xc,xd,xe,xf,xg⟩,hx,rfl⟩:=QaX hll he;(conv=>cbv))|exact gu|exact trivial|refine And.intro ?_ ?_|(intro hc;first|exact absurd hc (by decide)|(exfalso;omega)|((first|rw[wS (by omega) (by omega)]at hc|rw[Qab]at hc|skip);try (conv=>cbv)))|refine CallG.old ?_
 all_goals try simp only[decide_eq_true_eq,decide_eq_false_iff_not]at*
 all_goals try (refine no fun h=> ?_;obtain⟨h1,h2,h3,h4⟩:=Qau.1 h;have h5:=Qed.1 (h4 _ (mgE hx));simp only at h5;omega)
 all_goals try (refine leaf _ (Qau.2 ⟨by assumption,by simp only;omega,by simp only;omega,fun l hl=>hok l ?_⟩);rw[List.take_of_length_le (by omega)];exact hl)
 all_goals
  refine norm _ _ _ ?_ (Wk.cw);refine⟨by omega,by omega,?_⟩;rw[show i.toNat=k by omega]at hx;rw[Qan hx];intro l hl;rcases List.mem_append.1 hl with hl|hl
  ·exact hok l hl
  ·simp only[List.mem_singleton]at hl;subst hl;exact Qed.2 ⟨by simp only;omega,by simp only;omega,by simp only;omega,by simp only;omega,by simp only;omega,by simp only;omega,by simp only;omega,by simp only;omega⟩
def Qbn(t:Top):Int:=if Qam t then 2*t.links.length else 0
def Qe4(t:Top)(a:Int):Lk:=(t.links[(a/2).toNat]?).getD default
def Qbd(t:Top)(a:Int):Int:=if 0<=a/\a<Qbn t then (if a%2=0 then (Qe4 t a).a else (Qe4 t a).b)else -1
def Qcy(t:Top)(a:Int):Int:=if 0<=a/\a<Qbn t then (if a%2=0 then (Qe4 t a).b else (Qe4 t a).a)else -1
def Qcu(t:Top)(a:Int):Int:=if 0<=a/\a<Qbn t then (if a%2=0 then (Qe4 t a).c0 else (Qe4 t a).c1)else -1
theorem QdF(t:Top):Qbn t<=2*t.links.length/\Qbn t<=512/\0<=Qbn t:=by
 rw[Qbn];split
 ·rename_i h;have:=(Qau.1 h).2.2.1;omega
 ·omega
theorem QwB{x:Int}(h1:0<=x)(h2:x<9223372036854775808):IntKind.i64.wrap (x.tdiv 2)=x/2:=by
 rw[Int.tdiv_eq_ediv_of_nonneg h1,Qxm];omega
theorem QwF{x:Int}(h1:0<=x):x.tmod 2=x%2:=Int.tmod_eq_emod_of_nonneg h1
theorem Qhw(P:Program)(hP:P=Tryz.prog)(t:Top):Ret P Qia [QaQ t] (iA (Qbn t)):=by
 refine Qai (hP▸mixed) (hP▸QmJ) (hP▸QnR) (nle rfl) fun Λ Λo K hK=> ?_
 have hw:=QfY P hP t;clear hP;have leaf:∀b,Qbn t=b->K (iA b):=fun b hb=>by rw[←hb];exact hK
 have h256:Qam t=true->(t.links.length:Int)<=256:=fun h=>(Qau.1 h).2.2.1
 have ha:Qbn t=if Qam t then 2*(t.links.length:Int)else 0:=rfl
 generalize Qbn t=r at*;generalize Qam t=v at*;cases v
 all_goals
  obtain⟨nodes,ov,links⟩:=t;simp only[QaQ,Qag,Qah]at*;generalize hol:ov.map Qbh=ol at*;generalize hll:links.map QaB=ll at*;have hlo:Λ ol=ov.length:=by rw[Λo,←hol];simp
  have hls:Λ ll=links.length:=by rw[Λo,←hll];simp
  simp only[Bool.false_eq_true,if_true,if_false,forall_const]at ha h256
  conv=>cbv
  repeat' first|refine Qay hw rfl rfl ?_ ?_|(intro hc;cases hc;done)|exact gu|exact trivial|refine And.intro ?_ ?_|(intro hc;first|exact absurd hc (by decide)|(exfalso;omega)|((first|rw[wS (by omega) (by omega)]at hc|rw[Qab]at hc|skip);try (conv=>cbv)))|refine CallG.old ?_
 ·exact leaf _ ha
 ·exact leaf _ (by omega)
theorem QgD(P:Program)(hP:P=Tryz.prog)(t:Top)(a:Int):Ret P Qic [QaQ t,iA a] (iA (Qbd t a)):=by
 refine Qai (hP▸mixed) (hP▸QmM) (hP▸QnU) (nle rfl) fun Λ Λo K hK=> ?_
 have hw:=Qhw P hP t;clear hP;have leaf:∀b,Qbd t a=b->K (iA b):=fun b hb=>by rw[←hb];exact hK
 have hv2:=QdF t;have hta:Qbd t a=if 0<=a/\a<Qbn t then (if a%2=0 then (Qe4 t a).a else (Qe4 t a).b)else -1:=rfl
 have hat:∀x,t.links[(a/2).toNat]? =some x->Qe4 t a=x:=fun x hx=>by simp[Qe4,hx]
 generalize Qbn t=v at*;obtain⟨nodes,ov,links⟩:=t;simp only[QaQ,Qag,Qah]at*;generalize hol:ov.map Qbh=ol at*;generalize hll:links.map QaB=ll at*;have hlo:Λ ol=ov.length:=by rw[Λo,←hol];simp
 have hls:Λ ll=links.length:=by rw[Λo,←hll];simp
 conv=>cbv
 repeat' first|refine QcY hw rfl rfl ?_|(intro hc;rw[QwB (by omega) (by omega)]at hc;conv=>cbv)|(intro hc;rw[QwF (by omega)]at hc;conv=>cbv)|(intro(_:Unit);decide)|(intro e he;obtain⟨⟨xa,xb,xc,xd,xe,xf,xg⟩,hx,rfl⟩:=QaX hll he;(conv=>cbv))|exact gu|exact trivial|refine And.intro ?_ ?_|(intro hc;first|exact absurd hc (by decide)|(exfalso;omega)|((first|rw[wS (by omega) (by omega)]at hc|rw[Qab]at hc|skip);try (conv=>cbv)))|refine CallG.old ?_
 ·exact leaf _ (by rw[hta,if_neg (by omega)])
 ·exact leaf _ (by rw[hta,if_neg (by omega)])
 all_goals
  refine leaf _ ?_;rw[hta,if_pos (by omega),hat _ (Qdp hx (by omega))]
 ·rw[if_pos (by omega)]
 ·rw[if_neg (by omega)]
theorem QpU(P:Program)(hP:P=Tryz.prog)(t:Top)(a:Int):Ret P Qfg [QaQ t,iA a] (iA (Qcy t a)):=by
 refine Qai (hP▸mixed) (hP▸QmL) (hP▸QnT) (nle rfl) fun Λ Λo K hK=> ?_
 have hw:=Qhw P hP t;have ht:=QgD P hP t;clear hP;have leaf:∀b,Qcy t a=b->K (iA b):=fun b hb=>by rw[←hb];exact hK
 have hv2:=QdF t;have hta:Qcy t a=if 0<=a/\a<Qbn t then (if a%2=0 then (Qe4 t a).b else (Qe4 t a).a)else -1:=rfl
 have htt:∀c,Qbd t c=if 0<=c/\c<Qbn t then (if c%2=0 then (Qe4 t c).a else (Qe4 t c).b)else -1:=fun _=>rfl
 have hlk:∀c,c/2=a/2->Qe4 t c=Qe4 t a:=fun c hc=>by rw[Qe4,Qe4,hc]
 have hev:Qbn t%2=0:=by rw[Qbn];split<;>omega
 generalize Qcy t a=r at*;generalize hf:Qbd t=f at*;generalize Qbn t=v at*;generalize Qe4 t=lk at*;obtain⟨nodes,ov,links⟩:=t;simp only[QaQ,Qag,Qah]at*;generalize hol:ov.map Qbh=ol at*;generalize hll:links.map QaB=ll at*;have hlo:Λ ol=ov.length:=by rw[Λo,←hol];simp
 have hls:Λ ll=links.length:=by rw[Λo,←hll];simp
 conv=>cbv
 repeat' first|refine QcY hw rfl rfl ?_|refine QcY (ht _) rfl rfl ?_|(intro hc;rw[QwB (by omega) (by omega)]at hc;conv=>cbv)|(intro hc;rw[QwF (by omega)]at hc;conv=>cbv)|(intro(_:Unit);decide)|exact gu|exact trivial|refine And.intro ?_ ?_|(intro hc;first|exact absurd hc (by decide)|(exfalso;omega)|((first|rw[wS (by omega) (by omega)]at hc|rw[Qab]at hc|skip);try (conv=>cbv)))|refine CallG.old ?_
 ·exact leaf _ (by rw[hta,if_neg (by omega)])
 ·exact leaf _ (by rw[hta,if_neg (by omega)])
 ·refine leaf _ ?_;subst hc;rename_i c;rw[hta.trans (if_pos (by omega)),(htt c).trans (if_pos (by omega)),hlk c (by omega)];by_cases h0:a%2=0
  ·rw[if_pos h0,if_neg (by omega)]
  ·rw[if_neg h0,if_pos (by omega)]
theorem QkH{K:AV->Prop}{p:Prop}[Decidable p](hK:K (bA (decide p))):p->K (bA true):=fun h=>by rw[decide_eq_true h]at hK;exact hK
theorem Qp3{K:AV->Prop}{p:Prop}[Decidable p](hK:K (bA (decide p))):¬p->K (bA false):=fun h=>by rw[decide_eq_false h]at hK;exact hK
theorem QeB{α:Type}{l:List α}{k:Nat}{x y:α}(h:l[k]? =some x):y∈l.take (k+1)↔y∈l.take k\/y=x:=by
 rw[Qan h];simp
theorem Qw3(P:Program)(hP:P=Tryz.prog)(l:List Int)(n:Int):Ret P QgA [QaK l,iA n] (bA (decide (n∈l))):=by
 refine Qai (hP▸mixed) (hP▸Qol) (hP▸Qps) (nle rfl) fun Λ Λo K hK=> ?_
 clear hP;have yes:=QkH hK;have no:=Qp3 hK;simp only[QaK,Qax]at*;generalize llh:List.map QaE l=ll at*;have lln:Λ ll=l.length:=by rw[Λo,←llh];simp
 conv=>cbv
 refine QaR l.length (fun i:Int=>[(0,.c (.d (.list false 1 ll))),(1,iA n),(5,iA i)]) (fun _=>[]) (fun k i=>i=k/\k<=l.length/\n∉l.take k) 0 (Wk.cw) ⟨rfl,by omega,by simp⟩ (fun k s h=>h.2.1) ?_;rintro k i Q' ⟨hi,hk,hno⟩ norm ex rt
 conv=>cbv
 repeat' first|(refine ex _ _ _ ?_;(conv=>cbv))|(refine rt _ _ ?_;(conv=>cbv))|(intro e he;obtain⟨x,hx,rfl⟩:=QaX llh he;(conv=>cbv))|exact gu|exact trivial|refine And.intro ?_ ?_|(intro hc;first|exact absurd hc (by decide)|(exfalso;omega)|((first|rw[wS (by omega) (by omega)]at hc|rw[Qab]at hc|skip);try (conv=>cbv)))|refine CallG.old ?_
 ·subst hc;exact yes (mgE hx)
 ·refine norm _ _ _ ?_ (Wk.cw);exact⟨by omega,by omega,by rw[QeB (Qdp hx (by omega))];intro h;rcases h with h|h;exact hno h;omega⟩
 ·exact no (by rw[List.take_of_length_le (by omega)]at hno;exact hno)
theorem Qkt(P:Program)(hP:P=Tryz.prog)(l m:List Int):Ret P Qcf [QaK l,QaK m] (bA (decide (l=m))):=by
 refine Qai (hP▸mixed) (hP▸QhI) (hP▸QiO) (nle rfl) fun Λ Λo K hK=> ?_
 clear hP;have yes:=QkH hK;have no:=Qp3 hK;simp only[QaK,Qax]at*;generalize llh:List.map QaE l=ll at*;have lln:Λ ll=l.length:=by rw[Λo,←llh];simp
 generalize mlh:List.map QaE m=ml at*;have mln:Λ ml=m.length:=by rw[Λo,←mlh];simp
 conv=>cbv
 repeat' first|exact gu|exact trivial|refine And.intro ?_ ?_|(intro hc;first|exact absurd hc (by decide)|(exfalso;omega)|((first|rw[wS (by omega) (by omega)]at hc|rw[Qab]at hc|skip);try (conv=>cbv)))|refine CallG.old ?_
 ·exact no fun h=>by subst h;omega
 refine QaR l.length (fun i:Int=>[(0,.c (.d (.list false 1 ll))),(1,.c (.d (.list false 1 ml))),(5,iA i)]) (fun _=>[]) (fun k i=>i=k/\k<=l.length/\l.take k=m.take k) 0 (Wk.cw) ⟨rfl,by omega,by simp⟩ (fun k s h=>h.2.1) ?_;rintro k i Q' ⟨hi,hk,hno⟩ norm ex rt
 conv=>cbv
 repeat' first|(refine ex _ _ _ ?_;(conv=>cbv))|(refine rt _ _ ?_;(conv=>cbv))|(intro e he;obtain⟨x,hx,rfl⟩:=QaX llh he;(conv=>cbv))|(intro e he;obtain⟨y,hy,rfl⟩:=QaX mlh he;(conv=>cbv))|exact gu|exact trivial|refine And.intro ?_ ?_|(intro hc;first|exact absurd hc (by decide)|(exfalso;omega)|((first|rw[wS (by omega) (by omega)]at hc|rw[Qab]at hc|skip);try (conv=>cbv)))|refine CallG.old ?_
 ·refine no fun h=> ?_
  subst h;rw[hx]at hy;cases hy;exact hc rfl
 ·refine norm _ _ _ ?_ (Wk.cw);exact⟨by omega,by omega,by rw[Qan (Qdp hx (by omega)),Qan (Qdp hy (by omega)),hno,show x=y by omega]⟩
 ·exact yes (by rw[List.take_of_length_le (by omega),List.take_of_length_le (by omega)]at hno;exact hno)
theorem Qqi(P:Program)(hP:P=Tryz.prog)(l m:List Seg):Ret P Qfi [Qcz l,Qcz m] (bA (decide (l=m))):=by
 refine Qai (hP▸mixed) (hP▸QmR) (hP▸QnZ) (nle rfl) fun Λ Λo K hK=> ?_
 clear hP;have yes:=QkH hK;have no:=Qp3 hK;simp only[Qcz,QaA]at*;generalize llh:List.map Qaf l=ll at*;have lln:Λ ll=l.length:=by rw[Λo,←llh];simp
 generalize mlh:List.map Qaf m=ml at*;have mln:Λ ml=m.length:=by rw[Λo,←mlh];simp
 conv=>cbv
 repeat' first|exact gu|exact trivial|refine And.intro ?_ ?_|(intro hc;first|exact absurd hc (by decide)|(exfalso;omega)|((first|rw[wS (by omega) (by omega)]at hc|rw[Qab]at hc|skip);try (conv=>cbv)))|refine CallG.old ?_
 ·exact no fun h=>by subst h;omega
 refine QaR l.length (fun i:Int=>[(0,.c (.d (.list false 2 ll))),(1,.c (.d (.list false 2 ml))),(5,iA i)]) (fun _=>[]) (fun k i=>i=k/\k<=l.length/\l.take k=m.take k) 0 (Wk.cw) ⟨rfl,by omega,by simp⟩ (fun k s h=>h.2.1) ?_;rintro k i Q' ⟨hi,hk,hno⟩ norm ex rt
 conv=>cbv
 repeat' first|(refine ex _ _ _ ?_;(conv=>cbv))|(refine rt _ _ ?_;(conv=>cbv))|(intro e he;obtain⟨⟨xa,xb⟩,hx,rfl⟩:=QaX llh he;(conv=>cbv))|(intro e he;obtain⟨⟨ya,yb⟩,hy,rfl⟩:=QaX mlh he;(conv=>cbv))|exact gu|exact trivial|refine And.intro ?_ ?_|(intro hc;first|exact absurd hc (by decide)|(exfalso;omega)|((first|rw[wS (by omega) (by omega)]at hc|rw[Qab]at hc|skip);try (conv=>cbv)))|refine CallG.old ?_
 ·refine norm _ _ _ ?_ (Wk.cw);exact⟨by omega,by omega,by rw[Qan (Qdp hx (by omega)),Qan (Qdp hy (by omega)),hno,show xa=ya by omega,show xb=yb by omega]⟩
 ·refine no fun h=>hc ?_
  subst h;rw[hx]at hy;cases hy;exact⟨rfl,rfl,trivial⟩
 ·exact yes (by rw[List.take_of_length_le (by omega),List.take_of_length_le (by omega)]at hno;exact hno)
theorem QvE(P:Program)(hP:P=Tryz.prog)(l:List Int)(n:Int):Ret P QcB [QaK l,iA n] (iA (if n∈l then (l.idxOf n:Int)else -1)):=by
 refine Qai (hP▸mixed) (hP▸Qey) (hP▸Qe1) (nle rfl) fun Λ Λo K hK=> ?_
 clear hP;have leaf:∀b:Int,(if n∈l then (l.idxOf n:Int)else -1)=b->K (iA b):=fun b hb=>by rw[←hb];exact hK
 simp only[QaK,Qax]at*;generalize llh:List.map QaE l=ll at*;have lln:Λ ll=l.length:=by rw[Λo,←llh];simp
 conv=>cbv
 intro hmax
 conv=>cbv
 refine QaR l.length (fun i:Int=>[(0,.c (.d (.list false 1 ll))),(1,iA n),(7,iA (Λ ll)),(8,iA i)]) (fun _=>[]) (fun k i=>i=k/\k<=l.length/\n∉l.take k) 0 (Wk.cw) ⟨rfl,by omega,by simp⟩ (fun k s h=>h.2.1) ?_;rintro k i Q' ⟨hi,hk,hno⟩ norm ex rt
 conv=>cbv
 repeat' first|(refine ex _ _ _ ?_;(conv=>cbv))|(refine rt _ _ ?_;(conv=>cbv))|(intro e he;obtain⟨x,hx,rfl⟩:=QaX llh he;(conv=>cbv))|exact gu|exact trivial|refine And.intro ?_ ?_|(intro hc;first|exact absurd hc (by decide)|(exfalso;omega)|((first|rw[wS (by omega) (by omega)]at hc|rw[Qab]at hc|skip);try (conv=>cbv)))|refine CallG.old ?_
 ·refine leaf _ ?_;subst hc;have hx:=Qdp hx (show i.toNat=k by omega);rw[if_pos (mgE hx),hi]
  congr 1
  have e:l=l.take k++n::l.drop (k+1):=by
   conv=>lhs;rw[←List.take_append_drop k l]
   congr 1
   rw[List.drop_eq_getElem_cons (by have:=Qaa hx;exact this)]
   congr 1
   rw[lgE (Qaa hx)]at hx;exact osj hx
  rw[e,List.idxOf_append,if_neg hno,List.idxOf_cons_self];simp;omega
 ·refine norm _ _ _ ?_ (Wk.cw);exact⟨by omega,by omega,by rw[QeB (Qdp hx (by omega))];intro h;rcases h with h|h;exact hno h;omega⟩
 ·exact leaf _ (if_neg (by rw[List.take_of_length_le (by omega)]at hno;exact hno))
theorem Qpy(P:Program)(hP:P=Tryz.prog)(l:List Int)(n:Int):Ret P Qb6 [QaK l,iA n] (bA (decide (n∈l))):=by
 refine Qai (hP▸mixed) (hP▸QdD) (hP▸QdQ) (nle rfl) fun Λ Λo K hK=> ?_
 have hw:=QvE P hP l n;clear hP;have yes:=QkH hK;have no:=Qp3 hK;have hi:(0:Int)<=(if n∈l then (l.idxOf n:Int)else -1)↔n∈l:=by split<;>simp_all<;>omega
 generalize (if n∈l then (l.idxOf n:Int)else -1)=r at*;simp only[QaK,Qax]at*;generalize llh:List.map QaE l=ll at*;have lln:Λ ll=l.length:=by rw[Λo,←llh];simp
 conv=>cbv
 repeat' first|refine QcY hw rfl rfl ?_|exact gu|exact trivial|refine And.intro ?_ ?_|(intro hc;first|exact absurd hc (by decide)|(exfalso;omega)|((first|rw[wS (by omega) (by omega)]at hc|rw[Qab]at hc|skip);try (conv=>cbv)))|refine CallG.old ?_
 ·exact yes (hi.1 (by omega))
 ·exact no fun h=>by have:=hi.2 h;omega
theorem Qsu(P:Program)(hP:P=Tryz.prog)(n lo hi:Int):Ret P Qea [iA n,iA lo,iA hi] (bA (decide (lo<=n/\n<=hi))):=by
 refine Qai (hP▸mixed) (hP▸QgQ) (hP▸QhA) (nle rfl) fun Λ Λo K hK=> ?_
 clear hP;have yes:=QkH hK;have no:=Qp3 hK
 conv=>cbv
 repeat' first|exact gu|exact trivial|refine And.intro ?_ ?_|(intro hc;first|exact absurd hc (by decide)|(exfalso;omega)|((first|rw[wS (by omega) (by omega)]at hc|rw[Qab]at hc|skip);try (conv=>cbv)))|refine CallG.old ?_
 ·exact yes (by omega)
 ·exact no (by omega)
 ·exact no (by omega)
theorem QgS(P:Program)(hP:P=Tryz.prog)(t:Top)(n:Int):Ret P Qh8 [QaQ t,iA n] (bA (decide (0<=n/\n<t.nodes))):=by
 refine Qai (hP▸mixed) (hP▸QmH) (hP▸QnP) (nle rfl) fun Λ Λo K hK=> ?_
 clear hP;have yes:=QkH hK;have no:=Qp3 hK;obtain⟨nodes,ov,links⟩:=t;simp only[QaQ,Qag,Qah]at*;generalize hol:ov.map Qbh=ol at*;generalize hll:links.map QaB=ll at*;have hlo:Λ ol=ov.length:=by rw[Λo,←hol];simp
 have hls:Λ ll=links.length:=by rw[Λo,←hll];simp
 conv=>cbv
 repeat' first|exact gu|exact trivial|refine And.intro ?_ ?_|(intro hc;first|exact absurd hc (by decide)|(exfalso;omega)|((first|rw[wS (by omega) (by omega)]at hc|rw[Qab]at hc|skip);try (conv=>cbv)))|refine CallG.old ?_
 ·exact yes (by omega)
 ·exact no (by omega)
 ·exact no (by omega)
theorem Qo1(P:Program)(hP:P=Tryz.prog)(t:Top):Ret P QeT [QaQ t] (bA (Qam t)):=by
 refine Qai (hP▸mixed) (hP▸QhL) (hP▸QiR) (nle rfl) fun Λ Λo K hK=> ?_
 have hw:=Qsu P hP;have hn:=QgS P hP t;clear hP;have leaf:∀b,Qam t=b->K (bA b):=fun b hb=>by rw[←hb];exact hK
 have no:(Qam t=true->False)->K (bA false):=fun h=>leaf _ (Bool.eq_false_iff.2 h)
 obtain⟨nodes,ov,links⟩:=t;simp only[QaQ,Qag,Qah]at*;generalize hol:ov.map Qbh=ol at*;generalize hll:links.map QaB=ll at*;have hlo:Λ ol=ov.length:=by rw[Λo,←hol];simp
 have hls:Λ ll=links.length:=by rw[Λo,←hll];simp
 conv=>cbv
 repeat' first|refine Qay (hw _ _ _) rfl rfl ?_ ?_|exact gu|exact trivial|refine And.intro ?_ ?_|(intro hc;first|exact absurd hc (by decide)|(exfalso;omega)|((first|rw[wS (by omega) (by omega)]at hc|rw[Qab]at hc|skip);try (conv=>cbv)))|refine CallG.old ?_
 all_goals try simp only[decide_eq_true_eq,decide_eq_false_iff_not]at*
 all_goals try (refine no fun h=> ?_;obtain⟨h1,h2,h3,h4⟩:=Qau.1 h;simp only at h1 h2 h3;omega)
 all_goals
  refine QaR links.length (fun(i:Int)=>[(1,.c (.ptr 0 0 0 0)),(29,iA (Λ ll)),(30,iA i)]) (fun _=>[.bx [.d (.int .i64 nodes),.d (.list false 1 ol),.d (.list false 7 ll)]]) (fun k i=>i=k/\k<=links.length/\∀l∈links.take k,Qzi nodes l=true) 0 (Wk.cw) ⟨rfl,by omega,by simp⟩ (fun k s h=>h.2.1) ?_;rintro k i Q' ⟨hi,hk,hok⟩ norm ex rt
  conv=>cbv
  repeat' first|(refine ex _ _ _ ?_;(conv=>cbv))|(refine rt _ _ ?_;(conv=>cbv))|refine Qay (hw _ _ _) rfl rfl ?_ ?_|refine Qay (hn _) rfl rfl ?_ ?_|(intro e he;obtain⟨⟨xa,xb,xc,xd,xe,xf,xg⟩,hx,rfl⟩:=QaX hll he;(conv=>cbv))|exact gu|exact trivial|refine And.intro ?_ ?_|(intro hc;first|exact absurd hc (by decide)|(exfalso;omega)|((first|rw[wS (by omega) (by omega)]at hc|rw[Qab]at hc|skip);try (conv=>cbv)))|refine CallG.old ?_
 all_goals try simp only[decide_eq_true_eq,decide_eq_false_iff_not]at*
 all_goals try (refine no fun h=> ?_;obtain⟨h1,h2,h3,h4⟩:=Qau.1 h;have h5:=Qed.1 (h4 _ (mgE hx));simp only at h5;omega)
 all_goals try (refine leaf _ (Qau.2 ⟨by simp only;omega,by simp only;omega,by simp only;omega,fun l hl=>hok l ?_⟩);rw[List.take_of_length_le (by omega)];exact hl)
 all_goals
  refine norm _ _ _ ?_ (Wk.cw);refine⟨by omega,by omega,?_⟩;rw[show i.toNat=k by omega]at hx;rw[Qan hx];intro l hl;rcases List.mem_append.1 hl with hl|hl
  ·exact hok l hl
  ·simp only[List.mem_singleton]at hl;subst hl;exact Qed.2 ⟨by simp only;omega,by simp only;omega,by simp only;omega,by simp only;omega,by simp only;omega,by simp only;omega,by simp only;omega,by simp only;omega⟩
theorem QvC(P:Program)(hP:P=Tryz.prog)(t:Top)(h:(t.links.length:Int)<=256):Ret P Qh7 [QaQ t] (iA (2*t.links.length)):=by
 refine Qai (hP▸mixed) (hP▸QmF) (hP▸QnN) (nle rfl) fun Λ Λo K hK=> ?_
 clear hP;obtain⟨nodes,ov,links⟩:=t;simp only[QaQ,Qag,Qah]at*;generalize hol:ov.map Qbh=ol at*;generalize hll:links.map QaB=ll at*;have hlo:Λ ol=ov.length:=by rw[Λo,←hol];simp
 have hls:Λ ll=links.length:=by rw[Λo,←hll];simp
 conv=>cbv
 repeat' first|exact gu|exact trivial|refine And.intro ?_ ?_|(intro hc;first|exact absurd hc (by decide)|(exfalso;omega)|((first|rw[wS (by omega) (by omega)]at hc|rw[Qab]at hc|skip);try (conv=>cbv)))|refine CallG.old ?_
 rename_i c;rw[show c=2*(links.length:Int)by omega];exact hK
theorem QpR(P:Program)(hP:P=Tryz.prog)(t:Top)(a:Int)(h:(t.links.length:Int)<=256):Ret P Qkh [QaQ t,iA a] (bA (decide (0<=a/\a<2*t.links.length))):=by
 refine Qai (hP▸mixed) (hP▸Qok) (hP▸Qpr) (nle rfl) fun Λ Λo K hK=> ?_
 have hw:=QvC P hP t h;clear hP;have yes:=QkH hK;have no:=Qp3 hK;obtain⟨nodes,ov,links⟩:=t;simp only[QaQ,Qag,Qah]at*;generalize hol:ov.map Qbh=ol at*;generalize hll:links.map QaB=ll at*;have hlo:Λ ol=ov.length:=by rw[Λo,←hol];simp
 have hls:Λ ll=links.length:=by rw[Λo,←hll];simp
 conv=>cbv
 repeat' first|refine QcY hw rfl rfl ?_|exact gu|exact trivial|refine And.intro ?_ ?_|(intro hc;first|exact absurd hc (by decide)|(exfalso;omega)|((first|rw[wS (by omega) (by omega)]at hc|rw[Qab]at hc|skip);try (conv=>cbv)))|refine CallG.old ?_
 ·exact yes (by omega)
 ·exact no (by omega)
 ·exact no (by omega)
def Qf3(t:Top)(a:Int):Int:=if a%2=0 then (Qe4 t a).a else (Qe4 t a).b
def QpT(t:Top)(a:Int):Int:=if a%2=0 then (Qe4 t a).b else (Qe4 t a).a
theorem QmY(P:Program)(hP:P=Tryz.prog)(t:Top)(a:Int)(h0:0<=a)(h1:a<2*t.links.length)(h2:(t.links.length:Int)<=256):Ret P Qh9 [QaQ t,iA a] (iA (Qf3 t a)):=by
 refine Qai (hP▸mixed) (hP▸QmI) (hP▸QnQ) (nle rfl) fun Λ Λo K hK=> ?_
 clear hP;have leaf:∀b,Qf3 t a=b->K (iA b):=fun b hb=>by rw[←hb];exact hK
 have hta:Qf3 t a=if a%2=0 then (Qe4 t a).a else (Qe4 t a).b:=rfl
 have hat:∀x,t.links[(a/2).toNat]? =some x->Qe4 t a=x:=fun x hx=>by simp[Qe4,hx]
 obtain⟨nodes,ov,links⟩:=t;simp only[QaQ,Qag,Qah]at*;generalize hol:ov.map Qbh=ol at*;generalize hll:links.map QaB=ll at*;have hlo:Λ ol=ov.length:=by rw[Λo,←hol];simp
 have hls:Λ ll=links.length:=by rw[Λo,←hll];simp
 conv=>cbv
 repeat' first|(intro hc;rw[QwB (by omega) (by omega)]at hc;conv=>cbv)|(intro hc;rw[QwF (by omega)]at hc;conv=>cbv)|(intro(_:Unit);decide)|(intro e he;obtain⟨⟨xa,xb,xc,xd,xe,xf,xg⟩,hx,rfl⟩:=QaX hll he;(conv=>cbv))|exact gu|exact trivial|refine And.intro ?_ ?_|(intro hc;first|exact absurd hc (by decide)|(exfalso;omega)|((first|rw[wS (by omega) (by omega)]at hc|rw[Qab]at hc|skip);try (conv=>cbv)))|refine CallG.old ?_
 ·exact leaf _ (by rw[hta,if_pos (by omega),hat _ (Qdp hx (by omega))])
 ·exact leaf _ (by rw[hta,if_neg (by omega),hat _ (Qdp hx (by omega))])
def Qsl(t:Top)(s:Seg):Bool:=decide (0<=s.num)&&(decide (s.kind=1/\s.num<t.nodes)||decide (s.kind=2/\s.num<2*t.links.length)||decide (s.kind=3/\1<=s.num/\s.num<=64)||decide (s.kind=4/\s.num<=65535))
theorem Qfz{t:Top}{s:Seg}:Qsl t s=true↔0<=s.num/\((s.kind=1/\s.num<t.nodes)\/(s.kind=2/\s.num<2*t.links.length)\/(s.kind=3/\1<=s.num/\s.num<=64)\/(s.kind=4/\s.num<=65535)):=by
 simp only[Qsl,Bool.and_eq_true,Bool.or_eq_true,decide_eq_true_eq,or_assoc]
theorem Qx4(P:Program)(hP:P=Tryz.prog)(t:Top)(s:Seg)(h:(t.links.length:Int)<=256):Ret P Qff [QaQ t,Qzk s] (bA (Qsl t s)):=by
 refine Qai (hP▸mixed) (hP▸QiX) (hP▸Qjz) (nle rfl) fun Λ Λo K hK=> ?_
 have hn:=QgS P hP t;have ha:=fun a=>QpR P hP t a h
 clear hP;have leaf:∀b,Qsl t s=b->K (bA b):=fun b hb=>by rw[←hb];exact hK
 have yes:(0<=s.num/\((s.kind=1/\s.num<t.nodes)\/(s.kind=2/\s.num<2*t.links.length)\/(s.kind=3/\1<=s.num/\s.num<=64)\/(s.kind=4/\s.num<=65535)))->K (bA true):=fun h=>leaf _ (Qfz.2 h)
 have no:¬(0<=s.num/\((s.kind=1/\s.num<t.nodes)\/(s.kind=2/\s.num<2*t.links.length)\/(s.kind=3/\1<=s.num/\s.num<=64)\/(s.kind=4/\s.num<=65535)))->K (bA false):=fun h=>leaf _ (Bool.eq_false_iff.2 fun h'=>h (Qfz.1 h'))
 clear leaf hK;obtain⟨kind,num⟩:=s;simp only[Qzk]at*;obtain⟨nodes,ov,links⟩:=t;simp only[QaQ,Qag,Qah]at*;generalize hol:ov.map Qbh=ol at*;generalize hll:links.map QaB=ll at*;have hlo:Λ ol=ov.length:=by rw[Λo,←hol];simp
 have hls:Λ ll=links.length:=by rw[Λo,←hll];simp
 conv=>cbv
 repeat' first|refine Qay (hn _) rfl rfl ?_ ?_|refine Qay (ha _) rfl rfl ?_ ?_|exact gu|exact trivial|refine And.intro ?_ ?_|(intro hc;first|exact absurd hc (by decide)|(exfalso;omega)|((first|rw[wS (by omega) (by omega)]at hc|rw[Qab]at hc|skip);try (conv=>cbv)))|refine CallG.old ?_
 all_goals try simp only[decide_eq_true_eq,decide_eq_false_iff_not]at*
 all_goals first|(refine yes ?_;omega)|(refine no ?_;omega)
theorem QyN(P:Program)(hP:P=Tryz.prog)(t:Top)(s:Seg):Ret P Qg0 [QaQ t,Qzk s] (bA (Qam t&&Qsl t s)):=by
 refine Qai (hP▸mixed) (hP▸Qk5) (hP▸Qmm) (nle rfl) fun Λ Λo K hK=> ?_
 have hn:=QfY P hP t;have ha:=Qhw P hP t;clear hP;have hb:Qam t=true->Qbn t=2*t.links.length:=fun h=>by rw[Qbn,if_pos h]
 have leaf:∀b,(Qam t&&Qsl t s)=b->K (bA b):=fun b hb=>by rw[←hb];exact hK
 have yes:(Qam t=true/\0<=s.num/\((s.kind=1/\s.num<t.nodes)\/(s.kind=2/\s.num<2*t.links.length)\/(s.kind=3/\1<=s.num/\s.num<=64)\/(s.kind=4/\s.num<=65535)))->K (bA true):=fun h=>leaf _ (by rw[h.1,Qfz.2 h.2];rfl)
 have no:(Qam t=true->¬(0<=s.num/\((s.kind=1/\s.num<t.nodes)\/(s.kind=2/\s.num<2*t.links.length)\/(s.kind=3/\1<=s.num/\s.num<=64)\/(s.kind=4/\s.num<=65535))))->K (bA false):=fun h=>leaf _ (by
  cases hv:Qam t with
  |false=>rfl
  |true=>exact Bool.eq_false_iff.2 fun h'=>h hv (Qfz.1 h'))
 clear leaf hK;generalize Qam t=v at*;generalize Qbn t=r at*;obtain⟨kind,num⟩:=s;simp only[Qzk]at*;obtain⟨nodes,ov,links⟩:=t;simp only[QaQ,Qag,Qah]at*;generalize hol:ov.map Qbh=ol at*;generalize hll:links.map QaB=ll at*;have hlo:Λ ol=ov.length:=by rw[Λo,←hol];simp
 have hls:Λ ll=links.length:=by rw[Λo,←hll];simp
 conv=>cbv
 repeat' first|refine Qay hn rfl rfl ?_ ?_|refine QcY ha rfl rfl ?_|exact gu|exact trivial|refine And.intro ?_ ?_|(intro hc;first|exact absurd hc (by decide)|(exfalso;omega)|((first|rw[wS (by omega) (by omega)]at hc|rw[Qab]at hc|skip);try (conv=>cbv)))|refine CallG.old ?_
 all_goals first|(refine no fun h=> ?_;have:=hb h;omega)|(refine no fun h=> ?_;exact absurd (h.symm.trans ‹v=false›) (by simp))|(refine yes ⟨‹v=true›,?_⟩;have:=hb ‹v=true›;omega)
def Qg6(t:Top)(n:Int)(l:List Int)(i:Nat):Bool:=decide (Qbd t (l.getD i 0)=n)&&(decide (i=0)||decide (l.getD (i-1) 0<l.getD i 0))
def Qna(t:Top)(n:Int)(l:List Int):Bool:=(List.range l.length).all (Qg6 t n l)
theorem Qfn{t:Top}{n:Int}{l:List Int}:Qna t n l=true↔∀i,i<l.length->Qg6 t n l i=true:=by
 simp[Qna,List.all_eq_true]
theorem QhP{α:Type}{l:List α}{i:Nat}{x d:α}(h:l[i]? =some x):l.getD i d=x:=by
 simp[List.getD,h]
theorem QoJ{t:Top}{n:Int}{l:List Int}{i:Nat}{x:Int}(hx:l[i]? =some x)(h1:Qbd t x=n)(h2:i=0\/∃y,l[i-1]? =some y/\y<x):Qg6 t n l i=true:=by
 simp only[Qg6,QhP hx,h1,decide_true,Bool.true_and,Bool.or_eq_true,decide_eq_true_eq];rcases h2 with h2|⟨y,hy,h2⟩
 ·exact .inl h2
 ·exact .inr (by rw[QhP hy];exact h2)
theorem Qrc{t:Top}{n:Int}{l:List Int}{i:Nat}{x:Int}(hx:l[i]? =some x)(h:Qbd t x≠n\/(i≠0/\∃y,l[i-1]? =some y/\x<=y)):¬Qg6 t n l i=true:=by
 simp only[Qg6,QhP hx,Bool.and_eq_true,Bool.or_eq_true,decide_eq_true_eq];rintro⟨h1,h2⟩;rcases h with h|⟨h0,y,hy,h⟩
 ·exact h h1
 ·rcases h2 with h2|h2
  ·exact h0 h2
  ·rw[QhP hy]at h2;omega
theorem QkB{t:Top}{a:Int}(hv:Qam t=true)(h0:0<=a)(h1:a<2*t.links.length):Qbd t a=Qf3 t a:=by
 rw[Qbd,Qbn,if_pos hv,if_pos ⟨h0,h1⟩];rfl
theorem QlN{t:Top}{a:Int}(hv:Qam t=true)(h:¬(0<=a/\a<2*t.links.length)):Qbd t a= -1:=by
 rw[Qbd,Qbn,if_pos hv,if_neg h]
theorem Qp4(P:Program)(hP:P=Tryz.prog)(t:Top)(n:Int)(l:List Int):Ret P QeR [QaQ t,iA n,QaK l] (bA (Qna t n l)):=by
 refine Qai (hP▸mixed) (hP▸QhJ) (hP▸QiP) (nle rfl) fun Λ Λo K hK=> ?_
 have ht:=QgD P hP t;clear hP;have yes:(∀i,i<l.length->Qg6 t n l i=true)->K (bA true):=fun h=>by rw[Qfn.2 h]at hK;exact hK
 have no:∀i,i<l.length->¬Qg6 t n l i=true->K (bA false):=fun i hi h=>by
  rw[show Qna t n l=false from Bool.eq_false_iff.2 fun h'=>h (Qfn.1 h' i hi)]at hK;exact hK
 have ya:=fun i x=> @QoJ t n l i x
 have na:=fun i x=> @Qrc t n l i x
 generalize Qg6 t n l=oa at*;generalize Qbd t=f at*;clear hK;simp only[QaK,Qax]at*;generalize alh:List.map QaE l=al at*;have aln:Λ al=l.length:=by rw[Λo,←alh];simp
 obtain⟨nodes,ov,links⟩:=t;simp only[QaQ,Qag,Qah]at*;generalize hol:ov.map Qbh=ol at*;generalize hll:links.map QaB=ll at*;have hlo:Λ ol=ov.length:=by rw[Λo,←hol];simp
 have hls:Λ ll=links.length:=by rw[Λo,←hll];simp
 conv=>cbv
 refine QaR l.length (fun(i:Int)=>[(1,iA n),(2,.c (.d (.list false 1 al))),(3,.c (.ptr 0 0 0 0)),(7,iA i)]) (fun _=>[.bx [.d (.int .i64 nodes),.d (.list false 1 ol),.d (.list false 7 ll)]]) (fun k i=>i=k/\k<=l.length/\∀j,j<k->oa j=true) 0 (Wk.cw) ⟨rfl,by omega,by simp⟩ (fun k s h=>h.2.1) ?_;rintro k i Q' ⟨hi,hk,hok⟩ norm ex rt;by_cases hlt:k<l.length
 ·obtain⟨x,hx⟩:∃x,l[k]? =some x:=⟨_,lgE hlt⟩;have hxa:=Qd1 alh hi hx
  conv=>cbv
  repeat' first|(refine ex _ _ _ ?_;(conv=>cbv))|(refine rt _ _ ?_;(conv=>cbv))|refine QcY (ht _) rfl rfl ?_|(intro e he;cases osj (he.symm.trans hxa);(conv=>cbv))|(intro e he;obtain⟨y,hy,rfl⟩:=QaX alh he;(conv=>cbv))|exact gu|exact trivial|refine And.intro ?_ ?_|(intro hc;first|exact absurd hc (by decide)|(exfalso;omega)|((first|rw[wS (by omega) (by omega)]at hc|rw[Qab]at hc|skip);try (conv=>cbv)))|refine CallG.old ?_
  ·exact no k hlt (na k x hx (.inl (by omega)))
  ·exact no k hlt (na k x hx (.inr ⟨by omega,_,Qdp hy (by omega),by omega⟩))
  all_goals
   refine norm _ _ _ ?_ (Wk.cw);refine⟨by omega,by omega,fun j hj=> ?_⟩;rcases Nat.lt_or_ge j k with h|h
   ·exact hok j h
   ·obtain rfl:j=k:=by omega
    first|exact ya j x hx (by omega) (.inr ⟨_,Qdp hy (by omega),by omega⟩)|exact ya j x hx (by omega) (.inl (by omega))
 ·conv=>cbv
  repeat' first|(refine ex _ _ _ ?_;(conv=>cbv))|(refine rt _ _ ?_;(conv=>cbv))|exact gu|exact trivial|refine And.intro ?_ ?_|(intro hc;first|exact absurd hc (by decide)|(exfalso;omega)|((first|rw[wS (by omega) (by omega)]at hc|rw[Qab]at hc|skip);try (conv=>cbv)))|refine CallG.old ?_
  exact yes fun j hj=>hok j (by omega)
theorem Qlv(P:Program)(hP:P=Tryz.prog)(t:Top)(n:Int)(l:List Int)(hv:Qam t=true)(hn0:0<=n):Ret P Qfl [QaQ t,iA n,QaK l] (bA (Qna t n l)):=by
 refine Qai (hP▸mixed) (hP▸Qi1) (hP▸QjD) (nle rfl) fun Λ Λo K hK=> ?_
 have h256:=(Qau.1 hv).2.2.1;have har:=fun a=>QpR P hP t a h256
 have ht:=fun a h0 h1=>QmY P hP t a h0 h1 h256
 clear hP;have yes:(∀i,i<l.length->Qg6 t n l i=true)->K (bA true):=fun h=>by rw[Qfn.2 h]at hK;exact hK
 have no:∀i,i<l.length->¬Qg6 t n l i=true->K (bA false):=fun i hi h=>by
  rw[show Qna t n l=false from Bool.eq_false_iff.2 fun h'=>h (Qfn.1 h' i hi)]at hK;exact hK
 have ya:=fun i x=> @QoJ t n l i x
 have na:=fun i x=> @Qrc t n l i x
 have tv:=fun a=> @QkB t a hv
 have tn:=fun a=> @QlN t a hv
 generalize Qg6 t n l=oa at*;generalize Qbd t=f at*;generalize Qf3 t=g at*;clear hK hv;simp only[QaK,Qax]at*;generalize alh:List.map QaE l=al at*;have aln:Λ al=l.length:=by rw[Λo,←alh];simp
 obtain⟨nodes,ov,links⟩:=t;simp only[QaQ,Qag,Qah]at*;generalize hol:ov.map Qbh=ol at*;generalize hll:links.map QaB=ll at*;have hlo:Λ ol=ov.length:=by rw[Λo,←hol];simp
 have hls:Λ ll=links.length:=by rw[Λo,←hll];simp
 conv=>cbv
 intro hmax
 conv=>cbv
 refine QaR l.length (fun(i:Int)=>[(1,iA n),(2,.c (.d (.list false 1 al))),(3,.c (.ptr 0 0 0 0)),(9,.c (.d (.list false 1 al))),(10,iA (Λ al)),(11,iA i)]) (fun _=>[.bx [.d (.int .i64 nodes),.d (.list false 1 ol),.d (.list false 7 ll)]]) (fun k i=>i=k/\k<=l.length/\∀j,j<k->oa j=true) 0 (Wk.cw) ⟨rfl,by omega,by simp⟩ (fun k s h=>h.2.1) ?_;rintro k i Q' ⟨hi,hk,hok⟩ norm ex rt;by_cases hlt:k<l.length
 ·obtain⟨x,hx⟩:∃x,l[k]? =some x:=⟨_,lgE hlt⟩;have hxa:=Qd1 alh hi hx
  conv=>cbv
  repeat' first|(refine ex _ _ _ ?_;(conv=>cbv))|(refine rt _ _ ?_;(conv=>cbv))|refine Qay (har _) rfl rfl ?_ ?_|(refine QcY (ht _ (by simp only[decide_eq_true_eq]at *;omega) (by simp only[decide_eq_true_eq]at *;omega)) rfl rfl ?_)|(intro e he;cases osj (he.symm.trans hxa);(conv=>cbv))|(intro e he;obtain⟨y,hy,rfl⟩:=QaX alh he;(conv=>cbv))|exact gu|exact trivial|refine And.intro ?_ ?_|(intro hc;first|exact absurd hc (by decide)|(exfalso;omega)|((first|rw[wS (by omega) (by omega)]at hc|rw[Qab]at hc|skip);try (conv=>cbv)))|refine CallG.old ?_
  all_goals simp only[decide_eq_true_eq,decide_eq_false_iff_not]at*
  all_goals first
   |(refine no k hlt (na k x hx (.inl ?_));rw[tn x (by omega)];omega)
   |(refine no k hlt (na k x hx (.inl ?_));rw[tv x (by omega) (by omega)];omega)
   |(refine no k hlt (na k x hx (.inr ⟨?_,y,Qdp hy ?_,?_⟩))<;>omega)
   |skip
  all_goals
   refine norm _ _ _ ?_ (Wk.cw);refine⟨by omega,by omega,fun j hj=> ?_⟩;rcases Nat.lt_or_ge j k with h|h
   ·exact hok j h
   ·obtain rfl:j=k:=by omega
    first
     |(refine ya j x hx ?_ (.inr ⟨y,Qdp hy ?_,?_⟩);(rw[tv x (by omega) (by omega)];omega);all_goals omega)
     |(refine ya j x hx ?_ (.inl ?_);(rw[tv x (by omega) (by omega)];omega);all_goals omega)
 ·conv=>cbv
  repeat' first|(refine ex _ _ _ ?_;(conv=>cbv))|(refine rt _ _ ?_;(conv=>cbv))|exact gu|exact trivial|refine And.intro ?_ ?_|(intro hc;first|exact absurd hc (by decide)|(exfalso;omega)|((first|rw[wS (by omega) (by omega)]at hc|rw[Qab]at hc|skip);try (conv=>cbv)))|refine CallG.old ?_
  exact yes fun j hj=>hok j (by omega)
def QsH(t:Top)(n d:Int)(e:Ety):Bool:=
 Qna t n e.arcs&& !(decide (d=n)&&decide (0<e.arcs.length))&&(if e.rep then decide (e.arcs.length=1/\e.push.length<=32)else decide (e.push.length=0))&&e.push.all (Qsl t)
theorem Qe8{t:Top}{n d:Int}{e:Ety}:QsH t n d e=true↔
  Qna t n e.arcs=true/\¬(d=n/\0<e.arcs.length)/\(e.rep=true->e.arcs.length=1/\e.push.length<=32)/\(e.rep=false->e.push.length=0)/\∀s∈e.push,Qsl t s=true:=by
 cases h:e.rep<;>simp only[QsH,h,Bool.and_eq_true,List.all_eq_true,and_assoc,Bool.not_eq_true',Bool.and_eq_false_iff,decide_eq_false_iff_not,decide_eq_true_eq,if_true,if_false,Bool.false_eq_true,false_implies,true_and,forall_const,Classical.not_and_iff_not_or_not,reduceCtorEq]
def Qh1(t:Top)(x:Tab):Bool:=
 Qam t&&decide (0<=x.node/\x.node<t.nodes)&&decide ((x.to.length:Int)=t.nodes)&&Qna t x.node x.down&&(List.range x.to.length).all fun d=>QsH t x.node d (x.to.getD d default)
theorem Qcb{t:Top}{x:Tab}:Qh1 t x=true↔Qam t=true/\(0<=x.node/\x.node<t.nodes)/\(x.to.length:Int)=t.nodes/\Qna t x.node x.down=true/\∀(i:Nat) (e:Ety),x.to[i]? =some e->QsH t x.node i e=true:=by
 simp only[Qh1,Bool.and_eq_true,decide_eq_true_eq,List.all_eq_true,List.mem_range,and_assoc];constructor
 ·rintro⟨h1,h2,h3,h4,h5,h6⟩;refine⟨h1,h2,h3,h4,h5,fun i e he=> ?_⟩;have:=h6 i (Qaa he);rw[QhP he]at this;exact this
 ·rintro⟨h1,h2,h3,h4,h5,h6⟩;exact⟨h1,h2,h3,h4,h5,fun i hi=>h6 i _ (by simp[List.getD,lgE hi])⟩
theorem Qt6(P:Program)(hP:P=Tryz.prog)(t:Top)(e:Ety)(n d:Int)(hv:Qam t=true)(hn0:0<=n):Ret P Qgc [QaQ t,QxR e,iA n,iA d] (bA (QsH t n d e)):=by
 refine Qai (hP▸mixed) (hP▸QjZ) (hP▸QkY) (nle rfl) fun Λ Λo K hK=> ?_
 have h256:=(Qau.1 hv).2.2.1;have hl:=Qlv P hP t n e.arcs hv hn0;have hg:=fun s=>Qx4 P hP t s h256
 clear hP;have yes:(Qna t n e.arcs=true/\¬(d=n/\0<e.arcs.length)/\(e.rep=true->e.arcs.length=1/\e.push.length<=32)/\(e.rep=false->e.push.length=0)/\∀s∈e.push,Qsl t s=true)->K (bA true):=fun h=>by
  rw[Qe8.2 h]at hK;exact hK
 have no:¬(Qna t n e.arcs=true/\¬(d=n/\0<e.arcs.length)/\(e.rep=true->e.arcs.length=1/\e.push.length<=32)/\(e.rep=false->e.push.length=0)/\∀s∈e.push,Qsl t s=true)->K (bA false):=fun h=>by
  rw[show QsH t n d e=false from Bool.eq_false_iff.2 fun h'=>h (Qe8.1 h')]at hK;exact hK
 clear hK hv;obtain⟨arcs,rep,push⟩:=e;simp only[QxR,QaK,Qax,QaA,Qzk]at*;generalize Qna t n arcs=ob at*;generalize Qsl t=sb at*;generalize alh:List.map QaE arcs=al at*;have aln:Λ al=arcs.length:=by rw[Λo,←alh];simp
 generalize plh:List.map Qaf push=pl at*;have pln:Λ pl=push.length:=by rw[Λo,←plh];simp
 obtain⟨nodes,ov,links⟩:=t;simp only[QaQ,Qag,Qah]at*;generalize hol:ov.map Qbh=ol at*;generalize hll:links.map QaB=ll at*;have hlo:Λ ol=ov.length:=by rw[Λo,←hol];simp
 have hls:Λ ll=links.length:=by rw[Λo,←hll];simp
 cases rep
 all_goals
  conv=>cbv
  repeat' first|refine Qay hl rfl rfl ?_ ?_|exact gu|exact trivial|refine And.intro ?_ ?_|(intro hc;first|exact absurd hc (by decide)|(exfalso;omega)|((first|rw[wS (by omega) (by omega)]at hc|rw[Qab]at hc|skip);try (conv=>cbv)))|refine CallG.old ?_
 all_goals try (refine no fun h=> ?_;obtain⟨h1,h2,h3,h4,_⟩:=h;first|omega|(have:=h3 rfl;omega)|(have:=h4 rfl;omega)|(rw[h1]at hc;cases hc))
 all_goals try (refine yes ⟨by assumption,by omega,(by simp),by intro _;omega,?_⟩;obtain rfl:push=[]:=List.eq_nil_of_length_eq_zero (by omega);simp)
 all_goals
  refine QaR push.length (fun(i:Int)=>[(4,.c (.ptr 0 0 0 0)),(46,.c (.d (.list false 2 pl))),(47,iA (Λ pl)),(48,iA i)]) (fun _=>[.bx [.d (.int .i64 nodes),.d (.list false 1 ol),.d (.list false 7 ll)]]) (fun k i=>i=k/\k<=push.length/\∀s∈push.take k,sb s=true) 0 (Wk.cw) ⟨rfl,by omega,by simp⟩ (fun k s h=>h.2.1) ?_;rintro k i Q' ⟨hi,hk,hok⟩ norm ex rt;by_cases hlt:k<push.length
  ·obtain⟨x,hx⟩:∃x,push[k]? =some x:=⟨_,lgE hlt⟩;have hxa:=Qd1 plh hi hx;obtain⟨xk,xn⟩:=x;have hgx:=hg ⟨xk,xn⟩
   conv=>cbv
   repeat' first|(refine ex _ _ _ ?_;(conv=>cbv))|(refine rt _ _ ?_;(conv=>cbv))|refine Qay hgx rfl rfl ?_ ?_|(intro e he;cases osj (he.symm.trans hxa);(conv=>cbv))|exact gu|exact trivial|refine And.intro ?_ ?_|(intro hc;first|exact absurd hc (by decide)|(exfalso;omega)|((first|rw[wS (by omega) (by omega)]at hc|rw[Qab]at hc|skip);try (conv=>cbv)))|refine CallG.old ?_
   ·refine norm _ _ _ ?_ (Wk.cw);refine⟨by omega,by omega,fun s hs=> ?_⟩;rw[Qan hx]at hs;rcases List.mem_append.1 hs with hs|hs
    ·exact hok s hs
    ·simp only[List.mem_singleton]at hs;subst hs;assumption
   ·refine no fun h=> ?_
    have:=h.2.2.2.2 _ (mgE hx);rw[this]at hc;cases hc
  ·conv=>cbv
   repeat' first|(refine ex _ _ _ ?_;(conv=>cbv))|(refine rt _ _ ?_;(conv=>cbv))|exact gu|exact trivial|refine And.intro ?_ ?_|(intro hc;first|exact absurd hc (by decide)|(exfalso;omega)|((first|rw[wS (by omega) (by omega)]at hc|rw[Qab]at hc|skip);try (conv=>cbv)))|refine CallG.old ?_
   refine yes ⟨by assumption,by omega,fun _=>by omega,by simp,?_⟩;rw[List.take_of_length_le (by omega)]at hok;exact hok
theorem Qho(P:Program)(hP:P=Tryz.prog)(t:Top)(x:Tab):Ret P Qg3 [QaQ t,QlM x] (bA (Qh1 t x)):=by
 refine Qai (hP▸mixed) (hP▸Qk9) (hP▸Qmq) (nle rfl) fun Λ Λo K hK=> ?_
 have hw:=Qo1 P hP t;have hn:=QgS P hP t;have hl:=fun l=>Qlv P hP t x.node l
 have hp:=fun e d=>Qt6 P hP t e x.node d
 clear hP;have yes:(Qam t=true/\(0<=x.node/\x.node<t.nodes)/\(x.to.length:Int)=t.nodes/\Qna t x.node x.down=true/\∀(i:Nat) (e:Ety),x.to[i]? =some e->QsH t x.node i e=true)->K (bA true):=fun h=>by
  rw[Qcb.2 h]at hK;exact hK
 have no:¬(Qam t=true/\(0<=x.node/\x.node<t.nodes)/\(x.to.length:Int)=t.nodes/\Qna t x.node x.down=true/\∀(i:Nat) (e:Ety),x.to[i]? =some e->QsH t x.node i e=true)->K (bA false):=fun h=>by
  rw[show Qh1 t x=false from Bool.eq_false_iff.2 fun h'=>h (Qcb.1 h')]at hK;exact hK
 clear hK;obtain⟨node,to,down⟩:=x;have hld:=hl down;simp only[QlM,Qd2,QaK,Qax]at*;generalize Qna t node down=ob at*;generalize QsH t node=eb at*;generalize Qam t=v at*;generalize elh:List.map Qaz to=el at*;have eln:Λ el=to.length:=by rw[Λo,←elh];simp
 generalize dlh:List.map QaE down=dl at*;have dln:Λ dl=down.length:=by rw[Λo,←dlh];simp
 obtain⟨nodes,ov,links⟩:=t;simp only[QaQ,Qag,Qah]at*;generalize hol:ov.map Qbh=ol at*;generalize hll:links.map QaB=ll at*;have hlo:Λ ol=ov.length:=by rw[Λo,←hol];simp
 have hls:Λ ll=links.length:=by rw[Λo,←hll];simp
 conv=>cbv
 repeat' first|refine Qay hw rfl rfl ?_ ?_|refine Qay (hn _) rfl rfl ?_ ?_|refine Qay (hld (by assumption) (by simp only[decide_eq_true_eq]at *;omega)) rfl rfl ?_ ?_|exact gu|exact trivial|refine And.intro ?_ ?_|(intro hc;first|exact absurd hc (by decide)|(exfalso;omega)|((first|rw[wS (by omega) (by omega)]at hc|rw[Qab]at hc|skip);try (conv=>cbv)))|refine CallG.old ?_
 all_goals try simp only[decide_eq_true_eq,decide_eq_false_iff_not]at*
 all_goals try (refine no fun h=> ?_;obtain⟨h1,h2,h3,h4,_⟩:=h;first|omega|(rw[h1]at hc;cases hc;done)|(rw[h4]at hc;cases hc;done)|(have:=‹ob=false›;rw[h4]at this;cases this;done))
 refine QaR to.length (fun(i:Int)=>[(2,.c (.ptr 0 0 0 0)),(3,.c (.ptr 1 0 0 0)),(35,.c (.d (.list false 3 el))),(36,iA (Λ el)),(37,iA i)]) (fun _=>[.bx [.d (.int .i64 nodes),.d (.list false 1 ol),.d (.list false 7 ll)],.bx [.d (.int .i64 node),.d (.list false 3 el),.d (.list false 1 dl)]]) (fun k i=>i=k/\k<=to.length/\∀(j:Nat) (e:Ety),j<k->to[j]? =some e->eb j e=true) 0 (Wk.cw) ⟨rfl,by omega,by simp⟩ (fun k s h=>h.2.1) ?_;rintro k i Q' ⟨hi,hk,hok⟩ norm ex rt;by_cases hlt:k<to.length
 ·obtain⟨x,hx⟩:∃x,to[k]? =some x:=⟨_,lgE hlt⟩;have hxa:=Qd1 elh hi hx;obtain⟨arcs,rep,push⟩:=x;have hpx:=hp ⟨arcs,rep,push⟩ i (by assumption) (by omega);simp only[QxR,Qaz,Qax,QaA]at hxa hpx;generalize List.map QaE arcs=al at*;generalize List.map Qaf push=pl at*
  conv=>cbv
  repeat' first|(refine ex _ _ _ ?_;(conv=>cbv))|(refine rt _ _ ?_;(conv=>cbv))|refine Qay hpx rfl rfl ?_ ?_|(intro e he;cases osj (he.symm.trans hxa);(conv=>cbv))|exact gu|exact trivial|refine And.intro ?_ ?_|(intro hc;first|exact absurd hc (by decide)|(exfalso;omega)|((first|rw[wS (by omega) (by omega)]at hc|rw[Qab]at hc|skip);try (conv=>cbv)))|refine CallG.old ?_
  ·refine norm _ _ _ ?_ (Wk.cw);refine⟨by omega,by omega,fun j e hj he=> ?_⟩;rcases Nat.lt_or_ge j k with h|h
   ·exact hok j e h he
   ·obtain rfl:j=k:=by omega
    rw[hx]at he;cases he;rw[←hi];assumption
  ·refine no fun h=> ?_
   have:=h.2.2.2.2 k _ hx;rw[←hi,hc]at this;cases this
 ·conv=>cbv
  repeat' first|(refine ex _ _ _ ?_;(conv=>cbv))|(refine rt _ _ ?_;(conv=>cbv))|exact gu|exact trivial|refine And.intro ?_ ?_|(intro hc;first|exact absurd hc (by decide)|(exfalso;omega)|((first|rw[wS (by omega) (by omega)]at hc|rw[Qab]at hc|skip);try (conv=>cbv)))|refine CallG.old ?_
  exact yes ⟨by assumption,by omega,by omega,by assumption,fun j e he=>hok j e (by have:=Qaa he;omega) he⟩
theorem Qgd(P:Program)(hP:P=Tryz.prog)(t:Top)(x:Tab):Ret P Qg1 [QaQ t,QlM x] (bA (Qh1 t x)):=by
  refine Qai (hP▸mixed) (hP▸Qk6) (hP▸Qmn) (nle rfl) fun Λ Λo K hK=> ?_
  have hw:=QfY P hP t;have hl:=fun l=>Qp4 P hP t x.node l
  have hg:=QyN P hP t;clear hP;have yes:(Qam t=true/\(0<=x.node/\x.node<t.nodes)/\(x.to.length:Int)=t.nodes/\Qna t x.node x.down=true/\∀(i:Nat) (e:Ety),x.to[i]? =some e->QsH t x.node i e=true)->K (bA true):=fun h=>by
    rw[Qcb.2 h]at hK;exact hK
  have no:¬(Qam t=true/\(0<=x.node/\x.node<t.nodes)/\(x.to.length:Int)=t.nodes/\Qna t x.node x.down=true/\∀(i:Nat) (e:Ety),x.to[i]? =some e->QsH t x.node i e=true)->K (bA false):=fun h=>by
    rw[show Qh1 t x=false from Bool.eq_false_iff.2 fun h'=>h (Qcb.1 h')]at hK;exact hK
  clear hK;obtain⟨node,to,down⟩:=x;have hld:=hl down;have hes:=fun d e=> @Qe8 t node d e
  simp only[QlM,Qd2,QaK,Qax,Qzk]at*;generalize Qna t node=ob at*;generalize QsH t node=eb at*;generalize Qam t=v at*;generalize Qsl t=sb at*;generalize elh:List.map Qaz to=el at*;have eln:Λ el=to.length:=by rw[Λo,←elh];simp
  generalize dlh:List.map QaE down=dl at*;have dln:Λ dl=down.length:=by rw[Λo,←dlh];simp
  obtain⟨nodes,ov,links⟩:=t;simp only[QaQ,Qag,Qah]at*;generalize hol:ov.map Qbh=ol at*;generalize hll:links.map QaB=ll at*;have hlo:Λ ol=ov.length:=by rw[Λo,←hol];simp
  have hls:Λ ll=links.length:=by rw[Λo,←hll];simp
  conv=>cbv
  repeat' first|refine Qay hw rfl rfl ?_ ?_|refine Qay hld rfl rfl ?_ ?_|exact gu|exact trivial|refine And.intro ?_ ?_|(intro hc;first|exact absurd hc (by decide)|(exfalso;omega)|((first|rw[wS (by omega) (by omega)]at hc|rw[Qab]at hc|skip);try (conv=>cbv)))|refine CallG.old ?_
  all_goals try (refine no fun h=> ?_;obtain⟨h1,h2,h3,h4,_⟩:=h;first|omega|(rw[h1]at hc;cases hc;done)|(rw[h4]at hc;cases hc;done))
  refine QaR to.length (fun(i:Int)=>[(2,.c (.ptr 0 0 0 0)),(3,.c (.ptr 1 0 0 0)),(5,iA i)]) (fun _=>[.bx [.d (.int .i64 nodes),.d (.list false 1 ol),.d (.list false 7 ll)],.bx [.d (.int .i64 node),.d (.list false 3 el),.d (.list false 1 dl)]]) (fun k i=>i=k/\k<=to.length/\∀(j:Nat) (e:Ety),j<k->to[j]? =some e->eb j e=true) 0 (Wk.cw) ⟨rfl,by omega,by simp⟩ (fun k s h=>h.2.1) ?_;rintro k i Q' ⟨hi,hk,hok⟩ norm exo rto;by_cases hlt:k<to.length
  · obtain⟨x,hx⟩:∃x,to[k]? =some x:=⟨_,lgE hlt⟩
    have hxa:=Qd1 elh hi hx;obtain⟨arcs,rep,push⟩:=x;have hlx:=hl arcs;have hesx:=hes i ⟨arcs,rep,push⟩;have bad:¬eb i ⟨arcs,rep,push⟩=true->K (bA false):=fun h=>no fun h'=>h (by rw[hi];exact h'.2.2.2.2 k _ hx)
    simp only[Qaz,Qax,QaA]at hxa hlx hesx;generalize alh:List.map QaE arcs=al at*;have aln:Λ al=arcs.length:=by rw[Λo,←alh];simp
    generalize plh:List.map Qaf push=pl at*;have pln:Λ pl=push.length:=by rw[Λo,←plh];simp
    cases rep
    all_goals
      conv=>cbv
      repeat' first|(refine rto _ _ ?_;(conv=>cbv))|refine Qay hlx rfl rfl ?_ ?_|(intro e he;cases osj (he.symm.trans hxa);(conv=>cbv))|exact gu|exact trivial|refine And.intro ?_ ?_|(intro hc;first|exact absurd hc (by decide)|(exfalso;omega)|((first|rw[wS (by omega) (by omega)]at hc|rw[Qab]at hc|skip);try (conv=>cbv)))|refine CallG.old ?_
    all_goals try (refine bad fun h=> ?_;obtain⟨h1,h2,h3,h4,_⟩:=hesx.1 h;first|omega|(have:=h3 rfl;omega)|(have:=h4 rfl;omega)|(rw[h1]at hc;cases hc;done))
    all_goals
      refine QaR push.length (fun(i':Int)=>[(2,.c (.ptr 0 0 0 0)),(3,.c (.ptr 1 0 0 0)),(5,iA i),(6,.c (.ptr 2 0 0 0)),(7,iA i')]) (fun _=>[.bx [.d (.int .i64 nodes),.d (.list false 1 ol),.d (.list false 7 ll)],.bx [.d (.int .i64 node),.d (.list false 3 el),.d (.list false 1 dl)],.bx [.d (.list false 1 al),.d (.bool _),.d (.list false 2 pl)]]) (fun k i=>i=k/\k<=push.length/\∀s∈push.take k,sb s=true) 0 (Wk.cw) ⟨rfl,by omega,by simp⟩ (fun k s h=>h.2.1) ?_
    all_goals
      rintro k2 i2 Q2 ⟨hi2,hk2,hok2⟩ norm2 ex rt;by_cases hlt2:k2<push.length
      · obtain⟨s,hs⟩:∃s,push[k2]? =some s:=⟨_,lgE hlt2⟩
        have hsa:=Qd1 plh hi2 hs;obtain⟨xk,xn⟩:=s;have hgx:=hg ⟨xk,xn⟩
        conv=>cbv
        repeat' first|(refine ex _ _ _ ?_;(conv=>cbv))|(refine rt _ _ ?_;(conv=>cbv))|(refine rto _ _ ?_;(conv=>cbv))|refine Qay hgx rfl rfl ?_ ?_|(intro e he;cases osj (he.symm.trans hsa);(conv=>cbv))|exact gu|exact trivial|refine And.intro ?_ ?_|(intro hc;first|exact absurd hc (by decide)|(exfalso;omega)|((first|rw[wS (by omega) (by omega)]at hc|rw[Qab]at hc|skip);try (conv=>cbv)))|refine CallG.old ?_
        all_goals first
          |(refine bad fun h=> ?_
            have:=(hesx.1 h).2.2.2.2 _ (mgE hs);rw[this,‹v=true›]at hc;cases hc;done)
          |(refine norm2 _ _ _ ?_ (Wk.cw)
            refine⟨by omega,by omega,fun s' hs'=> ?_⟩;rw[Qan hs]at hs';rcases List.mem_append.1 hs' with h|h
            · exact hok2 s' h
            · simp only[List.mem_singleton]at h;subst h
              have hvs:(v&&sb ⟨xk,xn⟩)=true:=by assumption
              simp only[Bool.and_eq_true]at hvs;exact hvs.2)
      · conv=>cbv
        repeat' first|(refine ex _ _ _ ?_;(conv=>cbv))|(refine rt _ _ ?_;(conv=>cbv))|exact gu|exact trivial|refine And.intro ?_ ?_|(intro hc;first|exact absurd hc (by decide)|(exfalso;omega)|((first|rw[wS (by omega) (by omega)]at hc|rw[Qab]at hc|skip);try (conv=>cbv)))|refine CallG.old ?_
        refine norm _ _ _ ?_ (Wk.cw);refine⟨by omega,by omega,fun j e hj he=> ?_⟩;rcases Nat.lt_or_ge j k with h|h
        · exact hok j e h he
        · obtain rfl:j=k:=by omega
          rw[hx]at he;cases he;rw[←hi];rw[List.take_of_length_le (by omega)]at hok2;exact hesx.2 ⟨by assumption,by omega,by first|(intro h;cases h;done)|(intro _;omega),by first|(intro h;cases h;done)|(intro _;omega),hok2⟩
  · conv=>cbv
    repeat' first|(refine exo _ _ _ ?_;(conv=>cbv))|exact gu|exact trivial|refine And.intro ?_ ?_|(intro hc;first|exact absurd hc (by decide)|(exfalso;omega)|((first|rw[wS (by omega) (by omega)]at hc|rw[Qab]at hc|skip);try (conv=>cbv)))|refine CallG.old ?_
    exact yes ⟨by assumption,by omega,by omega,by assumption,fun j e he=>hok j e (by have:=Qaa he;omega) he⟩
theorem Qmu(P:Program)(hP:P=Tryz.prog)(ll:List (List D))(hl:ll.length<=1000000):Ret P QaM [.c (.d (.list false 2 ll))] (.c (.d (.list false 2 ll))):=by
 refine Qai (hP▸mixed) (hP▸QbP) (hP▸QbU) (nle rfl) fun Λ Λo K hK=> ?_
 clear hP;have h0:ll=[]->K (.c (.d (.list false 2 []))):=fun h=>by rw[h]at hK;exact hK
 have lln:=Λo ll
 conv=>cbv
 repeat' first|exact gu|exact trivial|refine And.intro ?_ ?_|(intro hc;first|exact absurd hc (by decide)|(exfalso;omega)|((first|rw[wS (by omega) (by omega)]at hc|rw[Qab]at hc|skip);try (conv=>cbv)))|refine CallG.old ?_
 ·rename_i m r es hm hr hes ls;have:ls=ll:=by subst hc hes hm;simp
  rw[this];exact hK
 ·exact h0 hc
theorem Qn6(P:Program)(hP:P=Tryz.prog)(l:List Seg)(hl:l.length<=1000000):Ret P QaM [Qcz l] (Qcz l):=
 Qmu P hP _ (by rw[List.length_map];exact hl)
theorem QgM(P:Program)(hP:P=Tryz.prog)(ll:List (List D))(hl:ll.length<=1000000):Ret P QaG [.c (.d (.list false 1 ll))] (.c (.d (.list false 1 ll))):=by
 refine Qai (hP▸mixed) (hP▸Qbx) (hP▸QbE) (nle rfl) fun Λ Λo K hK=> ?_
 clear hP;have h0:ll=[]->K (.c (.d (.list false 1 []))):=fun h=>by rw[h]at hK;exact hK
 have lln:=Λo ll
 conv=>cbv
 repeat' first|exact gu|exact trivial|refine And.intro ?_ ?_|(intro hc;first|exact absurd hc (by decide)|(exfalso;omega)|((first|rw[wS (by omega) (by omega)]at hc|rw[Qab]at hc|skip);try (conv=>cbv)))|refine CallG.old ?_
 ·rename_i m r es hm hr hes ls;have:ls=ll:=by subst hc hes hm;simp
  rw[this];exact hK
 ·exact h0 hc
theorem Qn5(P:Program)(hP:P=Tryz.prog)(l:List Int)(hl:l.length<=1000000):Ret P QaG [QaK l] (QaK l):=
 QgM P hP _ (by rw[List.length_map];exact hl)
def QjL(l:List Seg):List D:=[QaA l]
theorem QxG{P:Program}{m:Nat}{L:Lv}{h:Hp}{f:Nat}{fn:Func}{af:AF}{xs:List X}{K:Lv->AV->Hp->Prop}(hm:P.follows .mixedOrders=true)(hf:P.funcs[f]? =some fn)(hc:QaC P fn=some af)(hl:(QiU L xs).length<=af.nt)
 (hv:∀Λ:Len,(∀l,Λ l=(l.length:Int))->vcH P Λ af (QiU L xs) h (K L)):CallS P m false L h f xs K:= .fn (QpG hm hf hc hl hv)
def Qc6(l:List (List Seg)):Nat:=(l.map List.length).sum
theorem Qkz{l:List (List Seg)}{k:Nat}{x:List Seg}(h:l[k]? =some x):Qc6 (l.take (k+1))=Qc6 (l.take k)+x.length:=by
 rw[Qan h];simp[Qc6]
theorem Qhm(l:List (List Seg))(k:Nat):Qc6 (l.take k)<=Qc6 l:=by
 have:Qc6 l=Qc6 (l.take k)+Qc6 (l.drop k):=by
  conv=>lhs;rw[←List.take_append_drop k l]
  simp[Qc6,-List.take_append_drop]
 omega
theorem Qvw(l:List (List Seg)):l.flatten.length=Qc6 l:=by simp[Qc6,List.length_flatten]
theorem Qmv(P:Program)(hP:P=Tryz.prog)(l:List (List Seg))(hl:Qc6 l<=1000000):Ret P QaZ [.c (.d (.list false 1 (l.map QjL)))] (Qcz l.flatten):=by
 refine Qai (hP▸mixed) (hP▸QbK) (hP▸QbN) (nle rfl) fun Λ Λo K hK=> ?_
 have gm:P.follows .mixedOrders=true:=hP▸mixed;have gf:=hP▸QbV;have gc:=hP▸QbY;clear hP;generalize llh:l.map QjL=ll at*;have lln:Λ ll=l.length:=by rw[Λo,←llh];simp
 conv=>cbv
 repeat' first|exact gu|exact trivial|refine And.intro ?_ ?_|(intro hc;first|exact absurd hc (by decide)|(exfalso;omega)|((first|rw[wS (by omega) (by omega)]at hc|rw[Qab]at hc|skip);try (conv=>cbv)))|refine CallG.old ?_
 refine QaR l.length (fun(s:Int×Int)=>[(0,.c (.d (.list false 1 ll))),(3,iA s.2),(9,.c (.d (.list false 1 ll))),(10,iA (Λ ll)),(11,iA s.1)]) (fun _=>[]) (fun k s=>s.1=k/\k<=l.length/\s.2=Qc6 (l.take k)) (0,0) (Wk.cw) ⟨rfl,by omega,by simp[Qc6]⟩ (fun k s h=>h.2.1) ?_;rintro k ⟨i,sz⟩ Q' ⟨hi,hk,hsz⟩ norm ex rt;simp only at hi hsz;have hle:=Qhm l k;by_cases hlt:k<l.length
 ·obtain⟨x,hx⟩:∃x,l[k]? =some x:=⟨_,lgE hlt⟩;have hxa:=Qd1 llh hi hx;have hst:=Qkz hx;have hle2:=Qhm l (k+1);simp only[QjL,QaA]at hxa;generalize xlh:List.map Qaf x=xl at*;have xln:Λ xl=x.length:=by rw[Λo,←xlh];simp
  conv=>cbv
  repeat' first|(refine ex _ _ _ ?_;(conv=>cbv))|(refine rt _ _ ?_;(conv=>cbv))|(intro e he;cases osj (he.symm.trans hxa);(conv=>cbv))|exact gu|exact trivial|refine And.intro ?_ ?_|(intro hc;first|exact absurd hc (by decide)|(exfalso;omega)|((first|rw[wS (by omega) (by omega)]at hc|rw[Qab]at hc|skip);try (conv=>cbv)))|refine CallG.old ?_
  refine norm _ _ (_,_) ?_ (Wk.cw);exact⟨by simp only;omega,by omega,by simp only;omega⟩
 ·conv=>cbv
  repeat' first|(refine ex _ _ _ ?_;(conv=>cbv))|(refine rt _ _ ?_;(conv=>cbv))|exact gu|exact trivial|refine And.intro ?_ ?_|(intro hc;first|exact absurd hc (by decide)|(exfalso;omega)|((first|rw[wS (by omega) (by omega)]at hc|rw[Qab]at hc|skip);try (conv=>cbv)))|refine CallG.old ?_
  clear norm ex rt;rw[List.take_of_length_le (by omega)]at hsz;refine QxG gm gf gc (nle rfl) fun Λ' Λo'=> ?_
  have hΛ0:Λ' []=0:=by rw[Λo'];rfl
  conv=>cbv
  repeat' first|exact gu|exact trivial|refine And.intro ?_ ?_|(intro hc;first|exact absurd hc (by decide)|(exfalso;omega)|((first|rw[wS (by omega) (by omega)]at hc|rw[Qab]at hc|skip);try (conv=>cbv)))|refine CallG.old ?_
  all_goals (clear gm gf gc)
  all_goals first
   |refine QaR l.length (fun(s:Int×Nat×Nat×Bool×List (List D))=>[(6,.c (.arr 0 s.2.1 0 s.2.2.1)),(25,.c (.d (.list false 1 ll))),(26,iA (Λ ll)),(27,iA s.1)]) (fun s=>[.da s.2.2.2.1 s.2.1 2 s.2.2.2.2]) (fun k s=>s.1=k/\k<=l.length/\s.2.2.1=Qc6 (l.take k)/\s.2.2.2.2.take s.2.2.1=(l.take k).flatten.map Qaf) (0,0,_,_,_) (Wk.cw) ⟨rfl,by omega,?_,?_⟩ (fun k s h=>h.2.1) ?_
   |refine QaR l.length (fun(s:Int×Nat×Nat×Bool×List (List D))=>[(6,.c (.arr 0 s.2.1 0 s.2.2.1)),(25,.c (.d (.list false 1 ll))),(26,iA (Λ ll)),(27,iA s.1)]) (fun s=>[.da s.2.2.2.1 s.2.1 2 s.2.2.2.2]) (fun k s=>s.1=k/\k<=l.length/\s.2.2.1=Qc6 (l.take k)/\s.2.2.2.2.take s.2.2.1=(l.take k).flatten.map Qaf) (0,0,0,false,[]) (.trans (.nilS 6 2 rfl) (Wk.cw)) ⟨rfl,by omega,rfl,rfl⟩ (fun k s h=>h.2.1) ?_
  ·rename_i n0 hn0;rw[show n0=0 by omega];rfl
  ·rename_i n0 hn0;rw[show n0=0 by omega];rfl
  all_goals clear hle hlt hi hk
  all_goals rintro k ⟨i,v,n,r,es⟩ Q' ⟨hi,hk,hn,hes⟩ norm ex rt
  all_goals simp only at hi hes hn
  all_goals have hle:=Qhm l k
  all_goals by_cases hlt:k<l.length
  case pos|pos=>
   obtain⟨x,hx⟩:∃x,l[k]? =some x:=⟨_,lgE hlt⟩;have hxa:=Qd1 llh hi hx;have hst:=Qkz hx;have hle2:=Qhm l (k+1);simp only[QjL,QaA]at hxa;generalize xlh:List.map Qaf x=xl at*;have xln:Λ xl=x.length:=by rw[Λo,←xlh];simp
   have xll:xl.length=x.length:=by rw[←xlh];simp
   conv=>cbv
   repeat' first|(refine ex _ _ _ ?_;(conv=>cbv))|(refine rt _ _ ?_;(conv=>cbv))|(intro e he;cases osj (he.symm.trans hxa);(conv=>cbv))|(intro(_:Unit);refine⟨rfl,?_⟩;rw[xll];omega)|exact gu|exact trivial|refine And.intro ?_ ?_|(intro hc;first|exact absurd hc (by decide)|(exfalso;omega)|((first|rw[wS (by omega) (by omega)]at hc|rw[Qab]at hc|skip);try (conv=>cbv)))|refine CallG.old ?_
   rename_i m r' es' hm hr he' _;refine norm _ _ (_,_,_,_,_) ?_ (Wk.cw);refine⟨by simp only;omega,by omega,by simp only;omega,?_⟩;simp only;rw[hm,he',Qan hx,List.drop_zero,xll,hes,←xlh];have:n=(List.map Qaf (List.take k l).flatten).length:=by rw[List.length_map,Qvw];exact hn
   rw[List.take_of_length_le (by simp only[List.length_append,List.length_map]at this ⊢;omega)];simp
  all_goals
   conv=>cbv
   repeat' first|(refine ex _ _ _ ?_;(conv=>cbv))|(refine rt _ _ ?_;(conv=>cbv))|exact gu|exact trivial|refine And.intro ?_ ?_|(intro hc;first|exact absurd hc (by decide)|(exfalso;omega)|((first|rw[wS (by omega) (by omega)]at hc|rw[Qab]at hc|skip);try (conv=>cbv)))|refine CallG.old ?_
   rename_i ls;have:ls=l.flatten.map Qaf:=by rw[hc,List.drop_zero,hes,List.take_of_length_le (by omega)]
   subst this;exact hK
theorem Qqs(P:Program)(hP:P=Tryz.prog)(p:Pkt)(l:List Seg)(hl:l.length<=1000000):Ret P Qf9 [Qbt p,Qcz l] (Qbt {p with stack:=l}):=by
 have hq:=Qn6 P hP l hl;refine Qai (hP▸mixed) (hP▸QjV) (hP▸QkU) (nle rfl) fun Λ Λo K hK=> ?_
 clear hP;obtain⟨id,src,dst,flow,stack,hops⟩:=p;simp only[Qcz,QaA,Qbt]at*;generalize llh:List.map Qaf l=ll at*;generalize slh:List.map Qaf stack=sl at*
 conv=>cbv
 repeat' first|(refine Qao hq rfl rfl ?_;conv=>cbv)|exact gu|exact trivial|refine And.intro ?_ ?_|(intro hc;first|exact absurd hc (by decide)|(exfalso;omega)|((first|rw[wS (by omega) (by omega)]at hc|rw[Qab]at hc|skip);try (conv=>cbv)))|refine CallG.old ?_
 exact hK
def Qst(arcs:List Int)(p:Pkt)(r:Int):AV:= .tup [QaK arcs,Qbt p,iA r]
theorem Qth(P:Program)(hP:P=Tryz.prog)(p:Pkt)(r:Int)(hl:p.stack.length<=1000000):Ret P Qf8 [Qbt p,iA r] (Qst [] p r):=by
 have hq:=Qqs P hP p p.stack hl;refine Qai (hP▸mixed) (hP▸QjU) (hP▸QkT) (nle rfl) fun Λ Λo K hK=> ?_
 clear hP;obtain⟨id,src,dst,flow,stack,hops⟩:=p;simp only[Qcz,QaA,Qbt,Qst,QaK,Qax,List.map_nil]at*;generalize slh:List.map Qaf stack=sl at*
 conv=>cbv
 repeat' first|(refine Qao hq rfl rfl ?_;conv=>cbv)|exact gu|exact trivial|refine And.intro ?_ ?_|(intro hc;first|exact absurd hc (by decide)|(exfalso;omega)|((first|rw[wS (by omega) (by omega)]at hc|rw[Qab]at hc|skip);try (conv=>cbv)))|refine CallG.old ?_
 exact hK
theorem Qm3(P:Program)(hP:P=Tryz.prog)(p:Pkt)(l:List Seg)(arcs:List Int)(hl:l.length<=1000000)(ha:arcs.length<=1000000)(h0: -1000<=p.hops)(h1:p.hops<=1000):Ret P Qfe [Qbt p,Qcz l,QaK arcs] (Qst arcs {p with stack:=l,hops:=p.hops+1} 0):=by
 have hq:=Qqs P hP p l hl;have hr:=Qn5 P hP arcs ha;refine Qai (hP▸mixed) (hP▸QiW) (hP▸Qjy) (nle rfl) fun Λ Λo K hK=> ?_
 clear hP;obtain⟨id,src,dst,flow,stack,hops⟩:=p;simp only[Qcz,QaA,Qbt,Qst,QaK,Qax]at*;generalize slh:List.map Qaf stack=sl at*;generalize llh:List.map Qaf l=ll at*;generalize alh:List.map QaE arcs=al at*
 conv=>cbv
 repeat' first|(refine Qao hq rfl rfl ?_;conv=>cbv)|(refine Qao hr rfl rfl ?_;conv=>cbv)|exact gu|exact trivial|refine And.intro ?_ ?_|(intro hc;first|exact absurd hc (by decide)|(exfalso;omega)|((first|rw[wS (by omega) (by omega)]at hc|rw[Qab]at hc|skip);try (conv=>cbv)))|refine CallG.old ?_
 all_goals (subst hc;exact hK)
def Qd8(p:Pkt)(l:List Seg)(arcs:List Int):List Int×Pkt×Int:=(arcs,{p with stack:=l,hops:=p.hops+1},0)
def Qda(p:Pkt)(l:List Seg)(e:Ety):List Int×Pkt×Int:=
 if e.rep=true then (if (e.push++l.drop 1).length>32 then ([],p,5)else Qd8 p (e.push++l.drop 1) e.arcs)else Qd8 p l e.arcs
abbrev Qgp (x:List Int×Pkt×Int):AV:=Qst x.1 x.2.1 x.2.2
theorem Qvl(P:Program)(hP:P=Tryz.prog)(p:Pkt)(l:List Seg)(e:Ety)(hl:l.length<=100000)(hs:p.stack.length<=1000000)(ha:e.arcs.length<=1000000)(hp:e.push.length<=100000)(h0: -1000<=p.hops)(h1:p.hops<=1000):
  Ret P Qfd [Qbt p,Qcz l,QxR e] (Qgp (Qda p l e)):=by
 obtain⟨arcs,rep,push⟩:=e;have hdrop:=Qth P hP p 5 hs;have hleave:=Qm3 P hP p l arcs (by omega) ha h0 h1;have hcat:=Qmv P hP [push,l.drop 1] (by simp[Qc6];simp only at hp;omega);have hleave2:=Qm3 P hP p (push++l.drop 1) arcs (by simp;simp only at hp;omega) ha h0 h1;refine Qai (hP▸mixed) (hP▸QiV) (hP▸Qjx) (nle rfl) fun Λ Λo K hK=> ?_
 clear hP;have k0:rep=false->K (Qgp (Qd8 p l arcs)):=by intro h;subst h;simpa [Qda]using hK
 have k1:rep=true->(push++l.drop 1).length>32->K (Qgp ([],p,5)):=by
  intro h h';subst h;simp only[Qda,if_true]at hK;rw[if_pos h']at hK;exact hK
 have k2:rep=true->¬(push++l.drop 1).length>32->K (Qgp (Qd8 p (push++l.drop 1) arcs)):=by
  intro h h';subst h;simp only[Qda,if_true]at hK;rw[if_neg h']at hK;exact hK
 clear hK;simp only at ha hp;obtain⟨id,src,dst,flow,stack,hops⟩:=p;simp only[Qcz,QaA,Qbt,Qst,QaK,Qax,QxR,Qgp,Qd8,List.map_nil,List.map_cons,QjL,List.flatten_cons,List.flatten_nil,List.append_nil]at*;have hcl:Λ (List.map Qaf (push++l.drop 1))=(push++l.drop 1).length:=by rw[Λo];simp
 generalize clh:push++l.drop 1=c at*;generalize cmh:List.map Qaf c=cm at*;generalize slh:List.map Qaf stack=sl at*;generalize plh:List.map Qaf push=pl at*;simp only[List.map_drop]at*;generalize llh:List.map Qaf l=ll at*;have lln:Λ ll=l.length:=by rw[Λo,←llh];simp
 generalize tlh:List.drop 1 ll=tl at*;generalize alh:List.map QaE arcs=al at*;cases rep
 all_goals (conv=>cbv)
 all_goals (repeat' first|(refine Qao hleave rfl rfl ?_;conv=>cbv)|(refine Qao hdrop rfl rfl ?_;conv=>cbv)|(refine Qao hleave2 rfl rfl ?_;conv=>cbv)|exact gu|exact trivial|refine And.intro ?_ ?_|(intro hc;first|exact absurd hc (by decide)|(exfalso;omega)|((first|rw[wS (by omega) (by omega)]at hc|rw[Qab]at hc|skip);try (conv=>cbv)))|refine CallG.old ?_)
 all_goals (try exact k0 rfl)
 ·rename_i tl';have e:tl'=tl:=hc.trans tlh;subst e
  (refine Qlm 3 0 1 2 rfl rfl (by repeat' first|exact trivial|refine And.intro ?_ ?_|rfl) (by repeat' first|exact trivial|refine And.intro ?_ ?_|rfl) ?_;conv=>cbv)
  (refine Qao hcat rfl rfl ?_;conv=>cbv)
  repeat' first|(refine Qao hleave2 rfl rfl ?_;conv=>cbv)|(refine Qao hdrop rfl rfl ?_;conv=>cbv)|exact gu|exact trivial|refine And.intro ?_ ?_|(intro hc;first|exact absurd hc (by decide)|(exfalso;omega)|((first|rw[wS (by omega) (by omega)]at hc|rw[Qab]at hc|skip);try (conv=>cbv)))|refine CallG.old ?_
  ·exact k1 rfl (by omega)
  ·exact k2 rfl (by omega)
 ·have e:tl=ll:=by
   rw[←tlh];have h0:ll.length=0:=by rw[Λo]at hc;omega
   rw[List.eq_nil_of_length_eq_zero h0];rfl
  subst e
  (refine Qlm 3 0 1 2 rfl rfl (by repeat' first|exact trivial|refine And.intro ?_ ?_|rfl) (by repeat' first|exact trivial|refine And.intro ?_ ?_|rfl) ?_;conv=>cbv)
  (refine Qao hcat rfl rfl ?_;conv=>cbv)
  repeat' first|(refine Qao hleave2 rfl rfl ?_;conv=>cbv)|(refine Qao hdrop rfl rfl ?_;conv=>cbv)|exact gu|exact trivial|refine And.intro ?_ ?_|(intro hc;first|exact absurd hc (by decide)|(exfalso;omega)|((first|rw[wS (by omega) (by omega)]at hc|rw[Qab]at hc|skip);try (conv=>cbv)))|refine CallG.old ?_
  ·exact k1 rfl (by omega)
  ·exact k2 rfl (by omega)
abbrev Ans:=List Int×Pkt×Int
def ent(x:Tab)(n:Int):Ety:=x.to.getD n.toNat default
def Qee(t:Top)(x:Tab)(p:Pkt):Ans:=
 if p.dst=x.node then ([],{p with stack:=[]},-1)
 else if p.hops<0\/255<=p.hops then ([],p,4)
 else if (0<=p.dst/\p.dst<t.nodes)/\0<(ent x p.dst).arcs.length then Qda p [] (ent x p.dst)else ([],p,1)
def Qfq(t:Top)(x:Tab)(p:Pkt):List Seg->Ans
 |[]=>Qee t x p
 |s::r=>
  if p.hops<0\/255<=p.hops then ([],p,4)
  else if s.kind=1 then (if (0<=s.num/\s.num<t.nodes)/\0<(ent x s.num).arcs.length then Qda p (s::r) (ent x s.num)else Qee t x p)
  else if s.kind=2 then (if (0<=s.num/\s.num<2*t.links.length)/\Qf3 t s.num=x.node then (if s.num∈x.down then Qee t x p else Qd8 p r [s.num])else ([],p,2))
  else ([],p,1)
def Qe3(n:Int)(l:List Seg):List Seg:=l.dropWhile fun s=>decide (s=⟨1,n⟩)
def QhY(t:Top)(x:Tab)(p:Pkt):Ans:=
 if Qh1 t x=true/\0<=p.dst/\p.dst<t.nodes then (if p.stack.length>32 then ([],p,5)else Qfq t x p (Qe3 x.node p.stack))else ([],p,1)
theorem Qyr{K:Ans->Prop}{t:Top}{x:Tab}{p:Pkt}(h:K (Qee t x p)):
  (p.dst=x.node->K ([],{p with stack:=[]},-1))/\(p.dst≠x.node->(p.hops<0\/255<=p.hops)->K ([],p,4))/\
  (p.dst≠x.node->¬(p.hops<0\/255<=p.hops)->(0<=p.dst/\p.dst<t.nodes)->0<(ent x p.dst).arcs.length->K (Qda p [] (ent x p.dst)))/\
  (p.dst≠x.node->¬(p.hops<0\/255<=p.hops)->¬((0<=p.dst/\p.dst<t.nodes)/\0<(ent x p.dst).arcs.length)->K ([],p,1)):=by
 unfold Qee at h;refine⟨fun h1=> ?_,fun h1 h2=> ?_,fun h1 h2 h3 h4=> ?_,fun h1 h2 h3=> ?_⟩
 ·rw[if_pos h1]at h;exact h
 ·rw[if_neg h1,if_pos h2]at h;exact h
 ·rw[if_neg h1,if_neg h2,if_pos ⟨h3,h4⟩]at h;exact h
 ·rw[if_neg h1,if_neg h2,if_neg h3]at h;exact h
theorem QyL{K:Ans->Prop}{t:Top}{x:Tab}{p:Pkt}{s:Seg}{r:List Seg}(h:K (Qfq t x p (s::r))):
  ((p.hops<0\/255<=p.hops)->K ([],p,4))/\
  (¬(p.hops<0\/255<=p.hops)->s.kind=1->(0<=s.num/\s.num<t.nodes)->0<(ent x s.num).arcs.length->K (Qda p (s::r) (ent x s.num)))/\
  (¬(p.hops<0\/255<=p.hops)->s.kind=1->¬((0<=s.num/\s.num<t.nodes)/\0<(ent x s.num).arcs.length)->K (Qee t x p))/\
  (¬(p.hops<0\/255<=p.hops)->s.kind=2->¬((0<=s.num/\s.num<2*t.links.length)/\Qf3 t s.num=x.node)->K ([],p,2))/\
  (¬(p.hops<0\/255<=p.hops)->s.kind=2->(0<=s.num/\s.num<2*t.links.length)->Qf3 t s.num=x.node->s.num∈x.down->K (Qee t x p))/\
  (¬(p.hops<0\/255<=p.hops)->s.kind=2->(0<=s.num/\s.num<2*t.links.length)->Qf3 t s.num=x.node->s.num∉x.down->K (Qd8 p r [s.num]))/\
  (¬(p.hops<0\/255<=p.hops)->s.kind≠1->s.kind≠2->K ([],p,1)):=by
 simp only[Qfq]at h;refine⟨fun h1=> ?_,fun h1 h2 h3 h4=> ?_,fun h1 h2 h3=> ?_,fun h1 h2 h3=> ?_,fun h1 h2 h3 h4 h5=> ?_,fun h1 h2 h3 h4 h5=> ?_,fun h1 h2 h3=> ?_⟩
 ·rw[if_pos h1]at h;exact h
 ·rw[if_neg h1,if_pos h2,if_pos ⟨h3,h4⟩]at h;exact h
 ·rw[if_neg h1,if_pos h2,if_neg h3]at h;exact h
 ·rw[if_neg h1,if_neg (by omega),if_pos h2,if_neg h3]at h;exact h
 ·rw[if_neg h1,if_neg (by omega),if_pos h2,if_pos ⟨h3,h4⟩,if_pos h5]at h;exact h
 ·rw[if_neg h1,if_neg (by omega),if_pos h2,if_pos ⟨h3,h4⟩,if_neg h5]at h;exact h
 ·rw[if_neg h1,if_neg h2,if_neg h3]at h;exact h
def Fit(x:Tab)(p:Pkt):Prop:=(∀e∈x.to,e.arcs.length<=1000/\e.push.length<=1000)/\p.stack.length<=1000
abbrev QoY (nodes:Int) (ol ll:List (List D)) (node:Int) (tl dl:List (List D)) (id src dst flow:Int) (sl:List (List D)) (hops:Int):Hp:=
  [.bx [.d (iD nodes),.d (.list false 1 ol),.d (.list false 7 ll)],.bx [.d (iD node),.d (.list false 3 tl),.d (.list false 1 dl)],
   .bx [.d (iD id),.d (iD src),.d (iD dst),.d (iD flow),.d (.list false 2 sl),.d (iD hops)],.bx [.d (iD 0),.d (iD 0),.d (iD 0),.d (iD 0),.d (.list true 2 []),.d (iD 0)]]
abbrev Quw (l:List (List D)):Lv:=[(3,.c (.ptr 0 0 0 0)),(4,.c (.ptr 1 0 0 0)),(5,.c (.ptr 2 0 0 0)),(6,.c (.d (.list true 1 []))),(7,.c (.ptr 3 0 0 0)),(8,iA 0),(9,.c (.d (.list false 2 l)))]
set_option maxHeartbeats 4000000 in
theorem QyV(P:Program)(hP:P=Tryz.prog)(t:Top)(x:Tab)(p:Pkt)(hf:Fit x p):Ret P QdT [QaQ t,QlM x,Qbt p] (Qgp (QhY t x p)):=by
 obtain⟨hf1,hf2⟩:=hf;have hval:=Qho P hP t x;have hnode:=fun n=>QgS P hP t n
 have harc:=fun n=>QpR P hP t n
 have htail:=fun n=>QmY P hP t n
 have hcont:=fun n=>Qpy P hP x.down n
 have hdrop:=fun r=>Qth P hP p r (by omega)
 have hwith:=Qqs P hP p [] (by simp);have hleave:=fun r n=>Qm3 P hP p r [n]
 have henter:=fun l e=>Qvl P hP p l e
 refine Qai (hP▸mixed) (hP▸QjT) (hP▸QkS) (nle rfl) fun Λ Λo K hK=> ?_
 clear hP;have k1:¬(Qh1 t x=true/\0<=p.dst/\p.dst<t.nodes)->K (Qgp ([],p,1)):=by
  intro h;unfold QhY at hK;rw[if_neg h]at hK;exact hK
 have k2:(Qh1 t x=true/\0<=p.dst/\p.dst<t.nodes)->p.stack.length>32->K (Qgp ([],p,5)):=by
  intro h h';unfold QhY at hK;rw[if_pos h,if_pos h']at hK;exact hK
 have k3:(Qh1 t x=true/\0<=p.dst/\p.dst<t.nodes)->¬p.stack.length>32->K (Qgp (Qfq t x p (Qe3 x.node p.stack))):=by
  intro h h';unfold QhY at hK;rw[if_pos h,if_neg h']at hK;exact hK
 clear hK;have hspec:= @Qcb t x;have hpk:= @Qyr (fun a=>K (Qgp a)) t x p;have hrk:= @QyL (fun a=>K (Qgp a)) t x p;have hskip:∀s r,s=⟨1,x.node⟩->Qe3 x.node (s::r)=Qe3 x.node r:=by intro s r h;subst h;simp[Qe3]
 have hskip':∀s r,s≠⟨1,x.node⟩->Qe3 x.node (s::r)=s::r:=by intro s r h;simp[Qe3,h]
 have hsn:Qe3 x.node []=[]:=rfl;generalize Qe3 x.node=sk at*;generalize hvb:Qh1 t x=vb at*;obtain⟨nodes,ov,links⟩:=t;obtain⟨node,to,down⟩:=x;obtain⟨id,src,dst,flow,stack,hops⟩:=p;generalize htg:Qf3 ⟨nodes,ov,links⟩=tg at*;generalize hrs:Qfq ⟨nodes,ov,links⟩ ⟨node,to,down⟩ ⟨id,src,dst,flow,stack,hops⟩=rs at*;simp only[QaQ,QlM,Qd2,Qag,Qah,Qcz,QaA,Qbt,Qgp,Qst,QaK,Qax,List.map_nil,List.map_cons,QaE]at*;generalize hol:ov.map Qbh=ol at*;generalize hll:links.map QaB=ll at*;generalize htl:to.map Qaz=tl at*;have tln:Λ tl=to.length:=by rw[Λo,←htl];simp
 generalize hdl:down.map QaE=dl at*;generalize slh:List.map Qaf stack=sl at*;have sln:Λ sl=stack.length:=by rw[Λo,←slh];simp
 conv=>cbv
 repeat' first|refine Qay hval rfl rfl ?_ ?_|refine Qay (hnode _) rfl rfl ?_ ?_|(refine Qao (hdrop _) rfl rfl ?_;conv=>cbv)|exact gu|exact trivial|refine And.intro ?_ ?_|(intro hc;first|exact absurd hc (by decide)|(exfalso;omega)|((first|rw[wS (by omega) (by omega)]at hc|rw[Qab]at hc|skip);try (conv=>cbv)))|refine CallG.old ?_
 all_goals try simp only[decide_eq_true_eq,decide_eq_false_iff_not]at*
 all_goals try (first|(refine k1 ?_;first|omega|simp_all;done)|(refine k2 ⟨by assumption,by omega,by omega⟩ (by omega)))
 rename_i hvt hd1 _;have hvt:vb=true:=by assumption
 have hd:0<=dst/\dst<nodes:=by assumption
 have kr:K (Qgp (rs (sk stack))):=k3 ⟨hvt,hd⟩ (by omega);have hto:(to.length:Int)=nodes:=(hspec.1 hvt).2.2.1;have hlk:(links.length:Int)<=256:=(Qau.1 (hspec.1 hvt).1).2.2.1;have hento:∀n:Int,0<=n->n<nodes->∃a r q,to[n.toNat]? =some ⟨a,r,q⟩/\ent ⟨node,to,down⟩ n=⟨a,r,q⟩/\a.length<=1000/\q.length<=1000:=by
  intro n h1 h2;have h3:to[n.toNat]? =some (to[n.toNat]'(by omega)):=lgE (by omega);have h4:=hf1 _ (List.getElem_mem (l:=to) (n:=n.toNat) (by omega));generalize to[n.toNat]'(by omega)=e at h3 h4;obtain⟨a,r,q⟩:=e;exact⟨a,r,q,h3,by simp[ent,List.getD,h3],h4⟩
 clear k1 k2 k3 hspec hvb hf1;refine Qbz stack.length (fun(s:List Seg)=>(10,.c (.ptr 4 0 0 0))::Quw (s.map Qaf)) (fun _=>QoY nodes ol ll node tl dl id src dst flow sl hops++[.bx [.d (iD 1),.d (iD node)]]) (fun k s=>s.length+k=stack.length/\sk s=sk stack) stack
  0 (fun(s:List Seg)=>Quw (s.map Qaf)) (fun _=>QoY nodes ol ll node tl dl id src dst flow sl hops) (fun s=>s.length<=1000/\K (Qgp (rs s))) (by rw[slh];exact Wk.cw) ⟨by omega,rfl⟩ (fun k s h=>by omega) ?_ ?_
 ·rintro k s Q' ⟨hk,hs⟩ norm jn ex rt;rw[←hs]at kr;have hj:∀L' h',sk s=s->Wk 0 L' h' (Quw (s.map Qaf)) (QoY nodes ol ll node tl dl id src dst flow sl hops)->Q' (.exit 0) L' h':=fun L' h' hw=>jn L' h' s ⟨by omega,by rw[hw]at kr;exact kr⟩
  generalize rlh:List.map Qaf s=rl at*;have rln:Λ rl=s.length:=by rw[Λo,←rlh];simp
  conv=>cbv
  repeat' first|(intro e he;obtain⟨⟨xk,xn⟩,hx,rfl⟩:=QaX rlh he;(conv=>cbv))|exact gu|exact trivial|refine And.intro ?_ ?_|(intro hc;first|exact absurd hc (by decide)|(exfalso;omega)|((first|rw[wS (by omega) (by omega)]at hc|rw[Qab]at hc|skip);try (conv=>cbv)))|refine CallG.old ?_
  ·rename_i hxe rl';cases s with
   |nil=>cases hx
   |cons s0 r=>
    cases hx;have e:rl'=r.map Qaf:=by rw[hc,←rlh];rfl
    subst e;refine norm _ _ r ?_ (Wk.cw);rw[hskip _ _ (by rw[hxe.1,hxe.2.1])]at hs;simp only[List.length_cons]at hk;exact⟨by omega,hs⟩
  all_goals refine hj _ _ ?_ (Wk.cw)
  ·cases s with
   |nil=>exact hsn
   |cons s0 r=>
    cases hx;refine hskip' _ _ fun h=>hc ?_
    injection h with h1 h2
    exact⟨h1,h2,trivial⟩
  ·cases s with
   |nil=>exact hsn
   |cons s0 r=>exfalso;simp only[List.length_cons]at rln;omega
 clear kr hskip hskip' hsn;rintro s ⟨hsl,kr⟩;generalize hsm:List.map Qaf s=sm
 conv=>cbv
 refine QaR 1 (fun(s:List Seg)=>Quw (s.map Qaf)) (fun _=>QoY nodes ol ll node tl dl id src dst flow sl hops) (fun k s=>k<=1/\(k=1->s=[])/\s.length<=1000/\K (Qgp (rs s))) s (by rw[hsm];exact Wk.cw) ⟨by omega,by omega,by omega,kr⟩ (fun k s h=>h.1) ?_;clear kr hsl hsm sm;rintro k s Q' ⟨hk,hks,hsl,kr⟩ norm ex rt;cases s with
 |nil=>
  obtain⟨f1,f2,f3,f4⟩:=hpk (by have:=kr;rw[←hrs]at this;exact this);obtain⟨ea,er,eq,hx,he,hb1,hb2⟩:=hento dst hd.1 hd.2;have hxa:tl[dst.toNat]? =some (Qaz ⟨ea,er,eq⟩):=by rw[←htl];simp[hx]
  have hen:=henter [] ⟨ea,er,eq⟩ (by simp) (Nat.le_trans hf2 (by decide)) (Nat.le_trans hb1 (by decide)) (Nat.le_trans hb2 (by decide));rw[he]at f3 f4;clear norm hrk hpk hento;generalize Qda ⟨id,src,dst,flow,stack,hops⟩ [] ⟨ea,er,eq⟩=en at*;obtain⟨na,⟨j1,j2,j3,j4,j5,j6⟩,nr⟩:=en;simp only[Qaz,QxR,Qax,QaA,List.map_nil]at hxa hen f1 f2 f3 f4 ⊢;generalize ealh:List.map QaE ea=eal at*;have ealn:Λ eal=ea.length:=by rw[Λo,←ealh];simp
  generalize eqlh:List.map Qaf eq=eql at*;have eqln:Λ eql=eq.length:=by rw[Λo,←eqlh];simp
  generalize List.map QaE na=nal at*;generalize List.map Qaf j5=jl at*;have hΛ0:Λ []=0:=by rw[Λo];rfl
  conv=>cbv
  repeat' first|(refine ex _ _ _ ?_;(conv=>cbv))|(refine rt _ _ ?_;(conv=>cbv))|(intro e he;cases osj (he.symm.trans hxa);(conv=>cbv))|(refine Qao hwith rfl rfl ?_;conv=>cbv)|(refine Qao (hdrop _) rfl rfl ?_;conv=>cbv)|refine Qay (hnode _) rfl rfl ?_ ?_|(refine Qao (hen (by omega) (by omega)) rfl rfl ?_;conv=>cbv)|exact gu|exact trivial|refine And.intro ?_ ?_|(intro hc;first|exact absurd hc (by decide)|(exfalso;omega)|((first|rw[wS (by omega) (by omega)]at hc|rw[Qab]at hc|skip);try (conv=>cbv)))|refine CallG.old ?_
  all_goals try simp only[decide_eq_true_eq,decide_eq_false_iff_not]at*
  all_goals first
   |(refine f1 ?_;assumption)
   |(refine f2 ?_ ?_;assumption;omega)
   |(refine f3 ?_ ?_ ?_ ?_;assumption;omega;omega;omega)
   |(refine f4 ?_ ?_ ?_;assumption;omega;omega)
 |cons s0 r=>
  obtain⟨s1,s2⟩:=s0;obtain rfl:k=0:=by
   rcases Nat.lt_or_ge k 1 with h|h
   ·omega
   ·exact absurd (hks (by omega)) (by simp)
  obtain⟨f1,f2,f3,f4,f5,f6,f7⟩:=hrk (s:=⟨s1,s2⟩) (r:=r) kr;have f3:¬(hops<0\/255<=hops)->s1=1->¬((0<=s2/\s2<nodes)/\0<(ent ⟨node,to,down⟩ s2).arcs.length)->K (Qgp (rs [])):=by rw[←hrs];exact f3
  have f5:¬(hops<0\/255<=hops)->s1=2->(0<=s2/\s2<2*links.length)->tg s2=node->s2∈down->K (Qgp (rs [])):=by rw[←hrs];exact f5
  simp only at f1 f2 f4 f6 f7;have hlv:=hleave r s2 (by simp only[List.length_cons]at hsl;omega) (by simp);have hnx:∀L' h',K (Qgp (rs []))->Wk 0 L' h' (Quw []) (QoY nodes ol ll node tl dl id src dst flow sl hops)->Q' .normal L' h':=fun L' h' hK hw=>norm L' h' [] ⟨by omega,fun _=>rfl,by simp,hK⟩ hw
  generalize hrlh:List.map Qaf (⟨s1,s2⟩::r)=rl at*;have rln:Λ rl=r.length+1:=by rw[Λo,←hrlh];simp
  have rl0:rl[(0:Int).toNat]? =some [iD s1,iD s2]:=by rw[←hrlh];rfl
  have rl1:List.drop 1 rl=r.map Qaf:=by rw[←hrlh];rfl
  by_cases hs2:0<=s2/\s2<nodes
  ·obtain⟨ea,er,eq,hx,he,hb1,hb2⟩:=hento s2 hs2.1 hs2.2;have hxa:tl[s2.toNat]? =some (Qaz ⟨ea,er,eq⟩):=by rw[←htl];simp[hx]
   have hen:=henter (⟨s1,s2⟩::r) ⟨ea,er,eq⟩ (by omega) (Nat.le_trans hf2 (by decide)) (Nat.le_trans hb1 (by decide)) (Nat.le_trans hb2 (by decide));rw[he]at f2 f3;generalize Qda ⟨id,src,dst,flow,stack,hops⟩ (⟨s1,s2⟩::r) ⟨ea,er,eq⟩=en at*;obtain⟨na,⟨j1,j2,j3,j4,j5,j6⟩,nr⟩:=en;simp only[hrlh]at hen;simp only[Qaz,QxR,Qd8,Qax,QaA,List.map_nil,List.map_cons,QaE]at hxa hen f1 f2 f3 f4 f5 f6 f7 hlv ⊢;generalize List.map Qaf r=rr at*;generalize ealh:List.map QaE ea=eal at*;have ealn:Λ eal=ea.length:=by rw[Λo,←ealh];simp
   generalize eqlh:List.map Qaf eq=eql at*;have eqln:Λ eql=eq.length:=by rw[Λo,←eqlh];simp
   generalize List.map QaE na=nal at*;generalize List.map Qaf j5=jl at*;clear hpk hento kr norm henter hleave
   conv=>cbv
   repeat' first|(refine ex _ _ _ ?_;(conv=>cbv))|(refine rt _ _ ?_;(conv=>cbv))|(intro e he;cases osj (he.symm.trans hxa);(conv=>cbv))|(intro e he;cases osj (he.symm.trans rl0);(conv=>cbv))|(intro x hx;have e:=hx.trans rl1;subst e;(conv=>cbv))|(refine Qao (hdrop _) rfl rfl ?_;conv=>cbv)|refine Qay (hnode _) rfl rfl ?_ ?_|refine Qay (harc _ hlk) rfl rfl ?_ ?_|refine QcY (htail _ (by simp only[decide_eq_true_eq]at *;omega) (by simp only[decide_eq_true_eq]at *;omega) hlk) rfl rfl ?_|refine Qay (hcont _) rfl rfl ?_ ?_|(refine Qao (hen (by omega) (by omega)) rfl rfl ?_;conv=>cbv)|(refine Qlm 4 0 1 1 rfl rfl (by repeat' first|exact trivial|refine And.intro ?_ ?_|rfl) (by repeat' first|exact trivial|refine And.intro ?_ ?_|rfl) ?_;conv=>cbv)|(refine Qao (hlv (by omega) (by omega)) rfl rfl ?_;conv=>cbv)|exact gu|exact trivial|refine And.intro ?_ ?_|(intro hc;first|exact absurd hc (by decide)|(exfalso;omega)|((first|rw[wS (by omega) (by omega)]at hc|rw[Qab]at hc|skip);try (conv=>cbv)))|refine CallG.old ?_
   all_goals try simp only[decide_eq_true_eq,decide_eq_false_iff_not]at*
   all_goals try subst hc
   all_goals first
    |(refine f1 ?_;omega)
    |(refine f2 ?_ ?_ ?_ ?_;omega;omega;omega;omega)
    |(refine f4 ?_ ?_ ?_;omega;omega;omega)
    |(refine f6 ?_ ?_ ?_ ?_ ?_;omega;omega;omega;omega;assumption)
    |(refine f7 ?_ ?_ ?_;omega;omega;omega)
    |(refine hnx _ _ ?_ (.trans (.fg 9) (Wk.cw));first|(refine f3 ?_ ?_ ?_;omega;omega;omega;done)|(refine f5 ?_ ?_ ?_ ?_ ?_;omega;omega;omega;omega;assumption;done))
    |trace_state
  ·simp only[Qd8,List.map_nil,List.map_cons,QaE]at f1 f4 f5 f6 f7 hlv ⊢;generalize List.map Qaf r=rr at*;clear hpk hento kr norm henter hleave f2
   conv=>cbv
   repeat' first|(refine ex _ _ _ ?_;(conv=>cbv))|(refine rt _ _ ?_;(conv=>cbv))|(intro e he;cases osj (he.symm.trans rl0);(conv=>cbv))|(intro x hx;have e:=hx.trans rl1;subst e;(conv=>cbv))|(refine Qao (hdrop _) rfl rfl ?_;conv=>cbv)|refine Qay (hnode _) rfl rfl ?_ ?_|refine Qay (harc _ hlk) rfl rfl ?_ ?_|refine QcY (htail _ (by simp only[decide_eq_true_eq]at *;omega) (by simp only[decide_eq_true_eq]at *;omega) hlk) rfl rfl ?_|refine Qay (hcont _) rfl rfl ?_ ?_|(refine Qlm 4 0 1 1 rfl rfl (by repeat' first|exact trivial|refine And.intro ?_ ?_|rfl) (by repeat' first|exact trivial|refine And.intro ?_ ?_|rfl) ?_;conv=>cbv)|(refine Qao (hlv (by omega) (by omega)) rfl rfl ?_;conv=>cbv)|(intro hc;exact absurd (of_decide_eq_true hc) hs2)|exact gu|exact trivial|refine And.intro ?_ ?_|(intro hc;first|exact absurd hc (by decide)|(exfalso;omega)|((first|rw[wS (by omega) (by omega)]at hc|rw[Qab]at hc|skip);try (conv=>cbv)))|refine CallG.old ?_
   all_goals try simp only[decide_eq_true_eq,decide_eq_false_iff_not]at*
   all_goals try subst hc
   all_goals first
    |(refine f1 ?_;omega)
    |(refine f4 ?_ ?_ ?_;omega;omega;omega)
    |(refine f6 ?_ ?_ ?_ ?_ ?_;omega;omega;omega;omega;assumption)
    |(refine f7 ?_ ?_ ?_;omega;omega;omega)
    |(refine hnx _ _ ?_ (.trans (.fg 9) (Wk.cw));first|(refine f3 ?_ ?_ ?_;omega;omega;omega;done)|(refine f5 ?_ ?_ ?_ ?_ ?_;omega;omega;omega;omega;assumption;done))
    |trace_state
theorem Qs8(P:Program)(hP:P=Tryz.prog)(t:Top)(a:Int):Ret P Qib [QaQ t,iA a] (iA (Qcu t a)):=by
 refine Qai (hP▸mixed) (hP▸QmK) (hP▸QnS) (nle rfl) fun Λ Λo K hK=> ?_
 have hw:=Qhw P hP t;clear hP;have leaf:∀b,Qcu t a=b->K (iA b):=fun b hb=>by rw[←hb];exact hK
 have hv2:=QdF t;have hta:Qcu t a=if 0<=a/\a<Qbn t then (if a%2=0 then (Qe4 t a).c0 else (Qe4 t a).c1)else -1:=rfl
 have hat:∀x,t.links[(a/2).toNat]? =some x->Qe4 t a=x:=fun x hx=>by simp[Qe4,hx]
 generalize Qbn t=v at*;obtain⟨nodes,ov,links⟩:=t;simp only[QaQ,Qag,Qah]at*;generalize hol:ov.map Qbh=ol at*;generalize hll:links.map QaB=ll at*;have hlo:Λ ol=ov.length:=by rw[Λo,←hol];simp
 have hls:Λ ll=links.length:=by rw[Λo,←hll];simp
 conv=>cbv
 repeat' first|refine QcY hw rfl rfl ?_|(intro hc;rw[QwB (by omega) (by omega)]at hc;conv=>cbv)|(intro hc;rw[QwF (by omega)]at hc;conv=>cbv)|(intro(_:Unit);decide)|(intro e he;obtain⟨⟨xa,xb,xc,xd,xe,xf,xg⟩,hx,rfl⟩:=QaX hll he;(conv=>cbv))|exact gu|exact trivial|refine And.intro ?_ ?_|(intro hc;first|exact absurd hc (by decide)|(exfalso;omega)|((first|rw[wS (by omega) (by omega)]at hc|rw[Qab]at hc|skip);try (conv=>cbv)))|refine CallG.old ?_
 ·exact leaf _ (by rw[hta,if_neg (by omega)])
 ·exact leaf _ (by rw[hta,if_neg (by omega)])
 all_goals
  refine leaf _ ?_;rw[hta,if_pos (by omega),hat _ (Qdp hx (by omega))]
 ·rw[if_pos (by omega)]
 ·rw[if_neg (by omega)]
abbrev Qbu (l:List Bool):AV:= .c (.d (Qag l))
def ovT(t:Top)(n:Int):Bool:=Qam t&&decide (0<=n/\n<t.ov.length)&&t.ov.getD n.toNat false
theorem Qnb(P:Program)(hP:P=Tryz.prog)(t:Top)(n:Int):Ret P QdJ [QaQ t,iA n] (bA (ovT t n)):=by
 refine Qai (hP▸mixed) (hP▸Qgx) (hP▸QgK) (nle rfl) fun Λ Λo K hK=> ?_
 have hw:=QfY P hP t;clear hP;have leaf:∀b,ovT t n=b->K (bA b):=fun b hb=>by rw[←hb];exact hK
 have hta:ovT t n=(Qam t&&decide (0<=n/\n<t.ov.length)&&t.ov.getD n.toNat false):=rfl;generalize ovT t n=r at*;generalize Qam t=v at*;obtain⟨nodes,ov,links⟩:=t;simp only[QaQ,Qag,Qah]at*;generalize hol:ov.map Qbh=ol at*;generalize hll:links.map QaB=ll at*;have hlo:Λ ol=ov.length:=by rw[Λo,←hol];simp
 have hls:Λ ll=links.length:=by rw[Λo,←hll];simp
 conv=>cbv
 repeat' first|refine Qay hw rfl rfl ?_ ?_|(intro e he;obtain⟨x,hx,rfl⟩:=QaX hol he;(conv=>cbv))|exact gu|exact trivial|refine And.intro ?_ ?_|(intro hc;first|exact absurd hc (by decide)|(exfalso;omega)|((first|rw[wS (by omega) (by omega)]at hc|rw[Qab]at hc|skip);try (conv=>cbv)))|refine CallG.old ?_
 ·refine leaf _ (hta.trans ?_);rw[‹v=true›,decide_eq_true (by omega)];simp[hx]
 ·refine leaf _ (hta.trans ?_);rw[decide_eq_false (by omega)];simp
 ·refine leaf _ (hta.trans ?_);rw[decide_eq_false (by omega)];simp
 ·refine leaf _ (hta.trans ?_);rw[hc];simp
def upB(down:List Bool)(a:Int):Bool:=decide (down.length=0)|| !down.getD a.toNat false
theorem Qy8(P:Program)(hP:P=Tryz.prog)(down:List Bool)(a:Int)(h:down.length=0\/(0<=a/\a<down.length)):Ret P Qly [Qbu down,iA a] (bA (upB down a)):=by
 refine Qai (hP▸mixed) (hP▸QpI) (hP▸QrG) (nle rfl) fun Λ Λo K hK=> ?_
 clear hP;have leaf:∀b,upB down a=b->K (bA b):=fun b hb=>by rw[←hb];exact hK
 have hta:upB down a=(decide (down.length=0)|| !down.getD a.toNat false):=rfl;generalize upB down a=r at*;simp only[Qbu,Qag]at*;generalize hdl:down.map Qbh=dl at*;have hdn:Λ dl=down.length:=by rw[Λo,←hdl];simp
 conv=>cbv
 repeat' first|(intro e he;obtain⟨x,hx,rfl⟩:=QaX hdl he;(conv=>cbv))|exact gu|exact trivial|refine And.intro ?_ ?_|(intro hc;first|exact absurd hc (by decide)|(exfalso;omega)|((first|rw[wS (by omega) (by omega)]at hc|rw[Qab]at hc|skip);try (conv=>cbv)))|refine CallG.old ?_
 ·refine leaf _ (hta.trans ?_);rw[decide_eq_true (by omega)];simp
 ·have e:r= !x:=by
   rw[hta,decide_eq_false (by omega)];simp[hx]
  cases x
  ·conv=>cbv
   exact leaf _ e
  ·conv=>cbv
   exact leaf _ e
def QcL(t:Top)(down:List Bool):Bool:=Qam t&&(decide (down.length=0)||decide (down.length=2*t.links.length))
theorem QpE(P:Program)(hP:P=Tryz.prog)(t:Top)(down:List Bool):Ret P Qie [QaQ t,Qbu down] (bA (QcL t down)):=by
 refine Qai (hP▸mixed) (hP▸QmO) (hP▸QnW) (nle rfl) fun Λ Λo K hK=> ?_
 have hw:=QfY P hP t;clear hP;have h256:Qam t=true->(t.links.length:Int)<=256:=fun h=>(Qau.1 h).2.2.1
 have leaf:∀b,QcL t down=b->K (bA b):=fun b hb=>by rw[←hb];exact hK
 have hta:QcL t down=(Qam t&&(decide (down.length=0)||decide (down.length=2*t.links.length))):=rfl;generalize QcL t down=r at*;generalize Qam t=v at*;simp only[Qbu,Qag]at*;generalize hdl:down.map Qbh=dl at*;have hdn:Λ dl=down.length:=by rw[Λo,←hdl];simp
 obtain⟨nodes,ov,links⟩:=t;simp only[QaQ,Qag,Qah]at*;generalize hol:ov.map Qbh=ol at*;generalize hll:links.map QaB=ll at*;have hlo:Λ ol=ov.length:=by rw[Λo,←hol];simp
 have hls:Λ ll=links.length:=by rw[Λo,←hll];simp
 cases v
 all_goals (try simp only[forall_const]at h256)
 all_goals (conv=>cbv)
 all_goals (repeat' first|refine Qay hw rfl rfl ?_ ?_|(intro hc;cases hc;done)|exact gu|exact trivial|refine And.intro ?_ ?_|(intro hc;first|exact absurd hc (by decide)|(exfalso;omega)|((first|rw[wS (by omega) (by omega)]at hc|rw[Qab]at hc|skip);try (conv=>cbv)))|refine CallG.old ?_)
 ·exact leaf _ (hta.trans (by simp))
 all_goals (refine leaf _ (hta.trans ?_);first|(rw[decide_eq_true (p:=down.length=0) (by omega)];simp;done)|(rw[decide_eq_true (p:=down.length=2*links.length) (by omega)];simp;done)|(rw[decide_eq_false (p:=down.length=0) (by omega),decide_eq_false (p:=down.length=2*links.length) (by omega)];simp;done))
def QcU(t:Top)(n e:Int):Bool:=decide (n=e)|| !ovT t n
theorem QlO(P:Program)(hP:P=Tryz.prog)(t:Top)(n e:Int):Ret P Qfh [QaQ t,iA n,iA e] (bA (QcU t n e)):=by
 refine Qai (hP▸mixed) (hP▸QiY) (hP▸QjA) (nle rfl) fun Λ Λo K hK=> ?_
 have hw:=Qnb P hP t n;clear hP;have leaf:∀b,QcU t n e=b->K (bA b):=fun b hb=>by rw[←hb];exact hK
 have hta:QcU t n e=(decide (n=e)|| !ovT t n):=rfl;generalize QcU t n e=r at*;generalize ovT t n=v at*;obtain⟨nodes,ov,links⟩:=t;simp only[QaQ,Qag,Qah]at*;generalize hol:ov.map Qbh=ol at*;generalize hll:links.map QaB=ll at*;have hlo:Λ ol=ov.length:=by rw[Λo,←hol];simp
 have hls:Λ ll=links.length:=by rw[Λo,←hll];simp
 conv=>cbv
 repeat' first|refine Qay hw rfl rfl ?_ ?_|exact gu|exact trivial|refine And.intro ?_ ?_|(intro hc;first|exact absurd hc (by decide)|(exfalso;omega)|((first|rw[wS (by omega) (by omega)]at hc|rw[Qab]at hc|skip);try (conv=>cbv)))|refine CallG.old ?_
 all_goals (refine leaf _ ?_;simp_all)
def Qbo(k:Nat):List Int:=(List.range k).map fun(k:Nat)=>(k:Int)
def Qrd(t:Top)(n:Int):List Int:=(Qbo (Qbn t).toNat).filter fun a=>decide (Qbd t a=n)
theorem QcH(k:Nat):Qbo (k+1)=Qbo k++[(k:Int)]:=by simp[Qbo,List.range_succ]
theorem QAm(P:Program)(hP:P=Tryz.prog)(t:Top)(n:Int):Ret P Qki [QaQ t,iA n] (QaK (Qrd t n)):=by
 refine Qai (hP▸mixed) (hP▸Qom) (hP▸Qpt) (nle rfl) fun Λ Λo K hK=> ?_
 have hw:=Qhw P hP t;have ht:=QgD P hP t;clear hP;have hv2:=QdF t;have ho:Qrd t n=(Qbo (Qbn t).toNat).filter fun a=>decide (Qbd t a=n):=rfl
 rw[ho]at hK;clear ho;generalize hf:Qbd t=f at*;generalize Qbn t=v at*;obtain⟨nodes,ov,links⟩:=t;simp only[QaQ,Qag,Qah]at*;generalize hol:ov.map Qbh=ol at*;generalize hll:links.map QaB=ll at*;have hlo:Λ ol=ov.length:=by rw[Λo,←hol];simp
 have hls:Λ ll=links.length:=by rw[Λo,←hll];simp
 simp only[QaK,Qax]at hK
 conv=>cbv
 repeat' first|exact gu|exact trivial|refine And.intro ?_ ?_|(intro hc;first|exact absurd hc (by decide)|(exfalso;omega)|((first|rw[wS (by omega) (by omega)]at hc|rw[Qab]at hc|skip);try (conv=>cbv)))|refine CallG.old ?_
 refine QaR v.toNat (fun(s:Int×Nat×Nat×Bool×List (List D))=>[(1,iA n),(2,.c (.ptr 0 0 0 0)),(5,.c (.arr 1 s.2.1 0 s.2.2.1)),(6,iA s.1)]) (fun s=>[.bx [.d (.int .i64 nodes),.d (.list false 1 ol),.d (.list false 7 ll)],.da s.2.2.2.1 s.2.1 1 s.2.2.2.2])
  (fun k s=>s.1=k/\k<=v.toNat/\s.2.2.1=s.2.2.2.2.length/\s.2.2.2.2=(((Qbo k).filter fun a=>decide (f a=n)).map QaE)) (0,0,0,false,[]) (.trans (.nilS 5 1 rfl) (Wk.cw)) ⟨rfl,by omega,rfl,rfl⟩ (fun k s h=>h.2.1) ?_
 rintro k ⟨i,ve,m,r,es⟩ Q' ⟨hi,hk,hm,hes⟩ norm ex rt;simp only at hi hm hes;have hesl:es.length<=k:=by
  rw[hes,List.length_map];refine Nat.le_trans (List.length_filter_le _ _) ?_;simp[Qbo]
 conv=>cbv
 repeat' first|(refine ex _ _ _ ?_;(conv=>cbv))|(refine rt _ _ ?_;(conv=>cbv))|refine QcY hw rfl rfl ?_|refine QcY (ht _) rfl rfl ?_|(intro(_:Unit);refine⟨rfl,?_⟩;simp only[List.length_cons,List.length_nil];omega)|exact gu|exact trivial|refine And.intro ?_ ?_|(intro hc;first|exact absurd hc (by decide)|(exfalso;omega)|((first|rw[wS (by omega) (by omega)]at hc|rw[Qab]at hc|skip);try (conv=>cbv)))|refine CallG.old ?_
 ·rename_i hfi hn m' r' es' hm' hr' he' i';refine norm _ _ (_,_,_,_,_) ?_ (Wk.cw);have e:es'=((Qbo (k+1)).filter fun a=>decide (f a=n)).map QaE:=by
   rw[he',List.drop_zero,hm,List.take_length,hes,QcH,List.filter_append,List.map_append];rw[←hi,List.filter_cons_of_pos (by simp only[decide_eq_true_eq];omega)];rfl
  exact⟨by simp only;omega,by omega,by simp only;rw[hm',he',List.drop_zero,hm,List.take_length];simp,e⟩
 ·rename_i hfi hn i';refine norm _ _ (_,_,_,_,_) ?_ (Wk.cw);have e:es=((Qbo (k+1)).filter fun a=>decide (f a=n)).map QaE:=by
   rw[hes,QcH,List.filter_append,List.map_append];rw[←hi,List.filter_cons_of_neg (by simp only[decide_eq_true_eq];omega)];simp
  exact⟨by simp only;omega,by omega,hm,e⟩
 ·rename_i ls;have e:ls=((Qbo v.toNat).filter fun a=>decide (f a=n)).map QaE:=by
   rw[hc,List.drop_zero,hm,List.take_length,hes,show k=v.toNat by omega]
  subst e;exact hK
def xOf(t:Top)(fr:Bool)(a:Int):Int:=if fr then Qcy t a else Qbd t a
def yOf(t:Top)(fr:Bool)(a:Int):Int:=if fr then Qbd t a else Qcy t a
def Qg5(t:Top)(down:List Bool)(e:Int)(fr:Bool)(a:Int):Bool:=upB down a&&QcU t (yOf t fr a) e
abbrev gt (D:List Int) (i:Int):Int:=D.getD i.toNat (-1)
def QpF(t:Top)(down:List Bool)(e:Int)(fr:Bool)(D:List Int)(a:Int):Prop:=
 Qg5 t down e fr a=true->0<=gt D (yOf t fr a)->0<=gt D (xOf t fr a)/\gt D (xOf t fr a)<=gt D (yOf t fr a)+Qcu t a
structure IsDist (t:Top) (down:List Bool) (e:Int) (fr:Bool) (D:List Int):Prop where
 len:(D.length:Int)=t.nodes
 zero:gt D e=0
 lo:∀i,0<=i->i<t.nodes-> -1<=gt D i
 fix:∀a:Int,0<=a->a<2*t.links.length->QpF t down e fr D a
 tight:∀x,0<=x->x<t.nodes->x≠e->0<=gt D x->∃a:Int,0<=a/\a<2*t.links.length/\Qg5 t down e fr a=true/\xOf t fr a=x/\0<=gt D (yOf t fr a)/\gt D x=gt D (yOf t fr a)+Qcu t a
theorem QdY{t:Top}(hv:Qam t=true){a:Int}(h0:0<=a)(h1:a<2*t.links.length):
  (0<=Qbd t a/\Qbd t a<t.nodes)/\(0<=Qcy t a/\Qcy t a<t.nodes)/\Qbd t a≠Qcy t a/\1<=Qcu t a/\Qcu t a<=65535:=by
 have ha:Qbn t=2*t.links.length:=by rw[Qbn,if_pos hv]
 have hx:t.links[(a/2).toNat]? =some (t.links[(a/2).toNat]'(by omega)):=lgE (by omega);have hk:=Qed.1 ((Qau.1 hv).2.2.2 _ (List.getElem_mem (l:=t.links) (n:=(a/2).toNat) (by omega)));have hl:Qe4 t a=t.links[(a/2).toNat]'(by omega):=by rw[Qe4,hx];rfl
 rw[←hl]at hk;have hin:0<=a/\a<Qbn t:=by omega
 simp only[Qbd,Qcy,Qcu,if_pos hin];by_cases h:a%2=0
 ·simp only[if_pos h];omega
 ·simp only[if_neg h];omega
theorem QfZ{t:Top}(hv:Qam t=true)(fr:Bool){a:Int}(h0:0<=a)(h1:a<2*t.links.length):
  (0<=xOf t fr a/\xOf t fr a<t.nodes)/\(0<=yOf t fr a/\yOf t fr a<t.nodes)/\xOf t fr a≠yOf t fr a:=by
 have:=QdY hv h0 h1;cases fr
 ·simp only[xOf,yOf,Bool.false_eq_true,if_false];exact⟨this.1,this.2.1,this.2.2.1⟩
 ·simp only[xOf,yOf,if_true];exact⟨this.2.1,this.1,fun h=>this.2.2.1 h.symm⟩
theorem QpA{t:Top}(hv:Qam t=true){down:List Bool}{e:Int}{fr:Bool}{D D':List Int}(h:IsDist t down e fr D)(h':IsDist t down e fr D'):∀(n:Nat) (x:Int),0<=x->x<t.nodes->gt D x=n->0<=gt D' x/\gt D' x<=n:=by
 intro n;induction n using Nat.strongRecOn with
 |_ n ih=>
  intro x h0 h1 hx;by_cases hxe:x=e
  ·subst hxe;rw[h'.zero];omega
  ·obtain⟨a,a0,a1,ha,hxa,hy,hd⟩:=h.tight x h0 h1 hxe (by omega);have hf:=QfZ hv fr a0 a1;have hc:=QdY hv a0 a1;obtain⟨i0,i1⟩:=ih (gt D (yOf t fr a)).toNat (by omega) (yOf t fr a) hf.2.1.1 hf.2.1.2 (by omega);obtain⟨j0,j1⟩:=h'.fix a a0 a1 ha i0;rw[hxa]at j0 j1;exact⟨j0,by omega⟩
theorem QpB{t:Top}(hv:Qam t=true){down:List Bool}{e:Int}{fr:Bool}{D D':List Int}(h:IsDist t down e fr D)(h':IsDist t down e fr D'):D=D':=by
 have hl:=h.len;have hl':=h'.len;have key:∀x:Int,0<=x->x<t.nodes->gt D x=gt D' x:=by
  intro x h0 h1;have l1:=h.lo x h0 h1;have l2:=h'.lo x h0 h1;by_cases c:0<=gt D x
  ·have e1:=QpA hv h h' (gt D x).toNat x h0 h1 (by omega);have e2:=QpA hv h' h (gt D' x).toNat x h0 h1 (by omega);omega
  ·by_cases c':0<=gt D' x
   ·have e2:=QpA hv h' h (gt D' x).toNat x h0 h1 (by omega);omega
   ·omega
 apply List.ext_getElem?;intro i;rcases Nat.lt_or_ge i D.length with hi|hi
 ·have:=key (i:Int) (by omega) (by omega);simp only[gt,Int.toNat_natCast,List.getD_eq_getElem?_getD,lgE hi,lgE (show i<D'.length by omega),Option.getD_some]at this;rw[lgE hi,lgE (by omega),this]
 ·rw[List.getElem?_eq_none hi,List.getElem?_eq_none (by omega)]
noncomputable def Qd0(t:Top)(down:List Bool)(e:Int)(fr:Bool):List Int:=by
 classical
 exact if h:∃D,IsDist t down e fr D then Classical.choose h else []
theorem QfF{t:Top}(hv:Qam t=true){down:List Bool}{e:Int}{fr:Bool}{D:List Int}(h:IsDist t down e fr D):Qd0 t down e fr=D:=by
 have hx:∃D,IsDist t down e fr D:=⟨D,h⟩;unfold Qd0;rw[dif_pos hx];exact QpB hv (Classical.choose_spec hx) h
def wt(d:Int):Nat:=if d<0 then 5000000 else d.toNat
def msr(D:List Int):Nat:=(D.map wt).sum
def QwZ(D:List Int):Nat:=(D.map fun d=>if d<0 then 0 else 1).sum
theorem Quy(f:Int->Nat):∀(D:List Int) (i:Nat) (v:Int) (u:Int),D[i]? =some u->((D.set i v).map f).sum+f u=(D.map f).sum+f v:=by
 intro D;induction D with
 |nil=>intro i v u h;simp at h
 |cons d D ih=>
  intro i v u h;cases i with
  |zero=>simp at h;subst h;simp;omega
  |succ i=>
   simp only[List.getElem?_cons_succ]at h;have:=ih i v u h;simp only[List.set_cons_succ,List.map_cons,List.sum_cons];omega
theorem QzN:∀(D:List Int),QwZ D<=D.length:=by
 intro D;induction D with
 |nil=>simp[QwZ]
 |cons d D ih=>simp only[QwZ,List.map_cons,List.sum_cons,List.length_cons]at *;split<;>omega
structure Mid (t:Top) (down:List Bool) (e:Int) (fr:Bool) (D:List Int):Prop where
 len:(D.length:Int)=t.nodes
 zero:gt D e=0
 lo:∀i,0<=i->i<t.nodes-> -1<=gt D i
 hi:∀i,0<=i->i<t.nodes->gt D i<=65535*QwZ D
 loose:∀x,0<=x->x<t.nodes->x≠e->0<=gt D x->∃a:Int,0<=a/\a<2*t.links.length/\Qg5 t down e fr a=true/\xOf t fr a=x/\0<=gt D (yOf t fr a)/\gt D (yOf t fr a)+Qcu t a<=gt D x
theorem Mid.le{t:Top}(hv:Qam t=true){down:List Bool}{e:Int}{fr:Bool}{D:List Int}(h:Mid t down e fr D){i:Int}(h0:0<=i)(h1:i<t.nodes):gt D i<=4194240:=by
 have:=h.hi i h0 h1;have h2:=QzN D;have h3:=h.len;have h4:=(Qau.1 hv).1;omega
theorem Mid.dist{t:Top}{down:List Bool}{e:Int}{fr:Bool}{D:List Int}(h:Mid t down e fr D)(hf:∀a:Int,0<=a->a<2*t.links.length->QpF t down e fr D a):IsDist t down e fr D where
 len:=h.len
 zero:=h.zero
 lo:=h.lo
 fix:=hf
 tight x h0 h1 hx hd:=by
  obtain⟨a,a0,a1,ha,hxa,hy,hc⟩:=h.loose x h0 h1 hx hd;have:=(hf a a0 a1 ha hy).2;rw[hxa]at this;exact⟨a,a0,a1,ha,hxa,hy,by omega⟩
theorem Qtw{D:List Int}{i j:Int}{v:Int}(h0:0<=i)(h1:i<D.length)(j0:0<=j):gt (D.set i.toNat v) j=if j=i then v else gt D j:=by
 simp only[gt,List.getD_eq_getElem?_getD,List.getElem?_set];by_cases h:j=i
 ·subst h;simp[show j.toNat<D.length by omega]
 ·have:i.toNat≠j.toNat:=by omega
  simp[this,h]
theorem Mid.step{t:Top}(hv:Qam t=true){down:List Bool}{e:Int}{fr:Bool}{D:List Int}(h:Mid t down e fr D){a:Int}(a0:0<=a)(a1:a<2*t.links.length)(ha:Qg5 t down e fr a=true)(hy:0<=gt D (yOf t fr a))
 (hc:gt D (xOf t fr a)<0\/gt D (yOf t fr a)+Qcu t a<gt D (xOf t fr a)):Mid t down e fr (D.set (xOf t fr a).toNat (gt D (yOf t fr a)+Qcu t a))/\msr (D.set (xOf t fr a).toNat (gt D (yOf t fr a)+Qcu t a))<msr D:=by
 have hf:=QfZ hv fr a0 a1;have hcs:=(QdY hv a0 a1).2.2.2;have hlen:=h.len;generalize hX:xOf t fr a=X at*;generalize hY:yOf t fr a=Y at*;generalize hC:gt D Y+Qcu t a=C at*;have hXl:X<D.length:=by omega
 have hg:∀j,0<=j->gt (D.set X.toNat C) j=if j=X then C else gt D j:=fun j j0=>Qtw hf.1.1 hXl j0
 have hget:D[X.toNat]? =some (gt D X):=by
  simp only[gt,List.getD_eq_getElem?_getD,lgE (show X.toNat<D.length by omega),Option.getD_some]
 have hYle:=h.hi Y hf.2.1.1 hf.2.1.2;have hs1:=Quy wt D X.toNat C (gt D X) hget;have hs2:=Quy (fun d=>if d<0 then 0 else 1) D X.toNat C (gt D X) hget;have hYm:=h.le hv hf.2.1.1 hf.2.1.2;have hXe:X≠e:=by
  intro hh;rw[hh,h.zero]at hc;omega
 have hcnt:QwZ (D.set X.toNat C)=QwZ D+(if gt D X<0 then 1 else 0):=by
  simp only[QwZ];simp only[show ¬C<0 by omega,if_false]at hs2;by_cases hX0:gt D X<0
  ·rw[if_pos hX0]at hs2 ⊢;omega
  ·rw[if_neg hX0]at hs2 ⊢;omega
 refine⟨⟨by simp only[List.length_set];exact hlen,?_,?_,?_,?_⟩,?_⟩
 ·have he:gt D e=0:=h.zero;by_cases e0:0<=e
  ·rw[hg e e0,if_neg (fun hh=>hXe hh.symm)];exact he
  ·simp only[gt,show e.toNat=0 by omega]at he ⊢;by_cases x0:X=0
   ·exfalso;have hXg:gt D X=0:=by rw[x0];exact he
    rw[hXg]at hc;omega
   ·rw[List.getD_eq_getElem?_getD,List.getElem?_set_ne (by omega),←List.getD_eq_getElem?_getD];exact he
 ·intro i i0 i1;rw[hg i i0];split
  ·omega
  ·exact h.lo i i0 i1
 ·intro i i0 i1;rw[hg i i0,hcnt];have hi:=h.hi i i0 i1;split
  ·split
   ·omega
   ·have hX:=h.hi X hf.1.1 hf.1.2;omega
  ·split<;>omega
 ·intro x x0 x1 hxe hd;rw[hg x x0]at hd ⊢;by_cases hxX:x=X
  ·subst hxX;refine⟨a,a0,a1,ha,hX,?_,?_⟩
   ·rw[hY,hg Y hf.2.1.1,if_neg (fun hh=>hf.2.2 hh.symm)];exact hy
   ·rw[hY,hg Y hf.2.1.1,if_neg (fun hh=>hf.2.2 hh.symm),if_pos rfl];omega
  ·rw[if_neg hxX]at hd ⊢;obtain⟨b,b0,b1,hb,hxb,hyb,hcb⟩:=h.loose x x0 x1 hxe hd;have hfb:=QfZ hv fr b0 b1;refine⟨b,b0,b1,hb,hxb,?_,?_⟩
   ·rw[hg _ hfb.2.1.1];split<;>omega
   ·rw[hg _ hfb.2.1.1];split
    ·rename_i hh;rw[hh]at hyb hcb;omega
    ·exact hcb
 ·simp only[msr];have w1:wt C=C.toNat:=by rw[wt,if_neg (by omega)]
  have w2:wt (gt D X)>C.toNat:=by
   rw[wt];split<;>omega
  omega
end Go.Ab
