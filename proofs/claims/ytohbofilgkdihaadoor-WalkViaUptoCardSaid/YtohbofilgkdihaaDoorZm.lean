/-
  Merged texts, part m.
-/
import Derived.Test.YtohbofilgkdihaaDoorZl
set_option linter.all false
namespace Go.Ab
open Go.Proofs
abbrev iA (n:Int):AV:= .c (.d (.int .i64 n))
abbrev bA (b:Bool):AV:= .c (.d (.bool b))
def Ret(P:Program)(f:Nat)(args:List AV)(r:AV):Prop:=FnS P f args [] fun r' _=>QcB r'=true/\r'=r
theorem Qag{P:Program}{f:Nat}{fn:Func}{af:AF}{args:List AV}{r:AV}(hm:P.follows .mixedOrders=true)(hf:P.funcs[f]? =some fn)(hc:QaJ P fn=some af)(hl:args.length<=af.nt)
 (hv:∀(Λ:Len),(∀l,Λ l=(l.length:Int))->∀(K:AV->Prop),K r->vcF P Λ af args K):Ret P f args r:=
 Qwl (K:=fun r'=>r'=r) hm hf hc hl fun Λ h=>hv Λ h _ rfl
theorem QvN(x:Int):IntKind.i64.wrap x=(x+9223372036854775808)%18446744073709551616-9223372036854775808:=by
 simp only[IntKind.wrap,IntKind.bits,IntKind.signed,Bool.true_and,decide_eq_true_eq,Nat.reduceSub,ge_iff_le];have e1:(2:Int) ^ 64=18446744073709551616:=by decide
 have e2:(2:Int) ^ 63=9223372036854775808:=by decide
 rw[e1,e2];split<;>omega
theorem wS{x:Int}(h: -9223372036854775808<=x)(h':x<9223372036854775808):IntKind.i64.wrap x=x:=by
 rw[QvN];omega
theorem QaF{P:Program}{m:Nat}{d:Bool}{L:Lv}{h:Hp}{f:Nat}{xs:List X}{args':List AV}{K:Lv->AV->Hp->Prop}{b:Bool}(hf:Ret P f args' (bA b))(ha:(Qh2 L xs).map fgA=args')(hp:args'.all QcB=true)
 (k1:b=true->K L (bA true) h)(k2:b=false->K L (bA false) h):CallS P m d L h f xs K:=by
 refine CallS.pure (r:=bA b) (Or.inl ⟨args',.inl ha.symm,hp,hf⟩) ?_;cases b
 ·exact k2 rfl
 ·exact k1 rfl
theorem QdX{P:Program}{m:Nat}{d:Bool}{L:Lv}{h:Hp}{f:Nat}{xs:List X}{args':List AV}{K:Lv->AV->Hp->Prop}{n:Int}(hf:Ret P f args' (iA n))(ha:(Qh2 L xs).map fgA=args')(hp:args'.all QcB=true)
 (k:∀c,c=n->K L (iA c) h):CallS P m d L h f xs K:=
 CallS.pure (r:=iA n) (Or.inl ⟨args',.inl ha.symm,hp,hf⟩) (k n rfl)
theorem Qaj{P:Program}{m:Nat}{d:Bool}{L:Lv}{h:Hp}{f:Nat}{xs:List X}{args':List AV}{K:Lv->AV->Hp->Prop}{r:AV}(hf:Ret P f args' r)(ha:(Qh2 L xs).map fgA=args')(hp:args'.all QcB=true)
 (k:K L r h):CallS P m d L h f xs K:=
 CallS.pure (r:=r) (Or.inl ⟨args',.inl ha.symm,hp,hf⟩) k
theorem Qhg{P:Program}{m:Nat}{L:Lv}{h:Hp}{f:Nat}{xs:List X}{K:Lv->AV->Hp->Prop}(l v sz k:Nat){r:Bool}{es:List (List D)}(hl:h[l]? =some (.da r v sz es))(hk:k=es.length)(h1:okL l v k L)(h2:okH l v k h)
 (hc:CallS P m false (zL l v sz es L) (zH l v sz es 0 h) f xs K):CallS P m false L h f xs K:=
 .wk (.fz l v sz r es hl (fun i=> .inr (by rw[←Qcl,←Qcl,Qzw];exact Qz4 hk (QwH h1 i))) (Qz5 hk h2)) hc
theorem gu{p:Prop}(h:Unit->p:=by
  intro(_:Unit)
  first
   |omega
   |rfl
   |exact⟨rfl,by omega⟩
   |(simp only[Qad];omega)
   |((repeat' first|rfl|omega|refine And.intro ?_ ?_|(simp only[Qad];omega)|(simp only[List.length_cons,List.length_nil];omega)|exact nle rfl);fail_if_success intros)):Unit->p:=h
theorem Wk.cw{m:Nat}{L:Lv}{h:Hp}{L':Lv}{h':Hp}(heap:∃t,h=h'++t:=by exact⟨_,rfl⟩)(least:m<=h'.length:=by exact Nat.zero_le _)(refs:Qc3 h'.length h'=true:=by rfl)
 (env:QnJ h'.length L L':=by repeat' first|exact trivial|refine And.intro ?_ ?_|rfl):Wk m L h L' h':= .cut heap least refs env
theorem Wk.ca{m:Nat}{L:Lv}{h:Hp}{L':Lv}{h':Hp}(heap:∃t,h=h'++t:=by exact⟨_,rfl⟩)(least:m<=h'.length:=by exact nle rfl)(refs:Qc3 h'.length h'=true:=by rfl)
 (env:QnJ h'.length L L':=by repeat' first|exact trivial|refine And.intro ?_ ?_|rfl):Wk m L h L' h':= .cut heap least refs env
theorem Wk.ch{m:Nat}{L:Lv}{h:Hp}{L':Lv}(least:m<=h.length:=by exact nle rfl)(refs:Qc3 h.length h=true:=by rfl)
 (env:QnJ h.length L L':=by repeat' first|exact trivial|refine And.intro ?_ ?_|rfl):Wk m L h L' h:= .cut ⟨[],(List.append_nil h).symm⟩ least refs env
structure Lk where
 (a b c0 c1 cap dl gr:Int)
structure Top where
 (nodes:Int) (ov:List Bool) (links:List Lk)
structure Seg where
 (kind num:Int)
 deriving DecidableEq
structure Ety where
 (arcs:List Int) (rep:Bool) (push:List Seg)
structure Tab where
 (node:Int) (to:List Ety) (down:List Int)
structure Pkt where
 (id src dst flow:Int) (stack:List Seg) (hops:Int)
instance:Inhabited Lk:=⟨⟨0,0,0,0,0,0,0⟩⟩
instance:Inhabited Seg:=⟨⟨0,0⟩⟩
instance:Inhabited Ety:=⟨⟨[],false,[]⟩⟩
abbrev iD (n:Int):D:= .int .i64 n
def QbA(b:Bool):List D:=[.bool b]
def QaA(n:Int):List D:=[.int .i64 n]
def QaL(l:Lk):List D:=[iD l.a,iD l.b,iD l.c0,iD l.c1,iD l.cap,iD l.dl,iD l.gr]
def Qal(s:Seg):List D:=[iD s.kind,iD s.num]
abbrev QaU (l:List Int):D:= .list false 1 (l.map QaA)
abbrev Qaf (l:List Bool):D:= .list false 1 (l.map QbA)
abbrev Qbn (l:List Seg):D:= .list false 2 (l.map Qal)
abbrev Qak (l:List Lk):D:= .list false 7 (l.map QaL)
def QaG(e:Ety):List D:=[QaU e.arcs,.bool e.rep,Qbn e.push]
abbrev Qh1 (l:List Ety):D:= .list false 3 (l.map QaG)
def Qa2(t:Top):AV:= .agg [.d (iD t.nodes),.d (Qaf t.ov),.d (Qak t.links)]
def QzS(s:Seg):AV:= .agg [.d (iD s.kind),.d (iD s.num)]
def Qwd(e:Ety):AV:= .agg [.d (QaU e.arcs),.d (.bool e.rep),.d (Qbn e.push)]
def QqR(x:Tab):AV:= .agg [.d (iD x.node),.d (Qh1 x.to),.d (QaU x.down)]
def Qdj(p:Pkt):AV:= .agg [.d (iD p.id),.d (iD p.src),.d (iD p.dst),.d (iD p.flow),.d (Qbn p.stack),.d (iD p.hops)]
abbrev QaT (l:List Int):AV:= .c (.d (QaU l))
abbrev Qf9 (l:List Seg):AV:= .c (.d (Qbn l))
theorem Qsi{α β:Type}{f:α->β}{l:List α}{i:Nat}{y:β}(h:(l.map f)[i]? =some y):∃x,l[i]? =some x/\y=f x:=by
 simp only[gtm,omi]at h;obtain⟨x,h1,h2⟩:=h;exact⟨x,h1,h2.symm⟩
theorem Qbo{α β:Type}{f:α->β}{l:List α}{ll:List β}{i:Nat}{y:β}(hl:l.map f=ll)(h:ll[i]? =some y):∃x,l[i]? =some x/\y=f x:=by
 subst hl;exact Qsi h
theorem QfC{α:Type}{l:List α}{i j:Nat}{x:α}(h:l[i]? =some x)(e:i=j):l[j]? =some x:=e▸h
theorem Qhi{α β:Type}{f:α->β}{l:List α}{ll:List β}(hl:l.map f=ll){k:Nat}{i:Int}(hi:i=k){x:α}(h:l[k]? =some x):ll[i.toNat]? =some (f x):=by
 subst hi hl;simp[h]
theorem Qas{α:Type}{l:List α}{k:Nat}{x:α}(h:l[k]? =some x):l.take (k+1)=l.take k++[x]:=by
 rw[List.take_add_one,h];rfl
theorem Qba{m:Nat}{body:Lv->Hp->Post->Prop}{L:Lv}{h:Hp}{Q:Post}{σ:Type}(N:Nat)(S:σ->Lv)(H:σ->Hp)(Inv:Nat->σ->Prop)(s0:σ)(wk:Wk m L h (S s0) (H s0))(h0:Inv 0 s0)
 (hle:∀k s,Inv k s->k<=N)
 (round:∀k s (Q':Post),Inv k s->(∀L' h' s',Inv (k+1) s'->Wk m L' h' (S s') (H s')->Q' .normal L' h')->(∀i L' h',Q (.exit i) L' h'->Q' (.exit i) L' h')->(∀L' h',Q .ret L' h'->Q' .ret L' h')->body (S s) (H s) Q'):
  LoopI m body L h Q:=by
 refine LoopI.mk (fun n L h=>∃k s,Inv k s/\n=N-k/\L=S s/\h=H s) N (S s0) (H s0) wk ⟨0,s0,h0,rfl,rfl,rfl⟩ ?_;rintro n L h ⟨k,s,hi,rfl,rfl,rfl⟩;refine round k s _ hi (fun L' h' s' hi' hw=> ?_) (fun i L' h' hq=>⟨L',h',.same rfl fun _=> .inr rfl,hq⟩) fun L' h' hq=>hq
 have h1:=hle _ _ hi;have h2:=hle _ _ hi';exact⟨N-(k+1),_,_,by omega,hw,k+1,s',hi',rfl,rfl,rfl⟩
theorem QcQ{m:Nat}{body:Lv->Hp->Post->Prop}{L:Lv}{h:Hp}{Q:Post}{σ τ:Type}(N:Nat)(S:σ->Lv)(H:σ->Hp)(Inv:Nat->σ->Prop)(s0:σ)(i0:Nat)(S':τ->Lv)(H':τ->Hp)(E:τ->Prop)(wk:Wk m L h (S s0) (H s0))(h0:Inv 0 s0)
 (hle:∀k s,Inv k s->k<=N)
 (round:∀k s (Q':Post),Inv k s->(∀L' h' s',Inv (k+1) s'->Wk m L' h' (S s') (H s')->Q' .normal L' h')->(∀L' h' s',E s'->Wk m L' h' (S' s') (H' s')->Q' (.exit i0) L' h')->(∀i L' h',Q (.exit i) L' h'->Q' (.exit i) L' h')->(∀L' h',Q .ret L' h'->Q' .ret L' h')->body (S s) (H s) Q')
 (rest:∀s,E s->Q (.exit i0) (S' s) (H' s)):
  LoopI m body L h Q:=by
 refine LoopI.mk (fun n L h=>∃k s,Inv k s/\n=N-k/\L=S s/\h=H s) N (S s0) (H s0) wk ⟨0,s0,h0,rfl,rfl,rfl⟩ ?_;rintro n L h ⟨k,s,hi,rfl,rfl,rfl⟩;refine round k s _ hi (fun L' h' s' hi' hw=> ?_) (fun L' h' s' he hw=>⟨_,_,hw,rest s' he⟩) (fun i L' h' hq=>⟨L',h',.same rfl fun _=> .inr rfl,hq⟩) fun L' h' hq=>hq
 have h1:=hle _ _ hi;have h2:=hle _ _ hi';exact⟨N-(k+1),_,_,by omega,hw,k+1,s',hi',rfl,rfl,rfl⟩
theorem Qtj(P:Program)(hP:P=Tryd.prog)(n lo hi:Int):Ret P QfF [iA n,iA lo,iA hi] (bA (decide (lo<=n/\n<=hi))):=by
 refine Qag (hP▸mixed) (hP▸Qi9) (hP▸QjZ) (nle rfl) fun Λ Λo K hK=> ?_
 clear hP
 conv=>cbv
 repeat' first|exact gu|exact trivial|refine And.intro ?_ ?_|(intro hc;first|exact absurd hc (by decide)|(exfalso;omega)|((first|rw[wS (by omega) (by omega)]at hc|rw[Qad]at hc|skip);try (conv=>cbv)))|refine CallG.old ?_
 all_goals (refine cast (congrArg (fun b=>K (bA b)) ?_) hK;simp;omega)
def Qxz(n:Int)(l:Lk):Bool:=
 decide (0<=l.a/\l.a<=n-1)&&decide (0<=l.b/\l.b<=n-1)&& !decide (l.a=l.b)&&decide (1<=l.c0/\l.c0<=65535)&&decide (1<=l.c1/\l.c1<=65535)&&
 decide (0<=l.cap/\l.cap<=1048576)&&decide (1<=l.dl/\l.dl<=65536)&&decide (0<=l.gr/\l.gr<=64)
def Qao(t:Top):Bool:=
 decide (1<=t.nodes/\t.nodes<=64)&&(decide (t.ov.length=0)||decide ((t.ov.length:Int)=t.nodes))&&decide (t.links.length<=256)&&t.links.all (Qxz t.nodes)
theorem Qd9{n:Int}{l:Lk}:Qxz n l=true↔(0<=l.a/\l.a<=n-1)/\(0<=l.b/\l.b<=n-1)/\l.a≠l.b/\(1<=l.c0/\l.c0<=65535)/\(1<=l.c1/\l.c1<=65535)/\
  (0<=l.cap/\l.cap<=1048576)/\(1<=l.dl/\l.dl<=65536)/\(0<=l.gr/\l.gr<=64):=by
 simp only[Qxz,Bool.and_eq_true,decide_eq_true_eq,Bool.not_eq_true',decide_eq_false_iff_not,and_assoc,ne_eq]
theorem Qai{t:Top}:Qao t=true↔(1<=t.nodes/\t.nodes<=64)/\((t.ov.length:Int)=0\/(t.ov.length:Int)=t.nodes)/\(t.links.length:Int)<=256/\∀l∈t.links,Qxz t.nodes l=true:=by
 simp only[Qao,Bool.and_eq_true,Bool.or_eq_true,decide_eq_true_eq,List.all_eq_true,and_assoc];constructor
 ·rintro⟨h1,h2,h3,h4,h5⟩;exact⟨h1,h2,by omega,by omega,h5⟩
 ·rintro⟨h1,h2,h3,h4,h5⟩;exact⟨h1,h2,by omega,by omega,h5⟩
theorem Qmb(P:Program)(hP:P=Tryd.prog)(t:Top):Ret P Qgq [Qa2 t] (bA (Qao t)):=by
 refine Qag (hP▸mixed) (hP▸Qj7) (hP▸Qld) (nle rfl) fun Λ Λo K hK=> ?_
 have hw:=Qtj P hP;clear hP;obtain⟨nodes,ov,links⟩:=t;simp only[Qa2,Qaf,Qak]at*;generalize hol:ov.map QbA=ol at*;generalize hll:links.map QaL=ll at*;have hlo:Λ ol=ov.length:=by rw[Λo,←hol];simp
 have hls:Λ ll=links.length:=by rw[Λo,←hll];simp
 have leaf:∀b,Qao ⟨nodes,ov,links⟩=b->K (bA b):=fun b hb=>by rw[←hb];exact hK
 have no:(Qao ⟨nodes,ov,links⟩=true->False)->K (bA false):=fun h=>leaf _ (Bool.eq_false_iff.2 h)
 conv=>cbv
 repeat' first|refine QaF (hw _ _ _) rfl rfl ?_ ?_|exact gu|exact trivial|refine And.intro ?_ ?_|(intro hc;first|exact absurd hc (by decide)|(exfalso;omega)|((first|rw[wS (by omega) (by omega)]at hc|rw[Qad]at hc|skip);try (conv=>cbv)))|refine CallG.old ?_
 all_goals try simp only[decide_eq_true_eq,decide_eq_false_iff_not]at*
 all_goals try (refine no fun h=> ?_;obtain⟨h1,h2,h3,h4⟩:=Qai.1 h;simp only at h1 h2 h3;omega)
 all_goals
  refine Qba links.length (fun(i:Int)=>[(1,.c (.ptr 0 0 0 0)),(3,iA i)]) (fun _=>[.bx [.d (.int .i64 nodes),.d (.list false 1 ol),.d (.list false 7 ll)]]) (fun k i=>i=k/\k<=links.length/\∀l∈links.take k,Qxz nodes l=true) 0 (Wk.cw) ⟨rfl,by omega,by simp⟩ (fun k s h=>h.2.1) ?_;rintro k i Q' ⟨hi,hk,hok⟩ norm ex rt
  conv=>cbv
  repeat' first|(refine ex _ _ _ ?_;(conv=>cbv))|(refine rt _ _ ?_;(conv=>cbv))|refine QaF (hw _ _ _) rfl rfl ?_ ?_|(intro e he;obtain⟨⟨xa,xb,xc,xd,xe,xf,xg⟩,hx,rfl⟩:=Qbo hll he;(conv=>cbv))|exact gu|exact trivial|refine And.intro ?_ ?_|(intro hc;first|exact absurd hc (by decide)|(exfalso;omega)|((first|rw[wS (by omega) (by omega)]at hc|rw[Qad]at hc|skip);try (conv=>cbv)))|refine CallG.old ?_
 all_goals try simp only[decide_eq_true_eq,decide_eq_false_iff_not]at*
 all_goals try (refine no fun h=> ?_;obtain⟨h1,h2,h3,h4⟩:=Qai.1 h;have h5:=Qd9.1 (h4 _ (mgE hx));simp only at h5;omega)
 all_goals try (refine leaf _ (Qai.2 ⟨by assumption,by simp only;omega,by simp only;omega,fun l hl=>hok l ?_⟩);rw[List.take_of_length_le (by omega)];exact hl)
 all_goals
  refine norm _ _ _ ?_ (Wk.cw);refine⟨by omega,by omega,?_⟩;rw[show i.toNat=k by omega]at hx;rw[Qas hx];intro l hl;rcases List.mem_append.1 hl with hl|hl
  ·exact hok l hl
  ·simp only[List.mem_singleton]at hl;subst hl;exact Qd9.2 ⟨by simp only;omega,by simp only;omega,by simp only;omega,by simp only;omega,by simp only;omega,by simp only;omega,by simp only;omega,by simp only;omega⟩
def QbC(t:Top):Int:=if Qao t then 2*t.links.length else 0
def QeP(t:Top)(a:Int):Lk:=(t.links[(a/2).toNat]?).getD default
def Qbm(t:Top)(a:Int):Int:=if 0<=a/\a<QbC t then (if a%2=0 then (QeP t a).a else (QeP t a).b)else -1
def Qbi(t:Top)(a:Int):Int:=if 0<=a/\a<QbC t then (if a%2=0 then (QeP t a).b else (QeP t a).a)else -1
def Qbt(t:Top)(a:Int):Int:=if 0<=a/\a<QbC t then (if a%2=0 then (QeP t a).c0 else (QeP t a).c1)else -1
theorem QdF(t:Top):QbC t<=2*t.links.length/\QbC t<=512/\0<=QbC t:=by
 rw[QbC];split
 ·rename_i h;have:=(Qai.1 h).2.2.1;omega
 ·omega
theorem Qu1{x:Int}(h1:0<=x)(h2:x<9223372036854775808):IntKind.i64.wrap (x.tdiv 2)=x/2:=by
 rw[Int.tdiv_eq_ediv_of_nonneg h1,QvN];omega
theorem Qu2{x:Int}(h1:0<=x):x.tmod 2=x%2:=Int.tmod_eq_emod_of_nonneg h1
theorem Qk7(P:Program)(hP:P=Tryd.prog)(t:Top):Ret P Qho [Qa2 t] (iA (QbC t)):=by
 refine Qag (hP▸mixed) (hP▸Qly) (hP▸Qmv) (nle rfl) fun Λ Λo K hK=> ?_
 have hw:=Qmb P hP t;clear hP;have leaf:∀b,QbC t=b->K (iA b):=fun b hb=>by rw[←hb];exact hK
 have h256:Qao t=true->(t.links.length:Int)<=256:=fun h=>(Qai.1 h).2.2.1
 have ha:QbC t=if Qao t then 2*(t.links.length:Int)else 0:=rfl
 generalize QbC t=r at*;generalize Qao t=v at*;cases v
 all_goals
  obtain⟨nodes,ov,links⟩:=t;simp only[Qa2,Qaf,Qak]at*;generalize hol:ov.map QbA=ol at*;generalize hll:links.map QaL=ll at*;have hlo:Λ ol=ov.length:=by rw[Λo,←hol];simp
  have hls:Λ ll=links.length:=by rw[Λo,←hll];simp
  simp only[Bool.false_eq_true,if_true,if_false,forall_const]at ha h256
  conv=>cbv
  repeat' first|refine QaF hw rfl rfl ?_ ?_|(intro hc;cases hc;done)|exact gu|exact trivial|refine And.intro ?_ ?_|(intro hc;first|exact absurd hc (by decide)|(exfalso;omega)|((first|rw[wS (by omega) (by omega)]at hc|rw[Qad]at hc|skip);try (conv=>cbv)))|refine CallG.old ?_
 ·exact leaf _ ha
 ·exact leaf _ (by omega)
theorem QjM(P:Program)(hP:P=Tryd.prog)(t:Top)(a:Int):Ret P Qhr [Qa2 t,iA a] (iA (Qbm t a)):=by
 refine Qag (hP▸mixed) (hP▸QlB) (hP▸Qmy) (nle rfl) fun Λ Λo K hK=> ?_
 have hw:=Qk7 P hP t;clear hP;have leaf:∀b,Qbm t a=b->K (iA b):=fun b hb=>by rw[←hb];exact hK
 have hv2:=QdF t;have hta:Qbm t a=if 0<=a/\a<QbC t then (if a%2=0 then (QeP t a).a else (QeP t a).b)else -1:=rfl
 have hat:∀x,t.links[(a/2).toNat]? =some x->QeP t a=x:=fun x hx=>by simp[QeP,hx]
 generalize QbC t=v at*;obtain⟨nodes,ov,links⟩:=t;simp only[Qa2,Qaf,Qak]at*;generalize hol:ov.map QbA=ol at*;generalize hll:links.map QaL=ll at*;have hlo:Λ ol=ov.length:=by rw[Λo,←hol];simp
 have hls:Λ ll=links.length:=by rw[Λo,←hll];simp
 conv=>cbv
 repeat' first|refine QdX hw rfl rfl ?_|(intro hc;rw[Qu1 (by omega) (by omega)]at hc;conv=>cbv)|(intro hc;rw[Qu2 (by omega)]at hc;conv=>cbv)|(intro(_:Unit);decide)|(intro e he;obtain⟨⟨xa,xb,xc,xd,xe,xf,xg⟩,hx,rfl⟩:=Qbo hll he;(conv=>cbv))|exact gu|exact trivial|refine And.intro ?_ ?_|(intro hc;first|exact absurd hc (by decide)|(exfalso;omega)|((first|rw[wS (by omega) (by omega)]at hc|rw[Qad]at hc|skip);try (conv=>cbv)))|refine CallG.old ?_
 ·exact leaf _ (by rw[hta,if_neg (by omega)])
 ·exact leaf _ (by rw[hta,if_neg (by omega)])
 all_goals
  refine leaf _ ?_;rw[hta,if_pos (by omega),hat _ (QfC hx (by omega))]
 ·rw[if_pos (by omega)]
 ·rw[if_neg (by omega)]
theorem QrW(P:Program)(hP:P=Tryd.prog)(t:Top)(a:Int):Ret P Qhq [Qa2 t,iA a] (iA (Qbi t a)):=by
 refine Qag (hP▸mixed) (hP▸QlA) (hP▸Qmx) (nle rfl) fun Λ Λo K hK=> ?_
 have hw:=Qk7 P hP t;have ht:=QjM P hP t;clear hP;have leaf:∀b,Qbi t a=b->K (iA b):=fun b hb=>by rw[←hb];exact hK
 have hv2:=QdF t;have hta:Qbi t a=if 0<=a/\a<QbC t then (if a%2=0 then (QeP t a).b else (QeP t a).a)else -1:=rfl
 have htt:∀c,Qbm t c=if 0<=c/\c<QbC t then (if c%2=0 then (QeP t c).a else (QeP t c).b)else -1:=fun _=>rfl
 have hlk:∀c,c/2=a/2->QeP t c=QeP t a:=fun c hc=>by rw[QeP,QeP,hc]
 have hev:QbC t%2=0:=by rw[QbC];split<;>omega
 generalize Qbi t a=r at*;generalize hf:Qbm t=f at*;generalize QbC t=v at*;generalize QeP t=lk at*;obtain⟨nodes,ov,links⟩:=t;simp only[Qa2,Qaf,Qak]at*;generalize hol:ov.map QbA=ol at*;generalize hll:links.map QaL=ll at*;have hlo:Λ ol=ov.length:=by rw[Λo,←hol];simp
 have hls:Λ ll=links.length:=by rw[Λo,←hll];simp
 conv=>cbv
 repeat' first|refine QdX hw rfl rfl ?_|refine QdX (ht _) rfl rfl ?_|(intro hc;rw[Qu1 (by omega) (by omega)]at hc;conv=>cbv)|(intro hc;rw[Qu2 (by omega)]at hc;conv=>cbv)|(intro(_:Unit);decide)|exact gu|exact trivial|refine And.intro ?_ ?_|(intro hc;first|exact absurd hc (by decide)|(exfalso;omega)|((first|rw[wS (by omega) (by omega)]at hc|rw[Qad]at hc|skip);try (conv=>cbv)))|refine CallG.old ?_
 ·exact leaf _ (by rw[hta,if_neg (by omega)])
 ·exact leaf _ (by rw[hta,if_neg (by omega)])
 ·refine leaf _ ?_;subst hc;rename_i c;rw[hta.trans (if_pos (by omega)),(htt c).trans (if_pos (by omega)),hlk c (by omega)];by_cases h0:a%2=0
  ·rw[if_pos h0,if_neg (by omega)]
  ·rw[if_neg h0,if_pos (by omega)]
theorem QnF{K:AV->Prop}{p:Prop}[Decidable p](hK:K (bA (decide p))):p->K (bA true):=fun h=>by rw[decide_eq_true h]at hK;exact hK
theorem Qst{K:AV->Prop}{p:Prop}[Decidable p](hK:K (bA (decide p))):¬p->K (bA false):=fun h=>by rw[decide_eq_false h]at hK;exact hK
theorem QlR{α:Type}{l:List α}{k:Nat}{x y:α}(h:l[k]? =some x):y∈l.take (k+1)↔y∈l.take k\/y=x:=by
 rw[Qas h];simp
theorem QoI(P:Program)(hP:P=Tryd.prog)(l m:List Int):Ret P Qdb [QaT l,QaT m] (bA (decide (l=m))):=by
 refine Qag (hP▸mixed) (hP▸QgU) (hP▸QhX) (nle rfl) fun Λ Λo K hK=> ?_
 clear hP;have yes:=QnF hK;have no:=Qst hK;simp only[QaT,QaU]at*;generalize llh:List.map QaA l=ll at*;have lln:Λ ll=l.length:=by rw[Λo,←llh];simp
 generalize mlh:List.map QaA m=ml at*;have mln:Λ ml=m.length:=by rw[Λo,←mlh];simp
 conv=>cbv
 repeat' first|exact gu|exact trivial|refine And.intro ?_ ?_|(intro hc;first|exact absurd hc (by decide)|(exfalso;omega)|((first|rw[wS (by omega) (by omega)]at hc|rw[Qad]at hc|skip);try (conv=>cbv)))|refine CallG.old ?_
 ·exact no fun h=>by subst h;omega
 refine Qba l.length (fun i:Int=>[(0,.c (.d (.list false 1 ll))),(1,.c (.d (.list false 1 ml))),(5,iA i)]) (fun _=>[]) (fun k i=>i=k/\k<=l.length/\l.take k=m.take k) 0 (Wk.cw) ⟨rfl,by omega,by simp⟩ (fun k s h=>h.2.1) ?_;rintro k i Q' ⟨hi,hk,hno⟩ norm ex rt
 conv=>cbv
 repeat' first|(refine ex _ _ _ ?_;(conv=>cbv))|(refine rt _ _ ?_;(conv=>cbv))|(intro e he;obtain⟨x,hx,rfl⟩:=Qbo llh he;(conv=>cbv))|(intro e he;obtain⟨y,hy,rfl⟩:=Qbo mlh he;(conv=>cbv))|exact gu|exact trivial|refine And.intro ?_ ?_|(intro hc;first|exact absurd hc (by decide)|(exfalso;omega)|((first|rw[wS (by omega) (by omega)]at hc|rw[Qad]at hc|skip);try (conv=>cbv)))|refine CallG.old ?_
 ·refine no fun h=> ?_
  subst h;rw[hx]at hy;cases hy;exact hc rfl
 ·refine norm _ _ _ ?_ (Wk.cw);exact⟨by omega,by omega,by rw[Qas (QfC hx (by omega)),Qas (QfC hy (by omega)),hno,show x=y by omega]⟩
 ·exact yes (by rw[List.take_of_length_le (by omega),List.take_of_length_le (by omega)]at hno;exact hno)
theorem Qt8(P:Program)(hP:P=Tryd.prog)(l:List Int)(n:Int):Ret P QcD [QaT l,iA n] (iA (if n∈l then (l.idxOf n:Int)else -1)):=by
 refine Qag (hP▸mixed) (hP▸Qer) (hP▸QeL) (nle rfl) fun Λ Λo K hK=> ?_
 clear hP;have leaf:∀b:Int,(if n∈l then (l.idxOf n:Int)else -1)=b->K (iA b):=fun b hb=>by rw[←hb];exact hK
 simp only[QaT,QaU]at*;generalize llh:List.map QaA l=ll at*;have lln:Λ ll=l.length:=by rw[Λo,←llh];simp
 conv=>cbv
 intro hmax
 conv=>cbv
 refine Qba l.length (fun i:Int=>[(0,.c (.d (.list false 1 ll))),(1,iA n),(7,iA (Λ ll)),(8,iA i)]) (fun _=>[]) (fun k i=>i=k/\k<=l.length/\n∉l.take k) 0 (Wk.cw) ⟨rfl,by omega,by simp⟩ (fun k s h=>h.2.1) ?_;rintro k i Q' ⟨hi,hk,hno⟩ norm ex rt
 conv=>cbv
 repeat' first|(refine ex _ _ _ ?_;(conv=>cbv))|(refine rt _ _ ?_;(conv=>cbv))|(intro e he;obtain⟨x,hx,rfl⟩:=Qbo llh he;(conv=>cbv))|exact gu|exact trivial|refine And.intro ?_ ?_|(intro hc;first|exact absurd hc (by decide)|(exfalso;omega)|((first|rw[wS (by omega) (by omega)]at hc|rw[Qad]at hc|skip);try (conv=>cbv)))|refine CallG.old ?_
 ·refine leaf _ ?_;subst hc;have hx:=QfC hx (show i.toNat=k by omega);rw[if_pos (mgE hx),hi]
  congr 1
  have e:l=l.take k++n::l.drop (k+1):=by
   conv=>lhs;rw[←List.take_append_drop k l]
   congr 1
   rw[List.drop_eq_getElem_cons (by have:=Qaa hx;exact this)]
   congr 1
   rw[lgE (Qaa hx)]at hx;exact osj hx
  rw[e,List.idxOf_append,if_neg hno,List.idxOf_cons_self];simp;omega
 ·refine norm _ _ _ ?_ (Wk.cw);exact⟨by omega,by omega,by rw[QlR (QfC hx (by omega))];intro h;rcases h with h|h;exact hno h;omega⟩
 ·exact leaf _ (if_neg (by rw[List.take_of_length_le (by omega)]at hno;exact hno))
theorem QnZ(P:Program)(hP:P=Tryd.prog)(l:List Int)(n:Int):Ret P Qb9 [QaT l,iA n] (bA (decide (n∈l))):=by
 refine Qag (hP▸mixed) (hP▸QdD) (hP▸QdQ) (nle rfl) fun Λ Λo K hK=> ?_
 have hw:=Qt8 P hP l n;clear hP;have yes:=QnF hK;have no:=Qst hK;have hi:(0:Int)<=(if n∈l then (l.idxOf n:Int)else -1)↔n∈l:=by split<;>simp_all<;>omega
 generalize (if n∈l then (l.idxOf n:Int)else -1)=r at*;simp only[QaT,QaU]at*;generalize llh:List.map QaA l=ll at*;have lln:Λ ll=l.length:=by rw[Λo,←llh];simp
 conv=>cbv
 repeat' first|refine QdX hw rfl rfl ?_|exact gu|exact trivial|refine And.intro ?_ ?_|(intro hc;first|exact absurd hc (by decide)|(exfalso;omega)|((first|rw[wS (by omega) (by omega)]at hc|rw[Qad]at hc|skip);try (conv=>cbv)))|refine CallG.old ?_
 ·exact yes (hi.1 (by omega))
 ·exact no fun h=>by have:=hi.2 h;omega
theorem QqW(P:Program)(hP:P=Tryd.prog)(n lo hi:Int):Ret P Qd6 [iA n,iA lo,iA hi] (bA (decide (lo<=n/\n<=hi))):=by
 refine Qag (hP▸mixed) (hP▸Qgi) (hP▸QgJ) (nle rfl) fun Λ Λo K hK=> ?_
 clear hP;have yes:=QnF hK;have no:=Qst hK
 conv=>cbv
 repeat' first|exact gu|exact trivial|refine And.intro ?_ ?_|(intro hc;first|exact absurd hc (by decide)|(exfalso;omega)|((first|rw[wS (by omega) (by omega)]at hc|rw[Qad]at hc|skip);try (conv=>cbv)))|refine CallG.old ?_
 ·exact yes (by omega)
 ·exact no (by omega)
 ·exact no (by omega)
theorem Qgk(P:Program)(hP:P=Tryd.prog)(t:Top)(n:Int):Ret P Qhm [Qa2 t,iA n] (bA (decide (0<=n/\n<t.nodes))):=by
 refine Qag (hP▸mixed) (hP▸Qlw) (hP▸Qmt) (nle rfl) fun Λ Λo K hK=> ?_
 clear hP;have yes:=QnF hK;have no:=Qst hK;obtain⟨nodes,ov,links⟩:=t;simp only[Qa2,Qaf,Qak]at*;generalize hol:ov.map QbA=ol at*;generalize hll:links.map QaL=ll at*;have hlo:Λ ol=ov.length:=by rw[Λo,←hol];simp
 have hls:Λ ll=links.length:=by rw[Λo,←hll];simp
 conv=>cbv
 repeat' first|exact gu|exact trivial|refine And.intro ?_ ?_|(intro hc;first|exact absurd hc (by decide)|(exfalso;omega)|((first|rw[wS (by omega) (by omega)]at hc|rw[Qad]at hc|skip);try (conv=>cbv)))|refine CallG.old ?_
 ·exact yes (by omega)
 ·exact no (by omega)
 ·exact no (by omega)
theorem Qnu(P:Program)(hP:P=Tryd.prog)(t:Top):Ret P QeF [Qa2 t] (bA (Qao t)):=by
 refine Qag (hP▸mixed) (hP▸QgV) (hP▸QhY) (nle rfl) fun Λ Λo K hK=> ?_
 have hw:=QqW P hP;have hn:=Qgk P hP t;clear hP;have leaf:∀b,Qao t=b->K (bA b):=fun b hb=>by rw[←hb];exact hK
 have no:(Qao t=true->False)->K (bA false):=fun h=>leaf _ (Bool.eq_false_iff.2 h)
 obtain⟨nodes,ov,links⟩:=t;simp only[Qa2,Qaf,Qak]at*;generalize hol:ov.map QbA=ol at*;generalize hll:links.map QaL=ll at*;have hlo:Λ ol=ov.length:=by rw[Λo,←hol];simp
 have hls:Λ ll=links.length:=by rw[Λo,←hll];simp
 conv=>cbv
 repeat' first|refine QaF (hw _ _ _) rfl rfl ?_ ?_|exact gu|exact trivial|refine And.intro ?_ ?_|(intro hc;first|exact absurd hc (by decide)|(exfalso;omega)|((first|rw[wS (by omega) (by omega)]at hc|rw[Qad]at hc|skip);try (conv=>cbv)))|refine CallG.old ?_
 all_goals try simp only[decide_eq_true_eq,decide_eq_false_iff_not]at*
 all_goals try (refine no fun h=> ?_;obtain⟨h1,h2,h3,h4⟩:=Qai.1 h;simp only at h1 h2 h3;omega)
 all_goals
  refine Qba links.length (fun(i:Int)=>[(1,.c (.ptr 0 0 0 0)),(29,iA (Λ ll)),(30,iA i)]) (fun _=>[.bx [.d (.int .i64 nodes),.d (.list false 1 ol),.d (.list false 7 ll)]]) (fun k i=>i=k/\k<=links.length/\∀l∈links.take k,Qxz nodes l=true) 0 (Wk.cw) ⟨rfl,by omega,by simp⟩ (fun k s h=>h.2.1) ?_;rintro k i Q' ⟨hi,hk,hok⟩ norm ex rt
  conv=>cbv
  repeat' first|(refine ex _ _ _ ?_;(conv=>cbv))|(refine rt _ _ ?_;(conv=>cbv))|refine QaF (hw _ _ _) rfl rfl ?_ ?_|refine QaF (hn _) rfl rfl ?_ ?_|(intro e he;obtain⟨⟨xa,xb,xc,xd,xe,xf,xg⟩,hx,rfl⟩:=Qbo hll he;(conv=>cbv))|exact gu|exact trivial|refine And.intro ?_ ?_|(intro hc;first|exact absurd hc (by decide)|(exfalso;omega)|((first|rw[wS (by omega) (by omega)]at hc|rw[Qad]at hc|skip);try (conv=>cbv)))|refine CallG.old ?_
 all_goals try simp only[decide_eq_true_eq,decide_eq_false_iff_not]at*
 all_goals try (refine no fun h=> ?_;obtain⟨h1,h2,h3,h4⟩:=Qai.1 h;have h5:=Qd9.1 (h4 _ (mgE hx));simp only at h5;omega)
 all_goals try (refine leaf _ (Qai.2 ⟨by simp only;omega,by simp only;omega,by simp only;omega,fun l hl=>hok l ?_⟩);rw[List.take_of_length_le (by omega)];exact hl)
 all_goals
  refine norm _ _ _ ?_ (Wk.cw);refine⟨by omega,by omega,?_⟩;rw[show i.toNat=k by omega]at hx;rw[Qas hx];intro l hl;rcases List.mem_append.1 hl with hl|hl
  ·exact hok l hl
  ·simp only[List.mem_singleton]at hl;subst hl;exact Qd9.2 ⟨by simp only;omega,by simp only;omega,by simp only;omega,by simp only;omega,by simp only;omega,by simp only;omega,by simp only;omega,by simp only;omega⟩
theorem Qt6(P:Program)(hP:P=Tryd.prog)(t:Top)(h:(t.links.length:Int)<=256):Ret P Qhl [Qa2 t] (iA (2*t.links.length)):=by
 refine Qag (hP▸mixed) (hP▸Qlu) (hP▸Qmr) (nle rfl) fun Λ Λo K hK=> ?_
 clear hP;obtain⟨nodes,ov,links⟩:=t;simp only[Qa2,Qaf,Qak]at*;generalize hol:ov.map QbA=ol at*;generalize hll:links.map QaL=ll at*;have hlo:Λ ol=ov.length:=by rw[Λo,←hol];simp
 have hls:Λ ll=links.length:=by rw[Λo,←hll];simp
 conv=>cbv
 repeat' first|exact gu|exact trivial|refine And.intro ?_ ?_|(intro hc;first|exact absurd hc (by decide)|(exfalso;omega)|((first|rw[wS (by omega) (by omega)]at hc|rw[Qad]at hc|skip);try (conv=>cbv)))|refine CallG.old ?_
 rename_i c;rw[show c=2*(links.length:Int)by omega];exact hK
theorem Qok(P:Program)(hP:P=Tryd.prog)(t:Top)(a:Int)(h:(t.links.length:Int)<=256):Ret P Qjp [Qa2 t,iA a] (bA (decide (0<=a/\a<2*t.links.length))):=by
 refine Qag (hP▸mixed) (hP▸QmT) (hP▸QnU) (nle rfl) fun Λ Λo K hK=> ?_
 have hw:=Qt6 P hP t h;clear hP;have yes:=QnF hK;have no:=Qst hK;obtain⟨nodes,ov,links⟩:=t;simp only[Qa2,Qaf,Qak]at*;generalize hol:ov.map QbA=ol at*;generalize hll:links.map QaL=ll at*;have hlo:Λ ol=ov.length:=by rw[Λo,←hol];simp
 have hls:Λ ll=links.length:=by rw[Λo,←hll];simp
 conv=>cbv
 repeat' first|refine QdX hw rfl rfl ?_|exact gu|exact trivial|refine And.intro ?_ ?_|(intro hc;first|exact absurd hc (by decide)|(exfalso;omega)|((first|rw[wS (by omega) (by omega)]at hc|rw[Qad]at hc|skip);try (conv=>cbv)))|refine CallG.old ?_
 ·exact yes (by omega)
 ·exact no (by omega)
 ·exact no (by omega)
def Qgb(t:Top)(a:Int):Int:=if a%2=0 then (QeP t a).a else (QeP t a).b
def Qom(t:Top)(a:Int):Int:=if a%2=0 then (QeP t a).b else (QeP t a).a
theorem QlJ(P:Program)(hP:P=Tryd.prog)(t:Top)(a:Int)(h0:0<=a)(h1:a<2*t.links.length)(h2:(t.links.length:Int)<=256):Ret P Qhn [Qa2 t,iA a] (iA (Qgb t a)):=by
 refine Qag (hP▸mixed) (hP▸Qlx) (hP▸Qmu) (nle rfl) fun Λ Λo K hK=> ?_
 clear hP;have leaf:∀b,Qgb t a=b->K (iA b):=fun b hb=>by rw[←hb];exact hK
 have hta:Qgb t a=if a%2=0 then (QeP t a).a else (QeP t a).b:=rfl
 have hat:∀x,t.links[(a/2).toNat]? =some x->QeP t a=x:=fun x hx=>by simp[QeP,hx]
 obtain⟨nodes,ov,links⟩:=t;simp only[Qa2,Qaf,Qak]at*;generalize hol:ov.map QbA=ol at*;generalize hll:links.map QaL=ll at*;have hlo:Λ ol=ov.length:=by rw[Λo,←hol];simp
 have hls:Λ ll=links.length:=by rw[Λo,←hll];simp
 conv=>cbv
 repeat' first|(intro hc;rw[Qu1 (by omega) (by omega)]at hc;conv=>cbv)|(intro hc;rw[Qu2 (by omega)]at hc;conv=>cbv)|(intro(_:Unit);decide)|(intro e he;obtain⟨⟨xa,xb,xc,xd,xe,xf,xg⟩,hx,rfl⟩:=Qbo hll he;(conv=>cbv))|exact gu|exact trivial|refine And.intro ?_ ?_|(intro hc;first|exact absurd hc (by decide)|(exfalso;omega)|((first|rw[wS (by omega) (by omega)]at hc|rw[Qad]at hc|skip);try (conv=>cbv)))|refine CallG.old ?_
 ·exact leaf _ (by rw[hta,if_pos (by omega),hat _ (QfC hx (by omega))])
 ·exact leaf _ (by rw[hta,if_neg (by omega),hat _ (QfC hx (by omega))])
def Qtp(t:Top)(s:Seg):Bool:=decide (0<=s.num)&&(decide (s.kind=1/\s.num<t.nodes)||decide (s.kind=2/\s.num<2*t.links.length)||decide (s.kind=3/\1<=s.num/\s.num<=64)||decide (s.kind=4/\s.num<=65535))
theorem QjE{t:Top}{s:Seg}:Qtp t s=true↔0<=s.num/\((s.kind=1/\s.num<t.nodes)\/(s.kind=2/\s.num<2*t.links.length)\/(s.kind=3/\1<=s.num/\s.num<=64)\/(s.kind=4/\s.num<=65535)):=by
 simp only[Qtp,Bool.and_eq_true,Bool.or_eq_true,decide_eq_true_eq,or_assoc]
theorem Qwp(P:Program)(hP:P=Tryd.prog)(t:Top)(s:Seg)(h:(t.links.length:Int)<=256):Ret P Qe0 [Qa2 t,QzS s] (bA (Qtp t s)):=by
 refine Qag (hP▸mixed) (hP▸Qh5) (hP▸QiH) (nle rfl) fun Λ Λo K hK=> ?_
 have hn:=Qgk P hP t;have ha:=fun a=>Qok P hP t a h
 clear hP;have leaf:∀b,Qtp t s=b->K (bA b):=fun b hb=>by rw[←hb];exact hK
 have yes:(0<=s.num/\((s.kind=1/\s.num<t.nodes)\/(s.kind=2/\s.num<2*t.links.length)\/(s.kind=3/\1<=s.num/\s.num<=64)\/(s.kind=4/\s.num<=65535)))->K (bA true):=fun h=>leaf _ (QjE.2 h)
 have no:¬(0<=s.num/\((s.kind=1/\s.num<t.nodes)\/(s.kind=2/\s.num<2*t.links.length)\/(s.kind=3/\1<=s.num/\s.num<=64)\/(s.kind=4/\s.num<=65535)))->K (bA false):=fun h=>leaf _ (Bool.eq_false_iff.2 fun h'=>h (QjE.1 h'))
 clear leaf hK;obtain⟨kind,num⟩:=s;simp only[QzS]at*;obtain⟨nodes,ov,links⟩:=t;simp only[Qa2,Qaf,Qak]at*;generalize hol:ov.map QbA=ol at*;generalize hll:links.map QaL=ll at*;have hlo:Λ ol=ov.length:=by rw[Λo,←hol];simp
 have hls:Λ ll=links.length:=by rw[Λo,←hll];simp
 conv=>cbv
 repeat' first|refine QaF (hn _) rfl rfl ?_ ?_|refine QaF (ha _) rfl rfl ?_ ?_|exact gu|exact trivial|refine And.intro ?_ ?_|(intro hc;first|exact absurd hc (by decide)|(exfalso;omega)|((first|rw[wS (by omega) (by omega)]at hc|rw[Qad]at hc|skip);try (conv=>cbv)))|refine CallG.old ?_
 all_goals try simp only[decide_eq_true_eq,decide_eq_false_iff_not]at*
 all_goals first|(refine yes ?_;omega)|(refine no ?_;omega)
def Qjs(t:Top)(n:Int)(l:List Int)(i:Nat):Bool:=decide (Qbm t (l.getD i 0)=n)&&(decide (i=0)||decide (l.getD (i-1) 0<l.getD i 0))
def QnH(t:Top)(n:Int)(l:List Int):Bool:=(List.range l.length).all (Qjs t n l)
theorem Qgt{t:Top}{n:Int}{l:List Int}:QnH t n l=true↔∀i,i<l.length->Qjs t n l i=true:=by
 simp[QnH,List.all_eq_true]
theorem QgZ{α:Type}{l:List α}{i:Nat}{x d:α}(h:l[i]? =some x):l.getD i d=x:=by
 simp[List.getD,h]
theorem Qng{t:Top}{n:Int}{l:List Int}{i:Nat}{x:Int}(hx:l[i]? =some x)(h1:Qbm t x=n)(h2:i=0\/∃y,l[i-1]? =some y/\y<x):Qjs t n l i=true:=by
 simp only[Qjs,QgZ hx,h1,decide_true,Bool.true_and,Bool.or_eq_true,decide_eq_true_eq];rcases h2 with h2|⟨y,hy,h2⟩
 ·exact .inl h2
 ·exact .inr (by rw[QgZ hy];exact h2)
theorem Quz{t:Top}{n:Int}{l:List Int}{i:Nat}{x:Int}(hx:l[i]? =some x)(h:Qbm t x≠n\/(i≠0/\∃y,l[i-1]? =some y/\x<=y)):¬Qjs t n l i=true:=by
 simp only[Qjs,QgZ hx,Bool.and_eq_true,Bool.or_eq_true,decide_eq_true_eq];rintro⟨h1,h2⟩;rcases h with h|⟨h0,y,hy,h⟩
 ·exact h h1
 ·rcases h2 with h2|h2
  ·exact h0 h2
  ·rw[QgZ hy]at h2;omega
theorem QoR{t:Top}{a:Int}(hv:Qao t=true)(h0:0<=a)(h1:a<2*t.links.length):Qbm t a=Qgb t a:=by
 rw[Qbm,QbC,if_pos hv,if_pos ⟨h0,h1⟩];rfl
theorem QqT{t:Top}{a:Int}(hv:Qao t=true)(h:¬(0<=a/\a<2*t.links.length)):Qbm t a= -1:=by
 rw[Qbm,QbC,if_pos hv,if_neg h]
theorem Qkr(P:Program)(hP:P=Tryd.prog)(t:Top)(n:Int)(l:List Int)(hv:Qao t=true)(hn0:0<=n):Ret P Qe3 [Qa2 t,iA n,QaT l] (bA (QnH t n l)):=by
 refine Qag (hP▸mixed) (hP▸Qh8) (hP▸QiL) (nle rfl) fun Λ Λo K hK=> ?_
 have h256:=(Qai.1 hv).2.2.1;have har:=fun a=>Qok P hP t a h256
 have ht:=fun a h0 h1=>QlJ P hP t a h0 h1 h256
 clear hP;have yes:(∀i,i<l.length->Qjs t n l i=true)->K (bA true):=fun h=>by rw[Qgt.2 h]at hK;exact hK
 have no:∀i,i<l.length->¬Qjs t n l i=true->K (bA false):=fun i hi h=>by
  rw[show QnH t n l=false from Bool.eq_false_iff.2 fun h'=>h (Qgt.1 h' i hi)]at hK;exact hK
 have ya:=fun i x=> @Qng t n l i x
 have na:=fun i x=> @Quz t n l i x
 have tv:=fun a=> @QoR t a hv
 have tn:=fun a=> @QqT t a hv
 generalize Qjs t n l=oa at*;generalize Qbm t=f at*;generalize Qgb t=g at*;clear hK hv;simp only[QaT,QaU]at*;generalize alh:List.map QaA l=al at*;have aln:Λ al=l.length:=by rw[Λo,←alh];simp
 obtain⟨nodes,ov,links⟩:=t;simp only[Qa2,Qaf,Qak]at*;generalize hol:ov.map QbA=ol at*;generalize hll:links.map QaL=ll at*;have hlo:Λ ol=ov.length:=by rw[Λo,←hol];simp
 have hls:Λ ll=links.length:=by rw[Λo,←hll];simp
 conv=>cbv
 intro hmax
 conv=>cbv
 refine Qba l.length (fun(i:Int)=>[(1,iA n),(2,.c (.d (.list false 1 al))),(3,.c (.ptr 0 0 0 0)),(9,.c (.d (.list false 1 al))),(10,iA (Λ al)),(11,iA i)]) (fun _=>[.bx [.d (.int .i64 nodes),.d (.list false 1 ol),.d (.list false 7 ll)]]) (fun k i=>i=k/\k<=l.length/\∀j,j<k->oa j=true) 0 (Wk.cw) ⟨rfl,by omega,by simp⟩ (fun k s h=>h.2.1) ?_;rintro k i Q' ⟨hi,hk,hok⟩ norm ex rt;by_cases hlt:k<l.length
 ·obtain⟨x,hx⟩:∃x,l[k]? =some x:=⟨_,lgE hlt⟩;have hxa:=Qhi alh hi hx
  conv=>cbv
  repeat' first|(refine ex _ _ _ ?_;(conv=>cbv))|(refine rt _ _ ?_;(conv=>cbv))|refine QaF (har _) rfl rfl ?_ ?_|(refine QdX (ht _ (by simp only[decide_eq_true_eq]at *;omega) (by simp only[decide_eq_true_eq]at *;omega)) rfl rfl ?_)|(intro e he;cases osj (he.symm.trans hxa);(conv=>cbv))|(intro e he;obtain⟨y,hy,rfl⟩:=Qbo alh he;(conv=>cbv))|exact gu|exact trivial|refine And.intro ?_ ?_|(intro hc;first|exact absurd hc (by decide)|(exfalso;omega)|((first|rw[wS (by omega) (by omega)]at hc|rw[Qad]at hc|skip);try (conv=>cbv)))|refine CallG.old ?_
  all_goals simp only[decide_eq_true_eq,decide_eq_false_iff_not]at*
  all_goals first
   |(refine no k hlt (na k x hx (.inl ?_));rw[tn x (by omega)];omega)
   |(refine no k hlt (na k x hx (.inl ?_));rw[tv x (by omega) (by omega)];omega)
   |(refine no k hlt (na k x hx (.inr ⟨?_,y,QfC hy ?_,?_⟩))<;>omega)
   |skip
  all_goals
   refine norm _ _ _ ?_ (Wk.cw);refine⟨by omega,by omega,fun j hj=> ?_⟩;rcases Nat.lt_or_ge j k with h|h
   ·exact hok j h
   ·obtain rfl:j=k:=by omega
    first
     |(refine ya j x hx ?_ (.inr ⟨y,QfC hy ?_,?_⟩);(rw[tv x (by omega) (by omega)];omega);all_goals omega)
     |(refine ya j x hx ?_ (.inl ?_);(rw[tv x (by omega) (by omega)];omega);all_goals omega)
 ·conv=>cbv
  repeat' first|(refine ex _ _ _ ?_;(conv=>cbv))|(refine rt _ _ ?_;(conv=>cbv))|exact gu|exact trivial|refine And.intro ?_ ?_|(intro hc;first|exact absurd hc (by decide)|(exfalso;omega)|((first|rw[wS (by omega) (by omega)]at hc|rw[Qad]at hc|skip);try (conv=>cbv)))|refine CallG.old ?_
  exact yes fun j hj=>hok j (by omega)
def QtQ(t:Top)(n d:Int)(e:Ety):Bool:=
 QnH t n e.arcs&& !(decide (d=n)&&decide (0<e.arcs.length))&&(if e.rep then decide (e.arcs.length=1/\e.push.length<=32)else decide (e.push.length=0))&&e.push.all (Qtp t)
theorem QdZ{t:Top}{n d:Int}{e:Ety}:QtQ t n d e=true↔
  QnH t n e.arcs=true/\¬(d=n/\0<e.arcs.length)/\(e.rep=true->e.arcs.length=1/\e.push.length<=32)/\(e.rep=false->e.push.length=0)/\∀s∈e.push,Qtp t s=true:=by
 cases h:e.rep<;>simp only[QtQ,h,Bool.and_eq_true,List.all_eq_true,and_assoc,Bool.not_eq_true',Bool.and_eq_false_iff,decide_eq_false_iff_not,decide_eq_true_eq,if_true,if_false,Bool.false_eq_true,false_implies,true_and,forall_const,Classical.not_and_iff_not_or_not,reduceCtorEq]
def Qke(t:Top)(x:Tab):Bool:=
 Qao t&&decide (0<=x.node/\x.node<t.nodes)&&decide ((x.to.length:Int)=t.nodes)&&QnH t x.node x.down&&(List.range x.to.length).all fun d=>QtQ t x.node d (x.to.getD d default)
theorem Qc7{t:Top}{x:Tab}:Qke t x=true↔Qao t=true/\(0<=x.node/\x.node<t.nodes)/\(x.to.length:Int)=t.nodes/\QnH t x.node x.down=true/\∀(i:Nat) (e:Ety),x.to[i]? =some e->QtQ t x.node i e=true:=by
 simp only[Qke,Bool.and_eq_true,decide_eq_true_eq,List.all_eq_true,List.mem_range,and_assoc];constructor
 ·rintro⟨h1,h2,h3,h4,h5,h6⟩;refine⟨h1,h2,h3,h4,h5,fun i e he=> ?_⟩;have:=h6 i (Qaa he);rw[QgZ he]at this;exact this
 ·rintro⟨h1,h2,h3,h4,h5,h6⟩;exact⟨h1,h2,h3,h4,h5,fun i hi=>h6 i _ (by simp[List.getD,lgE hi])⟩
theorem Qsz(P:Program)(hP:P=Tryd.prog)(t:Top)(e:Ety)(n d:Int)(hv:Qao t=true)(hn0:0<=n):Ret P QfH [Qa2 t,Qwd e,iA n,iA d] (bA (QtQ t n d e)):=by
 refine Qag (hP▸mixed) (hP▸Qjb) (hP▸Qj1) (nle rfl) fun Λ Λo K hK=> ?_
 have h256:=(Qai.1 hv).2.2.1;have hl:=Qkr P hP t n e.arcs hv hn0;have hg:=fun s=>Qwp P hP t s h256
 clear hP;have yes:(QnH t n e.arcs=true/\¬(d=n/\0<e.arcs.length)/\(e.rep=true->e.arcs.length=1/\e.push.length<=32)/\(e.rep=false->e.push.length=0)/\∀s∈e.push,Qtp t s=true)->K (bA true):=fun h=>by
  rw[QdZ.2 h]at hK;exact hK
 have no:¬(QnH t n e.arcs=true/\¬(d=n/\0<e.arcs.length)/\(e.rep=true->e.arcs.length=1/\e.push.length<=32)/\(e.rep=false->e.push.length=0)/\∀s∈e.push,Qtp t s=true)->K (bA false):=fun h=>by
  rw[show QtQ t n d e=false from Bool.eq_false_iff.2 fun h'=>h (QdZ.1 h')]at hK;exact hK
 clear hK hv;obtain⟨arcs,rep,push⟩:=e;simp only[Qwd,QaT,QaU,Qbn,QzS]at*;generalize QnH t n arcs=ob at*;generalize Qtp t=sb at*;generalize alh:List.map QaA arcs=al at*;have aln:Λ al=arcs.length:=by rw[Λo,←alh];simp
 generalize plh:List.map Qal push=pl at*;have pln:Λ pl=push.length:=by rw[Λo,←plh];simp
 obtain⟨nodes,ov,links⟩:=t;simp only[Qa2,Qaf,Qak]at*;generalize hol:ov.map QbA=ol at*;generalize hll:links.map QaL=ll at*;have hlo:Λ ol=ov.length:=by rw[Λo,←hol];simp
 have hls:Λ ll=links.length:=by rw[Λo,←hll];simp
 cases rep
 all_goals
  conv=>cbv
  repeat' first|refine QaF hl rfl rfl ?_ ?_|exact gu|exact trivial|refine And.intro ?_ ?_|(intro hc;first|exact absurd hc (by decide)|(exfalso;omega)|((first|rw[wS (by omega) (by omega)]at hc|rw[Qad]at hc|skip);try (conv=>cbv)))|refine CallG.old ?_
 all_goals try (refine no fun h=> ?_;obtain⟨h1,h2,h3,h4,_⟩:=h;first|omega|(have:=h3 rfl;omega)|(have:=h4 rfl;omega)|(rw[h1]at hc;cases hc))
 all_goals try (refine yes ⟨by assumption,by omega,(by simp),by intro _;omega,?_⟩;obtain rfl:push=[]:=List.eq_nil_of_length_eq_zero (by omega);simp)
 all_goals
  refine Qba push.length (fun(i:Int)=>[(4,.c (.ptr 0 0 0 0)),(46,.c (.d (.list false 2 pl))),(47,iA (Λ pl)),(48,iA i)]) (fun _=>[.bx [.d (.int .i64 nodes),.d (.list false 1 ol),.d (.list false 7 ll)]]) (fun k i=>i=k/\k<=push.length/\∀s∈push.take k,sb s=true) 0 (Wk.cw) ⟨rfl,by omega,by simp⟩ (fun k s h=>h.2.1) ?_;rintro k i Q' ⟨hi,hk,hok⟩ norm ex rt;by_cases hlt:k<push.length
  ·obtain⟨x,hx⟩:∃x,push[k]? =some x:=⟨_,lgE hlt⟩;have hxa:=Qhi plh hi hx;obtain⟨xk,xn⟩:=x;have hgx:=hg ⟨xk,xn⟩
   conv=>cbv
   repeat' first|(refine ex _ _ _ ?_;(conv=>cbv))|(refine rt _ _ ?_;(conv=>cbv))|refine QaF hgx rfl rfl ?_ ?_|(intro e he;cases osj (he.symm.trans hxa);(conv=>cbv))|exact gu|exact trivial|refine And.intro ?_ ?_|(intro hc;first|exact absurd hc (by decide)|(exfalso;omega)|((first|rw[wS (by omega) (by omega)]at hc|rw[Qad]at hc|skip);try (conv=>cbv)))|refine CallG.old ?_
   ·refine norm _ _ _ ?_ (Wk.cw);refine⟨by omega,by omega,fun s hs=> ?_⟩;rw[Qas hx]at hs;rcases List.mem_append.1 hs with hs|hs
    ·exact hok s hs
    ·simp only[List.mem_singleton]at hs;subst hs;assumption
   ·refine no fun h=> ?_
    have:=h.2.2.2.2 _ (mgE hx);rw[this]at hc;cases hc
  ·conv=>cbv
   repeat' first|(refine ex _ _ _ ?_;(conv=>cbv))|(refine rt _ _ ?_;(conv=>cbv))|exact gu|exact trivial|refine And.intro ?_ ?_|(intro hc;first|exact absurd hc (by decide)|(exfalso;omega)|((first|rw[wS (by omega) (by omega)]at hc|rw[Qad]at hc|skip);try (conv=>cbv)))|refine CallG.old ?_
   refine yes ⟨by assumption,by omega,fun _=>by omega,by simp,?_⟩;rw[List.take_of_length_le (by omega)]at hok;exact hok
theorem QgC(P:Program)(hP:P=Tryd.prog)(t:Top)(x:Tab):Ret P Qgr [Qa2 t,QqR x] (bA (Qke t x)):=by
 refine Qag (hP▸mixed) (hP▸Qj8) (hP▸Qle) (nle rfl) fun Λ Λo K hK=> ?_
 have hw:=Qnu P hP t;have hn:=Qgk P hP t;have hl:=fun l=>Qkr P hP t x.node l
 have hp:=fun e d=>Qsz P hP t e x.node d
 clear hP;have yes:(Qao t=true/\(0<=x.node/\x.node<t.nodes)/\(x.to.length:Int)=t.nodes/\QnH t x.node x.down=true/\∀(i:Nat) (e:Ety),x.to[i]? =some e->QtQ t x.node i e=true)->K (bA true):=fun h=>by
  rw[Qc7.2 h]at hK;exact hK
 have no:¬(Qao t=true/\(0<=x.node/\x.node<t.nodes)/\(x.to.length:Int)=t.nodes/\QnH t x.node x.down=true/\∀(i:Nat) (e:Ety),x.to[i]? =some e->QtQ t x.node i e=true)->K (bA false):=fun h=>by
  rw[show Qke t x=false from Bool.eq_false_iff.2 fun h'=>h (Qc7.1 h')]at hK;exact hK
 clear hK;obtain⟨node,to,down⟩:=x;have hld:=hl down;simp only[QqR,Qh1,QaT,QaU]at*;generalize QnH t node down=ob at*;generalize QtQ t node=eb at*;generalize Qao t=v at*;generalize elh:List.map QaG to=el at*;have eln:Λ el=to.length:=by rw[Λo,←elh];simp
 generalize dlh:List.map QaA down=dl at*;have dln:Λ dl=down.length:=by rw[Λo,←dlh];simp
 obtain⟨nodes,ov,links⟩:=t;simp only[Qa2,Qaf,Qak]at*;generalize hol:ov.map QbA=ol at*;generalize hll:links.map QaL=ll at*;have hlo:Λ ol=ov.length:=by rw[Λo,←hol];simp
 have hls:Λ ll=links.length:=by rw[Λo,←hll];simp
 conv=>cbv
 repeat' first|refine QaF hw rfl rfl ?_ ?_|refine QaF (hn _) rfl rfl ?_ ?_|refine QaF (hld (by assumption) (by simp only[decide_eq_true_eq]at *;omega)) rfl rfl ?_ ?_|exact gu|exact trivial|refine And.intro ?_ ?_|(intro hc;first|exact absurd hc (by decide)|(exfalso;omega)|((first|rw[wS (by omega) (by omega)]at hc|rw[Qad]at hc|skip);try (conv=>cbv)))|refine CallG.old ?_
 all_goals try simp only[decide_eq_true_eq,decide_eq_false_iff_not]at*
 all_goals try (refine no fun h=> ?_;obtain⟨h1,h2,h3,h4,_⟩:=h;first|omega|(rw[h1]at hc;cases hc;done)|(rw[h4]at hc;cases hc;done)|(have:=‹ob=false›;rw[h4]at this;cases this;done))
 refine Qba to.length (fun(i:Int)=>[(2,.c (.ptr 0 0 0 0)),(3,.c (.ptr 1 0 0 0)),(35,.c (.d (.list false 3 el))),(36,iA (Λ el)),(37,iA i)]) (fun _=>[.bx [.d (.int .i64 nodes),.d (.list false 1 ol),.d (.list false 7 ll)],.bx [.d (.int .i64 node),.d (.list false 3 el),.d (.list false 1 dl)]]) (fun k i=>i=k/\k<=to.length/\∀(j:Nat) (e:Ety),j<k->to[j]? =some e->eb j e=true) 0 (Wk.cw) ⟨rfl,by omega,by simp⟩ (fun k s h=>h.2.1) ?_;rintro k i Q' ⟨hi,hk,hok⟩ norm ex rt;by_cases hlt:k<to.length
 ·obtain⟨x,hx⟩:∃x,to[k]? =some x:=⟨_,lgE hlt⟩;have hxa:=Qhi elh hi hx;obtain⟨arcs,rep,push⟩:=x;have hpx:=hp ⟨arcs,rep,push⟩ i (by assumption) (by omega);simp only[Qwd,QaG,QaU,Qbn]at hxa hpx;generalize List.map QaA arcs=al at*;generalize List.map Qal push=pl at*
  conv=>cbv
  repeat' first|(refine ex _ _ _ ?_;(conv=>cbv))|(refine rt _ _ ?_;(conv=>cbv))|refine QaF hpx rfl rfl ?_ ?_|(intro e he;cases osj (he.symm.trans hxa);(conv=>cbv))|exact gu|exact trivial|refine And.intro ?_ ?_|(intro hc;first|exact absurd hc (by decide)|(exfalso;omega)|((first|rw[wS (by omega) (by omega)]at hc|rw[Qad]at hc|skip);try (conv=>cbv)))|refine CallG.old ?_
  ·refine norm _ _ _ ?_ (Wk.cw);refine⟨by omega,by omega,fun j e hj he=> ?_⟩;rcases Nat.lt_or_ge j k with h|h
   ·exact hok j e h he
   ·obtain rfl:j=k:=by omega
    rw[hx]at he;cases he;rw[←hi];assumption
  ·refine no fun h=> ?_
   have:=h.2.2.2.2 k _ hx;rw[←hi,hc]at this;cases this
 ·conv=>cbv
  repeat' first|(refine ex _ _ _ ?_;(conv=>cbv))|(refine rt _ _ ?_;(conv=>cbv))|exact gu|exact trivial|refine And.intro ?_ ?_|(intro hc;first|exact absurd hc (by decide)|(exfalso;omega)|((first|rw[wS (by omega) (by omega)]at hc|rw[Qad]at hc|skip);try (conv=>cbv)))|refine CallG.old ?_
  exact yes ⟨by assumption,by omega,by omega,by assumption,fun j e he=>hok j e (by have:=Qaa he;omega) he⟩
theorem Qli(P:Program)(hP:P=Tryd.prog)(ll:List (List D))(hl:ll.length<=1000000):Ret P QaB [.c (.d (.list false 2 ll))] (.c (.d (.list false 2 ll))):=by
 refine Qag (hP▸mixed) (hP▸QbP) (hP▸QbV) (nle rfl) fun Λ Λo K hK=> ?_
 clear hP;have h0:ll=[]->K (.c (.d (.list false 2 []))):=fun h=>by rw[h]at hK;exact hK
 have lln:=Λo ll
 conv=>cbv
 repeat' first|exact gu|exact trivial|refine And.intro ?_ ?_|(intro hc;first|exact absurd hc (by decide)|(exfalso;omega)|((first|rw[wS (by omega) (by omega)]at hc|rw[Qad]at hc|skip);try (conv=>cbv)))|refine CallG.old ?_
 ·rename_i m r es hm hr hes ls;have:ls=ll:=by subst hc hes hm;simp
  rw[this];exact hK
 ·exact h0 hc
theorem QmI(P:Program)(hP:P=Tryd.prog)(l:List Seg)(hl:l.length<=1000000):Ret P QaB [Qf9 l] (Qf9 l):=
 Qli P hP _ (by rw[List.length_map];exact hl)
theorem Qgg(P:Program)(hP:P=Tryd.prog)(ll:List (List D))(hl:ll.length<=1000000):Ret P Qaw [.c (.d (.list false 1 ll))] (.c (.d (.list false 1 ll))):=by
 refine Qag (hP▸mixed) (hP▸Qbw) (hP▸QbD) (nle rfl) fun Λ Λo K hK=> ?_
 clear hP;have h0:ll=[]->K (.c (.d (.list false 1 []))):=fun h=>by rw[h]at hK;exact hK
 have lln:=Λo ll
 conv=>cbv
 repeat' first|exact gu|exact trivial|refine And.intro ?_ ?_|(intro hc;first|exact absurd hc (by decide)|(exfalso;omega)|((first|rw[wS (by omega) (by omega)]at hc|rw[Qad]at hc|skip);try (conv=>cbv)))|refine CallG.old ?_
 ·rename_i m r es hm hr hes ls;have:ls=ll:=by subst hc hes hm;simp
  rw[this];exact hK
 ·exact h0 hc
theorem QmH(P:Program)(hP:P=Tryd.prog)(l:List Int)(hl:l.length<=1000000):Ret P Qaw [QaT l] (QaT l):=
 Qgg P hP _ (by rw[List.length_map];exact hl)
def QiV(l:List Seg):List D:=[Qbn l]
theorem Qv5{P:Program}{m:Nat}{L:Lv}{h:Hp}{f:Nat}{fn:Func}{af:AF}{xs:List X}{K:Lv->AV->Hp->Prop}(hm:P.follows .mixedOrders=true)(hf:P.funcs[f]? =some fn)(hc:QaJ P fn=some af)(hl:(Qh2 L xs).length<=af.nt)
 (hv:∀Λ:Len,(∀l,Λ l=(l.length:Int))->vcH P Λ af (Qh2 L xs) h (K L)):CallS P m false L h f xs K:= .fn (Qn8 hm hf hc hl hv)
def Qc6(l:List (List Seg)):Nat:=(l.map List.length).sum
theorem QjK{l:List (List Seg)}{k:Nat}{x:List Seg}(h:l[k]? =some x):Qc6 (l.take (k+1))=Qc6 (l.take k)+x.length:=by
 rw[Qas h];simp[Qc6]
theorem QgB(l:List (List Seg))(k:Nat):Qc6 (l.take k)<=Qc6 l:=by
 have:Qc6 l=Qc6 (l.take k)+Qc6 (l.drop k):=by
  conv=>lhs;rw[←List.take_append_drop k l]
  simp[Qc6,-List.take_append_drop]
 omega
theorem Qt1(l:List (List Seg)):l.flatten.length=Qc6 l:=by simp[Qc6,List.length_flatten]
theorem Qlj(P:Program)(hP:P=Tryd.prog)(l:List (List Seg))(hl:Qc6 l<=1000000):Ret P QaV [.c (.d (.list false 1 (l.map QiV)))] (Qf9 l.flatten):=by
 refine Qag (hP▸mixed) (hP▸QbL) (hP▸QbN) (nle rfl) fun Λ Λo K hK=> ?_
 have gm:P.follows .mixedOrders=true:=hP▸mixed;have gf:=hP▸QbX;have gc:=hP▸QbZ;clear hP;generalize llh:l.map QiV=ll at*;have lln:Λ ll=l.length:=by rw[Λo,←llh];simp
 conv=>cbv
 repeat' first|exact gu|exact trivial|refine And.intro ?_ ?_|(intro hc;first|exact absurd hc (by decide)|(exfalso;omega)|((first|rw[wS (by omega) (by omega)]at hc|rw[Qad]at hc|skip);try (conv=>cbv)))|refine CallG.old ?_
 refine Qba l.length (fun(s:Int×Int)=>[(0,.c (.d (.list false 1 ll))),(3,iA s.2),(9,.c (.d (.list false 1 ll))),(10,iA (Λ ll)),(11,iA s.1)]) (fun _=>[]) (fun k s=>s.1=k/\k<=l.length/\s.2=Qc6 (l.take k)) (0,0) (Wk.cw) ⟨rfl,by omega,by simp[Qc6]⟩ (fun k s h=>h.2.1) ?_;rintro k ⟨i,sz⟩ Q' ⟨hi,hk,hsz⟩ norm ex rt;simp only at hi hsz;have hle:=QgB l k;by_cases hlt:k<l.length
 ·obtain⟨x,hx⟩:∃x,l[k]? =some x:=⟨_,lgE hlt⟩;have hxa:=Qhi llh hi hx;have hst:=QjK hx;have hle2:=QgB l (k+1);simp only[QiV,Qbn]at hxa;generalize xlh:List.map Qal x=xl at*;have xln:Λ xl=x.length:=by rw[Λo,←xlh];simp
  conv=>cbv
  repeat' first|(refine ex _ _ _ ?_;(conv=>cbv))|(refine rt _ _ ?_;(conv=>cbv))|(intro e he;cases osj (he.symm.trans hxa);(conv=>cbv))|exact gu|exact trivial|refine And.intro ?_ ?_|(intro hc;first|exact absurd hc (by decide)|(exfalso;omega)|((first|rw[wS (by omega) (by omega)]at hc|rw[Qad]at hc|skip);try (conv=>cbv)))|refine CallG.old ?_
  refine norm _ _ (_,_) ?_ (Wk.cw);exact⟨by simp only;omega,by omega,by simp only;omega⟩
 ·conv=>cbv
  repeat' first|(refine ex _ _ _ ?_;(conv=>cbv))|(refine rt _ _ ?_;(conv=>cbv))|exact gu|exact trivial|refine And.intro ?_ ?_|(intro hc;first|exact absurd hc (by decide)|(exfalso;omega)|((first|rw[wS (by omega) (by omega)]at hc|rw[Qad]at hc|skip);try (conv=>cbv)))|refine CallG.old ?_
  clear norm ex rt;rw[List.take_of_length_le (by omega)]at hsz;refine Qv5 gm gf gc (nle rfl) fun Λ' Λo'=> ?_
  have hΛ0:Λ' []=0:=by rw[Λo'];rfl
  conv=>cbv
  repeat' first|exact gu|exact trivial|refine And.intro ?_ ?_|(intro hc;first|exact absurd hc (by decide)|(exfalso;omega)|((first|rw[wS (by omega) (by omega)]at hc|rw[Qad]at hc|skip);try (conv=>cbv)))|refine CallG.old ?_
  all_goals (clear gm gf gc)
  all_goals first
   |refine Qba l.length (fun(s:Int×Nat×Nat×Bool×List (List D))=>[(6,.c (.arr 0 s.2.1 0 s.2.2.1)),(25,.c (.d (.list false 1 ll))),(26,iA (Λ ll)),(27,iA s.1)]) (fun s=>[.da s.2.2.2.1 s.2.1 2 s.2.2.2.2]) (fun k s=>s.1=k/\k<=l.length/\s.2.2.1=Qc6 (l.take k)/\s.2.2.2.2.take s.2.2.1=(l.take k).flatten.map Qal) (0,0,_,_,_) (Wk.cw) ⟨rfl,by omega,?_,?_⟩ (fun k s h=>h.2.1) ?_
   |refine Qba l.length (fun(s:Int×Nat×Nat×Bool×List (List D))=>[(6,.c (.arr 0 s.2.1 0 s.2.2.1)),(25,.c (.d (.list false 1 ll))),(26,iA (Λ ll)),(27,iA s.1)]) (fun s=>[.da s.2.2.2.1 s.2.1 2 s.2.2.2.2]) (fun k s=>s.1=k/\k<=l.length/\s.2.2.1=Qc6 (l.take k)/\s.2.2.2.2.take s.2.2.1=(l.take k).flatten.map Qal) (0,0,0,false,[]) (.trans (.nilS 6 2 rfl) (Wk.cw)) ⟨rfl,by omega,rfl,rfl⟩ (fun k s h=>h.2.1) ?_
  ·rename_i n0 hn0;rw[show n0=0 by omega];rfl
  ·rename_i n0 hn0;rw[show n0=0 by omega];rfl
  all_goals clear hle hlt hi hk
  all_goals rintro k ⟨i,v,n,r,es⟩ Q' ⟨hi,hk,hn,hes⟩ norm ex rt
  all_goals simp only at hi hes hn
  all_goals have hle:=QgB l k
  all_goals by_cases hlt:k<l.length
  case pos|pos=>
   obtain⟨x,hx⟩:∃x,l[k]? =some x:=⟨_,lgE hlt⟩;have hxa:=Qhi llh hi hx;have hst:=QjK hx;have hle2:=QgB l (k+1);simp only[QiV,Qbn]at hxa;generalize xlh:List.map Qal x=xl at*;have xln:Λ xl=x.length:=by rw[Λo,←xlh];simp
   have xll:xl.length=x.length:=by rw[←xlh];simp
   conv=>cbv
   repeat' first|(refine ex _ _ _ ?_;(conv=>cbv))|(refine rt _ _ ?_;(conv=>cbv))|(intro e he;cases osj (he.symm.trans hxa);(conv=>cbv))|(intro(_:Unit);refine⟨rfl,?_⟩;rw[xll];omega)|exact gu|exact trivial|refine And.intro ?_ ?_|(intro hc;first|exact absurd hc (by decide)|(exfalso;omega)|((first|rw[wS (by omega) (by omega)]at hc|rw[Qad]at hc|skip);try (conv=>cbv)))|refine CallG.old ?_
   rename_i m r' es' hm hr he' _;refine norm _ _ (_,_,_,_,_) ?_ (Wk.cw);refine⟨by simp only;omega,by omega,by simp only;omega,?_⟩;simp only;rw[hm,he',Qas hx,List.drop_zero,xll,hes,←xlh];have:n=(List.map Qal (List.take k l).flatten).length:=by rw[List.length_map,Qt1];exact hn
   rw[List.take_of_length_le (by simp only[List.length_append,List.length_map]at this ⊢;omega)];simp
  all_goals
   conv=>cbv
   repeat' first|(refine ex _ _ _ ?_;(conv=>cbv))|(refine rt _ _ ?_;(conv=>cbv))|exact gu|exact trivial|refine And.intro ?_ ?_|(intro hc;first|exact absurd hc (by decide)|(exfalso;omega)|((first|rw[wS (by omega) (by omega)]at hc|rw[Qad]at hc|skip);try (conv=>cbv)))|refine CallG.old ?_
   rename_i ls;have:ls=l.flatten.map Qal:=by rw[hc,List.drop_zero,hes,List.take_of_length_le (by omega)]
   subst this;exact hK
theorem QoV(P:Program)(hP:P=Tryd.prog)(p:Pkt)(l:List Seg)(hl:l.length<=1000000):Ret P QfE [Qdj p,Qf9 l] (Qdj {p with stack:=l}):=by
 have hq:=QmI P hP l hl;refine Qag (hP▸mixed) (hP▸Qi8) (hP▸QjY) (nle rfl) fun Λ Λo K hK=> ?_
 clear hP;obtain⟨id,src,dst,flow,stack,hops⟩:=p;simp only[Qf9,Qbn,Qdj]at*;generalize llh:List.map Qal l=ll at*;generalize slh:List.map Qal stack=sl at*
 conv=>cbv
 repeat' first|(refine Qaj hq rfl rfl ?_;conv=>cbv)|exact gu|exact trivial|refine And.intro ?_ ?_|(intro hc;first|exact absurd hc (by decide)|(exfalso;omega)|((first|rw[wS (by omega) (by omega)]at hc|rw[Qad]at hc|skip);try (conv=>cbv)))|refine CallG.old ?_
 exact hK
def QvL(arcs:List Int)(p:Pkt)(r:Int):AV:= .tup [QaT arcs,Qdj p,iA r]
theorem QrG(P:Program)(hP:P=Tryd.prog)(p:Pkt)(r:Int)(hl:p.stack.length<=1000000):Ret P QfD [Qdj p,iA r] (QvL [] p r):=by
 have hq:=QoV P hP p p.stack hl;refine Qag (hP▸mixed) (hP▸Qi7) (hP▸QjX) (nle rfl) fun Λ Λo K hK=> ?_
 clear hP;obtain⟨id,src,dst,flow,stack,hops⟩:=p;simp only[Qf9,Qbn,Qdj,QvL,QaT,QaU,List.map_nil]at*;generalize slh:List.map Qal stack=sl at*
 conv=>cbv
 repeat' first|(refine Qaj hq rfl rfl ?_;conv=>cbv)|exact gu|exact trivial|refine And.intro ?_ ?_|(intro hc;first|exact absurd hc (by decide)|(exfalso;omega)|((first|rw[wS (by omega) (by omega)]at hc|rw[Qad]at hc|skip);try (conv=>cbv)))|refine CallG.old ?_
 exact hK
theorem QlO(P:Program)(hP:P=Tryd.prog)(p:Pkt)(l:List Seg)(arcs:List Int)(hl:l.length<=1000000)(ha:arcs.length<=1000000)(h0: -1000<=p.hops)(h1:p.hops<=1000):Ret P QeZ [Qdj p,Qf9 l,QaT arcs] (QvL arcs {p with stack:=l,hops:=p.hops+1} 0):=by
 have hq:=QoV P hP p l hl;have hr:=QmH P hP arcs ha;refine Qag (hP▸mixed) (hP▸Qh4) (hP▸QiG) (nle rfl) fun Λ Λo K hK=> ?_
 clear hP;obtain⟨id,src,dst,flow,stack,hops⟩:=p;simp only[Qf9,Qbn,Qdj,QvL,QaT,QaU]at*;generalize slh:List.map Qal stack=sl at*;generalize llh:List.map Qal l=ll at*;generalize alh:List.map QaA arcs=al at*
 conv=>cbv
 repeat' first|(refine Qaj hq rfl rfl ?_;conv=>cbv)|(refine Qaj hr rfl rfl ?_;conv=>cbv)|exact gu|exact trivial|refine And.intro ?_ ?_|(intro hc;first|exact absurd hc (by decide)|(exfalso;omega)|((first|rw[wS (by omega) (by omega)]at hc|rw[Qad]at hc|skip);try (conv=>cbv)))|refine CallG.old ?_
 all_goals (subst hc;exact hK)
def Qds(p:Pkt)(l:List Seg)(arcs:List Int):List Int×Pkt×Int:=(arcs,{p with stack:=l,hops:=p.hops+1},0)
def QcY(p:Pkt)(l:List Seg)(e:Ety):List Int×Pkt×Int:=
 if e.rep=true then (if (e.push++l.drop 1).length>32 then ([],p,5)else Qds p (e.push++l.drop 1) e.arcs)else Qds p l e.arcs
abbrev Qk6 (x:List Int×Pkt×Int):AV:=QvL x.1 x.2.1 x.2.2
theorem QtR(P:Program)(hP:P=Tryd.prog)(p:Pkt)(l:List Seg)(e:Ety)(hl:l.length<=100000)(hs:p.stack.length<=1000000)(ha:e.arcs.length<=1000000)(hp:e.push.length<=100000)(h0: -1000<=p.hops)(h1:p.hops<=1000):
  Ret P QeY [Qdj p,Qf9 l,Qwd e] (Qk6 (QcY p l e)):=by
 obtain⟨arcs,rep,push⟩:=e;have hdrop:=QrG P hP p 5 hs;have hleave:=QlO P hP p l arcs (by omega) ha h0 h1;have hcat:=Qlj P hP [push,l.drop 1] (by simp[Qc6];simp only at hp;omega);have hleave2:=QlO P hP p (push++l.drop 1) arcs (by simp;simp only at hp;omega) ha h0 h1;refine Qag (hP▸mixed) (hP▸Qh3) (hP▸QiF) (nle rfl) fun Λ Λo K hK=> ?_
 clear hP;have k0:rep=false->K (Qk6 (Qds p l arcs)):=by intro h;subst h;simpa [QcY]using hK
 have k1:rep=true->(push++l.drop 1).length>32->K (Qk6 ([],p,5)):=by
  intro h h';subst h;simp only[QcY,if_true]at hK;rw[if_pos h']at hK;exact hK
 have k2:rep=true->¬(push++l.drop 1).length>32->K (Qk6 (Qds p (push++l.drop 1) arcs)):=by
  intro h h';subst h;simp only[QcY,if_true]at hK;rw[if_neg h']at hK;exact hK
 clear hK;simp only at ha hp;obtain⟨id,src,dst,flow,stack,hops⟩:=p;simp only[Qf9,Qbn,Qdj,QvL,QaT,QaU,Qwd,Qk6,Qds,List.map_nil,List.map_cons,QiV,List.flatten_cons,List.flatten_nil,List.append_nil]at*;have hcl:Λ (List.map Qal (push++l.drop 1))=(push++l.drop 1).length:=by rw[Λo];simp
 generalize clh:push++l.drop 1=c at*;generalize cmh:List.map Qal c=cm at*;generalize slh:List.map Qal stack=sl at*;generalize plh:List.map Qal push=pl at*;simp only[List.map_drop]at*;generalize llh:List.map Qal l=ll at*;have lln:Λ ll=l.length:=by rw[Λo,←llh];simp
 generalize tlh:List.drop 1 ll=tl at*;generalize alh:List.map QaA arcs=al at*;cases rep
 all_goals (conv=>cbv)
 all_goals (repeat' first|(refine Qaj hleave rfl rfl ?_;conv=>cbv)|(refine Qaj hdrop rfl rfl ?_;conv=>cbv)|(refine Qaj hleave2 rfl rfl ?_;conv=>cbv)|exact gu|exact trivial|refine And.intro ?_ ?_|(intro hc;first|exact absurd hc (by decide)|(exfalso;omega)|((first|rw[wS (by omega) (by omega)]at hc|rw[Qad]at hc|skip);try (conv=>cbv)))|refine CallG.old ?_)
 all_goals (try exact k0 rfl)
 ·rename_i tl';have e:tl'=tl:=hc.trans tlh;subst e
  (refine Qhg 3 0 1 2 rfl rfl (by repeat' first|exact trivial|refine And.intro ?_ ?_|rfl) (by repeat' first|exact trivial|refine And.intro ?_ ?_|rfl) ?_;conv=>cbv)
  (refine Qaj hcat rfl rfl ?_;conv=>cbv)
  repeat' first|(refine Qaj hleave2 rfl rfl ?_;conv=>cbv)|(refine Qaj hdrop rfl rfl ?_;conv=>cbv)|exact gu|exact trivial|refine And.intro ?_ ?_|(intro hc;first|exact absurd hc (by decide)|(exfalso;omega)|((first|rw[wS (by omega) (by omega)]at hc|rw[Qad]at hc|skip);try (conv=>cbv)))|refine CallG.old ?_
  ·exact k1 rfl (by omega)
  ·exact k2 rfl (by omega)
 ·have e:tl=ll:=by
   rw[←tlh];have h0:ll.length=0:=by rw[Λo]at hc;omega
   rw[List.eq_nil_of_length_eq_zero h0];rfl
  subst e
  (refine Qhg 3 0 1 2 rfl rfl (by repeat' first|exact trivial|refine And.intro ?_ ?_|rfl) (by repeat' first|exact trivial|refine And.intro ?_ ?_|rfl) ?_;conv=>cbv)
  (refine Qaj hcat rfl rfl ?_;conv=>cbv)
  repeat' first|(refine Qaj hleave2 rfl rfl ?_;conv=>cbv)|(refine Qaj hdrop rfl rfl ?_;conv=>cbv)|exact gu|exact trivial|refine And.intro ?_ ?_|(intro hc;first|exact absurd hc (by decide)|(exfalso;omega)|((first|rw[wS (by omega) (by omega)]at hc|rw[Qad]at hc|skip);try (conv=>cbv)))|refine CallG.old ?_
  ·exact k1 rfl (by omega)
  ·exact k2 rfl (by omega)
abbrev Ans:=List Int×Pkt×Int
def ent(x:Tab)(n:Int):Ety:=x.to.getD n.toNat default
def Qdv(t:Top)(x:Tab)(p:Pkt):Ans:=
 if p.dst=x.node then ([],{p with stack:=[]},-1)
 else if p.hops<0\/255<=p.hops then ([],p,4)
 else if (0<=p.dst/\p.dst<t.nodes)/\0<(ent x p.dst).arcs.length then QcY p [] (ent x p.dst)else ([],p,1)
def Qea(t:Top)(x:Tab)(p:Pkt):List Seg->Ans
 |[]=>Qdv t x p
 |s::r=>
  if p.hops<0\/255<=p.hops then ([],p,4)
  else if s.kind=1 then (if (0<=s.num/\s.num<t.nodes)/\0<(ent x s.num).arcs.length then QcY p (s::r) (ent x s.num)else Qdv t x p)
  else if s.kind=2 then (if (0<=s.num/\s.num<2*t.links.length)/\Qgb t s.num=x.node then (if s.num∈x.down then Qdv t x p else Qds p r [s.num])else ([],p,2))
  else ([],p,1)
def Qfe(n:Int)(l:List Seg):List Seg:=l.dropWhile fun s=>decide (s=⟨1,n⟩)
def Qga(t:Top)(x:Tab)(p:Pkt):Ans:=
 if Qke t x=true/\0<=p.dst/\p.dst<t.nodes then (if p.stack.length>32 then ([],p,5)else Qea t x p (Qfe x.node p.stack))else ([],p,1)
theorem QwK{K:Ans->Prop}{t:Top}{x:Tab}{p:Pkt}(h:K (Qdv t x p)):
  (p.dst=x.node->K ([],{p with stack:=[]},-1))/\(p.dst≠x.node->(p.hops<0\/255<=p.hops)->K ([],p,4))/\
  (p.dst≠x.node->¬(p.hops<0\/255<=p.hops)->(0<=p.dst/\p.dst<t.nodes)->0<(ent x p.dst).arcs.length->K (QcY p [] (ent x p.dst)))/\
  (p.dst≠x.node->¬(p.hops<0\/255<=p.hops)->¬((0<=p.dst/\p.dst<t.nodes)/\0<(ent x p.dst).arcs.length)->K ([],p,1)):=by
 unfold Qdv at h;refine⟨fun h1=> ?_,fun h1 h2=> ?_,fun h1 h2 h3 h4=> ?_,fun h1 h2 h3=> ?_⟩
 ·rw[if_pos h1]at h;exact h
 ·rw[if_neg h1,if_pos h2]at h;exact h
 ·rw[if_neg h1,if_neg h2,if_pos ⟨h3,h4⟩]at h;exact h
 ·rw[if_neg h1,if_neg h2,if_neg h3]at h;exact h
theorem Qw2{K:Ans->Prop}{t:Top}{x:Tab}{p:Pkt}{s:Seg}{r:List Seg}(h:K (Qea t x p (s::r))):
  ((p.hops<0\/255<=p.hops)->K ([],p,4))/\
  (¬(p.hops<0\/255<=p.hops)->s.kind=1->(0<=s.num/\s.num<t.nodes)->0<(ent x s.num).arcs.length->K (QcY p (s::r) (ent x s.num)))/\
  (¬(p.hops<0\/255<=p.hops)->s.kind=1->¬((0<=s.num/\s.num<t.nodes)/\0<(ent x s.num).arcs.length)->K (Qdv t x p))/\
  (¬(p.hops<0\/255<=p.hops)->s.kind=2->¬((0<=s.num/\s.num<2*t.links.length)/\Qgb t s.num=x.node)->K ([],p,2))/\
  (¬(p.hops<0\/255<=p.hops)->s.kind=2->(0<=s.num/\s.num<2*t.links.length)->Qgb t s.num=x.node->s.num∈x.down->K (Qdv t x p))/\
  (¬(p.hops<0\/255<=p.hops)->s.kind=2->(0<=s.num/\s.num<2*t.links.length)->Qgb t s.num=x.node->s.num∉x.down->K (Qds p r [s.num]))/\
  (¬(p.hops<0\/255<=p.hops)->s.kind≠1->s.kind≠2->K ([],p,1)):=by
 simp only[Qea]at h;refine⟨fun h1=> ?_,fun h1 h2 h3 h4=> ?_,fun h1 h2 h3=> ?_,fun h1 h2 h3=> ?_,fun h1 h2 h3 h4 h5=> ?_,fun h1 h2 h3 h4 h5=> ?_,fun h1 h2 h3=> ?_⟩
 ·rw[if_pos h1]at h;exact h
 ·rw[if_neg h1,if_pos h2,if_pos ⟨h3,h4⟩]at h;exact h
 ·rw[if_neg h1,if_pos h2,if_neg h3]at h;exact h
 ·rw[if_neg h1,if_neg (by omega),if_pos h2,if_neg h3]at h;exact h
 ·rw[if_neg h1,if_neg (by omega),if_pos h2,if_pos ⟨h3,h4⟩,if_pos h5]at h;exact h
 ·rw[if_neg h1,if_neg (by omega),if_pos h2,if_pos ⟨h3,h4⟩,if_neg h5]at h;exact h
 ·rw[if_neg h1,if_neg h2,if_neg h3]at h;exact h
def Fit(x:Tab)(p:Pkt):Prop:=(∀e∈x.to,e.arcs.length<=1000/\e.push.length<=1000)/\p.stack.length<=1000
abbrev QsW (nodes:Int) (ol ll:List (List D)) (node:Int) (tl dl:List (List D)) (id src dst flow:Int) (sl:List (List D)) (hops:Int):Hp:=
  [.bx [.d (iD nodes),.d (.list false 1 ol),.d (.list false 7 ll)],.bx [.d (iD node),.d (.list false 3 tl),.d (.list false 1 dl)],
   .bx [.d (iD id),.d (iD src),.d (iD dst),.d (iD flow),.d (.list false 2 sl),.d (iD hops)],.bx [.d (iD 0),.d (iD 0),.d (iD 0),.d (iD 0),.d (.list true 2 []),.d (iD 0)]]
abbrev QsX (l:List (List D)):Lv:=[(3,.c (.ptr 0 0 0 0)),(4,.c (.ptr 1 0 0 0)),(5,.c (.ptr 2 0 0 0)),(6,.c (.d (.list true 1 []))),(7,.c (.ptr 3 0 0 0)),(8,iA 0),(9,.c (.d (.list false 2 l)))]
set_option maxHeartbeats 4000000 in
theorem Qxc(P:Program)(hP:P=Tryd.prog)(t:Top)(x:Tab)(p:Pkt)(hf:Fit x p):Ret P QdS [Qa2 t,QqR x,Qdj p] (Qk6 (Qga t x p)):=by
 obtain⟨hf1,hf2⟩:=hf;have hval:=QgC P hP t x;have hnode:=fun n=>Qgk P hP t n
 have harc:=fun n=>Qok P hP t n
 have htail:=fun n=>QlJ P hP t n
 have hcont:=fun n=>QnZ P hP x.down n
 have hdrop:=fun r=>QrG P hP p r (by omega)
 have hwith:=QoV P hP p [] (by simp);have hleave:=fun r n=>QlO P hP p r [n]
 have henter:=fun l e=>QtR P hP p l e
 refine Qag (hP▸mixed) (hP▸Qi6) (hP▸QjW) (nle rfl) fun Λ Λo K hK=> ?_
 clear hP;have k1:¬(Qke t x=true/\0<=p.dst/\p.dst<t.nodes)->K (Qk6 ([],p,1)):=by
  intro h;unfold Qga at hK;rw[if_neg h]at hK;exact hK
 have k2:(Qke t x=true/\0<=p.dst/\p.dst<t.nodes)->p.stack.length>32->K (Qk6 ([],p,5)):=by
  intro h h';unfold Qga at hK;rw[if_pos h,if_pos h']at hK;exact hK
 have k3:(Qke t x=true/\0<=p.dst/\p.dst<t.nodes)->¬p.stack.length>32->K (Qk6 (Qea t x p (Qfe x.node p.stack))):=by
  intro h h';unfold Qga at hK;rw[if_pos h,if_neg h']at hK;exact hK
 clear hK;have hspec:= @Qc7 t x;have hpk:= @QwK (fun a=>K (Qk6 a)) t x p;have hrk:= @Qw2 (fun a=>K (Qk6 a)) t x p;have hskip:∀s r,s=⟨1,x.node⟩->Qfe x.node (s::r)=Qfe x.node r:=by intro s r h;subst h;simp[Qfe]
 have hskip':∀s r,s≠⟨1,x.node⟩->Qfe x.node (s::r)=s::r:=by intro s r h;simp[Qfe,h]
 have hsn:Qfe x.node []=[]:=rfl;generalize Qfe x.node=sk at*;generalize hvb:Qke t x=vb at*;obtain⟨nodes,ov,links⟩:=t;obtain⟨node,to,down⟩:=x;obtain⟨id,src,dst,flow,stack,hops⟩:=p;generalize htg:Qgb ⟨nodes,ov,links⟩=tg at*;generalize hrs:Qea ⟨nodes,ov,links⟩ ⟨node,to,down⟩ ⟨id,src,dst,flow,stack,hops⟩=rs at*;simp only[Qa2,QqR,Qh1,Qaf,Qak,Qf9,Qbn,Qdj,Qk6,QvL,QaT,QaU,List.map_nil,List.map_cons,QaA]at*;generalize hol:ov.map QbA=ol at*;generalize hll:links.map QaL=ll at*;generalize htl:to.map QaG=tl at*;have tln:Λ tl=to.length:=by rw[Λo,←htl];simp
 generalize hdl:down.map QaA=dl at*;generalize slh:List.map Qal stack=sl at*;have sln:Λ sl=stack.length:=by rw[Λo,←slh];simp
 conv=>cbv
 repeat' first|refine QaF hval rfl rfl ?_ ?_|refine QaF (hnode _) rfl rfl ?_ ?_|(refine Qaj (hdrop _) rfl rfl ?_;conv=>cbv)|exact gu|exact trivial|refine And.intro ?_ ?_|(intro hc;first|exact absurd hc (by decide)|(exfalso;omega)|((first|rw[wS (by omega) (by omega)]at hc|rw[Qad]at hc|skip);try (conv=>cbv)))|refine CallG.old ?_
 all_goals try simp only[decide_eq_true_eq,decide_eq_false_iff_not]at*
 all_goals try (first|(refine k1 ?_;first|omega|simp_all;done)|(refine k2 ⟨by assumption,by omega,by omega⟩ (by omega)))
 rename_i hvt hd1 _;have hvt:vb=true:=by assumption
 have hd:0<=dst/\dst<nodes:=by assumption
 have kr:K (Qk6 (rs (sk stack))):=k3 ⟨hvt,hd⟩ (by omega);have hto:(to.length:Int)=nodes:=(hspec.1 hvt).2.2.1;have hlk:(links.length:Int)<=256:=(Qai.1 (hspec.1 hvt).1).2.2.1;have hento:∀n:Int,0<=n->n<nodes->∃a r q,to[n.toNat]? =some ⟨a,r,q⟩/\ent ⟨node,to,down⟩ n=⟨a,r,q⟩/\a.length<=1000/\q.length<=1000:=by
  intro n h1 h2;have h3:to[n.toNat]? =some (to[n.toNat]'(by omega)):=lgE (by omega);have h4:=hf1 _ (List.getElem_mem (l:=to) (n:=n.toNat) (by omega));generalize to[n.toNat]'(by omega)=e at h3 h4;obtain⟨a,r,q⟩:=e;exact⟨a,r,q,h3,by simp[ent,List.getD,h3],h4⟩
 clear k1 k2 k3 hspec hvb hf1;refine QcQ stack.length (fun(s:List Seg)=>(10,.c (.ptr 4 0 0 0))::QsX (s.map Qal)) (fun _=>QsW nodes ol ll node tl dl id src dst flow sl hops++[.bx [.d (iD 1),.d (iD node)]]) (fun k s=>s.length+k=stack.length/\sk s=sk stack) stack
  0 (fun(s:List Seg)=>QsX (s.map Qal)) (fun _=>QsW nodes ol ll node tl dl id src dst flow sl hops) (fun s=>s.length<=1000/\K (Qk6 (rs s))) (by rw[slh];exact Wk.cw) ⟨by omega,rfl⟩ (fun k s h=>by omega) ?_ ?_
 ·rintro k s Q' ⟨hk,hs⟩ norm jn ex rt;rw[←hs]at kr;have hj:∀L' h',sk s=s->Wk 0 L' h' (QsX (s.map Qal)) (QsW nodes ol ll node tl dl id src dst flow sl hops)->Q' (.exit 0) L' h':=fun L' h' hw=>jn L' h' s ⟨by omega,by rw[hw]at kr;exact kr⟩
  generalize rlh:List.map Qal s=rl at*;have rln:Λ rl=s.length:=by rw[Λo,←rlh];simp
  conv=>cbv
  repeat' first|(intro e he;obtain⟨⟨xk,xn⟩,hx,rfl⟩:=Qbo rlh he;(conv=>cbv))|exact gu|exact trivial|refine And.intro ?_ ?_|(intro hc;first|exact absurd hc (by decide)|(exfalso;omega)|((first|rw[wS (by omega) (by omega)]at hc|rw[Qad]at hc|skip);try (conv=>cbv)))|refine CallG.old ?_
  ·rename_i hxe rl';cases s with
   |nil=>cases hx
   |cons s0 r=>
    cases hx;have e:rl'=r.map Qal:=by rw[hc,←rlh];rfl
    subst e;refine norm _ _ r ?_ (Wk.cw);rw[hskip _ _ (by rw[hxe.1,hxe.2.1])]at hs;simp only[List.length_cons]at hk;exact⟨by omega,hs⟩
  all_goals refine hj _ _ ?_ (Wk.cw)
  ·cases s with
   |nil=>exact hsn
   |cons s0 r=>
    cases hx;refine hskip' _ _ fun h=>hc ?_
    injection h with h1 h2
    exact⟨h1,h2,trivial⟩
  ·cases s with
   |nil=>exact hsn
   |cons s0 r=>exfalso;simp only[List.length_cons]at rln;omega
 clear kr hskip hskip' hsn;rintro s ⟨hsl,kr⟩;generalize hsm:List.map Qal s=sm
 conv=>cbv
 refine Qba 1 (fun(s:List Seg)=>QsX (s.map Qal)) (fun _=>QsW nodes ol ll node tl dl id src dst flow sl hops) (fun k s=>k<=1/\(k=1->s=[])/\s.length<=1000/\K (Qk6 (rs s))) s (by rw[hsm];exact Wk.cw) ⟨by omega,by omega,by omega,kr⟩ (fun k s h=>h.1) ?_;clear kr hsl hsm sm;rintro k s Q' ⟨hk,hks,hsl,kr⟩ norm ex rt;cases s with
 |nil=>
  obtain⟨f1,f2,f3,f4⟩:=hpk (by have:=kr;rw[←hrs]at this;exact this);obtain⟨ea,er,eq,hx,he,hb1,hb2⟩:=hento dst hd.1 hd.2;have hxa:tl[dst.toNat]? =some (QaG ⟨ea,er,eq⟩):=by rw[←htl];simp[hx]
  have hen:=henter [] ⟨ea,er,eq⟩ (by simp) (Nat.le_trans hf2 (by decide)) (Nat.le_trans hb1 (by decide)) (Nat.le_trans hb2 (by decide));rw[he]at f3 f4;clear norm hrk hpk hento;generalize QcY ⟨id,src,dst,flow,stack,hops⟩ [] ⟨ea,er,eq⟩=en at*;obtain⟨na,⟨j1,j2,j3,j4,j5,j6⟩,nr⟩:=en;simp only[QaG,Qwd,QaU,Qbn,List.map_nil]at hxa hen f1 f2 f3 f4 ⊢;generalize ealh:List.map QaA ea=eal at*;have ealn:Λ eal=ea.length:=by rw[Λo,←ealh];simp
  generalize eqlh:List.map Qal eq=eql at*;have eqln:Λ eql=eq.length:=by rw[Λo,←eqlh];simp
  generalize List.map QaA na=nal at*;generalize List.map Qal j5=jl at*;have hΛ0:Λ []=0:=by rw[Λo];rfl
  conv=>cbv
  repeat' first|(refine ex _ _ _ ?_;(conv=>cbv))|(refine rt _ _ ?_;(conv=>cbv))|(intro e he;cases osj (he.symm.trans hxa);(conv=>cbv))|(refine Qaj hwith rfl rfl ?_;conv=>cbv)|(refine Qaj (hdrop _) rfl rfl ?_;conv=>cbv)|refine QaF (hnode _) rfl rfl ?_ ?_|(refine Qaj (hen (by omega) (by omega)) rfl rfl ?_;conv=>cbv)|exact gu|exact trivial|refine And.intro ?_ ?_|(intro hc;first|exact absurd hc (by decide)|(exfalso;omega)|((first|rw[wS (by omega) (by omega)]at hc|rw[Qad]at hc|skip);try (conv=>cbv)))|refine CallG.old ?_
  all_goals try simp only[decide_eq_true_eq,decide_eq_false_iff_not]at*
  all_goals first
   |(refine f1 ?_;assumption)
   |(refine f2 ?_ ?_;assumption;omega)
   |(refine f3 ?_ ?_ ?_ ?_;assumption;omega;omega;omega)
   |(refine f4 ?_ ?_ ?_;assumption;omega;omega)
 |cons s0 r=>
  obtain⟨s1,s2⟩:=s0;obtain rfl:k=0:=by
   rcases Nat.lt_or_ge k 1 with h|h
   ·omega
   ·exact absurd (hks (by omega)) (by simp)
  obtain⟨f1,f2,f3,f4,f5,f6,f7⟩:=hrk (s:=⟨s1,s2⟩) (r:=r) kr;have f3:¬(hops<0\/255<=hops)->s1=1->¬((0<=s2/\s2<nodes)/\0<(ent ⟨node,to,down⟩ s2).arcs.length)->K (Qk6 (rs [])):=by rw[←hrs];exact f3
  have f5:¬(hops<0\/255<=hops)->s1=2->(0<=s2/\s2<2*links.length)->tg s2=node->s2∈down->K (Qk6 (rs [])):=by rw[←hrs];exact f5
  simp only at f1 f2 f4 f6 f7;have hlv:=hleave r s2 (by simp only[List.length_cons]at hsl;omega) (by simp);have hnx:∀L' h',K (Qk6 (rs []))->Wk 0 L' h' (QsX []) (QsW nodes ol ll node tl dl id src dst flow sl hops)->Q' .normal L' h':=fun L' h' hK hw=>norm L' h' [] ⟨by omega,fun _=>rfl,by simp,hK⟩ hw
  generalize hrlh:List.map Qal (⟨s1,s2⟩::r)=rl at*;have rln:Λ rl=r.length+1:=by rw[Λo,←hrlh];simp
  have rl0:rl[(0:Int).toNat]? =some [iD s1,iD s2]:=by rw[←hrlh];rfl
  have rl1:List.drop 1 rl=r.map Qal:=by rw[←hrlh];rfl
  by_cases hs2:0<=s2/\s2<nodes
  ·obtain⟨ea,er,eq,hx,he,hb1,hb2⟩:=hento s2 hs2.1 hs2.2;have hxa:tl[s2.toNat]? =some (QaG ⟨ea,er,eq⟩):=by rw[←htl];simp[hx]
   have hen:=henter (⟨s1,s2⟩::r) ⟨ea,er,eq⟩ (by omega) (Nat.le_trans hf2 (by decide)) (Nat.le_trans hb1 (by decide)) (Nat.le_trans hb2 (by decide));rw[he]at f2 f3;generalize QcY ⟨id,src,dst,flow,stack,hops⟩ (⟨s1,s2⟩::r) ⟨ea,er,eq⟩=en at*;obtain⟨na,⟨j1,j2,j3,j4,j5,j6⟩,nr⟩:=en;simp only[hrlh]at hen;simp only[QaG,Qwd,Qds,QaU,Qbn,List.map_nil,List.map_cons,QaA]at hxa hen f1 f2 f3 f4 f5 f6 f7 hlv ⊢;generalize List.map Qal r=rr at*;generalize ealh:List.map QaA ea=eal at*;have ealn:Λ eal=ea.length:=by rw[Λo,←ealh];simp
   generalize eqlh:List.map Qal eq=eql at*;have eqln:Λ eql=eq.length:=by rw[Λo,←eqlh];simp
   generalize List.map QaA na=nal at*;generalize List.map Qal j5=jl at*;clear hpk hento kr norm henter hleave
   conv=>cbv
   repeat' first|(refine ex _ _ _ ?_;(conv=>cbv))|(refine rt _ _ ?_;(conv=>cbv))|(intro e he;cases osj (he.symm.trans hxa);(conv=>cbv))|(intro e he;cases osj (he.symm.trans rl0);(conv=>cbv))|(intro x hx;have e:=hx.trans rl1;subst e;(conv=>cbv))|(refine Qaj (hdrop _) rfl rfl ?_;conv=>cbv)|refine QaF (hnode _) rfl rfl ?_ ?_|refine QaF (harc _ hlk) rfl rfl ?_ ?_|refine QdX (htail _ (by simp only[decide_eq_true_eq]at *;omega) (by simp only[decide_eq_true_eq]at *;omega) hlk) rfl rfl ?_|refine QaF (hcont _) rfl rfl ?_ ?_|(refine Qaj (hen (by omega) (by omega)) rfl rfl ?_;conv=>cbv)|(refine Qhg 4 0 1 1 rfl rfl (by repeat' first|exact trivial|refine And.intro ?_ ?_|rfl) (by repeat' first|exact trivial|refine And.intro ?_ ?_|rfl) ?_;conv=>cbv)|(refine Qaj (hlv (by omega) (by omega)) rfl rfl ?_;conv=>cbv)|exact gu|exact trivial|refine And.intro ?_ ?_|(intro hc;first|exact absurd hc (by decide)|(exfalso;omega)|((first|rw[wS (by omega) (by omega)]at hc|rw[Qad]at hc|skip);try (conv=>cbv)))|refine CallG.old ?_
   all_goals try simp only[decide_eq_true_eq,decide_eq_false_iff_not]at*
   all_goals try subst hc
   all_goals first
    |(refine f1 ?_;omega)
    |(refine f2 ?_ ?_ ?_ ?_;omega;omega;omega;omega)
    |(refine f4 ?_ ?_ ?_;omega;omega;omega)
    |(refine f6 ?_ ?_ ?_ ?_ ?_;omega;omega;omega;omega;assumption)
    |(refine f7 ?_ ?_ ?_;omega;omega;omega)
    |(refine hnx _ _ ?_ (.trans (.fg 9) (Wk.cw));first|(refine f3 ?_ ?_ ?_;omega;omega;omega;done)|(refine f5 ?_ ?_ ?_ ?_ ?_;omega;omega;omega;omega;assumption;done))
    |trace_state
  ·simp only[Qds,List.map_nil,List.map_cons,QaA]at f1 f4 f5 f6 f7 hlv ⊢;generalize List.map Qal r=rr at*;clear hpk hento kr norm henter hleave f2
   conv=>cbv
   repeat' first|(refine ex _ _ _ ?_;(conv=>cbv))|(refine rt _ _ ?_;(conv=>cbv))|(intro e he;cases osj (he.symm.trans rl0);(conv=>cbv))|(intro x hx;have e:=hx.trans rl1;subst e;(conv=>cbv))|(refine Qaj (hdrop _) rfl rfl ?_;conv=>cbv)|refine QaF (hnode _) rfl rfl ?_ ?_|refine QaF (harc _ hlk) rfl rfl ?_ ?_|refine QdX (htail _ (by simp only[decide_eq_true_eq]at *;omega) (by simp only[decide_eq_true_eq]at *;omega) hlk) rfl rfl ?_|refine QaF (hcont _) rfl rfl ?_ ?_|(refine Qhg 4 0 1 1 rfl rfl (by repeat' first|exact trivial|refine And.intro ?_ ?_|rfl) (by repeat' first|exact trivial|refine And.intro ?_ ?_|rfl) ?_;conv=>cbv)|(refine Qaj (hlv (by omega) (by omega)) rfl rfl ?_;conv=>cbv)|(intro hc;exact absurd (of_decide_eq_true hc) hs2)|exact gu|exact trivial|refine And.intro ?_ ?_|(intro hc;first|exact absurd hc (by decide)|(exfalso;omega)|((first|rw[wS (by omega) (by omega)]at hc|rw[Qad]at hc|skip);try (conv=>cbv)))|refine CallG.old ?_
   all_goals try simp only[decide_eq_true_eq,decide_eq_false_iff_not]at*
   all_goals try subst hc
   all_goals first
    |(refine f1 ?_;omega)
    |(refine f4 ?_ ?_ ?_;omega;omega;omega)
    |(refine f6 ?_ ?_ ?_ ?_ ?_;omega;omega;omega;omega;assumption)
    |(refine f7 ?_ ?_ ?_;omega;omega;omega)
    |(refine hnx _ _ ?_ (.trans (.fg 9) (Wk.cw));first|(refine f3 ?_ ?_ ?_;omega;omega;omega;done)|(refine f5 ?_ ?_ ?_ ?_ ?_;omega;omega;omega;omega;assumption;done))
    |trace_state
theorem Qn0(P:Program)(hP:P=Tryd.prog)(t:Top)(a:Int):Ret P Qhp [Qa2 t,iA a] (iA (Qbt t a)):=by
 refine Qag (hP▸mixed) (hP▸Qlz) (hP▸Qmw) (nle rfl) fun Λ Λo K hK=> ?_
 have hw:=Qk7 P hP t;clear hP;have leaf:∀b,Qbt t a=b->K (iA b):=fun b hb=>by rw[←hb];exact hK
 have hv2:=QdF t;have hta:Qbt t a=if 0<=a/\a<QbC t then (if a%2=0 then (QeP t a).c0 else (QeP t a).c1)else -1:=rfl
 have hat:∀x,t.links[(a/2).toNat]? =some x->QeP t a=x:=fun x hx=>by simp[QeP,hx]
 generalize QbC t=v at*;obtain⟨nodes,ov,links⟩:=t;simp only[Qa2,Qaf,Qak]at*;generalize hol:ov.map QbA=ol at*;generalize hll:links.map QaL=ll at*;have hlo:Λ ol=ov.length:=by rw[Λo,←hol];simp
 have hls:Λ ll=links.length:=by rw[Λo,←hll];simp
 conv=>cbv
 repeat' first|refine QdX hw rfl rfl ?_|(intro hc;rw[Qu1 (by omega) (by omega)]at hc;conv=>cbv)|(intro hc;rw[Qu2 (by omega)]at hc;conv=>cbv)|(intro(_:Unit);decide)|(intro e he;obtain⟨⟨xa,xb,xc,xd,xe,xf,xg⟩,hx,rfl⟩:=Qbo hll he;(conv=>cbv))|exact gu|exact trivial|refine And.intro ?_ ?_|(intro hc;first|exact absurd hc (by decide)|(exfalso;omega)|((first|rw[wS (by omega) (by omega)]at hc|rw[Qad]at hc|skip);try (conv=>cbv)))|refine CallG.old ?_
 ·exact leaf _ (by rw[hta,if_neg (by omega)])
 ·exact leaf _ (by rw[hta,if_neg (by omega)])
 all_goals
  refine leaf _ ?_;rw[hta,if_pos (by omega),hat _ (QfC hx (by omega))]
 ·rw[if_pos (by omega)]
 ·rw[if_neg (by omega)]
abbrev QaY (l:List Bool):AV:= .c (.d (Qaf l))
def ovT(t:Top)(n:Int):Bool:=Qao t&&decide (0<=n/\n<t.ov.length)&&t.ov.getD n.toNat false
theorem QlV(P:Program)(hP:P=Tryd.prog)(t:Top)(n:Int):Ret P QdJ [Qa2 t,iA n] (bA (ovT t n)):=by
 refine Qag (hP▸mixed) (hP▸Qf1) (hP▸Qgf) (nle rfl) fun Λ Λo K hK=> ?_
 have hw:=Qmb P hP t;clear hP;have leaf:∀b,ovT t n=b->K (bA b):=fun b hb=>by rw[←hb];exact hK
 have hta:ovT t n=(Qao t&&decide (0<=n/\n<t.ov.length)&&t.ov.getD n.toNat false):=rfl;generalize ovT t n=r at*;generalize Qao t=v at*;obtain⟨nodes,ov,links⟩:=t;simp only[Qa2,Qaf,Qak]at*;generalize hol:ov.map QbA=ol at*;generalize hll:links.map QaL=ll at*;have hlo:Λ ol=ov.length:=by rw[Λo,←hol];simp
 have hls:Λ ll=links.length:=by rw[Λo,←hll];simp
 conv=>cbv
 repeat' first|refine QaF hw rfl rfl ?_ ?_|(intro e he;obtain⟨x,hx,rfl⟩:=Qbo hol he;(conv=>cbv))|exact gu|exact trivial|refine And.intro ?_ ?_|(intro hc;first|exact absurd hc (by decide)|(exfalso;omega)|((first|rw[wS (by omega) (by omega)]at hc|rw[Qad]at hc|skip);try (conv=>cbv)))|refine CallG.old ?_
 ·refine leaf _ (hta.trans ?_);rw[‹v=true›,decide_eq_true (by omega)];simp[hx]
 ·refine leaf _ (hta.trans ?_);rw[decide_eq_false (by omega)];simp
 ·refine leaf _ (hta.trans ?_);rw[decide_eq_false (by omega)];simp
 ·refine leaf _ (hta.trans ?_);rw[hc];simp
def upB(down:List Bool)(a:Int):Bool:=decide (down.length=0)|| !down.getD a.toNat false
theorem Qu5(P:Program)(hP:P=Tryd.prog)(down:List Bool)(a:Int)(h:down.length=0\/(0<=a/\a<down.length)):Ret P Qku [QaY down,iA a] (bA (upB down a)):=by
 refine Qag (hP▸mixed) (hP▸Qoa) (hP▸Qp6) (nle rfl) fun Λ Λo K hK=> ?_
 clear hP;have leaf:∀b,upB down a=b->K (bA b):=fun b hb=>by rw[←hb];exact hK
 have hta:upB down a=(decide (down.length=0)|| !down.getD a.toNat false):=rfl;generalize upB down a=r at*;simp only[QaY,Qaf]at*;generalize hdl:down.map QbA=dl at*;have hdn:Λ dl=down.length:=by rw[Λo,←hdl];simp
 conv=>cbv
 repeat' first|(intro e he;obtain⟨x,hx,rfl⟩:=Qbo hdl he;(conv=>cbv))|exact gu|exact trivial|refine And.intro ?_ ?_|(intro hc;first|exact absurd hc (by decide)|(exfalso;omega)|((first|rw[wS (by omega) (by omega)]at hc|rw[Qad]at hc|skip);try (conv=>cbv)))|refine CallG.old ?_
 ·refine leaf _ (hta.trans ?_);rw[decide_eq_true (by omega)];simp
 ·have e:r= !x:=by
   rw[hta,decide_eq_false (by omega)];simp[hx]
  cases x
  ·conv=>cbv
   exact leaf _ e
  ·conv=>cbv
   exact leaf _ e
def Qa9(t:Top)(down:List Bool):Bool:=Qao t&&(decide (down.length=0)||decide (down.length=2*t.links.length))
theorem Qi2(P:Program)(hP:P=Tryd.prog)(t:Top)(down:List Bool):Ret P Qht [Qa2 t,QaY down] (bA (Qa9 t down)):=by
 refine Qag (hP▸mixed) (hP▸QlD) (hP▸QmA) (nle rfl) fun Λ Λo K hK=> ?_
 have hw:=Qmb P hP t;clear hP;have h256:Qao t=true->(t.links.length:Int)<=256:=fun h=>(Qai.1 h).2.2.1
 have leaf:∀b,Qa9 t down=b->K (bA b):=fun b hb=>by rw[←hb];exact hK
 have hta:Qa9 t down=(Qao t&&(decide (down.length=0)||decide (down.length=2*t.links.length))):=rfl;generalize Qa9 t down=r at*;generalize Qao t=v at*;simp only[QaY,Qaf]at*;generalize hdl:down.map QbA=dl at*;have hdn:Λ dl=down.length:=by rw[Λo,←hdl];simp
 obtain⟨nodes,ov,links⟩:=t;simp only[Qa2,Qaf,Qak]at*;generalize hol:ov.map QbA=ol at*;generalize hll:links.map QaL=ll at*;have hlo:Λ ol=ov.length:=by rw[Λo,←hol];simp
 have hls:Λ ll=links.length:=by rw[Λo,←hll];simp
 cases v
 all_goals (try simp only[forall_const]at h256)
 all_goals (conv=>cbv)
 all_goals (repeat' first|refine QaF hw rfl rfl ?_ ?_|(intro hc;cases hc;done)|exact gu|exact trivial|refine And.intro ?_ ?_|(intro hc;first|exact absurd hc (by decide)|(exfalso;omega)|((first|rw[wS (by omega) (by omega)]at hc|rw[Qad]at hc|skip);try (conv=>cbv)))|refine CallG.old ?_)
 ·exact leaf _ (hta.trans (by simp))
 all_goals (refine leaf _ (hta.trans ?_);first|(rw[decide_eq_true (p:=down.length=0) (by omega)];simp;done)|(rw[decide_eq_true (p:=down.length=2*links.length) (by omega)];simp;done)|(rw[decide_eq_false (p:=down.length=0) (by omega),decide_eq_false (p:=down.length=2*links.length) (by omega)];simp;done))
def Qch(t:Top)(n e:Int):Bool:=decide (n=e)|| !ovT t n
theorem QkJ(P:Program)(hP:P=Tryd.prog)(t:Top)(n e:Int):Ret P Qe2 [Qa2 t,iA n,iA e] (bA (Qch t n e)):=by
 refine Qag (hP▸mixed) (hP▸Qh7) (hP▸QiJ) (nle rfl) fun Λ Λo K hK=> ?_
 have hw:=QlV P hP t n;clear hP;have leaf:∀b,Qch t n e=b->K (bA b):=fun b hb=>by rw[←hb];exact hK
 have hta:Qch t n e=(decide (n=e)|| !ovT t n):=rfl;generalize Qch t n e=r at*;generalize ovT t n=v at*;obtain⟨nodes,ov,links⟩:=t;simp only[Qa2,Qaf,Qak]at*;generalize hol:ov.map QbA=ol at*;generalize hll:links.map QaL=ll at*;have hlo:Λ ol=ov.length:=by rw[Λo,←hol];simp
 have hls:Λ ll=links.length:=by rw[Λo,←hll];simp
 conv=>cbv
 repeat' first|refine QaF hw rfl rfl ?_ ?_|exact gu|exact trivial|refine And.intro ?_ ?_|(intro hc;first|exact absurd hc (by decide)|(exfalso;omega)|((first|rw[wS (by omega) (by omega)]at hc|rw[Qad]at hc|skip);try (conv=>cbv)))|refine CallG.old ?_
 all_goals (refine leaf _ ?_;simp_all)
def QaK(k:Nat):List Int:=(List.range k).map fun(k:Nat)=>(k:Int)
def Qkd(t:Top)(n:Int):List Int:=(QaK (QbC t).toNat).filter fun a=>decide (Qbm t a=n)
theorem Qci(k:Nat):QaK (k+1)=QaK k++[(k:Int)]:=by simp[QaK,List.range_succ]
theorem QvB(P:Program)(hP:P=Tryd.prog)(t:Top)(n:Int):Ret P Qjq [Qa2 t,iA n] (QaT (Qkd t n)):=by
 refine Qag (hP▸mixed) (hP▸QmU) (hP▸QnV) (nle rfl) fun Λ Λo K hK=> ?_
 have hw:=Qk7 P hP t;have ht:=QjM P hP t;clear hP;have hv2:=QdF t;have ho:Qkd t n=(QaK (QbC t).toNat).filter fun a=>decide (Qbm t a=n):=rfl
 rw[ho]at hK;clear ho;generalize hf:Qbm t=f at*;generalize QbC t=v at*;obtain⟨nodes,ov,links⟩:=t;simp only[Qa2,Qaf,Qak]at*;generalize hol:ov.map QbA=ol at*;generalize hll:links.map QaL=ll at*;have hlo:Λ ol=ov.length:=by rw[Λo,←hol];simp
 have hls:Λ ll=links.length:=by rw[Λo,←hll];simp
 simp only[QaT,QaU]at hK
 conv=>cbv
 repeat' first|exact gu|exact trivial|refine And.intro ?_ ?_|(intro hc;first|exact absurd hc (by decide)|(exfalso;omega)|((first|rw[wS (by omega) (by omega)]at hc|rw[Qad]at hc|skip);try (conv=>cbv)))|refine CallG.old ?_
 refine Qba v.toNat (fun(s:Int×Nat×Nat×Bool×List (List D))=>[(1,iA n),(2,.c (.ptr 0 0 0 0)),(5,.c (.arr 1 s.2.1 0 s.2.2.1)),(6,iA s.1)]) (fun s=>[.bx [.d (.int .i64 nodes),.d (.list false 1 ol),.d (.list false 7 ll)],.da s.2.2.2.1 s.2.1 1 s.2.2.2.2])
  (fun k s=>s.1=k/\k<=v.toNat/\s.2.2.1=s.2.2.2.2.length/\s.2.2.2.2=(((QaK k).filter fun a=>decide (f a=n)).map QaA)) (0,0,0,false,[]) (.trans (.nilS 5 1 rfl) (Wk.cw)) ⟨rfl,by omega,rfl,rfl⟩ (fun k s h=>h.2.1) ?_
 rintro k ⟨i,ve,m,r,es⟩ Q' ⟨hi,hk,hm,hes⟩ norm ex rt;simp only at hi hm hes;have hesl:es.length<=k:=by
  rw[hes,List.length_map];refine Nat.le_trans (List.length_filter_le _ _) ?_;simp[QaK]
 conv=>cbv
 repeat' first|(refine ex _ _ _ ?_;(conv=>cbv))|(refine rt _ _ ?_;(conv=>cbv))|refine QdX hw rfl rfl ?_|refine QdX (ht _) rfl rfl ?_|(intro(_:Unit);refine⟨rfl,?_⟩;simp only[List.length_cons,List.length_nil];omega)|exact gu|exact trivial|refine And.intro ?_ ?_|(intro hc;first|exact absurd hc (by decide)|(exfalso;omega)|((first|rw[wS (by omega) (by omega)]at hc|rw[Qad]at hc|skip);try (conv=>cbv)))|refine CallG.old ?_
 ·rename_i hfi hn m' r' es' hm' hr' he' i';refine norm _ _ (_,_,_,_,_) ?_ (Wk.cw);have e:es'=((QaK (k+1)).filter fun a=>decide (f a=n)).map QaA:=by
   rw[he',List.drop_zero,hm,List.take_length,hes,Qci,List.filter_append,List.map_append];rw[←hi,List.filter_cons_of_pos (by simp only[decide_eq_true_eq];omega)];rfl
  exact⟨by simp only;omega,by omega,by simp only;rw[hm',he',List.drop_zero,hm,List.take_length];simp,e⟩
 ·rename_i hfi hn i';refine norm _ _ (_,_,_,_,_) ?_ (Wk.cw);have e:es=((QaK (k+1)).filter fun a=>decide (f a=n)).map QaA:=by
   rw[hes,Qci,List.filter_append,List.map_append];rw[←hi,List.filter_cons_of_neg (by simp only[decide_eq_true_eq];omega)];simp
  exact⟨by simp only;omega,by omega,hm,e⟩
 ·rename_i ls;have e:ls=((QaK v.toNat).filter fun a=>decide (f a=n)).map QaA:=by
   rw[hc,List.drop_zero,hm,List.take_length,hes,show k=v.toNat by omega]
  subst e;exact hK
def xOf(t:Top)(fr:Bool)(a:Int):Int:=if fr then Qbi t a else Qbm t a
def yOf(t:Top)(fr:Bool)(a:Int):Int:=if fr then Qbm t a else Qbi t a
def Qf5(t:Top)(down:List Bool)(e:Int)(fr:Bool)(a:Int):Bool:=upB down a&&Qch t (yOf t fr a) e
abbrev gt (D:List Int) (i:Int):Int:=D.getD i.toNat (-1)
def Qn7(t:Top)(down:List Bool)(e:Int)(fr:Bool)(D:List Int)(a:Int):Prop:=
 Qf5 t down e fr a=true->0<=gt D (yOf t fr a)->0<=gt D (xOf t fr a)/\gt D (xOf t fr a)<=gt D (yOf t fr a)+Qbt t a
structure IsDist (t:Top) (down:List Bool) (e:Int) (fr:Bool) (D:List Int):Prop where
 len:(D.length:Int)=t.nodes
 zero:gt D e=0
 lo:∀i,0<=i->i<t.nodes-> -1<=gt D i
 fix:∀a:Int,0<=a->a<2*t.links.length->Qn7 t down e fr D a
 tight:∀x,0<=x->x<t.nodes->x≠e->0<=gt D x->∃a:Int,0<=a/\a<2*t.links.length/\Qf5 t down e fr a=true/\xOf t fr a=x/\0<=gt D (yOf t fr a)/\gt D x=gt D (yOf t fr a)+Qbt t a
theorem Qb5{t:Top}(hv:Qao t=true){a:Int}(h0:0<=a)(h1:a<2*t.links.length):
  (0<=Qbm t a/\Qbm t a<t.nodes)/\(0<=Qbi t a/\Qbi t a<t.nodes)/\Qbm t a≠Qbi t a/\1<=Qbt t a/\Qbt t a<=65535:=by
 have ha:QbC t=2*t.links.length:=by rw[QbC,if_pos hv]
 have hx:t.links[(a/2).toNat]? =some (t.links[(a/2).toNat]'(by omega)):=lgE (by omega);have hk:=Qd9.1 ((Qai.1 hv).2.2.2 _ (List.getElem_mem (l:=t.links) (n:=(a/2).toNat) (by omega)));have hl:QeP t a=t.links[(a/2).toNat]'(by omega):=by rw[QeP,hx];rfl
 rw[←hl]at hk;have hin:0<=a/\a<QbC t:=by omega
 simp only[Qbm,Qbi,Qbt,if_pos hin];by_cases h:a%2=0
 ·simp only[if_pos h];omega
 ·simp only[if_neg h];omega
theorem Qfx{t:Top}(hv:Qao t=true)(fr:Bool){a:Int}(h0:0<=a)(h1:a<2*t.links.length):
  (0<=xOf t fr a/\xOf t fr a<t.nodes)/\(0<=yOf t fr a/\yOf t fr a<t.nodes)/\xOf t fr a≠yOf t fr a:=by
 have:=Qb5 hv h0 h1;cases fr
 ·simp only[xOf,yOf,Bool.false_eq_true,if_false];exact⟨this.1,this.2.1,this.2.2.1⟩
 ·simp only[xOf,yOf,if_true];exact⟨this.2.1,this.1,fun h=>this.2.2.1 h.symm⟩
theorem Qn2{t:Top}(hv:Qao t=true){down:List Bool}{e:Int}{fr:Bool}{D D':List Int}(h:IsDist t down e fr D)(h':IsDist t down e fr D'):∀(n:Nat) (x:Int),0<=x->x<t.nodes->gt D x=n->0<=gt D' x/\gt D' x<=n:=by
 intro n;induction n using Nat.strongRecOn with
 |_ n ih=>
  intro x h0 h1 hx;by_cases hxe:x=e
  ·subst hxe;rw[h'.zero];omega
  ·obtain⟨a,a0,a1,ha,hxa,hy,hd⟩:=h.tight x h0 h1 hxe (by omega);have hf:=Qfx hv fr a0 a1;have hc:=Qb5 hv a0 a1;obtain⟨i0,i1⟩:=ih (gt D (yOf t fr a)).toNat (by omega) (yOf t fr a) hf.2.1.1 hf.2.1.2 (by omega);obtain⟨j0,j1⟩:=h'.fix a a0 a1 ha i0;rw[hxa]at j0 j1;exact⟨j0,by omega⟩
theorem Qn4{t:Top}(hv:Qao t=true){down:List Bool}{e:Int}{fr:Bool}{D D':List Int}(h:IsDist t down e fr D)(h':IsDist t down e fr D'):D=D':=by
 have hl:=h.len;have hl':=h'.len;have key:∀x:Int,0<=x->x<t.nodes->gt D x=gt D' x:=by
  intro x h0 h1;have l1:=h.lo x h0 h1;have l2:=h'.lo x h0 h1;by_cases c:0<=gt D x
  ·have e1:=Qn2 hv h h' (gt D x).toNat x h0 h1 (by omega);have e2:=Qn2 hv h' h (gt D' x).toNat x h0 h1 (by omega);omega
  ·by_cases c':0<=gt D' x
   ·have e2:=Qn2 hv h' h (gt D' x).toNat x h0 h1 (by omega);omega
   ·omega
 apply List.ext_getElem?;intro i;rcases Nat.lt_or_ge i D.length with hi|hi
 ·have:=key (i:Int) (by omega) (by omega);simp only[gt,Int.toNat_natCast,List.getD_eq_getElem?_getD,lgE hi,lgE (show i<D'.length by omega),Option.getD_some]at this;rw[lgE hi,lgE (by omega),this]
 ·rw[List.getElem?_eq_none hi,List.getElem?_eq_none (by omega)]
noncomputable def Qat(t:Top)(down:List Bool)(e:Int)(fr:Bool):List Int:=by
 classical
 exact if h:∃D,IsDist t down e fr D then Classical.choose h else []
theorem Qfi{t:Top}(hv:Qao t=true){down:List Bool}{e:Int}{fr:Bool}{D:List Int}(h:IsDist t down e fr D):Qat t down e fr=D:=by
 have hx:∃D,IsDist t down e fr D:=⟨D,h⟩;unfold Qat;rw[dif_pos hx];exact Qn4 hv (Classical.choose_spec hx) h
def wt(d:Int):Nat:=if d<0 then 5000000 else d.toNat
def msr(D:List Int):Nat:=(D.map wt).sum
def Qvn(D:List Int):Nat:=(D.map fun d=>if d<0 then 0 else 1).sum
theorem QsZ(f:Int->Nat):∀(D:List Int) (i:Nat) (v:Int) (u:Int),D[i]? =some u->((D.set i v).map f).sum+f u=(D.map f).sum+f v:=by
 intro D;induction D with
 |nil=>intro i v u h;simp at h
 |cons d D ih=>
  intro i v u h;cases i with
  |zero=>simp at h;subst h;simp;omega
  |succ i=>
   simp only[List.getElem?_cons_succ]at h;have:=ih i v u h;simp only[List.set_cons_succ,List.map_cons,List.sum_cons];omega
theorem Qx3:∀(D:List Int),Qvn D<=D.length:=by
 intro D;induction D with
 |nil=>simp[Qvn]
 |cons d D ih=>simp only[Qvn,List.map_cons,List.sum_cons,List.length_cons]at *;split<;>omega
structure Mid (t:Top) (down:List Bool) (e:Int) (fr:Bool) (D:List Int):Prop where
 len:(D.length:Int)=t.nodes
 zero:gt D e=0
 lo:∀i,0<=i->i<t.nodes-> -1<=gt D i
 hi:∀i,0<=i->i<t.nodes->gt D i<=65535*Qvn D
 loose:∀x,0<=x->x<t.nodes->x≠e->0<=gt D x->∃a:Int,0<=a/\a<2*t.links.length/\Qf5 t down e fr a=true/\xOf t fr a=x/\0<=gt D (yOf t fr a)/\gt D (yOf t fr a)+Qbt t a<=gt D x
theorem Mid.le{t:Top}(hv:Qao t=true){down:List Bool}{e:Int}{fr:Bool}{D:List Int}(h:Mid t down e fr D){i:Int}(h0:0<=i)(h1:i<t.nodes):gt D i<=4194240:=by
 have:=h.hi i h0 h1;have h2:=Qx3 D;have h3:=h.len;have h4:=(Qai.1 hv).1;omega
theorem Mid.dist{t:Top}{down:List Bool}{e:Int}{fr:Bool}{D:List Int}(h:Mid t down e fr D)(hf:∀a:Int,0<=a->a<2*t.links.length->Qn7 t down e fr D a):IsDist t down e fr D where
 len:=h.len
 zero:=h.zero
 lo:=h.lo
 fix:=hf
 tight x h0 h1 hx hd:=by
  obtain⟨a,a0,a1,ha,hxa,hy,hc⟩:=h.loose x h0 h1 hx hd;have:=(hf a a0 a1 ha hy).2;rw[hxa]at this;exact⟨a,a0,a1,ha,hxa,hy,by omega⟩
theorem QrU{D:List Int}{i j:Int}{v:Int}(h0:0<=i)(h1:i<D.length)(j0:0<=j):gt (D.set i.toNat v) j=if j=i then v else gt D j:=by
 simp only[gt,List.getD_eq_getElem?_getD,List.getElem?_set];by_cases h:j=i
 ·subst h;simp[show j.toNat<D.length by omega]
 ·have:i.toNat≠j.toNat:=by omega
  simp[this,h]
theorem Mid.step{t:Top}(hv:Qao t=true){down:List Bool}{e:Int}{fr:Bool}{D:List Int}(h:Mid t down e fr D){a:Int}(a0:0<=a)(a1:a<2*t.links.length)(ha:Qf5 t down e fr a=true)(hy:0<=gt D (yOf t fr a))
 (hc:gt D (xOf t fr a)<0\/gt D (yOf t fr a)+Qbt t a<gt D (xOf t fr a)):Mid t down e fr (D.set (xOf t fr a).toNat (gt D (yOf t fr a)+Qbt t a))/\msr (D.set (xOf t fr a).toNat (gt D (yOf t fr a)+Qbt t a))<msr D:=by
 have hf:=Qfx hv fr a0 a1;have hcs:=(Qb5 hv a0 a1).2.2.2;have hlen:=h.len;generalize hX:xOf t fr a=X at*;generalize hY:yOf t fr a=Y at*;generalize hC:gt D Y+Qbt t a=C at*;have hXl:X<D.length:=by omega
 have hg:∀j,0<=j->gt (D.set X.toNat C) j=if j=X then C else gt D j:=fun j j0=>QrU hf.1.1 hXl j0
 have hget:D[X.toNat]? =some (gt D X):=by
  simp only[gt,List.getD_eq_getElem?_getD,lgE (show X.toNat<D.length by omega),Option.getD_some]
 have hYle:=h.hi Y hf.2.1.1 hf.2.1.2;have hs1:=QsZ wt D X.toNat C (gt D X) hget;have hs2:=QsZ (fun d=>if d<0 then 0 else 1) D X.toNat C (gt D X) hget;have hYm:=h.le hv hf.2.1.1 hf.2.1.2;have hXe:X≠e:=by
  intro hh;rw[hh,h.zero]at hc;omega
 have hcnt:Qvn (D.set X.toNat C)=Qvn D+(if gt D X<0 then 1 else 0):=by
  simp only[Qvn];simp only[show ¬C<0 by omega,if_false]at hs2;by_cases hX0:gt D X<0
  ·rw[if_pos hX0]at hs2 ⊢;omega
  ·rw[if_neg hX0]at hs2 ⊢;omega
 refine⟨⟨by simp only[List.length_set];exact hlen,?_,?_,?_,?_⟩,?_⟩
 ·have he:gt D e=0:=h.zero;by_cases e0:0<=e
  ·rw[hg e e0,if_neg (fun hh=>hXe hh.symm)];exact he
  ·simp only[gt,show e.toNat=0 by omega]at he ⊢;by_cases x0:X=0
   ·exfalso;have hXg:gt D X=0:=by rw[x0];exact he
    rw[hXg]at hc;omega
   ·rw[List.getD_eq_getElem?_getD,List.getElem?_set_ne (by omega),←List.getD_eq_getElem?_getD];exact he
 ·intro i i0 i1;rw[hg i i0];split
  ·omega
  ·exact h.lo i i0 i1
 ·intro i i0 i1;rw[hg i i0,hcnt];have hi:=h.hi i i0 i1;split
  ·split
   ·omega
   ·have hX:=h.hi X hf.1.1 hf.1.2;omega
  ·split<;>omega
 ·intro x x0 x1 hxe hd;rw[hg x x0]at hd ⊢;by_cases hxX:x=X
  ·subst hxX;refine⟨a,a0,a1,ha,hX,?_,?_⟩
   ·rw[hY,hg Y hf.2.1.1,if_neg (fun hh=>hf.2.2 hh.symm)];exact hy
   ·rw[hY,hg Y hf.2.1.1,if_neg (fun hh=>hf.2.2 hh.symm),if_pos rfl];omega
  ·rw[if_neg hxX]at hd ⊢;obtain⟨b,b0,b1,hb,hxb,hyb,hcb⟩:=h.loose x x0 x1 hxe hd;have hfb:=Qfx hv fr b0 b1;refine⟨b,b0,b1,hb,hxb,?_,?_⟩
   ·rw[hg _ hfb.2.1.1];split<;>omega
   ·rw[hg _ hfb.2.1.1];split
    ·rename_i hh;rw[hh]at hyb hcb;omega
    ·exact hcb
 ·simp only[msr];have w1:wt C=C.toNat:=by rw[wt,if_neg (by omega)]
  have w2:wt (gt D X)>C.toNat:=by
   rw[wt];split<;>omega
  omega
noncomputable def QbG(t:Top)(down:List Bool)(n:Int)(fr:Bool):List Int×Int:=
 if Qa9 t down=true then (if 0<=n/\n<t.nodes then (Qat t down n fr,0)else ([],2))else ([],1)
theorem Qnc{t:Top}{down:List Bool}{n:Int}{fr:Bool}(h0:0<=n)(h1:n<t.nodes):Mid t down n fr ((List.replicate t.nodes.toNat (-1)).set n.toNat 0):=by
 have hl:n<(List.replicate t.nodes.toNat (-1:Int)).length:=by simp;omega
 have hg:∀j,0<=j->j<t.nodes->gt ((List.replicate t.nodes.toNat (-1)).set n.toNat 0) j=if j=n then 0 else -1:=by
  intro j j0 j1;rw[QrU h0 hl j0];split
  ·rfl
  ·simp only[gt,List.getD_eq_getElem?_getD,List.getElem?_replicate];split<;>rfl
 refine⟨by simp;omega,by rw[hg n h0 h1,if_pos rfl],fun i i0 i1=> ?_,fun i i0 i1=> ?_,fun x x0 x1 hx hd=> ?_⟩
 ·rw[hg i i0 i1];split<;>omega
 ·rw[hg i i0 i1];split<;>omega
 ·rw[hg x x0 x1,if_neg hx]at hd;omega
theorem QtY{k m:Nat}:(List.replicate k (-1:Int)++List.replicate (m+1) 0).set k (-1)=List.replicate (k+1) (-1)++List.replicate m 0:=by
 rw[List.set_append_right _ _ (by simp)];rw[List.length_replicate,Nat.sub_self,List.replicate_succ (n:=m),List.set_cons_zero,List.replicate_succ' (n:=k),List.append_assoc];rfl
theorem Qn5{D:List Int}{es:List (List Ab.D)}{p:Nat}{e:List Ab.D}{v:Int}(hes:D.map QaA=es)(he:es[p]? =some e):es.set p (List.take 0 e++([Ab.D.int .i64 v]++List.drop (0+[Ab.D.int .i64 v].length) e))=(D.set p v).map QaA:=by
 subst hes;obtain⟨x,hx,rfl⟩:=Qsi he;rw[List.map_set];rfl
theorem Qqp{D:List Int}{p:Nat}{i x:Int}(hx:D[p]? =some x)(hp:p=0+i.toNat):gt D i=x:=by
 subst hp;rw[Nat.zero_add]at hx;simp[gt,List.getD_eq_getElem?_getD,hx]
abbrev srH (nodes:Int) (ol ll:List (List D)) (es:List Int):Hp:=[.bx [.d (iD nodes),.d (.list false 1 ol),.d (.list false 7 ll)],.da true 0 1 (es.map QaA)]
abbrev srL (dl:List (List D)) (n:Int) (fr:Bool) (m:Nat):Lv:=[(1,.c (.d (.list false 1 dl))),(2,iA n),(3,bA fr),(4,.c (.ptr 0 0 0 0)),(10,.c (.arr 1 0 0 m))]
set_option maxHeartbeats 4000000 in
theorem QsR(P:Program)(hP:P=Tryd.prog)(t:Top)(down:List Bool)(n:Int)(fr:Bool):Ret P QfG [Qa2 t,QaY down,iA n,bA fr] (.tup [QaT (QbG t down n fr).1,iA (QbG t down n fr).2]):=by
  have hfits:=Qi2 P hP t down;have htail:=fun a=>QjM P hP t a
  have hhead:=fun a=>QrW P hP t a
  have hup:=fun a=>Qu5 P hP down a
  have htr:=fun y=>QkJ P hP t y n
  have hcost:=fun a=>Qn0 P hP t a
  refine Qag (hP▸mixed) (hP▸Qja) (hP▸Qj0) (nle rfl) fun Λ Λo K hK=> ?_
  clear hP;have k1:Qa9 t down=false->K (.tup [QaT [],iA 1]):=by
    intro h;rw[QbG,if_neg (by rw[h];decide)]at hK;exact hK
  have k2:Qa9 t down=true->¬(0<=n/\n<t.nodes)->K (.tup [QaT [],iA 2]):=by
    intro h h';rw[QbG,if_pos h,if_neg h']at hK;exact hK
  have k3:Qa9 t down=true->(0<=n/\n<t.nodes)->K (.tup [QaT (Qat t down n fr),iA 0]):=by
    intro h h';rw[QbG,if_pos h,if_pos h']at hK;exact hK
  clear hK;have hfb:Qa9 t down=true->Qao t=true/\(down.length=0\/down.length=2*t.links.length):=by
    intro h;simpa [Qa9]using h
  have hk4:Qao t=true->∀D,IsDist t down n fr D->Qat t down n fr=D:=fun hv D hD=>Qfi hv hD
  have hst:=fun(h0:0<=n) (h1:n<t.nodes)=>Qnc (t:=t) (down:=down) (n:=n) (fr:=fr) h0 h1
  have hxy:=fun(hv:Qao t=true) (a:Int) (h0:0<=a) (h1:a<2*t.links.length)=>Qfx hv fr h0 h1
  have hlen:=fun(D:List Int) (h:Mid t down n fr D)=>h.len
  have hmd:=fun(D:List Int) (h:Mid t down n fr D)=>h.dist
  have hms:=fun(hv:Qao t=true) (D:List Int) (h:Mid t down n fr D) (a:Int)=>h.step hv (a:=a)
  have hml:=fun(hv:Qao t=true) (D:List Int) (h:Mid t down n fr D) (i:Int)=>h.le hv (i:=i)
  have hcs:=fun(hv:Qao t=true) (a:Int) (h0:0<=a) (h1:a<2*t.links.length)=>(Qb5 hv h0 h1).2.2.2
  have hn64:=fun(hv:Qao t=true)=>(Qai.1 hv).1
  have hl256:=fun(hv:Qao t=true)=>(Qai.1 hv).2.2.1
  have hxe:∀a,xOf t fr a=if fr then Qbi t a else Qbm t a:=fun _=>rfl
  have hye:∀a,yOf t fr a=if fr then Qbm t a else Qbi t a:=fun _=>rfl
  have hoa:∀a,Qf5 t down n fr a=(upB down a&&Qch t (yOf t fr a) n):=fun _=>rfl
  have hfx:∀D a,Qn7 t down n fr D a↔(Qf5 t down n fr a=true->0<=gt D (yOf t fr a)->0<=gt D (xOf t fr a)/\gt D (xOf t fr a)<=gt D (yOf t fr a)+Qbt t a):=fun _ _=>Iff.rfl
  generalize Qa9 t down=fb at*;generalize Qao t=v at*;generalize Qat t down n fr=ds at*;generalize Qbm t=tt at*;generalize Qbi t=ht at*;generalize Qbt t=ct at*;generalize Qch t=tb at*;generalize upB down=ub at*;generalize xOf t fr=xo at*;generalize yOf t fr=yo at*;generalize Qf5 t down n fr=oa at*;generalize Qn7 t down n fr=fx at*;generalize Mid t down n fr=md at*;generalize IsDist t down n fr=isd at*;simp only[QaY,Qaf]at*;generalize hdl:down.map QbA=dl at*;have hdn:Λ dl=down.length:=by rw[Λo,←hdl];simp
  obtain⟨nodes,ov,links⟩:=t;simp only[Qa2,Qaf,Qak]at*;generalize hol:ov.map QbA=ol at*;generalize hll:links.map QaL=ll at*;have hlo:Λ ol=ov.length:=by rw[Λo,←hol];simp
  have hls:Λ ll=links.length:=by rw[Λo,←hll];simp
  simp only[QaT,QaU,List.map_nil]at k1 k2 k3;cases fb
  · conv=>cbv
    repeat' first|refine QaF hfits rfl rfl ?_ ?_|(intro hc;cases hc;done)|exact gu|exact trivial|refine And.intro ?_ ?_|(intro hc;first|exact absurd hc (by decide)|(exfalso;omega)|((first|rw[wS (by omega) (by omega)]at hc|rw[Qad]at hc|skip);try (conv=>cbv)))|refine CallG.old ?_
    exact k1 rfl
  obtain⟨hv,hdo⟩:=hfb rfl;subst hv;simp only[forall_const]at*
  conv=>cbv
  repeat' first|refine QaF hfits rfl rfl ?_ ?_|(intro hc;cases hc;done)|(intro(_:Unit);refine⟨?_,?_,?_,?_⟩;omega;omega;omega;omega)|exact gu|exact trivial|refine And.intro ?_ ?_|(intro hc;first|exact absurd hc (by decide)|(exfalso;omega)|((first|rw[wS (by omega) (by omega)]at hc|rw[Qad]at hc|skip);try (conv=>cbv)))|refine CallG.old ?_
  · exact k2 (by omega)
  · exact k2 (by omega)
  rename_i m0 es0 hm0;subst hc hm0;refine QcQ nodes.toNat (fun(s:Int×List Int)=>(11,iA s.1)::srL dl n fr nodes.toNat) (fun s=>srH nodes ol ll s.2) (fun k s=>s.1=k/\k<=nodes.toNat/\s.2=List.replicate k (-1)++List.replicate (nodes.toNat-k) 0) (0,List.replicate nodes.toNat 0)
    0 (fun(_:Unit)=>srL dl n fr nodes.toNat) (fun _=>srH nodes ol ll (List.replicate nodes.toNat (-1))) (fun _=>True) (by rw[srH,List.map_replicate];exact Wk.cw) ⟨rfl,by omega,by simp⟩ (fun k s h=>h.2.1) ?_ ?_
  · rintro k ⟨i,D⟩ Q' ⟨hi,hk,hD⟩ norm jn ex rt
    simp only at hi hD;have hDl:D.length=nodes.toNat:=by rw[hD];simp;omega
    generalize hN:nodes.toNat=N at*;simp only[srH,srL];generalize hes:D.map QaA=es at*;have hesl:es.length=N:=by rw[←hes,List.length_map];exact hDl
    conv=>cbv
    repeat' first|exact gu|exact trivial|refine And.intro ?_ ?_|(intro hc;first|exact absurd hc (by decide)|(exfalso;omega)|((first|rw[wS (by omega) (by omega)]at hc|rw[Qad]at hc|skip);try (conv=>cbv)))|refine CallG.old ?_
    · rename_i p hp e hpe es' he' i'
      have hee:e=[iD 0]:=by
        rw[←hes,gtm,hp,hD]at hpe;simp only[Nat.zero_add,hi,Int.toNat_natCast]at hpe;rw[List.getElem?_append_right (by simp),List.getElem?_replicate]at hpe;simp only[List.length_replicate]at hpe;split at hpe
        · cases hpe;rfl
        · cases hpe
      have e2:es'=((List.replicate (k+1) (-1)++List.replicate (N-(k+1)) 0).map QaA):=by
        rw[he',hee,hp,←hes,hD];simp only[Nat.zero_add,hi,Int.toNat_natCast];rw[show N-k=N-(k+1)+1 by omega,←QtY,List.map_set];rfl
      subst e2;refine norm _ _ (_,_) ?_ (Wk.cw);exact⟨by simp only;omega,by omega,rfl⟩
    · have e2:es=((List.replicate N (-1)).map QaA):=by
        rw[←hes,hD,show k=N by omega,Nat.sub_self];simp
      subst e2;refine jn _ _ () trivial (Wk.cw)
  rintro _-
  have hm0:=hst (by omega) (by omega);clear hst;generalize hN:nodes.toNat=N at*;generalize hD0:List.replicate N (-1)=D0 at*;have hD0l:D0.length=N:=by rw[←hD0];simp
  simp only[srH,srL];generalize hes:D0.map QaA=es at*;have hesl:es.length=N:=by rw[←hes,List.length_map];exact hD0l
  conv=>cbv
  repeat' first|exact gu|exact trivial|refine And.intro ?_ ?_|(intro hc;first|exact absurd hc (by decide)|(exfalso;omega)|((first|rw[wS (by omega) (by omega)]at hc|rw[Qad]at hc|skip);try (conv=>cbv)))|refine CallG.old ?_
  rename_i p hp e hpe es1;have e1:es1=(D0.set n.toNat 0).map QaA:=by rw[hc,Qn5 hes hpe,hp,Nat.zero_add]
  subst e1;clear hc hpe hes hesl es;generalize D0.set n.toNat 0=D1 at*;clear hD0 hD0l D0;refine Qba (msr D1+1) (fun(s:Bool×List Int)=>(12,bA s.1)::srL dl n fr N) (fun s=>srH nodes ol ll s.2) (fun k s=>md s.2/\(s.1=false->∀a:Int,0<=a->a<2*links.length->fx s.2 a)/\k+msr s.2<=msr D1+(if s.1 then 0 else 1)) (true,D1) (Wk.cw) ⟨hm0,by simp,by simp⟩ (fun k s h=>by have:=h.2.2;split at this<;>omega) ?_;rintro k ⟨ch,D⟩ Q' ⟨hD,hfix,hkm⟩ normo exo rto;simp only at hD hfix hkm;simp only[srH,srL];cases ch with
  |false=>
    have hds:=hk4 D (hmd D hD (hfix rfl));have hDl:=hlen D hD;rw[hds]at k3;generalize hes:D.map QaA=es at*;have hesl:es.length=N:=by rw[←hes,List.length_map];omega
    conv=>cbv
    repeat' first|(refine exo _ _ _ ?_;(conv=>cbv))|(refine rto _ _ ?_;(conv=>cbv))|exact gu|exact trivial|refine And.intro ?_ ?_|(intro hc;first|exact absurd hc (by decide)|(exfalso;omega)|((first|rw[wS (by omega) (by omega)]at hc|rw[Qad]at hc|skip);try (conv=>cbv)))|refine CallG.old ?_
    rename_i ls;have e:ls=es:=by rw[hc,List.drop_zero,←hesl,List.take_length]
    subst e;exact k3 (by omega)
  |true=>
    generalize hes:D.map QaA=es at*
    conv=>cbv
    repeat' first|exact gu|exact trivial|refine And.intro ?_ ?_|(intro hc;first|exact absurd hc (by decide)|(exfalso;omega)|((first|rw[wS (by omega) (by omega)]at hc|rw[Qad]at hc|skip);try (conv=>cbv)))|refine CallG.old ?_
    subst hes;refine Qba (2*links.length) (fun(s:Int×Bool×List Int)=>(13,iA s.1)::(12,bA s.2.1)::srL dl n fr N) (fun s=>srH nodes ol ll s.2.2) (fun k s=>s.1=k/\k<=2*links.length/\md s.2.2/\(s.2.1=false->s.2.2=D/\∀a:Int,0<=a->a<k->fx D a)/\(s.2.1=true->msr s.2.2<msr D)) (0,false,D) (Wk.cw) ⟨rfl,by omega,hD,fun _=>⟨rfl,fun a h0 h1=>by omega⟩,by simp⟩ (fun k s h=>h.2.1) ?_;rintro k' ⟨a,ch,D'⟩ Q' ⟨ha,hk',hD',hf',ht'⟩ norm ex rt;simp only at ha hD' hf' ht';simp only[srH,srL];have hDl:=hlen D' hD';generalize hes:D'.map QaA=es at*;have hesl:es.length=N:=by rw[←hes,List.length_map];omega
    by_cases hlt:k'<2*links.length
    · obtain⟨⟨x0,x1⟩,⟨y0,y1⟩,hne⟩:=hxy a (by omega) (by omega)
      have hxle:=hml D' hD' (xo a) x0 x1;have hyle:=hml D' hD' (yo a) y0 y1;have hcl:=hcs a (by omega) (by omega);have hxa:=hxe a;have hya:=hye a;have hra:=hoa a;have hrx:=hfx D' a;have hta:=htail a;have hha:=hhead a;have hua:=hup a (by omega);have hya2:=htr (yo a);have hca:=hcost a;have hms':=hms D' hD' a (by omega) (by omega);have hcnt:∀D2 ch2,md D2->(ch2=false->ch=false/\D2=D'/\fx D' a)->(ch2=true->ch=true/\D2=D'\/msr D2<msr D')->∀L' h' a',a'=a+1->Wk 0 L' h' ((13,iA a')::(12,bA ch2)::srL dl n fr N) (srH nodes ol ll D2)->Q' .normal L' h':=by
        intro D2 ch2 q1 q2 q3 L' h' a' q4 q5;refine norm L' h' (a',ch2,D2) ⟨by simp only;omega,by omega,q1,fun hc2=> ?_,fun hc2=> ?_⟩ q5
        · obtain⟨e1,e2,e3⟩:=q2 hc2
          obtain⟨e4,e5⟩:=hf' e1;subst e2;refine⟨e4,fun b b0 b1=> ?_⟩;rcases Int.lt_or_le b k' with h|h
          · exact e5 b b0 h
          · obtain rfl:b=a:=by omega
            rw[←e4];exact e3
        · have hmm:msr D'<=msr D:=by
            cases ch
            · rw[(hf' rfl).1];exact Nat.le_refl _
            · exact Nat.le_of_lt (ht' rfl)
          rcases q3 hc2 with ⟨e1,e2⟩|e1
          · rw[e2];exact ht' e1
          · simp only;omega
      clear norm hf' ht' hfx hoa hxe hye htail hhead hup htr hcost hms hml hcs normo exo rto hxy hmd hlen;cases fr
      · simp only[Bool.false_eq_true,if_false]at hxa hya
        rw[←hxa]at hta;rw[←hya]at hha;generalize xo a=X at*;generalize yo a=Y at*;generalize ct a=C at*
        conv=>cbv
        repeat' first|(refine ex _ _ _ ?_;(conv=>cbv))|(refine rt _ _ ?_;(conv=>cbv))|(intro e he;obtain⟨x,hx,rfl⟩:=Qbo hes he;have hgY:=Qqp (i:=Y) hx;have hgX:=Qqp (i:=X) hx;(conv=>cbv))|(refine Qaj hta rfl rfl ?_;conv=>cbv)|(refine Qaj hha rfl rfl ?_;conv=>cbv)|refine QaF hua rfl rfl ?_ ?_|refine QaF hya2 rfl rfl ?_ ?_|(refine Qaj hca rfl rfl ?_;conv=>cbv)|exact gu|exact trivial|refine And.intro ?_ ?_|(intro hc;first|exact absurd hc (by decide)|(exfalso;omega)|((first|rw[wS (by omega) (by omega)]at hc|rw[Qad]at hc|skip);try (conv=>cbv)))|refine CallG.old ?_
        all_goals clear hta hha hua hya2 hca
        all_goals first
          |(refine hcnt D' ch hD' (fun h=>⟨h,rfl,hrx.2 fun ho hy=> ?_⟩) (fun h=> .inl ⟨h,rfl⟩) _ _ _ hc (by subst hes;exact Wk.cw)
            first
            |(exfalso;omega)
            |(exact⟨by omega,by omega⟩)
            |(exfalso;rw[hra]at ho;simp_all;done))
          |(rename_i es' hes' _
            have hoa:oa a=true:=by rw[hra,‹ub a=true›,‹tb Y n=true›];rfl
            have hst:=hms' hoa (by omega) (by omega);have e3:es'=(D'.set X.toNat (gt D' Y+C)).map QaA:=by
              refine hes'.trans ((Qn5 hes he).trans ?_)
              congr 1
              congr 1<;>omega
            subst e3;exact hcnt _ true hst.1 (by simp) (fun _=> .inr hst.2) _ _ _ hc (Wk.cw))
          |trace_state
      · simp only[if_true]at hxa hya
        rw[←hya]at hta;rw[←hxa]at hha;generalize xo a=X at*;generalize yo a=Y at*;generalize ct a=C at*
        conv=>cbv
        repeat' first|(refine ex _ _ _ ?_;(conv=>cbv))|(refine rt _ _ ?_;(conv=>cbv))|(intro e he;obtain⟨x,hx,rfl⟩:=Qbo hes he;have hgY:=Qqp (i:=Y) hx;have hgX:=Qqp (i:=X) hx;(conv=>cbv))|(refine Qaj hta rfl rfl ?_;conv=>cbv)|(refine Qaj hha rfl rfl ?_;conv=>cbv)|refine QaF hua rfl rfl ?_ ?_|refine QaF hya2 rfl rfl ?_ ?_|(refine Qaj hca rfl rfl ?_;conv=>cbv)|exact gu|exact trivial|refine And.intro ?_ ?_|(intro hc;first|exact absurd hc (by decide)|(exfalso;omega)|((first|rw[wS (by omega) (by omega)]at hc|rw[Qad]at hc|skip);try (conv=>cbv)))|refine CallG.old ?_
        all_goals clear hta hha hua hya2 hca
        all_goals first
          |(refine hcnt D' ch hD' (fun h=>⟨h,rfl,hrx.2 fun ho hy=> ?_⟩) (fun h=> .inl ⟨h,rfl⟩) _ _ _ hc (by subst hes;exact Wk.cw)
            first
            |(exfalso;omega)
            |(exact⟨by omega,by omega⟩)
            |(exfalso;rw[hra]at ho;simp_all;done))
          |(rename_i es' hes' _
            have hoa:oa a=true:=by rw[hra,‹ub a=true›,‹tb Y n=true›];rfl
            have hst:=hms' hoa (by omega) (by omega);have e3:es'=(D'.set X.toNat (gt D' Y+C)).map QaA:=by
              refine hes'.trans ((Qn5 hes he).trans ?_)
              congr 1
              congr 1<;>omega
            subst e3;exact hcnt _ true hst.1 (by simp) (fun _=> .inr hst.2) _ _ _ hc (Wk.cw))
          |trace_state
    · conv=>cbv
      repeat' first|(refine ex _ _ _ ?_;(conv=>cbv))|(refine rt _ _ ?_;(conv=>cbv))|exact gu|exact trivial|refine And.intro ?_ ?_|(intro hc;first|exact absurd hc (by decide)|(exfalso;omega)|((first|rw[wS (by omega) (by omega)]at hc|rw[Qad]at hc|skip);try (conv=>cbv)))|refine CallG.old ?_
      subst hes;refine normo _ _ (_,_) ?_ (Wk.cw);simp only;simp only[if_true,Nat.add_zero]at hkm;cases ch
      · obtain⟨h1,h2⟩:=hf' rfl
        subst h1;exact⟨hD',fun _ b b0 b1=>h2 b b0 (by omega),by simp only[Bool.false_eq_true,if_false];omega⟩
      · have:=ht' rfl
        exact⟨hD',by simp,by simp only[if_true];omega⟩
end Go.Ab
