/-
  Merged texts, part z.
-/
import Derived.Test.YtohbofilgkdihaaGreatDoorZy
import Derived.RecoverIn
import Derived.WalkKit
set_option linter.all false
namespace Go.Proofs
set_option maxHeartbeats 2000000 in
set_option maxRecDepth 100000 in
theorem Tryz.ask_idle(v:Value)(w:World):CallsDIn Fence.wide 0 Tryz.prog 83 #[v] .returning w λe u' w'=>e= .returned (.tuple #[])/\u'= .returning/\w'=w:=by
 refine callsDIn_of_wpSIn Tryz.func83 rfl trivial λc₀ cs hu=> ?_
 apply wpSIn_seq;apply wpSIn_region;simp[wpOpsSIn,go_sem,recoverD,hu,Tryz.ntmps83,Exit.thenS];refine wpSIn_cond (t:=false) (by simp[Act.eval,Array.replicate]) ?_;simp only[Bool.false_eq_true,if_false];refine wpSIn_of_wpIn rfl (wpIn_skip ?_);cases c₀
 simp_all [bodyPostS,results,Tryz.results83]
end Go.Proofs
namespace Go.Ab
open Go.Proofs
section
variable{P:Program}{N:Nat}{G0:Nat->Prop}{ι0:Io}{h0:Hp}{w0:World}
theorem QuD{ops:Array Oper}{Q:Exit->Act->World->Prop}{aos:List AO}(hall:QaP P ops N ops.toList=some aos)(k:Nat){d:Option Nat}{op:AOp}(hao:aos[k]? =some ⟨d,op,none⟩){e:Env}{h h':Hp}{av:AV}{a:Act}{w:World}{G:Nat->Prop}{ι:Io}(st:St N G0 ι0 h0 w0 G ι e h a w)(hd:a.defers=[])
 (hs:astep e h op=some (av,h'))(hQ:∀G' ι' a' w',a'.defers=[]->St N G0 ι0 h0 w0 G' ι' (Qcn e d av) h' a' w'->wpOpsIn (Fen none) 0 P ops Q (List.range' (k+1) (ops.size-(k+1))) a' w'):wpOpsIn (Fen none) 0 P ops Q (List.range' k (ops.size-k)) a w:=by
 refine Qnr hall k hao st λo ho hcO=> ?_
 obtain⟨hdd,hdN,hop,hgs⟩:=Qa1 hcO;simp only at hdd hop;rw[hop]at hs;rw[hdd]at hQ;obtain⟨v',w',G',ι',hrun,k1,k2,k3⟩:=Qd1 st.rel hs;have hp:∀v,(a.put o.dst v).defers=[]:=λv=>by cases o.dst<;>exact hd
 rcases hrun with hrun|⟨hrun,rfl⟩
 ·exact Qdq (Qdl hs) hrun (hQ _ _ _ _ (hp _) (st.step hdN k1 k2 k3))
 ·exact QeX (Qdl hs) hrun (hQ _ _ _ _ (hp _) (st.step hdN k1 k2 k3))
theorem Qo5{ro:Option Nat}{ops:Array Oper}{m:Nat}(hm:h0.length<=m){Q:Exit->Act->World->Prop}{rest:List Nat}(ds:List Deferred):∀(os:List Oper) (aos:List AO) (k:Nat) (L:Lv) (h:Hp) (K:Lv->Hp->Prop) (a:Act) (w:World),
  (∀i o,os[i]? =some o->ops[k+i]? =some o)->QaP P ops N os=some aos->aos.all (gOk N)=true->Qh0 P m false aos L h K->Fits N G0 ι0 h0 w0 (lkL L) h a w->
  (∀L' h' a' w',K L' h'->Fits N G0 ι0 h0 w0 (lkL L') h' a' w'->wpOpsIn (Fen ro) 0 P ops Q rest (Qpu a' ds) w')->wpOpsIn (Fen ro) 0 P ops Q (List.range' k os.length++rest) (Qpu a ds) w:=by
 intro os;induction os with
 |nil=>
  intro aos k L h K a w _ hc _ hv hf hQ;simp only[QaP,osi]at hc;subst hc;exact hQ L h a w hv hf
 |cons o os ih=>
  intro aos k L h K a w hk hc hg hv hf hQ;simp only[QaP]at hc;split at hc
  ·rename_i ao l hao hl;cases hc;simp only[List.all_cons,Bool.and_eq_true]at hg;have hok:ops[k]? =some o:=by have:=hk 0 o rfl;simpa using this
   have hrest:∀L' h' a' w',Qh0 P m false l L' h' K->Fits N G0 ι0 h0 w0 (lkL L') h' a' w'->wpOpsIn (Fen ro) 0 P ops Q (List.range' (k+1) os.length++rest) (Qpu a' ds) w':=λL' h' a' w' hv' hf'=>
    ih l (k+1) L' h' K a' w' (λi o' ho=>by have:=hk (i+1) o' (by simpa using ho);rw[show k+1+i=k+(i+1)by omega];exact this) hl hg.2 hv' hf' hQ
   simp only[List.length_cons,List.range'_succ,List.cons_append];rw[wpOpsIn_cons];unfold wpOpIn;simp only[hok];have ht:(Qpu a ds).tmps=a.tmps:=rfl;rw[ht];obtain⟨G,ι,st⟩:=hf;obtain⟨hd,hdN,hop,hgs⟩:=Qa1 hao;have hgN:=QdW hg.1;rcases hv with ⟨hgv,hv⟩|⟨hgv,hv⟩
   ·rw[Qbf st.rel hgs hgv hgN];simp only[if_true];refine QxK _ (Qfr hm hao hv ⟨G,ι,st⟩ λL' v h' a' w' hk' hf'=> ?_);exact hrest _ _ _ _ hk' (by rw[QaR];exact hf')
   ·rw[Qbf st.rel hgs hgv hgN];simp only[Bool.false_eq_true,if_false];refine⟨λf _=>Fen.fn ro f,?_⟩;rw[<-QeG];refine hrest _ _ _ _ hv ⟨G,ι,?_⟩;rw[QaR,hd];exact st.step hdN st.rel.hr (.tup #[] [] rfl (by simp)) (Ext.refl _ _ _ _)
  ·cases hc
theorem Qig{fn:Func}{R:Ending->World->Prop}{G:Nat->Prop}{ι:Io}{e:Env}{h:Hp}(ds:List Deferred):∀(bs:List Nat) (a:Act) (w:World),bs.Nodup->(∀b∈bs,Mrk w0 G ι h w b)->Rel N G ι e h a w->Ext G0 ι0 h0 w0 G ι h w->
  (∀w2,Rel N G ι e h a w2->Ext G0 ι0 h0 w0 G ι h w2->LeavesInM Fence.wide 0 P fn a.tmps R ds .returning w2)->LeavesInM Fence.wide 0 P fn a.tmps R (bs.map mkD++ds) .returning w
 |[],a,w,_,_,hr,hx,hk=>hk w hr hx
 |b::bs,a,w,hn,hm,hr,hx,hk=>by
  obtain⟨h1,h2,h3,h4⟩:=hm b (by simp);rw[List.nodup_cons]at hn;have hs:∀c,G c\/owned ι h c->(w.putObj b (.deferred none)).heap[c]? =w.heap[c]? :=λc hc=>World.putObj_heap_other λe=>by
   subst e;exact hc.elim h3 h4
  have hz:w.heap.size<=(w.putObj b (.deferred none)).heap.size:=by rw[Qe0];exact Nat.le_refl _
  refine⟨by simp,.inl ⟨b,_,rfl,run_takeDeferred h2,?_⟩⟩;refine Qig ds bs a _ hn.2 (λc hc=> ?_) ⟨hr.hr.other hs hz,hr.size,λi=>(hr.env i).other hs⟩ (hx.other hs hz (Qd3 _ _ _) λc hc=>World.putObj_heap_other (by omega)) hk;obtain⟨k1,k2,k3,k4⟩:=hm c (by simp[hc]);have hne:b≠c:=λe=>hn.1 (by rw[e];exact hc)
  exact⟨k1,(World.putObj_heap_other (by omega)).trans k2,k3,k4⟩
end
def Qqi(k:Nat):Code->Bool
 | .seq (.region _ ops false) _=>match ops.toList with
  |[_,⟨none,.defer ⟨.value (.tmp j),ags,_⟩,_,_,_,none⟩]=>j==k&&ags.isEmpty
  |_=>false
 |_=>false
def QA0:Code->Bool
 | .ret=>true
 |_=>false
theorem Qwa{c:Code}(h:QA0 c=true):c= .ret:=by
 cases c<;>first|rfl|cases h
theorem QvP{k id:Nat}{ops:Array Oper}{d:Bool}{c2:Code}(h:Qqi k (.seq (.region id ops d) c2)=true):ops.size=2/\∃o ts,ops[1]? =some o/\o.dst=none/\o.op= .defer ⟨.value (.tmp k),#[],ts⟩:=by
 cases d with
 |true=>cases h
 |false=>
  simp only[Qqi]at h;split at h
  ·rename_i o1 j ags ts ty pos af e;simp only[Bool.and_eq_true,beq_iff_eq,Array.isEmpty_iff]at h;obtain⟨rfl,rfl⟩:=h;have hs:ops.size=2:=by rw[<-Array.length_toList,e];rfl
   refine⟨hs,⟨none,.defer ⟨.value (.tmp j),#[],ts⟩,ty,pos,af,none⟩,ts,?_,rfl,rfl⟩;rw[<-Array.getElem?_toList,e];rfl
  ·cases h
theorem QDc{fn:Func}{tmps:Array Value}{R:Ending->World->Prop}{v:Value}{w:World}(h:∃x,(results fn tmps).run Tryz.prog w= .ok x w/\R (.returned x) w):LeavesInM Fence.wide 0 Tryz.prog fn tmps R [{target:= .fn (.func QaW) #[v],args:= #[]}] .returning w:=by
 refine⟨by simp,.inr ⟨(λh=>by cases h),_,_,QaW,#[v],rfl,?_,(λ_ _=>trivial),?_⟩⟩
 ·simp[go_sem]
 ·refine(Tryz.ask_idle v w).mono ?_;rintro e u' w' ⟨rfl,rfl,rfl⟩;exact h
def Qxt(c:Code):Bool:=Qfu c&&Qfu (QcF 1 c)&&Qfu (QcF 2 c)&&Qqi 9 (QcF 1 c)&&QA0 (QcF 3 c)
theorem Qyc:(match Tryz.f50.body with|some c=>Qxt c|none=>false)=true:=by kernel_rfl
abbrev QAl:List AO:=Qvu (Qge 2 (afB QcN))
theorem Qyd{e:Env}{h:Hp}{i:Nat}{r:Int}(h1:e 8= .c (.ptr i 0 0 0))(h2:h[i]? =some (.bx [.d (iD r)])):QsR e h QcN.res=some [iA r]:=by
 have:QcN.res=[(8,some none)]:=rfl;rw[this];simp[QsR,h1,h2,rd]
section
variable(m:Ar)(k:Int)(pl:List (List D))(flow node r:Int)(l:List Int)
theorem Qyb(hl:l.length<=1000000)(hc:FnS Tryz.prog Qaj [iA flow,iA node,QaB l,.c (.ptr 1 0 0 0),.c (.ptr 2 0 0 0)] [.am m,.bx [.d (iD k)],.bx [.d (.list false 1 pl)]] λq h'=>q=iA r/\h'=[.am m,.bx [.d (iD (k+1))],.bx [.d (.list false 1 pl)]])(Λ:Len):
  Qdm Tryz.prog Λ 3 false QAl [(9,.c (.fn false QaW [.ptr 3 0 0 0])),(8,.c (.ptr 3 0 0 0)),(0,.c (.fn false Qaj [.ptr 1 0 0 0,.ptr 2 0 0 0])),(1,iA flow),(2,iA node),(3,QaB l)] [.am m,.bx [.d (iD k)],.bx [.d (.list false 1 pl)],.bx [.d (iD 0)]] λL h=>lkL L 8= .c (.ptr 3 0 0 0)/\h=[.am m,.bx [.d (iD (k+1))],.bx [.d (.list false 1 pl)],.bx [.d (iD r)]]:=by
 have hcl:=Qic Tryz.prog rfl l hl;have hfo:FnOk Tryz.prog Qaj:=⟨_,Qep,rfl,by decide⟩;simp only[QaB,Qaw]at*;generalize l.map QaC=ll at*;generalize hP:Tryz.prog=P at*
 conv=>cbv
 repeat' first|(refine Qam hcl rfl rfl ?_;conv=>cbv)|exact hfo|(refine QdV [0,1,2] hc rfl rfl (by decide) (by repeat' first|exact trivial|refine And.intro ?_ ?_|rfl) rfl rfl ?_;rintro r1 hc' ⟨rfl,rfl⟩;(conv=>cbv))|exact⟨rfl,rfl⟩|exact gxQ|refine And.intro ?_ ?_|(intro hc;(first|rw[wS (by omega) (by omega)]at hc|rw[Qab]at hc|skip);try (conv=>cbv))
end
theorem Qya(P:Program)(hP:P=Tryz.prog)(m:Ar)(k:Int)(pl:List (List D))(flow node r:Int)(l:List Int)(hl:l.length<=1000000)(hc:FnS P Qaj [iA flow,iA node,QaB l,.c (.ptr 1 0 0 0),.c (.ptr 2 0 0 0)] [.am m,.bx [.d (iD k)],.bx [.d (.list false 1 pl)]] λq h'=>q=iA r/\h'=[.am m,.bx [.d (iD (k+1))],.bx [.d (.list false 1 pl)]]):
  FnS P QlM [.c (.fn false Qaj [.ptr 1 0 0 0,.ptr 2 0 0 0]),iA flow,iA node,QaB l] [.am m,.bx [.d (iD k)],.bx [.d (.list false 1 pl)]] λq h'=>q=iA r/\h'=[.am m,.bx [.d (iD (k+1))],.bx [.d (.list false 1 pl)],.bx [.d (iD r)]]:=by
 subst hP;have hr3:=Qyb m k pl flow node r l hl hc;obtain⟨c,hb,hac,hres,hnt⟩:=Qdt Qsg;have hchk:=Qyc;rw[hb]at hchk;simp only[Qxt,Bool.and_eq_true]at hchk;obtain⟨⟨⟨⟨k1,k2⟩,k3⟩,k4⟩,k5⟩:=hchk;have hΛ:∀x:List (List D),(λx:List (List D)=>(x.length:Int)) x=(x.length:Int):=λ_=>rfl
 refine⟨λG ι w vs hr hvs=> ?_⟩;refine .of Qkf (Qdy Qkf hb ?_);obtain⟨G1,ι1,st1⟩:=Qen (af:=QcN) (args:=[.c (.fn false Qaj [.ptr 1 0 0 0,.ptr 2 0 0 0]),iA flow,iA node,QaB l]) hnt (by rw[<-hnt];exact nle rfl) hr hvs;obtain⟨id1,o1,c2,rfl,hall1,hg1,hc2⟩:=Qh1 k1 hac;have hs1:o1.size=1:=by have:=(Qat hall1).1;rw[Array.length_toList]at this;rw[this];rfl
 refine wpIn_seq (wpIn_region ?_);rw[List.range_eq_range'];refine QuD hall1 0 rfl st1 rfl rfl λG2 ι2 a2 w2 hd2 st2=> ?_
 rw[hs1];show c2.wpIn _ _ _ _ a2 w2;obtain⟨id2,o2,c3,rfl,hall2,hg2,hc3⟩:=Qh1 k2 hc2;refine wpIn_seq (wpIn_region ?_);rw[List.range_eq_range'];refine QuD hall2 0 rfl st2 hd2 rfl λG3 ι3 a3 w3 hd3 st3=> ?_
 obtain⟨hs2,o,ts,ho,hdst,hop⟩:=QvP k4;refine Qnr hall2 1 rfl st3 λo' ho' _=> ?_
 rw[ho]at ho';cases ho';obtain⟨x,hv⟩:∃x,a3.tmps.getD 9 undef= .func (.func QaW) #[] #[x]:=by
  have h9:VR G3 w3 ι3 _ (a3.tmps.getD 9 undef) (.c (.fn false QaW [.ptr 3 0 0 0])):=st3.rel.env 9;revert h9;generalize a3.tmps.getD 9 undef=v9;intro h9;cases QdF h9 with
  |fn _ _ _ vs9 _ hv9 hn9 _=>
   rw[hv9,Qie (by rfl)];obtain⟨x,hx⟩:∃x,vs9= #[x]:=by
    obtain⟨l9⟩:=vs9
    match l9,hn9 with
    |[x],_=>exact⟨x,rfl⟩
   exact⟨x,by rw[hx]⟩
 have hrun:(o.semAt (Fen none).round a3.eval).run Tryz.prog w3= .ok (.defer {target:= .fn (.func QaW) #[x],args:= #[]}) w3:=by
  have h9:a3.eval (.tmp 9)= .func (.func QaW) #[] #[x]:=hv;simp[Oper.semAt,Fen.round,hop,execOp,resolve,Deferred.ofValue,h9]
 refine⟨λf _=>Fen.fn none f,?_⟩;rw[hrun,Oper.uponIn_defer,hdst,hs2,hd3];show c3.wpIn _ _ _ _ {a3 with defers:=[{target:= .fn (.func QaW) #[x],args:= #[]}]} w3;have he:({a3 with defers:=[{target:= .fn (.func QaW) #[x],args:= #[]}]}:Act)=Qpu a3 [{target:= .fn (.func QaW) #[x],args:= #[]}]:=by rw[Qpu,hd3];rfl
 rw[he];obtain⟨id3,o3,c4,rfl,hall3,hg3,-⟩:=Qh1 k3 hc3;obtain rfl:=Qwa k5;refine wpIn_seq (wpIn_region ?_);rw[List.range_eq_range'];rw[show List.range' 0 o3.size=List.range' 0 o3.toList.length++[]by rw[List.append_nil,Array.length_toList]];refine Qo5 (ro:=none) (m:=3) (rest:=[]) (Nat.le_refl _) [{target:= .fn (.func QaW) #[x],args:= #[]}] o3.toList QAl 0 [(9,.c (.fn false QaW [.ptr 3 0 0 0])),(8,.c (.ptr 3 0 0 0)),(0,.c (.fn false Qaj [.ptr 1 0 0 0,.ptr 2 0 0 0])),(1,iA flow),(2,iA node),(3,QaB l)] _ _ a3 w3 (ops:=o3) (λi o hi=>by rw[Nat.zero_add,<-Array.getElem?_toList];exact hi) hall3 hg3 (QcZ hΛ (hr3 _)) ⟨G3,ι3,st3⟩ (λL' h' a' w' hq hfit=> ?_);obtain⟨e1,rfl⟩:=hq;obtain⟨G4,ι4,st4⟩:=hfit;obtain⟨bs,e,hn,hmk⟩:=st4.dfr;refine wpIn_ret ?_;show LeavesInM Fence.wide 0 Tryz.prog _ a'.tmps _ (a'.defers++[_]) .returning w';rw[e];refine Qig [_] bs a' w' hn hmk st4.rel st4.ext λw5 rel ext=>QDc ?_
 obtain⟨us,q1,q2⟩:=QdJ (P:=Tryz.prog) (af:=QcN) (vs:=[iA r]) hres rel.hr rel.env (Qyd e1 rfl);exact⟨_,q1,_,pack [iA r],G4,ι4,_,rfl,⟨rfl,rfl⟩,rel.hr,Qez q2,ext⟩
section
variable(m:Ar)(nd:Int)(ol kl xl:List (List D))(id src dst fl:Int)(sl:List (List D))(hp fr wr:Int)(flow node r:Int)(l:List Int)
end
abbrev BP (m:Ar) (pl:List (List D)) (z:Int):Hp:=[.am m,.bx [.d (iD (z))],.bx [.d (.list false 1 pl)]]
theorem QrI(P:Program)(hP:P=Tryz.prog)(t:Top)(xs:List Tab)(p:Pkt)(from_:Int)(g:Wlk)(U:List WSt)(m:Ar)(hT:Qbp m)(pl:List (List D))(pick:Nat->WSt->Int)
 (hU:Qav t xs from_=0->UOK P t xs p g U/\(from_,p.stack)∈U)
 (hch:∀(k:Nat) (s:WSt) (z:Int),s∈U->g.ar s≠[]->k<=1000->z=(k:Int)-1->FnS P Qaj [iA p.flow,iA s.1,QaB (g.ar s),.c (.ptr 1 0 0 0),.c (.ptr 2 0 0 0)] (BP m pl z) λq h'=>q=iA (pick k s)/\h'=BP m pl (z+1)):
  FnS P Qf2 [QaT t,Qbx xs,QbD p,iA from_,.c (.fn false Qaj [.ptr 1 0 0 0,.ptr 2 0 0 0])] (BP m pl (-1)) (QnS (BP m pl (((QuC g pick U (from_,p.stack) (Qav t xs from_)).2.2:Int)-1)) (QuC g pick U (from_,p.stack) (Qav t xs from_)).1 (QuC g pick U (from_,p.stack) (Qav t xs from_)).2.1):=by
 have hck:=Qpt P hP t xs from_;have hask:=λ(k:Nat) (s:WSt) (z:Int) (h1:s∈U) (h2:g.ar s≠[]) (h3:k<=1000) (h4:z=(k:Int)-1) (hl:(g.ar s).length<=1000)=>Qya P hP m z pl p.flow s.1 (pick k s) (g.ar s) (by omega) (hch k s z h1 h2 h3 h4)
 have hnm:=λ(s:WSt) (h:NmOK s)=>Qqp P hP m hT s.1 s.2 h.n h.l h.i
 clear hch;refine QaF (hP▸mixed) (hP▸Qp5) (hP▸Qsf) (nle rfl) λΛ Λo Q hQ=> ?_
 clear hP;by_cases h0:Qav t xs from_=0
 ·obtain⟨hUK,hst⟩:=hU h0;clear hU;rw[h0]at hck hQ;rw[QuC,if_pos rfl]at hQ;obtain⟨R,hR⟩:∃R,Qvt g pick (U.length+1) [] (from_,p.stack) []=R:=⟨_,rfl⟩;rw[hR]at hQ;obtain⟨id,src,dst,flow,st0,hops⟩:=p;simp only[QaT,Qbx,QbD,Qb3,QaH,Qag,Qai,BP]at*;generalize hxl:List.map Qal xs=xl at*;generalize hol:t.ov.map Qbs=ol at*;generalize hll:t.links.map QaE=ll at*;generalize htn:t.nodes=nodes at*;generalize hs0:List.map Qaf st0=s0 at*
  conv=>cbv
  repeat' first|(left;intro(_:Unit);(conv=>cbv))|(refine Qam hck rfl rfl ?_;conv=>cbv)|exact gxQ|refine And.intro ?_ ?_|(intro hc;(first|rw[wS (by omega) (by omega)]at hc|rw[Qab]at hc|skip);try (conv=>cbv))
  have hle:=hUK.len;refine QaS U.length (λ(x:Int×List (List D)×Int×Int×Nat×List (DV×DV)×Nat×Bool×Nat×List (List D))=>[(1,.c (.d (.list false 3 xl))),(4,.c (.fn false Qaj [.ptr 1 0 0 0,.ptr 2 0 0 0])),(5,.c (.ptr 3 0 0 0)),(7,.c (.ptr 4 0 0 0)),(10,.c (.ptr 5 0 0 0)),(13,.c (.ptr 6 0 0 0)),(14,.c (.mp 7))])
   (λx=>[.am m,.bx [.d (iD (x.2.2.2.1))],.bx [.d (.list false 1 pl)],.bx [.d (iD nodes),.d (.list false 1 ol),.d (.list false 7 ll)],.bx [.d (iD id),.d (iD src),.d (iD dst),.d (iD flow),.d (.list false 2 x.2.1),.d (iD x.2.2.1)],.bx [.d (iD 0),.d (iD 0),.d (.list true 1 [])],.bx [.d (iD x.1),.d (iD 0),.arr 8 x.2.2.2.2.2.2.1 0 x.2.2.2.2.2.2.2.2.1],.mp x.2.2.2.2.1 x.2.2.2.2.2.1,.da x.2.2.2.2.2.2.2.1 x.2.2.2.2.2.2.1 1 x.2.2.2.2.2.2.2.2.2])
   (λkk x=>kk<=U.length/\∃(seen:List WSt) (st:WSt) (path:List Int),seen.length=kk/\seen.Nodup/\(∀y∈seen,y∈U)/\st∈U/\Qvt g pick (U.length+1-kk) seen st path=R/\path.length=kk/\x.1=st.1/\x.2.1=st.2.map Qaf/\x.2.2.2.1=(kk:Int)-1/\x.2.2.2.2.2.1=(snS seen).map QgK/\x.2.2.2.2.2.2.2.2.1=kk/\x.2.2.2.2.2.2.2.2.2=path.map QaC)
   (from_,s0,hops,-1,0,[],0,false,0,[]) (.trans (.nilB 6 2 1 _ rfl rfl) (Wk.ca)) ⟨by omega,[],(from_,st0),[],rfl,by simp,by simp,hst,hR,rfl,rfl,hs0.symm,rfl,rfl,rfl,rfl⟩ (λk s h=>h.1) ?_
  rintro kk ⟨nd,sl,hp,z,mv,ms,ve,rb,n,es⟩ Q' ⟨hkk,seen,⟨nd',sk⟩,path,hsl,hsnd,hsU,hstU,hRk,hpl,hnd,hsl2,hz,hms,hn,hes⟩ norm ex rt;simp only at hnd hsl2 hz hms hn hes;subst hnd;clear hst hR;have hfin:∀r0 e c,R=(r0,e,c)->∀r h',QnS [.am m,.bx [.d (iD (((c:Nat):Int)-1))],.bx [.d (.list false 1 pl)]] r0 e r h'->Q r h':=λr0 e c he r h' h=>hQ r h' (by rw[he];exact h)
  clear hQ;have hnm:=hnm (nd,sk) (hUK.nm _ hstU);obtain⟨x,nst,nhp,hstp⟩:=hUK.st _ hstU;have hxa:xl[nd.toNat]? =some (Qal x):=by rw[<-hxl,gtm,hstp.at_];rfl
  have hxn:nd<(xs.length:Int):=by have:=Qaa hstp.at_;have:=hstp.nn;simp only at this;omega
  have hΛx:Λ xl=xs.length:=by rw[Λo,<-hxl];simp
  have hnn:0<=nd:=hstp.nn;have hstep:=hstp.stp;have hal:=hstp.len;have hhd:=hstp.hd;have hto:=hstp.tos;have hcl:=hUK.cl _ hstU;have hask:=λh=>hask kk (nd,sk) z hstU h (by omega) hz hal
  clear hstp hUK;obtain⟨F,hF⟩:∃F,U.length+1-kk=F+1:=⟨U.length-kk,by omega⟩;rw[hF,Qvt,hsl]at hRk;obtain⟨xnode,xto,xdown⟩:=x;obtain⟨nodes,ov,links⟩:=t;simp only at htn;subst htn;simp only[QaT,Qk0,QbD,Qb3,QaH,Qag,Qai,QaB,Qaw,QdR,Qal]at*;rw[hol,hll,<-hsl2]at hstep;rw[<-hsl2]at hnm;simp only[hol,hll]at hhd;obtain⟨z1,hz1⟩:∃z1,z1=z+1:=⟨_,rfl⟩;rw[<-hz1]at hask;have hsome:∀i v,sfind (nameS nd (List.map pr2 sk)) (snS seen) 0=some (i,v)->(nd,sk)∈seen/\v= .s (.bool true):=λi v h=>QwZ (s:=(nd,sk)) h
  have hnone:sfind (nameS nd (List.map pr2 sk)) (snS seen) 0=none->(nd,sk)∉seen:=λh=>QwX (s:=(nd,sk)) h
  have hsnoc:(snS (seen++[(nd,sk)]))=snS seen++[(nameS nd (List.map pr2 sk),.s (.bool true))]:=QwY seen (nd,sk);generalize hkey:nameS nd (List.map pr2 sk)=key at*;generalize hsn:snS seen=sn at*;generalize hgar:g.ar (nd,sk)=ar at*;generalize hgrs:g.rs (nd,sk)=rs at*;generalize hpk:pick kk (nd,sk)=pi at*;generalize hnsl:List.map Qaf nst=nsl at*;generalize List.map Qax xto=tol at*;generalize List.map QaC xdown=dol at*;generalize harlh:List.map QaC ar=arl at*;have hΛa:Λ arl=ar.length:=by rw[Λo,<-harlh];simp
  have hB:∀e,R=(⟨nd,rs,path⟩,e,kk)->∀tl ve rb,tl[5]? =some (.da rb ve 1 es)->Q (.tup [.agg [.d (iD nd),.d (iD rs),.arr 8 ve 0 n],iA e]) (.am m:: .bx [.d (iD z)]:: .bx [.d (.list false 1 pl)]::tl):=λe he tl ve rb h=>hfin _ _ _ he _ _ ⟨tl,by rw[hz];rfl,.inr ⟨5,ve,rb,by rw[hn,<-hpl];rfl,by rw[<-hes];exact h⟩⟩
  have hE:∀e c zc,R=(Qz8,e,c)->zc=(c:Int)-1->∀tl,Q (.tup [.agg [.d (iD 0),.d (iD 0),.d (.list true 1 [])],iA e]) (.am m:: .bx [.d (iD zc)]:: .bx [.d (.list false 1 pl)]::tl):=λe c zc he h tl=>hfin _ _ _ he _ _ ⟨tl,by rw[h];rfl,.inl ⟨rfl,rfl⟩⟩
  clear hfin hck;by_cases hin:(nd,sk)∈seen
  ·rw[if_pos hin]at hRk;have hE:=hE 16 kk z hRk.symm hz;clear hB hask hhd hstep norm
   conv=>cbv
   repeat' first|(refine ex _ _ _ ?_;(conv=>cbv))|(refine rt _ _ ?_;(conv=>cbv))|(left;intro(_:Unit);(conv=>cbv))|(refine QaA [0] hnm ?_;rintro r hc' ⟨rfl,rfl⟩;(conv=>cbv))|(refine Qe7 hms.symm (λh0=>absurd hin (hnone h0)) (λi v hv=> ?_);obtain⟨-,rfl⟩:=hsome i v hv;(conv=>cbv))|exact hE _|exact gxQ|refine And.intro ?_ ?_|(intro hc;(first|rw[wS (by omega) (by omega)]at hc|rw[Qab]at hc|skip);try (conv=>cbv))
  ·rw[if_neg hin]at hRk;by_cases h0:ar=[]
   ·rw[if_pos h0]at hRk;have hB:=hB 0 hRk.symm;have hΛ0:Λ arl=0:=by rw[hΛa,h0];rfl
    clear hE hask hhd norm hRk hsnoc
    conv=>cbv
    repeat' first|(refine ex _ _ _ ?_;(conv=>cbv))|(refine rt _ _ ?_;(conv=>cbv))|(left;intro(_:Unit);(conv=>cbv))|(refine QaA [0] hnm ?_;rintro r hc' ⟨rfl,rfl⟩;(conv=>cbv))|(refine Qe7 hms.symm (λh0=> ?_) (λi v hv=>absurd (hsome i v hv).1 hin);(conv=>cbv))|(refine Qhv hms.symm (λh0 es' he'=> ?_) (λi v hv=>absurd (hsome i v hv).1 hin);(conv=>cbv))|(intro(e:List D) he;cases osj (he.symm.trans hxa);(conv=>cbv))|(refine Qam hstep rfl rfl ?_;conv=>cbv)|exact hB _ _ _ rfl|exact gxQ|refine And.intro ?_ ?_|(intro hc;(first|rw[wS (by omega) (by omega)]at hc|rw[Qab]at hc|skip);try (conv=>cbv))
   ·rw[if_neg h0]at hRk;have hask:=hask h0;have hlen:0<ar.length:=List.length_pos_iff.2 h0;by_cases hrg:0<=pi/\pi<ar.length
    ·rw[if_pos hrg]at hRk;obtain⟨hga,hgm⟩:=Qrs hrg.1 hrg.2;have hhd:=hhd _ hgm;have hto:=hto _ hgm;have hUn:=hcl _ (List.mem_map.2 ⟨_,by rw[hgar];exact hgm,rfl⟩);have har:arl[pi.toNat]? =some [iD (gt ar pi)]:=by rw[<-harlh,gtm,hga];rfl
     generalize hga2:gt ar pi=a at*;generalize hy:g.to (nd,sk) a=y at*;obtain⟨nd1,sk1⟩:=y;simp only at hhd hto;subst hto;obtain⟨n1,hn1⟩:∃n1,n1=n+1:=⟨_,rfl⟩;obtain⟨es1,hes1⟩:∃es1,es1=es++[[iD a]]:=⟨_,rfl⟩;have hnext:∀ms',(sn++[(key,DV.s (.bool true))]).map QgK=ms'->kk+1<=U.length/\∃(seen:List WSt) (st:WSt) (path:List Int),seen.length=kk+1/\seen.Nodup/\(∀y∈seen,y∈U)/\st∈U/\Qvt g pick (U.length+1-(kk+1)) seen st path=R/\path.length=kk+1/\nd1=st.1/\nsl=st.2.map Qaf/\z1=((kk+1:Nat):Int)-1/\ms'=(snS seen).map QgK/\n1=kk+1/\es1=path.map QaC:=λms' hms'=>by
      have hnd2:(seen++[(nd,sk)]).Nodup:=List.nodup_append.2 ⟨hsnd,by simp,λu hu v hv e=>by rw[List.mem_singleton]at hv;subst hv;subst e;exact hin hu⟩;have hU2:∀y∈seen++[(nd,sk)],y∈U:=λy hy=>by
       rcases List.mem_append.1 hy with hy|hy
       ·exact hsU y hy
       ·rw[List.mem_singleton]at hy;rw[hy];exact hstU
      have hl2:(seen++[(nd,sk)]).length=kk+1:=by rw[List.length_append,hsl];rfl
      have hle2:=hnd2.length_le_of_subset hU2;refine⟨by omega,seen++[(nd,sk)],(nd1,sk1),path++[a],hl2,hnd2,hU2,hUn,?_,by simp[hpl],rfl,hnsl.symm,by omega,by rw[hsnoc,hms'],by omega,by rw[hes1,hes,List.map_append];rfl⟩;rw[show U.length+1-(kk+1)=F by omega];exact hRk
     have hel:es.length=n:=by rw[hes,List.length_map,hpl,hn]
     clear hE hB hRk hcl hsnoc
     conv=>cbv
     repeat' first|(refine ex _ _ _ ?_;(conv=>cbv))|(refine rt _ _ ?_;(conv=>cbv))|(left;intro(_:Unit);(conv=>cbv))|(refine QaA [0] hnm ?_;rintro r hc' ⟨rfl,rfl⟩;(conv=>cbv))|(refine Qe7 hms.symm (λh0=> ?_) (λi v hv=>absurd (hsome i v hv).1 hin);(conv=>cbv))|(refine Qhv hms.symm (λh0 es' he'=> ?_) (λi v hv=>absurd (hsome i v hv).1 hin);have hnx:=hnext es' he';(conv=>cbv))|(intro(e:List D) he;cases osj (he.symm.trans hxa);(conv=>cbv))|(intro(e:List D) he;cases osj (he.symm.trans har);(conv=>cbv))|(refine Qam hstep rfl rfl ?_;conv=>cbv)|(refine Qam hhd rfl rfl ?_;conv=>cbv)|(refine QaA [0,1,2] hask ?_;rintro r hc' ⟨rfl,rfl⟩;(conv=>cbv))|(intro(m:Nat) (r:Bool) (y:List (List D)) hm hr hy;refine(λ(hz:n1=m) (hz2:es1=y)=> ?_) (by first|omega|(simp only[List.length_cons,List.length_nil]at hm;omega)) (by first|(rw[hy,List.drop_zero,tkQ (by omega)];exact hes1)|(rw[hy];exact hes1));subst hz;subst hz2;(conv=>cbv))|exact gxQ|refine And.intro ?_ ?_|(intro hc;(first|rw[wS (by omega) (by omega)]at hc|rw[Qab]at hc|skip);try (conv=>cbv))
     all_goals (refine norm _ _ (nd1,nsl,nhp,z1,_,_,_,_,n1,es1) hnx (Wk.ca))
    ·rw[if_neg hrg]at hRk;have hE:=hE 2 (kk+1) z1 hRk.symm (by omega);clear hB hhd norm hsnoc hRk
     conv=>cbv
     repeat' first|(refine ex _ _ _ ?_;(conv=>cbv))|(refine rt _ _ ?_;(conv=>cbv))|(left;intro(_:Unit);(conv=>cbv))|(refine QaA [0] hnm ?_;rintro r hc' ⟨rfl,rfl⟩;(conv=>cbv))|(refine Qe7 hms.symm (λh0=> ?_) (λi v hv=>absurd (hsome i v hv).1 hin);(conv=>cbv))|(refine Qhv hms.symm (λh0 es' he'=> ?_) (λi v hv=>absurd (hsome i v hv).1 hin);(conv=>cbv))|(intro(e:List D) he;cases osj (he.symm.trans hxa);(conv=>cbv))|(refine Qam hstep rfl rfl ?_;conv=>cbv)|(refine QaA [0,1,2] hask ?_;rintro r hc' ⟨rfl,rfl⟩;(conv=>cbv))|exact hE _|exact gxQ|refine And.intro ?_ ?_|(intro hc;(first|rw[wS (by omega) (by omega)]at hc|rw[Qab]at hc|skip);try (conv=>cbv))
 ·clear hU hask hnm;rw[QuC,if_neg h0]at hQ;generalize Qav t xs from_=e at*;have hE:∀tl,Q (.tup [.agg [.d (iD 0),.d (iD 0),.d (.list true 1 [])],iA e]) (.am m:: .bx [.d (iD (-1))]:: .bx [.d (.list false 1 pl)]::tl):=λtl=>hQ _ _ ⟨tl,rfl,.inl ⟨rfl,rfl⟩⟩
  have hE1:e=1->∀tl,Q (.tup [.agg [.d (iD 0),.d (iD 0),.d (.list true 1 [])],iA 1]) (.am m:: .bx [.d (iD (-1))]:: .bx [.d (.list false 1 pl)]::tl):=λh tl=>by have:=hE tl;rw[h]at this;exact this
  clear hQ;obtain⟨id,src,dst,flow,st0,hops⟩:=p;simp only[QaT,Qbx,QbD,Qb3,QaH,Qag,Qai,BP]at*;generalize hxl:List.map Qal xs=xl at*;generalize hol:t.ov.map Qbs=ol at*;generalize hll:t.links.map QaE=ll at*;generalize htn:t.nodes=nodes at*;generalize hs0:List.map Qaf st0=s0 at*
  conv=>cbv
  repeat' first|(left;intro(_:Unit);(conv=>cbv))|(refine Qam hck rfl rfl ?_;conv=>cbv)|exact hE _|exact hE1 (by omega) _|exact gxQ|refine And.intro ?_ ?_|(intro hc;(first|rw[wS (by omega) (by omega)]at hc|rw[Qab]at hc|skip);try (conv=>cbv))
theorem QyP{σ:Type}[DecidableEq σ]{S:List σ}{y:σ}(h:y∈S):Qpw S y<S.length:=List.idxOf_lt_length_of_mem h
def Qhx(n:Int):List D:=[.int .u8 n]
def Qgd(pks:List Int)(k n:Nat):Int:=if pks=[]then 0 else (gt pks ((k%pks.length:Nat):Int)).tmod n
theorem QwA{pks:List Int}(hp:∀x∈pks,0<=x/\x<256)(k:Nat){n:Nat}(hn:0<n):0<=Qgd pks k n/\Qgd pks k n<n:=by
 unfold Qgd;split
 ·omega
 ·rename_i h;have hl:0<pks.length:=List.length_pos_iff.2 h;have h1:=Nat.mod_lt k hl;have hg:=(Qrs (l:=pks) (i:=((k%pks.length:Nat):Int)) (by omega) (by omega)).2;have:=hp _ hg;exact⟨Int.tmod_nonneg _ this.1,Int.tmod_lt_of_pos _ (by omega)⟩
section
variable{pks:List Int}(hp:∀x∈pks,0<=x/\x<256)(h0:pks≠[])(k:Nat)
include hp h0
theorem QuF:∃ci xv:Int,0<=ci/\ci<pks.length/\ci=(k:Int).tmod pks.length/\pks[ci.toNat]? =some xv/\0<=xv/\xv<256/\∀n:Nat,Qgd pks k n=xv.tmod n:=by
 have hl:0<pks.length:=List.length_pos_iff.2 h0;have h1:=Nat.mod_lt k hl;obtain⟨hg,hm⟩:=Qrs (l:=pks) (i:=((k%pks.length:Nat):Int)) (by omega) (by omega);refine⟨((k%pks.length:Nat):Int),_,by omega,by omega,?_,hg,(hp _ hm).1,(hp _ hm).2,λn=>by rw[Qgd,if_neg h0]⟩;rw[Int.tmod_eq_emod_of_nonneg (by omega)];rfl
end
theorem Qwz(P:Program)(hP:P=Tryz.prog)(m:Ar)(pks:List Int)(hp:∀x∈pks,0<=x/\x<256)(hpl:pks.length<=100)(fl nd:Int)(ar:List Int)(ha:ar≠[])(hal:ar.length<=1000)(k:Nat)(z:Int)(hk:k<=1000)(hz:z=(k:Int)-1):
  FnS P Qaj [iA fl,iA nd,QaB ar,.c (.ptr 1 0 0 0),.c (.ptr 2 0 0 0)] (BP m (pks.map Qhx) z) λq h'=>q=iA (Qgd pks k ar.length)/\h'=BP m (pks.map Qhx) (z+1):=by
 refine QaF (hP▸mixed) (hP▸Qep) (hP▸QiY) (nle rfl) λΛ Λo Q hQ=> ?_
 clear hP;have fin:=hQ _ _ ⟨rfl,rfl⟩;clear hQ;have hlen:0<ar.length:=List.length_pos_iff.2 ha;obtain⟨z1,hz1⟩:∃z1,z1=z+1:=⟨_,rfl⟩;have hz2:z1=k:=by omega
 rw[<-hz1]at fin;by_cases h0:pks=[]
 ·rw[Qgd,if_pos h0]at fin;simp only[BP,QaB,Qaw]at*;generalize hpe:pks.map Qhx=pl at*;have n0:Λ pl=0:=by rw[Λo,<-hpe,h0];rfl
  generalize hae:ar.map QaC=al at*;have n1:Λ al=ar.length:=by rw[Λo,<-hae];simp
  conv=>cbv
  repeat' first|(intro(k:Int) hk;rw[wS (by omega) (by omega)]at hk;refine(λ(hz:z1=k)=> ?_) ?_;rotate_left;omega;subst hz;(conv=>cbv))|exact fin|exact gxQ|refine And.intro ?_ ?_|(intro hc;(first|rw[wS (by omega) (by omega)]at hc|rw[Qab]at hc|skip);try (conv=>cbv))
 ·obtain⟨ci,xv,c0,c1,hci,hx,x0,x1,hpv⟩:=QuF hp h0 k;obtain⟨pi,hpi⟩:∃pi,pi=xv.tmod ar.length:=⟨_,rfl⟩;rw[hpv,<-hpi]at fin;have hxe:(pks.map Qhx)[ci.toNat]? =some [.int .u8 xv]:=by rw[gtm,hx];rfl
  simp only[BP,QaB,Qaw]at*;generalize hpe:pks.map Qhx=pl at*;have n0:Λ pl=pks.length:=by rw[Λo,<-hpe];simp
  have hpp:0<pks.length:=List.length_pos_iff.2 h0;generalize hae:ar.map QaC=al at*;have n1:Λ al=ar.length:=by rw[Λo,<-hae];simp
  rw[<-hz2]at hci
  conv=>cbv
  repeat' first|(intro(_:Unit);omega)|(intro(k:Int) hk;rw[wS (by omega) (by omega)]at hk;refine(λ(hz:z1=k)=> ?_) ?_;rotate_left;omega;subst hz;(conv=>cbv))|(intro(c:Int) (hc:c=Int.tmod z1 (Λ pl));refine(λ(hz:ci=c)=> ?_) (by rw[hc,hci,n0]);subst hz;(conv=>cbv))|(intro(c:Int) (hc:c=Int.tmod (IntKind.i64.wrap xv) (Λ al));refine(λ(hz:pi=c)=> ?_) (by rw[hc,hpi,n1,wS (by omega) (by omega)]);subst hz;(conv=>cbv))|(intro(c:Int) (hc:c=Int.tmod xv (Λ al));refine(λ(hz:pi=c)=> ?_) (by rw[hc,hpi,n1]);subst hz;(conv=>cbv))|(intro(e:List D) he;cases osj (he.symm.trans hxe);(conv=>cbv))|(intro(c:Int) (hc:c=IntKind.i64.wrap xv);refine(λ(hz:xv=c)=> ?_) (by rw[hc,wS (by omega) (by omega)]);subst hz;(conv=>cbv))|exact fin|exact gxQ|refine And.intro ?_ ?_|(intro hc;(first|rw[wS (by omega) (by omega)]at hc|rw[Qab]at hc|skip);try (conv=>cbv))
set_option maxHeartbeats 4000000 in
theorem QsL(P:Program)(hP:P=Tryz.prog)(t:Top)(xs:List Tab)(p:Pkt)(from_:Int)(g:Wlk)(U:List WSt)(pks:List Int)(hp:∀x∈pks,0<=x/\x<256)(hpl:pks.length<=100)
 (hU:Qav t xs from_=0->GOK P t xs p g U/\(from_,p.stack)∈U)(hrs:Qav t xs from_=0->∀s∈U,g.ar s=[]↔g.rs s≠0):
  FnS P Qgp [QaT t,Qbx xs,QbD p,iA from_,.c (.d (.list false 1 (pks.map Qhx)))] [] (QnS [] (QuC g (λk s=>Qgd pks k (g.ar s).length) U (from_,p.stack) (Qav t xs from_)).1 (QuC g (λk s=>Qgd pks k (g.ar s).length) U (from_,p.stack) (Qav t xs from_)).2.1):=by
 have hco:=Qo3 P hP t xs;have hadd:=λv r l n q hl=>Qrn P hP t xs v r l n q hl
 have hpv:=λk n hn=>QwA hp k (n:=n) hn
 refine QaF (hP▸mixed) (hP▸Qkc) (hP▸Qlg) (nle rfl) λΛ Λo Q hQ=> ?_
 clear hP;by_cases h0:Qav t xs from_=0
 ·obtain⟨hUK,hst⟩:=hU h0;have hrs:=hrs h0;clear hU;rw[h0]at hQ;rw[QuC,if_pos rfl]at hQ;obtain⟨hcb,hfr⟩:Qc9 t xs=true/\0<=from_/\from_<t.nodes:=by
   unfold Qav at h0;split at h0
   ·rename_i hc;split at h0
    ·rename_i hr;exact⟨hc,hr⟩
    ·cases h0
   ·cases h0
  rw[hcb]at hco;obtain⟨pick,hpick⟩:∃pick,(λk s=>Qgd pks k (g.ar s).length)=pick:=⟨_,rfl⟩;rw[hpick]at hQ;obtain⟨R,hR⟩:∃R,Qvt g pick (U.length+1) [] (from_,p.stack) []=R:=⟨_,rfl⟩;rw[hR]at hQ;obtain⟨id,src,dst,flow,st0,hops⟩:=p;simp only[QaT,Qbx,QbD,Qb3,QaH,Qag,Qai,grH]at*;generalize hxl:List.map Qal xs=xl at*;generalize hol:t.ov.map Qbs=ol at*;generalize hll:t.links.map QaE=ll at*;generalize htn:t.nodes=nodes at*;generalize hs0:List.map Qaf st0=s0 at*;generalize hpe:pks.map Qhx=pl at*;have hple:Λ pl=pks.length:=by rw[Λo,<-hpe];simp
  conv=>cbv
  repeat' first|(left;intro(_:Unit);(conv=>cbv))|(refine Qam hco rfl rfl ?_;conv=>cbv)|exact gxQ|refine And.intro ?_ ?_|(intro hc;(first|rw[wS (by omega) (by omega)]at hc|rw[Qab]at hc|skip);try (conv=>cbv))
  have hle:=hUK.len;refine QaS U.length (λ(x:Int×List (List D)×Int×Nat×Nat×Bool×List (List D)×Nat×Bool×Nat×List (List D))=>[(1,.c (.d (.list false 3 xl))),(4,.c (.d (.list false 1 pl))),(5,.c (.ptr 0 0 0 0)),(7,.c (.ptr 1 0 0 0)),(10,.c (.ptr 2 0 0 0)),(12,.c (.ptr 3 0 0 0)),(13,.c (.arr 5 x.2.2.2.2.2.2.2.1 0 x.2.2.2.2.2.2.2.2.2.1)),(14,iA x.1)])
   (λx=>[.bx [.d (iD nodes),.d (.list false 1 ol),.d (.list false 7 ll)],.bx [.d (iD id),.d (iD src),.d (iD dst),.d (iD flow),.d (.list false 2 x.2.1),.d (iD x.2.2.1)],.bx [.d (iD 0),.d (iD 0),.d (.list true 1 [])],.bx [.d (iD nodes),.d (.list false 1 ol),.d (.list false 7 ll),.d (.list false 3 xl),.arr 4 x.2.2.2.1 0 x.2.2.2.2.1],.da x.2.2.2.2.2.1 x.2.2.2.1 12 x.2.2.2.2.2.2.1,.da x.2.2.2.2.2.2.2.2.1 x.2.2.2.2.2.2.2.1 1 x.2.2.2.2.2.2.2.2.2.2])
   (λkk x=>kk<=U.length/\∃(seen:List WSt) (st:WSt) (path:List Int) (l:List StR),seen.length=kk/\seen.Nodup/\(∀y∈seen,y∈U)/\st∈U/\Qvt g pick (U.length+1-kk) seen st path=R/\path.length=kk/\l.map StR.key=seen/\x.1=st.1/\x.2.1=st.2.map Qaf/\x.2.2.2.2.1=l.length/\x.2.2.2.2.2.2.1=l.map Qbe/\x.2.2.2.2.2.2.2.2.2.1=kk/\x.2.2.2.2.2.2.2.2.2.2=path.map QaC)
   (from_,s0,hops,0,0,false,[],0,false,0,[]) (.trans (.nilB 3 4 12 _ rfl rfl) (.trans (.nilS 13 1 rfl) (Wk.ca))) ⟨by omega,[],(from_,st0),[],[],rfl,by simp,by simp,hst,hR,rfl,rfl,rfl,hs0.symm,rfl,rfl,rfl,rfl⟩ (λk s h=>h.1) ?_
  rintro kk ⟨nd,sl,hp1,v,cn,r,gs,ve,rb,n,es⟩ Q' ⟨hkk,seen,⟨nd',sk⟩,path,l,hsl,hsnd,hsU,hstU,hRk,hpln,hlk,hnd,hsl2,hcn,hgs,hn,hes⟩ norm ex rt;simp only at hnd hsl2 hcn hgs hn hes;subst hnd;clear hst hR;have hfin:∀r0 e c,R=(r0,e,c)->∀r h',QnS [] r0 e r h'->Q r h':=λr0 e c he r h' h=>hQ r h' (by rw[he];exact h)
  clear hQ;obtain⟨x,nst,nhp,hstp⟩:=hUK.st _ hstU;have hxa:xl[nd.toNat]? =some (Qal x):=by rw[<-hxl,gtm,hstp.at_];rfl
  have hxn:nd<(xs.length:Int):=by have:=Qaa hstp.at_;have:=hstp.nn;simp only at this;omega
  have hΛx:Λ xl=xs.length:=by rw[Λo,<-hxl];simp
  have hnn:0<=nd:=hstp.nn;have hstep:=hstp.stp;have hal:=hstp.len;have hhd:=hstp.hd;have hto:=hstp.tos;have hcl:=hUK.cl _ hstU;have hrs1:=hrs _ hstU;have hlln:l.length=kk:=by rw[<-hsl,<-hlk,List.length_map]
  have hadd:=hadd v r l nd ⟨id,src,dst,flow,sk,hp1⟩ (by omega);have hpk1:pick kk (nd,sk)=Qgd pks kk (g.ar (nd,sk)).length:=by rw[<-hpick]
  have hpv1:=hpv kk (g.ar (nd,sk)).length;clear hstp hUK hrs hpv hpick;obtain⟨F,hF⟩:∃F,U.length+1-kk=F+1:=⟨U.length-kk,by omega⟩;rw[hF,Qvt,hsl]at hRk;obtain⟨xnode,xto,xdown⟩:=x;obtain⟨nodes,ov,links⟩:=t;simp only at htn;subst htn;simp only[QaT,Qk0,QbD,Qb3,QaH,Qag,Qai,QaB,Qaw,QdR,Qal]at*;rw[hol,hll,<-hsl2]at hstep;rw[<-hsl2,<-hcn,<-hgs]at hadd;simp only[hol,hll]at hhd;generalize hgar:g.ar (nd,sk)=ar at*;generalize hgrs:g.rs (nd,sk)=rs at*;rw[hpk1]at hRk;generalize hpie:Qgd pks kk ar.length=pi at*;generalize hnsl:List.map Qaf nst=nsl at*;generalize List.map Qax xto=tol at*;generalize List.map QaC xdown=dol at*;generalize harlh:List.map QaC ar=arl at*;have hΛa:Λ arl=ar.length:=by rw[Λo,<-harlh];simp
  have hB:∀e,R=(⟨nd,rs,path⟩,e,kk)->∀h' ve rb,h'[5]? =some (.da rb ve 1 es)->Q (.tup [.agg [.d (iD nd),.d (iD rs),.arr 5 ve 0 n],iA e]) h':=λe he h' ve rb h=>hfin _ _ _ he _ _ ⟨h',rfl,.inr ⟨5,ve,rb,by rw[hn,<-hpln];rfl,by rw[<-hes];exact h⟩⟩
  have hE:∀e c,R=(Qz8,e,c)->∀h',Q (.tup [.agg [.d (iD 0),.d (iD 0),.d (.list true 1 [])],iA e]) h':=λe c he h'=>hfin _ _ _ he _ _ ⟨h',rfl,.inl ⟨rfl,rfl⟩⟩
  clear hfin hco;by_cases hin:(nd,sk)∈seen
  ·rw[if_pos hin]at hRk;have hE:=hE 16 kk hRk.symm;have e1:Qgc l nd ⟨id,src,dst,flow,sk,hp1⟩=l:=by rw[Qgc,if_pos (by rw[hlk];exact hin)]
   have e2:Qpw (l.map StR.key) (nd,sk)<l.length:=by
    rw[<-List.length_map (f:=StR.key)];exact QyP (by rw[hlk];exact hin)
   rw[e1,<-hcn,<-hgs]at hadd;obtain⟨ix,hix⟩:∃ix:Int,ix=(Qpw (l.map StR.key) (nd,sk):Nat):=⟨_,rfl⟩;rw[<-hix]at hadd;clear hB hhd hstep norm
   conv=>cbv
   repeat' first|(refine ex _ _ _ ?_;(conv=>cbv))|(refine rt _ _ ?_;(conv=>cbv))|(left;intro(_:Unit);(conv=>cbv))|(refine QaA [3,4] hadd ?_;rintro r hc' ⟨rfl,v',r',rfl⟩;(conv=>cbv))|exact hE _|exact gxQ|refine And.intro ?_ ?_|(intro hc;(first|rw[wS (by omega) (by omega)]at hc|rw[Qab]at hc|skip);try (conv=>cbv))
  ·rw[if_neg hin]at hRk;have e1:Qgc l nd ⟨id,src,dst,flow,sk,hp1⟩=l++[QkA nd ⟨id,src,dst,flow,sk,hp1⟩]:=by rw[Qgc,if_neg (by rw[hlk];exact hin)]
   have e2:Qpw ((l++[QkA nd ⟨id,src,dst,flow,sk,hp1⟩]).map StR.key) (nd,sk)=cn:=by
    rw[List.map_append,hlk];show Qpw (seen++[(nd,sk)]) (nd,sk)=cn;rw[Qrw hin,hsl,hcn,hlln]
   rw[e1,e2]at hadd;obtain⟨ic,hic⟩:∃ic:Int,ic=cn:=⟨_,rfl⟩;rw[<-hic]at hadd;obtain⟨l1,hl1⟩:∃l1,l1=l++[QkA nd ⟨id,src,dst,flow,sk,hp1⟩]:=⟨_,rfl⟩;have hl1n:l1.length=kk+1:=by rw[hl1,List.length_append,hlln];rfl
   have hl1k:l1.map StR.key=seen++[(nd,sk)]:=by rw[hl1,List.map_append,hlk];rfl
   rw[<-hl1]at hadd;obtain⟨cn1,hcn1⟩:∃cn1,cn1=l1.length:=⟨_,rfl⟩;obtain⟨gs1,hgs1⟩:∃gs1,gs1=l1.map Qbe:=⟨_,rfl⟩;rw[<-hcn1,<-hgs1]at hadd;by_cases h0:ar=[]
   ·rw[if_pos h0]at hRk;have hB:=hB 0 hRk.symm;have hr0:rs≠0:=hrs1.1 h0;clear hE hhd norm hRk
    conv=>cbv
    repeat' first|(refine ex _ _ _ ?_;(conv=>cbv))|(refine rt _ _ ?_;(conv=>cbv))|(left;intro(_:Unit);(conv=>cbv))|(refine QaA [3,4] hadd ?_;rintro r hc' ⟨rfl,v',r',rfl⟩;(conv=>cbv))|(intro(e:List D) he;cases osj (he.symm.trans hxa);(conv=>cbv))|(refine Qam hstep rfl rfl ?_;conv=>cbv)|exact hB _ _ _ rfl|exact gxQ|refine And.intro ?_ ?_|(intro hc;(first|rw[wS (by omega) (by omega)]at hc|rw[Qab]at hc|skip);try (conv=>cbv))
   ·rw[if_neg h0]at hRk;have hr0:rs=0:=Classical.byContradiction λh=>h0 (hrs1.2 h)
    have hlen:0<ar.length:=List.length_pos_iff.2 h0;have hrg:=hpv1 hlen;rw[if_pos hrg]at hRk;obtain⟨hga,hgm⟩:=Qrs hrg.1 hrg.2;have hhd:=hhd _ hgm;have hto:=hto _ hgm;have hUn:=hcl _ (List.mem_map.2 ⟨_,by rw[hgar];exact hgm,rfl⟩);have har:arl[pi.toNat]? =some [iD (gt ar pi)]:=by rw[<-harlh,gtm,hga];rfl
    generalize hga2:gt ar pi=a at*;generalize hy:g.to (nd,sk) a=y at*;obtain⟨nd1,sk1⟩:=y;simp only at hhd hto;subst hto;obtain⟨n1,hn1⟩:∃n1,n1=n+1:=⟨_,rfl⟩;obtain⟨es1,hes1⟩:∃es1,es1=es++[[iD a]]:=⟨_,rfl⟩;have hnx:kk+1<=U.length/\∃(seen:List WSt) (st:WSt) (path:List Int) (l:List StR),seen.length=kk+1/\seen.Nodup/\(∀y∈seen,y∈U)/\st∈U/\Qvt g pick (U.length+1-(kk+1)) seen st path=R/\path.length=kk+1/\l.map StR.key=seen/\nd1=st.1/\nsl=st.2.map Qaf/\cn1=l.length/\gs1=l.map Qbe/\n1=kk+1/\es1=path.map QaC:=by
     have hnd2:(seen++[(nd,sk)]).Nodup:=List.nodup_append.2 ⟨hsnd,by simp,λu hu v hv e=>by rw[List.mem_singleton]at hv;subst hv;subst e;exact hin hu⟩;have hU2:∀y∈seen++[(nd,sk)],y∈U:=λy hy=>by
      rcases List.mem_append.1 hy with hy|hy
      ·exact hsU y hy
      ·rw[List.mem_singleton]at hy;rw[hy];exact hstU
     have hl2:(seen++[(nd,sk)]).length=kk+1:=by rw[List.length_append,hsl];rfl
     have hle2:=hnd2.length_le_of_subset hU2;refine⟨by omega,seen++[(nd,sk)],(nd1,sk1),path++[a],l1,hl2,hnd2,hU2,hUn,?_,by simp[hpln],hl1k,rfl,hnsl.symm,hcn1,hgs1,by omega,by rw[hes1,hes,List.map_append];rfl⟩;rw[show U.length+1-(kk+1)=F by omega];exact hRk
    have hel:es.length=n:=by rw[hes,List.length_map,hpln,hn]
    clear hE hB hRk hcl;by_cases hp0:pks=[]
    ·have hpz:pi=0:=by rw[<-hpie,Qgd,if_pos hp0]
     have hpl0:Λ pl=0:=by rw[hple,hp0];rfl
     subst hpz
     conv=>cbv
     repeat' first|(refine ex _ _ _ ?_;(conv=>cbv))|(refine rt _ _ ?_;(conv=>cbv))|(left;intro(_:Unit);(conv=>cbv))|(refine QaA [3,4] hadd ?_;rintro r hc' ⟨rfl,v',r',rfl⟩;(conv=>cbv))|(intro(e:List D) he;cases osj (he.symm.trans hxa);(conv=>cbv))|(intro(e:List D) he;cases osj (he.symm.trans har);(conv=>cbv))|(refine Qam hstep rfl rfl ?_;conv=>cbv)|(refine Qam hhd rfl rfl ?_;conv=>cbv)|(intro(m:Nat) (r:Bool) (y:List (List D)) hm hr hy;refine(λ(hz:n1=m) (hz2:es1=y)=> ?_) (by first|omega|(simp only[List.length_cons,List.length_nil]at hm;omega)) (by first|(rw[hy,List.drop_zero,tkQ (by omega)];exact hes1)|(rw[hy];exact hes1));subst hz;subst hz2;(conv=>cbv))|exact gxQ|refine And.intro ?_ ?_|(intro hc;(first|rw[wS (by omega) (by omega)]at hc|rw[Qab]at hc|skip);try (conv=>cbv))
     all_goals (refine norm _ _ (nd1,nsl,nhp,_,cn1,_,gs1,_,_,n1,es1) hnx (Wk.ca))
    ·obtain⟨ci,xv,c0,c1,hci,hx,x0,x1,hpv⟩:=QuF hp hp0 kk;have hpi:pi=xv.tmod ar.length:=by rw[<-hpie];exact hpv _
     have hxe:pl[ci.toNat]? =some [.int .u8 xv]:=by rw[<-hpe,gtm,hx];rfl
     have hpp:0<pks.length:=List.length_pos_iff.2 hp0;have hcnk:(cn:Int)=kk:=by omega
     clear hpv
     conv=>cbv
     repeat' first|(refine ex _ _ _ ?_;(conv=>cbv))|(refine rt _ _ ?_;(conv=>cbv))|(intro(_:Unit);omega)|(left;intro(_:Unit);(conv=>cbv))|(refine QaA [3,4] hadd ?_;rintro r hc' ⟨rfl,v',r',rfl⟩;(conv=>cbv))|(intro(e:List D) he;cases osj (he.symm.trans hxa);(conv=>cbv))|(intro(e:List D) he;cases osj (he.symm.trans har);(conv=>cbv))|(intro(e:List D) he;cases osj (he.symm.trans hxe);(conv=>cbv))|(intro(c:Int) (hc:c=Int.tmod _ (Λ pl));refine(λ(hz:ci=c)=> ?_) (by rw[hc,hci,hple];congr 1;omega);subst hz;(conv=>cbv))|(intro(c:Int) (hc:c=Int.tmod (IntKind.i64.wrap xv) (Λ arl));refine(λ(hz:pi=c)=> ?_) (by rw[hc,hpi,hΛa,wS (by omega) (by omega)]);subst hz;(conv=>cbv))|(intro(c:Int) (hc:c=Int.tmod xv (Λ arl));refine(λ(hz:pi=c)=> ?_) (by rw[hc,hpi,hΛa]);subst hz;(conv=>cbv))|(intro(c:Int) (hc:c=IntKind.i64.wrap xv);refine(λ(hz:xv=c)=> ?_) (by rw[hc,wS (by omega) (by omega)]);subst hz;(conv=>cbv))|(refine Qam hstep rfl rfl ?_;conv=>cbv)|(refine Qam hhd rfl rfl ?_;conv=>cbv)|(intro(m:Nat) (r:Bool) (y:List (List D)) hm hr hy;refine(λ(hz:n1=m) (hz2:es1=y)=> ?_) (by first|omega|(simp only[List.length_cons,List.length_nil]at hm;omega)) (by first|(rw[hy,List.drop_zero,tkQ (by omega)];exact hes1)|(rw[hy];exact hes1));subst hz;subst hz2;(conv=>cbv))|exact gxQ|refine And.intro ?_ ?_|(intro hc;(first|rw[wS (by omega) (by omega)]at hc|rw[Qab]at hc|skip);try (conv=>cbv))
     all_goals (refine norm _ _ (nd1,nsl,nhp,_,cn1,_,gs1,_,_,n1,es1) hnx (Wk.ca))
 ·clear hU hadd hrs hpv;rw[QuC,if_neg h0]at hQ;have hE:∀e,e=Qav t xs from_->∀h',Q (.tup [.agg [.d (iD 0),.d (iD 0),.d (.list true 1 [])],iA e]) h':=λe he h'=>hQ _ _ ⟨h',rfl,.inl ⟨by rw[he];rfl,rfl⟩⟩
  clear hQ;unfold Qav at hE h0;generalize hcb:Qc9 t xs=cb at*;obtain⟨id,src,dst,flow,st0,hops⟩:=p;simp only[QaT,Qbx,QbD,Qb3,QaH,Qag,Qai]at*;generalize hxl:List.map Qal xs=xl at*;generalize hol:t.ov.map Qbs=ol at*;generalize hll:t.links.map QaE=ll at*;generalize htn:t.nodes=nodes at*;generalize hs0:List.map Qaf st0=s0 at*;generalize hpe:pks.map Qhx=pl at*;cases cb with
  |false=>
   have hE:=hE 1 (by simp);clear h0
   conv=>cbv
   repeat' first|(left;intro(_:Unit);(conv=>cbv))|(refine Qam hco rfl rfl ?_;conv=>cbv)|exact hE _|exact gxQ|refine And.intro ?_ ?_|(intro hc;(first|rw[wS (by omega) (by omega)]at hc|rw[Qab]at hc|skip);try (conv=>cbv))
  |true=>
   simp only[if_true]at hE h0;have hfr:¬(0<=from_/\from_<nodes):=λh=>by rw[if_pos h]at h0;exact h0 rfl
   have hE:=hE 2 (by rw[if_neg hfr]);clear h0
   conv=>cbv
   repeat' first|(left;intro(_:Unit);(conv=>cbv))|(refine Qam hco rfl rfl ?_;conv=>cbv)|exact hE _|exact gxQ|refine And.intro ?_ ?_|(intro hc;(first|rw[wS (by omega) (by omega)]at hc|rw[Qab]at hc|skip);try (conv=>cbv))
end Go.Ab
namespace Go.Ab
open Go.Proofs Go.Proofs.YtohbofilgkdihaaGreatDoor Go.ChangeShapes Go.WideShapes Go.ChangeAt Go.RowKit
abbrev By8:={x:Int // 0<=x/\x<256}
def QAN(x:By8):List D:=Qhx x.1
theorem wf8{z:Int}(h:(Lit.int .u8 z).wf=true):0<=z/\z<256:=by
 have h1:IntKind.u8.min=0:=rfl;have h2:IntKind.u8.max=255:=rfl;simp only[Lit.wf,Bool.and_eq_true,decide_eq_true_eq,h1,h2]at h;omega
theorem QAE:∀e n,FitL [.int .u8] e n->∃a:By8,e=QAN a/\1<=n:=by
 intro e n h;have hw:=h.weight;simp only[List.length_cons]at hw;obtain⟨d0,ds0,_,_,rfl,rfl,g0,h_0⟩:=h.un;obtain⟨z1,rfl,w_z1⟩:=g0.i;rw[h_0.end];exact⟨⟨z1,wf8 w_z1⟩,rfl,by omega⟩
theorem Qyq{ds:List D}{n:Nat}(h:FitL [.list 1 [.int .u8]] ds n):∃l:List Int,ds=[.list false 1 (l.map Qhx)]/\∀x∈l,0<=x/\x<256:=by
 obtain⟨d0,ds0,_,_,rfl,rfl,g0,h_0⟩:=h.un;obtain⟨pk,rfl,w_pk⟩:=g0.lm QAN (λ_=>1) QAE;rw[QgR]at w_pk;rw[h_0.end];refine⟨pk.map (·.1),?_,λx hx=> ?_⟩
 ·rw[List.map_map];rfl
 ·obtain⟨y,_,rfl⟩:=List.mem_map.1 hx;exact y.2
theorem QBB:∀s∈[Sh.list 1 [.int .u8]],ShO s:=by
 intro s hs;simp only[List.mem_cons,List.not_mem_nil,or_false]at hs;subst hs;exact .list _ _ (by simp) (by intro s hs;simp at hs;subst hs;exact .int _ (by decide))
theorem QBn{W:World}(hT:W.heap[pwG]? =some QkD){v:Value}{l:List Int}{n:Nat}(h:CsR W [v] [.list false 1 (l.map Qhx)])(hf:FitL [.list 1 [.int .u8]] [.list false 1 (l.map Qhx)] n):
  VR (λb=>b<W.heap.size/\b≠pwG) W [(0,0)] [.am pwA] v (.c (.d (.list false 1 (l.map Qhx)))):=
 .c _ _ (.d _ _ (QtI hT h hf QBB 0 _ _ rfl rfl))
end Go.Ab
namespace Go.Ab
open Go.Proofs
section
variable{P:Program}{ro:Option Nat}{N:Nat}{G0:Nat->Prop}{ι0:Io}{h0:Hp}{w0:World}
theorem Qts{ops:Array Oper}{Q:Exit->Act->World->Prop}(I:(Nat->Bool)->Act->World->Prop)(hd1:∀i o,ops.toList[i]? =some o->∀j∈direct o,j<i)
 (hstep:∀(L:Nat->Bool) (i:Nat) (a:Act) (w:World) (K:Act->World->Prop),i<ops.size->L i=false->(∀j,QpK ops i j=true->L j=true)->(∀k j,L k=true->QpK ops k j=true->L j=true)->I L a w->
   (∀a' w',I (λj=>Nat.beq j i||L j) a' w'->K a' w')->wpOpIn (Fen ro) 0 P ops Q i K a w)
 (hend:∀L a w,(∀i,i<ops.size->L i=true)->I L a w->Q .normal a w):
  ∀(fuel:Nat) (listed:Array Bool) (rem:List Nat) (a:Act) (w:World),Rem ops listed rem->rem.length<=fuel->Closed ops listed->I (λi=>listed.getD i false) a w->wpAnyIn (Fen ro) 0 P .any ops Q fuel listed a w:=by
 have hempty:∀listed rem,Rem ops listed rem->Region.ready .any ops listed=[]->rem=[]:=by
  intro listed rem hr hready;cases rem with
  |nil=>rfl
  |cons i rem=>
   exfalso;have hi:=(hr.mem i).1 (by simp);have ho:ops.toList[i]? =some (ops.toList[i]'(by simpa using hi.1)):=lgE _;have:i∈Region.ready .any ops listed:=by
    rw[QbF];refine⟨hi.1,hi.2,_,ho,λm hm=> ?_⟩;have hmi:=hd1 i _ ho m hm;have hnot:m∉i::rem:=by
     intro hmem;simp only[List.mem_cons]at hmem;rcases hmem with h|h
     ·omega
     ·have:=(List.pairwise_cons.1 hr.sorted).1 m h;omega
    have hms:m<ops.size:=by omega
    have:¬(listed.getD m true=false):=λhf=>hnot ((hr.mem m).2 ⟨hms,hf⟩)
    simp only[Array.getD_eq_getD_getElem?,agQ (show m<listed.size by rw[hr.size];exact hms),Option.getD_some]at this |-;simpa using this
   rw[hready]at this;cases this
 have hget:∀(listed:Array Bool) i,i<listed.size->∀b b',listed.getD i b=listed.getD i b':=λlisted i hi b b'=>by
  simp only[Array.getD_eq_getD_getElem?,agQ hi,Option.getD_some]
 have hfin:∀listed a w,Rem ops listed []->I (λi=>listed.getD i false) a w->Q .normal a w:=λlisted a w hr hI=>hend _ a w (λi hi=>by
  have h1:¬(listed.getD i true=false):=λh=>by have:=(hr.mem i).2 ⟨hi,h⟩;cases this
  rw[hget listed i (by rw[hr.size];exact hi) true false]at h1;simpa using h1) hI
 intro fuel;induction fuel with
 |zero=>
  intro listed rem a w hr hl hc hI;obtain rfl:=lzQ (by omega:rem.length=0);refine⟨?_,hfin listed a w hr hI⟩;apply List.eq_nil_iff_forall_not_mem.2;intro i hi;rw[QbF]at hi;have:=(hr.mem i).2 ⟨hi.1,hi.2.1⟩;cases this
 |succ fuel ih=>
  intro listed rem a w hr hl hc hI;refine⟨λhready=> ?_,λi hi=> ?_⟩
  ·obtain rfl:=hempty listed _ hr hready;exact hfin listed a w hr hI
  ·rw[QbF]at hi;obtain⟨hin,hil,o,ho,hdir⟩:=hi;have hil2:listed.getD i false=false:=by rw[hget listed i (by rw[hr.size];exact hin) false true];exact hil
   obtain⟨l1,l2,hrem⟩:=List.append_of_mem ((hr.mem i).2 ⟨hin,hil⟩);subst hrem;obtain⟨hr2,hc2⟩:=Qf6 hr hc hin ho hdir hd1;refine hstep _ i a w _ hin hil2 (λj hj=>Qcy hr.size hc i o j ho hdir hj) (λk j hk hkj=> ?_) hI λa' w' hI'=>ih _ (l1++l2) a' w' hr2 (by simp at hl |-;omega) hc2 ?_
   ·have hks:k<listed.size:=by
     rcases Nat.lt_or_ge k listed.size with h|h
     ·exact h
     ·simp only[Array.getD_eq_getD_getElem?,Array.getElem?_eq_none h,Option.getD_none]at hk;cases hk
    have hko:ops.toList[k]? =some (ops.toList[k]'(by rw[Array.length_toList,<-hr.size];exact hks)):=lgE _;exact Qcy hr.size hc k _ j hko (hc k _ hko (by rw[hget listed k hks true false];exact hk)) hkj
   ·have:(λj=>(listed.setIfInBounds i true).getD j false)=λj=>Nat.beq j i||listed.getD j false:=by
     funext j
     simp only[Array.getD_eq_getD_getElem?,Array.getElem?_setIfInBounds];by_cases hij:i=j
     ·subst hij;simp[hr.size,hin]
     ·have:Nat.beq j i=false:=by
       cases h:Nat.beq j i with
       |false=>rfl
       |true=>exact absurd (Nat.eq_of_beq_eq_true h).symm hij
      simp[hij,this]
    rw[this];exact hI'
theorem Qo7{id:Nat}{ops:Array Oper}{Q:Exit->Act->World->Prop}{a:Act}{w:World}(I:(Nat->Bool)->Act->World->Prop)(hm:P.follows .mixedOrders=true)(hd1:∀i o,ops.toList[i]? =some o->∀j∈direct o,j<i)
 (hstep:∀(L:Nat->Bool) (i:Nat) (a:Act) (w:World) (K:Act->World->Prop),i<ops.size->L i=false->(∀j,QpK ops i j=true->L j=true)->(∀k j,L k=true->QpK ops k j=true->L j=true)->I L a w->
   (∀a' w',I (λj=>Nat.beq j i||L j) a' w'->K a' w')->wpOpIn (Fen ro) 0 P ops Q i K a w)
 (hend:∀L a w,(∀i,i<ops.size->L i=true)->I L a w->Q .normal a w)(hI:I (λ_=>false) a {w with drawn:=w.drawn+1}):(Code.region id ops true).wpIn (Fen ro) 0 P Q a w:=by
 refine wpIn_region_any hm (Qts I hd1 hstep hend ops.size (Array.replicate ops.size false) (List.range ops.size) a _ ⟨by simp,λi=> ?_,List.pairwise_lt_range⟩ (by simp) ?_ ?_)
 ·simp only[List.mem_range,Array.getD_eq_getD_getElem?,Array.getElem?_replicate];constructor
  ·intro hi;exact⟨hi,by simp[hi]⟩
  ·exact λhi=>hi.1
 ·intro i o ho hl;have hi:i<ops.size:=by simpa using Qaa ho
  simp[Array.getD_eq_getD_getElem?,hi]at hl
 ·have:(λi=>(Array.replicate ops.size false).getD i false)=λ_=>false:=by
   funext i
   simp only[Array.getD_eq_getD_getElem?,Array.getElem?_replicate];split<;>rfl
  rw[this];exact hI
theorem Qda{ops:Array Oper}{Q:Exit->Act->World->Prop}{aos:List AO}(hall:QaP P ops N ops.toList=some aos)(i:Nat){d:Option Nat}{op:AOp}(hao:aos[i]? =some ⟨d,op,none⟩){e:Env}{h h':Hp}{v:AV}{a:Act}{w:World}{K:Act->World->Prop}(e':Env)
 (hf:Fits N G0 ι0 h0 w0 e h a w)(hx:∀x∈QaX op,ev e x=ev e' x)(hs:astep e' h op=some (v,h'))(hK:∀a' w',Fits N G0 ι0 h0 w0 (Qcn e d v) h' a' w'->K a' w'):wpOpIn (Fen ro) 0 P ops Q i K a w:=by
 have hlen:ops.size=aos.length:=by have:=(Qat hall).1;simpa using this
 have hk:=Qaa hao;obtain⟨o,ho⟩:∃o,ops[i]? =some o:=⟨_,agQ (by omega)⟩;have hcO:=(Qat hall).2 i o _ (by rw[Array.getElem?_toList];exact ho) hao;obtain⟨hdd,hdN,hop,hgs⟩:=Qa1 hcO;rw[<-Qdx hx]at hs;simp only at hdd hop;rw[hop]at hs;rw[hdd]at hK;obtain⟨G,ι,st⟩:=hf;unfold wpOpIn;simp only[ho];rw[Qbf st.rel hgs (b:=true) rfl (by simp)];simp only[if_true];obtain⟨v',w',G',ι',hrun,k1,k2,k3⟩:=Qd1 st.rel hs;rcases hrun with hrun|⟨hrun,rfl⟩
 ·exact Qdq (Qdl hs) hrun (hK _ _ ⟨G',ι',st.step hdN k1 k2 k3⟩)
 ·exact QeX (Qdl hs) hrun (hK _ _ ⟨G',ι',st.step hdN k1 k2 k3⟩)
theorem Qy9{ops:Array Oper}{Q:Exit->Act->World->Prop}{aos:List AO}(hall:QaP P ops N ops.toList=some aos)(hg:aos.all (gOk N)=true){m:Nat}(hm:h0.length<=m){Λ:Len}(hΛ:∀l,Λ l=(l.length:Int))(i:Nat){ao:AO}(hao:aos[i]? =some ao){L:Lv}{h:Hp}{a:Act}{w:World}{K:Act->World->Prop}
 (hf:Fits N G0 ι0 h0 w0 (lkL L) h a w)(hv:Qdm P Λ m false [ao] L h λL' h'=>∀a' w',Fits N G0 ι0 h0 w0 (lkL L') h' a' w'->K a' w'):wpOpIn (Fen ro) 0 P ops Q i K a w:=by
 have hlen:ops.size=aos.length:=by have:=(Qat hall).1;simpa using this
 have hk:=Qaa hao;obtain⟨o,ho⟩:∃o,ops[i]? =some o:=⟨_,agQ (by omega)⟩;have hcO:=(Qat hall).2 i o _ (by rw[Array.getElem?_toList];exact ho) hao;obtain⟨hdd,hdN,hop,hgs⟩:=Qa1 hcO;have hgN:=QdW (List.all_eq_true.1 hg ao (mgE hao));have hr:=QcZ hΛ hv;simp only[Qh0]at hr;obtain⟨G,ι,st⟩:=hf;unfold wpOpIn;simp only[ho];rcases hr with ⟨hgv,hv⟩|⟨hgv,hv⟩
 ·rw[Qbf st.rel hgs hgv hgN];simp only[if_true];exact Qfr hm hcO hv ⟨G,ι,st⟩ λL' v h' a' w' hk' hf'=>hk' a' w' (by rw[QaR];exact hf')
 ·rw[Qbf st.rel hgs hgv hgN];simp only[Bool.false_eq_true,if_false];refine⟨λf _=>Fen.fn ro f,hv _ _ ⟨G,ι,?_⟩⟩;rw[QaR,hdd];exact st.step hdN st.rel.hr (.tup #[] [] rfl (by simp)) (Ext.refl _ _ _ _)
def Qk1(e:Env):Lv->Prop
 |[]=>True
 |(s,v)::r=>(v= .c .u\/e s=v)/\Qk1 e r
theorem Qk1.nil{e:Env}:Qk1 e []:=trivial
theorem Qk1.cons{e:Env}{s:Nat}{v:AV}{r:Lv}(h:v= .c .u\/e s=v)(hr:Qk1 e r):Qk1 e ((s,v)::r):=⟨h,hr⟩
theorem Qk1.get{e:Env}:∀{L:Lv},Qk1 e L->∀i,lkL L i= .c .u\/lkL L i=e i
 |[],_,i=> .inl rfl
 |(s,v)::r,h,i=>by
  simp only[lkL,upd];split
  ·rename_i hi;subst hi;exact h.1.imp id Eq.symm
  ·exact Qk1.get h.2 i
theorem QaQ{e:Env}{h:Hp}{a:Act}{w:World}(hf:Fits N G0 ι0 h0 w0 e h a w){L:Lv}(hL:Qk1 e L:=by repeat' first|exact .nil|refine .cons (.inr rfl) ?_):Fits N G0 ι0 h0 w0 (lkL L) h a w:=by
 obtain⟨G,ι,st⟩:=hf;refine⟨G,ι,⟨st.rel.hr,st.rel.size,λi=> ?_⟩,st.ext,st.dfr⟩;rcases hL.get i with h|h
 ·show VR G w ι _ _ (lkL L i);rw[h];exact .c _ _ (.u _)
 ·show VR G w ι _ _ (lkL L i);rw[h];exact st.rel.env i
end
def Qxf(P:Program)(Λ:Len)(m:Nat)(Q:Post):Nat->AC->Lv->Hp->(Lv->Hp->Prop)->Prop
 |0,_,L,h,K=>K L h
 |n+1,.seq a b,L,h,K=>vcC P Λ m a L h λe L' h'=>match e with
  | .normal=>Qxf P Λ m Q n b L' h' K
  |e=>Q e L' h'
 |_+1,_,_,_,_=>False
theorem QtF{P:Program}{N:Nat}{G0:Nat->Prop}{ι0:Io}{h0:Hp}{w0:World}{Λ:Len}(hΛ:∀l,Λ l=(l.length:Int)){m:Nat}(hm:P.follows .mixedOrders=true)(hm0:h0.length<=m){Q:Post}{K:Lv->Hp->Prop}:
  ∀(n:Nat) (c:Code) (x:AC) (L:Lv) (h:Hp) (a:Act) (w:World),Qif n c=true->Qd9 P N c=some x->Qxf P Λ m Q n x L h K->Fits N G0 ι0 h0 w0 (lkL L) h a w->
   (∀L' h' a' w',K L' h'->Fits N G0 ι0 h0 w0 (lkL L') h' a' w'->Qd9 P N (QcF n c)=some (Qge n x)->(QcF n c).wpIn (Fen none) 0 P (out N G0 ι0 h0 w0 Q) a' w')->c.wpIn (Fen none) 0 P (out N G0 ι0 h0 w0 Q) a w:=by
 intro n;induction n with
 |zero=>intro c x L h a w _ hc hv hf hk;exact hk L h a w hv hf hc
 |succ n ih=>
  intro c x L h a w hs hc hv hf hk;cases c with
  |seq c1 c2=>
   simp only[Qd9,QbZ]at hc;split at hc
   ·rename_i x1 x2 h1 h2;cases hc;simp only[Qxf]at hv;refine wpIn_seq (wpIn_mono (QdM hΛ hm hm0 c1 x1 L h _ a w h1 hv hf) λe a' w' ⟨L',h',hq,hf'⟩=> ?_);cases e with
    |normal=>exact ih c2 x2 L' h' a' w' hs h2 hq hf' hk
    |ret=>exact⟨L',h',hq,hf'⟩
    |exit i=>exact⟨L',h',hq,hf'⟩
    |goto=>exact hq.elim
    |panic=>exact hq.elim
    |outgrown=>exact hq.elim
   ·cases hc
  |_=>cases hs
def Qb0:Code->Array Oper
 | .seq (.region _ ops true) _=>ops
 |_=> #[]
def Qqj:Code->Bool
 | .seq (.region _ _ true) _=>true
 |_=>false
theorem QtQ{P:Program}{N:Nat}{c:Code}{x:AC}(h:Qqj c=true)(hc:Qd9 P N c=some x):∃id c2,c= .seq (.region id (Qb0 c) true) c2/\Qd9 P N c2=some (Qge 1 x):=by
 unfold Qqj at h;split at h
 ·rename_i id ops c2;refine⟨id,c2,rfl,?_⟩;simp only[Qd9,QbZ]at hc;split at hc
  ·rename_i x1 x2 h1 h2;cases hc;exact h2
  ·cases hc
 ·cases h
theorem QuG(P:Program)(hP:P=Tryz.prog)(pl:List (List D)):FnS P Qgm [.c (.d (.list false 1 pl))] [] λr h'=>r= .c (.fn false Qaj [.ptr 1 0 0 0,.ptr 0 0 0 0])/\h'=[.bx [.d (.list false 1 pl)],.bx [.d (iD (-1))]]:=by
 refine QaF (hP▸mixed) (hP▸Qj8) (hP▸Qlc) (nle rfl) λΛ Λo Q hQ=> ?_
 clear hP;have fin:=hQ _ _ ⟨rfl,rfl⟩;clear hQ
 conv=>cbv
 repeat' first|(left;intro(_:Unit);(conv=>cbv))|exact fin|exact gxQ|refine And.intro ?_ ?_|(intro hc;(first|rw[wS (by omega) (by omega)]at hc|rw[Qab]at hc|skip);try (conv=>cbv))
structure PkD where
 m:Ar
 (nodes:Int) (ol ll xl:List (List D)) (id src dst fl:Int) (sl:List (List D)) (hp fr:Int)
 pl:List (List D)
 lst:D
 (rn rr:Int) (rp:D) (er cz:Int)
def en(b:Bool)(v:AV):AV:=match b with
 |true=>v
 |false=> .c .u
def PkD.cb(d:PkD):Blk:= .bx [.d (iD d.nodes),.d (.list false 1 d.ol),.d (.list false 7 d.ll),.d (.list false 3 d.xl),.d (iD d.id),.d (iD d.src),.d (iD d.dst),.d (iD d.fl),.d (.list false 2 d.sl),.d (iD d.hp),.d (iD d.fr)]
def PkD.xc(d:PkD)(b:Bool):List CV:=match b with
 |true=>[.d (iD d.rn),.d (iD d.rr),.d d.rp]
 |false=>[.d (iD 0),.d (iD 0),.d (.list true 1 [])]
def PkD.zc(d:PkD)(b:Bool):Int:=match b with
 |true=>d.cz
 |false=> -1
def PkD.hX(d:PkD)(L:Nat->Bool):Hp:=match L 14 with
 |true=>[.bx (d.xc (L 15))]
 |false=>[]
def PkD.hP(d:PkD)(L:Nat->Bool):Hp:=match L 9 with
 |true=>[.bx [.d (.list false 1 d.pl)],.bx [.d (iD (d.zc (L 10)))]]
 |false=>[]
def PkD.hT(d:PkD)(L:Nat->Bool)(od:Bool):Hp:=match od with
 |true=>d.hX L++d.hP L
 |false=>d.hP L++d.hX L
def PkD.hh(d:PkD)(L:Nat->Bool)(od:Bool):Hp:= .am d.m::d.cb::d.hT L od
def pX(od:Bool):CV:=match od with
 |true=> .ptr 2 0 0 0
 |false=> .ptr 4 0 0 0
def pCl(od:Bool):CV:=match od with
 |true=> .fn false Qaj [.ptr 4 0 0 0,.ptr 3 0 0 0]
 |false=> .fn false Qaj [.ptr 3 0 0 0,.ptr 2 0 0 0]
def PkD.rA(d:PkD):AV:= .agg [.d (iD d.rn),.d (iD d.rr),.d d.rp]
def Cns(L:Nat->Bool)(od:Bool):Prop:=(L 9=false->L 14=true->od=true)/\(L 9=true->L 14=false->od=false)
def QBb:List Nat:=[0,1,0,4,0,16,0,64,0,256,1023,2047,4095,4095,0,24575,65535]
def LLO(d:PkD)(L:Nat->Bool)(od:Bool):Lv:=[(1,.c (.d (.list false 1 d.pl))),(2,.c (.ptr 1 0 0 0)),(19,en (L 0) (.c (.ptr 1 0 0 0))),(20,en (L 1) (.agg [.d (iD d.nodes),.d (.list false 1 d.ol),.d (.list false 7 d.ll)])),(21,en (L 2) (.c (.ptr 1 0 0 3))),(22,en (L 3) (.c (.d (.list false 3 d.xl)))),(23,en (L 4) (.c (.ptr 1 0 0 4))),(24,en (L 5) (.agg [.d (iD d.id),.d (iD d.src),.d (iD d.dst),.d (iD d.fl),.d (.list false 2 d.sl),.d (iD d.hp)])),(25,en (L 6) (.c (.ptr 1 0 0 10))),(26,en (L 7) (iA d.fr)),(27,en (L 8) (.c (.d (.list false 1 d.pl)))),(28,en (L 9) (.c (pCl od))),(29,en (L 10) (.tup [d.rA,iA d.er])),(18,en (L 11) (.tup [d.rA,iA d.er])),(30,en (L 12) (d.rA)),(31,en (L 13) (iA d.er)),(5,en (L 14) (.c (pX od))),(6,en (L 16) (iA d.er))]
def QBN:List AO:=[⟨some 19,.fa (.t 2) 0,none⟩,⟨some 20,.ld (.t 19) (some 3),none⟩,⟨some 21,.fa (.t 2) 3,none⟩,⟨some 22,.ld (.t 21) none,none⟩,⟨some 23,.fa (.t 2) 4,none⟩,⟨some 24,.ld (.t 23) (some 6),none⟩,⟨some 25,.fa (.t 2) 10,none⟩,⟨some 26,.ld (.t 25) none,none⟩,⟨some 27,.mv (.t 1),none⟩,⟨some 28,.call 24 [.t 27],none⟩,⟨some 29,.call 23 [.t 20,.t 22,.t 24,.t 26,.t 28],none⟩,⟨some 18,.mv (.t 29),none⟩,⟨some 30,.ext (.t 18) 0,none⟩,⟨some 31,.ext (.t 18) 1,none⟩,⟨some 5,.box (.k (.agg [.d (.int .i64 0),.d (.int .i64 0),.d (.list true 1 [])])),none⟩,⟨none,.st (.t 5) (.t 30) 3,none⟩,⟨some 6,.mv (.t 31),none⟩]
section
variable{N:Nat}{G0:Nat->Prop}{ι0:Io}{h0:Hp}{w0:World}
def StO(N:Nat)(G0:Nat->Prop)(ι0:Io)(h0:Hp)(w0:World)(d:PkD)(L:Nat->Bool)(a:Act)(w:World):Prop:=∃od,Cns L od/\Fits N G0 ι0 h0 w0 (lkL (LLO d L od)) (d.hh L od) a w
theorem QDr{c:Code}{M:Nat}(hM:h0.length<=M)(hms:masks (Qb0 c).toList []=QBb)(hdir:QpT (Qb0 c).toList=true)(hall:QaP Tryz.prog (Qb0 c) N (Qb0 c).toList=some QBN)(hg:QBN.all (gOk N)=true)(d:PkD)
 (hone:FnS Tryz.prog Qf2 [.agg [.d (iD d.nodes),.d (.list false 1 d.ol),.d (.list false 7 d.ll)],.c (.d (.list false 3 d.xl)),.agg [.d (iD d.id),.d (iD d.src),.d (iD d.dst),.d (iD d.fl),.d (.list false 2 d.sl),.d (iD d.hp)],iA d.fr,.c (.fn false Qaj [.ptr 1 0 0 0,.ptr 2 0 0 0])] (BP d.m d.pl (-1))
   λr h'=>r= .tup [d.rA,iA d.er]/\h'=BP d.m d.pl d.cz) {Q:Exit->Act->World->Prop} {id:Nat} {a:Act} {w:World} (hf:Fits N G0 ι0 h0 w0 (lkL [(1,.c (.d (.list false 1 d.pl))),(2,.c (.ptr 1 0 0 0))]) [.am d.m,d.cb] a w)
  (hQ:∀od a' w',Fits N G0 ι0 h0 w0 (lkL (LLO d (λ_=>true) od)) (d.hh (λ_=>true) od) a' w'->Q .normal a' w'):(Code.region id (Qb0 c) true).wpIn (Fen none) 0 Tryz.prog Q a w:=by
 have hsz:(Qb0 c).size=17:=by have:=(Qat hall).1;rw[Array.length_toList]at this;rw[this];rfl
 have hb:∀i j,QpK (Qb0 c) i j=(QBb.getD i 0).testBit j:=λi j=>by rw[QpK,hms]
 have hpick:=QuG Tryz.prog rfl d.pl;have hΛ:∀l:List (List D),(λl:List (List D)=>(l.length:Int)) l=(l.length:Int):=λ_=>rfl
 refine Qo7 (ro:=none) (StO N G0 ι0 h0 w0 d) mixed (λi op ho j hj=> ?_) ?_ ?_ ⟨false,⟨(λ_ h=>by cases h),(λh=>by cases h)⟩,QaQ (L:=LLO d (λ_=>false) false) (Fits.same_heap (w':={w with drawn:=w.drawn+1}) hf rfl) (by repeat' first|exact .nil|refine .cons (.inr rfl) ?_|refine .cons (.inl rfl) ?_)⟩
 ·have h1:=List.all_eq_true.1 hdir i (List.mem_range.2 (Qaa ho));rw[ho]at h1;exact of_decide_eq_true (List.all_eq_true.1 h1 j hj)
 ·intro L i a w K hi hLi hdep hcl ⟨od,hC,hF⟩ hK;have hdep:∀j,(QBb.getD i 0).testBit j=true->L j=true:=λj hj=>hdep j (by rw[hb];exact hj)
  have hcl:∀k j,L k=true->(QBb.getD k 0).testBit j=true->L j=true:=λk j hk hj=>hcl k j hk (by rw[hb];exact hj)
  rw[hsz]at hi
  match i,hi with
  |0,_=>
   refine Qda hall 0 rfl (lkL [(2,.c (.ptr 1 0 0 0))]) hF (λx hx=> ?_) rfl λa' w' hf'=>hK a' w' ⟨od,hC,QaQ hf'⟩
   obtain rfl:x= .t 2:=by simpa [QaX]using hx
   rfl
  |1,_=>
   have h0:L 0=true:=hdep 0 rfl;refine Qda hall 1 rfl (lkL [(19,.c (.ptr 1 0 0 0))]) hF (λx hx=> ?_) rfl λa' w' hf'=>hK a' w' ⟨od,hC,QaQ hf'⟩
   obtain rfl:x= .t 19:=by simpa [QaX]using hx
   show en (L 0) _=_;rw[h0];rfl
  |2,_=>
   refine Qda hall 2 rfl (lkL [(2,.c (.ptr 1 0 0 0))]) hF (λx hx=> ?_) rfl λa' w' hf'=>hK a' w' ⟨od,hC,QaQ hf'⟩
   obtain rfl:x= .t 2:=by simpa [QaX]using hx
   rfl
  |3,_=>
   have h2:L 2=true:=hdep 2 rfl;refine Qda hall 3 rfl (lkL [(21,.c (.ptr 1 0 0 3))]) hF (λx hx=> ?_) rfl λa' w' hf'=>hK a' w' ⟨od,hC,QaQ hf'⟩
   obtain rfl:x= .t 21:=by simpa [QaX]using hx
   show en (L 2) _=_;rw[h2];rfl
  |4,_=>
   refine Qda hall 4 rfl (lkL [(2,.c (.ptr 1 0 0 0))]) hF (λx hx=> ?_) rfl λa' w' hf'=>hK a' w' ⟨od,hC,QaQ hf'⟩
   obtain rfl:x= .t 2:=by simpa [QaX]using hx
   rfl
  |5,_=>
   have h4:L 4=true:=hdep 4 rfl;refine Qda hall 5 rfl (lkL [(23,.c (.ptr 1 0 0 4))]) hF (λx hx=> ?_) rfl λa' w' hf'=>hK a' w' ⟨od,hC,QaQ hf'⟩
   obtain rfl:x= .t 23:=by simpa [QaX]using hx
   show en (L 4) _=_;rw[h4];rfl
  |6,_=>
   refine Qda hall 6 rfl (lkL [(2,.c (.ptr 1 0 0 0))]) hF (λx hx=> ?_) rfl λa' w' hf'=>hK a' w' ⟨od,hC,QaQ hf'⟩
   obtain rfl:x= .t 2:=by simpa [QaX]using hx
   rfl
  |7,_=>
   have h6:L 6=true:=hdep 6 rfl;refine Qda hall 7 rfl (lkL [(25,.c (.ptr 1 0 0 10))]) hF (λx hx=> ?_) rfl λa' w' hf'=>hK a' w' ⟨od,hC,QaQ hf'⟩
   obtain rfl:x= .t 25:=by simpa [QaX]using hx
   show en (L 6) _=_;rw[h6];rfl
  |8,_=>
   refine Qda hall 8 rfl (lkL [(1,.c (.d (.list false 1 d.pl)))]) hF (λx hx=> ?_) rfl λa' w' hf'=>hK a' w' ⟨od,hC,QaQ hf'⟩
   obtain rfl:x= .t 1:=by simpa [QaX]using hx
   rfl
  |11,_=>
   have h10:L 10=true:=hdep 10 rfl;refine Qda hall 11 rfl (lkL [(29,.tup [d.rA,iA d.er])]) hF (λx hx=> ?_) rfl λa' w' hf'=>hK a' w' ⟨od,hC,QaQ hf'⟩
   obtain rfl:x= .t 29:=by simpa [QaX]using hx
   show en (L 10) _=_;rw[h10];rfl
  |12,_=>
   have h11:L 11=true:=hdep 11 rfl;refine Qda hall 12 rfl (lkL [(18,.tup [d.rA,iA d.er])]) hF (λx hx=> ?_) rfl λa' w' hf'=>hK a' w' ⟨od,hC,QaQ hf'⟩
   obtain rfl:x= .t 18:=by simpa [QaX]using hx
   show en (L 11) _=_;rw[h11];rfl
  |13,_=>
   have h11:L 11=true:=hdep 11 rfl;refine Qda hall 13 rfl (lkL [(18,.tup [d.rA,iA d.er])]) hF (λx hx=> ?_) rfl λa' w' hf'=>hK a' w' ⟨od,hC,QaQ hf'⟩
   obtain rfl:x= .t 18:=by simpa [QaX]using hx
   show en (L 11) _=_;rw[h11];rfl
  |16,_=>
   have h13:L 13=true:=hdep 13 rfl;refine Qda hall 16 rfl (lkL [(31,iA d.er)]) hF (λx hx=> ?_) rfl λa' w' hf'=>hK a' w' ⟨od,hC,QaQ hf'⟩
   obtain rfl:x= .t 31:=by simpa [QaX]using hx
   show en (L 13) _=_;rw[h13];rfl
  |9,_=>
   have h8:L 8=true:=hdep 8 rfl;have h10:L 10=false:=by
    cases h:L 10 with
    |false=>rfl
    |true=>have:=hcl 10 9 h rfl;rw[hLi]at this;cases this
   cases h14:L 14 with
   |false=>
    have hh:d.hh L od=[.am d.m,d.cb]:=by cases od<;>simp only[PkD.hh,PkD.hT,PkD.hX,PkD.hP,hLi,h14]<;>rfl
    rw[hh]at hF;have hh2:d.hh (λj=>Nat.beq j 9||L j) false=[.am d.m,d.cb,.bx [.d (.list false 1 d.pl)],.bx [.d (iD (-1))]]:=by
     show Blk.am d.m::d.cb::([.bx [.d (.list false 1 d.pl)],.bx [.d (iD (d.zc (L 10)))]]++d.hX (λj=>Nat.beq j 9||L j))=_;rw[h10,PkD.hX];show Blk.am d.m::d.cb::([.bx [.d (.list false 1 d.pl)],.bx [.d (iD (d.zc false))]]++(match L 14 with|true=>_|false=>[]))=_;rw[h14];rfl
    refine Qy9 hall hg hM hΛ 9 rfl hF ?_;show CallS Tryz.prog M false _ _ 24 [.t 27] _;refine QhF [] hpick (by show[en (L 8) _]=_;rw[h8];rfl) rfl (by decide) trivial rfl rfl ?_;rintro r hc' ⟨rfl,rfl⟩;refine λa' w' hf'=>hK a' w' ⟨false,⟨(λh=>by cases h),λ_ _=>rfl⟩,?_⟩
    rw[hh2];refine QaQ hf' (by repeat' first|exact .nil|refine .cons (.inr rfl) ?_|refine .cons (.inl (by show en (L 14) _=_;rw[h14];rfl)) ?_)
   |true=>
    obtain rfl:=hC.1 hLi h14;have h15:L 15=false:=by
     cases h:L 15 with
     |false=>rfl
     |true=>have:=hcl 15 9 h rfl;rw[hLi]at this;cases this
    have hh:d.hh L true=[.am d.m,d.cb,.bx (d.xc false)]:=by simp only[PkD.hh,PkD.hT,PkD.hX,PkD.hP,hLi,h14,h15]<;>rfl
    rw[hh]at hF;have hh2:d.hh (λj=>Nat.beq j 9||L j) true=[.am d.m,d.cb,.bx (d.xc false),.bx [.d (.list false 1 d.pl)],.bx [.d (iD (-1))]]:=by
     show Blk.am d.m::d.cb::(d.hX (λj=>Nat.beq j 9||L j)++[.bx [.d (.list false 1 d.pl)],.bx [.d (iD (d.zc (L 10)))]])=_;rw[h10,PkD.hX];show Blk.am d.m::d.cb::((match L 14 with|true=>[.bx (d.xc (L 15))]|false=>[])++_)=_;rw[h14,h15];rfl
    refine Qy9 hall hg hM hΛ 9 rfl hF ?_;show CallS Tryz.prog M false _ _ 24 [.t 27] _;refine QhF [] hpick (by show[en (L 8) _]=_;rw[h8];rfl) rfl (by decide) trivial rfl rfl ?_;rintro r hc' ⟨rfl,rfl⟩;refine λa' w' hf'=>hK a' w' ⟨true,⟨(λ_ _=>rfl),λ_ h=>by have h:L 14=false:=h;rw[h14]at h;cases h⟩,?_⟩
    rw[hh2];exact QaQ hf'
  |10,_=>
   have h1:L 1=true:=hdep 1 rfl;have h3:L 3=true:=hdep 3 rfl;have h5:L 5=true:=hdep 5 rfl;have h7:L 7=true:=hdep 7 rfl;have h9:L 9=true:=hdep 9 rfl;have hgo:∀(od:Bool) (σ:List Nat) (rest rest':Hp) (hcl':pCl od=rnC (rho σ (Blk.am d.m::d.cb::rest).length) (.fn false Qaj [.ptr 1 0 0 0,.ptr 2 0 0 0])) (hl:σ.length=3) (hnd:σ.Nodup) (hfr:QyE (Blk.am d.m::d.cb::rest) (rho σ (Blk.am d.m::d.cb::rest).length) 0 (BP d.m d.pl (-1)))
     (hback:QgF (Blk.am d.m::d.cb::rest) σ (BP d.m d.pl d.cz)=Blk.am d.m::d.cb::rest'),d.hh L od=Blk.am d.m::d.cb::rest->d.hh (λj=>Nat.beq j 10||L j) od=Blk.am d.m::d.cb::rest'->Cns L od->Fits N G0 ι0 h0 w0 (lkL (LLO d L od)) (d.hh L od) a w->wpOpIn (Fen none) 0 Tryz.prog (Qb0 c) Q 10 K a w:=by
    intro od σ rest rest' hcl' hl hnd hfr hback e1 e2 hC hF;rw[e1]at hF;refine Qy9 hall hg hM hΛ 10 rfl hF ?_;show CallS Tryz.prog M false _ _ 23 [.t 20,.t 22,.t 24,.t 26,.t 28] _;refine QhF σ hone (by show[en (L 1) _,en (L 3) _,en (L 5) _,en (L 7) _,en (L 9) _]=_;rw[h1,h3,h5,h7,h9];show[_,_,_,_,AV.c (pCl od)]=[_,_,_,_,AV.c (rnC _ _)];rw[<-hcl'];rfl) hl hnd hfr rfl rfl ?_;rintro r hc' ⟨rfl,rfl⟩;rw[hback];refine λa' w' hf'=>hK a' w' ⟨od,hC,?_⟩
    rw[e2];exact QaQ hf'
   cases h14:L 14 with
   |false=>
    obtain rfl:=hC.2 h9 h14;refine hgo false [0,3,2] [.bx [.d (.list false 1 d.pl)],.bx [.d (iD (-1))]] [.bx [.d (.list false 1 d.pl)],.bx [.d (iD d.cz)]] rfl rfl (by decide) (by repeat' first|exact trivial|refine And.intro ?_ ?_|rfl) rfl ?_ ?_ hC hF
    ·simp only[PkD.hh,PkD.hT,PkD.hX,PkD.hP,h9,h14,hLi]<;>rfl
    ·show Blk.am d.m::d.cb::(d.hP (λj=>Nat.beq j 10||L j)++d.hX (λj=>Nat.beq j 10||L j))=_;rw[PkD.hP,PkD.hX];show Blk.am d.m::d.cb::((match L 9 with|true=>[.bx [.d (.list false 1 d.pl)],.bx [.d (iD d.cz)]]|false=>[])++(match L 14 with|true=>_|false=>[]))=_;rw[h9,h14];rfl
   |true=>
    have hx:∀od,d.hh L od=Blk.am d.m::d.cb::(match od with|true=>[.bx (d.xc (L 15)),.bx [.d (.list false 1 d.pl)],.bx [.d (iD (-1))]]|false=>[.bx [.d (.list false 1 d.pl)],.bx [.d (iD (-1))],.bx (d.xc (L 15))]):=λod=>by
     cases od<;>simp only[PkD.hh,PkD.hT,PkD.hX,PkD.hP,h9,h14,hLi]<;>rfl
    have hy:∀od,d.hh (λj=>Nat.beq j 10||L j) od=Blk.am d.m::d.cb::(match od with|true=>[.bx (d.xc (L 15)),.bx [.d (.list false 1 d.pl)],.bx [.d (iD d.cz)]]|false=>[.bx [.d (.list false 1 d.pl)],.bx [.d (iD d.cz)],.bx (d.xc (L 15))]):=λod=>by
     have e1:d.hP (λj=>Nat.beq j 10||L j)=[.bx [.d (.list false 1 d.pl)],.bx [.d (iD d.cz)]]:=by
      rw[PkD.hP];show(match L 9 with|true=>[Blk.bx [.d (.list false 1 d.pl)],Blk.bx [.d (iD d.cz)]]|false=>[])=_;rw[h9]
     have e2:d.hX (λj=>Nat.beq j 10||L j)=[.bx (d.xc (L 15))]:=by
      rw[PkD.hX];show(match L 14 with|true=>[Blk.bx (d.xc (L 15))]|false=>[])=_;rw[h14]
     cases od<;>simp only[PkD.hh,PkD.hT,e1,e2]<;>rfl
    cases od with
    |true=>exact hgo true [0,4,3] _ _ rfl rfl (by decide) (by repeat' first|exact trivial|refine And.intro ?_ ?_|rfl) rfl (hx true) (hy true) hC hF
    |false=>exact hgo false [0,3,2] _ _ rfl rfl (by decide) (by repeat' first|exact trivial|refine And.intro ?_ ?_|rfl) rfl (hx false) (hy false) hC hF
  |14,_=>
   have h15:L 15=false:=by
    cases h:L 15 with
    |false=>rfl
    |true=>have:=hcl 15 14 h rfl;rw[hLi]at this;cases this
   have e2:d.hX (λj=>Nat.beq j 14||L j)=[.bx (d.xc false)]:=by
    rw[PkD.hX];show[Blk.bx (d.xc (L 15))]=_;rw[h15]
   cases h9:L 9 with
   |false=>
    have hh:d.hh L od=[.am d.m,d.cb]:=by cases od<;>simp only[PkD.hh,PkD.hT,PkD.hX,PkD.hP,hLi,h9]<;>rfl
    rw[hh]at hF;have hh2:d.hh (λj=>Nat.beq j 14||L j) true=[.am d.m,d.cb,.bx (d.xc false)]:=by
     rw[PkD.hh,PkD.hT,e2,PkD.hP];show Blk.am d.m::d.cb::([.bx (d.xc false)]++(match L 9 with|true=>_|false=>[]))=_;rw[h9];rfl
    refine Qda hall 14 rfl (lkL []) hF (λx hx=> ?_) (h':=[.am d.m,d.cb,.bx (d.xc false)]) (v:= .c (.ptr 2 0 0 0)) rfl λa' w' hf'=>hK a' w' ⟨true,⟨(λ_ _=>rfl),λh=>by have h:L 9=true:=h;rw[h9]at h;cases h⟩,?_⟩
    ·obtain rfl:x= .k (.agg [.d (.int .i64 0),.d (.int .i64 0),.d (.list true 1 [])]):=by simpa [QaX]using hx
     rfl
    ·rw[hh2];refine QaQ hf' (by repeat' first|exact .nil|refine .cons (.inr rfl) ?_|refine .cons (.inl (by show en (L 9) _=_;rw[h9];rfl)) ?_)
   |true=>
    obtain rfl:=hC.2 h9 hLi;have hh:d.hh L false=[.am d.m,d.cb,.bx [.d (.list false 1 d.pl)],.bx [.d (iD (d.zc (L 10)))]]:=by simp only[PkD.hh,PkD.hT,PkD.hX,PkD.hP,hLi,h9]<;>rfl
    rw[hh]at hF;have hh2:d.hh (λj=>Nat.beq j 14||L j) false=[.am d.m,d.cb,.bx [.d (.list false 1 d.pl)],.bx [.d (iD (d.zc (L 10)))],.bx (d.xc false)]:=by
     rw[PkD.hh,PkD.hT,e2,PkD.hP];show Blk.am d.m::d.cb::((match L 9 with|true=>[.bx [.d (.list false 1 d.pl)],.bx [.d (iD (d.zc (L 10)))]]|false=>[])++[.bx (d.xc false)])=_;rw[h9];rfl
    refine Qda hall 14 rfl (lkL []) hF (λx hx=> ?_) (h':=[.am d.m,d.cb,.bx [.d (.list false 1 d.pl)],.bx [.d (iD (d.zc (L 10)))],.bx (d.xc false)]) (v:= .c (.ptr 4 0 0 0)) rfl λa' w' hf'=>hK a' w' ⟨false,⟨(λh=>by have h:L 9=false:=h;rw[h9]at h;cases h),λ_ _=>rfl⟩,?_⟩
    ·obtain rfl:x= .k (.agg [.d (.int .i64 0),.d (.int .i64 0),.d (.list true 1 [])]):=by simpa [QaX]using hx
     rfl
    ·rw[hh2];exact QaQ hf'
  |15,_=>
   have h9:L 9=true:=hdep 9 rfl;have h10:L 10=true:=hdep 10 rfl;have h12:L 12=true:=hdep 12 rfl;have h14:L 14=true:=hdep 14 rfl;have e1:d.hP (λj=>Nat.beq j 15||L j)=[.bx [.d (.list false 1 d.pl)],.bx [.d (iD d.cz)]]:=by
    rw[PkD.hP];show(match L 9 with|true=>[Blk.bx [.d (.list false 1 d.pl)],Blk.bx [.d (iD (d.zc (L 10)))]]|false=>[])=_;rw[h9,h10];rfl
   have e2:d.hX (λj=>Nat.beq j 15||L j)=[.bx (d.xc true)]:=by
    rw[PkD.hX];show(match L 14 with|true=>[Blk.bx (d.xc true)]|false=>[])=_;rw[h14]
   cases od with
   |true=>
    have hh:d.hh L true=[.am d.m,d.cb,.bx (d.xc false),.bx [.d (.list false 1 d.pl)],.bx [.d (iD d.cz)]]:=by simp only[PkD.hh,PkD.hT,PkD.hX,PkD.hP,hLi,h9,h10,h14]<;>rfl
    rw[hh]at hF;refine Qda hall 15 rfl (lkL [(5,.c (.ptr 2 0 0 0)),(30,d.rA)]) hF (λx hx=> ?_) (h':=[.am d.m,d.cb,.bx (d.xc true),.bx [.d (.list false 1 d.pl)],.bx [.d (iD d.cz)]]) rfl λa' w' hf'=>hK a' w' ⟨true,hC,?_⟩
    ·have hx:x= .t 5\/x= .t 30:=by simpa [QaX]using hx
     rcases hx with rfl|rfl
     ·show en (L 14) _=_;rw[h14];rfl
     ·show en (L 12) _=_;rw[h12];rfl
    ·rw[PkD.hh,PkD.hT,e1,e2];exact QaQ hf'
   |false=>
    have hh:d.hh L false=[.am d.m,d.cb,.bx [.d (.list false 1 d.pl)],.bx [.d (iD d.cz)],.bx (d.xc false)]:=by simp only[PkD.hh,PkD.hT,PkD.hX,PkD.hP,hLi,h9,h10,h14]<;>rfl
    rw[hh]at hF;refine Qda hall 15 rfl (lkL [(5,.c (.ptr 4 0 0 0)),(30,d.rA)]) hF (λx hx=> ?_) (h':=[.am d.m,d.cb,.bx [.d (.list false 1 d.pl)],.bx [.d (iD d.cz)],.bx (d.xc true)]) rfl λa' w' hf'=>hK a' w' ⟨false,hC,?_⟩
    ·have hx:x= .t 5\/x= .t 30:=by simpa [QaX]using hx
     rcases hx with rfl|rfl
     ·show en (L 14) _=_;rw[h14];rfl
     ·show en (L 12) _=_;rw[h12];rfl
    ·rw[PkD.hh,PkD.hT,e1,e2];exact QaQ hf'
  |i+17,hi=>omega
 ·intro L a w hL ⟨od,hC,hF⟩;rw[hsz]at hL;have e1:LLO d L od=LLO d (λ_=>true) od:=by
   simp only[LLO,hL 0 (by decide),hL 1 (by decide),hL 2 (by decide),hL 3 (by decide),hL 4 (by decide),hL 5 (by decide),hL 6 (by decide),hL 7 (by decide),hL 8 (by decide),hL 9 (by decide),hL 10 (by decide),hL 11 (by decide),hL 12 (by decide),hL 13 (by decide),hL 14 (by decide),hL 16 (by decide)]
  have e2:d.hh L od=d.hh (λ_=>true) od:=by
   simp only[PkD.hh,PkD.hT,PkD.hX,PkD.hP,hL 9 (by decide),hL 10 (by decide),hL 14 (by decide),hL 15 (by decide)]
  rw[e1,e2]at hF;exact hQ od a w hF
end
section
variable{N:Nat}{G0:Nat->Prop}{ι0:Io}{h0:Hp}{w0:World}
end
theorem Qun(P:Program)(hP:P=Tryz.prog)(c:C24)(hs:Qz1 c)(hi:InS c.p.stack):FnS P QeT [Qvs c] [] λr h'=>(∃b,r=bA b/\(b=false->Sm24 c))/\h'=[]:=by
 refine FnS.mono (FnS.cut (Qwj P hP c hs hi) λr h' hr=> ?_) λr h' hr=> ?_
 ·obtain⟨_,b,rfl,-⟩:=hr;exact⟨rfl,rfl⟩
 ·obtain⟨h2,⟨_,h3⟩,h4⟩:=hr;exact⟨h3,lzQ h4⟩
theorem Qtw(P:Program)(haw:Qjl P)(m:Ar)(hT:Qbp m):FnS P QcD [] [.am m] λr h'=>∃m',h'=[.am m']/\Qbp m'/\r=bA true:=
 QCa (R:=λr m'=>Qbp m'/\r=bA true) ((haw m hT).mono λr h' ⟨e,m',tl,e2,h⟩=>⟨m',tl,e2,h,e⟩) λr m' ⟨_,e⟩=>by subst e;exact⟨λ_=>rfl,rfl⟩
theorem QCd(t:Top)(xs:List Tab)(p:Pkt)(s:WSt):(gW t xs p).ar s=[]↔(gW t xs p).rs s≠0:=by
 have hb:=Qjf t (Qe4 xs s.1) {p with stack:=s.2,hops:=0};have h1:(gA t xs p s).2.2=0↔0<(gA t xs p s).1.length:=hb.some;have h2:(gW t xs p).ar s=(gA t xs p s).1:=rfl;have h3:(gW t xs p).rs s=(gA t xs p s).2.2:=rfl;rw[h2,h3,Ne,h1];cases (gA t xs p s).1<;>simp
abbrev QsI (c:C24) (pks:List Int) (U:List WSt):Rsl×Int×Nat:=QuC (gW c.t c.xs c.p) (λk s=>Qgd pks k ((gW c.t c.xs c.p).ar s).length) U (c.fr,c.p.stack) (Qav c.t c.xs c.fr)
theorem QBf(P:Program)(hP:P=Tryz.prog)(c:C24)(pks:List Int)(hpk:∀x∈pks,0<=x/\x<256)(hlen:pks.length<=100)(U:List WSt)(m:Ar)(hT:Qbp m)
 (hU:Qav c.t c.xs c.fr=0->UOK P c.t c.xs c.p (gW c.t c.xs c.p) U/\(c.fr,c.p.stack)∈U):
  FnS P Qf2 [QaT c.t,Qbx c.xs,QbD c.p,iA c.fr,.c (.fn false Qaj [.ptr 1 0 0 0,.ptr 2 0 0 0])] (BP m (pks.map Qhx) (-1)) λr h'=>r=QBv (QsI c pks U).1 (QsI c pks U).2.1/\h'=BP m (pks.map Qhx) (((QsI c pks U).2.2:Int)-1):=by
 by_cases h0:Qav c.t c.xs c.fr=0
 ·exact Qqs rfl rfl (QrI P hP c.t c.xs c.p c.fr (gW c.t c.xs c.p) U m hT (pks.map Qhx) (λk s=>Qgd pks k ((gW c.t c.xs c.p).ar s).length) hU λk s z hs ha hk hz=>by
   obtain⟨x,nst,nhp,hstp⟩:=(hU h0).1.st s hs;exact Qwz P hP m pks hpk hlen c.p.flow s.1 _ ha hstp.len k z hk hz)
 ·have e:QsI c pks U=QsI c pks []:=by unfold QsI QuC;rw[if_neg h0,if_neg h0]
  rw[e];exact Qqs rfl rfl (QrI P hP c.t c.xs c.p c.fr (gW c.t c.xs c.p) [] m hT (pks.map Qhx) (λk s=>Qgd pks k ((gW c.t c.xs c.p).ar s).length) (λh=>absurd h h0) (λk s z hs=>by cases hs))
theorem Qy7(P:Program)(hP:P=Tryz.prog)(haw:Qjl P)(c:C24)(pks:List Int)(hs:Qz1 c)(hi:InS c.p.stack)(m:Ar)(hT:Qbp m)(Λ:Len)(Λo:∀l,Λ l=(l.length:Int))(K:AV->Hp->Prop)(hK:∀m' tl,Qbp m'->K (bA true) (.am m'::tl))
 (R:Lv->Hp->Prop)(hR:∀m',Qbp m'->Sm24 c->pks.length<=100->∀L h,Wk 1 L h [(1,.c (.d (.list false 1 (pks.map Qhx)))),(2,.c (.ptr 1 0 0 0))] [.am m',.bx [.d (iD c.t.nodes),.d (Qag c.t.ov),.d (Qai c.t.links),.d (.list false 3 (c.xs.map Qal)),.d (iD c.p.id),.d (iD c.p.src),.d (iD c.p.dst),.d (iD c.p.flow),.d (QaH c.p.stack),.d (iD c.p.hops),.d (iD c.fr)]]->R L h):
  Qxf P Λ 1 (Qze Qbl.res K) 3 (afB Qbl) (QpG 0 [Qvs c,.c (.d (.list false 1 (pks.map Qhx)))]) [.am m] R:=by
 have hlg:=Qun P hP c hs hi;have haw:=Qtw P haw m hT;clear hP hs hi;generalize hsmc:Sm24 c=sm at*;clear hsmc;obtain⟨t,xs,p,fr⟩:=c;obtain⟨id,src,dst,flow,st0,hops⟩:=p;simp only[Qvs,QaH,Qag,Qai]at*;generalize List.map Qal xs=xl at*;generalize t.ov.map Qbs=ol at*;generalize t.links.map QaE=ll at*;generalize t.nodes=nodes at*;generalize List.map Qaf st0=sl at*;generalize hpe:pks.map Qhx=pl at*;have hple:Λ pl=pks.length:=by rw[Λo,<-hpe];simp
 clear hpe
 conv=>cbv
 repeat' first|(left;intro(_:Unit);(conv=>cbv))|(refine QaA [0] haw ?_;rintro r hc' ⟨m1,rfl,hT1,rfl⟩;(conv=>cbv))|(refine QaA [] hlg ?_;rintro r hc' ⟨⟨b,rfl,hb⟩,rfl⟩;cases b;(have hsm:=hb rfl);all_goals (conv=>cbv))|exact hK _ _ (by assumption)|(refine hR _ (by assumption) hsm (by omega) _ _ ?_;exact(Wk.ca))|exact gxQ|refine And.intro ?_ ?_|(intro hc;(first|rw[wS (by omega) (by omega)]at hc|rw[Qab]at hc|skip);try (conv=>cbv))
theorem Qy8(P:Program)(hP:P=Tryz.prog)(c:C24)(pks:List Int)(hpk:∀x∈pks,0<=x/\x<256)(hlen:pks.length<=100)(U:List WSt)(m:Ar)(hT:Qbp m)
 (hU:Qav c.t c.xs c.fr=0->GOK P c.t c.xs c.p (gW c.t c.xs c.p) U/\(c.fr,c.p.stack)∈U)(Λ:Len)(K:AV->Hp->Prop)(hK:∀m' tl,Qbp m'->K (bA true) (.am m'::tl))(lst:D)(od:Bool)(R:Rsl×Int×Nat)(hR:R=QsI c pks U):
  vcC P Λ 1 (Qge 4 (afB Qbl)) (LLO ⟨m,c.t.nodes,c.t.ov.map Qbs,c.t.links.map QaE,c.xs.map Qal,c.p.id,c.p.src,c.p.dst,c.p.flow,c.p.stack.map Qaf,c.p.hops,c.fr,pks.map Qhx,lst,R.1.node,R.1.rs,Qaw R.1.path,R.2.1,(R.2.2:Int)-1⟩ (λ_=>true) od) (PkD.hh ⟨m,c.t.nodes,c.t.ov.map Qbs,c.t.links.map QaE,c.xs.map Qal,c.p.id,c.p.src,c.p.dst,c.p.flow,c.p.stack.map Qaf,c.p.hops,c.fr,pks.map Qhx,lst,R.1.node,R.1.rs,Qaw R.1.path,R.2.1,(R.2.2:Int)-1⟩ (λ_=>true) od) (Qze Qbl.res K):=by
 have hpi:=Qqs (h:=[]) rfl rfl (QsL P hP c.t c.xs c.p c.fr (gW c.t c.xs c.p) U pks hpk hlen hU λ_ s _=>QCd c.t c.xs c.p s);have hsm:=QsU P hP [R.1] [R.1];rw[decide_eq_true rfl]at hsm;simp only[<-hR]at hpi;have hK:=λtl=>hK m tl hT
 clear hP hU hR hT;obtain⟨⟨rn,rr,rpath⟩,er,cnt⟩:=R;obtain⟨t,xs,p,fr⟩:=c;obtain⟨id,src,dst,flow,st0,hops⟩:=p;simp only[QaT,Qbx,QbD,QBv,QrT,Qzx,Qem,QaH,Qag,Qai,Qaw,List.map_cons,List.map_nil]at*;generalize List.map Qal xs=xl at*;generalize t.ov.map Qbs=ol at*;generalize t.links.map QaE=ll at*;generalize t.nodes=nodes at*;generalize List.map Qaf st0=sl at*;generalize pks.map Qhx=pl at*;generalize rpath.map QaC=pa at*;generalize (cnt:Int)-1=cz at*;cases od<;>(conv=>cbv)
 all_goals repeat' first|(left;intro(_:Unit);(conv=>cbv))|(refine QaA [] hpi ?_;rintro r hc' ⟨rfl,rfl⟩;(conv=>cbv))|(refine Qam hsm rfl rfl ?_;conv=>cbv)|(refine Qia 6 0 3 1 rfl rfl (by repeat' first|exact trivial|refine And.intro ?_ ?_|rfl) (by repeat' first|exact trivial|refine And.intro ?_ ?_|rfl) ?_;(conv=>cbv))|(refine Qia 7 0 3 1 rfl rfl (by repeat' first|exact trivial|refine And.intro ?_ ?_|rfl) (by repeat' first|exact trivial|refine And.intro ?_ ?_|rfl) ?_;(conv=>cbv))|exact hK _|exact gxQ|refine And.intro ?_ ?_|(intro hc;(first|rw[wS (by omega) (by omega)]at hc|rw[Qab]at hc|skip);try (conv=>cbv))
def QBj(k:Nat)(c:Code):Bool:=Qif k c&&Qqj (QcF k c)&&QpT (Qb0 (QcF k c)).toList
theorem Qy5:(match Tryz.f6.body with|some c=>QBj 3 c|none=>false)=true:=by kernel_rfl
theorem QBe:(match Tryz.f6.body with|some c=>masks (Qb0 (QcF 3 c)).toList []|none=>[])=QBb:=by kernel_rfl
theorem Qy4:(match Tryz.f6.body with|some c=>QaP Tryz.prog (Qb0 (QcF 3 c)) Tryz.f6.ntmps (Qb0 (QcF 3 c)).toList|none=>none)=some QBN:=by kernel_rfl
theorem QBd:QBN.all (gOk Tryz.f6.ntmps)=true:=by kernel_rfl
theorem Qy6(P:Program)(hP:P=Tryz.prog)(haw:Qjl P)(c:C24)(pks:List Int)(hpk:∀x∈pks,0<=x/\x<256)(hs:Qz1 c)(hi:InS c.p.stack)(m:Ar)(hT:Qbp m):
  FnS P QfA [Qvs c,.c (.d (.list false 1 (pks.map Qhx)))] [.am m] λr h'=>r=bA true/\∃m' tl,h'= .am m'::tl/\Qbp m':=by
 subst hP;obtain⟨cd,hb,hac,hres,hn⟩:=Qdt QjL;have hchk:=Qy5;have hms:=QBe;have hao:=Qy4;rw[hb]at hchk hms hao;simp only[QBj,Bool.and_eq_true]at hchk hms hao;obtain⟨⟨k1,k2⟩,k3⟩:=hchk;have hΛ:∀l:List (List D),(λl:List (List D)=>(l.length:Int)) l=(l.length:Int):=λ_=>rfl
 refine QlF Qi7 hb hres (by rw[<-hn];exact nle rfl) λG ι w a hf=> ?_
 refine QtF (Λ:=λl=>(l.length:Int)) hΛ (m:=1) mixed (Nat.le_refl _) 3 cd (afB Qbl) (QpG 0 [Qvs c,.c (.d (.list false 1 (pks.map Qhx)))]) [.am m] a w k1 hac
  (Qy7 Tryz.prog rfl haw c pks hs hi m hT _ hΛ _ (λm' tl h=>⟨rfl,m',tl,rfl,h⟩) (λL h=>∃m',Qbp m'/\Sm24 c/\pks.length<=100/\Wk 1 L h [(1,.c (.d (.list false 1 (pks.map Qhx)))),(2,.c (.ptr 1 0 0 0))] [.am m',.bx [.d (iD c.t.nodes),.d (Qag c.t.ov),.d (Qai c.t.links),.d (.list false 3 (c.xs.map Qal)),.d (iD c.p.id),.d (iD c.p.src),.d (iD c.p.dst),.d (iD c.p.flow),.d (QaH c.p.stack),.d (iD c.p.hops),.d (iD c.fr)]]) λm' h1 h2 h3 L h h4=>⟨m',h1,h2,h3,h4⟩) hf ?_
 rintro L h a1 w1 ⟨m1,hT1,hsm,hlen,hwk⟩ hf1 hc3;have hf2:=hwk.fits (Nat.le_refl _) hf1;obtain⟨U,hU⟩:=Sm24.ok (P:=Tryz.prog) rfl (c:=c) hsm hi;have hone:=QBf Tryz.prog rfl c pks hpk hlen U m1 hT1 λh=>⟨(hU h).1,(hU h).2.2.st⟩
 obtain⟨id,c2,hce,hc4⟩:=QtQ k2 hc3;rw[hce];refine wpIn_seq (QDr (c:=QcF 3 cd) (M:=1) (Nat.le_refl _) hms k3 hao QBd ⟨m1,c.t.nodes,c.t.ov.map Qbs,c.t.links.map QaE,c.xs.map Qal,c.p.id,c.p.src,c.p.dst,c.p.flow,c.p.stack.map Qaf,c.p.hops,c.fr,pks.map Qhx,.bool true,(QsI c pks U).1.node,(QsI c pks U).1.rs,Qaw (QsI c pks U).1.path,(QsI c pks U).2.1,((QsI c pks U).2.2:Int)-1⟩ hone hf2 λod a2 w2 hf3=> ?_);exact QdM (Λ:=λl=>(l.length:Int)) hΛ (m:=1) mixed (Nat.le_refl _) c2 _ _ _ _ a2 w2 hc4 (Qy8 Tryz.prog rfl c pks hpk hlen U m1 hT1 (λh=>⟨(hU h).2.1,(hU h).2.2.st⟩) _ _ (λm' tl h=>⟨rfl,m',tl,rfl,h⟩) (.bool true) od (QsI c pks U) rfl) hf3
end Go.Ab
