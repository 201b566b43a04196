/-
  Merged texts, part z.
-/
import Derived.Test.YtohbofilgkdihaaGreatDoorZy
import Derived.RecoverIn
import Derived.WalkKit
set_option linter.all false
namespace Go.Proofs
set_option maxHeartbeats 2000000 in
set_option maxRecDepth 100000 in
theorem Tryz.ask_idle(v:Value)(w:World):CallsDIn Fence.wide 0 Tryz.prog 83 #[v] .returning w λe u' w'=>e= .returned (.tuple #[])/\u'= .returning/\w'=w:=by
 refine callsDIn_of_wpSIn Tryz.func83 rfl trivial λc₀ cs hu=> ?_
 apply wpSIn_seq;apply wpSIn_region;simp[wpOpsSIn,go_sem,recoverD,hu,Tryz.ntmps83,Exit.thenS];refine wpSIn_cond (t:=false) (by simp[Act.eval,Array.replicate]) ?_;simp only[Bool.false_eq_true,if_false];refine wpSIn_of_wpIn rfl (wpIn_skip ?_);cases c₀
 simp_all [bodyPostS,results,Tryz.results83]
end Go.Proofs
namespace Go.Ab
open Go.Proofs
section
variable{P:Program}{N:Nat}{G0:Nat->Prop}{ι0:Io}{h0:Hp}{w0:World}
theorem QuC{ops:Array Oper}{Q:Exit->Act->World->Prop}{aos:List AO}(hall:QaQ P ops N ops.toList=some aos)(k:Nat){d:Option Nat}{op:AOp}(hao:aos[k]? =some ⟨d,op,none⟩){e:Env}{h h':Hp}{av:AV}{a:Act}{w:World}{G:Nat->Prop}{ι:Io}(st:St N G0 ι0 h0 w0 G ι e h a w)(hd:a.defers=[])
 (hs:astep e h op=some (av,h'))(hQ:∀G' ι' a' w',a'.defers=[]->St N G0 ι0 h0 w0 G' ι' (Qcn e d av) h' a' w'->wpOpsIn (Fen none) 0 P ops Q (List.range' (k+1) (ops.size-(k+1))) a' w'):wpOpsIn (Fen none) 0 P ops Q (List.range' k (ops.size-k)) a w:=by
 refine Qnl hall k hao st λo ho hcO=> ?_
 obtain⟨hdd,hdN,hop,hgs⟩:=Qa2 hcO;simp only at hdd hop;rw[hop]at hs;rw[hdd]at hQ;obtain⟨v',w',G',ι',hrun,k1,k2,k3⟩:=Qd0 st.rel hs;have hp:∀v,(a.put o.dst v).defers=[]:=λv=>by cases o.dst<;>exact hd
 rcases hrun with hrun|⟨hrun,rfl⟩
 ·exact Qdr (Qdl hs) hrun (hQ _ _ _ _ (hp _) (st.step hdN k1 k2 k3))
 ·exact Qe0 (Qdl hs) hrun (hQ _ _ _ _ (hp _) (st.step hdN k1 k2 k3))
theorem QoZ{ro:Option Nat}{ops:Array Oper}{m:Nat}(hm:h0.length<=m){Q:Exit->Act->World->Prop}{rest:List Nat}(ds:List Deferred):∀(os:List Oper) (aos:List AO) (k:Nat) (L:Lv) (h:Hp) (K:Lv->Hp->Prop) (a:Act) (w:World),
  (∀i o,os[i]? =some o->ops[k+i]? =some o)->QaQ P ops N os=some aos->aos.all (gOk N)=true->Qh0 P m false aos L h K->Fits N G0 ι0 h0 w0 (lkL L) h a w->
  (∀L' h' a' w',K L' h'->Fits N G0 ι0 h0 w0 (lkL L') h' a' w'->wpOpsIn (Fen ro) 0 P ops Q rest (Qpo a' ds) w')->wpOpsIn (Fen ro) 0 P ops Q (List.range' k os.length++rest) (Qpo a ds) w:=by
 intro os;induction os with
 |nil=>
  intro aos k L h K a w _ hc _ hv hf hQ;simp only[QaQ,osi]at hc;subst hc;exact hQ L h a w hv hf
 |cons o os ih=>
  intro aos k L h K a w hk hc hg hv hf hQ;simp only[QaQ]at hc;split at hc
  ·rename_i ao l hao hl;cases hc;simp only[List.all_cons,Bool.and_eq_true]at hg;have hok:ops[k]? =some o:=by have:=hk 0 o rfl;simpa using this
   have hrest:∀L' h' a' w',Qh0 P m false l L' h' K->Fits N G0 ι0 h0 w0 (lkL L') h' a' w'->wpOpsIn (Fen ro) 0 P ops Q (List.range' (k+1) os.length++rest) (Qpo a' ds) w':=λL' h' a' w' hv' hf'=>
    ih l (k+1) L' h' K a' w' (λi o' ho=>by have:=hk (i+1) o' (by simpa using ho);rw[show k+1+i=k+(i+1)by omega];exact this) hl hg.2 hv' hf' hQ
   simp only[List.length_cons,List.range'_succ,List.cons_append];rw[wpOpsIn_cons];unfold wpOpIn;simp only[hok];have ht:(Qpo a ds).tmps=a.tmps:=rfl;rw[ht];obtain⟨G,ι,st⟩:=hf;obtain⟨hd,hdN,hop,hgs⟩:=Qa2 hao;have hgN:=QdV hg.1;rcases hv with ⟨hgv,hv⟩|⟨hgv,hv⟩
   ·rw[Qbg st.rel hgs hgv hgN];simp only[if_true];refine QxQ _ (Qfv hm hao hv ⟨G,ι,st⟩ λL' v h' a' w' hk' hf'=> ?_);exact hrest _ _ _ _ hk' (by rw[QaS];exact hf')
   ·rw[Qbg st.rel hgs hgv hgN];simp only[Bool.false_eq_true,if_false];refine⟨λf _=>Fen.fn ro f,?_⟩;rw[<-QeJ];refine hrest _ _ _ _ hv ⟨G,ι,?_⟩;rw[QaS,hd];exact st.step hdN st.rel.hr (.tup #[] [] rfl (by simp)) (Ext.refl _ _ _ _)
  ·cases hc
theorem Qif{fn:Func}{R:Ending->World->Prop}{G:Nat->Prop}{ι:Io}{e:Env}{h:Hp}(ds:List Deferred):∀(bs:List Nat) (a:Act) (w:World),bs.Nodup->(∀b∈bs,Mrk w0 G ι h w b)->Rel N G ι e h a w->Ext G0 ι0 h0 w0 G ι h w->
  (∀w2,Rel N G ι e h a w2->Ext G0 ι0 h0 w0 G ι h w2->LeavesInM Fence.wide 0 P fn a.tmps R ds .returning w2)->LeavesInM Fence.wide 0 P fn a.tmps R (bs.map mkD++ds) .returning w
 |[],a,w,_,_,hr,hx,hk=>hk w hr hx
 |b::bs,a,w,hn,hm,hr,hx,hk=>by
  obtain⟨h1,h2,h3,h4⟩:=hm b (by simp);rw[List.nodup_cons]at hn;have hs:∀c,G c\/owned ι h c->(w.putObj b (.deferred none)).heap[c]? =w.heap[c]? :=λc hc=>World.putObj_heap_other λe=>by
   subst e;exact hc.elim h3 h4
  have hz:w.heap.size<=(w.putObj b (.deferred none)).heap.size:=by rw[Qe3];exact Nat.le_refl _
  refine⟨by simp,.inl ⟨b,_,rfl,run_takeDeferred h2,?_⟩⟩;refine Qif ds bs a _ hn.2 (λc hc=> ?_) ⟨hr.hr.other hs hz,hr.size,λi=>(hr.env i).other hs⟩ (hx.other hs hz (Qd2 _ _ _) λc hc=>World.putObj_heap_other (by omega)) hk;obtain⟨k1,k2,k3,k4⟩:=hm c (by simp[hc]);have hne:b≠c:=λe=>hn.1 (by rw[e];exact hc)
  exact⟨k1,(World.putObj_heap_other (by omega)).trans k2,k3,k4⟩
end
def Qqb(k:Nat):Code->Bool
 | .seq (.region _ ops false) _=>match ops.toList with
  |[_,⟨none,.defer ⟨.value (.tmp j),ags,_⟩,_,_,_,none⟩]=>j==k&&ags.isEmpty
  |_=>false
 |_=>false
def QAZ:Code->Bool
 | .ret=>true
 |_=>false
theorem Qwc{c:Code}(h:QAZ c=true):c= .ret:=by
 cases c<;>first|rfl|cases h
theorem QvQ{k id:Nat}{ops:Array Oper}{d:Bool}{c2:Code}(h:Qqb k (.seq (.region id ops d) c2)=true):ops.size=2/\∃o ts,ops[1]? =some o/\o.dst=none/\o.op= .defer ⟨.value (.tmp k),#[],ts⟩:=by
 cases d with
 |true=>cases h
 |false=>
  simp only[Qqb]at h;split at h
  ·rename_i o1 j ags ts ty pos af e;simp only[Bool.and_eq_true,beq_iff_eq,Array.isEmpty_iff]at h;obtain⟨rfl,rfl⟩:=h;have hs:ops.size=2:=by rw[<-Array.length_toList,e];rfl
   refine⟨hs,⟨none,.defer ⟨.value (.tmp j),#[],ts⟩,ty,pos,af,none⟩,ts,?_,rfl,rfl⟩;rw[<-Array.getElem?_toList,e];rfl
  ·cases h
theorem QC9{fn:Func}{tmps:Array Value}{R:Ending->World->Prop}{v:Value}{w:World}(h:∃x,(results fn tmps).run Tryz.prog w= .ok x w/\R (.returned x) w):LeavesInM Fence.wide 0 Tryz.prog fn tmps R [{target:= .fn (.func QaX) #[v],args:= #[]}] .returning w:=by
 refine⟨by simp,.inr ⟨(λh=>by cases h),_,_,QaX,#[v],rfl,?_,(λ_ _=>trivial),?_⟩⟩
 ·simp[go_sem]
 ·refine(Tryz.ask_idle v w).mono ?_;rintro e u' w' ⟨rfl,rfl,rfl⟩;exact h
def Qxy(c:Code):Bool:=Qfy c&&Qfy (QcF 1 c)&&Qfy (QcF 2 c)&&Qqb 9 (QcF 1 c)&&QAZ (QcF 3 c)
theorem Qyi:(match Tryz.f50.body with|some c=>Qxy c|none=>false)=true:=by kernel_rfl
abbrev QAl:List AO:=Qvs (QfK 2 (afB QcN))
theorem Qyj{e:Env}{h:Hp}{i:Nat}{r:Int}(h1:e 8= .c (.ptr i 0 0 0))(h2:h[i]? =some (.bx [.d (iD r)])):QsJ e h QcN.res=some [iA r]:=by
 have:QcN.res=[(8,some none)]:=rfl;rw[this];simp[QsJ,h1,h2,rd]
section
variable(m:Ar)(k:Int)(pl:List (List D))(flow node r:Int)(l:List Int)
theorem Qyh(hl:l.length<=1000000)(hc:FnS Tryz.prog Qaj [iA flow,iA node,Qay l,.c (.ptr 1 0 0 0),.c (.ptr 2 0 0 0)] [.am m,.bx [.d (iD k)],.bx [.d (.list false 1 pl)]] λq h'=>q=iA r/\h'=[.am m,.bx [.d (iD (k+1))],.bx [.d (.list false 1 pl)]])(Λ:Len):
  Qdm Tryz.prog Λ 3 false QAl [(9,.c (.fn false QaX [.ptr 3 0 0 0])),(8,.c (.ptr 3 0 0 0)),(0,.c (.fn false Qaj [.ptr 1 0 0 0,.ptr 2 0 0 0])),(1,iA flow),(2,iA node),(3,Qay l)] [.am m,.bx [.d (iD k)],.bx [.d (.list false 1 pl)],.bx [.d (iD 0)]] λL h=>lkL L 8= .c (.ptr 3 0 0 0)/\h=[.am m,.bx [.d (iD (k+1))],.bx [.d (.list false 1 pl)],.bx [.d (iD r)]]:=by
 have hcl:=Qib Tryz.prog rfl l hl;have hfo:FnOk Tryz.prog Qaj:=⟨_,Qep,rfl,by decide⟩;simp only[Qay,Qav]at*;generalize l.map QaC=ll at*;generalize hP:Tryz.prog=P at*
 conv=>cbv
 repeat' first|(refine Qan hcl rfl rfl ?_;conv=>cbv)|exact hfo|(refine QdU [0,1,2] hc rfl rfl (by decide) (by repeat' first|exact trivial|refine And.intro ?_ ?_|rfl) rfl rfl ?_;rintro r1 hc' ⟨rfl,rfl⟩;(conv=>cbv))|exact⟨rfl,rfl⟩|exact gxQ|refine And.intro ?_ ?_|(intro hc;(first|rw[wS (by omega) (by omega)]at hc|rw[Qab]at hc|skip);try (conv=>cbv))
end
theorem Qyg(P:Program)(hP:P=Tryz.prog)(m:Ar)(k:Int)(pl:List (List D))(flow node r:Int)(l:List Int)(hl:l.length<=1000000)(hc:FnS P Qaj [iA flow,iA node,Qay l,.c (.ptr 1 0 0 0),.c (.ptr 2 0 0 0)] [.am m,.bx [.d (iD k)],.bx [.d (.list false 1 pl)]] λq h'=>q=iA r/\h'=[.am m,.bx [.d (iD (k+1))],.bx [.d (.list false 1 pl)]]):
  FnS P QlL [.c (.fn false Qaj [.ptr 1 0 0 0,.ptr 2 0 0 0]),iA flow,iA node,Qay l] [.am m,.bx [.d (iD k)],.bx [.d (.list false 1 pl)]] λq h'=>q=iA r/\h'=[.am m,.bx [.d (iD (k+1))],.bx [.d (.list false 1 pl)],.bx [.d (iD r)]]:=by
 subst hP;have hr3:=Qyh m k pl flow node r l hl hc;obtain⟨c,hb,hac,hres,hnt⟩:=Qdu Qsa;have hchk:=Qyi;rw[hb]at hchk;simp only[Qxy,Bool.and_eq_true]at hchk;obtain⟨⟨⟨⟨k1,k2⟩,k3⟩,k4⟩,k5⟩:=hchk;have hΛ:∀x:List (List D),(λx:List (List D)=>(x.length:Int)) x=(x.length:Int):=λ_=>rfl
 refine⟨λG ι w vs hr hvs=> ?_⟩;refine .of Qkd (Qdz Qkd hb ?_);obtain⟨G1,ι1,st1⟩:=Qen (af:=QcN) (args:=[.c (.fn false Qaj [.ptr 1 0 0 0,.ptr 2 0 0 0]),iA flow,iA node,Qay l]) hnt (by rw[<-hnt];exact nle rfl) hr hvs;obtain⟨id1,o1,c2,rfl,hall1,hg1,hc2⟩:=Qh1 k1 hac;have hs1:o1.size=1:=by have:=(Qau hall1).1;rw[Array.length_toList]at this;rw[this];rfl
 refine wpIn_seq (wpIn_region ?_);rw[List.range_eq_range'];refine QuC hall1 0 rfl st1 rfl rfl λG2 ι2 a2 w2 hd2 st2=> ?_
 rw[hs1];show c2.wpIn _ _ _ _ a2 w2;obtain⟨id2,o2,c3,rfl,hall2,hg2,hc3⟩:=Qh1 k2 hc2;refine wpIn_seq (wpIn_region ?_);rw[List.range_eq_range'];refine QuC hall2 0 rfl st2 hd2 rfl λG3 ι3 a3 w3 hd3 st3=> ?_
 obtain⟨hs2,o,ts,ho,hdst,hop⟩:=QvQ k4;refine Qnl hall2 1 rfl st3 λo' ho' _=> ?_
 rw[ho]at ho';cases ho';obtain⟨x,hv⟩:∃x,a3.tmps.getD 9 undef= .func (.func QaX) #[] #[x]:=by
  have h9:VR G3 w3 ι3 _ (a3.tmps.getD 9 undef) (.c (.fn false QaX [.ptr 3 0 0 0])):=st3.rel.env 9;revert h9;generalize a3.tmps.getD 9 undef=v9;intro h9;cases QdG h9 with
  |fn _ _ _ vs9 _ hv9 hn9 _=>
   rw[hv9,Qid (by rfl)];obtain⟨x,hx⟩:∃x,vs9= #[x]:=by
    obtain⟨l9⟩:=vs9
    match l9,hn9 with
    |[x],_=>exact⟨x,rfl⟩
   exact⟨x,by rw[hx]⟩
 have hrun:(o.semAt (Fen none).round a3.eval).run Tryz.prog w3= .ok (.defer {target:= .fn (.func QaX) #[x],args:= #[]}) w3:=by
  have h9:a3.eval (.tmp 9)= .func (.func QaX) #[] #[x]:=hv;simp[Oper.semAt,Fen.round,hop,execOp,resolve,Deferred.ofValue,h9]
 refine⟨λf _=>Fen.fn none f,?_⟩;rw[hrun,Oper.uponIn_defer,hdst,hs2,hd3];show c3.wpIn _ _ _ _ {a3 with defers:=[{target:= .fn (.func QaX) #[x],args:= #[]}]} w3;have he:({a3 with defers:=[{target:= .fn (.func QaX) #[x],args:= #[]}]}:Act)=Qpo a3 [{target:= .fn (.func QaX) #[x],args:= #[]}]:=by rw[Qpo,hd3];rfl
 rw[he];obtain⟨id3,o3,c4,rfl,hall3,hg3,-⟩:=Qh1 k3 hc3;obtain rfl:=Qwc k5;refine wpIn_seq (wpIn_region ?_);rw[List.range_eq_range'];rw[show List.range' 0 o3.size=List.range' 0 o3.toList.length++[]by rw[List.append_nil,Array.length_toList]];refine QoZ (ro:=none) (m:=3) (rest:=[]) (Nat.le_refl _) [{target:= .fn (.func QaX) #[x],args:= #[]}] o3.toList QAl 0 [(9,.c (.fn false QaX [.ptr 3 0 0 0])),(8,.c (.ptr 3 0 0 0)),(0,.c (.fn false Qaj [.ptr 1 0 0 0,.ptr 2 0 0 0])),(1,iA flow),(2,iA node),(3,Qay l)] _ _ a3 w3 (ops:=o3) (λi o hi=>by rw[Nat.zero_add,<-Array.getElem?_toList];exact hi) hall3 hg3 (QcZ hΛ (hr3 _)) ⟨G3,ι3,st3⟩ (λL' h' a' w' hq hfit=> ?_);obtain⟨e1,rfl⟩:=hq;obtain⟨G4,ι4,st4⟩:=hfit;obtain⟨bs,e,hn,hmk⟩:=st4.dfr;refine wpIn_ret ?_;show LeavesInM Fence.wide 0 Tryz.prog _ a'.tmps _ (a'.defers++[_]) .returning w';rw[e];refine Qif [_] bs a' w' hn hmk st4.rel st4.ext λw5 rel ext=>QC9 ?_
 obtain⟨us,q1,q2⟩:=QdK (P:=Tryz.prog) (af:=QcN) (vs:=[iA r]) hres rel.hr rel.env (Qyj e1 rfl);exact⟨_,q1,_,pack [iA r],G4,ι4,_,rfl,⟨rfl,rfl⟩,rel.hr,QeB q2,ext⟩
section
variable(m:Ar)(nd:Int)(ol kl xl:List (List D))(id src dst fl:Int)(sl:List (List D))(hp fr wr:Int)(flow node r:Int)(l:List Int)
end
abbrev BP (m:Ar) (pl:List (List D)) (z:Int):Hp:=[.am m,.bx [.d (iD (z))],.bx [.d (.list false 1 pl)]]
theorem QrB(P:Program)(hP:P=Tryz.prog)(t:Top)(xs:List Tab)(p:Pkt)(from_:Int)(g:Wlk)(U:List WSt)(m:Ar)(hT:Qbk m)(pl:List (List D))(pick:Nat->WSt->Int)
 (hU:Qas t xs from_=0->UOK P t xs p g U/\(from_,p.stack)∈U)
 (hch:∀(k:Nat) (s:WSt) (z:Int),s∈U->g.ar s≠[]->k<=1000->z=(k:Int)-1->FnS P Qaj [iA p.flow,iA s.1,Qay (g.ar s),.c (.ptr 1 0 0 0),.c (.ptr 2 0 0 0)] (BP m pl z) λq h'=>q=iA (pick k s)/\h'=BP m pl (z+1)):
  FnS P Qf4 [QaU t,QbF xs,QbK p,iA from_,.c (.fn false Qaj [.ptr 1 0 0 0,.ptr 2 0 0 0])] (BP m pl (-1)) (Qtb (BP m pl (((QxP g pick U (from_,p.stack) (Qas t xs from_)).2.2:Int)-1)) (QxP g pick U (from_,p.stack) (Qas t xs from_)).1 (QxP g pick U (from_,p.stack) (Qas t xs from_)).2.1):=by
 have hck:=Qpn P hP t xs from_;have hask:=λ(k:Nat) (s:WSt) (z:Int) (h1:s∈U) (h2:g.ar s≠[]) (h3:k<=1000) (h4:z=(k:Int)-1) (hl:(g.ar s).length<=1000)=>Qyg P hP m z pl p.flow s.1 (pick k s) (g.ar s) (by omega) (hch k s z h1 h2 h3 h4)
 have hnm:=λ(s:WSt) (h:NmOK s)=>Qqi P hP m hT s.1 s.2 h.n h.l h.i
 clear hch;refine QaI (hP▸mixed) (hP▸QpZ) (hP▸Qr9) (nle rfl) λΛ Λo Q hQ=> ?_
 clear hP;by_cases h0:Qas t xs from_=0
 ·obtain⟨hUK,hst⟩:=hU h0;clear hU;rw[h0]at hck hQ;rw[QxP,if_pos rfl]at hQ;obtain⟨R,hR⟩:∃R,QwB g pick (U.length+1) [] (from_,p.stack) []=R:=⟨_,rfl⟩;rw[hR]at hQ;obtain⟨id,src,dst,flow,st0,hops⟩:=p;simp only[QaU,QbF,QbK,Qco,QaG,Qag,Qai,BP]at*;generalize hxl:List.map Qal xs=xl at*;generalize hol:t.ov.map Qbq=ol at*;generalize hll:t.links.map QaD=ll at*;generalize htn:t.nodes=nodes at*;generalize hs0:List.map Qaf st0=s0 at*
  conv=>cbv
  repeat' first|(left;intro(_:Unit);(conv=>cbv))|(refine Qan hck rfl rfl ?_;conv=>cbv)|exact gxQ|refine And.intro ?_ ?_|(intro hc;(first|rw[wS (by omega) (by omega)]at hc|rw[Qab]at hc|skip);try (conv=>cbv))
  have hle:=hUK.len;refine QaT U.length (λ(x:Int×List (List D)×Int×Int×Nat×List (DV×DV)×Nat×Bool×Nat×List (List D))=>[(1,.c (.d (.list false 3 xl))),(4,.c (.fn false Qaj [.ptr 1 0 0 0,.ptr 2 0 0 0])),(5,.c (.ptr 3 0 0 0)),(7,.c (.ptr 4 0 0 0)),(10,.c (.ptr 5 0 0 0)),(13,.c (.ptr 6 0 0 0)),(14,.c (.mp 7))])
   (λx=>[.am m,.bx [.d (iD (x.2.2.2.1))],.bx [.d (.list false 1 pl)],.bx [.d (iD nodes),.d (.list false 1 ol),.d (.list false 7 ll)],.bx [.d (iD id),.d (iD src),.d (iD dst),.d (iD flow),.d (.list false 2 x.2.1),.d (iD x.2.2.1)],.bx [.d (iD 0),.d (iD 0),.d (.list true 1 [])],.bx [.d (iD x.1),.d (iD 0),.arr 8 x.2.2.2.2.2.2.1 0 x.2.2.2.2.2.2.2.2.1],.mp x.2.2.2.2.1 x.2.2.2.2.2.1,.da x.2.2.2.2.2.2.2.1 x.2.2.2.2.2.2.1 1 x.2.2.2.2.2.2.2.2.2])
   (λkk x=>kk<=U.length/\∃(seen:List WSt) (st:WSt) (path:List Int),seen.length=kk/\seen.Nodup/\(∀y∈seen,y∈U)/\st∈U/\QwB g pick (U.length+1-kk) seen st path=R/\path.length=kk/\x.1=st.1/\x.2.1=st.2.map Qaf/\x.2.2.2.1=(kk:Int)-1/\x.2.2.2.2.2.1=(snS seen).map QgI/\x.2.2.2.2.2.2.2.2.1=kk/\x.2.2.2.2.2.2.2.2.2=path.map QaC)
   (from_,s0,hops,-1,0,[],0,false,0,[]) (.trans (.nilB 6 2 1 _ rfl rfl) (Wk.ca)) ⟨by omega,[],(from_,st0),[],rfl,by simp,by simp,hst,hR,rfl,rfl,hs0.symm,rfl,rfl,rfl,rfl⟩ (λk s h=>h.1) ?_
  rintro kk ⟨nd,sl,hp,z,mv,ms,ve,rb,n,es⟩ Q' ⟨hkk,seen,⟨nd',sk⟩,path,hsl,hsnd,hsU,hstU,hRk,hpl,hnd,hsl2,hz,hms,hn,hes⟩ norm ex rt;simp only at hnd hsl2 hz hms hn hes;subst hnd;clear hst hR;have hfin:∀r0 e c,R=(r0,e,c)->∀r h',Qtb [.am m,.bx [.d (iD (((c:Nat):Int)-1))],.bx [.d (.list false 1 pl)]] r0 e r h'->Q r h':=λr0 e c he r h' h=>hQ r h' (by rw[he];exact h)
  clear hQ;have hnm:=hnm (nd,sk) (hUK.nm _ hstU);obtain⟨x,nst,nhp,hstp⟩:=hUK.st _ hstU;have hxa:xl[nd.toNat]? =some (Qal x):=by rw[<-hxl,gtm,hstp.at_];rfl
  have hxn:nd<(xs.length:Int):=by have:=Qaa hstp.at_;have:=hstp.nn;simp only at this;omega
  have hΛx:Λ xl=xs.length:=by rw[Λo,<-hxl];simp
  have hnn:0<=nd:=hstp.nn;have hstep:=hstp.stp;have hal:=hstp.len;have hhd:=hstp.hd;have hto:=hstp.tos;have hcl:=hUK.cl _ hstU;have hask:=λh=>hask kk (nd,sk) z hstU h (by omega) hz hal
  clear hstp hUK;obtain⟨F,hF⟩:∃F,U.length+1-kk=F+1:=⟨U.length-kk,by omega⟩;rw[hF,QwB,hsl]at hRk;obtain⟨xnode,xto,xdown⟩:=x;obtain⟨nodes,ov,links⟩:=t;simp only at htn;subst htn;simp only[QaU,Qls,QbK,Qco,QaG,Qag,Qai,Qay,Qav,Qea,Qal]at*;rw[hol,hll,<-hsl2]at hstep;rw[<-hsl2]at hnm;simp only[hol,hll]at hhd;obtain⟨z1,hz1⟩:∃z1,z1=z+1:=⟨_,rfl⟩;rw[<-hz1]at hask;have hsome:∀i v,sfind (nameS nd (List.map pr2 sk)) (snS seen) 0=some (i,v)->(nd,sk)∈seen/\v= .s (.bool true):=λi v h=>Qw3 (s:=(nd,sk)) h
  have hnone:sfind (nameS nd (List.map pr2 sk)) (snS seen) 0=none->(nd,sk)∉seen:=λh=>Qw1 (s:=(nd,sk)) h
  have hsnoc:(snS (seen++[(nd,sk)]))=snS seen++[(nameS nd (List.map pr2 sk),.s (.bool true))]:=Qw2 seen (nd,sk);generalize hkey:nameS nd (List.map pr2 sk)=key at*;generalize hsn:snS seen=sn at*;generalize hgar:g.ar (nd,sk)=ar at*;generalize hgrs:g.rs (nd,sk)=rs at*;generalize hpk:pick kk (nd,sk)=pi at*;generalize hnsl:List.map Qaf nst=nsl at*;generalize List.map Qax xto=tol at*;generalize List.map QaC xdown=dol at*;generalize harlh:List.map QaC ar=arl at*;have hΛa:Λ arl=ar.length:=by rw[Λo,<-harlh];simp
  have hB:∀e,R=(⟨nd,rs,path⟩,e,kk)->∀tl ve rb,tl[5]? =some (.da rb ve 1 es)->Q (.tup [.agg [.d (iD nd),.d (iD rs),.arr 8 ve 0 n],iA e]) (.am m:: .bx [.d (iD z)]:: .bx [.d (.list false 1 pl)]::tl):=λe he tl ve rb h=>hfin _ _ _ he _ _ ⟨tl,by rw[hz];rfl,.inr ⟨5,ve,rb,by rw[hn,<-hpl];rfl,by rw[<-hes];exact h⟩⟩
  have hE:∀e c zc,R=(QBs,e,c)->zc=(c:Int)-1->∀tl,Q (.tup [.agg [.d (iD 0),.d (iD 0),.d (.list true 1 [])],iA e]) (.am m:: .bx [.d (iD zc)]:: .bx [.d (.list false 1 pl)]::tl):=λe c zc he h tl=>hfin _ _ _ he _ _ ⟨tl,by rw[h];rfl,.inl ⟨rfl,rfl⟩⟩
  clear hfin hck;by_cases hin:(nd,sk)∈seen
  ·rw[if_pos hin]at hRk;have hE:=hE 16 kk z hRk.symm hz;clear hB hask hhd hstep norm
   conv=>cbv
   repeat' first|(refine ex _ _ _ ?_;(conv=>cbv))|(refine rt _ _ ?_;(conv=>cbv))|(left;intro(_:Unit);(conv=>cbv))|(refine QaE [0] hnm ?_;rintro r hc' ⟨rfl,rfl⟩;(conv=>cbv))|(refine Qfb hms.symm (λh0=>absurd hin (hnone h0)) (λi v hv=> ?_);obtain⟨-,rfl⟩:=hsome i v hv;(conv=>cbv))|exact hE _|exact gxQ|refine And.intro ?_ ?_|(intro hc;(first|rw[wS (by omega) (by omega)]at hc|rw[Qab]at hc|skip);try (conv=>cbv))
  ·rw[if_neg hin]at hRk;by_cases h0:ar=[]
   ·rw[if_pos h0]at hRk;have hB:=hB 0 hRk.symm;have hΛ0:Λ arl=0:=by rw[hΛa,h0];rfl
    clear hE hask hhd norm hRk hsnoc
    conv=>cbv
    repeat' first|(refine ex _ _ _ ?_;(conv=>cbv))|(refine rt _ _ ?_;(conv=>cbv))|(left;intro(_:Unit);(conv=>cbv))|(refine QaE [0] hnm ?_;rintro r hc' ⟨rfl,rfl⟩;(conv=>cbv))|(refine Qfb hms.symm (λh0=> ?_) (λi v hv=>absurd (hsome i v hv).1 hin);(conv=>cbv))|(refine Qhv hms.symm (λh0 es' he'=> ?_) (λi v hv=>absurd (hsome i v hv).1 hin);(conv=>cbv))|(intro(e:List D) he;cases osj (he.symm.trans hxa);(conv=>cbv))|(refine Qan hstep rfl rfl ?_;conv=>cbv)|exact hB _ _ _ rfl|exact gxQ|refine And.intro ?_ ?_|(intro hc;(first|rw[wS (by omega) (by omega)]at hc|rw[Qab]at hc|skip);try (conv=>cbv))
   ·rw[if_neg h0]at hRk;have hask:=hask h0;have hlen:0<ar.length:=List.length_pos_iff.2 h0;by_cases hrg:0<=pi/\pi<ar.length
    ·rw[if_pos hrg]at hRk;obtain⟨hga,hgm⟩:=Qrl hrg.1 hrg.2;have hhd:=hhd _ hgm;have hto:=hto _ hgm;have hUn:=hcl _ (List.mem_map.2 ⟨_,by rw[hgar];exact hgm,rfl⟩);have har:arl[pi.toNat]? =some [iD (gt ar pi)]:=by rw[<-harlh,gtm,hga];rfl
     generalize hga2:gt ar pi=a at*;generalize hy:g.to (nd,sk) a=y at*;obtain⟨nd1,sk1⟩:=y;simp only at hhd hto;subst hto;obtain⟨n1,hn1⟩:∃n1,n1=n+1:=⟨_,rfl⟩;obtain⟨es1,hes1⟩:∃es1,es1=es++[[iD a]]:=⟨_,rfl⟩;have hnext:∀ms',(sn++[(key,DV.s (.bool true))]).map QgI=ms'->kk+1<=U.length/\∃(seen:List WSt) (st:WSt) (path:List Int),seen.length=kk+1/\seen.Nodup/\(∀y∈seen,y∈U)/\st∈U/\QwB g pick (U.length+1-(kk+1)) seen st path=R/\path.length=kk+1/\nd1=st.1/\nsl=st.2.map Qaf/\z1=((kk+1:Nat):Int)-1/\ms'=(snS seen).map QgI/\n1=kk+1/\es1=path.map QaC:=λms' hms'=>by
      have hnd2:(seen++[(nd,sk)]).Nodup:=List.nodup_append.2 ⟨hsnd,by simp,λu hu v hv e=>by rw[List.mem_singleton]at hv;subst hv;subst e;exact hin hu⟩;have hU2:∀y∈seen++[(nd,sk)],y∈U:=λy hy=>by
       rcases List.mem_append.1 hy with hy|hy
       ·exact hsU y hy
       ·rw[List.mem_singleton]at hy;rw[hy];exact hstU
      have hl2:(seen++[(nd,sk)]).length=kk+1:=by rw[List.length_append,hsl];rfl
      have hle2:=hnd2.length_le_of_subset hU2;refine⟨by omega,seen++[(nd,sk)],(nd1,sk1),path++[a],hl2,hnd2,hU2,hUn,?_,by simp[hpl],rfl,hnsl.symm,by omega,by rw[hsnoc,hms'],by omega,by rw[hes1,hes,List.map_append];rfl⟩;rw[show U.length+1-(kk+1)=F by omega];exact hRk
     have hel:es.length=n:=by rw[hes,List.length_map,hpl,hn]
     clear hE hB hRk hcl hsnoc
     conv=>cbv
     repeat' first|(refine ex _ _ _ ?_;(conv=>cbv))|(refine rt _ _ ?_;(conv=>cbv))|(left;intro(_:Unit);(conv=>cbv))|(refine QaE [0] hnm ?_;rintro r hc' ⟨rfl,rfl⟩;(conv=>cbv))|(refine Qfb hms.symm (λh0=> ?_) (λi v hv=>absurd (hsome i v hv).1 hin);(conv=>cbv))|(refine Qhv hms.symm (λh0 es' he'=> ?_) (λi v hv=>absurd (hsome i v hv).1 hin);have hnx:=hnext es' he';(conv=>cbv))|(intro(e:List D) he;cases osj (he.symm.trans hxa);(conv=>cbv))|(intro(e:List D) he;cases osj (he.symm.trans har);(conv=>cbv))|(refine Qan hstep rfl rfl ?_;conv=>cbv)|(refine Qan hhd rfl rfl ?_;conv=>cbv)|(refine QaE [0,1,2] hask ?_;rintro r hc' ⟨rfl,rfl⟩;(conv=>cbv))|(intro(m:Nat) (r:Bool) (y:List (List D)) hm hr hy;refine(λ(hz:n1=m) (hz2:es1=y)=> ?_) (by first|omega|(simp only[List.length_cons,List.length_nil]at hm;omega)) (by first|(rw[hy,List.drop_zero,tkQ (by omega)];exact hes1)|(rw[hy];exact hes1));subst hz;subst hz2;(conv=>cbv))|exact gxQ|refine And.intro ?_ ?_|(intro hc;(first|rw[wS (by omega) (by omega)]at hc|rw[Qab]at hc|skip);try (conv=>cbv))
     all_goals (refine norm _ _ (nd1,nsl,nhp,z1,_,_,_,_,n1,es1) hnx (Wk.ca))
    ·rw[if_neg hrg]at hRk;have hE:=hE 2 (kk+1) z1 hRk.symm (by omega);clear hB hhd norm hsnoc hRk
     conv=>cbv
     repeat' first|(refine ex _ _ _ ?_;(conv=>cbv))|(refine rt _ _ ?_;(conv=>cbv))|(left;intro(_:Unit);(conv=>cbv))|(refine QaE [0] hnm ?_;rintro r hc' ⟨rfl,rfl⟩;(conv=>cbv))|(refine Qfb hms.symm (λh0=> ?_) (λi v hv=>absurd (hsome i v hv).1 hin);(conv=>cbv))|(refine Qhv hms.symm (λh0 es' he'=> ?_) (λi v hv=>absurd (hsome i v hv).1 hin);(conv=>cbv))|(intro(e:List D) he;cases osj (he.symm.trans hxa);(conv=>cbv))|(refine Qan hstep rfl rfl ?_;conv=>cbv)|(refine QaE [0,1,2] hask ?_;rintro r hc' ⟨rfl,rfl⟩;(conv=>cbv))|exact hE _|exact gxQ|refine And.intro ?_ ?_|(intro hc;(first|rw[wS (by omega) (by omega)]at hc|rw[Qab]at hc|skip);try (conv=>cbv))
 ·clear hU hask hnm;rw[QxP,if_neg h0]at hQ;generalize Qas t xs from_=e at*;have hE:∀tl,Q (.tup [.agg [.d (iD 0),.d (iD 0),.d (.list true 1 [])],iA e]) (.am m:: .bx [.d (iD (-1))]:: .bx [.d (.list false 1 pl)]::tl):=λtl=>hQ _ _ ⟨tl,rfl,.inl ⟨rfl,rfl⟩⟩
  have hE1:e=1->∀tl,Q (.tup [.agg [.d (iD 0),.d (iD 0),.d (.list true 1 [])],iA 1]) (.am m:: .bx [.d (iD (-1))]:: .bx [.d (.list false 1 pl)]::tl):=λh tl=>by have:=hE tl;rw[h]at this;exact this
  clear hQ;obtain⟨id,src,dst,flow,st0,hops⟩:=p;simp only[QaU,QbF,QbK,Qco,QaG,Qag,Qai,BP]at*;generalize hxl:List.map Qal xs=xl at*;generalize hol:t.ov.map Qbq=ol at*;generalize hll:t.links.map QaD=ll at*;generalize htn:t.nodes=nodes at*;generalize hs0:List.map Qaf st0=s0 at*
  conv=>cbv
  repeat' first|(left;intro(_:Unit);(conv=>cbv))|(refine Qan hck rfl rfl ?_;conv=>cbv)|exact hE _|exact hE1 (by omega) _|exact gxQ|refine And.intro ?_ ?_|(intro hc;(first|rw[wS (by omega) (by omega)]at hc|rw[Qab]at hc|skip);try (conv=>cbv))
def QgY(n:Int):List D:=[.int .u8 n]
def QkB(pks:List Int)(k n:Nat):Int:=if pks=[]then 0 else (gt pks ((k%pks.length:Nat):Int)).tmod n
theorem QwD{pks:List Int}(hp:∀x∈pks,0<=x/\x<256)(k:Nat){n:Nat}(hn:0<n):0<=QkB pks k n/\QkB pks k n<n:=by
 unfold QkB;split
 ·omega
 ·rename_i h;have hl:0<pks.length:=List.length_pos_iff.2 h;have h1:=Nat.mod_lt k hl;have hg:=(Qrl (l:=pks) (i:=((k%pks.length:Nat):Int)) (by omega) (by omega)).2;have:=hp _ hg;exact⟨Int.tmod_nonneg _ this.1,Int.tmod_lt_of_pos _ (by omega)⟩
section
variable{pks:List Int}(hp:∀x∈pks,0<=x/\x<256)(h0:pks≠[])(k:Nat)
include hp h0
theorem Qzf:∃ci xv:Int,0<=ci/\ci<pks.length/\ci=(k:Int).tmod pks.length/\pks[ci.toNat]? =some xv/\0<=xv/\xv<256/\∀n:Nat,QkB pks k n=xv.tmod n:=by
 have hl:0<pks.length:=List.length_pos_iff.2 h0;have h1:=Nat.mod_lt k hl;obtain⟨hg,hm⟩:=Qrl (l:=pks) (i:=((k%pks.length:Nat):Int)) (by omega) (by omega);refine⟨((k%pks.length:Nat):Int),_,by omega,by omega,?_,hg,(hp _ hm).1,(hp _ hm).2,λn=>by rw[QkB,if_neg h0]⟩;rw[Int.tmod_eq_emod_of_nonneg (by omega)];rfl
end
theorem QwC(P:Program)(hP:P=Tryz.prog)(m:Ar)(pks:List Int)(hp:∀x∈pks,0<=x/\x<256)(hpl:pks.length<=100)(fl nd:Int)(ar:List Int)(ha:ar≠[])(hal:ar.length<=1000)(k:Nat)(z:Int)(hk:k<=1000)(hz:z=(k:Int)-1):
  FnS P Qaj [iA fl,iA nd,Qay ar,.c (.ptr 1 0 0 0),.c (.ptr 2 0 0 0)] (BP m (pks.map QgY) z) λq h'=>q=iA (QkB pks k ar.length)/\h'=BP m (pks.map QgY) (z+1):=by
 refine QaI (hP▸mixed) (hP▸Qep) (hP▸QiU) (nle rfl) λΛ Λo Q hQ=> ?_
 clear hP;have fin:=hQ _ _ ⟨rfl,rfl⟩;clear hQ;have hlen:0<ar.length:=List.length_pos_iff.2 ha;obtain⟨z1,hz1⟩:∃z1,z1=z+1:=⟨_,rfl⟩;have hz2:z1=k:=by omega
 rw[<-hz1]at fin;by_cases h0:pks=[]
 ·rw[QkB,if_pos h0]at fin;simp only[BP,Qay,Qav]at*;generalize hpe:pks.map QgY=pl at*;have n0:Λ pl=0:=by rw[Λo,<-hpe,h0];rfl
  generalize hae:ar.map QaC=al at*;have n1:Λ al=ar.length:=by rw[Λo,<-hae];simp
  conv=>cbv
  repeat' first|(intro(k:Int) hk;rw[wS (by omega) (by omega)]at hk;refine(λ(hz:z1=k)=> ?_) ?_;rotate_left;omega;subst hz;(conv=>cbv))|exact fin|exact gxQ|refine And.intro ?_ ?_|(intro hc;(first|rw[wS (by omega) (by omega)]at hc|rw[Qab]at hc|skip);try (conv=>cbv))
 ·obtain⟨ci,xv,c0,c1,hci,hx,x0,x1,hpv⟩:=Qzf hp h0 k;obtain⟨pi,hpi⟩:∃pi,pi=xv.tmod ar.length:=⟨_,rfl⟩;rw[hpv,<-hpi]at fin;have hxe:(pks.map QgY)[ci.toNat]? =some [.int .u8 xv]:=by rw[gtm,hx];rfl
  simp only[BP,Qay,Qav]at*;generalize hpe:pks.map QgY=pl at*;have n0:Λ pl=pks.length:=by rw[Λo,<-hpe];simp
  have hpp:0<pks.length:=List.length_pos_iff.2 h0;generalize hae:ar.map QaC=al at*;have n1:Λ al=ar.length:=by rw[Λo,<-hae];simp
  rw[<-hz2]at hci
  conv=>cbv
  repeat' first|(intro(_:Unit);omega)|(intro(k:Int) hk;rw[wS (by omega) (by omega)]at hk;refine(λ(hz:z1=k)=> ?_) ?_;rotate_left;omega;subst hz;(conv=>cbv))|(intro(c:Int) (hc:c=Int.tmod z1 (Λ pl));refine(λ(hz:ci=c)=> ?_) (by rw[hc,hci,n0]);subst hz;(conv=>cbv))|(intro(c:Int) (hc:c=Int.tmod (IntKind.i64.wrap xv) (Λ al));refine(λ(hz:pi=c)=> ?_) (by rw[hc,hpi,n1,wS (by omega) (by omega)]);subst hz;(conv=>cbv))|(intro(c:Int) (hc:c=Int.tmod xv (Λ al));refine(λ(hz:pi=c)=> ?_) (by rw[hc,hpi,n1]);subst hz;(conv=>cbv))|(intro(e:List D) he;cases osj (he.symm.trans hxe);(conv=>cbv))|(intro(c:Int) (hc:c=IntKind.i64.wrap xv);refine(λ(hz:xv=c)=> ?_) (by rw[hc,wS (by omega) (by omega)]);subst hz;(conv=>cbv))|exact fin|exact gxQ|refine And.intro ?_ ?_|(intro hc;(first|rw[wS (by omega) (by omega)]at hc|rw[Qab]at hc|skip);try (conv=>cbv))
end Go.Ab
namespace Go.Ab
open Go.Proofs Go.Proofs.YtohbofilgkdihaaGreatDoor Go.ChangeShapes Go.WideShapes Go.ChangeAt Go.RowKit
abbrev By8:={x:Int // 0<=x/\x<256}
def QAM(x:By8):List D:=QgY x.1
theorem wf8{z:Int}(h:(Lit.int .u8 z).wf=true):0<=z/\z<256:=by
 have h1:IntKind.u8.min=0:=rfl;have h2:IntKind.u8.max=255:=rfl;simp only[Lit.wf,Bool.and_eq_true,decide_eq_true_eq,h1,h2]at h;omega
theorem QAE:∀e n,FitL [.int .u8] e n->∃a:By8,e=QAM a/\1<=n:=by
 intro e n h;have hw:=h.weight;simp only[List.length_cons]at hw;obtain⟨d0,ds0,_,_,rfl,rfl,g0,h_0⟩:=h.un;obtain⟨z1,rfl,w_z1⟩:=g0.i;rw[h_0.end];exact⟨⟨z1,wf8 w_z1⟩,rfl,by omega⟩
theorem Qyx{ds:List D}{n:Nat}(h:FitL [.list 1 [.int .u8]] ds n):∃l:List Int,ds=[.list false 1 (l.map QgY)]/\∀x∈l,0<=x/\x<256:=by
 obtain⟨d0,ds0,_,_,rfl,rfl,g0,h_0⟩:=h.un;obtain⟨pk,rfl,w_pk⟩:=g0.lm QAM (λ_=>1) QAE;rw[QgQ]at w_pk;rw[h_0.end];refine⟨pk.map (·.1),?_,λx hx=> ?_⟩
 ·rw[List.map_map];rfl
 ·obtain⟨y,_,rfl⟩:=List.mem_map.1 hx;exact y.2
theorem QBy:∀s∈[Sh.list 1 [.int .u8]],ShO s:=by
 intro s hs;simp only[List.mem_cons,List.not_mem_nil,or_false]at hs;subst hs;exact .list _ _ (by simp) (by intro s hs;simp at hs;subst hs;exact .int _ (by decide))
theorem QBk{W:World}(hT:W.heap[pwG]? =some QkC){v:Value}{l:List Int}{n:Nat}(h:CsR W [v] [.list false 1 (l.map QgY)])(hf:FitL [.list 1 [.int .u8]] [.list false 1 (l.map QgY)] n):
  VR (λb=>b<W.heap.size/\b≠pwG) W [(0,0)] [.am pwA] v (.c (.d (.list false 1 (l.map QgY)))):=
 .c _ _ (.d _ _ (QtG hT h hf QBy 0 _ _ rfl rfl))
end Go.Ab
namespace Go.Ab
open Go.Proofs
section
variable{P:Program}{ro:Option Nat}{N:Nat}{G0:Nat->Prop}{ι0:Io}{h0:Hp}{w0:World}
theorem Qto{ops:Array Oper}{Q:Exit->Act->World->Prop}(I:(Nat->Bool)->Act->World->Prop)(hd1:∀i o,ops.toList[i]? =some o->∀j∈direct o,j<i)
 (hstep:∀(L:Nat->Bool) (i:Nat) (a:Act) (w:World) (K:Act->World->Prop),i<ops.size->L i=false->(∀j,QpE ops i j=true->L j=true)->(∀k j,L k=true->QpE ops k j=true->L j=true)->I L a w->
   (∀a' w',I (λj=>Nat.beq j i||L j) a' w'->K a' w')->wpOpIn (Fen ro) 0 P ops Q i K a w)
 (hend:∀L a w,(∀i,i<ops.size->L i=true)->I L a w->Q .normal a w):
  ∀(fuel:Nat) (listed:Array Bool) (rem:List Nat) (a:Act) (w:World),Rem ops listed rem->rem.length<=fuel->Closed ops listed->I (λi=>listed.getD i false) a w->wpAnyIn (Fen ro) 0 P .any ops Q fuel listed a w:=by
 have hempty:∀listed rem,Rem ops listed rem->Region.ready .any ops listed=[]->rem=[]:=by
  intro listed rem hr hready;cases rem with
  |nil=>rfl
  |cons i rem=>
   exfalso;have hi:=(hr.mem i).1 (by simp);have ho:ops.toList[i]? =some (ops.toList[i]'(by simpa using hi.1)):=lgE _;have:i∈Region.ready .any ops listed:=by
    rw[QbE];refine⟨hi.1,hi.2,_,ho,λm hm=> ?_⟩;have hmi:=hd1 i _ ho m hm;have hnot:m∉i::rem:=by
     intro hmem;simp only[List.mem_cons]at hmem;rcases hmem with h|h
     ·omega
     ·have:=(List.pairwise_cons.1 hr.sorted).1 m h;omega
    have hms:m<ops.size:=by omega
    have:¬(listed.getD m true=false):=λhf=>hnot ((hr.mem m).2 ⟨hms,hf⟩)
    simp only[Array.getD_eq_getD_getElem?,agQ (show m<listed.size by rw[hr.size];exact hms),Option.getD_some]at this |-;simpa using this
   rw[hready]at this;cases this
 have hget:∀(listed:Array Bool) i,i<listed.size->∀b b',listed.getD i b=listed.getD i b':=λlisted i hi b b'=>by
  simp only[Array.getD_eq_getD_getElem?,agQ hi,Option.getD_some]
 have hfin:∀listed a w,Rem ops listed []->I (λi=>listed.getD i false) a w->Q .normal a w:=λlisted a w hr hI=>hend _ a w (λi hi=>by
  have h1:¬(listed.getD i true=false):=λh=>by have:=(hr.mem i).2 ⟨hi,h⟩;cases this
  rw[hget listed i (by rw[hr.size];exact hi) true false]at h1;simpa using h1) hI
 intro fuel;induction fuel with
 |zero=>
  intro listed rem a w hr hl hc hI;obtain rfl:=lzQ (by omega:rem.length=0);refine⟨?_,hfin listed a w hr hI⟩;apply List.eq_nil_iff_forall_not_mem.2;intro i hi;rw[QbE]at hi;have:=(hr.mem i).2 ⟨hi.1,hi.2.1⟩;cases this
 |succ fuel ih=>
  intro listed rem a w hr hl hc hI;refine⟨λhready=> ?_,λi hi=> ?_⟩
  ·obtain rfl:=hempty listed _ hr hready;exact hfin listed a w hr hI
  ·rw[QbE]at hi;obtain⟨hin,hil,o,ho,hdir⟩:=hi;have hil2:listed.getD i false=false:=by rw[hget listed i (by rw[hr.size];exact hin) false true];exact hil
   obtain⟨l1,l2,hrem⟩:=List.append_of_mem ((hr.mem i).2 ⟨hin,hil⟩);subst hrem;obtain⟨hr2,hc2⟩:=Qf8 hr hc hin ho hdir hd1;refine hstep _ i a w _ hin hil2 (λj hj=>Qcy hr.size hc i o j ho hdir hj) (λk j hk hkj=> ?_) hI λa' w' hI'=>ih _ (l1++l2) a' w' hr2 (by simp at hl |-;omega) hc2 ?_
   ·have hks:k<listed.size:=by
     rcases Nat.lt_or_ge k listed.size with h|h
     ·exact h
     ·simp only[Array.getD_eq_getD_getElem?,Array.getElem?_eq_none h,Option.getD_none]at hk;cases hk
    have hko:ops.toList[k]? =some (ops.toList[k]'(by rw[Array.length_toList,<-hr.size];exact hks)):=lgE _;exact Qcy hr.size hc k _ j hko (hc k _ hko (by rw[hget listed k hks true false];exact hk)) hkj
   ·have:(λj=>(listed.setIfInBounds i true).getD j false)=λj=>Nat.beq j i||listed.getD j false:=by
     funext j
     simp only[Array.getD_eq_getD_getElem?,Array.getElem?_setIfInBounds];by_cases hij:i=j
     ·subst hij;simp[hr.size,hin]
     ·have:Nat.beq j i=false:=by
       cases h:Nat.beq j i with
       |false=>rfl
       |true=>exact absurd (Nat.eq_of_beq_eq_true h).symm hij
      simp[hij,this]
    rw[this];exact hI'
theorem Qo1{id:Nat}{ops:Array Oper}{Q:Exit->Act->World->Prop}{a:Act}{w:World}(I:(Nat->Bool)->Act->World->Prop)(hm:P.follows .mixedOrders=true)(hd1:∀i o,ops.toList[i]? =some o->∀j∈direct o,j<i)
 (hstep:∀(L:Nat->Bool) (i:Nat) (a:Act) (w:World) (K:Act->World->Prop),i<ops.size->L i=false->(∀j,QpE ops i j=true->L j=true)->(∀k j,L k=true->QpE ops k j=true->L j=true)->I L a w->
   (∀a' w',I (λj=>Nat.beq j i||L j) a' w'->K a' w')->wpOpIn (Fen ro) 0 P ops Q i K a w)
 (hend:∀L a w,(∀i,i<ops.size->L i=true)->I L a w->Q .normal a w)(hI:I (λ_=>false) a {w with drawn:=w.drawn+1}):(Code.region id ops true).wpIn (Fen ro) 0 P Q a w:=by
 refine wpIn_region_any hm (Qto I hd1 hstep hend ops.size (Array.replicate ops.size false) (List.range ops.size) a _ ⟨by simp,λi=> ?_,List.pairwise_lt_range⟩ (by simp) ?_ ?_)
 ·simp only[List.mem_range,Array.getD_eq_getD_getElem?,Array.getElem?_replicate];constructor
  ·intro hi;exact⟨hi,by simp[hi]⟩
  ·exact λhi=>hi.1
 ·intro i o ho hl;have hi:i<ops.size:=by simpa using Qaa ho
  simp[Array.getD_eq_getD_getElem?,hi]at hl
 ·have:(λi=>(Array.replicate ops.size false).getD i false)=λ_=>false:=by
   funext i
   simp only[Array.getD_eq_getD_getElem?,Array.getElem?_replicate];split<;>rfl
  rw[this];exact hI
theorem Qc9{ops:Array Oper}{Q:Exit->Act->World->Prop}{aos:List AO}(hall:QaQ P ops N ops.toList=some aos)(i:Nat){d:Option Nat}{op:AOp}(hao:aos[i]? =some ⟨d,op,none⟩){e:Env}{h h':Hp}{v:AV}{a:Act}{w:World}{K:Act->World->Prop}(e':Env)
 (hf:Fits N G0 ι0 h0 w0 e h a w)(hx:∀x∈QaY op,ev e x=ev e' x)(hs:astep e' h op=some (v,h'))(hK:∀a' w',Fits N G0 ι0 h0 w0 (Qcn e d v) h' a' w'->K a' w'):wpOpIn (Fen ro) 0 P ops Q i K a w:=by
 have hlen:ops.size=aos.length:=by have:=(Qau hall).1;simpa using this
 have hk:=Qaa hao;obtain⟨o,ho⟩:∃o,ops[i]? =some o:=⟨_,agQ (by omega)⟩;have hcO:=(Qau hall).2 i o _ (by rw[Array.getElem?_toList];exact ho) hao;obtain⟨hdd,hdN,hop,hgs⟩:=Qa2 hcO;rw[<-Qdy hx]at hs;simp only at hdd hop;rw[hop]at hs;rw[hdd]at hK;obtain⟨G,ι,st⟩:=hf;unfold wpOpIn;simp only[ho];rw[Qbg st.rel hgs (b:=true) rfl (by simp)];simp only[if_true];obtain⟨v',w',G',ι',hrun,k1,k2,k3⟩:=Qd0 st.rel hs;rcases hrun with hrun|⟨hrun,rfl⟩
 ·exact Qdr (Qdl hs) hrun (hK _ _ ⟨G',ι',st.step hdN k1 k2 k3⟩)
 ·exact Qe0 (Qdl hs) hrun (hK _ _ ⟨G',ι',st.step hdN k1 k2 k3⟩)
theorem Qzc{ops:Array Oper}{Q:Exit->Act->World->Prop}{aos:List AO}(hall:QaQ P ops N ops.toList=some aos)(hg:aos.all (gOk N)=true){m:Nat}(hm:h0.length<=m){Λ:Len}(hΛ:∀l,Λ l=(l.length:Int))(i:Nat){ao:AO}(hao:aos[i]? =some ao){L:Lv}{h:Hp}{a:Act}{w:World}{K:Act->World->Prop}
 (hf:Fits N G0 ι0 h0 w0 (lkL L) h a w)(hv:Qdm P Λ m false [ao] L h λL' h'=>∀a' w',Fits N G0 ι0 h0 w0 (lkL L') h' a' w'->K a' w'):wpOpIn (Fen ro) 0 P ops Q i K a w:=by
 have hlen:ops.size=aos.length:=by have:=(Qau hall).1;simpa using this
 have hk:=Qaa hao;obtain⟨o,ho⟩:∃o,ops[i]? =some o:=⟨_,agQ (by omega)⟩;have hcO:=(Qau hall).2 i o _ (by rw[Array.getElem?_toList];exact ho) hao;obtain⟨hdd,hdN,hop,hgs⟩:=Qa2 hcO;have hgN:=QdV (List.all_eq_true.1 hg ao (mgE hao));have hr:=QcZ hΛ hv;simp only[Qh0]at hr;obtain⟨G,ι,st⟩:=hf;unfold wpOpIn;simp only[ho];rcases hr with ⟨hgv,hv⟩|⟨hgv,hv⟩
 ·rw[Qbg st.rel hgs hgv hgN];simp only[if_true];exact Qfv hm hcO hv ⟨G,ι,st⟩ λL' v h' a' w' hk' hf'=>hk' a' w' (by rw[QaS];exact hf')
 ·rw[Qbg st.rel hgs hgv hgN];simp only[Bool.false_eq_true,if_false];refine⟨λf _=>Fen.fn ro f,hv _ _ ⟨G,ι,?_⟩⟩;rw[QaS,hdd];exact st.step hdN st.rel.hr (.tup #[] [] rfl (by simp)) (Ext.refl _ _ _ _)
def QkY(e:Env):Lv->Prop
 |[]=>True
 |(s,v)::r=>(v= .c .u\/e s=v)/\QkY e r
theorem QkY.nil{e:Env}:QkY e []:=trivial
theorem QkY.cons{e:Env}{s:Nat}{v:AV}{r:Lv}(h:v= .c .u\/e s=v)(hr:QkY e r):QkY e ((s,v)::r):=⟨h,hr⟩
theorem QkY.get{e:Env}:∀{L:Lv},QkY e L->∀i,lkL L i= .c .u\/lkL L i=e i
 |[],_,i=> .inl rfl
 |(s,v)::r,h,i=>by
  simp only[lkL,upd];split
  ·rename_i hi;subst hi;exact h.1.imp id Eq.symm
  ·exact QkY.get h.2 i
theorem QaR{e:Env}{h:Hp}{a:Act}{w:World}(hf:Fits N G0 ι0 h0 w0 e h a w){L:Lv}(hL:QkY e L:=by repeat' first|exact .nil|refine .cons (.inr rfl) ?_):Fits N G0 ι0 h0 w0 (lkL L) h a w:=by
 obtain⟨G,ι,st⟩:=hf;refine⟨G,ι,⟨st.rel.hr,st.rel.size,λi=> ?_⟩,st.ext,st.dfr⟩;rcases hL.get i with h|h
 ·show VR G w ι _ _ (lkL L i);rw[h];exact .c _ _ (.u _)
 ·show VR G w ι _ _ (lkL L i);rw[h];exact st.rel.env i
end
def Qxk(P:Program)(Λ:Len)(m:Nat)(Q:Post):Nat->AC->Lv->Hp->(Lv->Hp->Prop)->Prop
 |0,_,L,h,K=>K L h
 |n+1,.seq a b,L,h,K=>vcC P Λ m a L h λe L' h'=>match e with
  | .normal=>Qxk P Λ m Q n b L' h' K
  |e=>Q e L' h'
 |_+1,_,_,_,_=>False
theorem QtD{P:Program}{N:Nat}{G0:Nat->Prop}{ι0:Io}{h0:Hp}{w0:World}{Λ:Len}(hΛ:∀l,Λ l=(l.length:Int)){m:Nat}(hm:P.follows .mixedOrders=true)(hm0:h0.length<=m){Q:Post}{K:Lv->Hp->Prop}:
  ∀(n:Nat) (c:Code) (x:AC) (L:Lv) (h:Hp) (a:Act) (w:World),Qie n c=true->Qd8 P N c=some x->Qxk P Λ m Q n x L h K->Fits N G0 ι0 h0 w0 (lkL L) h a w->
   (∀L' h' a' w',K L' h'->Fits N G0 ι0 h0 w0 (lkL L') h' a' w'->Qd8 P N (QcF n c)=some (QfK n x)->(QcF n c).wpIn (Fen none) 0 P (out N G0 ι0 h0 w0 Q) a' w')->c.wpIn (Fen none) 0 P (out N G0 ι0 h0 w0 Q) a w:=by
 intro n;induction n with
 |zero=>intro c x L h a w _ hc hv hf hk;exact hk L h a w hv hf hc
 |succ n ih=>
  intro c x L h a w hs hc hv hf hk;cases c with
  |seq c1 c2=>
   simp only[Qd8,Qb1]at hc;split at hc
   ·rename_i x1 x2 h1 h2;cases hc;simp only[Qxk]at hv;refine wpIn_seq (wpIn_mono (Qdg hΛ hm hm0 c1 x1 L h _ a w h1 hv hf) λe a' w' ⟨L',h',hq,hf'⟩=> ?_);cases e with
    |normal=>exact ih c2 x2 L' h' a' w' hs h2 hq hf' hk
    |ret=>exact⟨L',h',hq,hf'⟩
    |exit i=>exact⟨L',h',hq,hf'⟩
    |goto=>exact hq.elim
    |panic=>exact hq.elim
    |outgrown=>exact hq.elim
   ·cases hc
  |_=>cases hs
def Qb2:Code->Array Oper
 | .seq (.region _ ops true) _=>ops
 |_=> #[]
def Qqc:Code->Bool
 | .seq (.region _ _ true) _=>true
 |_=>false
theorem QtN{P:Program}{N:Nat}{c:Code}{x:AC}(h:Qqc c=true)(hc:Qd8 P N c=some x):∃id c2,c= .seq (.region id (Qb2 c) true) c2/\Qd8 P N c2=some (QfK 1 x):=by
 unfold Qqc at h;split at h
 ·rename_i id ops c2;refine⟨id,c2,rfl,?_⟩;simp only[Qd8,Qb1]at hc;split at hc
  ·rename_i x1 x2 h1 h2;cases hc;exact h2
  ·cases hc
 ·cases h
theorem QuE(P:Program)(hP:P=Tryz.prog)(pl:List (List D)):FnS P Qgm [.c (.d (.list false 1 pl))] [] λr h'=>r= .c (.fn false Qaj [.ptr 1 0 0 0,.ptr 0 0 0 0])/\h'=[.bx [.d (.list false 1 pl)],.bx [.d (iD (-1))]]:=by
 refine QaI (hP▸mixed) (hP▸Qj7) (hP▸Qk9) (nle rfl) λΛ Λo Q hQ=> ?_
 clear hP;have fin:=hQ _ _ ⟨rfl,rfl⟩;clear hQ
 conv=>cbv
 repeat' first|(left;intro(_:Unit);(conv=>cbv))|exact fin|exact gxQ|refine And.intro ?_ ?_|(intro hc;(first|rw[wS (by omega) (by omega)]at hc|rw[Qab]at hc|skip);try (conv=>cbv))
structure PkD where
 m:Ar
 (nodes:Int) (ol ll xl:List (List D)) (id src dst fl:Int) (sl:List (List D)) (hp fr:Int)
 pl:List (List D)
 lst:D
 (rn rr:Int) (rp:D) (er cz:Int)
def en(b:Bool)(v:AV):AV:=match b with
 |true=>v
 |false=> .c .u
def PkD.cb(d:PkD):Blk:= .bx [.d (iD d.nodes),.d (.list false 1 d.ol),.d (.list false 7 d.ll),.d (.list false 3 d.xl),.d (iD d.id),.d (iD d.src),.d (iD d.dst),.d (iD d.fl),.d (.list false 2 d.sl),.d (iD d.hp),.d (iD d.fr)]
def PkD.xc(d:PkD)(b:Bool):List CV:=match b with
 |true=>[.d (iD d.rn),.d (iD d.rr),.d d.rp]
 |false=>[.d (iD 0),.d (iD 0),.d (.list true 1 [])]
def PkD.zc(d:PkD)(b:Bool):Int:=match b with
 |true=>d.cz
 |false=> -1
def PkD.hX(d:PkD)(L:Nat->Bool):Hp:=match L 14 with
 |true=>[.bx (d.xc (L 15))]
 |false=>[]
def PkD.hP(d:PkD)(L:Nat->Bool):Hp:=match L 9 with
 |true=>[.bx [.d (.list false 1 d.pl)],.bx [.d (iD (d.zc (L 10)))]]
 |false=>[]
def PkD.hT(d:PkD)(L:Nat->Bool)(od:Bool):Hp:=match od with
 |true=>d.hX L++d.hP L
 |false=>d.hP L++d.hX L
def PkD.hh(d:PkD)(L:Nat->Bool)(od:Bool):Hp:= .am d.m::d.cb::d.hT L od
def pX(od:Bool):CV:=match od with
 |true=> .ptr 2 0 0 0
 |false=> .ptr 4 0 0 0
def pCl(od:Bool):CV:=match od with
 |true=> .fn false Qaj [.ptr 4 0 0 0,.ptr 3 0 0 0]
 |false=> .fn false Qaj [.ptr 3 0 0 0,.ptr 2 0 0 0]
def PkD.rA(d:PkD):AV:= .agg [.d (iD d.rn),.d (iD d.rr),.d d.rp]
def Cns(L:Nat->Bool)(od:Bool):Prop:=(L 9=false->L 14=true->od=true)/\(L 9=true->L 14=false->od=false)
def QBa:List Nat:=[0,1,0,4,0,16,0,64,0,256,1023,2047,4095,4095,0,24575,65535]
section
variable{N:Nat}{G0:Nat->Prop}{ι0:Io}{h0:Hp}{w0:World}
end
def LLM(d:PkD)(L:Nat->Bool)(od:Bool):Lv:=[(1,.c (.d (.list false 1 d.pl))),(2,.c (.ptr 1 0 0 0)),(5,.c (.d d.lst)),(42,en (L 0) (.c (.ptr 1 0 0 0))),(43,en (L 1) (.agg [.d (iD d.nodes),.d (.list false 1 d.ol),.d (.list false 7 d.ll)])),(44,en (L 2) (.c (.ptr 1 0 0 3))),(45,en (L 3) (.c (.d (.list false 3 d.xl)))),(46,en (L 4) (.c (.ptr 1 0 0 4))),(47,en (L 5) (.agg [.d (iD d.id),.d (iD d.src),.d (iD d.dst),.d (iD d.fl),.d (.list false 2 d.sl),.d (iD d.hp)])),(48,en (L 6) (.c (.ptr 1 0 0 10))),(49,en (L 7) (iA d.fr)),(50,en (L 8) (.c (.d (.list false 1 d.pl)))),(51,en (L 9) (.c (pCl od))),(52,en (L 10) (.tup [d.rA,iA d.er])),(41,en (L 11) (.tup [d.rA,iA d.er])),(53,en (L 12) (d.rA)),(54,en (L 13) (iA d.er)),(7,en (L 14) (.c (pX od))),(8,en (L 16) (iA d.er))]
def QBK:List AO:=[⟨some 42,.fa (.t 2) 0,none⟩,⟨some 43,.ld (.t 42) (some 3),none⟩,⟨some 44,.fa (.t 2) 3,none⟩,⟨some 45,.ld (.t 44) none,none⟩,⟨some 46,.fa (.t 2) 4,none⟩,⟨some 47,.ld (.t 46) (some 6),none⟩,⟨some 48,.fa (.t 2) 10,none⟩,⟨some 49,.ld (.t 48) none,none⟩,⟨some 50,.mv (.t 1),none⟩,⟨some 51,.call 24 [.t 50],none⟩,⟨some 52,.call 23 [.t 43,.t 45,.t 47,.t 49,.t 51],none⟩,⟨some 41,.mv (.t 52),none⟩,⟨some 53,.ext (.t 41) 0,none⟩,⟨some 54,.ext (.t 41) 1,none⟩,⟨some 7,.box (.k (.agg [.d (.int .i64 0),.d (.int .i64 0),.d (.list true 1 [])])),none⟩,⟨none,.st (.t 7) (.t 53) 3,none⟩,⟨some 8,.mv (.t 54),none⟩]
section
variable{N:Nat}{G0:Nat->Prop}{ι0:Io}{h0:Hp}{w0:World}
def StM(N:Nat)(G0:Nat->Prop)(ι0:Io)(h0:Hp)(w0:World)(d:PkD)(L:Nat->Bool)(a:Act)(w:World):Prop:=∃od,Cns L od/\Fits N G0 ι0 h0 w0 (lkL (LLM d L od)) (d.hh L od) a w
theorem QDo{c:Code}{M:Nat}(hM:h0.length<=M)(hms:masks (Qb2 c).toList []=QBa)(hdir:QpN (Qb2 c).toList=true)(hall:QaQ Tryz.prog (Qb2 c) N (Qb2 c).toList=some QBK)(hg:QBK.all (gOk N)=true)(d:PkD)
 (hone:FnS Tryz.prog Qf4 [.agg [.d (iD d.nodes),.d (.list false 1 d.ol),.d (.list false 7 d.ll)],.c (.d (.list false 3 d.xl)),.agg [.d (iD d.id),.d (iD d.src),.d (iD d.dst),.d (iD d.fl),.d (.list false 2 d.sl),.d (iD d.hp)],iA d.fr,.c (.fn false Qaj [.ptr 1 0 0 0,.ptr 2 0 0 0])] (BP d.m d.pl (-1))
   λr h'=>r= .tup [d.rA,iA d.er]/\h'=BP d.m d.pl d.cz) {Q:Exit->Act->World->Prop} {id:Nat} {a:Act} {w:World} (hf:Fits N G0 ι0 h0 w0 (lkL [(1,.c (.d (.list false 1 d.pl))),(2,.c (.ptr 1 0 0 0)),(5,.c (.d d.lst))]) [.am d.m,d.cb] a w)
  (hQ:∀od a' w',Fits N G0 ι0 h0 w0 (lkL (LLM d (λ_=>true) od)) (d.hh (λ_=>true) od) a' w'->Q .normal a' w'):(Code.region id (Qb2 c) true).wpIn (Fen none) 0 Tryz.prog Q a w:=by
 have hsz:(Qb2 c).size=17:=by have:=(Qau hall).1;rw[Array.length_toList]at this;rw[this];rfl
 have hb:∀i j,QpE (Qb2 c) i j=(QBa.getD i 0).testBit j:=λi j=>by rw[QpE,hms]
 have hpick:=QuE Tryz.prog rfl d.pl;have hΛ:∀l:List (List D),(λl:List (List D)=>(l.length:Int)) l=(l.length:Int):=λ_=>rfl
 refine Qo1 (ro:=none) (StM N G0 ι0 h0 w0 d) mixed (λi op ho j hj=> ?_) ?_ ?_ ⟨false,⟨(λ_ h=>by cases h),(λh=>by cases h)⟩,QaR (L:=LLM d (λ_=>false) false) (Fits.same_heap (w':={w with drawn:=w.drawn+1}) hf rfl) (by repeat' first|exact .nil|refine .cons (.inr rfl) ?_|refine .cons (.inl rfl) ?_)⟩
 ·have h1:=List.all_eq_true.1 hdir i (List.mem_range.2 (Qaa ho));rw[ho]at h1;exact of_decide_eq_true (List.all_eq_true.1 h1 j hj)
 ·intro L i a w K hi hLi hdep hcl ⟨od,hC,hF⟩ hK;have hdep:∀j,(QBa.getD i 0).testBit j=true->L j=true:=λj hj=>hdep j (by rw[hb];exact hj)
  have hcl:∀k j,L k=true->(QBa.getD k 0).testBit j=true->L j=true:=λk j hk hj=>hcl k j hk (by rw[hb];exact hj)
  rw[hsz]at hi
  match i,hi with
  |0,_=>
   refine Qc9 hall 0 rfl (lkL [(2,.c (.ptr 1 0 0 0))]) hF (λx hx=> ?_) rfl λa' w' hf'=>hK a' w' ⟨od,hC,QaR hf'⟩
   obtain rfl:x= .t 2:=by simpa [QaY]using hx
   rfl
  |1,_=>
   have h0:L 0=true:=hdep 0 rfl;refine Qc9 hall 1 rfl (lkL [(42,.c (.ptr 1 0 0 0))]) hF (λx hx=> ?_) rfl λa' w' hf'=>hK a' w' ⟨od,hC,QaR hf'⟩
   obtain rfl:x= .t 42:=by simpa [QaY]using hx
   show en (L 0) _=_;rw[h0];rfl
  |2,_=>
   refine Qc9 hall 2 rfl (lkL [(2,.c (.ptr 1 0 0 0))]) hF (λx hx=> ?_) rfl λa' w' hf'=>hK a' w' ⟨od,hC,QaR hf'⟩
   obtain rfl:x= .t 2:=by simpa [QaY]using hx
   rfl
  |3,_=>
   have h2:L 2=true:=hdep 2 rfl;refine Qc9 hall 3 rfl (lkL [(44,.c (.ptr 1 0 0 3))]) hF (λx hx=> ?_) rfl λa' w' hf'=>hK a' w' ⟨od,hC,QaR hf'⟩
   obtain rfl:x= .t 44:=by simpa [QaY]using hx
   show en (L 2) _=_;rw[h2];rfl
  |4,_=>
   refine Qc9 hall 4 rfl (lkL [(2,.c (.ptr 1 0 0 0))]) hF (λx hx=> ?_) rfl λa' w' hf'=>hK a' w' ⟨od,hC,QaR hf'⟩
   obtain rfl:x= .t 2:=by simpa [QaY]using hx
   rfl
  |5,_=>
   have h4:L 4=true:=hdep 4 rfl;refine Qc9 hall 5 rfl (lkL [(46,.c (.ptr 1 0 0 4))]) hF (λx hx=> ?_) rfl λa' w' hf'=>hK a' w' ⟨od,hC,QaR hf'⟩
   obtain rfl:x= .t 46:=by simpa [QaY]using hx
   show en (L 4) _=_;rw[h4];rfl
  |6,_=>
   refine Qc9 hall 6 rfl (lkL [(2,.c (.ptr 1 0 0 0))]) hF (λx hx=> ?_) rfl λa' w' hf'=>hK a' w' ⟨od,hC,QaR hf'⟩
   obtain rfl:x= .t 2:=by simpa [QaY]using hx
   rfl
  |7,_=>
   have h6:L 6=true:=hdep 6 rfl;refine Qc9 hall 7 rfl (lkL [(48,.c (.ptr 1 0 0 10))]) hF (λx hx=> ?_) rfl λa' w' hf'=>hK a' w' ⟨od,hC,QaR hf'⟩
   obtain rfl:x= .t 48:=by simpa [QaY]using hx
   show en (L 6) _=_;rw[h6];rfl
  |8,_=>
   refine Qc9 hall 8 rfl (lkL [(1,.c (.d (.list false 1 d.pl)))]) hF (λx hx=> ?_) rfl λa' w' hf'=>hK a' w' ⟨od,hC,QaR hf'⟩
   obtain rfl:x= .t 1:=by simpa [QaY]using hx
   rfl
  |11,_=>
   have h10:L 10=true:=hdep 10 rfl;refine Qc9 hall 11 rfl (lkL [(52,.tup [d.rA,iA d.er])]) hF (λx hx=> ?_) rfl λa' w' hf'=>hK a' w' ⟨od,hC,QaR hf'⟩
   obtain rfl:x= .t 52:=by simpa [QaY]using hx
   show en (L 10) _=_;rw[h10];rfl
  |12,_=>
   have h11:L 11=true:=hdep 11 rfl;refine Qc9 hall 12 rfl (lkL [(41,.tup [d.rA,iA d.er])]) hF (λx hx=> ?_) rfl λa' w' hf'=>hK a' w' ⟨od,hC,QaR hf'⟩
   obtain rfl:x= .t 41:=by simpa [QaY]using hx
   show en (L 11) _=_;rw[h11];rfl
  |13,_=>
   have h11:L 11=true:=hdep 11 rfl;refine Qc9 hall 13 rfl (lkL [(41,.tup [d.rA,iA d.er])]) hF (λx hx=> ?_) rfl λa' w' hf'=>hK a' w' ⟨od,hC,QaR hf'⟩
   obtain rfl:x= .t 41:=by simpa [QaY]using hx
   show en (L 11) _=_;rw[h11];rfl
  |16,_=>
   have h13:L 13=true:=hdep 13 rfl;refine Qc9 hall 16 rfl (lkL [(54,iA d.er)]) hF (λx hx=> ?_) rfl λa' w' hf'=>hK a' w' ⟨od,hC,QaR hf'⟩
   obtain rfl:x= .t 54:=by simpa [QaY]using hx
   show en (L 13) _=_;rw[h13];rfl
  |9,_=>
   have h8:L 8=true:=hdep 8 rfl;have h10:L 10=false:=by
    cases h:L 10 with
    |false=>rfl
    |true=>have:=hcl 10 9 h rfl;rw[hLi]at this;cases this
   cases h14:L 14 with
   |false=>
    have hh:d.hh L od=[.am d.m,d.cb]:=by cases od<;>simp only[PkD.hh,PkD.hT,PkD.hX,PkD.hP,hLi,h14]<;>rfl
    rw[hh]at hF;have hh2:d.hh (λj=>Nat.beq j 9||L j) false=[.am d.m,d.cb,.bx [.d (.list false 1 d.pl)],.bx [.d (iD (-1))]]:=by
     show Blk.am d.m::d.cb::([.bx [.d (.list false 1 d.pl)],.bx [.d (iD (d.zc (L 10)))]]++d.hX (λj=>Nat.beq j 9||L j))=_;rw[h10,PkD.hX];show Blk.am d.m::d.cb::([.bx [.d (.list false 1 d.pl)],.bx [.d (iD (d.zc false))]]++(match L 14 with|true=>_|false=>[]))=_;rw[h14];rfl
    refine Qzc hall hg hM hΛ 9 rfl hF ?_;show CallS Tryz.prog M false _ _ 24 [.t 50] _;refine QhF [] hpick (by show[en (L 8) _]=_;rw[h8];rfl) rfl (by decide) trivial rfl rfl ?_;rintro r hc' ⟨rfl,rfl⟩;refine λa' w' hf'=>hK a' w' ⟨false,⟨(λh=>by cases h),λ_ _=>rfl⟩,?_⟩
    rw[hh2];refine QaR hf' (by repeat' first|exact .nil|refine .cons (.inr rfl) ?_|refine .cons (.inl (by show en (L 14) _=_;rw[h14];rfl)) ?_)
   |true=>
    obtain rfl:=hC.1 hLi h14;have h15:L 15=false:=by
     cases h:L 15 with
     |false=>rfl
     |true=>have:=hcl 15 9 h rfl;rw[hLi]at this;cases this
    have hh:d.hh L true=[.am d.m,d.cb,.bx (d.xc false)]:=by simp only[PkD.hh,PkD.hT,PkD.hX,PkD.hP,hLi,h14,h15]<;>rfl
    rw[hh]at hF;have hh2:d.hh (λj=>Nat.beq j 9||L j) true=[.am d.m,d.cb,.bx (d.xc false),.bx [.d (.list false 1 d.pl)],.bx [.d (iD (-1))]]:=by
     show Blk.am d.m::d.cb::(d.hX (λj=>Nat.beq j 9||L j)++[.bx [.d (.list false 1 d.pl)],.bx [.d (iD (d.zc (L 10)))]])=_;rw[h10,PkD.hX];show Blk.am d.m::d.cb::((match L 14 with|true=>[.bx (d.xc (L 15))]|false=>[])++_)=_;rw[h14,h15];rfl
    refine Qzc hall hg hM hΛ 9 rfl hF ?_;show CallS Tryz.prog M false _ _ 24 [.t 50] _;refine QhF [] hpick (by show[en (L 8) _]=_;rw[h8];rfl) rfl (by decide) trivial rfl rfl ?_;rintro r hc' ⟨rfl,rfl⟩;refine λa' w' hf'=>hK a' w' ⟨true,⟨(λ_ _=>rfl),λ_ h=>by have h:L 14=false:=h;rw[h14]at h;cases h⟩,?_⟩
    rw[hh2];exact QaR hf'
  |10,_=>
   have h1:L 1=true:=hdep 1 rfl;have h3:L 3=true:=hdep 3 rfl;have h5:L 5=true:=hdep 5 rfl;have h7:L 7=true:=hdep 7 rfl;have h9:L 9=true:=hdep 9 rfl;have hgo:∀(od:Bool) (σ:List Nat) (rest rest':Hp) (hcl':pCl od=rnC (rho σ (Blk.am d.m::d.cb::rest).length) (.fn false Qaj [.ptr 1 0 0 0,.ptr 2 0 0 0])) (hl:σ.length=3) (hnd:σ.Nodup) (hfr:QyL (Blk.am d.m::d.cb::rest) (rho σ (Blk.am d.m::d.cb::rest).length) 0 (BP d.m d.pl (-1)))
     (hback:QgD (Blk.am d.m::d.cb::rest) σ (BP d.m d.pl d.cz)=Blk.am d.m::d.cb::rest'),d.hh L od=Blk.am d.m::d.cb::rest->d.hh (λj=>Nat.beq j 10||L j) od=Blk.am d.m::d.cb::rest'->Cns L od->Fits N G0 ι0 h0 w0 (lkL (LLM d L od)) (d.hh L od) a w->wpOpIn (Fen none) 0 Tryz.prog (Qb2 c) Q 10 K a w:=by
    intro od σ rest rest' hcl' hl hnd hfr hback e1 e2 hC hF;rw[e1]at hF;refine Qzc hall hg hM hΛ 10 rfl hF ?_;show CallS Tryz.prog M false _ _ 23 [.t 43,.t 45,.t 47,.t 49,.t 51] _;refine QhF σ hone (by show[en (L 1) _,en (L 3) _,en (L 5) _,en (L 7) _,en (L 9) _]=_;rw[h1,h3,h5,h7,h9];show[_,_,_,_,AV.c (pCl od)]=[_,_,_,_,AV.c (rnC _ _)];rw[<-hcl'];rfl) hl hnd hfr rfl rfl ?_;rintro r hc' ⟨rfl,rfl⟩;rw[hback];refine λa' w' hf'=>hK a' w' ⟨od,hC,?_⟩
    rw[e2];exact QaR hf'
   cases h14:L 14 with
   |false=>
    obtain rfl:=hC.2 h9 h14;refine hgo false [0,3,2] [.bx [.d (.list false 1 d.pl)],.bx [.d (iD (-1))]] [.bx [.d (.list false 1 d.pl)],.bx [.d (iD d.cz)]] rfl rfl (by decide) (by repeat' first|exact trivial|refine And.intro ?_ ?_|rfl) rfl ?_ ?_ hC hF
    ·simp only[PkD.hh,PkD.hT,PkD.hX,PkD.hP,h9,h14,hLi]<;>rfl
    ·show Blk.am d.m::d.cb::(d.hP (λj=>Nat.beq j 10||L j)++d.hX (λj=>Nat.beq j 10||L j))=_;rw[PkD.hP,PkD.hX];show Blk.am d.m::d.cb::((match L 9 with|true=>[.bx [.d (.list false 1 d.pl)],.bx [.d (iD d.cz)]]|false=>[])++(match L 14 with|true=>_|false=>[]))=_;rw[h9,h14];rfl
   |true=>
    have hx:∀od,d.hh L od=Blk.am d.m::d.cb::(match od with|true=>[.bx (d.xc (L 15)),.bx [.d (.list false 1 d.pl)],.bx [.d (iD (-1))]]|false=>[.bx [.d (.list false 1 d.pl)],.bx [.d (iD (-1))],.bx (d.xc (L 15))]):=λod=>by
     cases od<;>simp only[PkD.hh,PkD.hT,PkD.hX,PkD.hP,h9,h14,hLi]<;>rfl
    have hy:∀od,d.hh (λj=>Nat.beq j 10||L j) od=Blk.am d.m::d.cb::(match od with|true=>[.bx (d.xc (L 15)),.bx [.d (.list false 1 d.pl)],.bx [.d (iD d.cz)]]|false=>[.bx [.d (.list false 1 d.pl)],.bx [.d (iD d.cz)],.bx (d.xc (L 15))]):=λod=>by
     have e1:d.hP (λj=>Nat.beq j 10||L j)=[.bx [.d (.list false 1 d.pl)],.bx [.d (iD d.cz)]]:=by
      rw[PkD.hP];show(match L 9 with|true=>[Blk.bx [.d (.list false 1 d.pl)],Blk.bx [.d (iD d.cz)]]|false=>[])=_;rw[h9]
     have e2:d.hX (λj=>Nat.beq j 10||L j)=[.bx (d.xc (L 15))]:=by
      rw[PkD.hX];show(match L 14 with|true=>[Blk.bx (d.xc (L 15))]|false=>[])=_;rw[h14]
     cases od<;>simp only[PkD.hh,PkD.hT,e1,e2]<;>rfl
    cases od with
    |true=>exact hgo true [0,4,3] _ _ rfl rfl (by decide) (by repeat' first|exact trivial|refine And.intro ?_ ?_|rfl) rfl (hx true) (hy true) hC hF
    |false=>exact hgo false [0,3,2] _ _ rfl rfl (by decide) (by repeat' first|exact trivial|refine And.intro ?_ ?_|rfl) rfl (hx false) (hy false) hC hF
  |14,_=>
   have h15:L 15=false:=by
    cases h:L 15 with
    |false=>rfl
    |true=>have:=hcl 15 14 h rfl;rw[hLi]at this;cases this
   have e2:d.hX (λj=>Nat.beq j 14||L j)=[.bx (d.xc false)]:=by
    rw[PkD.hX];show[Blk.bx (d.xc (L 15))]=_;rw[h15]
   cases h9:L 9 with
   |false=>
    have hh:d.hh L od=[.am d.m,d.cb]:=by cases od<;>simp only[PkD.hh,PkD.hT,PkD.hX,PkD.hP,hLi,h9]<;>rfl
    rw[hh]at hF;have hh2:d.hh (λj=>Nat.beq j 14||L j) true=[.am d.m,d.cb,.bx (d.xc false)]:=by
     rw[PkD.hh,PkD.hT,e2,PkD.hP];show Blk.am d.m::d.cb::([.bx (d.xc false)]++(match L 9 with|true=>_|false=>[]))=_;rw[h9];rfl
    refine Qc9 hall 14 rfl (lkL []) hF (λx hx=> ?_) (h':=[.am d.m,d.cb,.bx (d.xc false)]) (v:= .c (.ptr 2 0 0 0)) rfl λa' w' hf'=>hK a' w' ⟨true,⟨(λ_ _=>rfl),λh=>by have h:L 9=true:=h;rw[h9]at h;cases h⟩,?_⟩
    ·obtain rfl:x= .k (.agg [.d (.int .i64 0),.d (.int .i64 0),.d (.list true 1 [])]):=by simpa [QaY]using hx
     rfl
    ·rw[hh2];refine QaR hf' (by repeat' first|exact .nil|refine .cons (.inr rfl) ?_|refine .cons (.inl (by show en (L 9) _=_;rw[h9];rfl)) ?_)
   |true=>
    obtain rfl:=hC.2 h9 hLi;have hh:d.hh L false=[.am d.m,d.cb,.bx [.d (.list false 1 d.pl)],.bx [.d (iD (d.zc (L 10)))]]:=by simp only[PkD.hh,PkD.hT,PkD.hX,PkD.hP,hLi,h9]<;>rfl
    rw[hh]at hF;have hh2:d.hh (λj=>Nat.beq j 14||L j) false=[.am d.m,d.cb,.bx [.d (.list false 1 d.pl)],.bx [.d (iD (d.zc (L 10)))],.bx (d.xc false)]:=by
     rw[PkD.hh,PkD.hT,e2,PkD.hP];show Blk.am d.m::d.cb::((match L 9 with|true=>[.bx [.d (.list false 1 d.pl)],.bx [.d (iD (d.zc (L 10)))]]|false=>[])++[.bx (d.xc false)])=_;rw[h9];rfl
    refine Qc9 hall 14 rfl (lkL []) hF (λx hx=> ?_) (h':=[.am d.m,d.cb,.bx [.d (.list false 1 d.pl)],.bx [.d (iD (d.zc (L 10)))],.bx (d.xc false)]) (v:= .c (.ptr 4 0 0 0)) rfl λa' w' hf'=>hK a' w' ⟨false,⟨(λh=>by have h:L 9=false:=h;rw[h9]at h;cases h),λ_ _=>rfl⟩,?_⟩
    ·obtain rfl:x= .k (.agg [.d (.int .i64 0),.d (.int .i64 0),.d (.list true 1 [])]):=by simpa [QaY]using hx
     rfl
    ·rw[hh2];exact QaR hf'
  |15,_=>
   have h9:L 9=true:=hdep 9 rfl;have h10:L 10=true:=hdep 10 rfl;have h12:L 12=true:=hdep 12 rfl;have h14:L 14=true:=hdep 14 rfl;have e1:d.hP (λj=>Nat.beq j 15||L j)=[.bx [.d (.list false 1 d.pl)],.bx [.d (iD d.cz)]]:=by
    rw[PkD.hP];show(match L 9 with|true=>[Blk.bx [.d (.list false 1 d.pl)],Blk.bx [.d (iD (d.zc (L 10)))]]|false=>[])=_;rw[h9,h10];rfl
   have e2:d.hX (λj=>Nat.beq j 15||L j)=[.bx (d.xc true)]:=by
    rw[PkD.hX];show(match L 14 with|true=>[Blk.bx (d.xc true)]|false=>[])=_;rw[h14]
   cases od with
   |true=>
    have hh:d.hh L true=[.am d.m,d.cb,.bx (d.xc false),.bx [.d (.list false 1 d.pl)],.bx [.d (iD d.cz)]]:=by simp only[PkD.hh,PkD.hT,PkD.hX,PkD.hP,hLi,h9,h10,h14]<;>rfl
    rw[hh]at hF;refine Qc9 hall 15 rfl (lkL [(7,.c (.ptr 2 0 0 0)),(53,d.rA)]) hF (λx hx=> ?_) (h':=[.am d.m,d.cb,.bx (d.xc true),.bx [.d (.list false 1 d.pl)],.bx [.d (iD d.cz)]]) rfl λa' w' hf'=>hK a' w' ⟨true,hC,?_⟩
    ·have hx:x= .t 7\/x= .t 53:=by simpa [QaY]using hx
     rcases hx with rfl|rfl
     ·show en (L 14) _=_;rw[h14];rfl
     ·show en (L 12) _=_;rw[h12];rfl
    ·rw[PkD.hh,PkD.hT,e1,e2];exact QaR hf'
   |false=>
    have hh:d.hh L false=[.am d.m,d.cb,.bx [.d (.list false 1 d.pl)],.bx [.d (iD d.cz)],.bx (d.xc false)]:=by simp only[PkD.hh,PkD.hT,PkD.hX,PkD.hP,hLi,h9,h10,h14]<;>rfl
    rw[hh]at hF;refine Qc9 hall 15 rfl (lkL [(7,.c (.ptr 4 0 0 0)),(53,d.rA)]) hF (λx hx=> ?_) (h':=[.am d.m,d.cb,.bx [.d (.list false 1 d.pl)],.bx [.d (iD d.cz)],.bx (d.xc true)]) rfl λa' w' hf'=>hK a' w' ⟨false,hC,?_⟩
    ·have hx:x= .t 7\/x= .t 53:=by simpa [QaY]using hx
     rcases hx with rfl|rfl
     ·show en (L 14) _=_;rw[h14];rfl
     ·show en (L 12) _=_;rw[h12];rfl
    ·rw[PkD.hh,PkD.hT,e1,e2];exact QaR hf'
  |i+17,hi=>omega
 ·intro L a w hL ⟨od,hC,hF⟩;rw[hsz]at hL;have e1:LLM d L od=LLM d (λ_=>true) od:=by
   simp only[LLM,hL 0 (by decide),hL 1 (by decide),hL 2 (by decide),hL 3 (by decide),hL 4 (by decide),hL 5 (by decide),hL 6 (by decide),hL 7 (by decide),hL 8 (by decide),hL 9 (by decide),hL 10 (by decide),hL 11 (by decide),hL 12 (by decide),hL 13 (by decide),hL 14 (by decide),hL 16 (by decide)]
  have e2:d.hh L od=d.hh (λ_=>true) od:=by
   simp only[PkD.hh,PkD.hT,PkD.hX,PkD.hP,hL 9 (by decide),hL 10 (by decide),hL 14 (by decide),hL 15 (by decide)]
  rw[e1,e2]at hF;exact hQ od a w hF
end
theorem Qum(P:Program)(hP:P=Tryz.prog)(c:C24)(hs:Qz2 c)(hi:InS c.p.stack):FnS P QeW [QtB c] [] λr h'=>(∃b,r=bA b/\(b=false->Sm24 c))/\h'=[]:=by
 refine FnS.mono (FnS.cut (Qwm P hP c hs hi) λr h' hr=> ?_) λr h' hr=> ?_
 ·obtain⟨_,b,rfl,-⟩:=hr;exact⟨rfl,rfl⟩
 ·obtain⟨h2,⟨_,h3⟩,h4⟩:=hr;exact⟨h3,lzQ h4⟩
theorem Qts(P:Program)(haw:Qjj P)(m:Ar)(hT:Qbk m):FnS P QcD [] [.am m] λr h'=>∃m',h'=[.am m']/\Qbk m'/\r=bA true:=
 QBN (R:=λr m'=>Qbk m'/\r=bA true) ((haw m hT).mono λr h' ⟨e,m',tl,e2,h⟩=>⟨m',tl,e2,h,e⟩) λr m' ⟨_,e⟩=>by subst e;exact⟨λ_=>rfl,rfl⟩
abbrev QoT (c:C24) (pks:List Int) (U:List WSt):Rsl×Int×Nat:=QxP (gW c.t c.xs c.p) (λk s=>QkB pks k ((gW c.t c.xs c.p).ar s).length) U (c.fr,c.p.stack) (Qas c.t c.xs c.fr)
theorem QBc(P:Program)(hP:P=Tryz.prog)(c:C24)(pks:List Int)(hpk:∀x∈pks,0<=x/\x<256)(hlen:pks.length<=100)(U:List WSt)(m:Ar)(hT:Qbk m)
 (hU:Qas c.t c.xs c.fr=0->UOK P c.t c.xs c.p (gW c.t c.xs c.p) U/\(c.fr,c.p.stack)∈U):
  FnS P Qf4 [QaU c.t,QbF c.xs,QbK c.p,iA c.fr,.c (.fn false Qaj [.ptr 1 0 0 0,.ptr 2 0 0 0])] (BP m (pks.map QgY) (-1)) λr h'=>r=QBR (QoT c pks U).1 (QoT c pks U).2.1/\h'=BP m (pks.map QgY) (((QoT c pks U).2.2:Int)-1):=by
 by_cases h0:Qas c.t c.xs c.fr=0
 ·exact QuB rfl rfl (QrB P hP c.t c.xs c.p c.fr (gW c.t c.xs c.p) U m hT (pks.map QgY) (λk s=>QkB pks k ((gW c.t c.xs c.p).ar s).length) hU λk s z hs ha hk hz=>by
   obtain⟨x,nst,nhp,hstp⟩:=(hU h0).1.st s hs;exact QwC P hP m pks hpk hlen c.p.flow s.1 _ ha hstp.len k z hk hz)
 ·have e:QoT c pks U=QoT c pks []:=by unfold QoT QxP;rw[if_neg h0,if_neg h0]
  rw[e];exact QuB rfl rfl (QrB P hP c.t c.xs c.p c.fr (gW c.t c.xs c.p) [] m hT (pks.map QgY) (λk s=>QkB pks k ((gW c.t c.xs c.p).ar s).length) (λh=>absurd h h0) (λk s z hs=>by cases hs))
def QBg(k:Nat)(c:Code):Bool:=Qie k c&&Qqc (QcF k c)&&QpN (Qb2 (QcF k c)).toList
def QnM(t:Top)(fr:Int)(r:Rsl):Prop:=QtR t fr r.path=r.node/\∀(k:Nat) (a:Int),r.path[k]? =some a->Qba t a=QtR t fr (r.path.take k)
theorem Qon{t:Top}{v:Int}{p:List Int}{k:Nat}{a:Int}(h:p[k]? =some a):QtR t v (p.take (k+1))=QbD t a:=by
 rw[Qam h,Qq8];rfl
theorem Qpz(P:Program)(hP:P=Tryz.prog)(c:C24)(pks:List Int)(hpk:∀x∈pks,0<=x/\x<256)(hsm:Sm24 c)(hi:InS c.p.stack)(U:List WSt)
 (hU:Qas c.t c.xs c.fr=0->UOK P c.t c.xs c.p (gW c.t c.xs c.p) U/\GOK P c.t c.xs c.p (gW c.t c.xs c.p) U/\Expl (gW c.t c.xs c.p).nx (c.fr,c.p.stack) U)(l:List Rsl)(h:Qi8 (gW c.t c.xs c.p) U.length (c.fr,c.p.stack) (Qas c.t c.xs c.fr)=(l,0)):
  (QoT c pks U).2.1=0/\(QoT c pks U).1∈l/\(∀r∈l,QnM c.t c.fr r)/\l.length<=1000/\∀r∈l,r.path.length<=1000:=by
 rw[Qi8]at h;split at h
 ·rename_i h0;obtain⟨k1,k2,k3⟩:=hU h0;split at h
  ·simp at h
  ·rename_i K hK;obtain⟨-,-,hdep,-,hbl⟩:=Qyt k2.cl k3.st hK;split at h
   ·simp at h
   ·rename_i hn;simp only[pmi,and_true]at h;subst h;have hcr:Qdn c.t c.xs=true/\0<=c.fr/\c.fr<c.t.nodes:=by
     unfold Qas at h0;split at h0
     ·rename_i hc;split at h0
      ·rename_i hr;exact⟨hc,hr⟩
      ·cases h0
     ·cases h0
    have hst:StI c.t (c.fr,c.p.stack):=⟨hcr.2.1,hcr.2.2,hsm.st,hi⟩;obtain⟨r,k,e1,e2⟩:=Qzb (g:=gW c.t c.xs c.p) (pick:=λk s=>QkB pks k ((gW c.t c.xs c.p).ar s).length) (λk s hs=>QwD hpk k (List.length_pos_iff.2 hs)) U.length (U.length+1) [] (c.fr,c.p.stack) [] (by omega) hdep (by simp);have hone:QoT c pks U=(r,0,k):=by rw[QoT,QxP,if_pos h0,e1]
    have hlen:∀(n:Nat) (s:WSt) (p:List Int),∀q∈brs (gW c.t c.xs c.p).ar (gW c.t c.xs c.p).to n s p,q.2.length<=p.length+n:=by
     intro n;induction n with
     |zero=>intro s p q hq;simp only[brs,List.mem_singleton]at hq;subst hq;simp
     |succ n ih=>
      intro s p q hq;rw[brs]at hq;split at hq
      ·simp only[List.mem_singleton]at hq;subst hq;simp only;omega
      ·obtain⟨a,ha,hq⟩:=List.mem_flatMap.1 hq;have:=ih _ _ q hq;rw[List.length_append,List.length_singleton]at this;omega
    refine⟨by rw[hone],by rw[hone];exact e2,λr hr=> ?_,by rw[hbl];omega,λr hr=> ?_⟩
    ·obtain⟨q,hq,rfl⟩:=List.mem_map.1 hr;obtain⟨w,e,hw⟩:=QvI hcr.1 hsm.tb U.length (c.fr,c.p.stack) [] hst q hq;rw[List.nil_append]at e;have:=Qy2 hw;rw[<-e]at this;exact⟨this.1,this.2⟩
    ·obtain⟨q,hq,rfl⟩:=List.mem_map.1 hr;have h1:=hlen _ _ _ q hq;have h2:=k2.len;show q.2.length<=1000;simp only[List.length_nil]at h1;omega
 ·rename_i h0;simp only[pmi]at h;exact absurd h.2 h0
theorem Qtl(P:Program)(hP:P=Tryz.prog)(haw:Qjj P)(c:C24)(pks:List Int)(hs:Qz2 c)(hi:InS c.p.stack)(m:Ar)(hT:Qbk m)(Λ:Len)(Λo:∀l,Λ l=(l.length:Int))(K:AV->Hp->Prop)(hK:∀m' tl,Qbk m'->K (bA true) (.am m'::tl))
 (R:Lv->Hp->Prop)(U:Sm24 c->List WSt)(hU:∀h:Sm24 c,Qas c.t c.xs c.fr=0->UOK P c.t c.xs c.p (gW c.t c.xs c.p) (U h)/\GOK P c.t c.xs c.p (gW c.t c.xs c.p) (U h)/\Expl (gW c.t c.xs c.p).nx (c.fr,c.p.stack) (U h))
 (hR:∀m',Qbk m'->∀h:Sm24 c,pks.length<=100->∀l,Qi8 (gW c.t c.xs c.p) (U h).length (c.fr,c.p.stack) (Qas c.t c.xs c.fr)=(l,0)->∀L h,Wk 1 L h [(1,.c (.d (.list false 1 (pks.map QgY)))),(2,.c (.ptr 1 0 0 0)),(5,.c (.d (QqA l)))] [.am m',.bx [.d (iD c.t.nodes),.d (Qag c.t.ov),.d (Qai c.t.links),.d (.list false 3 (c.xs.map Qal)),.d (iD c.p.id),.d (iD c.p.src),.d (iD c.p.dst),.d (iD c.p.flow),.d (QaG c.p.stack),.d (iD c.p.hops),.d (iD c.fr)]]->R L h):
  Qxk P Λ 1 (QwG QaP.res K) 5 (afB QaP) (QpA 0 [QtB c,.c (.d (.list false 1 (pks.map QgY)))]) [.am m] R:=by
 have hlg:=Qum P hP c hs hi;have haw:=Qts P haw m hT;by_cases hsm:Sm24 c
 ·have hUs:=hU hsm;have hR:=λm' hT hl l hv=>hR m' hT hsm hl l hv
  generalize U hsm=U at*;have hall:∀m,Qbk m->FnS P Qex [QaU c.t,QbF c.xs,QbK c.p,iA c.fr] [.am m] λr h'=>∃m',h'=[.am m']/\Qbk m'/\r= .tup [.c (.d (QqA (Qi8 (gW c.t c.xs c.p) U.length (c.fr,c.p.stack) (Qas c.t c.xs c.fr)).1)),iA (Qi8 (gW c.t c.xs c.p) U.length (c.fr,c.p.stack) (Qas c.t c.xs c.fr)).2]:=λm hT=>by
   have:=Qvn P hP c.t c.xs c.p c.fr (gW c.t c.xs c.p) U m hT λh0=>⟨(hUs h0).1,(hUs h0).2.2.st⟩
   exact QBN (R:=λr m'=>Qbk m'/\r= .tup [.c (.d (QqA (Qi8 (gW c.t c.xs c.p) U.length (c.fr,c.p.stack) (Qas c.t c.xs c.fr)).1)),iA (Qi8 (gW c.t c.xs c.p) U.length (c.fr,c.p.stack) (Qas c.t c.xs c.fr)).2]) this λr m' ⟨_,e⟩=>by subst e;exact⟨λ_=>rfl,rfl⟩
  have hne:(Qi8 (gW c.t c.xs c.p) U.length (c.fr,c.p.stack) (Qas c.t c.xs c.fr)).2≠0->(Qi8 (gW c.t c.xs c.p) U.length (c.fr,c.p.stack) (Qas c.t c.xs c.fr)).1=[]:=λh=>by
   unfold Qi8 at h |-;split
   ·split
    ·rfl
    ·rename_i K hK;rw[if_pos (by assumption),hK]at h;simp only at h;split
     ·rfl
     ·rename_i hn;rw[if_neg hn]at h;exact absurd rfl h
   ·rfl
  obtain⟨⟨l,er⟩,hv⟩:∃v,Qi8 (gW c.t c.xs c.p) U.length (c.fr,c.p.stack) (Qas c.t c.xs c.fr)=v:=⟨_,rfl⟩;rw[hv]at hall hne hR;have hR:er=0->_:=λh=>by subst h;exact λm' hT hl=>hR m' hT hl l rfl
  simp only at hall hne;clear hP hs hi hU hUs hv;generalize hsmc:Sm24 c=sm at*;clear hsmc;obtain⟨t,xs,p,fr⟩:=c;obtain⟨id,src,dst,flow,st0,hops⟩:=p;simp only[QtB,QaU,QbF,QbK,QqA,QaG,Qag,Qai]at*;generalize List.map Qal xs=xl at*;generalize t.ov.map Qbq=ol at*;generalize t.links.map QaD=ll at*;generalize t.nodes=nodes at*;generalize List.map Qaf st0=sl at*;generalize hre:l.map Qd9=rl at*;have hrl:er≠0->Λ rl=0:=λh=>by rw[Λo,<-hre,hne h];rfl
  generalize hpe:pks.map QgY=pl at*;have hple:Λ pl=pks.length:=by rw[Λo,<-hpe];simp
  clear hpe hre hne
  conv=>cbv
  repeat' first|(left;intro(_:Unit);(conv=>cbv))|(refine QaE [0] haw ?_;rintro r hc' ⟨m1,rfl,hT1,rfl⟩;have hall:=hall m1 hT1;(conv=>cbv))|(refine QaE [] hlg ?_;rintro r hc' ⟨⟨b,rfl,hb⟩,rfl⟩;cases b;all_goals (conv=>cbv))|(refine QaE [0] hall ?_;rintro r hc' ⟨m2,rfl,hT2,rfl⟩;(conv=>cbv))|exact hK _ _ (by assumption)|(have hrl:=hrl (by omega);exfalso;omega)|(refine hR (by omega) _ (by assumption) (by omega) _ _ ?_;exact(Wk.ca))|exact gxQ|refine And.intro ?_ ?_|(intro hc;(first|rw[wS (by omega) (by omega)]at hc|rw[Qab]at hc|skip);try (conv=>cbv))
 ·clear hR hU;generalize hsmc:Sm24 c=sm at*;clear hsmc hP hs hi;obtain⟨t,xs,p,fr⟩:=c;obtain⟨id,src,dst,flow,st0,hops⟩:=p;simp only[QtB,QaG,Qag,Qai]at*;generalize List.map Qal xs=xl at*;generalize t.ov.map Qbq=ol at*;generalize t.links.map QaD=ll at*;generalize t.nodes=nodes at*;generalize List.map Qaf st0=sl at*;generalize pks.map QgY=pl at*
  conv=>cbv
  repeat' first|(left;intro(_:Unit);(conv=>cbv))|(refine QaE [0] haw ?_;rintro r hc' ⟨m1,rfl,hT1,rfl⟩;(conv=>cbv))|(refine QaE [] hlg ?_;rintro r hc' ⟨⟨b,rfl,hb⟩,rfl⟩;cases b;exact absurd (hb rfl) hsm;(conv=>cbv))|exact hK _ _ (by assumption)|exact gxQ|refine And.intro ?_ ?_|(intro hc;(first|rw[wS (by omega) (by omega)]at hc|rw[Qab]at hc|skip);try (conv=>cbv))
theorem QrZ(P:Program)(hP:P=Tryz.prog)(c:C24)(pks:List Int)(m:Ar)(hT:Qbk m)(Λ:Len)(Λo:∀l,Λ l=(l.length:Int))(K:AV->Hp->Prop)(hK:∀m' tl,Qbk m'->K (bA true) (.am m'::tl))(l:List Rsl)(R:Rsl×Int×Nat)(hR0:R.2.1=0)(hRl:R.1∈l)
 (hpt:∀r∈l,QnM c.t c.fr r)(hll:l.length<=1000)(hpl:∀r∈l,r.path.length<=1000):
  vcC P Λ 1 (QfK 6 (afB QaP)) (LLM ⟨m,c.t.nodes,c.t.ov.map Qbq,c.t.links.map QaD,c.xs.map Qal,c.p.id,c.p.src,c.p.dst,c.p.flow,c.p.stack.map Qaf,c.p.hops,c.fr,pks.map QgY,QqA l,R.1.node,R.1.rs,Qav R.1.path,R.2.1,(R.2.2:Int)-1⟩ (λ_=>true) true) (PkD.hh ⟨m,c.t.nodes,c.t.ov.map Qbq,c.t.links.map QaD,c.xs.map Qal,c.p.id,c.p.src,c.p.dst,c.p.flow,c.p.stack.map Qaf,c.p.hops,c.fr,pks.map QgY,QqA l,R.1.node,R.1.rs,Qav R.1.path,R.2.1,(R.2.2:Int)-1⟩ (λ_=>true) true) (QwG QaP.res K):=by
 have htl:=λa=>Qe8 P hP c.t a
 have hhd:=λa=>Qkh P hP c.t a
 have hsi:=λa b=>QgP P hP a b
 have hK:=λtl=>hK m tl hT
 clear hP hT;obtain⟨⟨rn,rr,rpath⟩,er,cnt⟩:=R;simp only at hR0 hRl;subst hR0;obtain⟨t,xs,p,fr⟩:=c;obtain⟨id,src,dst,flow,st0,hops⟩:=p;simp only[QnM]at hpt;obtain⟨en,hene⟩:∃en:List Int->Int,∀l,QtR t fr l=en l:=⟨_,λ_=>rfl⟩;have hen:∀(p:List Int) (k:Nat) (a:Int),p[k]? =some a->en (p.take (k+1))=QbD t a:=λp k a h=>by rw[<-hene];exact Qon h
 have hen0:en []=fr:=by rw[<-hene];rfl
 simp only[hene]at hpt;clear hene;simp only[QaU,QqA,Qay,Qav,QaG,Qag,Qai]at*;generalize List.map Qal xs=xl at*;generalize t.ov.map Qbq=ol at*;generalize t.links.map QaD=ll at*;generalize t.nodes=nodes at*;generalize List.map Qaf st0=sl at*;generalize pks.map QgY=pl at*;generalize hre:l.map Qd9=rl at*;have hrll:Λ rl=l.length:=by rw[Λo,<-hre];simp
 have hsi:=λa=>hsi a rpath
 generalize rpath.map QaC=pa at*;generalize (cnt:Int)-1=cz at*;generalize hr0:(⟨rn,rr,rpath⟩:Rsl)=r0 at*;have hfz:∀b,b=decide (r0∈l.take l.length)->b=true:=λb h=>by rw[h,List.take_length];exact decide_eq_true hRl
 conv=>cbv
 repeat' first|exact gxQ|refine And.intro ?_ ?_|(intro hc;(first|rw[wS (by omega) (by omega)]at hc|rw[Qab]at hc|skip);try (conv=>cbv))
 refine QaT l.length (λ(x:Bool×Int)=>[(2,.c (.ptr 1 0 0 0)),(7,.c (.ptr 2 0 0 0)),(8,iA 0),(55,.c (.d (.list false 3 rl))),(56,iA (Λ rl)),(9,bA x.1),(57,iA x.2)])
  (λ_=>[.am m,.bx [.d (iD nodes),.d (.list false 1 ol),.d (.list false 7 ll),.d (.list false 3 xl),.d (iD id),.d (iD src),.d (iD dst),.d (iD flow),.d (.list false 2 sl),.d (iD hops),.d (iD fr)],.bx [.d (iD rn),.d (iD rr),.d (.list false 1 pa)],.bx [.d (.list false 1 pl)],.bx [.d (iD cz)]]) (λkk x=>x.2=kk/\kk<=l.length/\x.1=decide (r0∈l.take kk)) (false,0) (Wk.ca) ⟨rfl,by omega,by simp⟩ (λk s h=>h.2.1) ?_
 rintro kk ⟨fb,i⟩ Q' ⟨hi,hkk,hfb⟩ norm ex rt;simp only at hi hfb;by_cases hlt:kk<l.length
 ·obtain⟨x,hxk⟩:∃x,l[kk]? =some x:=⟨_,lgE hlt⟩;have hxm:=mgE hxk;obtain⟨hp1,hp2⟩:=hpt x hxm;have hpl:=hpl x hxm;have hel:=QdB hre hi hxk;have hsx:=hsi x.path;have hnx:decide (r0∈l.take (kk+1))=(fb||decide (x=r0)):=by
   rw[hfb,Qam hxk,Bool.eq_iff_iff,Bool.or_eq_true,decide_eq_true_eq,decide_eq_true_eq,decide_eq_true_eq,List.mem_append,List.mem_singleton];exact⟨λh=>h.imp (λh=>h) Eq.symm,λh=>h.imp (λh=>h) Eq.symm⟩
  obtain⟨xn,xr,xpath⟩:=x;simp only[Qd9,Qav]at hel hp1 hp2 hpl hsx;generalize hxpe:xpath.map QaC=xp at*;have hxpl:Λ xp=xpath.length:=by rw[Λo,<-hxpe];simp
  obtain⟨i1,hi1⟩:∃z:Int,z=((kk+1:Nat):Int):=⟨_,rfl⟩;obtain⟨pb,hpb⟩:∃pb,pb=decide (xpath=rpath):=⟨_,rfl⟩;rw[<-hpb]at hsx;have hnm:∀b,b=(fb||decide ((⟨xn,xr,xpath⟩:Rsl)=r0))->∀L' h',Wk 1 L' h' [(2,.c (.ptr 1 0 0 0)),(7,.c (.ptr 2 0 0 0)),(8,iA 0),(55,.c (.d (.list false 3 rl))),(56,iA (Λ rl)),(9,bA b),(57,iA i1)] [.am m,.bx [.d (iD nodes),.d (.list false 1 ol),.d (.list false 7 ll),.d (.list false 3 xl),.d (iD id),.d (iD src),.d (iD dst),.d (iD flow),.d (.list false 2 sl),.d (iD hops),.d (iD fr)],.bx [.d (iD rn),.d (iD rr),.d (.list false 1 pa)],.bx [.d (.list false 1 pl)],.bx [.d (iD cz)]]->Q' .normal L' h':=λb hb L' h' hw=>norm L' h' (b,i1) ⟨hi1,by omega,by rw[hb,hnx]⟩ hw
  have hdec:decide ((⟨xn,xr,xpath⟩:Rsl)=r0)=(decide (xn=rn)&&decide (xr=rr)&&pb):=by
   rw[<-hr0,hpb,Bool.eq_iff_iff];simp[and_assoc]
  rw[hdec]at hnm;clear norm hsi hpt hfz hnx hdec hfb hre
  conv=>cbv
  repeat' first|(refine ex _ _ _ ?_;(conv=>cbv))|(refine rt _ _ ?_;(conv=>cbv))|(left;intro(_:Unit);(conv=>cbv))|(intro(e:List D) he;cases osj (he.symm.trans hel);(conv=>cbv))|exact gxQ|refine And.intro ?_ ?_|(intro hc;(first|rw[wS (by omega) (by omega)]at hc|rw[Qab]at hc|skip);try (conv=>cbv))
  refine QbM xpath.length (λ(y:Int×Int)=>[(2,.c (.ptr 1 0 0 0)),(7,.c (.ptr 2 0 0 0)),(8,iA 0),(55,.c (.d (.list false 3 rl))),(56,iA (Λ rl)),(9,bA fb),(57,iA i),(11,.c (.ptr 5 0 0 0)),(12,iA y.1),(64,.c (.d (.list false 1 xp))),(65,iA (Λ xp)),(66,iA y.2)])
   (λ_=>[.am m,.bx [.d (iD nodes),.d (.list false 1 ol),.d (.list false 7 ll),.d (.list false 3 xl),.d (iD id),.d (iD src),.d (iD dst),.d (iD flow),.d (.list false 2 sl),.d (iD hops),.d (iD fr)],.bx [.d (iD rn),.d (iD rr),.d (.list false 1 pa)],.bx [.d (.list false 1 pl)],.bx [.d (iD cz)],.bx [.d (iD xn),.d (iD xr),.d (.list false 1 xp)]]) (λjj y=>y.2=jj/\jj<=xpath.length/\y.1=en (xpath.take jj)) (fr,0)
   2 (λ(_:Unit)=>[(2,.c (.ptr 1 0 0 0)),(7,.c (.ptr 2 0 0 0)),(8,iA 0),(55,.c (.d (.list false 3 rl))),(56,iA (Λ rl)),(9,bA fb),(57,iA i),(11,.c (.ptr 5 0 0 0)),(12,iA xn)]) (λ_=>[.am m,.bx [.d (iD nodes),.d (.list false 1 ol),.d (.list false 7 ll),.d (.list false 3 xl),.d (iD id),.d (iD src),.d (iD dst),.d (iD flow),.d (.list false 2 sl),.d (iD hops),.d (iD fr)],.bx [.d (iD rn),.d (iD rr),.d (.list false 1 pa)],.bx [.d (.list false 1 pl)],.bx [.d (iD cz)],.bx [.d (iD xn),.d (iD xr),.d (.list false 1 xp)]]) (λ_=>True) (Wk.ca) ⟨rfl,by omega,hen0.symm⟩ (λk s h=>h.2.1) ?_ ?_
  ·rintro jj ⟨nd,j⟩ Q2 ⟨hj,hjl,hnd⟩ norm2 jn2 ex2 rt2;simp only at hj hnd;clear hnm hsx;by_cases hlt2:jj<xpath.length
   ·obtain⟨a,hak⟩:∃a,xpath[jj]? =some a:=⟨_,lgE hlt2⟩;have hea:xp[j.toNat]? =some [iD a]:=by rw[<-hxpe,hj,Int.toNat_natCast,gtm,hak];rfl
    have hta:=htl a;rw[hp2 jj a hak,<-hnd]at hta;have hha:=hhd a;obtain⟨n1,hn1⟩:∃n1,n1=QbD t a:=⟨_,rfl⟩;rw[<-hn1]at hha;obtain⟨j1,hj1⟩:∃z:Int,z=((jj+1:Nat):Int):=⟨_,rfl⟩;have hnd1:n1=en (xpath.take (jj+1)):=by rw[hn1,hen _ _ _ hak]
    clear htl hhd hp2 hen jn2
    conv=>cbv
    repeat' first|(refine ex _ _ _ ?_;(conv=>cbv))|(refine rt _ _ ?_;(conv=>cbv))|(left;intro(_:Unit);(conv=>cbv))|(intro(e:List D) he;cases osj (he.symm.trans hea);(conv=>cbv))|(refine Qan hta rfl rfl ?_;conv=>cbv)|(refine Qan hha rfl rfl ?_;conv=>cbv)|(intro(k:Int) hk;rw[wS (by omega) (by omega)]at hk;refine(λ(hz:j1=k)=> ?_) ?_;rotate_left;omega;subst hz;(conv=>cbv))|exact gxQ|refine And.intro ?_ ?_|(intro hc;(first|rw[wS (by omega) (by omega)]at hc|rw[Qab]at hc|skip);try (conv=>cbv))
    all_goals (refine norm2 _ _ (n1,j1) ⟨hj1,by omega,hnd1⟩ (Wk.ca))
   ·have hjj:jj=xpath.length:=by omega
    rw[hjj,List.take_length,hp1]at hnd;subst hnd;clear htl hhd hp2 hen norm2
    conv=>cbv
    repeat' first|exact gxQ|refine And.intro ?_ ?_|(intro hc;(first|rw[wS (by omega) (by omega)]at hc|rw[Qab]at hc|skip);try (conv=>cbv))
    all_goals (refine jn2 _ _ () trivial (Wk.ca))
  ·rintro⟨⟩-
   clear htl hhd hp2 hen;cases fb with
   |true=>
    conv=>cbv
    repeat' first|(refine ex _ _ _ ?_;(conv=>cbv))|(refine rt _ _ ?_;(conv=>cbv))|(left;intro(_:Unit);(conv=>cbv))|(intro(k:Int) hk;rw[wS (by omega) (by omega)]at hk;refine(λ(hz:i1=k)=> ?_) ?_;rotate_left;omega;subst hz;(conv=>cbv))|(refine hnm true rfl _ _ ?_;exact(Wk.ca))|exact gxQ|refine And.intro ?_ ?_|(intro hc;(first|rw[wS (by omega) (by omega)]at hc|rw[Qab]at hc|skip);try (conv=>cbv))
   |false=>
    by_cases h1:xn=rn
    ·by_cases h2:xr=rr
     ·rw[decide_eq_true h1,decide_eq_true h2,Bool.true_and,Bool.true_and,Bool.false_or]at hnm;have hnm:=hnm pb rfl;clear hpb
      conv=>cbv
      repeat' first|(refine ex _ _ _ ?_;(conv=>cbv))|(refine rt _ _ ?_;(conv=>cbv))|(left;intro(_:Unit);(conv=>cbv))|(intro(k:Int) hk;rw[wS (by omega) (by omega)]at hk;refine(λ(hz:i1=k)=> ?_) ?_;rotate_left;omega;subst hz;(conv=>cbv))|(refine Qan hsx rfl rfl ?_;conv=>cbv)|(refine hnm _ _ ?_;exact(Wk.ca))|exact gxQ|refine And.intro ?_ ?_|(intro hc;(first|rw[wS (by omega) (by omega)]at hc|rw[Qab]at hc|skip);try (conv=>cbv))
     ·rw[decide_eq_false h2,Bool.and_false,Bool.false_and,Bool.false_or]at hnm;have hnm:=hnm false rfl
      conv=>cbv
      repeat' first|(refine ex _ _ _ ?_;(conv=>cbv))|(refine rt _ _ ?_;(conv=>cbv))|(left;intro(_:Unit);(conv=>cbv))|(intro(k:Int) hk;rw[wS (by omega) (by omega)]at hk;refine(λ(hz:i1=k)=> ?_) ?_;rotate_left;omega;subst hz;(conv=>cbv))|(refine hnm _ _ ?_;exact(Wk.ca))|exact gxQ|refine And.intro ?_ ?_|(intro hc;(first|rw[wS (by omega) (by omega)]at hc|rw[Qab]at hc|skip);try (conv=>cbv))
    ·rw[decide_eq_false h1,Bool.false_and,Bool.false_and,Bool.false_or]at hnm;have hnm:=hnm false rfl
     conv=>cbv
     repeat' first|(refine ex _ _ _ ?_;(conv=>cbv))|(refine rt _ _ ?_;(conv=>cbv))|(left;intro(_:Unit);(conv=>cbv))|(intro(k:Int) hk;rw[wS (by omega) (by omega)]at hk;refine(λ(hz:i1=k)=> ?_) ?_;rotate_left;omega;subst hz;(conv=>cbv))|(refine hnm _ _ ?_;exact(Wk.ca))|exact gxQ|refine And.intro ?_ ?_|(intro hc;(first|rw[wS (by omega) (by omega)]at hc|rw[Qab]at hc|skip);try (conv=>cbv))
 ·have hke:kk=l.length:=by omega
  subst hke;obtain rfl:=hfz fb hfb;clear norm hsi hpt hre htl hhd hen
  conv=>cbv
  repeat' first|(refine ex _ _ _ ?_;(conv=>cbv))|(refine rt _ _ ?_;(conv=>cbv))|exact hK _|exact gxQ|refine And.intro ?_ ?_|(intro hc;(first|rw[wS (by omega) (by omega)]at hc|rw[Qab]at hc|skip);try (conv=>cbv))
theorem QrY(P:Program)(hP:P=Tryz.prog)(c:C24)(pks:List Int)(m:Ar)(hT:Qbk m)(Λ:Len)(Λo:∀l,Λ l=(l.length:Int))(K:AV->Hp->Prop)(hK:∀m' tl,Qbk m'->K (bA true) (.am m'::tl))(l:List Rsl)(R:Rsl×Int×Nat)(hR0:R.2.1=0)(hRl:R.1∈l)
 (hpt:∀r∈l,QnM c.t c.fr r)(hll:l.length<=1000)(hpl:∀r∈l,r.path.length<=1000):
  vcC P Λ 1 (QfK 6 (afB QaP)) (LLM ⟨m,c.t.nodes,c.t.ov.map Qbq,c.t.links.map QaD,c.xs.map Qal,c.p.id,c.p.src,c.p.dst,c.p.flow,c.p.stack.map Qaf,c.p.hops,c.fr,pks.map QgY,QqA l,R.1.node,R.1.rs,Qav R.1.path,R.2.1,(R.2.2:Int)-1⟩ (λ_=>true) false) (PkD.hh ⟨m,c.t.nodes,c.t.ov.map Qbq,c.t.links.map QaD,c.xs.map Qal,c.p.id,c.p.src,c.p.dst,c.p.flow,c.p.stack.map Qaf,c.p.hops,c.fr,pks.map QgY,QqA l,R.1.node,R.1.rs,Qav R.1.path,R.2.1,(R.2.2:Int)-1⟩ (λ_=>true) false) (QwG QaP.res K):=by
 have htl:=λa=>Qe8 P hP c.t a
 have hhd:=λa=>Qkh P hP c.t a
 have hsi:=λa b=>QgP P hP a b
 have hK:=λtl=>hK m tl hT
 clear hP hT;obtain⟨⟨rn,rr,rpath⟩,er,cnt⟩:=R;simp only at hR0 hRl;subst hR0;obtain⟨t,xs,p,fr⟩:=c;obtain⟨id,src,dst,flow,st0,hops⟩:=p;simp only[QnM]at hpt;obtain⟨en,hene⟩:∃en:List Int->Int,∀l,QtR t fr l=en l:=⟨_,λ_=>rfl⟩;have hen:∀(p:List Int) (k:Nat) (a:Int),p[k]? =some a->en (p.take (k+1))=QbD t a:=λp k a h=>by rw[<-hene];exact Qon h
 have hen0:en []=fr:=by rw[<-hene];rfl
 simp only[hene]at hpt;clear hene;simp only[QaU,QqA,Qay,Qav,QaG,Qag,Qai]at*;generalize List.map Qal xs=xl at*;generalize t.ov.map Qbq=ol at*;generalize t.links.map QaD=ll at*;generalize t.nodes=nodes at*;generalize List.map Qaf st0=sl at*;generalize pks.map QgY=pl at*;generalize hre:l.map Qd9=rl at*;have hrll:Λ rl=l.length:=by rw[Λo,<-hre];simp
 have hsi:=λa=>hsi a rpath
 generalize rpath.map QaC=pa at*;generalize (cnt:Int)-1=cz at*;generalize hr0:(⟨rn,rr,rpath⟩:Rsl)=r0 at*;have hfz:∀b,b=decide (r0∈l.take l.length)->b=true:=λb h=>by rw[h,List.take_length];exact decide_eq_true hRl
 conv=>cbv
 repeat' first|exact gxQ|refine And.intro ?_ ?_|(intro hc;(first|rw[wS (by omega) (by omega)]at hc|rw[Qab]at hc|skip);try (conv=>cbv))
 refine QaT l.length (λ(x:Bool×Int)=>[(2,.c (.ptr 1 0 0 0)),(7,.c (.ptr 4 0 0 0)),(8,iA 0),(55,.c (.d (.list false 3 rl))),(56,iA (Λ rl)),(9,bA x.1),(57,iA x.2)])
  (λ_=>[.am m,.bx [.d (iD nodes),.d (.list false 1 ol),.d (.list false 7 ll),.d (.list false 3 xl),.d (iD id),.d (iD src),.d (iD dst),.d (iD flow),.d (.list false 2 sl),.d (iD hops),.d (iD fr)],.bx [.d (.list false 1 pl)],.bx [.d (iD cz)],.bx [.d (iD rn),.d (iD rr),.d (.list false 1 pa)]]) (λkk x=>x.2=kk/\kk<=l.length/\x.1=decide (r0∈l.take kk)) (false,0) (Wk.ca) ⟨rfl,by omega,by simp⟩ (λk s h=>h.2.1) ?_
 rintro kk ⟨fb,i⟩ Q' ⟨hi,hkk,hfb⟩ norm ex rt;simp only at hi hfb;by_cases hlt:kk<l.length
 ·obtain⟨x,hxk⟩:∃x,l[kk]? =some x:=⟨_,lgE hlt⟩;have hxm:=mgE hxk;obtain⟨hp1,hp2⟩:=hpt x hxm;have hpl:=hpl x hxm;have hel:=QdB hre hi hxk;have hsx:=hsi x.path;have hnx:decide (r0∈l.take (kk+1))=(fb||decide (x=r0)):=by
   rw[hfb,Qam hxk,Bool.eq_iff_iff,Bool.or_eq_true,decide_eq_true_eq,decide_eq_true_eq,decide_eq_true_eq,List.mem_append,List.mem_singleton];exact⟨λh=>h.imp (λh=>h) Eq.symm,λh=>h.imp (λh=>h) Eq.symm⟩
  obtain⟨xn,xr,xpath⟩:=x;simp only[Qd9,Qav]at hel hp1 hp2 hpl hsx;generalize hxpe:xpath.map QaC=xp at*;have hxpl:Λ xp=xpath.length:=by rw[Λo,<-hxpe];simp
  obtain⟨i1,hi1⟩:∃z:Int,z=((kk+1:Nat):Int):=⟨_,rfl⟩;obtain⟨pb,hpb⟩:∃pb,pb=decide (xpath=rpath):=⟨_,rfl⟩;rw[<-hpb]at hsx;have hnm:∀b,b=(fb||decide ((⟨xn,xr,xpath⟩:Rsl)=r0))->∀L' h',Wk 1 L' h' [(2,.c (.ptr 1 0 0 0)),(7,.c (.ptr 4 0 0 0)),(8,iA 0),(55,.c (.d (.list false 3 rl))),(56,iA (Λ rl)),(9,bA b),(57,iA i1)] [.am m,.bx [.d (iD nodes),.d (.list false 1 ol),.d (.list false 7 ll),.d (.list false 3 xl),.d (iD id),.d (iD src),.d (iD dst),.d (iD flow),.d (.list false 2 sl),.d (iD hops),.d (iD fr)],.bx [.d (.list false 1 pl)],.bx [.d (iD cz)],.bx [.d (iD rn),.d (iD rr),.d (.list false 1 pa)]]->Q' .normal L' h':=λb hb L' h' hw=>norm L' h' (b,i1) ⟨hi1,by omega,by rw[hb,hnx]⟩ hw
  have hdec:decide ((⟨xn,xr,xpath⟩:Rsl)=r0)=(decide (xn=rn)&&decide (xr=rr)&&pb):=by
   rw[<-hr0,hpb,Bool.eq_iff_iff];simp[and_assoc]
  rw[hdec]at hnm;clear norm hsi hpt hfz hnx hdec hfb hre
  conv=>cbv
  repeat' first|(refine ex _ _ _ ?_;(conv=>cbv))|(refine rt _ _ ?_;(conv=>cbv))|(left;intro(_:Unit);(conv=>cbv))|(intro(e:List D) he;cases osj (he.symm.trans hel);(conv=>cbv))|exact gxQ|refine And.intro ?_ ?_|(intro hc;(first|rw[wS (by omega) (by omega)]at hc|rw[Qab]at hc|skip);try (conv=>cbv))
  refine QbM xpath.length (λ(y:Int×Int)=>[(2,.c (.ptr 1 0 0 0)),(7,.c (.ptr 4 0 0 0)),(8,iA 0),(55,.c (.d (.list false 3 rl))),(56,iA (Λ rl)),(9,bA fb),(57,iA i),(11,.c (.ptr 5 0 0 0)),(12,iA y.1),(64,.c (.d (.list false 1 xp))),(65,iA (Λ xp)),(66,iA y.2)])
   (λ_=>[.am m,.bx [.d (iD nodes),.d (.list false 1 ol),.d (.list false 7 ll),.d (.list false 3 xl),.d (iD id),.d (iD src),.d (iD dst),.d (iD flow),.d (.list false 2 sl),.d (iD hops),.d (iD fr)],.bx [.d (.list false 1 pl)],.bx [.d (iD cz)],.bx [.d (iD rn),.d (iD rr),.d (.list false 1 pa)],.bx [.d (iD xn),.d (iD xr),.d (.list false 1 xp)]]) (λjj y=>y.2=jj/\jj<=xpath.length/\y.1=en (xpath.take jj)) (fr,0)
   2 (λ(_:Unit)=>[(2,.c (.ptr 1 0 0 0)),(7,.c (.ptr 4 0 0 0)),(8,iA 0),(55,.c (.d (.list false 3 rl))),(56,iA (Λ rl)),(9,bA fb),(57,iA i),(11,.c (.ptr 5 0 0 0)),(12,iA xn)]) (λ_=>[.am m,.bx [.d (iD nodes),.d (.list false 1 ol),.d (.list false 7 ll),.d (.list false 3 xl),.d (iD id),.d (iD src),.d (iD dst),.d (iD flow),.d (.list false 2 sl),.d (iD hops),.d (iD fr)],.bx [.d (.list false 1 pl)],.bx [.d (iD cz)],.bx [.d (iD rn),.d (iD rr),.d (.list false 1 pa)],.bx [.d (iD xn),.d (iD xr),.d (.list false 1 xp)]]) (λ_=>True) (Wk.ca) ⟨rfl,by omega,hen0.symm⟩ (λk s h=>h.2.1) ?_ ?_
  ·rintro jj ⟨nd,j⟩ Q2 ⟨hj,hjl,hnd⟩ norm2 jn2 ex2 rt2;simp only at hj hnd;clear hnm hsx;by_cases hlt2:jj<xpath.length
   ·obtain⟨a,hak⟩:∃a,xpath[jj]? =some a:=⟨_,lgE hlt2⟩;have hea:xp[j.toNat]? =some [iD a]:=by rw[<-hxpe,hj,Int.toNat_natCast,gtm,hak];rfl
    have hta:=htl a;rw[hp2 jj a hak,<-hnd]at hta;have hha:=hhd a;obtain⟨n1,hn1⟩:∃n1,n1=QbD t a:=⟨_,rfl⟩;rw[<-hn1]at hha;obtain⟨j1,hj1⟩:∃z:Int,z=((jj+1:Nat):Int):=⟨_,rfl⟩;have hnd1:n1=en (xpath.take (jj+1)):=by rw[hn1,hen _ _ _ hak]
    clear htl hhd hp2 hen jn2
    conv=>cbv
    repeat' first|(refine ex _ _ _ ?_;(conv=>cbv))|(refine rt _ _ ?_;(conv=>cbv))|(left;intro(_:Unit);(conv=>cbv))|(intro(e:List D) he;cases osj (he.symm.trans hea);(conv=>cbv))|(refine Qan hta rfl rfl ?_;conv=>cbv)|(refine Qan hha rfl rfl ?_;conv=>cbv)|(intro(k:Int) hk;rw[wS (by omega) (by omega)]at hk;refine(λ(hz:j1=k)=> ?_) ?_;rotate_left;omega;subst hz;(conv=>cbv))|exact gxQ|refine And.intro ?_ ?_|(intro hc;(first|rw[wS (by omega) (by omega)]at hc|rw[Qab]at hc|skip);try (conv=>cbv))
    all_goals (refine norm2 _ _ (n1,j1) ⟨hj1,by omega,hnd1⟩ (Wk.ca))
   ·have hjj:jj=xpath.length:=by omega
    rw[hjj,List.take_length,hp1]at hnd;subst hnd;clear htl hhd hp2 hen norm2
    conv=>cbv
    repeat' first|exact gxQ|refine And.intro ?_ ?_|(intro hc;(first|rw[wS (by omega) (by omega)]at hc|rw[Qab]at hc|skip);try (conv=>cbv))
    all_goals (refine jn2 _ _ () trivial (Wk.ca))
  ·rintro⟨⟩-
   clear htl hhd hp2 hen;cases fb with
   |true=>
    conv=>cbv
    repeat' first|(refine ex _ _ _ ?_;(conv=>cbv))|(refine rt _ _ ?_;(conv=>cbv))|(left;intro(_:Unit);(conv=>cbv))|(intro(k:Int) hk;rw[wS (by omega) (by omega)]at hk;refine(λ(hz:i1=k)=> ?_) ?_;rotate_left;omega;subst hz;(conv=>cbv))|(refine hnm true rfl _ _ ?_;exact(Wk.ca))|exact gxQ|refine And.intro ?_ ?_|(intro hc;(first|rw[wS (by omega) (by omega)]at hc|rw[Qab]at hc|skip);try (conv=>cbv))
   |false=>
    by_cases h1:xn=rn
    ·by_cases h2:xr=rr
     ·rw[decide_eq_true h1,decide_eq_true h2,Bool.true_and,Bool.true_and,Bool.false_or]at hnm;have hnm:=hnm pb rfl;clear hpb
      conv=>cbv
      repeat' first|(refine ex _ _ _ ?_;(conv=>cbv))|(refine rt _ _ ?_;(conv=>cbv))|(left;intro(_:Unit);(conv=>cbv))|(intro(k:Int) hk;rw[wS (by omega) (by omega)]at hk;refine(λ(hz:i1=k)=> ?_) ?_;rotate_left;omega;subst hz;(conv=>cbv))|(refine Qan hsx rfl rfl ?_;conv=>cbv)|(refine hnm _ _ ?_;exact(Wk.ca))|exact gxQ|refine And.intro ?_ ?_|(intro hc;(first|rw[wS (by omega) (by omega)]at hc|rw[Qab]at hc|skip);try (conv=>cbv))
     ·rw[decide_eq_false h2,Bool.and_false,Bool.false_and,Bool.false_or]at hnm;have hnm:=hnm false rfl
      conv=>cbv
      repeat' first|(refine ex _ _ _ ?_;(conv=>cbv))|(refine rt _ _ ?_;(conv=>cbv))|(left;intro(_:Unit);(conv=>cbv))|(intro(k:Int) hk;rw[wS (by omega) (by omega)]at hk;refine(λ(hz:i1=k)=> ?_) ?_;rotate_left;omega;subst hz;(conv=>cbv))|(refine hnm _ _ ?_;exact(Wk.ca))|exact gxQ|refine And.intro ?_ ?_|(intro hc;(first|rw[wS (by omega) (by omega)]at hc|rw[Qab]at hc|skip);try (conv=>cbv))
    ·rw[decide_eq_false h1,Bool.false_and,Bool.false_and,Bool.false_or]at hnm;have hnm:=hnm false rfl
     conv=>cbv
     repeat' first|(refine ex _ _ _ ?_;(conv=>cbv))|(refine rt _ _ ?_;(conv=>cbv))|(left;intro(_:Unit);(conv=>cbv))|(intro(k:Int) hk;rw[wS (by omega) (by omega)]at hk;refine(λ(hz:i1=k)=> ?_) ?_;rotate_left;omega;subst hz;(conv=>cbv))|(refine hnm _ _ ?_;exact(Wk.ca))|exact gxQ|refine And.intro ?_ ?_|(intro hc;(first|rw[wS (by omega) (by omega)]at hc|rw[Qab]at hc|skip);try (conv=>cbv))
 ·have hke:kk=l.length:=by omega
  subst hke;obtain rfl:=hfz fb hfb;clear norm hsi hpt hre htl hhd hen
  conv=>cbv
  repeat' first|(refine ex _ _ _ ?_;(conv=>cbv))|(refine rt _ _ ?_;(conv=>cbv))|exact hK _|exact gxQ|refine And.intro ?_ ?_|(intro hc;(first|rw[wS (by omega) (by omega)]at hc|rw[Qab]at hc|skip);try (conv=>cbv))
theorem Qtj:(match Tryz.f8.body with|some c=>QBg 5 c|none=>false)=true:=by kernel_rfl
theorem QvB:(match Tryz.f8.body with|some c=>masks (Qb2 (QcF 5 c)).toList []|none=>[])=QBa:=by kernel_rfl
theorem Qti:(match Tryz.f8.body with|some c=>QaQ Tryz.prog (Qb2 (QcF 5 c)) Tryz.f8.ntmps (Qb2 (QcF 5 c)).toList|none=>none)=some QBK:=by kernel_rfl
theorem QvA:QBK.all (gOk Tryz.f8.ntmps)=true:=by kernel_rfl
theorem Qtk(P:Program)(hP:P=Tryz.prog)(haw:Qjj P)(c:C24)(pks:List Int)(hpk:∀x∈pks,0<=x/\x<256)(hs:Qz2 c)(hi:InS c.p.stack)(m:Ar)(hT:Qbk m):
  FnS P Qev [QtB c,.c (.d (.list false 1 (pks.map QgY)))] [.am m] λr h'=>r=bA true/\∃m' tl,h'= .am m'::tl/\Qbk m':=by
 subst hP;obtain⟨cd,hb,hac,hres,hn⟩:=Qdu QhC;have hchk:=Qtj;have hms:=QvB;have hao:=Qti;rw[hb]at hchk hms hao;simp only[QBg,Bool.and_eq_true]at hchk hms hao;obtain⟨⟨k1,k2⟩,k3⟩:=hchk;have hΛ:∀l:List (List D),(λl:List (List D)=>(l.length:Int)) l=(l.length:Int):=λ_=>rfl
 have hUx:=λh:Sm24 c=>Sm24.ok (P:=Tryz.prog) rfl (c:=c) h hi
 refine QlE QgZ hb hres (by rw[<-hn];exact nle rfl) λG ι w a hf=> ?_
 refine QtD (Λ:=λl=>(l.length:Int)) hΛ (m:=1) mixed (Nat.le_refl _) 5 cd (afB QaP) (QpA 0 [QtB c,.c (.d (.list false 1 (pks.map QgY)))]) [.am m] a w k1 hac
  (Qtl Tryz.prog rfl haw c pks hs hi m hT _ hΛ _ (λm' tl h=>⟨rfl,m',tl,rfl,h⟩) (λL h=>∃m',Qbk m'/\∃hsm:Sm24 c,pks.length<=100/\∃l,Qi8 (gW c.t c.xs c.p) (Classical.choose (hUx hsm)).length (c.fr,c.p.stack) (Qas c.t c.xs c.fr)=(l,0)/\Wk 1 L h [(1,.c (.d (.list false 1 (pks.map QgY)))),(2,.c (.ptr 1 0 0 0)),(5,.c (.d (QqA l)))] [.am m',.bx [.d (iD c.t.nodes),.d (Qag c.t.ov),.d (Qai c.t.links),.d (.list false 3 (c.xs.map Qal)),.d (iD c.p.id),.d (iD c.p.src),.d (iD c.p.dst),.d (iD c.p.flow),.d (QaG c.p.stack),.d (iD c.p.hops),.d (iD c.fr)]]) (λh=>Classical.choose (hUx h)) (λh=>Classical.choose_spec (hUx h)) λm' h1 h2 h3 l hv L h h4=>⟨m',h1,h2,h3,l,hv,h4⟩) hf ?_
 rintro L h a1 w1 ⟨m1,hT1,hsm,hlen,l,hv,hwk⟩ hf1 hc3;have hf2:=hwk.fits (Nat.le_refl _) hf1;have hU:=Classical.choose_spec (hUx hsm);generalize Classical.choose (hUx hsm)=U at*;obtain⟨q1,q2,q3,q4,q5⟩:=Qpz Tryz.prog rfl c pks hpk hsm hi U hU l hv;have hone:=QBc Tryz.prog rfl c pks hpk hlen U m1 hT1 λh=>⟨(hU h).1,(hU h).2.2.st⟩
 obtain⟨id,c2,hce,hc4⟩:=QtN k2 hc3;rw[hce];refine wpIn_seq (QDo (c:=QcF 5 cd) (M:=1) (Nat.le_refl _) hms k3 hao QvA ⟨m1,c.t.nodes,c.t.ov.map Qbq,c.t.links.map QaD,c.xs.map Qal,c.p.id,c.p.src,c.p.dst,c.p.flow,c.p.stack.map Qaf,c.p.hops,c.fr,pks.map QgY,QqA l,(QoT c pks U).1.node,(QoT c pks U).1.rs,Qav (QoT c pks U).1.path,(QoT c pks U).2.1,((QoT c pks U).2.2:Int)-1⟩ hone hf2 λod a2 w2 hf3=> ?_);cases od with
 |true=>exact Qdg (Λ:=λl=>(l.length:Int)) hΛ (m:=1) mixed (Nat.le_refl _) c2 _ _ _ _ a2 w2 hc4 (QrZ Tryz.prog rfl c pks m1 hT1 _ hΛ _ (λm' tl h=>⟨rfl,m',tl,rfl,h⟩) l (QoT c pks U) q1 q2 q3 q4 q5) hf3
 |false=>exact Qdg (Λ:=λl=>(l.length:Int)) hΛ (m:=1) mixed (Nat.le_refl _) c2 _ _ _ _ a2 w2 hc4 (QrY Tryz.prog rfl c pks m1 hT1 _ hΛ _ (λm' tl h=>⟨rfl,m',tl,rfl,h⟩) l (QoT c pks U) q1 q2 q3 q4 q5) hf3
end Go.Ab
