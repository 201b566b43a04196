/-
  Merged texts, part z.
-/
import Derived.Test.YtohbofilgkdihaaGreatDoorZy
import Derived.RecoverIn
import Derived.WalkKit
set_option linter.all false
namespace Go.Proofs
set_option maxHeartbeats 2000000 in
set_option maxRecDepth 100000 in
theorem Tryz.ask_idle(v:Value)(w:World):CallsDIn Fence.wide 0 Tryz.prog 83 #[v] .returning w fun e u' w'=>e= .returned (.tuple #[])/\u'= .returning/\w'=w:=by
 refine callsDIn_of_wpSIn Tryz.func83 rfl trivial fun c₀ cs hu=> ?_
 apply wpSIn_seq;apply wpSIn_region;simp[wpOpsSIn,go_sem,recoverD,hu,Tryz.ntmps83,Exit.thenS];refine wpSIn_cond (t:=false) (by simp[Act.eval,Array.replicate]) ?_;simp only[Bool.false_eq_true,if_false];refine wpSIn_of_wpIn rfl (wpIn_skip ?_);cases c₀
 simp_all [bodyPostS,results,Tryz.results83]
end Go.Proofs
namespace Go.Ab
open Go.Proofs
section
variable{P:Program}{N:Nat}{G0:Nat->Prop}{ι0:Io}{h0:Hp}{w0:World}
theorem QtZ{ops:Array Oper}{Q:Exit->Act->World->Prop}{aos:List AO}(hall:QaT P ops N ops.toList=some aos)(k:Nat){d:Option Nat}{op:AOp}(hao:aos[k]? =some ⟨d,op,none⟩){e:Env}{h h':Hp}{av:AV}{a:Act}{w:World}{G:Nat->Prop}{ι:Io}(st:St N G0 ι0 h0 w0 G ι e h a w)(hd:a.defers=[])
 (hs:astep e h op=some (av,h'))(hQ:∀G' ι' a' w',a'.defers=[]->St N G0 ι0 h0 w0 G' ι' (Qcm e d av) h' a' w'->wpOpsIn (Fen none) 0 P ops Q (List.range' (k+1) (ops.size-(k+1))) a' w'):wpOpsIn (Fen none) 0 P ops Q (List.range' k (ops.size-k)) a w:=by
 refine Qm4 hall k hao st fun o ho hcO=> ?_
 obtain⟨hdd,hdN,hop,hgs⟩:=Qbd hcO;simp only at hdd hop;rw[hop]at hs;rw[hdd]at hQ;obtain⟨v',w',G',ι',hrun,k1,k2,k3⟩:=QeT st.rel hs;have hp:∀v,(a.put o.dst v).defers=[]:=fun v=>by cases o.dst<;>exact hd
 rcases hrun with hrun|⟨hrun,rfl⟩
 ·exact QdP (Qd3 hs) hrun (hQ _ _ _ _ (hp _) (st.step hdN k1 k2 k3))
 ·exact Qfy (Qd3 hs) hrun (hQ _ _ _ _ (hp _) (st.step hdN k1 k2 k3))
theorem QoG{ro:Option Nat}{ops:Array Oper}{m:Nat}(hm:h0.length<=m){Q:Exit->Act->World->Prop}{rest:List Nat}(ds:List Deferred):∀(os:List Oper) (aos:List AO) (k:Nat) (L:Lv) (h:Hp) (K:Lv->Hp->Prop) (a:Act) (w:World),
  (∀i o,os[i]? =some o->ops[k+i]? =some o)->QaT P ops N os=some aos->aos.all (gOk N)=true->Qii P m false aos L h K->Fits N G0 ι0 h0 w0 (lkL L) h a w->
  (∀L' h' a' w',K L' h'->Fits N G0 ι0 h0 w0 (lkL L') h' a' w'->wpOpsIn (Fen ro) 0 P ops Q rest (Qo3 a' ds) w')->wpOpsIn (Fen ro) 0 P ops Q (List.range' k os.length++rest) (Qo3 a ds) w:=by
 intro os;induction os with
 |nil=>
  intro aos k L h K a w _ hc _ hv hf hQ;simp only[QaT,osi]at hc;subst hc;exact hQ L h a w hv hf
 |cons o os ih=>
  intro aos k L h K a w hk hc hg hv hf hQ;simp only[QaT]at hc;split at hc
  ·rename_i ao l hao hl;cases hc;simp only[List.all_cons,Bool.and_eq_true]at hg;have hok:ops[k]? =some o:=by have:=hk 0 o rfl;simpa using this
   have hrest:∀L' h' a' w',Qii P m false l L' h' K->Fits N G0 ι0 h0 w0 (lkL L') h' a' w'->wpOpsIn (Fen ro) 0 P ops Q (List.range' (k+1) os.length++rest) (Qo3 a' ds) w':=fun L' h' a' w' hv' hf'=>
    ih l (k+1) L' h' K a' w' (fun i o' ho=>by have:=hk (i+1) o' (by simpa using ho);rw[show k+1+i=k+(i+1)by omega];exact this) hl hg.2 hv' hf' hQ
   simp only[List.length_cons,List.range'_succ,List.cons_append];rw[wpOpsIn_cons];unfold wpOpIn;simp only[hok];have ht:(Qo3 a ds).tmps=a.tmps:=rfl;rw[ht];obtain⟨G,ι,st⟩:=hf;obtain⟨hd,hdN,hop,hgs⟩:=Qbd hao;have hgN:=QeL hg.1;rcases hv with ⟨hgv,hv⟩|⟨hgv,hv⟩
   ·rw[QbB st.rel hgs hgv hgN];simp only[if_true];refine Qw6 _ (QgL hm hao hv ⟨G,ι,st⟩ fun L' v h' a' w' hk' hf'=> ?_);exact hrest _ _ _ _ hk' (by rw[QaQ];exact hf')
   ·rw[QbB st.rel hgs hgv hgN];simp only[Bool.false_eq_true,if_false];refine⟨fun f _=>Fen.fn ro f,?_⟩;rw[←Qez];refine hrest _ _ _ _ hv ⟨G,ι,?_⟩;rw[QaQ,hd];exact st.step hdN st.rel.hr (.tup #[] [] rfl (by simp)) (Ext.refl _ _ _ _)
  ·cases hc
theorem Qh4{fn:Func}{R:Ending->World->Prop}{G:Nat->Prop}{ι:Io}{e:Env}{h:Hp}(ds:List Deferred):∀(bs:List Nat) (a:Act) (w:World),bs.Nodup->(∀b∈bs,Mrk w0 G ι h w b)->Rel N G ι e h a w->Ext G0 ι0 h0 w0 G ι h w->
  (∀w2,Rel N G ι e h a w2->Ext G0 ι0 h0 w0 G ι h w2->LeavesInM Fence.wide 0 P fn a.tmps R ds .returning w2)->LeavesInM Fence.wide 0 P fn a.tmps R (bs.map mkD++ds) .returning w
 |[],a,w,_,_,hr,hx,hk=>hk w hr hx
 |b::bs,a,w,hn,hm,hr,hx,hk=>by
  obtain⟨h1,h2,h3,h4⟩:=hm b (by simp);rw[List.nodup_cons]at hn;have hs:∀c,G c\/owned ι h c->(w.putObj b (.deferred none)).heap[c]? =w.heap[c]? :=fun c hc=>World.putObj_heap_other fun e=>by
   subst e;exact hc.elim h3 h4
  have hz:w.heap.size<=(w.putObj b (.deferred none)).heap.size:=by rw[QeW];exact Nat.le_refl _
  refine⟨by simp,.inl ⟨b,_,rfl,run_takeDeferred h2,?_⟩⟩;refine Qh4 ds bs a _ hn.2 (fun c hc=> ?_) ⟨hr.hr.other hs hz,hr.size,fun i=>(hr.env i).other hs⟩ (hx.other hs hz (QdR _ _ _) fun c hc=>World.putObj_heap_other (by omega)) hk;obtain⟨k1,k2,k3,k4⟩:=hm c (by simp[hc]);have hne:b≠c:=fun e=>hn.1 (by rw[e];exact hc)
  exact⟨k1,(World.putObj_heap_other (by omega)).trans k2,k3,k4⟩
end
def QpL(k:Nat):Code->Bool
 | .seq (.region _ ops false) _=>match ops.toList with
  |[_,⟨none,.defer ⟨.value (.tmp j),ags,_⟩,_,_,_,none⟩]=>j==k&&ags.isEmpty
  |_=>false
 |_=>false
def QAa:Code->Bool
 | .ret=>true
 |_=>false
theorem Qvy{c:Code}(h:QAa c=true):c= .ret:=by
 cases c<;>first|rfl|cases h
theorem Qvc{k id:Nat}{ops:Array Oper}{d:Bool}{c2:Code}(h:QpL k (.seq (.region id ops d) c2)=true):ops.size=2/\∃o ts,ops[1]? =some o/\o.dst=none/\o.op= .defer ⟨.value (.tmp k),#[],ts⟩:=by
 cases d with
 |true=>cases h
 |false=>
  simp only[QpL]at h;split at h
  ·rename_i o1 j ags ts ty pos af e;simp only[Bool.and_eq_true,beq_iff_eq,Array.isEmpty_iff]at h;obtain⟨rfl,rfl⟩:=h;have hs:ops.size=2:=by rw[←Array.length_toList,e];rfl
   refine⟨hs,⟨none,.defer ⟨.value (.tmp j),#[],ts⟩,ty,pos,af,none⟩,ts,?_,rfl,rfl⟩;rw[←Array.getElem?_toList,e];rfl
  ·cases h
theorem QCe{fn:Func}{tmps:Array Value}{R:Ending->World->Prop}{v:Value}{w:World}(h:∃x,(results fn tmps).run Tryz.prog w= .ok x w/\R (.returned x) w):LeavesInM Fence.wide 0 Tryz.prog fn tmps R [{target:= .fn (.func QaV) #[v],args:= #[]}] .returning w:=by
 refine⟨by simp,.inr ⟨(fun h=>by cases h),_,_,QaV,#[v],rfl,?_,(fun _ _=>trivial),?_⟩⟩
 ·simp[go_sem]
 ·refine(Tryz.ask_idle v w).mono ?_;rintro e u' w' ⟨rfl,rfl,rfl⟩;exact h
def QwP(c:Code):Bool:=Qfn c&&Qfn (Qd4 1 c)&&Qfn (Qd4 2 c)&&QpL 9 (Qd4 1 c)&&QAa (Qd4 3 c)
theorem Qxy:(match Tryz.f50.body with|some c=>QwP c|none=>false)=true:=by kernel_rfl
abbrev Qzw:List AO:=QuN (QhQ 2 (afB QcH))
theorem Qxz{e:Env}{h:Hp}{i:Nat}{r:Int}(h1:e 8= .c (.ptr i 0 0 0))(h2:h[i]? =some (.bx [.d (iD r)])):Qsb e h QcH.res=some [iA r]:=by
 have:QcH.res=[(8,some none)]:=rfl;rw[this];simp[Qsb,h1,h2,rd]
section
variable(m:Ar)(k:Int)(pl:List (List D))(flow node r:Int)(l:List Int)
end
section
variable(m:Ar)(nd:Int)(ol kl xl:List (List D))(id src dst fl:Int)(sl:List (List D))(hp fr wr:Int)(flow node r:Int)(l:List Int)
theorem Qxx(hl:l.length<=1000000)(hc:FnS Tryz.prog Qaj [iA flow,iA node,QaC l,.c (.ptr 1 0 0 0),.c (.ptr 2 0 0 0),.c (.ptr 3 0 0 0),.c (.ptr 4 0 0 0)] [.am m,.bx [.d (iD 0)],.bx [.d (.bool true)],.bx [.d (iD nd),.d (.list false 1 ol),.d (.list false 7 kl),.d (.list false 3 xl),.d (iD id),.d (iD src),.d (iD dst),.d (iD fl),.d (.list false 2 sl),.d (iD hp),.d (iD fr)],.bx [.d (iD wr)]] fun q h'=>q=iA r/\h'=[.am m,.bx [.d (iD 1)],.bx [.d (.bool true)],.bx [.d (iD nd),.d (.list false 1 ol),.d (.list false 7 kl),.d (.list false 3 xl),.d (iD id),.d (iD src),.d (iD dst),.d (iD fl),.d (.list false 2 sl),.d (iD hp),.d (iD fr)],.bx [.d (iD wr)]])(Λ:Len):
  Qdj Tryz.prog Λ 5 false Qzw [(9,.c (.fn false QaV [.ptr 5 0 0 0])),(8,.c (.ptr 5 0 0 0)),(0,.c (.fn false Qaj [.ptr 1 0 0 0,.ptr 2 0 0 0,.ptr 3 0 0 0,.ptr 4 0 0 0])),(1,iA flow),(2,iA node),(3,QaC l)] [.am m,.bx [.d (iD 0)],.bx [.d (.bool true)],.bx [.d (iD nd),.d (.list false 1 ol),.d (.list false 7 kl),.d (.list false 3 xl),.d (iD id),.d (iD src),.d (iD dst),.d (iD fl),.d (.list false 2 sl),.d (iD hp),.d (iD fr)],.bx [.d (iD wr)],.bx [.d (iD 0)]] fun L h=>lkL L 8= .c (.ptr 5 0 0 0)/\h=[.am m,.bx [.d (iD 1)],.bx [.d (.bool true)],.bx [.d (iD nd),.d (.list false 1 ol),.d (.list false 7 kl),.d (.list false 3 xl),.d (iD id),.d (iD src),.d (iD dst),.d (iD fl),.d (.list false 2 sl),.d (iD hp),.d (iD fr)],.bx [.d (iD wr)],.bx [.d (iD r)]]:=by
 have hcl:=Qh2 Tryz.prog rfl l hl;have hfo:FnOk Tryz.prog Qaj:=⟨_,Qde,rfl,by decide⟩;simp only[QaC,Qav]at*;generalize l.map QaE=ll at*;generalize hP:Tryz.prog=P at*
 conv=>cbv
 repeat' first|(refine Qam hcl rfl rfl ?_;conv=>cbv)|exact hfo|(refine QdK [0,1,2,3,4] hc rfl rfl (by decide) (by repeat' first|exact trivial|refine And.intro ?_ ?_|rfl) rfl rfl ?_;rintro r1 hc' ⟨rfl,rfl⟩;(conv=>cbv))|exact⟨rfl,rfl⟩|exact gu|exact trivial|refine And.intro ?_ ?_|(intro hc;first|exact absurd hc (by decide)|(exfalso;omega)|((first|rw[wS (by omega) (by omega)]at hc|rw[Qab]at hc|skip);try (conv=>cbv)))|refine CallG.old ?_
end
theorem Qxw(P:Program)(hP:P=Tryz.prog)(m:Ar)(nd:Int)(ol kl xl:List (List D))(id src dst fl:Int)(sl:List (List D))(hp fr wr:Int)(flow node r:Int)(l:List Int)(hl:l.length<=1000000)(hc:FnS P Qaj [iA flow,iA node,QaC l,.c (.ptr 1 0 0 0),.c (.ptr 2 0 0 0),.c (.ptr 3 0 0 0),.c (.ptr 4 0 0 0)] [.am m,.bx [.d (iD 0)],.bx [.d (.bool true)],.bx [.d (iD nd),.d (.list false 1 ol),.d (.list false 7 kl),.d (.list false 3 xl),.d (iD id),.d (iD src),.d (iD dst),.d (iD fl),.d (.list false 2 sl),.d (iD hp),.d (iD fr)],.bx [.d (iD wr)]] fun q h'=>q=iA r/\h'=[.am m,.bx [.d (iD 1)],.bx [.d (.bool true)],.bx [.d (iD nd),.d (.list false 1 ol),.d (.list false 7 kl),.d (.list false 3 xl),.d (iD id),.d (iD src),.d (iD dst),.d (iD fl),.d (.list false 2 sl),.d (iD hp),.d (iD fr)],.bx [.d (iD wr)]]):
  FnS P Qlu [.c (.fn false Qaj [.ptr 1 0 0 0,.ptr 2 0 0 0,.ptr 3 0 0 0,.ptr 4 0 0 0]),iA flow,iA node,QaC l] [.am m,.bx [.d (iD 0)],.bx [.d (.bool true)],.bx [.d (iD nd),.d (.list false 1 ol),.d (.list false 7 kl),.d (.list false 3 xl),.d (iD id),.d (iD src),.d (iD dst),.d (iD fl),.d (.list false 2 sl),.d (iD hp),.d (iD fr)],.bx [.d (iD wr)]] fun q h'=>q=iA r/\h'=[.am m,.bx [.d (iD 1)],.bx [.d (.bool true)],.bx [.d (iD nd),.d (.list false 1 ol),.d (.list false 7 kl),.d (.list false 3 xl),.d (iD id),.d (iD src),.d (iD dst),.d (iD fl),.d (.list false 2 sl),.d (iD hp),.d (iD fr)],.bx [.d (iD wr)],.bx [.d (iD r)]]:=by
 subst hP;have hr3:=Qxx m nd ol kl xl id src dst fl sl hp fr wr flow node r l hl hc;obtain⟨c,hb,hac,hres,hnt⟩:=Qeb QrC;have hchk:=Qxy;rw[hb]at hchk;simp only[QwP,Bool.and_eq_true]at hchk;obtain⟨⟨⟨⟨k1,k2⟩,k3⟩,k4⟩,k5⟩:=hchk;have hΛ:∀x:List (List D),(fun x:List (List D)=>(x.length:Int)) x=(x.length:Int):=fun _=>rfl
 refine⟨fun G ι w vs hr hvs=> ?_⟩;refine .of QjY (Qdq QjY hb ?_);obtain⟨G1,ι1,st1⟩:=Qee (af:=QcH) (args:=[.c (.fn false Qaj [.ptr 1 0 0 0,.ptr 2 0 0 0,.ptr 3 0 0 0,.ptr 4 0 0 0]),iA flow,iA node,QaC l]) hnt (by rw[←hnt];exact nle rfl) hr hvs;obtain⟨id1,o1,c2,rfl,hall1,hg1,hc2⟩:=QhR k1 hac;have hs1:o1.size=1:=by have:=(Qay hall1).1;rw[Array.length_toList]at this;rw[this];rfl
 refine wpIn_seq (wpIn_region ?_);rw[List.range_eq_range'];refine QtZ hall1 0 rfl st1 rfl rfl fun G2 ι2 a2 w2 hd2 st2=> ?_
 rw[hs1];show c2.wpIn _ _ _ _ a2 w2;obtain⟨id2,o2,c3,rfl,hall2,hg2,hc3⟩:=QhR k2 hc2;refine wpIn_seq (wpIn_region ?_);rw[List.range_eq_range'];refine QtZ hall2 0 rfl st2 hd2 rfl fun G3 ι3 a3 w3 hd3 st3=> ?_
 obtain⟨hs2,o,ts,ho,hdst,hop⟩:=Qvc k4;refine Qm4 hall2 1 rfl st3 fun o' ho' _=> ?_
 rw[ho]at ho';cases ho';obtain⟨x,hv⟩:∃x,a3.tmps.getD 9 undef= .func (.func QaV) #[] #[x]:=by
  have h9:VR G3 w3 ι3 _ (a3.tmps.getD 9 undef) (.c (.fn false QaV [.ptr 5 0 0 0])):=st3.rel.env 9;revert h9;generalize a3.tmps.getD 9 undef=v9;intro h9;cases QdZ h9 with
  |fn _ _ _ vs9 _ hv9 hn9 _=>
   rw[hv9,Qh3 (by rfl)];obtain⟨x,hx⟩:∃x,vs9= #[x]:=by
    obtain⟨l9⟩:=vs9
    match l9,hn9 with
    |[x],_=>exact⟨x,rfl⟩
   exact⟨x,by rw[hx]⟩
 have hrun:(o.semAt (Fen none).round a3.eval).run Tryz.prog w3= .ok (.defer {target:= .fn (.func QaV) #[x],args:= #[]}) w3:=by
  have h9:a3.eval (.tmp 9)= .func (.func QaV) #[] #[x]:=hv;simp[Oper.semAt,Fen.round,hop,execOp,resolve,Deferred.ofValue,h9]
 refine⟨fun f _=>Fen.fn none f,?_⟩;rw[hrun,Oper.uponIn_defer,hdst,hs2,hd3];show c3.wpIn _ _ _ _ {a3 with defers:=[{target:= .fn (.func QaV) #[x],args:= #[]}]} w3;have he:({a3 with defers:=[{target:= .fn (.func QaV) #[x],args:= #[]}]}:Act)=Qo3 a3 [{target:= .fn (.func QaV) #[x],args:= #[]}]:=by rw[Qo3,hd3];rfl
 rw[he];obtain⟨id3,o3,c4,rfl,hall3,hg3,-⟩:=QhR k3 hc3;obtain rfl:=Qvy k5;refine wpIn_seq (wpIn_region ?_);rw[List.range_eq_range'];rw[show List.range' 0 o3.size=List.range' 0 o3.toList.length++[]by rw[List.append_nil,Array.length_toList]];refine QoG (ro:=none) (m:=5) (rest:=[]) (Nat.le_refl _) [{target:= .fn (.func QaV) #[x],args:= #[]}] o3.toList Qzw 0 [(9,.c (.fn false QaV [.ptr 5 0 0 0])),(8,.c (.ptr 5 0 0 0)),(0,.c (.fn false Qaj [.ptr 1 0 0 0,.ptr 2 0 0 0,.ptr 3 0 0 0,.ptr 4 0 0 0])),(1,iA flow),(2,iA node),(3,QaC l)] _ _ a3 w3 (ops:=o3) (fun i o hi=>by rw[Nat.zero_add,←Array.getElem?_toList];exact hi) hall3 hg3 (Qdp hΛ (hr3 _)) ⟨G3,ι3,st3⟩ (fun L' h' a' w' hq hfit=> ?_);obtain⟨e1,rfl⟩:=hq;obtain⟨G4,ι4,st4⟩:=hfit;obtain⟨bs,e,hn,hmk⟩:=st4.dfr;refine wpIn_ret ?_;show LeavesInM Fence.wide 0 Tryz.prog _ a'.tmps _ (a'.defers++[_]) .returning w';rw[e];refine Qh4 [_] bs a' w' hn hmk st4.rel st4.ext fun w5 rel ext=>QCe ?_
 obtain⟨us,q1,q2⟩:=Qdz (P:=Tryz.prog) (af:=QcH) (vs:=[iA r]) hres rel.hr rel.env (Qxz e1 rfl);exact⟨_,q1,_,pack [iA r],G4,ι4,_,rfl,⟨rfl,rfl⟩,rel.hr,Qeq q2,ext⟩
abbrev BA (m:Ar) (c:C24) (wr:Int) (z:Int):Hp:=[.am m,.bx [.d (iD z)],.bx [.d (.bool true)],.bx [.d (iD c.t.nodes),.d (Qag c.t.ov),.d (Qai c.t.links),.d (.list false 3 (c.xs.map Qal)),.d (iD c.p.id),.d (iD c.p.src),.d (iD c.p.dst),.d (iD c.p.flow),.d (QaK c.p.stack),.d (iD c.p.hops),.d (iD c.fr)],.bx [.d (iD wr)]]
def QiC(wr:Int)(n:Nat):Int:=if 0<=wr/\wr<n then n else wr
theorem Qsz(wr:Int)(n:Nat):¬(0<=QiC wr n/\QiC wr n<n):=by
 unfold QiC;split<;>omega
theorem QuZ(P:Program)(hP:P=Tryz.prog)(m:Ar)(c:C24)(wr:Int)(ar:List Int)(ha:ar≠[])(hal:ar.length<=1000)(htl:∀a∈ar,Qa6 c.t a=c.fr):
  FnS P Qaj [iA c.p.flow,iA c.fr,QaC ar,.c (.ptr 1 0 0 0),.c (.ptr 2 0 0 0),.c (.ptr 3 0 0 0),.c (.ptr 4 0 0 0)] (BA m c wr 0) fun q h'=>q=iA (QiC wr ar.length)/\h'=BA m c wr 1:=by
 have htail:=fun a=>QfJ P hP c.t a
 refine QaH (hP▸mixed) (hP▸Qde) (hP▸Qgs) (nle rfl) fun Λ Λo Q hQ=> ?_
 clear hP;have fin:=hQ _ _ ⟨rfl,rfl⟩;clear hQ;have hlen:0<ar.length:=List.length_pos_iff.2 ha;obtain⟨t,xs,p,fr⟩:=c;obtain⟨id,src,dst,flow,st0,hops⟩:=p;simp only[BA,QaP,QaC,Qav,QaK,Qag,Qai]at*;generalize hxl:List.map Qal xs=xl at*;generalize hol:t.ov.map Qbq=ol at*;generalize hll:t.links.map QaF=ll at*;generalize htn:t.nodes=nodes at*;generalize hs0:List.map Qaf st0=s0 at*;generalize hae:ar.map QaE=al at*;have n1:Λ al=ar.length:=by rw[Λo,←hae];simp
 obtain⟨z1,hz1⟩:∃z1:Int,z1=1:=⟨_,rfl⟩;rw[←hz1]at fin
 conv=>cbv
 repeat' first|(intro(k:Int) hk;rw[wS (by omega) (by omega)]at hk;refine(fun(hz:z1=k)=> ?_) ?_;rotate_left;omega;subst hz;(conv=>cbv))|exact gu|exact trivial|refine And.intro ?_ ?_|(intro hc;first|exact absurd hc (by decide)|(exfalso;omega)|((first|rw[wS (by omega) (by omega)]at hc|rw[Qab]at hc|skip);try (conv=>cbv)))|refine CallG.old ?_
 refine QbX ar.length (fun(i:Int)=>[(1,iA fr),(2,.c (.d (.list false 1 al))),(4,.c (.ptr 2 0 0 0)),(5,.c (.ptr 3 0 0 0)),(6,.c (.ptr 4 0 0 0)),(38,.c (.d (.list false 1 al))),(39,iA (Λ al)),(40,iA i)])
  (fun _=>[.am m,.bx [.d (iD z1)],.bx [.d (.bool true)],.bx [.d (iD nodes),.d (.list false 1 ol),.d (.list false 7 ll),.d (.list false 3 xl),.d (iD id),.d (iD src),.d (iD dst),.d (iD flow),.d (.list false 2 s0),.d (iD hops),.d (iD fr)],.bx [.d (iD wr)]]) (fun k i=>i=k/\k<=ar.length) 0
  0 (fun(_:Unit)=>[(2,.c (.d (.list false 1 al))),(6,.c (.ptr 4 0 0 0))]) (fun _=>[.am m,.bx [.d (iD z1)],.bx [.d (.bool true)],.bx [.d (iD nodes),.d (.list false 1 ol),.d (.list false 7 ll),.d (.list false 3 xl),.d (iD id),.d (iD src),.d (iD dst),.d (iD flow),.d (.list false 2 s0),.d (iD hops),.d (iD fr)],.bx [.d (iD wr)]]) (fun _=>True) (Wk.ca) ⟨rfl,by omega⟩ (fun k s h=>h.2) ?_ ?_
 ·rintro kk i Q' ⟨hi,hkk⟩ norm jn ex rt;by_cases hlt:kk<ar.length
  ·obtain⟨a,hak⟩:∃a,ar[kk]? =some a:=⟨_,lgE hlt⟩;have hel:al[i.toNat]? =some [iD a]:=by rw[←hae,hi,Int.toNat_natCast,gtm,hak];rfl
   have ht1:=htail a;rw[htl a (mgE hak)]at ht1;obtain⟨i1,hi1⟩:∃z:Int,z=((kk+1:Nat):Int):=⟨_,rfl⟩;clear htail htl fin jn
   conv=>cbv
   repeat' first|(refine ex _ _ _ ?_;(conv=>cbv))|(refine rt _ _ ?_;(conv=>cbv))|(intro(e:List D) he;cases osj (he.symm.trans hel);(conv=>cbv))|(refine Qam ht1 rfl rfl ?_;conv=>cbv)|(intro(k:Int) hk;rw[wS (by omega) (by omega)]at hk;refine(fun(hz:i1=k)=> ?_) ?_;rotate_left;omega;subst hz;(conv=>cbv))|exact gu|exact trivial|refine And.intro ?_ ?_|(intro hc;first|exact absurd hc (by decide)|(exfalso;omega)|((first|rw[wS (by omega) (by omega)]at hc|rw[Qab]at hc|skip);try (conv=>cbv)))|refine CallG.old ?_
   all_goals (refine norm _ _ i1 ⟨hi1,by omega⟩ (Wk.ca))
  ·clear htail htl fin norm
   conv=>cbv
   repeat' first|exact gu|exact trivial|refine And.intro ?_ ?_|(intro hc;first|exact absurd hc (by decide)|(exfalso;omega)|((first|rw[wS (by omega) (by omega)]at hc|rw[Qab]at hc|skip);try (conv=>cbv)))|refine CallG.old ?_
   all_goals (refine jn _ _ () trivial (Wk.ca))
 ·rintro⟨⟩-
  clear htail htl;by_cases hw:0<=wr/\wr<ar.length
  ·rw[QiC,if_pos hw]at fin;obtain⟨nn,hnn⟩:∃nn:Int,nn=ar.length:=⟨_,rfl⟩;rw[←hnn]at fin n1;rw[←n1]at fin
   conv=>cbv
   repeat' first|exact fin|exact gu|exact trivial|refine And.intro ?_ ?_|(intro hc;first|exact absurd hc (by decide)|(exfalso;omega)|((first|rw[wS (by omega) (by omega)]at hc|rw[Qab]at hc|skip);try (conv=>cbv)))|refine CallG.old ?_
  ·rw[QiC,if_neg hw]at fin
   conv=>cbv
   repeat' first|exact fin|exact gu|exact trivial|refine And.intro ?_ ?_|(intro hc;first|exact absurd hc (by decide)|(exfalso;omega)|((first|rw[wS (by omega) (by omega)]at hc|rw[Qab]at hc|skip);try (conv=>cbv)))|refine CallG.old ?_
theorem Qyo(P:Program)(hP:P=Tryz.prog)(t:Top)(xs:List Tab)(p:Pkt)(from_:Int):Ret P Qdl [QaP t,Qbt xs,QbC p,iA from_,.c (.d .nilf)] (.tup [.agg [.d (iD 0),.d (iD 0),.d (.list false 1 [])],iA 1]):=by
 have hck:=QkE P hP t xs from_;refine Qah (hP▸mixed) (hP▸QjX) (hP▸Qlh) (nle rfl) fun Λ Λo K hK=> ?_
 clear hP;generalize QaB t xs from_=e at*;obtain⟨id,src,dst,flow,st0,hops⟩:=p;simp only[QaP,Qbt,QbC,QaK,Qag,Qai]at*;generalize List.map Qal xs=xl at*;generalize t.ov.map Qbq=ol at*;generalize t.links.map QaF=ll at*;generalize t.nodes=nodes at*;generalize List.map Qaf st0=s0 at*
 conv=>cbv
 repeat' first|(left;intro(_:Unit);(conv=>cbv))|(refine Qam hck rfl rfl ?_;conv=>cbv)|exact hK|exact gu|exact trivial|refine And.intro ?_ ?_|(intro hc;first|exact absurd hc (by decide)|(exfalso;omega)|((first|rw[wS (by omega) (by omega)]at hc|rw[Qab]at hc|skip);try (conv=>cbv)))|refine CallG.old ?_
theorem Qv0(P:Program)(hP:P=Tryz.prog)(c:C24)(wr:Int)(g:Wlk)(U:List WSt)(m:Ar)(hT:Qbo m)(h0:QaB c.t c.xs c.fr=0)(hUK:UOK P c.t c.xs c.p g U)(hst:(c.fr,c.p.stack)∈U)(htl:∀a∈g.ar (c.fr,c.p.stack),Qa6 c.t a=c.fr):
  FnS P Qdl [QaP c.t,Qbt c.xs,QbC c.p,iA c.fr,.c (.fn false Qaj [.ptr 1 0 0 0,.ptr 2 0 0 0,.ptr 3 0 0 0,.ptr 4 0 0 0])] (BA m c wr 0) fun r h'=>(g.ar (c.fr,c.p.stack)=[]/\(∃x y,r= .tup [.agg [.d (iD x),.d (iD y),.d (.list true 1 [])],iA 0])/\∃tl,h'=BA m c wr 0++tl)\/
   (g.ar (c.fr,c.p.stack)≠[]/\(∃x y,r= .tup [.agg [.d (iD x),.d (iD y),.d (.list true 1 [])],iA 2])/\∃tl,h'=BA m c wr 1++tl):=by
 have hck:=QkE P hP c.t c.xs c.fr;rw[h0]at hck;obtain⟨x,nst,nhp,hstp⟩:=hUK.st _ hst;have hask:=fun(ha:g.ar (c.fr,c.p.stack)≠[])=>Qxw P hP m c.t.nodes (c.t.ov.map Qbq) (c.t.links.map QaF) (c.xs.map Qal) c.p.id c.p.src c.p.dst c.p.flow (c.p.stack.map Qaf) c.p.hops c.fr wr c.p.flow c.fr (QiC wr (g.ar (c.fr,c.p.stack)).length) (g.ar (c.fr,c.p.stack)) (by have:=hstp.len;omega) (QuZ P hP m c wr _ ha hstp.len htl)
 have hbad:=Qsz wr (g.ar (c.fr,c.p.stack)).length;have hnk:=hUK.nm _ hst;have hnm:=QpR P hP m hT c.fr c.p.stack hnk.n hnk.l hnk.i;refine QaH (hP▸mixed) (hP▸QjX) (hP▸Qlh) (nle rfl) fun Λ Λo Q hQ=> ?_
 clear hP h0 htl hnk;obtain⟨t,xs,p,fr⟩:=c;obtain⟨id,src,dst,flow,st0,hops⟩:=p;have hxa:(List.map Qal xs)[fr.toNat]? =some (Qal x):=by rw[gtm,hstp.at_];rfl
 have hg1:fr.toNat<xs.length:=Qaa hstp.at_;have hn1:0<=fr:=hstp.nn;have hxn:fr<(xs.length:Int):=by clear hbad;omega
 have hΛx:Λ (List.map Qal xs)=xs.length:=by rw[Λo];simp
 have hnn:0<=fr:=hstp.nn;have hstep:=hstp.stp;have hal:=hstp.len;clear hstp hUK hst;obtain⟨xnode,xto,xdown⟩:=x;simp only[BA,QaP,Qbt,Qlb,QbC,QcA,QaK,Qag,Qai,QaC,Qav,QdX,Qal]at*;generalize hgar:g.ar (fr,st0)=ar at*;generalize hgrs:g.rs (fr,st0)=rs at*;generalize hw:QiC wr ar.length=wv at*;generalize hxl:List.map Qal xs=xl at*;generalize hol:t.ov.map Qbq=ol at*;generalize hll:t.links.map QaF=ll at*;generalize htn:t.nodes=nodes at*;generalize nameS fr (List.map pr2 st0)=key at*;generalize hs0:List.map Qaf st0=s0 at*;generalize List.map Qaf nst=nsl at*;generalize List.map Qau xto=tol at*;generalize List.map QaE xdown=dol at*;generalize harlh:List.map QaE ar=arl at*;have hΛa:Λ arl=ar.length:=by rw[Λo,←harlh];simp
 have k0:ar=[]->∀x y tl,Q (.tup [.agg [.d (iD x),.d (iD y),.d (.list true 1 [])],iA 0]) (.am m:: .bx [.d (iD 0)]:: .bx [.d (.bool true)]:: .bx [.d (iD nodes),.d (.list false 1 ol),.d (.list false 7 ll),.d (.list false 3 xl),.d (iD id),.d (iD src),.d (iD dst),.d (iD flow),.d (.list false 2 s0),.d (iD hops),.d (iD fr)]:: .bx [.d (iD wr)]::tl):=fun h x y tl=>hQ _ _ (.inl ⟨h,⟨x,y,rfl⟩,tl,rfl⟩)
 have k1:ar≠[]->∀x y tl,Q (.tup [.agg [.d (iD x),.d (iD y),.d (.list true 1 [])],iA 2]) (.am m:: .bx [.d (iD 1)]:: .bx [.d (.bool true)]:: .bx [.d (iD nodes),.d (.list false 1 ol),.d (.list false 7 ll),.d (.list false 3 xl),.d (iD id),.d (iD src),.d (iD dst),.d (iD flow),.d (.list false 2 s0),.d (iD hops),.d (iD fr)]:: .bx [.d (iD wr)]::tl):=fun h x y tl=>hQ _ _ (.inr ⟨h,⟨x,y,rfl⟩,tl,rfl⟩)
 clear hQ
 conv=>cbv
 repeat' first|(left;intro(_:Unit);(conv=>cbv))|(refine Qam hck rfl rfl ?_;conv=>cbv)|exact gu|exact trivial|refine And.intro ?_ ?_|(intro hc;first|exact absurd hc (by decide)|(exfalso;omega)|((first|rw[wS (by omega) (by omega)]at hc|rw[Qab]at hc|skip);try (conv=>cbv)))|refine CallG.old ?_
 refine QaU 0 (fun(_:Unit)=>[(1,.c (.d (.list false 3 xl))),(4,.c (.fn false Qaj [.ptr 1 0 0 0,.ptr 2 0 0 0,.ptr 3 0 0 0,.ptr 4 0 0 0])),(5,.c (.ptr 5 0 0 0)),(7,.c (.ptr 6 0 0 0)),(10,.c (.ptr 7 0 0 0)),(13,.c (.ptr 8 0 0 0)),(14,.c (.mp 9))])
  (fun _=>[.am m,.bx [.d (iD 0)],.bx [.d (.bool true)],.bx [.d (iD nodes),.d (.list false 1 ol),.d (.list false 7 ll),.d (.list false 3 xl),.d (iD id),.d (iD src),.d (iD dst),.d (iD flow),.d (.list false 2 s0),.d (iD hops),.d (iD fr)],.bx [.d (iD wr)],.bx [.d (iD nodes),.d (.list false 1 ol),.d (.list false 7 ll)],.bx [.d (iD id),.d (iD src),.d (iD dst),.d (iD flow),.d (.list false 2 s0),.d (iD hops)],.bx [.d (iD 0),.d (iD 0),.d (.list true 1 [])],.bx [.d (iD fr),.d (iD 0),.d (.list true 1 [])],.mp 0 []]) (fun kk _=>kk=0) () (Wk.ca) rfl (fun k s h=>by omega) ?_
 rintro kk ⟨⟩ Q'-norm ex rt;clear norm;have hms:([]:Ssc).map Qhz=[]:=rfl;by_cases h0:ar=[]
 ·have k0:=k0 h0;have hΛ0:Λ arl=0:=by rw[hΛa,h0];rfl
  clear k1 hask
  conv=>cbv
  repeat' first|(refine ex _ _ _ ?_;(conv=>cbv))|(refine rt _ _ ?_;(conv=>cbv))|(left;intro(_:Unit);(conv=>cbv))|(refine Qaz [0] hnm rfl rfl (by decide) ⟨rfl,trivial⟩ rfl rfl ?_;rintro r hc' ⟨rfl,rfl⟩;(conv=>cbv))|(refine Qhk hms (fun h0=> ?_) (fun i v hv=>by cases hv);(conv=>cbv))|(refine Qi8 hms (fun h0 es' he'=> ?_) (fun i v hv=>by cases hv);(conv=>cbv))|(intro(e:List D) he;cases osj (he.symm.trans hxa);(conv=>cbv))|(refine Qam hstep rfl rfl ?_;conv=>cbv)|exact k0 _ _ _|exact gu|exact trivial|refine And.intro ?_ ?_|(intro hc;first|exact absurd hc (by decide)|(exfalso;omega)|((first|rw[wS (by omega) (by omega)]at hc|rw[Qab]at hc|skip);try (conv=>cbv)))|refine CallG.old ?_
 ·have k1:=k1 h0;have hask:=hask h0;have hlen:0<ar.length:=List.length_pos_iff.2 h0;clear k0
  conv=>cbv
  repeat' first|(refine ex _ _ _ ?_;(conv=>cbv))|(refine rt _ _ ?_;(conv=>cbv))|(left;intro(_:Unit);(conv=>cbv))|(refine Qaz [0] hnm rfl rfl (by decide) ⟨rfl,trivial⟩ rfl rfl ?_;rintro r hc' ⟨rfl,rfl⟩;(conv=>cbv))|(refine Qhk hms (fun h0=> ?_) (fun i v hv=>by cases hv);(conv=>cbv))|(refine Qi8 hms (fun h0 es' he'=> ?_) (fun i v hv=>by cases hv);(conv=>cbv))|(intro(e:List D) he;cases osj (he.symm.trans hxa);(conv=>cbv))|(refine Qam hstep rfl rfl ?_;conv=>cbv)|(refine Qaz [0,1,2,3,4] hask rfl rfl (by decide) (by repeat' first|exact trivial|refine And.intro ?_ ?_|rfl) rfl rfl ?_;rintro r hc' ⟨rfl,rfl⟩;(conv=>cbv))|exact k1 _ _ _|exact gu|exact trivial|refine And.intro ?_ ?_|(intro hc;first|exact absurd hc (by decide)|(exfalso;omega)|((first|rw[wS (by omega) (by omega)]at hc|rw[Qab]at hc|skip);try (conv=>cbv)))|refine CallG.old ?_
theorem Qyn(P:Program)(hP:P=Tryz.prog)(c:C24)(wr:Int)(g:Wlk)(U:List WSt)(m:Ar)(hT:Qbo m)(h0:QaB c.t c.xs c.fr=0)(hUK:UOK P c.t c.xs c.p g U)(hst:(c.fr,c.p.stack)∈U)(htl:∀a∈g.ar (c.fr,c.p.stack),Qa6 c.t a=c.fr):
  FnS P Qdl [QaP c.t,Qbt c.xs,QbC c.p,iA c.fr,.c (.fn false Qaj [.ptr 1 0 0 0,.ptr 2 0 0 0,.ptr 3 0 0 0,.ptr 4 0 0 0])] (BA m c wr 0) fun r h'=>∃x y z e,r= .tup [.agg [.d (iD x),.d (iD y),.d (.list true 1 [])],iA e]/\h'=BA m c wr z/\((z=0/\e=0)\/(z=1/\e=2)):=by
 have h1:FnS P Qdl [QaP c.t,Qbt c.xs,QbC c.p,iA c.fr,.c (.fn false Qaj [.ptr 1 0 0 0,.ptr 2 0 0 0,.ptr 3 0 0 0,.ptr 4 0 0 0])] (BA m c wr 0) fun r h'=>∃x y z e tl,r= .tup [.agg [.d (iD x),.d (iD y),.d (.list true 1 [])],iA e]/\h'=BA m c wr z++tl/\((z=0/\e=0)\/(z=1/\e=2)):=by
  refine FnS.mono (Qv0 P hP c wr g U m hT h0 hUK hst htl) fun r h' hr=> ?_
  rcases hr with ⟨-,⟨x,y,rfl⟩,tl,rfl⟩|⟨-,⟨x,y,rfl⟩,tl,rfl⟩
  ·exact⟨x,y,0,0,tl,rfl,rfl,.inl ⟨rfl,rfl⟩⟩
  ·exact⟨x,y,1,2,tl,rfl,rfl,.inr ⟨rfl,rfl⟩⟩
 refine FnS.mono (FnS.cut2 h1 fun r h' hr=> ?_) fun r h' hr=> ?_
 ·obtain⟨x,y,z,e,tl,rfl,rfl,-⟩:=hr;exact⟨_,_,rfl,rfl,rfl,rfl⟩
 ·obtain⟨h2,⟨x,y,z,e,tl,h3,h4,h6⟩,h5⟩:=hr;refine⟨x,y,z,e,h3,?_,h6⟩;have:=congrArg (List.take 5) h4;have h5:h'.length=5:=h5;rw[List.take_left' h5]at this;exact this
theorem QtK(P:Program)(hP:P=Tryz.prog)(c:C24)(hs:Qzp c)(hi:InS c.p.stack):FnS P QeP [Qu4 c] [] fun r h'=>(∃b,r=bA b/\(b=false->Sm24 c))/\h'=[]:=by
 refine FnS.mono (FnS.cut (QvK P hP c hs hi) fun r h' hr=> ?_) fun r h' hr=> ?_
 ·obtain⟨_,b,rfl,-⟩:=hr;exact⟨rfl,rfl⟩
 ·obtain⟨h2,⟨_,h3⟩,h4⟩:=hr;exact⟨h3,List.eq_nil_of_length_eq_zero h4⟩
theorem QsT(P:Program)(haw:QlQ P)(m:Ar)(hT:Qbo m):FnS P Qcx [] [.am m] fun r h'=>∃m',h'=[.am m']/\Qbo m'/\r=bA true:=
 QBa (R:=fun r m'=>Qbo m'/\r=bA true) ((haw m hT).mono fun r h' ⟨e,m',tl,e2,h⟩=>⟨m',tl,e2,h,e⟩) fun r m' ⟨_,e⟩=>by subst e;exact⟨fun _=>rfl,rfl⟩
theorem QsS(P:Program)(hP:P=Tryz.prog)(haw:QlQ P)(c:C24)(wr:Int)(hs:Qzp c)(hi:InS c.p.stack)(m:Ar)(hT:Qbo m):FnS P Qel [Qu4 c,iA wr] [.am m] fun r h'=>r=bA true/\∃m' tl,h'= .am m'::tl/\Qbo m':=by
 have hlg:=QtK P hP c hs hi;have haw:=QsT P haw m hT;have hco:=QoE P hP c.t c.xs;have hn:=Qyo P hP c.t c.xs c.p c.fr;have hone:∀m,Qbo m->Sm24 c->QaB c.t c.xs c.fr=0->FnS P Qdl [QaP c.t,Qbt c.xs,QbC c.p,iA c.fr,.c (.fn false Qaj [.ptr 1 0 0 0,.ptr 2 0 0 0,.ptr 3 0 0 0,.ptr 4 0 0 0])] (BA m c wr 0) fun r h'=>∃x y z e,r= .tup [.agg [.d (iD x),.d (iD y),.d (.list true 1 [])],iA e]/\h'=BA m c wr z/\((z=0/\e=0)\/(z=1/\e=2)):=fun m hT hsm h0=>by
  obtain⟨U,hU⟩:=Sm24.ok (P:=P) hP (c:=c) hsm hi;obtain⟨k1,k2,k3⟩:=hU h0;have hcr:Qcu c.t c.xs=true/\0<=c.fr/\c.fr<c.t.nodes:=by
   unfold QaB at h0;split at h0
   ·rename_i hc;split at h0
    ·rename_i hr;exact⟨hc,hr⟩
    ·cases h0
   ·cases h0
  exact Qyn P hP c wr (gW c.t c.xs c.p) U m hT h0 k1 k3.st fun a ha=>Qwp hcr.1 hsm.tb (s:=(c.fr,c.p.stack)) ⟨hcr.2.1,hcr.2.2,hsm.st,hi⟩ ha
 refine QaH (hP▸mixed) (hP▸QgM) (hP▸Qhr) (nle rfl) fun Λ Λo Q hQ=> ?_
 clear hP;have fin:=fun m' tl hT=>hQ (bA true) (.am m'::tl) ⟨rfl,m',tl,rfl,hT⟩
 clear hQ;by_cases hgood:Sm24 c/\QaB c.t c.xs c.fr=0
 ·obtain⟨hsm,h0⟩:=hgood;have hon2:=fun m hT=>hone m hT hsm h0
  clear hone;have hcr:Qcu c.t c.xs=true/\0<=c.fr/\c.fr<c.t.nodes:=by
   unfold QaB at h0;split at h0
   ·rename_i hc;split at h0
    ·rename_i hr;exact⟨hc,hr⟩
    ·cases h0
   ·cases h0
  obtain⟨hcb,hfr⟩:=hcr;rw[hcb]at hco;clear hcb h0 hs hi;generalize hsmc:Sm24 c=sm at*;clear hsmc hsm;obtain⟨t,xs,p,fr⟩:=c;obtain⟨id,src,dst,flow,st0,hops⟩:=p;simp only[Qu4,BA,QaP,Qbt,QbC,QaK,Qag,Qai]at*;generalize List.map Qal xs=xl at*;generalize t.ov.map Qbq=ol at*;generalize t.links.map QaF=ll at*;generalize t.nodes=nodes at*;generalize List.map Qaf st0=sl at*
  conv=>cbv
  repeat' first|(left;intro(_:Unit);(conv=>cbv))|(refine Qaz [0] haw rfl rfl (by decide) (by repeat' first|exact trivial|refine And.intro ?_ ?_|rfl) rfl rfl ?_;rintro r hc' ⟨m1,rfl,hT1,rfl⟩;have hon2:=hon2 m1 hT1;(conv=>cbv))|(refine Qaz [] hlg rfl rfl (by decide) trivial rfl rfl ?_;rintro r hc' ⟨⟨b,rfl,-⟩,rfl⟩;cases b<;>(conv=>cbv))|exact fin _ _ (by assumption)|(refine Qam hco rfl rfl ?_;conv=>cbv)|(refine Qam hn rfl rfl ?_;conv=>cbv)|(refine Qaz [0,3,4,1,2] hon2 rfl rfl (by decide) (by repeat' first|exact trivial|refine And.intro ?_ ?_|rfl) rfl rfl ?_;rintro r hc' ⟨x,y,z,e,rfl,rfl,⟨rfl,rfl⟩|⟨rfl,rfl⟩⟩<;>(conv=>cbv))|exact gu|exact trivial|refine And.intro ?_ ?_|(intro hc;first|exact absurd hc (by decide)|(exfalso;omega)|((first|rw[wS (by omega) (by omega)]at hc|rw[Qab]at hc|skip);try (conv=>cbv)))|refine CallG.old ?_
 ·clear hone hn;have hbad:Sm24 c->Qcu c.t c.xs=true->¬(0<=c.fr/\c.fr<c.t.nodes):=fun h1 h2 h3=>hgood ⟨h1,by rw[QaB,if_pos h2,if_pos h3]⟩
  clear hgood hs hi;generalize hcb:Qcu c.t c.xs=cb at*;generalize hsmc:Sm24 c=sm at*;clear hsmc hcb;obtain⟨t,xs,p,fr⟩:=c;obtain⟨id,src,dst,flow,st0,hops⟩:=p;simp only[Qu4,QaP,Qbt,QbC,QaK,Qag,Qai]at*;generalize List.map Qal xs=xl at*;generalize t.ov.map Qbq=ol at*;generalize t.links.map QaF=ll at*;generalize t.nodes=nodes at*;generalize List.map Qaf st0=sl at*;cases cb with
  |false=>
   clear hbad
   conv=>cbv
   repeat' first|(left;intro(_:Unit);(conv=>cbv))|(refine Qaz [0] haw rfl rfl (by decide) (by repeat' first|exact trivial|refine And.intro ?_ ?_|rfl) rfl rfl ?_;rintro r hc' ⟨m1,rfl,hT1,rfl⟩;(conv=>cbv))|(refine Qaz [] hlg rfl rfl (by decide) trivial rfl rfl ?_;rintro r hc' ⟨⟨b,rfl,-⟩,rfl⟩;cases b<;>(conv=>cbv))|exact fin _ _ (by assumption)|(refine Qam hco rfl rfl ?_;conv=>cbv)|exact gu|exact trivial|refine And.intro ?_ ?_|(intro hc;first|exact absurd hc (by decide)|(exfalso;omega)|((first|rw[wS (by omega) (by omega)]at hc|rw[Qab]at hc|skip);try (conv=>cbv)))|refine CallG.old ?_
  |true=>
   conv=>cbv
   repeat' first|(left;intro(_:Unit);(conv=>cbv))|(refine Qaz [0] haw rfl rfl (by decide) (by repeat' first|exact trivial|refine And.intro ?_ ?_|rfl) rfl rfl ?_;rintro r hc' ⟨m1,rfl,hT1,rfl⟩;(conv=>cbv))|(refine Qaz [] hlg rfl rfl (by decide) trivial rfl rfl ?_;rintro r hc' ⟨⟨b,rfl,hb⟩,rfl⟩;cases b;have hfb:=hbad (hb rfl) rfl;(conv=>cbv);rotate_left;(conv=>cbv);rotate_right)|exact fin _ _ (by assumption)|(refine Qam hco rfl rfl ?_;conv=>cbv)|exact gu|exact trivial|refine And.intro ?_ ?_|(intro hc;first|exact absurd hc (by decide)|(exfalso;omega)|((first|rw[wS (by omega) (by omega)]at hc|rw[Qab]at hc|skip);try (conv=>cbv)))|refine CallG.old ?_
end Go.Ab
