/- For all arguments of bulk at most 1048576 the law WalkVia returns true, and each argument reads behind the call as it read before; the card ties the row's tables to the program's text. -/
import Derived.Test.YtohbofilgkdihaaDoorZx
import Derived.Test.YtohbofilgkdihaaDoorCards
import Derived.Test.YtohbofilgkdihaaDoorTie
set_option linter.all false
namespace Go.Proofs.YtohbofilgkdihaaDoor.walkVia
open Go.ChangeShapes Go.WideShapes Go.ChangeAt Go.RowKit _root_.Go.Ab
theorem QAu:Tryd.prog.globalNamed "internal/strconv.uint64pow10"=some pwG:=by kernel_rfl
theorem Qt5:(Tryd.prog.globals[pwG]?).map (·.type)=some 158:=by kernel_rfl
theorem QxZ:Tryd.prog.cellsOf 158=20:=by kernel_rfl
theorem QxY:Tryd.prog.cellsOf 127=1:=by kernel_rfl
theorem table{W:World}(h:laidMetH Tryd.prog Rows.walkViaUptoRow.laid W)(hsh:W.ShapedOpen Tryd.prog):W.heap[pwG]? =some Qjx:=by
  have h2:laidMet Tryd.prog Rows.walkViaUptoRow.laid W:=h;obtain⟨ps,⟨g1,t1,cs1,f1,p1,q1,a1,a2,a3,a4,⟨g2,t2,cs2,f2,p2,q2,b1,b2,b3,b4,⟨g3,t3,cs3,f3,p3,q3,c1,c2,c3,c4,_,e3⟩,e2⟩,e1⟩,nd,hcell⟩:=h2;obtain rfl:=osj (QAu.symm.trans c1);obtain rfl:=osj (Qt5.symm.trans c2);exact QzF hsh c3 (Lib.cells_of_tab (k:= .u64) (zs:=Lib.pow10Tab) Tryd.underlying158 Tryd.underlying127 QxY QxZ c4)
set_option maxRecDepth 100000 in
theorem contract(H:Type)(enc:TypeId×Value->H)(W:World)(base:Nat)(args:Array Value)(ds gs:List (DataW H))(before:List MemPlace)
   (hval:∀(j:Nat) t v,Tryd.f4.params[j]? =some t->args[j]? =some v->Value.okWide Tryd.prog W .any base t v)
   (hW:DataW.Whole enc Tryd.prog Tryd.f4.params.toList Rows.walkViaSpec.vars false W args.toList ds gs before)(_hk:Rows.uptoSmall H (ds++gs)=true)(hL:laidMetH Tryd.prog Rows.walkViaUptoRow.laid W)(hsh:W.ShapedOpen Tryd.prog):
    Calls Tryd.prog 4 args W fun e W'=>∃v,e= .returned v/\Rows.walkViaSpec.post enc Tryd.prog Tryd.f4 false true false false W args v W':=by
  have hT:=table hL hsh;have hW':=hW;obtain⟨p,q,hA0,hV,rfl,hfz,hnd⟩:=hW;have hA:DataW.TrodAll enc Tryd.prog W 0 (fun _=>true) true Tryd.f4.params.toList args.toList ds p:=hA0;rw[Tryd.params4]at hA hval;obtain⟨v0,vs0,d0,ds0,p0,q0,hargs0,rfl,rfl,h0,r0⟩:=trodAll_cons hA;obtain⟨v1,vs1,d1,ds1,p1,q1,hargs1,rfl,rfl,h1,r1⟩:=trodAll_cons r0;obtain⟨v2,vs2,d2,ds2,p2,q2,hargs2,rfl,rfl,h2,r2⟩:=trodAll_cons r1;obtain⟨rfl,rfl,rfl⟩:=trodAll_nil r2;subst hargs2;subst hargs1;obtain rfl:args= #[v0,v1,v2]:=by cases args;simp only at hargs0;rw[hargs0]
  obtain⟨rfl,rfl⟩:=trodVars_none hV;clear hA0;obtain⟨s1_a,s1_l,s1_c,rfl⟩:=okWide_slice Tryd.underlying22 (hval 1 22 v1 rfl rfl);obtain⟨fuel0,h0⟩:=h0;obtain⟨cds0,m0,a0,b0,e0⟩:=Qk8 (m:=8) (shs:=QuS) (by kernel_rfl) h0;obtain⟨fuel1,h1⟩:=h1;obtain⟨cds1,m1,a1,b1,e1⟩:=Qk8 (m:=8) (shs:=[.list 1 [.bool]]) (by kernel_rfl) h1;obtain⟨fuel2,h2⟩:=h2;obtain⟨cds2,m2,a2,b2,e2⟩:=Qk8 (m:=8) (shs:=[shI,shI,shI]) (by kernel_rfl) h2;obtain⟨c0,hc0⟩:=QtN b0;obtain⟨l1,rfl⟩:=Qv9 b1;obtain⟨na,nb,nc,hc2⟩:=QtM b2;have hv0:v0= .agg v0.cells:=Qvi (n:=3) (by rw[a0.1,b0.len];rfl) (by decide);have hv2:v2= .agg v2.cells:=Qvi (n:=3) (by rw[a2.1,b2.len];rfl) (by decide);have hvr:VRs (fun b=>b<W.heap.size/\b≠pwG) W [(0,0)] [.am pwA] [v0,.slice s1_a s1_l s1_c,v2] [Qa2 c0,.c (.d (Qaf l1)),.agg [.d (iD na),.d (iD nb),.d (iD nc)]]:=
    QkP (by rw[hc0,hv0];exact QvE hT a0 b0 Qxa) (QkP (QyB hT a1 b1) (QkP (by rw[hc2,hv2];exact QvE hT a2 b2 (QyR _ (by simp))) QvR))
  refine(QwP Tryd.func4 (Qxq Tryd.prog rfl Qp2 c0 l1 na nb nc pwA QwM) hT hvr).mono fun e W' ⟨he,hq,hsame⟩=> ?_
  subst he;exact⟨_,rfl,Quk (bt:=4) kids full (by rw[Tryd.params4];exact of_decide_eq_true (by kernel_rfl)) rfl (by kernel_rfl) Tryd.underlying4 hW' ⟨rfl,rfl,rfl⟩ hq hsame⟩
noncomputable def Qui(h0:Array Obj):Array Obj:=Rows.walkViaUptoRow.laid.foldl (fun h x=>h.modify ((Tryd.prog.globalNamed x.1).getD 0) (fun o=>match o with
  | .cells _ t frozen=> .cells (match x.2 with
    | .agg l=>(l.map fun y=>match y with
      | .lit (.int k n)=>Value.int k n
      |_=>undef).toArray
    |_=> #[]) t frozen
  |o=>o)) h0
noncomputable def Qjh(os:Os):World:=
  {World.holding Tryd.prog os ⟨#[],#[],[]⟩with heap:=Qui (World.holding Tryd.prog os ⟨#[],#[],[]⟩).heap}
theorem Quj(os:Os):laidMet Tryd.prog Rows.walkViaUptoRow.laid ((Qjh os).forCall (fun _ _=>0) ⟨#[],#[.agg #[.int .i64 0,.slice none 0 0,.slice none 0 0],.slice none 0 0,.agg #[.int .i64 0,.int .i64 0,.int .i64 0]],[]⟩).memory:=
  laidMet_of_run' 8 (by kernel_rfl) (by kernel_rfl)
theorem reads(os:Os){H:Type}(enc:TypeId×Value->H):∃places,DataW.whole enc Tryd.prog ((Qjh os).forCall (fun _ _=>0) ⟨#[],#[.agg #[.int .i64 0,.slice none 0 0,.slice none 0 0],.slice none 0 0,.agg #[.int .i64 0,.int .i64 0,.int .i64 0]],[]⟩).memory Tryd.f4.params.toList Rows.walkViaSpec.vars false #[Value.agg #[.int .i64 0,.slice none 0 0,.slice none 0 0],.slice none 0 0,.agg #[.int .i64 0,.int .i64 0,.int .i64 0]].toList 8=some ([.agg [.lit (.int .i64 0),.nil,.nil],.nil,.agg [.lit (.int .i64 0),.lit (.int .i64 0),.lit (.int .i64 0)]],[],places):=
  ⟨[],by kernel_rfl⟩
set_option maxRecDepth 100000 in
theorem lifted(os:Os)(started:os.Started)(H:Type)(enc:TypeId×Value->H)(F:Stop.Interp):
    ReturnsInHanded {} Tryd.checked os 4 .any ((Rows.OpenSpec.upto Rows.walkViaSpec).preRow enc Tryd.prog Tryd.f4 Rows.walkViaUptoRow.domain false Rows.walkViaUptoRow.laid) (((Rows.OpenSpec.upto Rows.walkViaSpec).at F).post enc Tryd.prog Tryd.f4 false true false false):=by
  obtain⟨places,hx⟩:=reads os enc;refine returnsInHanded_of_row (C:=Tryd.checked) (s:=Rows.OpenSpec.upto Rows.walkViaSpec) own started (by kernel_rfl) Tryd.func4
    (witness_row_at (enc:=enc) (C:=Tryd.checked) false (Qjh os) #[.agg #[.int .i64 0,.slice none 0 0,.slice none 0 0],.slice none 0 0,.agg #[.int .i64 0,.int .i64 0,.int .i64 0]] rfl (by kernel_rfl) (by kernel_rfl) (by kernel_rfl)
      (OpenSpec.preRow_of_cond 8 hx (by kernel_rfl) (fun k hk=>by cases hk;kernel_rfl) (by kernel_rfl) (Quj os))) ?_
  intro W base args ds gs before hval hW _ hcond _ hL hsh _;exact contract H enc W base args ds gs before hval hW (hcond _ rfl) hL hsh
theorem said:Rows.WalkViaUptoSaid:=
  OpenClaim.holds_of_cond 4 Tryd.f4 rfl rfl rfl rfl rfl rfl rfl ⟨rfl,rfl,rfl,rfl,rfl⟩ rfl rfl rfl rfl rfl (by kernel_rfl) Tryd.func4 (by kernel_rfl)
    (of_decide_eq_true (by kernel_rfl)) (by unfold Func.isWrapper;first|(rw[if_pos (by decide +kernel)];kernel_rfl)|(rw[if_neg (by decide +kernel)];exact⟨rfl,rfl⟩))
    (fun os started H enc _ F=>by rw[OpenClaim.pre_eq_preRow];exact lifted os started H enc F)
theorem plain(f:FuncId)(fn:Func)(hf:Tryd.pinned.checked.prog.funcNamed "waypoint/waypointlaw24.WalkVia"=some f)(hfn:Tryd.pinned.checked.prog.funcs[f]? =some fn):
    false=Tryd.pinned.checked.prog.looks []/\∀(j:Nat) t,fn.params[j]? =some t->Tryd.pinned.checked.prog.wantsStandIn t=false:=by
  obtain rfl:f=4:=osj ((show Tryd.prog.funcNamed "waypoint/waypointlaw24.WalkVia"=some 4 by kernel_rfl).symm.trans hf) |>.symm
  obtain rfl:fn=Tryd.f4:=(osj (Tryd.func4.symm.trans hfn)).symm;refine⟨by kernel_rfl,fun j t ht=> ?_⟩;rw[Tryd.params4]at ht;have hm:=Array.mem_of_getElem? ht;simp only[List.mem_toArray,List.mem_cons,List.not_mem_nil,or_false]at hm;rcases hm with rfl|rfl|rfl
  · exact(show Tryd.prog.wantsStandIn 25=false by kernel_rfl)
  · exact(show Tryd.prog.wantsStandIn 22=false by kernel_rfl)
  · exact(show Tryd.prog.wantsStandIn 46=false by kernel_rfl)
theorem proved:Rows.WalkViaUptoCardSaid:=
  Claim7.holds_tied_plain_at .later [] _ _ _ _ said (fun _ h=>by cases h) (by kernel_rfl) (fun _ h=>by cases h) walkViaUpto_row_tie rfl ⟨rfl,rfl⟩ (by kernel_rfl) rfl plain (by kernel_rfl)
end Go.Proofs.YtohbofilgkdihaaDoor.walkVia
