/- For all arguments of bulk at most 1048576 the law WalkEncoded returns true, and each argument reads behind the call as it read before; the card ties the row's tables to the program's text. -/
import Derived.Test.YtohbofilgkdihaaGreatDoorZy
import Derived.Test.YtohbofilgkdihaaGreatDoorCards
import Derived.Test.YtohbofilgkdihaaGreatDoorTie
set_option linter.all false
namespace Go.Proofs.YtohbofilgkdihaaGreatDoor.walkEncoded
open Go.ChangeShapes Go.WideShapes Go.ChangeAt Go.RowKit _root_.Go.Ab
theorem QCB:Tryz.prog.globalNamed "internal/strconv.uint64pow10"=some pwG:=by kernel_rfl
theorem QvO:(Tryz.prog.globals[pwG]?).map (·.type)=some 198:=by kernel_rfl
theorem QzW:Tryz.prog.cellsOf 198=20:=by kernel_rfl
theorem QzV:Tryz.prog.cellsOf 164=1:=by kernel_rfl
theorem table{W:World}(h:laidMetH Tryz.prog Rows.walkEncodedUptoRow.laid W)(hsh:W.ShapedOpen Tryz.prog):W.heap[pwG]? =some QiY:=by
  have h2:laidMet Tryz.prog Rows.walkEncodedUptoRow.laid W:=h;obtain⟨ps,⟨g1,t1,cs1,f1,p1,q1,a1,a2,a3,a4,⟨g2,t2,cs2,f2,p2,q2,b1,b2,b3,b4,⟨g3,t3,cs3,f3,p3,q3,c1,c2,c3,c4,_,e3⟩,e2⟩,e1⟩,nd,hcell⟩:=h2;obtain rfl:=osj (QCB.symm.trans c1);obtain rfl:=osj (QvO.symm.trans c2);exact QBR hsh c3 (Lib.cells_of_tab (k:= .u64) (zs:=Lib.pow10Tab) Tryz.underlying198 Tryz.underlying164 QzV QzW c4)
set_option maxRecDepth 100000 in
theorem contract(H:Type)(enc:TypeId×Value->H)(W:World)(base:Nat)(args:Array Value)(ds gs:List (DataW H))(before:List MemPlace)
   (hval:∀(j:Nat) t v,Tryz.f5.params[j]? =some t->args[j]? =some v->Value.okWide Tryz.prog W .any base t v)
   (hW:DataW.Whole enc Tryz.prog Tryz.f5.params.toList Rows.walkEncodedSpec.vars false W args.toList ds gs before)(_hk:Rows.uptoSmall H (ds++gs)=true)(hL:laidMetH Tryz.prog Rows.walkEncodedUptoRow.laid W)(hsh:W.ShapedOpen Tryz.prog):
    Calls Tryz.prog 5 args W λe W'=>∃v,e= .returned v/\Rows.walkEncodedSpec.post enc Tryz.prog Tryz.f5 false true false false W args v W':=by
  have hT:=table hL hsh;have hW':=hW;obtain⟨p,q,hA0,hV,rfl,hfz,hnd⟩:=hW;have hA:DataW.TrodAll enc Tryz.prog W 0 (λ_=>true) true Tryz.f5.params.toList args.toList ds p:=hA0;rw[Tryz.params5]at hA hval;obtain⟨v0,vs0,d0,ds0,p0,q0,hargs0,rfl,rfl,h0,r0⟩:=trodAll_cons hA;obtain⟨v1,vs1,d1,ds1,p1,q1,hargs1,rfl,rfl,h1,r1⟩:=trodAll_cons r0;obtain⟨v2,vs2,d2,ds2,p2,q2,hargs2,rfl,rfl,h2,r2⟩:=trodAll_cons r1;obtain⟨v3,vs3,d3,ds3,p3,q3,hargs3,rfl,rfl,h3,r3⟩:=trodAll_cons r2;obtain⟨rfl,rfl,rfl⟩:=trodAll_nil r3;subst hargs3;subst hargs2;subst hargs1;obtain rfl:args= #[v0,v1,v2,v3]:=by cases args;simp only at hargs0;rw[hargs0]
  obtain⟨rfl,rfl⟩:=trodVars_none hV;clear hA0;obtain⟨s1_a,s1_l,s1_c,rfl⟩:=okWide_slice Tryz.underlying22 (hval 1 22 v1 rfl rfl);obtain⟨n2,rfl⟩:=okWide_int Tryz.underlying3 (hval 2 3 v2 rfl rfl);obtain⟨s3_a,s3_l,s3_c,rfl⟩:=okWide_slice Tryz.underlying43 (hval 3 43 v3 rfl rfl);obtain⟨fuel0,h0⟩:=h0;obtain⟨cds0,m0,a0,b0,e0⟩:=Qmh (m:=8) (shs:=QwH) (by kernel_rfl) h0;obtain⟨fuel1,h1⟩:=h1;obtain⟨cds1,m1,a1,b1,e1⟩:=Qmh (m:=8) (shs:=[.list 1 [.bool]]) (by kernel_rfl) h1;obtain⟨fuel3,h3⟩:=h3;obtain⟨cds3,m3,a3,b3,e3⟩:=Qmh (m:=8) (shs:=[.list 1 [shI]]) (by kernel_rfl) h3;obtain⟨c0,hc0⟩:=Qvx b0;obtain⟨l1,rfl⟩:=QxX b1;obtain⟨l3,rfl⟩:=Qvw b3;have hv0:v0= .agg v0.cells:=QzI (n:=3) (by rw[a0.1,b0.len];rfl) (by decide);have hvr:VRs (λb=>b<W.heap.size/\b≠pwG) W [(0,0)] [.am pwA] [v0,.slice s1_a s1_l s1_c,.int .i64 n2,.slice s3_a s3_l s3_c] [QaF c0,.c (.d (Qaf l1)),iA n2,Qao l3]:=
    Qi2 (by rw[hc0,hv0];exact QAH hT a0 b0 Qy6) (Qi2 (QAI hT a1 b1) (Qi2 (.c _ _ (.d _ _ (.int _ _))) (Qi2 (QyF hT a3 b3) QxF)))
  refine(QyI Tryz.func5 (Qx1 Tryz.prog rfl Qrv c0 l1 n2 l3 pwA QyE) hT hvr).mono λe W' ⟨he,hq,hsame⟩=> ?_
  subst he;exact⟨_,rfl,Qv3 (bt:=4) kids full (by rw[Tryz.params5];exact of_decide_eq_true (by kernel_rfl)) rfl (by kernel_rfl) Tryz.underlying4 hW' ⟨rfl,rfl,rfl⟩ hq hsame⟩
noncomputable def Qv1(h0:Array Obj):Array Obj:=Rows.walkEncodedUptoRow.laid.foldl (λh x=>h.modify ((Tryz.prog.globalNamed x.1).getD 0) (λo=>match o with
  | .cells _ t frozen=> .cells (match x.2 with
    | .agg l=>(l.map λy=>match y with
      | .lit (.int k n)=>Value.int k n
      |_=>undef).toArray
    |_=> #[]) t frozen
  |o=>o)) h0
noncomputable def Qkb(os:Os):World:=
  {World.holding Tryz.prog os ⟨#[],#[],[]⟩with heap:=Qv1 (World.holding Tryz.prog os ⟨#[],#[],[]⟩).heap}
theorem Qv2(os:Os):laidMet Tryz.prog Rows.walkEncodedUptoRow.laid ((Qkb os).forCall (λ_ _=>0) ⟨#[],#[.agg #[.int .i64 0,.slice none 0 0,.slice none 0 0],.slice none 0 0,.int .i64 0,.slice none 0 0],[]⟩).memory:=
  laidMet_of_run' 8 (by kernel_rfl) (by kernel_rfl)
theorem reads(os:Os){H:Type}(enc:TypeId×Value->H):∃places,DataW.whole enc Tryz.prog ((Qkb os).forCall (λ_ _=>0) ⟨#[],#[.agg #[.int .i64 0,.slice none 0 0,.slice none 0 0],.slice none 0 0,.int .i64 0,.slice none 0 0],[]⟩).memory Tryz.f5.params.toList Rows.walkEncodedSpec.vars false #[Value.agg #[.int .i64 0,.slice none 0 0,.slice none 0 0],.slice none 0 0,.int .i64 0,.slice none 0 0].toList 8=some ([.agg [.lit (.int .i64 0),.nil,.nil],.nil,.lit (.int .i64 0),.nil],[],places):=
  ⟨[],by kernel_rfl⟩
set_option maxRecDepth 100000 in
theorem lifted(os:Os)(started:os.Started)(H:Type)(enc:TypeId×Value->H)(F:Stop.Interp):
    ReturnsInHanded {} Tryz.checked os 5 .any ((Rows.OpenSpec.upto Rows.walkEncodedSpec).preRow enc Tryz.prog Tryz.f5 Rows.walkEncodedUptoRow.domain false Rows.walkEncodedUptoRow.laid) (((Rows.OpenSpec.upto Rows.walkEncodedSpec).at F).post enc Tryz.prog Tryz.f5 false true false false):=by
  obtain⟨places,hx⟩:=reads os enc;refine returnsInHanded_of_row (C:=Tryz.checked) (s:=Rows.OpenSpec.upto Rows.walkEncodedSpec) own started (by kernel_rfl) Tryz.func5
    (witness_row_at (enc:=enc) (C:=Tryz.checked) false (Qkb os) #[.agg #[.int .i64 0,.slice none 0 0,.slice none 0 0],.slice none 0 0,.int .i64 0,.slice none 0 0] rfl (by kernel_rfl) (by kernel_rfl) (by kernel_rfl)
      (OpenSpec.preRow_of_cond 8 hx (by kernel_rfl) (λk hk=>by cases hk;kernel_rfl) (by kernel_rfl) (Qv2 os))) ?_
  intro W base args ds gs before hval hW _ hcond _ hL hsh _;exact contract H enc W base args ds gs before hval hW (hcond _ rfl) hL hsh
theorem said:Rows.WalkEncodedUptoSaid:=
  OpenClaim.holds_of_cond 5 Tryz.f5 rfl rfl rfl rfl rfl rfl rfl ⟨rfl,rfl,rfl,rfl,rfl⟩ rfl rfl rfl rfl rfl (by kernel_rfl) Tryz.func5 (by kernel_rfl)
    (of_decide_eq_true (by kernel_rfl)) (by unfold Func.isWrapper;first|(rw[if_pos (by decide +kernel)];kernel_rfl)|(rw[if_neg (by decide +kernel)];exact⟨rfl,rfl⟩))
    (λos started H enc _ F=>by rw[OpenClaim.pre_eq_preRow];exact lifted os started H enc F)
theorem plain(f:FuncId)(fn:Func)(hf:Tryz.pinned.checked.prog.funcNamed "waypoint/waypointlaw24.WalkEncoded"=some f)(hfn:Tryz.pinned.checked.prog.funcs[f]? =some fn):
    false=Tryz.pinned.checked.prog.looks []/\∀(j:Nat) t,fn.params[j]? =some t->Tryz.pinned.checked.prog.wantsStandIn t=false:=by
  obtain rfl:f=5:=osj ((show Tryz.prog.funcNamed "waypoint/waypointlaw24.WalkEncoded"=some 5 by kernel_rfl).symm.trans hf) |>.symm
  obtain rfl:fn=Tryz.f5:=(osj (Tryz.func5.symm.trans hfn)).symm;refine⟨by kernel_rfl,λj t ht=> ?_⟩;rw[Tryz.params5]at ht;have hm:=Array.mem_of_getElem? ht;simp only[List.mem_toArray,List.mem_cons,List.not_mem_nil,or_false]at hm;rcases hm with rfl|rfl|rfl|rfl
  · exact(show Tryz.prog.wantsStandIn 25=false by kernel_rfl)
  · exact(show Tryz.prog.wantsStandIn 22=false by kernel_rfl)
  · exact(show Tryz.prog.wantsStandIn 3=false by kernel_rfl)
  · exact(show Tryz.prog.wantsStandIn 43=false by kernel_rfl)
theorem proved:Rows.WalkEncodedUptoCardSaid:=
  Claim7.holds_tied_plain_at .later [] _ _ _ _ said (λ_ h=>by cases h) (by kernel_rfl) (λ_ h=>by cases h) walkEncodedUpto_row_tie rfl ⟨rfl,rfl⟩ (by kernel_rfl) rfl plain (by kernel_rfl)
end Go.Proofs.YtohbofilgkdihaaGreatDoor.walkEncoded
