/- For all arguments of bulk at most 1048576 the law WalkAsked returns true, and each argument reads behind the call as it read before; the card ties the row's tables to the program's text. -/
import Derived.Test.YtohbofilgkdihaaGreatDoorZya
import Derived.Test.YtohbofilgkdihaaGreatDoorCards
import Derived.Test.YtohbofilgkdihaaGreatDoorTie
set_option linter.all false
namespace Go.Proofs.YtohbofilgkdihaaGreatDoor.walkAsked
open Go.ChangeShapes Go.WideShapes Go.ChangeAt Go.RowKit _root_.Go.Ab
theorem QCn:Tryz.prog.globalNamed "internal/strconv.uint64pow10"=some pwG:=by kernel_rfl
theorem Qvt:(Tryz.prog.globals[pwG]?).map (·.type)=some 198:=by kernel_rfl
theorem QzJ:Tryz.prog.cellsOf 198=20:=by kernel_rfl
theorem QzI:Tryz.prog.cellsOf 164=1:=by kernel_rfl
theorem table{W:World}(h:laidMetH Tryz.prog Rows.walkAskedUptoRow.laid W)(hsh:W.ShapedOpen Tryz.prog):W.heap[pwG]? =some Qla:=by
  have h2:laidMet Tryz.prog Rows.walkAskedUptoRow.laid W:=h;obtain⟨ps,⟨g1,t1,cs1,f1,p1,q1,a1,a2,a3,a4,⟨g2,t2,cs2,f2,p2,q2,b1,b2,b3,b4,⟨g3,t3,cs3,f3,p3,q3,c1,c2,c3,c4,_,e3⟩,e2⟩,e1⟩,nd,hcell⟩:=h2;obtain rfl:=osj (QCn.symm.trans c1);obtain rfl:=osj (Qvt.symm.trans c2);exact QBx hsh c3 (Lib.cells_of_tab (k:= .u64) (zs:=Lib.pow10Tab) Tryz.underlying198 Tryz.underlying164 QzI QzJ c4)
set_option maxRecDepth 100000 in
theorem contract(H:Type)(enc:TypeId×Value->H)(W:World)(base:Nat)(args:Array Value)(ds gs:List (DataW H))(before:List MemPlace)
   (hval:∀(j:Nat) t v,Tryz.f7.params[j]? =some t->args[j]? =some v->Value.okWide Tryz.prog W .any base t v)
   (hW:DataW.Whole enc Tryz.prog Tryz.f7.params.toList Rows.walkAskedSpec.vars false W args.toList ds gs before)(hk:Rows.uptoSmall H (ds++gs)=true)(hL:laidMetH Tryz.prog Rows.walkAskedUptoRow.laid W)(hsh:W.ShapedOpen Tryz.prog):
    Calls Tryz.prog 7 args W fun e W'=>∃v,e= .returned v/\Rows.walkAskedSpec.post enc Tryz.prog Tryz.f7 false true false false W args v W':=by
  have hT:=table hL hsh;have hW':=hW;obtain⟨p,q,hA0,hV,rfl,hfz,hnd⟩:=hW;have hA:DataW.TrodAll enc Tryz.prog W 0 (fun _=>true) true Tryz.f7.params.toList args.toList ds p:=hA0;rw[Tryz.params7]at hA hval;obtain⟨v0,vs0,d0,ds0,p0,q0,hargs0,rfl,rfl,h0,r0⟩:=trodAll_cons hA;obtain⟨v1,vs1,d1,ds1,p1,q1,hargs1,rfl,rfl,h1,r1⟩:=trodAll_cons r0;obtain⟨rfl,rfl,rfl⟩:=trodAll_nil r1;subst hargs1;obtain rfl:args= #[v0,v1]:=by cases args;simp only at hargs0;rw[hargs0]
  obtain⟨rfl,rfl⟩:=trodVars_none hV;clear hA0;obtain⟨fuel0,h0⟩:=h0;obtain⟨cds0,m0,a0,b0,e0⟩:=QuY (m:=8) (shs:=Qwl) (by kernel_rfl) h0;have hb:Rows.uptoBulkAll ([d0,d1]++[])<=1048576:=of_decide_eq_true hk;simp only[List.append_nil,Rows.uptoBulkAll]at hb;obtain⟨c0,hc0,hs0,hi0⟩:=QxK b0 (by omega);have hv0:v0= .agg v0.cells:=Qzu (n:=11) (by rw[a0.1,b0.len];rfl) (by decide);obtain⟨n1,rfl⟩:=okWide_int Tryz.underlying3 (hval 1 3 v1 rfl rfl);have hvr:VRs (fun b=>b<W.heap.size/\b≠pwG) W [(0,0)] [.am pwA] [v0,.int .i64 n1] [Qu4 c0,iA n1]:=Qqn (by rw[hc0,hv0];exact QAq hT a0 b0 QyQ) (Qqn (.c _ _ (.d _ _ (.int _ _))) Qxm);refine(Qyw Tryz.func7 (QsS Tryz.prog rfl Qrw c0 n1 hs0 hi0 pwA Qyt) hT hvr).mono fun e W' ⟨he,hq,hsame⟩=> ?_
  subst he;exact⟨_,rfl,QvL (bt:=4) kids full (by rw[Tryz.params7];exact of_decide_eq_true (by kernel_rfl)) rfl (by kernel_rfl) Tryz.underlying4 hW' ⟨rfl,rfl,rfl⟩ hq hsame⟩
noncomputable def QvI(h0:Array Obj):Array Obj:=Rows.walkAskedUptoRow.laid.foldl (fun h x=>h.modify ((Tryz.prog.globalNamed x.1).getD 0) (fun o=>match o with
  | .cells _ t frozen=> .cells (match x.2 with
    | .agg l=>(l.map fun y=>match y with
      | .lit (.int k n)=>Value.int k n
      |_=>undef).toArray
    |_=> #[]) t frozen
  |o=>o)) h0
noncomputable def Qj5(os:Os):World:=
  {World.holding Tryz.prog os ⟨#[],#[],[]⟩with heap:=QvI (World.holding Tryz.prog os ⟨#[],#[],[]⟩).heap}
theorem QvJ(os:Os):laidMet Tryz.prog Rows.walkAskedUptoRow.laid ((Qj5 os).forCall (fun _ _=>0) ⟨#[],#[.agg #[.int .i64 0,.slice none 0 0,.slice none 0 0,.slice none 0 0,.int .i64 0,.int .i64 0,.int .i64 0,.int .i64 0,.slice none 0 0,.int .i64 0,.int .i64 0],.int .i64 0],[]⟩).memory:=
  laidMet_of_run' 8 (by kernel_rfl) (by kernel_rfl)
theorem reads(os:Os){H:Type}(enc:TypeId×Value->H):∃places,DataW.whole enc Tryz.prog ((Qj5 os).forCall (fun _ _=>0) ⟨#[],#[.agg #[.int .i64 0,.slice none 0 0,.slice none 0 0,.slice none 0 0,.int .i64 0,.int .i64 0,.int .i64 0,.int .i64 0,.slice none 0 0,.int .i64 0,.int .i64 0],.int .i64 0],[]⟩).memory Tryz.f7.params.toList Rows.walkAskedSpec.vars false #[Value.agg #[.int .i64 0,.slice none 0 0,.slice none 0 0,.slice none 0 0,.int .i64 0,.int .i64 0,.int .i64 0,.int .i64 0,.slice none 0 0,.int .i64 0,.int .i64 0],.int .i64 0].toList 8=some ([.agg [.agg [.lit (.int .i64 0),.nil,.nil],.nil,.agg [.lit (.int .i64 0),.lit (.int .i64 0),.lit (.int .i64 0),.lit (.int .i64 0),.nil,.lit (.int .i64 0)],.lit (.int .i64 0)],.lit (.int .i64 0)],[],places):=
  ⟨[],by kernel_rfl⟩
set_option maxRecDepth 100000 in
theorem lifted(os:Os)(started:os.Started)(H:Type)(enc:TypeId×Value->H)(F:Stop.Interp):
    ReturnsInHanded {} Tryz.checked os 7 .any ((Rows.OpenSpec.upto Rows.walkAskedSpec).preRow enc Tryz.prog Tryz.f7 Rows.walkAskedUptoRow.domain false Rows.walkAskedUptoRow.laid) (((Rows.OpenSpec.upto Rows.walkAskedSpec).at F).post enc Tryz.prog Tryz.f7 false true false false):=by
  obtain⟨places,hx⟩:=reads os enc;refine returnsInHanded_of_row (C:=Tryz.checked) (s:=Rows.OpenSpec.upto Rows.walkAskedSpec) own started (by kernel_rfl) Tryz.func7
    (witness_row_at (enc:=enc) (C:=Tryz.checked) false (Qj5 os) #[.agg #[.int .i64 0,.slice none 0 0,.slice none 0 0,.slice none 0 0,.int .i64 0,.int .i64 0,.int .i64 0,.int .i64 0,.slice none 0 0,.int .i64 0,.int .i64 0],.int .i64 0] rfl (by kernel_rfl) (by kernel_rfl) (by kernel_rfl)
      (OpenSpec.preRow_of_cond 8 hx (by kernel_rfl) (fun k hk=>by cases hk;kernel_rfl) (by kernel_rfl) (QvJ os))) ?_
  intro W base args ds gs before hval hW _ hcond _ hL hsh _;exact contract H enc W base args ds gs before hval hW (hcond _ rfl) hL hsh
theorem said:Rows.WalkAskedUptoSaid:=
  OpenClaim.holds_of_cond 7 Tryz.f7 rfl rfl rfl rfl rfl rfl rfl ⟨rfl,rfl,rfl,rfl,rfl⟩ rfl rfl rfl rfl rfl (by kernel_rfl) Tryz.func7 (by kernel_rfl)
    (of_decide_eq_true (by kernel_rfl)) (by unfold Func.isWrapper;first|(rw[if_pos (by decide +kernel)];kernel_rfl)|(rw[if_neg (by decide +kernel)];exact⟨rfl,rfl⟩))
    (fun os started H enc _ F=>by rw[OpenClaim.pre_eq_preRow];exact lifted os started H enc F)
theorem plain(f:FuncId)(fn:Func)(hf:Tryz.pinned.checked.prog.funcNamed "waypoint/waypointlaw24.WalkAsked"=some f)(hfn:Tryz.pinned.checked.prog.funcs[f]? =some fn):
    false=Tryz.pinned.checked.prog.looks []/\∀(j:Nat) t,fn.params[j]? =some t->Tryz.pinned.checked.prog.wantsStandIn t=false:=by
  obtain rfl:f=7:=osj ((show Tryz.prog.funcNamed "waypoint/waypointlaw24.WalkAsked"=some 7 by kernel_rfl).symm.trans hf) |>.symm
  obtain rfl:fn=Tryz.f7:=(osj (Tryz.func7.symm.trans hfn)).symm;refine⟨by kernel_rfl,fun j t ht=> ?_⟩;rw[Tryz.params7]at ht;have hm:=Array.mem_of_getElem? ht;simp only[List.mem_toArray,List.mem_cons,List.not_mem_nil,or_false]at hm;rcases hm with rfl|rfl
  · exact(show Tryz.prog.wantsStandIn 31=false by kernel_rfl)
  · exact(show Tryz.prog.wantsStandIn 3=false by kernel_rfl)
theorem proved:Rows.WalkAskedUptoCardSaid:=
  Claim7.holds_tied_plain_at .later [] _ _ _ _ said (fun _ h=>by cases h) (by kernel_rfl) (fun _ h=>by cases h) walkAskedUpto_row_tie rfl ⟨rfl,rfl⟩ (by kernel_rfl) rfl plain (by kernel_rfl)
end Go.Proofs.YtohbofilgkdihaaGreatDoor.walkAsked
