/- For all arguments of bulk at most 1048576 the law WalkLinks returns true, and each argument reads behind the call as it read before; the card ties the row's tables to the program's text. -/
import Derived.Test.YtohbofilgkdihaaGreatDoorZy
import Derived.Test.YtohbofilgkdihaaGreatDoorCards
import Derived.Test.YtohbofilgkdihaaGreatDoorTie
set_option linter.all false
namespace Go.Proofs.YtohbofilgkdihaaGreatDoor.walkLinks
open Go.ChangeShapes Go.WideShapes Go.ChangeAt Go.RowKit _root_.Go.Ab
theorem QCk:Tryz.prog.globalNamed "internal/strconv.uint64pow10"=some pwG:=by kernel_rfl
theorem QvA:(Tryz.prog.globals[pwG]?).map (·.type)=some 198:=by kernel_rfl
theorem QzI:Tryz.prog.cellsOf 198=20:=by kernel_rfl
theorem QzH:Tryz.prog.cellsOf 164=1:=by kernel_rfl
theorem table{W:World}(h:laidMetH Tryz.prog Rows.walkLinksUptoRow.laid W)(hsh:W.ShapedOpen Tryz.prog):W.heap[pwG]? =some Qlg:=by
  have h2:laidMet Tryz.prog Rows.walkLinksUptoRow.laid W:=h;obtain⟨ps,⟨g1,t1,cs1,f1,p1,q1,a1,a2,a3,a4,⟨g2,t2,cs2,f2,p2,q2,b1,b2,b3,b4,⟨g3,t3,cs3,f3,p3,q3,c1,c2,c3,c4,_,e3⟩,e2⟩,e1⟩,nd,hcell⟩:=h2;obtain rfl:=osj (QCk.symm.trans c1);obtain rfl:=osj (QvA.symm.trans c2);exact QBw hsh c3 (Lib.cells_of_tab (k:= .u64) (zs:=Lib.pow10Tab) Tryz.underlying198 Tryz.underlying164 QzH QzI c4)
set_option maxRecDepth 100000 in
theorem contract(H:Type)(enc:TypeId×Value->H)(W:World)(base:Nat)(args:Array Value)(ds gs:List (DataW H))(before:List MemPlace)
   (hval:∀(j:Nat) t v,Tryz.f4.params[j]? =some t->args[j]? =some v->Value.okWide Tryz.prog W .any base t v)
   (hW:DataW.Whole enc Tryz.prog Tryz.f4.params.toList Rows.walkLinksSpec.vars false W args.toList ds gs before)(hk:Rows.uptoSmall H (ds++gs)=true)(hL:laidMetH Tryz.prog Rows.walkLinksUptoRow.laid W)(hsh:W.ShapedOpen Tryz.prog):
    Calls Tryz.prog 4 args W fun e W'=>∃v,e= .returned v/\Rows.walkLinksSpec.post enc Tryz.prog Tryz.f4 false true false false W args v W':=by
  have hT:=table hL hsh;have hW':=hW;obtain⟨p,q,hA0,hV,rfl,hfz,hnd⟩:=hW;have hA:DataW.TrodAll enc Tryz.prog W 0 (fun _=>true) true Tryz.f4.params.toList args.toList ds p:=hA0;rw[Tryz.params4]at hA hval;obtain⟨v0,vs0,d0,ds0,p0,q0,hargs0,rfl,rfl,h0,r0⟩:=trodAll_cons hA;obtain⟨rfl,rfl,rfl⟩:=trodAll_nil r0;obtain rfl:args= #[v0]:=by cases args;simp only at hargs0;rw[hargs0]
  obtain⟨rfl,rfl⟩:=trodVars_none hV;clear hA0;obtain⟨fuel0,h0⟩:=h0;obtain⟨cds0,m0,a0,b0,e0⟩:=Qu7 (m:=8) (shs:=Qwt) (by kernel_rfl) h0;have hb:Rows.uptoBulkAll ([d0]++[])<=1048576:=of_decide_eq_true hk;simp only[List.append_nil,Rows.uptoBulkAll]at hb;obtain⟨c0,hc0,hs0,hi0⟩:=QxK b0 (by omega);have hv0:v0= .agg v0.cells:=Qzu (n:=11) (by rw[a0.1,b0.len];rfl) (by decide);have hvr:VRs (fun b=>b<W.heap.size/\b≠pwG) W [(0,0)] [.am pwA] [v0] [QwY c0]:=QuY (by rw[hc0,hv0];exact QAp hT a0 b0 QyT) Qxr;refine(Qyx Tryz.func4 (QwM Tryz.prog rfl QrC c0 hs0 hi0 pwA Qyt) hT hvr).mono fun e W' ⟨he,hq,hsame⟩=> ?_
  subst he;exact⟨_,rfl,QvS (bt:=4) kids full (by rw[Tryz.params4];exact of_decide_eq_true (by kernel_rfl)) rfl (by kernel_rfl) Tryz.underlying4 hW' ⟨rfl,rfl,rfl⟩ hq hsame⟩
noncomputable def QvP(h0:Array Obj):Array Obj:=Rows.walkLinksUptoRow.laid.foldl (fun h x=>h.modify ((Tryz.prog.globalNamed x.1).getD 0) (fun o=>match o with
  | .cells _ t frozen=> .cells (match x.2 with
    | .agg l=>(l.map fun y=>match y with
      | .lit (.int k n)=>Value.int k n
      |_=>undef).toArray
    |_=> #[]) t frozen
  |o=>o)) h0
noncomputable def Qj8(os:Os):World:=
  {World.holding Tryz.prog os ⟨#[],#[],[]⟩with heap:=QvP (World.holding Tryz.prog os ⟨#[],#[],[]⟩).heap}
theorem QvQ(os:Os):laidMet Tryz.prog Rows.walkLinksUptoRow.laid ((Qj8 os).forCall (fun _ _=>0) ⟨#[],#[.agg #[.int .i64 0,.slice none 0 0,.slice none 0 0,.slice none 0 0,.int .i64 0,.int .i64 0,.int .i64 0,.int .i64 0,.slice none 0 0,.int .i64 0,.int .i64 0]],[]⟩).memory:=
  laidMet_of_run' 8 (by kernel_rfl) (by kernel_rfl)
theorem reads(os:Os){H:Type}(enc:TypeId×Value->H):∃places,DataW.whole enc Tryz.prog ((Qj8 os).forCall (fun _ _=>0) ⟨#[],#[.agg #[.int .i64 0,.slice none 0 0,.slice none 0 0,.slice none 0 0,.int .i64 0,.int .i64 0,.int .i64 0,.int .i64 0,.slice none 0 0,.int .i64 0,.int .i64 0]],[]⟩).memory Tryz.f4.params.toList Rows.walkLinksSpec.vars false #[Value.agg #[.int .i64 0,.slice none 0 0,.slice none 0 0,.slice none 0 0,.int .i64 0,.int .i64 0,.int .i64 0,.int .i64 0,.slice none 0 0,.int .i64 0,.int .i64 0]].toList 8=some ([.agg [.agg [.lit (.int .i64 0),.nil,.nil],.nil,.agg [.lit (.int .i64 0),.lit (.int .i64 0),.lit (.int .i64 0),.lit (.int .i64 0),.nil,.lit (.int .i64 0)],.lit (.int .i64 0)]],[],places):=
  ⟨[],by kernel_rfl⟩
set_option maxRecDepth 100000 in
theorem lifted(os:Os)(started:os.Started)(H:Type)(enc:TypeId×Value->H)(F:Stop.Interp):
    ReturnsInHanded {} Tryz.checked os 4 .any ((Rows.OpenSpec.upto Rows.walkLinksSpec).preRow enc Tryz.prog Tryz.f4 Rows.walkLinksUptoRow.domain false Rows.walkLinksUptoRow.laid) (((Rows.OpenSpec.upto Rows.walkLinksSpec).at F).post enc Tryz.prog Tryz.f4 false true false false):=by
  obtain⟨places,hx⟩:=reads os enc;refine returnsInHanded_of_row (C:=Tryz.checked) (s:=Rows.OpenSpec.upto Rows.walkLinksSpec) own started (by kernel_rfl) Tryz.func4
    (witness_row_at (enc:=enc) (C:=Tryz.checked) false (Qj8 os) #[.agg #[.int .i64 0,.slice none 0 0,.slice none 0 0,.slice none 0 0,.int .i64 0,.int .i64 0,.int .i64 0,.int .i64 0,.slice none 0 0,.int .i64 0,.int .i64 0]] rfl (by kernel_rfl) (by kernel_rfl) (by kernel_rfl)
      (OpenSpec.preRow_of_cond 8 hx (by kernel_rfl) (fun k hk=>by cases hk;kernel_rfl) (by kernel_rfl) (QvQ os))) ?_
  intro W base args ds gs before hval hW _ hcond _ hL hsh _;exact contract H enc W base args ds gs before hval hW (hcond _ rfl) hL hsh
theorem said:Rows.WalkLinksUptoSaid:=
  OpenClaim.holds_of_cond 4 Tryz.f4 rfl rfl rfl rfl rfl rfl rfl ⟨rfl,rfl,rfl,rfl,rfl⟩ rfl rfl rfl rfl rfl (by kernel_rfl) Tryz.func4 (by kernel_rfl)
    (of_decide_eq_true (by kernel_rfl)) (by unfold Func.isWrapper;first|(rw[if_pos (by decide +kernel)];kernel_rfl)|(rw[if_neg (by decide +kernel)];exact⟨rfl,rfl⟩))
    (fun os started H enc _ F=>by rw[OpenClaim.pre_eq_preRow];exact lifted os started H enc F)
theorem plain(f:FuncId)(fn:Func)(hf:Tryz.pinned.checked.prog.funcNamed "waypoint/waypointlaw24.WalkLinks"=some f)(hfn:Tryz.pinned.checked.prog.funcs[f]? =some fn):
    false=Tryz.pinned.checked.prog.looks []/\∀(j:Nat) t,fn.params[j]? =some t->Tryz.pinned.checked.prog.wantsStandIn t=false:=by
  obtain rfl:f=4:=osj ((show Tryz.prog.funcNamed "waypoint/waypointlaw24.WalkLinks"=some 4 by kernel_rfl).symm.trans hf) |>.symm
  obtain rfl:fn=Tryz.f4:=(osj (Tryz.func4.symm.trans hfn)).symm;refine⟨by kernel_rfl,fun j t ht=> ?_⟩;rw[Tryz.params4]at ht;obtain rfl:t=31:=by simpa using Array.mem_of_getElem? ht
  exact(show Tryz.prog.wantsStandIn 31=false by kernel_rfl)
theorem proved:Rows.WalkLinksUptoCardSaid:=
  Claim7.holds_tied_plain_at .later [] _ _ _ _ said (fun _ h=>by cases h) (by kernel_rfl) (fun _ h=>by cases h) walkLinksUpto_row_tie rfl ⟨rfl,rfl⟩ (by kernel_rfl) rfl plain (by kernel_rfl)
end Go.Proofs.YtohbofilgkdihaaGreatDoor.walkLinks
