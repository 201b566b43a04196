/-
  Merged texts, part y.
-/
import Derived.Test.YtohbofilgkdihaaGreatDoorZx
import Derived.Deep.DeepHandedRow
import Derived.Lib.LaidTab
set_option linter.all false
namespace Go.Ab
open Go.Proofs Go.Proofs.YtohbofilgkdihaaGreatDoor Go.ChangeShapes Go.WideShapes Go.ChangeAt Go.RowKit
inductive ShO:Sh->Prop
 |int (k:IntKind) (h:k≠ .u64):ShO (.int k)
 |bool:ShO .bool
 |list (sz:Nat) (es:List Sh) (hne:es≠[]) (h:∀s∈es,ShO s):ShO (.list sz es)
theorem QqL{ss:List Sh}{ds:List D}{n:Nat}(h:FitL ss ds n):∀{j:Nat} {x:D},ds[j]? =some x->∃s m,s∈ss/\Fit1 s x m:=by
 induction ss generalizing ds n with
 |nil=>intro j x hx;cases h;simp at hx
 |cons s ss ih=>
  intro j x hx;cases h with
  |cons _ _ d ds' a b h1 h2=>
   cases j with
   |zero=>simp at hx;subst hx;exact⟨s,a,by simp,h1⟩
   |succ j=>
    obtain⟨s',m,q1,q2⟩:=ih h2 (by simpa using hx);exact⟨s',m,by simp[q1],q2⟩
theorem Qn9{es:List Sh}:∀{l:List (List D)} {n:Nat},FitLL es l n->∀{i:Nat} {e:List D},l[i]? =some e->∃m,FitL es e m:=by
 intro l;induction l with
 |nil=>intro n _ i e he;simp at he
 |cons e0 l ih=>
  intro n h i e he;cases h with
  |cons _ _ _ a b h1 h2=>
   cases i with
   |zero=>simp at he;subst he;exact⟨a,h1⟩
   |succ i=>exact ih h2 (by simpa using he)
abbrev pwG:Nat:=0
theorem QxQ{G:Nat->Prop}{W:World}(hT:W.heap[pwG]? =some Qla){v:Value}{d:D}(h:DR G W v d):∀{s:Sh} {n:Nat},ShO s->Fit1 s d n->DR (fun b=>G b/\b≠pwG) W v d:=by
 induction h with
 |bool b=>intro s n _ _;exact .bool b
 |int k z=>intro s n _ _;exact .int k z
 |nils nl sz=>intro s n _ _;exact .nils nl sz
 |emp a sz=>intro s n _ _;exact .emp a sz
 |sl b off cap sz l g hG hcap hmax hsz hc hr ih=>
  intro s n hs hf;cases hf with
  |list _ es _ m hll=>
   cases hs with
   |list _ _ hne hes=>
    have each:∀(i:Nat) (e:List D) (j:Nat) (x:D),l[i]? =some e->e[j]? =some x->∃s' m',ShO s'/\Fit1 s' x m':=fun i e j x he hx=>by
     obtain⟨m1,h1⟩:=Qn9 hll he;obtain⟨s',m',q1,q2⟩:=QqL h1 hx;exact⟨s',m',hes s' q1,q2⟩
    refine .sl b off cap sz l g (fun hl=>⟨hG hl,fun hb=> ?_⟩) hcap hmax hsz hc fun i e j x he hx=> ?_
    ·cases l with
     |nil=>exact hl rfl
     |cons e l=>
      obtain⟨m1,h1⟩:=Qn9 hll (i:=0) (e:=e) rfl;have h2:=h1.len;cases e with
      |nil=>exact hne (List.eq_nil_of_length_eq_zero (by simpa using h2.symm))
      |cons x e=>
       have hc0:=hc 0 (x::e) 0 x rfl rfl;have hr0:=hr 0 (x::e) 0 x rfl rfl;obtain⟨s',m',q1,q2⟩:=each 0 (x::e) 0 x rfl rfl;subst hb;rw[QbG hT]at hc0;have hz:∃z,g 0 0= .int .u64 z:=by
        rw[List.getElem?_toArray,gtm,omi]at hc0;obtain⟨z,-,e⟩:=hc0;exact⟨z,e.symm⟩
       obtain⟨z,hz⟩:=hz;rw[hz]at hr0;cases hr0;cases q2;cases q1 with
       |int _ h=>exact h rfl
    ·obtain⟨s',m',q1,q2⟩:=each i e j x he hx;exact ih i e j x he hx q1 q2
 |_=>intro s n hs hf;cases hs<;>cases hf
theorem QxI{W:World}(hT:W.heap[pwG]? =some Qla){cs:List Value}{ds:List D}{ss:List Sh}{n:Nat}(h:CsR W cs ds)(hf:FitL ss ds n)(hs:∀s∈ss,ShO s):
  ∀(i:Nat) (v:Value) (d:D),cs[i]? =some v->ds[i]? =some d->DR (fun b=>b<W.heap.size/\b≠pwG) W v d:=fun i v d hv hd=>by
 obtain⟨s,m,q1,q2⟩:=QqL hf hd;exact QxQ hT (h.2 i v d hv hd) (hs s q1) q2
noncomputable def pwA:Ar:=fun b=>if b=pwG then some pwB else none
theorem Qyt:Qbo pwA:=by rw[Qbo,pwA,if_pos rfl]
theorem Qt3{b:Nat}{x:AB}(h:pwA b=some x):b=pwG/\x=pwB:=by
 rw[pwA]at h;split at h
 ·rename_i e;exact⟨e,(osj h).symm⟩
 ·cases h
theorem QBw{W:World}(hT:W.heap[pwG]? =some Qla):HR (fun b=>b<W.heap.size/\b≠pwG) [(0,0)] [.am pwA] W where
 len:=rfl
 own:=fun l l' b k k' h1 h2 _ _=>by
  have:=Qaa h1;have:=Qaa h2;simp at *;omega
 g:=fun b hb=>⟨hb.1,fun⟨l,k,h1,h2⟩=>by
  have hl:l=0:=by have:=Qaa h1;simpa using this
  subst hl;cases h1;obtain⟨x,hx⟩:=h2;exact hb.2 (Qt3 hx).1⟩
 blk:=fun l k h1=>by
  have hl:l=0:=by have:=Qaa h1;simpa using this
  subst hl;cases h1;intro b x hx;obtain⟨rfl,rfl⟩:=Qt3 hx;exact⟨_,hT,rfl⟩
theorem QAq{W:World}(hT:W.heap[pwG]? =some Qla){cs:Array Value}{ds:List D}{ss:List Sh}{n:Nat}(h:CsR W cs.toList ds)(hf:FitL ss ds n)(hs:∀s∈ss,ShO s):
  VR (fun b=>b<W.heap.size/\b≠pwG) W [(0,0)] [.am pwA] (.agg cs) (.agg (ds.map .d)):=by
 refine .agg cs _ (by have:=h.1;simpa using this) fun i v x hv hx=> ?_
 simp only[gtm,omi]at hx;obtain⟨d,hd,rfl⟩:=hx;exact .d _ _ (QxI hT h hf hs i v d (by simpa using hv) hd)
theorem Qyw{f:FuncId}{fn:Func}(hfn:Tryz.prog.funcs[f]? =some fn){avs:List AV}{W:World}{vs:List Value}(hf:FnS Tryz.prog f avs [.am pwA] fun r h'=>r=bA true/\∃m' tl,h'= .am m'::tl/\Qbo m')(hT:W.heap[pwG]? =some Qla)(hv:VRs (fun b=>b<W.heap.size/\b≠pwG) W [(0,0)] [.am pwA] vs avs):
  Calls Tryz.prog f vs.toArray W fun e W'=>e= .returned (.bool true)/\Quiet W W'/\∀b,b<W.heap.size->W'.heap[b]? =W.heap[b]? :=by
 refine((hf.out _ [(0,0)] W vs (QBw hT) hv).calls hfn).mono fun e W' ⟨v,r,G',ι',h',he,hr,hr',hvr,hx⟩=> ?_
 obtain⟨rfl,m',tl,rfl,hT'⟩:=hr;refine⟨?_,hx.quiet,fun b hb=> ?_⟩
 ·have:=QBc (Qb7 hvr);rw[this]at he;exact he
 ·by_cases e:b=pwG
  ·subst e;obtain⟨o,h1,h2⟩:=hr'.blk 0 _ rfl _ _ hT';rw[h1,hT,h2]
  ·refine hx.frame b hb fun⟨l,blk,h1,h2⟩=> ?_
   have hl:l=0:=by have:=Qaa h1;simpa using this
   subst hl;cases h1;obtain⟨x,hx⟩:=h2;exact e (Qt3 hx).1
set_option maxRecDepth 100000 in
theorem QBx{W:World}(hsh:W.ShapedOpen Tryz.prog){cs:Array Value}(h:W.var? Tryz.prog "internal/strconv.uint64pow10"=some cs)(hcs:cs.toList=Go.Lib.pow10Tab.map fun n=>Value.int .u64 n):W.heap[pwG]? =some Qla:=by
 have hg:Tryz.prog.globalNamed "internal/strconv.uint64pow10"=some pwG:=by kernel_rfl
 have hlt:pwG<Tryz.prog.globals.size:=by
  have:decide (pwG<Tryz.prog.globals.size)=true:=by kernel_rfl
  exact of_decide_eq_true this
 have hrow:(((begin Tryz.prog (fun _ _=>0) default).world.heap[pwG]?).bind Obj.row?).isSome=true:=by kernel_rfl
 obtain⟨⟨zero,t⟩,hz⟩:=Option.isSome_iff_exists.1 hrow;have ht:pwT=t:=congrArg QB4 hz;obtain⟨c,h1,-,-⟩:=hsh.1 pwG zero t hlt hz;unfold World.var? at h;rw[hg]at h;simp only[Option.bind_some,h1,osi]at h;subst h;rw[h1,Qla,ht,←hcs]
def Qul:List Sh:=[.list 1 [shI],.bool,.list 2 [shI,shI]]
def QoP:List Sh:=[shI,.list 3 Qul,.list 1 [shI]]
def Qwl:List Sh:=QAD++[.list 3 QoP,shI,shI,shI,shI,.list 2 [shI,shI],shI,shI]
def Qxh(a:Ety):Nat:=a.arcs.length+a.push.length+1
theorem QxL:∀e n,FitL Qul e n->∃a:Ety,e=Qau a/\Qxh a<=n:=by
 intro e n h;obtain⟨d0,ds0,_,_,rfl,rfl,g0,h_0⟩:=h.un;obtain⟨arcs,rfl,w_arcs⟩:=g0.lm QaE (fun _=>1) QzP;rw[QhW]at w_arcs;obtain⟨d1,ds1,_,_,rfl,rfl,g1,h_1⟩:=h_0.un;obtain⟨rep,rfl⟩:=g1.b;obtain⟨d2,ds2,_,_,rfl,rfl,g2,h_2⟩:=h_1.un;obtain⟨push,rfl,w_push⟩:=g2.lm Qaf (fun _=>1) QxM;rw[QhW]at w_push;rw[h_2.end];exact⟨⟨arcs,rep,push⟩,rfl,by simp only[Qxh];omega⟩
def Qy8(x:Tab):Nat:=(x.to.map Qxh).sum+x.down.length+1
theorem QxN:∀e n,FitL QoP e n->∃a:Tab,e=Qal a/\Qy8 a<=n:=by
 intro e n h;obtain⟨d0,ds0,_,_,rfl,rfl,g0,h_0⟩:=h.un;obtain⟨node,rfl,w_node⟩:=g0.i;obtain⟨d1,ds1,_,_,rfl,rfl,g1,h_1⟩:=h_0.un;obtain⟨to,rfl,w_to⟩:=g1.lm Qau Qxh QxL;obtain⟨d2,ds2,_,_,rfl,rfl,g2,h_2⟩:=h_1.un;obtain⟨down,rfl,w_down⟩:=g2.lm QaE (fun _=>1) QzP;rw[QhW]at w_down;rw[h_2.end];exact⟨⟨node,to,down⟩,rfl,by simp only[Qy8];omega⟩
abbrev QBX:={s:Seg // In64 s.kind/\In64 s.num}
def QzX(s:QBX):List D:=Qaf s.1
theorem QB8{z:Int}(h:(Lit.int .i64 z).wf=true):In64 z:=by
 simp only[Lit.wf,Bool.and_eq_true,decide_eq_true_eq]at h;exact h
theorem QzR:∀e n,FitL [shI,shI] e n->∃a:QBX,e=QzX a/\1<=n:=by
 intro e n h;have hw:=h.weight;simp only[List.length_cons]at hw;obtain⟨d0,ds0,_,_,rfl,rfl,g0,h_0⟩:=h.un;obtain⟨z1,rfl,w_z1⟩:=g0.i;obtain⟨d1,ds1,_,_,rfl,rfl,g1,h_1⟩:=h_0.un;obtain⟨z2,rfl,w_z2⟩:=g1.i;rw[h_1.end];exact⟨⟨⟨z1,z2⟩,QB8 w_z1,QB8 w_z2⟩,rfl,by omega⟩
theorem QyU{α:Type}(f:α->Nat):∀{l:List α} {x:α},x∈l->f x<=(l.map f).sum:=by
 intro l;induction l with
 |nil=>intro x h;cases h
 |cons a l ih=>
  intro x h;simp only[List.map_cons,List.sum_cons];rcases List.mem_cons.1 h with rfl|h
  ·omega
  ·have:=ih h;omega
theorem QyN(l:List Ety):sE l<=(l.map Qxh).sum:=by
 show(l.map fun e=>e.arcs.length+e.push.length).sum<=(l.map Qxh).sum;induction l with
 |nil=>simp
 |cons a l ih=>
  have h:Qxh a=a.arcs.length+a.push.length+1:=rfl;simp only[List.map_cons,List.sum_cons];omega
theorem QxK{ds:List D}{n:Nat}(h:FitL Qwl ds n)(hn:n<=1048576):∃c:C24,Qu4 c= .agg (ds.map .d)/\Qzp c/\InS c.p.stack:=by
 obtain⟨d0,ds0,_,_,rfl,rfl,g0,h_0⟩:=h.un;obtain⟨nodes,rfl,w_nodes⟩:=g0.i;obtain⟨d1,ds1,_,_,rfl,rfl,g1,h_1⟩:=h_0.un;obtain⟨ov,rfl,w_ov⟩:=g1.lm Qbq (fun _=>1) QBb;rw[QhW]at w_ov;obtain⟨d2,ds2,_,_,rfl,rfl,g2,h_2⟩:=h_1.un;obtain⟨links,rfl,w_links⟩:=g2.lm QaF (fun _=>1) QzQ;rw[QhW]at w_links;obtain⟨d3,ds3,_,_,rfl,rfl,g3,h_3⟩:=h_2.un;obtain⟨xs,rfl,w_xs⟩:=g3.lm Qal Qy8 QxN;obtain⟨d4,ds4,_,_,rfl,rfl,g4,h_4⟩:=h_3.un;obtain⟨id,rfl,w_id⟩:=g4.i;obtain⟨d5,ds5,_,_,rfl,rfl,g5,h_5⟩:=h_4.un;obtain⟨src,rfl,w_src⟩:=g5.i;obtain⟨d6,ds6,_,_,rfl,rfl,g6,h_6⟩:=h_5.un;obtain⟨dst,rfl,w_dst⟩:=g6.i;obtain⟨d7,ds7,_,_,rfl,rfl,g7,h_7⟩:=h_6.un;obtain⟨flow,rfl,w_flow⟩:=g7.i;obtain⟨d8,ds8,_,_,rfl,rfl,g8,h_8⟩:=h_7.un;obtain⟨stack,rfl,w_stack⟩:=g8.lm QzX (fun _=>1) QzR;rw[QhW]at w_stack;obtain⟨d9,ds9,_,_,rfl,rfl,g9,h_9⟩:=h_8.un;obtain⟨hops,rfl,w_hops⟩:=g9.i;obtain⟨d10,ds10,_,_,rfl,rfl,g10,h_10⟩:=h_9.un;obtain⟨fr,rfl,w_fr⟩:=g10.i;rw[h_10.end];refine⟨⟨⟨nodes,ov,links⟩,xs,⟨id,src,dst,flow,stack.map (·.1),hops⟩,fr⟩,?_,fun x hx=> ?_,fun s hs=> ?_⟩
 ·simp only[Qu4,Qag,Qai,QaK,List.map_map];rfl
 ·have h1:Qy8 x<=(xs.map Qy8).sum:=QyU Qy8 hx;have h2:=QyN x.to;have h3:Qy8 x=(x.to.map Qxh).sum+x.down.length+1:=rfl;omega
 ·obtain⟨y,_,rfl⟩:=List.mem_map.1 hs;exact y.2
theorem QyQ:∀s∈Qwl,ShO s:=by
 have i:ShO shI:= .int _ (by decide);have hi:∀s∈[shI,shI],ShO s:=by intro s hs;simp at hs;subst hs;exact i
 have hi1:∀s∈[shI],ShO s:=by intro s hs;simp at hs;subst hs;exact i
 have he:∀s∈Qul,ShO s:=by
  intro s hs;simp only[Qul,List.mem_cons,List.not_mem_nil,or_false]at hs;rcases hs with rfl|rfl|rfl
  ·exact .list _ _ (by simp) hi1
  ·exact .bool
  ·exact .list _ _ (by simp) hi
 have ht:∀s∈QoP,ShO s:=by
  intro s hs;simp only[QoP,List.mem_cons,List.not_mem_nil,or_false]at hs;rcases hs with rfl|rfl|rfl
  ·exact i
  ·exact .list _ _ (by simp[Qul]) he
  ·exact .list _ _ (by simp) hi1
 intro s hs;simp only[Qwl,QAD,List.cons_append,List.nil_append,List.mem_cons,List.not_mem_nil,or_false]at hs;rcases hs with rfl|rfl|rfl|rfl|rfl|rfl|rfl|rfl|rfl|rfl|rfl
 ·exact i
 ·exact .list _ _ (by simp) (by intro s hs;simp at hs;subst hs;exact .bool)
 ·exact .list _ _ (by simp) (by intro s hs;simp at hs;subst hs;exact i)
 ·exact .list _ _ (by simp[QoP]) ht
 ·exact i
 ·exact i
 ·exact i
 ·exact i
 ·exact .list _ _ (by simp) hi
 ·exact i
 ·exact i
end Go.Ab
namespace Go.Ab
open Go.Proofs
section
variable{t:Top}{xs:List Tab}{p:Pkt}(hc:Qcu t xs=true)(hx:TbI xs)
include hc hx
theorem Qwp{s:WSt}(hs:StI t s){a:Int}(ha:a∈(gW t xs p).ar s):Qa6 t a=s.1:=by
 obtain⟨e1,e2,e3,e4⟩:=Qi2 hc hs.nn hs.lt;have hb:=Qi1 t (Qe0 xs s.1) {p with stack:=s.2,hops:=0};have h0:(gA t xs p s).2.2=0:=hb.some.2 (by
  show 0<(gA t xs p s).1.length;have ha:a∈(gA t xs p s).1:=ha;cases h:(gA t xs p s).1 with
  |nil=>rw[h]at ha;cases ha
  |cons=>simp)
 have h1:=(hb.yes h0).1 a ha;rw[e3]at h1;exact h1
end
end Go.Ab
