/-
  Merged texts, part x.
-/
import Derived.Test.YtohbofilgkdihaaDoorZw
import Derived.Deep.DeepHandedRow
import Derived.Lib.LaidTab
set_option linter.all false
namespace Go.Ab
open Go.Proofs Go.Proofs.YtohbofilgkdihaaDoor Go.ChangeShapes Go.WideShapes Go.ChangeAt Go.RowKit
inductive ShO:Sh->Prop
 |int (k:IntKind) (h:k≠ .u64):ShO (.int k)
 |bool:ShO .bool
 |list (sz:Nat) (es:List Sh) (hne:es≠[]) (h:∀s∈es,ShO s):ShO (.list sz es)
theorem Qpn{ss:List Sh}{ds:List D}{n:Nat}(h:FitL ss ds n):∀{j:Nat} {x:D},ds[j]? =some x->∃s m,s∈ss/\Fit1 s x m:=by
 induction ss generalizing ds n with
 |nil=>intro j x hx;cases h;simp at hx
 |cons s ss ih=>
  intro j x hx;cases h with
  |cons _ _ d ds' a b h1 h2=>
   cases j with
   |zero=>simp at hx;subst hx;exact⟨s,a,by simp,h1⟩
   |succ j=>
    obtain⟨s',m,q1,q2⟩:=ih h2 (by simpa using hx);exact⟨s',m,by simp[q1],q2⟩
theorem QmU{es:List Sh}:∀{l:List (List D)} {n:Nat},FitLL es l n->∀{i:Nat} {e:List D},l[i]? =some e->∃m,FitL es e m:=by
 intro l;induction l with
 |nil=>intro n _ i e he;simp at he
 |cons e0 l ih=>
  intro n h i e he;cases h with
  |cons _ _ _ a b h1 h2=>
   cases i with
   |zero=>simp at he;subst he;exact⟨a,h1⟩
   |succ i=>exact ih h2 (by simpa using he)
abbrev pwG:Nat:=0
theorem Qwd{G:Nat->Prop}{W:World}(hT:W.heap[pwG]? =some Qjs){v:Value}{d:D}(h:DR G W v d):∀{s:Sh} {n:Nat},ShO s->Fit1 s d n->DR (fun b=>G b/\b≠pwG) W v d:=by
 induction h with
 |bool b=>intro s n _ _;exact .bool b
 |int k z=>intro s n _ _;exact .int k z
 |nils nl sz=>intro s n _ _;exact .nils nl sz
 |emp a sz=>intro s n _ _;exact .emp a sz
 |sl b off cap sz l g hG hcap hmax hsz hc hr ih=>
  intro s n hs hf;cases hf with
  |list _ es _ m hll=>
   cases hs with
   |list _ _ hne hes=>
    have each:∀(i:Nat) (e:List D) (j:Nat) (x:D),l[i]? =some e->e[j]? =some x->∃s' m',ShO s'/\Fit1 s' x m':=fun i e j x he hx=>by
     obtain⟨m1,h1⟩:=QmU hll he;obtain⟨s',m',q1,q2⟩:=Qpn h1 hx;exact⟨s',m',hes s' q1,q2⟩
    refine .sl b off cap sz l g (fun hl=>⟨hG hl,fun hb=> ?_⟩) hcap hmax hsz hc fun i e j x he hx=> ?_
    ·cases l with
     |nil=>exact hl rfl
     |cons e l=>
      obtain⟨m1,h1⟩:=QmU hll (i:=0) (e:=e) rfl;have h2:=h1.len;cases e with
      |nil=>exact hne (List.eq_nil_of_length_eq_zero (by simpa using h2.symm))
      |cons x e=>
       have hc0:=hc 0 (x::e) 0 x rfl rfl;have hr0:=hr 0 (x::e) 0 x rfl rfl;obtain⟨s',m',q1,q2⟩:=each 0 (x::e) 0 x rfl rfl;subst hb;rw[QbE hT]at hc0;have hz:∃z,g 0 0= .int .u64 z:=by
        rw[List.getElem?_toArray,gtm,omi]at hc0;obtain⟨z,-,e⟩:=hc0;exact⟨z,e.symm⟩
       obtain⟨z,hz⟩:=hz;rw[hz]at hr0;cases hr0;cases q2;cases q1 with
       |int _ h=>exact h rfl
    ·obtain⟨s',m',q1,q2⟩:=each i e j x he hx;exact ih i e j x he hx q1 q2
 |_=>intro s n hs hf;cases hs<;>cases hf
theorem Qrz{W:World}(hT:W.heap[pwG]? =some Qjs){cs:List Value}{ds:List D}{ss:List Sh}{n:Nat}(h:CsR W cs ds)(hf:FitL ss ds n)(hs:∀s∈ss,ShO s):
  ∀(i:Nat) (v:Value) (d:D),cs[i]? =some v->ds[i]? =some d->DR (fun b=>b<W.heap.size/\b≠pwG) W v d:=fun i v d hv hd=>by
 obtain⟨s,m,q1,q2⟩:=Qpn hf hd;exact Qwd hT (h.2 i v d hv hd) (hs s q1) q2
noncomputable def pwA:Ar:=fun b=>if b=pwG then some pwB else none
theorem QwO:Qbw pwA:=by rw[Qbw,pwA,if_pos rfl]
theorem QsC{b:Nat}{x:AB}(h:pwA b=some x):b=pwG/\x=pwB:=by
 rw[pwA]at h;split at h
 ·rename_i e;exact⟨e,(osj h).symm⟩
 ·cases h
theorem QzE{W:World}(hT:W.heap[pwG]? =some Qjs):HR (fun b=>b<W.heap.size/\b≠pwG) [(0,0)] [.am pwA] W where
 len:=rfl
 own:=fun l l' b k k' h1 h2 _ _=>by
  have:=Qaa h1;have:=Qaa h2;simp at *;omega
 g:=fun b hb=>⟨hb.1,fun⟨l,k,h1,h2⟩=>by
  have hl:l=0:=by have:=Qaa h1;simpa using this
  subst hl;cases h1;obtain⟨x,hx⟩:=h2;exact hb.2 (QsC hx).1⟩
 blk:=fun l k h1=>by
  have hl:l=0:=by have:=Qaa h1;simpa using this
  subst hl;cases h1;intro b x hx;obtain⟨rfl,rfl⟩:=QsC hx;exact⟨_,hT,rfl⟩
theorem QvF{W:World}(hT:W.heap[pwG]? =some Qjs){cs:Array Value}{ds:List D}{ss:List Sh}{n:Nat}(h:CsR W cs.toList ds)(hf:FitL ss ds n)(hs:∀s∈ss,ShO s):
  VR (fun b=>b<W.heap.size/\b≠pwG) W [(0,0)] [.am pwA] (.agg cs) (.agg (ds.map .d)):=by
 refine .agg cs _ (by have:=h.1;simpa using this) fun i v x hv hx=> ?_
 simp only[gtm,omi]at hx;obtain⟨d,hd,rfl⟩:=hx;exact .d _ _ (Qrz hT h hf hs i v d (by simpa using hv) hd)
theorem QwR{f:FuncId}{fn:Func}(hfn:Tryd.prog.funcs[f]? =some fn){avs:List AV}{W:World}{vs:List Value}(hf:FnS Tryd.prog f avs [.am pwA] fun r h'=>r=bA true/\∃m' tl,h'= .am m'::tl/\Qbw m')(hT:W.heap[pwG]? =some Qjs)(hv:VRs (fun b=>b<W.heap.size/\b≠pwG) W [(0,0)] [.am pwA] vs avs):
  Calls Tryd.prog f vs.toArray W fun e W'=>e= .returned (.bool true)/\Quiet W W'/\∀b,b<W.heap.size->W'.heap[b]? =W.heap[b]? :=by
 refine((hf.out _ [(0,0)] W vs (QzE hT) hv).calls hfn).mono fun e W' ⟨v,r,G',ι',h',he,hr,hr',hvr,hx⟩=> ?_
 obtain⟨rfl,m',tl,rfl,hT'⟩:=hr;refine⟨?_,hx.quiet,fun b hb=> ?_⟩
 ·have:=Qzj (Qch hvr);rw[this]at he;exact he
 ·by_cases e:b=pwG
  ·subst e;obtain⟨o,h1,h2⟩:=hr'.blk 0 _ rfl _ _ hT';rw[h1,hT,h2]
  ·refine hx.frame b hb fun⟨l,blk,h1,h2⟩=> ?_
   have hl:l=0:=by have:=Qaa h1;simpa using this
   subst hl;cases h1;obtain⟨x,hx⟩:=h2;exact e (QsC hx).1
set_option maxRecDepth 100000 in
theorem QzF{W:World}(hsh:W.ShapedOpen Tryd.prog){cs:Array Value}(h:W.var? Tryd.prog "internal/strconv.uint64pow10"=some cs)(hcs:cs.toList=Go.Lib.pow10Tab.map fun n=>Value.int .u64 n):W.heap[pwG]? =some Qjs:=by
 have hg:Tryd.prog.globalNamed "internal/strconv.uint64pow10"=some pwG:=by kernel_rfl
 have hlt:pwG<Tryd.prog.globals.size:=by
  have:decide (pwG<Tryd.prog.globals.size)=true:=by kernel_rfl
  exact of_decide_eq_true this
 have hrow:(((begin Tryd.prog (fun _ _=>0) default).world.heap[pwG]?).bind Obj.row?).isSome=true:=by kernel_rfl
 obtain⟨⟨zero,t⟩,hz⟩:=Option.isSome_iff_exists.1 hrow;have ht:pwT=t:=congrArg QAf hz;obtain⟨c,h1,-,-⟩:=hsh.1 pwG zero t hlt hz;unfold World.var? at h;rw[hg]at h;simp only[Option.bind_some,h1,osi]at h;subst h;rw[h1,Qjs,ht,←hcs]
theorem QtQ{ds:List D}{n:Nat}(h:FitL QuV ds n):∃c:Top,QaU c= .agg (ds.map .d):=by
 obtain⟨d0,ds0,_,_,rfl,rfl,g0,h_0⟩:=h.un;obtain⟨nodes,rfl,w_nodes⟩:=g0.i;obtain⟨d1,ds1,_,_,rfl,rfl,g1,h_1⟩:=h_0.un;obtain⟨ov,rfl,w_ov⟩:=g1.lm Qbs (fun _=>1) Qx6;rw[QoQ]at w_ov;obtain⟨d2,ds2,_,_,rfl,rfl,g2,h_2⟩:=h_1.un;obtain⟨links,rfl,w_links⟩:=g2.lm QaJ (fun _=>1) Qx7;rw[QoQ]at w_links;rw[h_2.end];exact⟨⟨nodes,ov,links⟩,rfl⟩
theorem Qwa{ds:List D}{n:Nat}(h:FitL [.list 1 [.bool]] ds n):∃l:List Bool,ds=[Qaf l]:=by
 obtain⟨d0,ds0,_,_,rfl,rfl,g0,h_0⟩:=h.un;obtain⟨ov,rfl,w_ov⟩:=g0.lm Qbs (fun _=>1) Qx6;rw[QoQ]at w_ov;rw[h_0.end];exact⟨ov,rfl⟩
theorem QtP{ds:List D}{n:Nat}(h:FitL [shI,shI] ds n):∃a b:Int,AV.agg [.d (iD a),.d (iD b)]= .agg (ds.map .d):=by
 obtain⟨d0,ds0,_,_,rfl,rfl,g0,h_0⟩:=h.un;obtain⟨z1,rfl,w_z1⟩:=g0.i;obtain⟨d1,ds1,_,_,rfl,rfl,g1,h_1⟩:=h_0.un;obtain⟨z2,rfl,w_z2⟩:=g1.i;rw[h_1.end];exact⟨z1,z2,rfl⟩
theorem Qxc:ShO shI:= .int _ (by decide)
theorem QyS(l:List Sh)(h:∀s∈l,s=shI):∀s∈l,ShO s:=fun s hs=>by rw[h s hs];exact Qxc
theorem Qxe:∀s∈QuV,ShO s:=by
 intro s hs;simp only[QuV,List.mem_cons,List.not_mem_nil,or_false]at hs;rcases hs with rfl|rfl|rfl
 ·exact Qxc
 ·exact .list _ _ (by simp) (by intro s hs;simp at hs;subst hs;exact .bool)
 ·exact .list _ _ (by simp) (by intro s hs;simp at hs;subst hs;exact Qxc)
theorem Qxb:∀s∈[Sh.list 1 [.bool]],ShO s:=by
 intro s hs;simp only[List.mem_cons,List.not_mem_nil,or_false]at hs;subst hs;exact .list _ _ (by simp) (by intro s hs;simp at hs;subst hs;exact .bool)
theorem QyC{W:World}(hT:W.heap[pwG]? =some Qjs){v:Value}{l:List Bool}{n:Nat}(h:CsR W [v] [Qaf l])(hf:FitL [.list 1 [.bool]] [Qaf l] n):
  VR (fun b=>b<W.heap.size/\b≠pwG) W [(0,0)] [.am pwA] v (.c (.d (Qaf l))):=
 .c _ _ (.d _ _ (Qrz hT h hf Qxb 0 _ _ rfl rfl))
end Go.Ab
namespace Go.Ab
open Go.Proofs
theorem Qp1(k:Nat):(QaK k).Pairwise (·<·):=by
 rw[QaK,List.pairwise_map];exact List.pairwise_lt_range.imp fun h=>by omega
theorem Qjo{t:Top}{n:Int}{k:Nat}{f:Int->Bool}(hf:∀a,f a=true->Qbf t a=n):QnJ t n ((QaK k).filter f)=true:=by
 have hp:=(Qp1 k).filter f;refine Qgs.2 fun i hi=> ?_
 have hx:((QaK k).filter f)[i]? =some (((QaK k).filter f)[i]):=lgE hi;refine Qni hx (hf _ (List.mem_filter.1 (mgE hx)).2) ?_;rcases Nat.eq_zero_or_pos i with h|h
 ·exact .inl h
 ·refine .inr ⟨_,lgE (show i-1<_ by omega),?_⟩;exact List.pairwise_iff_getElem.1 hp (i-1) i (by omega) hi (by omega)
section
variable{t:Top}{down:List Bool}(hf:Qbi t down=true)
include hf
theorem Qfx:Qam t=true:=by
 simp only[Qbi,Bool.and_eq_true]at hf;exact hf.1
theorem Qst{n d:Int}(hn:0<=n/\n<t.nodes)(hd:0<=d/\d<t.nodes):(Qg7 t down n d).1=Qcj t down (QaZ t down d false) n d:=by
 rw[Qg7,if_pos hf,if_pos hd,if_pos hn]
theorem QvL{n:Int}(hn:0<=n/\n<t.nodes){i:Nat}(hi:(i:Int)<t.nodes):(toL t down n t.nodes.toNat)[i]? =some ⟨Qcj t down (QaZ t down (i:Int) false) n (i:Int),false,[]⟩:=by
 rw[toL,QaK,List.map_map,gtm,List.getElem?_range (by omega)];simp only[Option.map_some,Function.comp];rw[Qst hf hn ⟨by omega,hi⟩]
omit hf in
theorem Qss(D:List Int)(n d:Int):QnJ t n (Qcj t down D n d)=true:=by
 refine Qjo fun a h=> ?_
 simp only[Bool.and_eq_true,decide_eq_true_eq]at h;exact h.1
omit hf in
theorem Qks(D:List Int)(d:Int):Qcj t down D d d=[]:=by
 rw[Qcj,List.filter_eq_nil_iff];intro a _ h;simp only[Bool.and_eq_true,decide_eq_true_eq,onB,Bool.not_eq_true',decide_eq_false_iff_not]at h;exact h.2.1.1.1.2 h.1
theorem QkH{n:Int}(hn:0<=n/\n<t.nodes):QkG t ⟨n,toL t down n t.nodes.toNat,QjZ t down n⟩=true:=by
 have hl:(toL t down n t.nodes.toNat).length=t.nodes.toNat:=by simp[toL,QaK]
 refine Qc4.2 ⟨Qfx hf,hn,by simp only;omega,?_,fun i e he=> ?_⟩
 ·simp only[QjZ,Qj7,List.filter_filter];refine Qjo fun a h=> ?_
  simp only[Bool.and_eq_true,decide_eq_true_eq]at h;exact h.2
 ·simp only at he ⊢;have hi:=Qaa he;rw[QvL hf hn (by omega)]at he;obtain rfl:=osj he;refine QdY.2 ⟨Qss _ _ _,fun⟨h1,h2⟩=> ?_,fun h=>(by cases h),fun _=>rfl,fun s hs=>(by cases hs)⟩;simp only at h2;rw[h1,Qks]at h2;simp at h2
theorem Qs3{n:Int}(hn:0<=n/\n<t.nodes):Qfa (Qbt t down t.nodes.toNat) n=⟨n,toL t down n t.nodes.toNat,QjZ t down n⟩:=by
 have h:(Qbt t down t.nodes.toNat)[n.toNat]? =some (QbR t down ((n.toNat:Nat):Int)).1:=by
  rw[Qbt,gtm,List.getElem?_range (by omega)];rfl
 rw[Qfa,List.getD_eq_getElem?_getD,h,Option.getD_some,Int.toNat_of_nonneg hn.1,QbR,if_pos hf,if_pos hn]
theorem QmM:Qgf t (Qbt t down t.nodes.toNat)=true:=by
 have hl:(Qbt t down t.nodes.toNat).length=t.nodes.toNat:=by simp[Qbt]
 have hv:=Qaj.1 (Qfx hf);refine QbV.2 ⟨Qfx hf,by omega,fun i x hx=> ?_⟩;have hi:=Qaa hx;have hn:0<=(i:Int)/\(i:Int)<t.nodes:=⟨by omega,by omega⟩;rw[Qbt,gtm,List.getElem?_range (by omega)]at hx;simp only[Option.map_some,osi]at hx;rw[QbR,if_pos hf,if_pos hn]at hx;subst hx;exact⟨rfl,QkH hf hn⟩
theorem Qqj{n d:Int}(hn:0<=n/\n<t.nodes)(hd:0<=d/\d<t.nodes):ent (Qfa (Qbt t down t.nodes.toNat) n) d=⟨Qcj t down (QaZ t down d false) n d,false,[]⟩:=by
 have h:=QvL hf hn (i:=d.toNat) (by omega);rw[Int.toNat_of_nonneg hd.1]at h;rw[Qs3 hf hn,ent,List.getD_eq_getElem?_getD];simp only;rw[h];rfl
theorem Qt7{p:Pkt}{n:Int}(hn:0<=n/\n<t.nodes)(hd:0<=p.dst/\p.dst<t.nodes):
  (p.dst=n->gA t (Qbt t down t.nodes.toNat) p (n,[])=([],{p with stack:=[],hops:=0},-1))/\
  (p.dst≠n->Qcj t down (QaZ t down p.dst false) n p.dst=[]->gA t (Qbt t down t.nodes.toNat) p (n,[])=([],{p with stack:=[],hops:=0},1))/\
  (p.dst≠n->Qcj t down (QaZ t down p.dst false) n p.dst≠[]->gA t (Qbt t down t.nodes.toNat) p (n,[])=(Qcj t down (QaZ t down p.dst false) n p.dst,{p with stack:=[],hops:=1},0)):=by
 have hta:=Qs3 hf hn;have hen:=Qqj hf hn hd;have hs:=QqR (x:=Qfa (Qbt t down t.nodes.toNat) n) (p:={p with stack:=[],hops:=0}) (by rw[hta];exact QkH hf hn) hd (by simp only;omega) rfl;have hnode:(Qfa (Qbt t down t.nodes.toNat) n).node=n:=by rw[hta]
 simp only[hnode,hen]at hs;obtain⟨s1,s2,s3⟩:=hs;refine⟨fun h=>s1 h,fun h h'=>s2 h (by rw[h'];rfl),fun h h'=> ?_⟩;have:=s3 h (List.length_pos_iff.2 h');exact this
end
section
variable{σ:Type}[DecidableEq σ]
theorem QtR{f:Kn σ->σ->Option (Kn σ)}{Q:σ->Prop}:∀(ys:List σ) (K:Kn σ) (c:Int),(∀y∈ys,∀K,(∀x,lkK K x=some none->Q x)->∃K',f K y=some K'/\∀x,lkK K' x=some none->lkK K x=some none)->(∀x,lkK K x=some none->Q x)->
  ∃K' c',Qga f ys K c=some (K',c')/\∀x,lkK K' x=some none->lkK K x=some none:=by
 intro ys;induction ys with
 |nil=>intro K c _ _;exact⟨K,c,rfl,fun x h=>h⟩
 |cons y ys ih=>
  intro K c hf hK;obtain⟨K1,h1,h2⟩:=hf y (by simp) K hK;obtain⟨K2,c2,h3,h4⟩:=ih K1 (QiL (c+Qxz K1 y)) (fun z hz=>hf z (by simp[hz])) fun x hx=>hK x (h2 x hx)
  refine⟨K2,c2,?_,fun x hx=>h2 x (h4 x hx)⟩;rw[Qga,h1];exact h3
theorem Qwc{nx:σ->List σ}:∀(n m:Nat) (K:Kn σ) (s:σ),n<m->Dep nx n s->(∀x,lkK K x=some none->¬Dep nx n x)->∃K',dfs nx m K s=some K'/\∀x,lkK K' x=some none->lkK K x=some none:=by
 intro n;induction n with
 |zero=>
  intro m K s hm hd hK;obtain⟨m,rfl⟩:∃k,m=k+1:=⟨m-1,by omega⟩;rw[dfs];cases hk:lkK K s with
  |some c=>
   cases c with
   |some c=>exact⟨K,rfl,fun x h=>h⟩
   |none=>exact absurd hd (hK s hk)
  |none=>
   rw[show nx s=[]from hd];refine⟨_,rfl,fun x hx=> ?_⟩;rw[Qgm]at hx;split at hx
   ·rename_i e;subst e;rw[QeU,hk]at hx;simp[lkK]at hx
   ·rename_i e;rw[QeU]at hx;cases hk2:lkK K x with
    |some c=>rw[hk2]at hx;exact hx
    |none=>
     rw[hk2]at hx;simp only[lkK]at hx;rw[if_neg fun h=>e h.symm]at hx;cases hx
 |succ n ih=>
  intro m K s hm hd hK;by_cases hs:Dep nx n s
  ·exact ih m K s (by omega) hs fun x hx h=>hK x hx (Qkj h)
  ·obtain⟨m,rfl⟩:∃k,m=k+1:=⟨m-1,by omega⟩;rw[dfs];cases hk:lkK K s with
   |some c=>
    cases c with
    |some c=>exact⟨K,rfl,fun x h=>h⟩
    |none=>exact absurd hd (hK s hk)
   |none=>
    obtain⟨K1,c1,h1,h2⟩:=QtR (f:=dfs nx m) (Q:=fun x=>¬Dep nx n x) (nx s) (K++[(s,none)]) (if nx s=[]then 1 else 0) (fun y hy K2 hK2=>ih m K2 y (by omega) (hd y hy) hK2) fun x hx h=>by
     rw[QeU]at hx;cases hk2:lkK K x with
     |some c=>
      rw[hk2]at hx;simp only[osi]at hx;subst hx;exact hK x hk2 (Qkj h)
     |none=>
      rw[hk2]at hx;simp only[lkK]at hx;split at hx
      ·rename_i e;subst e;exact hs h
      ·cases hx
    rw[h1];refine⟨_,rfl,fun x hx=> ?_⟩;rw[Qgm]at hx;split at hx
    ·rename_i e;cases h3:lkK K1 x with
     |none=>rw[h3]at hx;cases hx
     |some c=>rw[h3]at hx;simp at hx
    ·rename_i e;have h4:=h2 x hx;rw[QeU]at h4;cases hk2:lkK K x with
     |some c=>rw[hk2]at h4;exact h4
     |none=>
      rw[hk2]at h4;simp only[lkK]at h4;rw[if_neg fun h=>e h.symm]at h4;cases h4
theorem Qx9{nx:σ->List σ}{U:List σ}(hU:∀x∈U,∀y∈nx x,y∈U){n:Nat}{x:σ}(hx:x∈U)(h:Dep nx n x):∃k,k<U.length/\Dep nx k x:=by
 have key:∀n x,x∈U->Dep nx n x->(∀k,n=k+1->¬Dep nx k x)->∃l:List σ,l.Nodup/\(∀y∈l,y∈U/\Dep nx n y)/\l.length=n+1:=by
  intro n;induction n with
  |zero=>intro x hx h _;exact⟨[x],by simp,fun y hy=>by simp at hy;rw[hy];exact⟨hx,h⟩,rfl⟩
  |succ n ih=>
   intro x hx h hn;have hn:=hn n rfl;obtain⟨y,hy,hy2⟩:∃y∈nx x,∀k,n=k+1->¬Dep nx k y:=by
    cases n with
    |zero=>
     cases he:nx x with
     |nil=>exact absurd he hn
     |cons y r=>exact⟨y,by simp,fun k hk=>by omega⟩
    |succ k=>
     refine Classical.byContradiction fun hc=>hn fun y hy=>Classical.byContradiction fun hd=>hc ⟨y,hy,fun k' hk=> ?_⟩
     obtain rfl:k'=k:=by omega
     exact hd
   obtain⟨l,h1,h2,h3⟩:=ih y (hU x hx y hy) (h y hy) hy2;refine⟨x::l,?_,fun z hz=> ?_,by simp[h3]⟩
   ·rw[List.nodup_cons];exact⟨fun hm=>hn (h2 x hm).2,h1⟩
   ·rcases List.mem_cons.1 hz with rfl|hz
    ·exact⟨hx,h⟩
    ·exact⟨(h2 z hz).1,Qkj (h2 z hz).2⟩
 have min:∀n,Dep nx n x->∃k,Dep nx k x/\∀j,k=j+1->¬Dep nx j x:=by
  intro n;induction n with
  |zero=>intro h;exact⟨0,h,fun j hj=>by omega⟩
  |succ n ih=>
   intro h;by_cases hd:Dep nx n x
   ·exact ih hd
   ·exact⟨n+1,h,fun j hj=>by
     obtain rfl:n=j:=by omega
     exact hd⟩
 obtain⟨k,h1,h2⟩:=min n h;obtain⟨l,g1,g2,g3⟩:=key k x hx h1 h2;have:=g1.length_le_of_subset fun y hy=>(g2 y hy).1
 exact⟨k,by omega,h1⟩
theorem Qwi{nx:σ->List σ}{s:σ}{V:List σ}(hnd:V.Nodup)(hs:s∈V)(hV:∀x∈V,∀y∈nx x,y∈V):∃U,Expl nx s U/\U.length<=V.length:=by
 classical
 let R:σ->Prop:=fun x=>∀W:σ->Prop,W s->(∀x,W x->∀y∈nx x,W y)->W x
 have hRs:R s:=fun W h _=>h
 have hRn:∀x,R x->∀y∈nx x,R y:=fun x hx y hy W h1 h2=>h2 x (hx W h1 h2) y hy
 have hRV:∀x,R x->x∈V:=fun x hx=>hx (·∈V) hs hV
 have hU:∀x,x∈s::V.filter (fun x=>decide (R x/\x≠s))↔R x:=fun x=>by
  simp only[List.mem_cons,List.mem_filter,decide_eq_true_eq];constructor
  ·rintro(rfl|⟨-,h,-⟩)
   ·exact hRs
   ·exact h
  ·intro h;by_cases e:x=s
   ·exact .inl e
   ·exact .inr ⟨hRV x h,h,e⟩
 have hn:(s::V.filter (fun x=>decide (R x/\x≠s))).Nodup:=by
  refine List.nodup_cons.2 ⟨fun h=> ?_,hnd.filter _⟩;have:=(List.mem_filter.1 h).2;simp at this
 refine⟨s::V.filter (fun x=>decide (R x/\x≠s)),⟨⟨_,rfl⟩,hn,fun x hx y hy=>(hU y).2 (hRn x ((hU x).1 hx) y hy),fun W h1 h2 x hx=>(hU x).1 hx W h1 h2⟩,hn.length_le_of_subset fun x hx=>hRV x ((hU x).1 hx)⟩
end
inductive RW (t:Top) (d:Int):Int->List Int->Prop
 |nil:RW t d d []
 |cons (n a:Int) (w:List Int) (h0:0<=a/\a<2*t.links.length) (h1:Qbf t a=n) (h2:w≠[]->ovT t (Qbm t a)=false) (h3:RW t d (Qbm t a) w):RW t d n (a::w)
section
variable{t:Top}{down:List Bool}(hf:Qbi t down=true){p:Pkt}(hd:0<=p.dst/\p.dst<t.nodes)
noncomputable abbrev gR (t:Top) (down:List Bool) (p:Pkt):Wlk:=gW t (Qbt t down t.nodes.toNat) p
include hf hd
theorem Ql6:IsDist t down p.dst false (QaZ t down p.dst false):=(Qff (Qfx hf) down false hd.1 hd.2).1
theorem QoJ{n:Int}(hn:0<=n/\n<t.nodes):(gR t down p).ar (n,[])=Qcj t down (QaZ t down p.dst false) n p.dst/\((gR t down p).rs (n,[])=if p.dst=n then -1 else if Qcj t down (QaZ t down p.dst false) n p.dst=[]then 1 else 0)/\∀a∈Qcj t down (QaZ t down p.dst false) n p.dst,(gR t down p).to (n,[]) a=(Qbm t a,[]):=by
 obtain⟨s1,s2,s3⟩:=Qt7 hf hn hd;by_cases e:p.dst=n
 ·have h:=s1 e;have hnx:Qcj t down (QaZ t down p.dst false) n p.dst=[]:=by rw[←e];exact Qks _ _
  refine⟨?_,?_,fun a ha=> ?_⟩
  ·show(gA t _ p (n,[])).1=_;rw[h,hnx]
  ·show(gA t _ p (n,[])).2.2=_;rw[h,if_pos e]
  ·rw[hnx]at ha;cases ha
 ·by_cases hnx:Qcj t down (QaZ t down p.dst false) n p.dst=[]
  ·have h:=s2 e hnx;refine⟨?_,?_,fun a ha=> ?_⟩
   ·show(gA t _ p (n,[])).1=_;rw[h,hnx]
   ·show(gA t _ p (n,[])).2.2=_;rw[h,if_neg e,if_pos hnx]
   ·rw[hnx]at ha;cases ha
  ·have h:=s3 e hnx;refine⟨?_,?_,fun a ha=> ?_⟩
   ·show(gA t _ p (n,[])).1=_;rw[h]
   ·show(gA t _ p (n,[])).2.2=_;rw[h,if_neg e,if_neg hnx]
   ·show(Qbm t a,(gA t _ p (n,[])).2.1.stack)=_;rw[h]
omit hd in
theorem Qjw{d n a:Int}{D:List Int}(ha:a∈Qcj t down D n d):(0<=a/\a<2*t.links.length)/\Qbf t a=n/\n≠d/\0<=gt D (Qbm t a)/\Qcf t (Qbm t a) d=true/\gt D n=gt D (Qbm t a)+Qbd t a/\(0<=Qbm t a/\Qbm t a<t.nodes)/\1<=Qbd t a:=by
 obtain⟨h1,h2⟩:=List.mem_filter.1 ha;simp only[QaK,List.mem_map,List.mem_range]at h1;obtain⟨k,hk,rfl⟩:=h1;simp only[Bool.and_eq_true,decide_eq_true_eq,onB,Bool.not_eq_true',decide_eq_false_iff_not]at h2;obtain⟨e1,⟨⟨⟨_,e3⟩,e4⟩,e5⟩,e6⟩:=h2;have hr:0<=(k:Int)/\(k:Int)<2*t.links.length:=by omega
 obtain⟨-,f2,-,f4,-⟩:=QbL (Qfx hf) hr.1 hr.2;rw[e1]at e3 e6;exact⟨hr,e1,e3,e4,e5,e6,f2,f4⟩
theorem Qw6{n:Int}(hn:0<=n/\n<t.nodes)(hne:n≠p.dst)(h:0<=gt (QaZ t down p.dst false) n):Qcj t down (QaZ t down p.dst false) n p.dst≠[]:=by
 obtain⟨a,a0,a1,ho,hx,hy,hc⟩:=(Ql6 hf hd).tight n hn.1 hn.2 hne h;simp only[xOf,yOf,Qf4,Bool.false_eq_true,if_false,Bool.and_eq_true]at ho hx hy hc;intro he;have:a∈Qcj t down (QaZ t down p.dst false) n p.dst:=by
  refine List.mem_filter.2 ⟨?_,?_⟩
  ·simp only[QaK,List.mem_map,List.mem_range];exact⟨a.toNat,by omega,by omega⟩
  ·simp only[Bool.and_eq_true,decide_eq_true_eq,onB,Bool.not_eq_true',decide_eq_false_iff_not];rw[hx];exact⟨rfl,⟨⟨⟨ho.1,hne⟩,hy⟩,ho.2⟩,hc⟩
 rw[he]at this;cases this
theorem QyN:∀(k:Nat) (n:Int),0<=n/\n<t.nodes->gt (QaZ t down p.dst false) n<=k->Dep (gR t down p).nx k (n,[]):=by
 intro k;induction k with
 |zero=>
  intro n hn hk;obtain⟨h1,-,-⟩:=QoJ hf hd hn;show nxt (gR t down p).ar (gR t down p).to (n,[])=[];rw[nxt,h1];cases hl:Qcj t down (QaZ t down p.dst false) n p.dst with
  |nil=>rfl
  |cons a r=>
   obtain⟨-,-,-,q1,-,q2,-,q3⟩:=Qjw hf (a:=a) (by rw[hl];simp);omega
 |succ k ih=>
  intro n hn hk y hy;obtain⟨h1,-,h3⟩:=QoJ hf hd hn;rw[Wlk.nx,nxt,List.mem_map]at hy;obtain⟨a,ha,rfl⟩:=hy;rw[h1]at ha;obtain⟨-,-,-,q1,-,q2,q4,q3⟩:=Qjw hf ha;rw[h3 a ha];exact ih _ q4 (by omega)
theorem QyM:∀(k:Nat) (n:Int) (q:List Int),0<=n/\n<t.nodes->0<=gt (QaZ t down p.dst false) n->Dep (gR t down p).nx k (n,[])->∀y∈brs (gR t down p).ar (gR t down p).to k (n,[]) q,y.1=(p.dst,[])/\∃w,y.2=q++w/\RW t p.dst n w/\(w.map (Qbd t)).sum=gt (QaZ t down p.dst false) n/\(w=[]->n=p.dst):=by
 have base:∀(n:Int) (q:List Int),0<=n/\n<t.nodes->0<=gt (QaZ t down p.dst false) n->(gR t down p).ar (n,[])=[]->∀y:WSt×List Int,y=((n,[]),q)->y.1=(p.dst,[])/\∃w,y.2=q++w/\RW t p.dst n w/\(w.map (Qbd t)).sum=gt (QaZ t down p.dst false) n/\(w=[]->n=p.dst):=by
  rintro n q hn h0 har y rfl;obtain⟨h1,-,-⟩:=QoJ hf hd hn;have hne:n=p.dst:=Classical.byContradiction fun hne=>Qw6 hf hd hn hne h0 (by rw[←h1];exact har)
  subst hne;exact⟨rfl,[],by simp,.nil,by rw[(Ql6 hf hd).zero];rfl,fun _=>rfl⟩
 intro k;induction k with
 |zero=>
  intro n q hn h0 hD y hy;simp only[brs,List.mem_singleton]at hy;refine base n q hn h0 ?_ y hy;have:nxt (gR t down p).ar (gR t down p).to (n,[])=[]:=hD;rw[nxt,List.map_eq_nil_iff]at this;exact this
 |succ k ih=>
  intro n q hn h0 hD y hy;rw[brs]at hy;split at hy
  ·rename_i har;exact base n q hn h0 har y (by simpa using hy)
  ·rename_i har;obtain⟨a,ha,hy⟩:=List.mem_flatMap.1 hy;have hDa:=hD ((gR t down p).to (n,[]) a) (List.mem_map.2 ⟨a,ha,rfl⟩);obtain⟨h1,-,h3⟩:=QoJ hf hd hn;rw[h1]at ha;obtain⟨q0,q1,q2,q3,q4,q5,q6,q7⟩:=Qjw hf ha;rw[h3 a ha]at hy hDa;obtain⟨r1,w,r2,r3,r4,r5⟩:=ih (Qbm t a) (q++[a]) q6 q3 hDa y hy;refine⟨r1,a::w,by rw[r2];simp,.cons n a w q0 q1 (fun hw=> ?_) r3,?_,fun h=>by cases h⟩
   ·simp only[Qcf,Bool.or_eq_true,decide_eq_true_eq,Bool.not_eq_true']at q4;rcases q4 with q4|q4
    ·rw[q4]at r3;exfalso;cases r3 with
     |nil=>exact hw rfl
     |cons _ b w' g0 g1 g2 g3=>
      rw[q4,(Ql6 hf hd).zero]at r4;have hpos:∀(m:Int) (l:List Int),RW t p.dst m l->0<=(l.map (Qbd t)).sum:=by
       intro m l hl;induction hl with
       |nil=>simp
       |cons n a w h0 h1 h2 h3 ih=>
        have:=(QbL (Qfx hf) h0.1 h0.2).2.2.2.1;simp only[List.map_cons,List.sum_cons];omega
      have:=hpos _ _ g3;have:=(QbL (Qfx hf) g0.1 g0.2).2.2.2.1;simp only[List.map_cons,List.sum_cons]at r4;omega
    ·exact q4
   ·simp only[List.map_cons,List.sum_cons];omega
omit hf in
theorem QsP:((List.range t.nodes.toNat).map fun(n:Nat)=>((n:Int),([]:List Seg))).Nodup/\∀n:Int,0<=n->n<t.nodes->(n,([]:List Seg))∈(List.range t.nodes.toNat).map fun(n:Nat)=>((n:Int),([]:List Seg)):=by
 refine⟨?_,fun n h0 h1=>List.mem_map.2 ⟨n.toNat,List.mem_range.2 (by omega),by rw[Int.toNat_of_nonneg h0]⟩⟩;rw[List.nodup_iff_pairwise_ne,List.pairwise_map];exact List.pairwise_lt_range.imp fun h e=>by have:=(Prod.mk.inj e).1;omega
theorem QyL{n:Int}(hn:0<=n/\n<t.nodes):∃U,Expl (gR t down p).nx (n,[]) U/\U.length<=t.nodes.toNat/\
  (Qk6 (gR t down p) U.length (n,[]) 0=([],6)\/∃l,Qk6 (gR t down p) U.length (n,[]) 0=(l,0)/\
   (gt (QaZ t down p.dst false) n<0->l=[⟨n,1,[]⟩])/\
   (0<=gt (QaZ t down p.dst false) n->l≠[]/\∀r∈l,r.rs= -1/\RW t p.dst n r.path/\(r.path.map (Qbd t)).sum=gt (QaZ t down p.dst false) n)):=by
 obtain⟨v1,v2⟩:=QsP (t:=t) hd;have hcl:∀x∈(List.range t.nodes.toNat).map (fun(n:Nat)=>((n:Int),([]:List Seg))),∀y∈(gR t down p).nx x,y∈(List.range t.nodes.toNat).map fun(n:Nat)=>((n:Int),([]:List Seg)):=by
  intro x hx y hy;obtain⟨k,hk,rfl⟩:=List.mem_map.1 hx;have hk':=List.mem_range.1 hk;have hkn:0<=(k:Int)/\(k:Int)<t.nodes:=by omega
  obtain⟨h1,-,h3⟩:=QoJ hf hd hkn;rw[Wlk.nx,nxt,List.mem_map]at hy;obtain⟨a,ha,rfl⟩:=hy;rw[h1]at ha;rw[h3 a ha];obtain⟨-,-,-,-,-,-,q6,-⟩:=Qjw hf ha;exact v2 _ q6.1 q6.2
 obtain⟨U,hE,hl⟩:=Qwi v1 (v2 n hn.1 hn.2) hcl;refine⟨U,hE,by simpa using hl,?_⟩;obtain⟨k,hk,hdk⟩:=Qx9 hE.cl hE.st (QyN hf hd (gt (QaZ t down p.dst false) n).toNat n hn (by omega));obtain⟨K,hK,-⟩:=Qwc k U.length [] (n,[]) hk hdk fun x h=>by cases h
 have hdU:Dep (gR t down p).nx U.length (n,[]):=Qki (by omega) hdk;simp only[Qk6,if_true,hK];split
 ·exact .inl rfl
 ·refine .inr ⟨_,rfl,fun h=> ?_,fun h=>⟨?_,fun r hr=> ?_⟩⟩
  ·obtain⟨h1,h2,-⟩:=QoJ hf hd hn;have hnx:Qcj t down (QaZ t down p.dst false) n p.dst=[]:=by
    cases hl:Qcj t down (QaZ t down p.dst false) n p.dst with
    |nil=>rfl
    |cons a r=>
     obtain⟨-,-,-,q1,-,q2,-,q3⟩:=Qjw hf (a:=a) (by rw[hl];simp);omega
   have hne:p.dst≠n:=fun e=>by rw[←e,(Ql6 hf hd).zero]at h;omega
   rw[hnx]at h1;rw[if_neg hne,if_pos hnx]at h2;have:brs (gR t down p).ar (gR t down p).to U.length (n,[]) []=[((n,[]),[])]:=by
    cases U.length with
    |zero=>rfl
    |succ m=>rw[brs,if_pos h1]
   rw[brR,this];simp only[List.map_cons,List.map_nil,QzJ,h2]
  ·intro he;have h1:=QiD (ar:=(gR t down p).ar) (to:=(gR t down p).to) U.length (n,[]) [];have h2:=Qsw (nx:=(gR t down p).nx) U.length (n,[]);rw[brR,List.map_eq_nil_iff]at he;rw[he]at h1;simp only[List.length_nil]at h1;have h3:num (nxt (gR t down p).ar (gR t down p).to) U.length (n,[])=num (gR t down p).nx U.length (n,[]):=rfl;omega
  ·rw[brR]at hr;obtain⟨y,hy,rfl⟩:=List.mem_map.1 hr;obtain⟨r1,w,r2,r3,r4,r5⟩:=QyM hf hd U.length n [] hn h hdU y hy;simp only[QzJ];rw[List.nil_append]at r2;refine⟨?_,by rw[r2];exact r3,by rw[r2];exact r4⟩;rw[r1];obtain⟨-,h2,-⟩:=QoJ hf hd (n:=p.dst) hd;rw[h2,if_pos rfl]
end
def QrL(t:Top):Int->List Int->Int
 |v,[]=>v
 |_,a::r=>QrL t (Qbm t a) r
theorem Qpi(t:Top):∀(v:Int) (p q:List Int),QrL t v (p++q)=QrL t (QrL t v p) q
 |_,[],_=>rfl
 |_,a::r,q=>Qpi t (Qbm t a) r q
theorem QzK{t:Top}{d n:Int}{w:List Int}(h:RW t d n w):QrL t n w=d/\∀(k:Nat) (a:Int),w[k]? =some a->(0<=a/\a<2*t.links.length)/\Qbf t a=QrL t n (w.take k)/\(k≠0->ovT t (QrL t n (w.take k))=false):=by
 induction h with
 |nil=>exact⟨rfl,fun k a h=>by simp at h⟩
 |cons n a w h0 h1 h2 h3 ih=>
  obtain⟨i1,i2⟩:=ih;refine⟨i1,fun k b hb=> ?_⟩;cases k with
  |zero=>
   simp only[List.getElem?_cons_zero,osi]at hb;subst hb;exact⟨h0,h1,fun h=>absurd rfl h⟩
  |succ k=>
   simp only[List.getElem?_cons_succ]at hb;obtain⟨j1,j2,j3⟩:=i2 k b hb;refine⟨j1,j2,fun _=> ?_⟩;by_cases hk:k=0
   ·subst hk;exact h2 fun e=>by rw[e]at hb;simp at hb
   ·exact j3 hk
theorem QwL(P:Program)(hP:P=Tryd.prog)(t:Top)(d s:Int)(p:List Int)(hv:Qam t=true)(hs:0<=s/\s<t.nodes)(hp:p.length<=5000000)(hg:RW t d s p):
    Ret P Qhq [QaU t,iA s,QaO p] (.tup [iA d,iA (p.map (Qbd t)).sum,iA 0]):=by
  have hva:=Qii P hP t;have har:=Qix P hP t;have htl:=fun a=>Qhd P hP t a
  have hhd:=fun a=>Qoo P hP t a
  have hov:=fun n=>Qgt P hP t n
  have hco:=fun a=>Qn2 P hP t a
  refine Qag (hP▸mixed) (hP▸QlC) (hP▸Qmz) (nle rfl) fun Λ Λo K hK=> ?_
  clear hP;rw[hv]at hva;rw[Qbz,if_pos hv]at har;obtain⟨hend,hat⟩:=QzK hg;have hst:∀(k:Nat) (a:Int),p[k]? =some a->(0<=a/\a<2*t.links.length)/\Qbf t a=QrL t s (p.take k)/\(k≠0->ovT t (QrL t s (p.take k))=false)/\(1<=Qbd t a/\Qbd t a<=65535):=fun k a ha=>by
    obtain⟨k1,k2,k3⟩:=hat k a ha;have:=QbL hv k1.1 k1.2;exact⟨k1,k2,k3,this.2.2.2⟩
  clear hat;have hcs:∀(k:Nat) (a:Int),p[k]? =some a->((p.take (k+1)).map (Qbd t)).sum=((p.take k).map (Qbd t)).sum+Qbd t a:=fun k a ha=>by rw[Qap ha];simp
  have hen:∀(k:Nat) (a:Int),p[k]? =some a->QrL t s (p.take (k+1))=Qbm t a:=fun k a ha=>by rw[Qap ha,Qpi];rfl
  clear hg;obtain⟨M,hM⟩:∃M:Int,M=2*t.links.length:=⟨_,rfl⟩;rw[←hM]at har hst;have hML:0<=M:=by omega
  clear hM;obtain⟨en,hene⟩:∃en:List Int->Int,∀l,QrL t s l=en l:=⟨_,fun _=>rfl⟩;have hen0:en []=s:=by rw[←hene];rfl
  simp only[hene]at hend hst hen;clear hene;simp only[QaU,QaO,QaQ,Qaf,Qak]at*;generalize t.ov.map Qbs=ovl at*;generalize t.links.map QaJ=lkl at*;generalize t.nodes=nodes at*;generalize plh:List.map QaB p=pl at*;have pln:Λ pl=p.length:=by rw[Λo,←plh];simp
  conv=>cbv
  repeat' first|(refine Qah hva rfl rfl ?_;conv=>cbv)|exact gu|exact trivial|refine And.intro ?_ ?_|(intro hc;first|exact absurd hc (by decide)|(exfalso;omega)|((first|rw[wS (by omega) (by omega)]at hc|rw[Qad]at hc|skip);try (conv=>cbv)))|refine CallG.old ?_
  refine Qa9 p.length (fun(s:Int×Int×Int)=>[(1,iA s.1),(2,.c (.d (.list false 1 pl))),(3,.c (.ptr 0 0 0 0)),(6,iA 0),(7,iA 0),(8,iA 0),(9,iA s.2.1),(10,iA s.2.2)])
    (fun _=>[.bx [.d (iD nodes),.d (.list false 1 ovl),.d (.list false 7 lkl)]])
    (fun k x=>x.2.2=k/\k<=p.length/\x.1=en (p.take k)/\x.2.1=((p.take k).map (Qbd t)).sum/\0<=x.2.1/\x.2.1<=65535*k) (s,0,0) (Wk.cw) ⟨rfl,by omega,by simp[hen0],by simp,by simp,by simp⟩ (fun k s h=>h.2.1) ?_
  rintro k ⟨n,c,i⟩ Q' ⟨hi,hk,hn,hc,hc0,hc1⟩ norm ex rt;simp only at hi hn hc hc0 hc1;by_cases hlt:k<p.length
  · obtain⟨x,hx⟩:∃x,p[k]? =some x:=⟨_,lgE hlt⟩
    have hxa:=Qgg plh hi hx;obtain⟨x1,x2,x4,x5⟩:=hst k x hx;rw[←hn]at x2 x4;have htx:=htl x;have hhx:=hhd x;have hcx:=hco x;have hon:=hov n;rw[x2]at htx;have he1:=hen k x hx;have hc2:=hcs k x hx;rw[←hc]at hc2;generalize Qbm t x=hdx at*;generalize Qbd t x=cx at*;by_cases hk0:k=0
    · have hi0:i=0:=by omega
      conv=>cbv
      repeat' first|(intro e he;cases osj (he.symm.trans hxa);(conv=>cbv))|(refine Qah har rfl rfl ?_;conv=>cbv)|(refine Qah htx rfl rfl ?_;conv=>cbv)|(refine Qah hhx rfl rfl ?_;conv=>cbv)|(refine Qah hcx rfl rfl ?_;conv=>cbv)|exact gu|exact trivial|refine And.intro ?_ ?_|(intro hc;first|exact absurd hc (by decide)|(exfalso;omega)|((first|rw[wS (by omega) (by omega)]at hc|rw[Qad]at hc|skip);try (conv=>cbv)))|refine CallG.old ?_
      all_goals first
        |(exfalso;omega)
        |(refine norm _ _ (hdx,_,_) ?_ (Wk.cw)
          exact⟨by simp only;omega,by omega,he1.symm,by simp only;rw[hc2];omega,by simp only;omega,by simp only;omega⟩)
    · rw[x4 hk0]at hon
      conv=>cbv
      repeat' first|(intro e he;cases osj (he.symm.trans hxa);(conv=>cbv))|(refine Qah har rfl rfl ?_;conv=>cbv)|(refine Qah htx rfl rfl ?_;conv=>cbv)|(refine Qah hhx rfl rfl ?_;conv=>cbv)|(refine Qah hcx rfl rfl ?_;conv=>cbv)|(refine Qah hon rfl rfl ?_;conv=>cbv)|exact gu|exact trivial|refine And.intro ?_ ?_|(intro hc;first|exact absurd hc (by decide)|(exfalso;omega)|((first|rw[wS (by omega) (by omega)]at hc|rw[Qad]at hc|skip);try (conv=>cbv)))|refine CallG.old ?_
      all_goals first
        |(exfalso;omega)
        |(refine norm _ _ (hdx,_,_) ?_ (Wk.cw)
          exact⟨by simp only;omega,by omega,he1.symm,by simp only;rw[hc2];omega,by simp only;omega,by simp only;omega⟩)
  · rw[List.take_of_length_le (by omega)]at hn hc
    rw[hend]at hn;rw[←hn,←hc]at hK
    conv=>cbv
    repeat' first|exact gu|exact trivial|refine And.intro ?_ ?_|(intro hc;first|exact absurd hc (by decide)|(exfalso;omega)|((first|rw[wS (by omega) (by omega)]at hc|rw[Qad]at hc|skip);try (conv=>cbv)))|refine CallG.old ?_
    refine ex _ _ _ ?_
    conv=>cbv
    repeat' first|exact gu|exact trivial|refine And.intro ?_ ?_|(intro hc;first|exact absurd hc (by decide)|(exfalso;omega)|((first|rw[wS (by omega) (by omega)]at hc|rw[Qad]at hc|skip);try (conv=>cbv)))|refine CallG.old ?_
    exact hK
theorem QyO{t:Top}(hv:Qam t=true){d n:Int}{w:List Int}(h:RW t d n w):(w.length:Int)<=(w.map (Qbd t)).sum:=by
 induction h with
 |nil=>simp
 |cons n a w h0 h1 h2 h3 ih=>
  have:=(QbL hv h0.1 h0.2).2.2.2.1;simp only[List.map_cons,List.sum_cons,List.length_cons];omega
def rtP(d:Int):Pkt:=⟨0,0,d,0,[],0⟩
theorem Qw5(P:Program)(hP:P=Tryd.prog)(t:Top)(down:List Bool)(hf:Qbi t down=true)(e0 e1:Int)(h0:0<=e0/\e0<t.nodes)(h1:0<=e1/\e1<t.nodes):
  ∃(l:List Rsl) (e:Int),(∀m,Qbw m->FnS P Qdg [QaU t,Qcb (Qbt t down t.nodes.toNat),Qdh (rtP e1),iA e0] [.am m] fun r h'=>∃m' tl,h'= .am m'::tl/\Qbw m'/\r= .tup [.c (.d (QyK l)),iA e])/\
   (e=6\/(e=0/\(gt (QaZ t down e1 false) e0<0->l=[⟨e0,1,[]⟩])/\(0<=gt (QaZ t down e1 false) e0->l≠[]/\∀r∈l,r.rs= -1/\RW t e1 e0 r.path/\(r.path.map (Qbd t)).sum=gt (QaZ t down e1 false) e0))):=by
 have hc:=QmM hf;have hv:=Qaj.1 (Qfx hf);have hx:TbI (Qbt t down t.nodes.toNat):=by
  refine⟨fun x hx e he=> ?_⟩;simp only[Qbt,List.mem_map,List.mem_range]at hx;obtain⟨k,hk,rfl⟩:=hx;have hn:0<=(k:Int)/\(k:Int)<t.nodes:=by omega
  rw[QbR,if_pos hf,if_pos hn]at he;simp only[toL,List.mem_map]at he;obtain⟨d,hd,rfl⟩:=he;simp only[QaK,List.mem_map,List.mem_range]at hd;obtain⟨j,hj,rfl⟩:=hd;refine⟨?_,by simp⟩;simp only;rw[Qst hf hn (by omega),Qcj];refine Nat.le_trans (List.length_filter_le _ _) ?_;simp only[QaK,List.length_map,List.length_range];omega
 obtain⟨U,hE,hl,hall⟩:=QyL hf (p:=rtP e1) h1 h0;have hck:QaI t (Qbt t down t.nodes.toNat) e0=0:=by rw[QaI,if_pos hc,if_pos h0]
 have hst:StI t (e0,(rtP e1).stack):=⟨h0.1,h0.2,by simp[rtP],fun s hs=>by simp[rtP]at hs⟩;have hok:=Qs8 hP hc hx (p:=rtP e1) hst hE (by omega);refine⟨(Qk6 (gW t (Qbt t down t.nodes.toNat) (rtP e1)) U.length (e0,[]) 0).1,(Qk6 (gW t (Qbt t down t.nodes.toNat) (rtP e1)) U.length (e0,[]) 0).2,fun m hT=> ?_,?_⟩
 ·have:=Qtk P hP t (Qbt t down t.nodes.toNat) (rtP e1) e0 (gW t (Qbt t down t.nodes.toNat) (rtP e1)) U m hT fun _=>⟨hok,hE.st⟩
  rw[hck]at this;exact this
 ·rcases hall with h|⟨l,h,g1,g2⟩
  ·exact .inl (by rw[show Qk6 (gW t (Qbt t down t.nodes.toNat) (rtP e1)) U.length (e0,[]) 0=([],6)from h])
  ·right;rw[show Qk6 (gW t (Qbt t down t.nodes.toNat) (rtP e1)) U.length (e0,[]) 0=(l,0)from h];exact⟨rfl,g1,g2⟩
abbrev QrM (e0 e1:Int):AV:= .agg [.d (iD e0),.d (iD e1)]
theorem QqJ(P:Program)(hP:P=Tryd.prog)(haw:QnK P)(t:Top)(down:List Bool)(e0 e1:Int)(m:Ar)(hT:Qbw m):FnS P QdG [QaU t,QaT down,QrM e0 e1] [.am m] fun r h'=>r=bA true/\∃m' tl,h'= .am m'::tl/\Qbw m':=by
 have haw:=haw m hT;have hall:=QsD P hP t down;have hdi:=QrF P hP t down e1;have hrt:=fun hf h0 h1=>Qw5 P hP t down hf e0 e1 h0 h1
 have hpa:=fun p hv h0 hp hg=>QwL P hP t e1 e0 p hv h0 hp hg
 have hsp:=fun(hf:Qbi t down=true) (h1:0<=e1/\e1<t.nodes)=>Qff (t:=t) (Qfx hf) down false h1.1 h1.2
 refine QaN (hP▸mixed) (hP▸QfZ) (hP▸Qgc) (nle rfl) fun Λ Λo Q hQ=> ?_
 clear hP;have fin:=fun m' tl hT=>hQ (bA true) (.am m'::tl) ⟨rfl,m',tl,rfl,hT⟩
 clear hQ;by_cases hf:Qbi t down=true
 ·have hv:=Qfx hf;rw[Qk5,if_pos hf]at hall;rw[Qc9,if_pos hf]at hdi;by_cases h1:0<=e1/\e1<t.nodes
  ·rw[if_pos h1]at hdi;by_cases h0:0<=e0/\e0<t.nodes
   ·obtain⟨l,e,hwa,hcase⟩:=hrt hf h0 h1;obtain⟨hd1,hd2⟩:=hsp hf h1;have hDl:=hd1.len;have hde:=hd2 e0 h0.1 h0.2;have hpa:=fun p hp hg=>hpa p hv h0 hp hg
    have hrl:=fun(w:List Int) h=>QyO (d:=e1) (n:=e0) (w:=w) hv h
    clear hrt hsp hd1 hd2;generalize QaZ t down e1 false=Dv at*;have hDe:(Dv.map QaB)[e0.toNat]? =some [iD (gt Dv e0)]:=by
     rw[gtm,lgE (show e0.toNat<Dv.length by omega)];simp only[Option.map_some,QaB,gt,List.getD_eq_getElem?_getD,lgE (show e0.toNat<Dv.length by omega),Option.getD_some]
    generalize gt Dv e0=G at*;generalize Qbt t down t.nodes.toNat=xs at*;generalize hRW:RW t e1 e0=rw_ at*;simp only[QaU,Qcb,Qdh,QaT,QaO,QaQ,Qbn,Qaf,Qak,QrM,QyK,rtP,List.map_nil]at*;generalize hxl:List.map Qas xs=xl at*;generalize hol:t.ov.map Qbs=ol at*;generalize hll:t.links.map QaJ=ll at*;generalize hdl:down.map Qbs=dl at*;generalize t.nodes=nodes at*;generalize hDm:Dv.map QaB=Dl at*;have lD:Λ Dl=nodes:=by rw[Λo,←hDm,List.length_map];exact hDl
    generalize hcost:Qbd t=cst at*;have hwf:=fun m hT=>(FnS.fg (hwa m hT):FnS P Qdg [.agg [.d (iD nodes),.d (.list false 1 ol),.d (.list false 7 ll)],.c (.d (.list false 3 xl)),.agg [.d (iD 0),.d (iD 0),.d (iD e1),.d (iD 0),.d (.list true 2 []),.d (iD 0)],iA e0] [.am m] _)
    clear hwa;rcases hcase with rfl|⟨rfl,hlt,hge⟩
    ·clear hpa hrl;generalize List.map QdX l=rl at*
     conv=>cbv
     repeat' first|(left;intro(_:Unit);(conv=>cbv))|(refine Qaz [0] haw rfl rfl (by decide) (by repeat' first|exact trivial|refine And.intro ?_ ?_|rfl) rfl rfl ?_;rintro r hc' ⟨rfl,m1,tl1,rfl,hT1⟩;have hw1:=hwf m1 hT1;(conv=>cbv))|(refine Qah hall rfl rfl ?_;conv=>cbv)|(refine Qah hdi rfl rfl ?_;conv=>cbv)|(refine Qaz [0] hw1 rfl rfl (by decide) (by repeat' first|exact trivial|refine And.intro ?_ ?_|rfl) rfl rfl ?_;rintro r hc' ⟨m2,tl2,rfl,hT2,rfl⟩;(conv=>cbv))|exact fin _ _ (by assumption)|exact gu|exact trivial|refine And.intro ?_ ?_|(intro hc;first|exact absurd hc (by decide)|(exfalso;omega)|((first|rw[wS (by omega) (by omega)]at hc|rw[Qad]at hc|skip);try (conv=>cbv)))|refine CallG.old ?_
    ·by_cases hG:G<0
     ·rw[hlt hG]at hwf;clear hlt hge hpa hrl;obtain⟨z0,hz0⟩:∃z:List (List D),z=[]:=⟨_,rfl⟩;have lz:Λ z0=0:=by rw[Λo,hz0];rfl
      obtain⟨al,hal⟩:∃al:List (List D),al=List.map QdX [⟨e0,1,[]⟩]:=⟨_,rfl⟩;rw[←hal]at hwf;have l1:Λ al=1:=by rw[Λo,hal];rfl
      have he0:al[(0:Int).toNat]? =some [iD e0,iD 1,.list false 1 z0]:=by rw[hal,hz0];rfl
      clear hal hz0
      conv=>cbv
      repeat' first|(left;intro(_:Unit);(conv=>cbv))|(refine Qaz [0] haw rfl rfl (by decide) (by repeat' first|exact trivial|refine And.intro ?_ ?_|rfl) rfl rfl ?_;rintro r hc' ⟨rfl,m1,tl1,rfl,hT1⟩;have hw1:=hwf m1 hT1;(conv=>cbv))|(refine Qah hall rfl rfl ?_;conv=>cbv)|(refine Qah hdi rfl rfl ?_;conv=>cbv)|(refine Qaz [0] hw1 rfl rfl (by decide) (by repeat' first|exact trivial|refine And.intro ?_ ?_|rfl) rfl rfl ?_;rintro r hc' ⟨m2,tl2,rfl,hT2,rfl⟩;(conv=>cbv))|(intro(e:List D) he;cases osj (he.symm.trans hDe);(conv=>cbv))|(intro(e:List D) he;cases osj (he.symm.trans he0);(conv=>cbv))|exact fin _ _ (by assumption)|exact gu|exact trivial|refine And.intro ?_ ?_|(intro hc;first|exact absurd hc (by decide)|(exfalso;omega)|((first|rw[wS (by omega) (by omega)]at hc|rw[Qad]at hc|skip);try (conv=>cbv)))|refine CallG.old ?_
     ·obtain⟨hne,hr⟩:=hge (by omega);clear hlt hge;have hln:0<l.length:=List.length_pos_iff.2 hne;generalize hrl2:List.map QdX l=rl at*;have lrl:Λ rl=l.length:=by rw[Λo,←hrl2];simp
      conv=>cbv
      repeat' first|(left;intro(_:Unit);(conv=>cbv))|(refine Qaz [0] haw rfl rfl (by decide) (by repeat' first|exact trivial|refine And.intro ?_ ?_|rfl) rfl rfl ?_;rintro r hc' ⟨rfl,m1,tl1,rfl,hT1⟩;have hw1:=hwf m1 hT1;(conv=>cbv))|(refine Qah hall rfl rfl ?_;conv=>cbv)|(refine Qah hdi rfl rfl ?_;conv=>cbv)|(refine Qaz [0] hw1 rfl rfl (by decide) (by repeat' first|exact trivial|refine And.intro ?_ ?_|rfl) rfl rfl ?_;rintro r hc' ⟨m2,tl2,rfl,hT2,rfl⟩;(conv=>cbv))|(intro(e:List D) he;cases osj (he.symm.trans hDe);(conv=>cbv))|exact fin _ _ (by assumption)|exact gu|exact trivial|refine And.intro ?_ ?_|(intro hc;first|exact absurd hc (by decide)|(exfalso;omega)|((first|rw[wS (by omega) (by omega)]at hc|rw[Qad]at hc|skip);try (conv=>cbv)))|refine CallG.old ?_
      refine Qa9 l.length (fun(i:Int)=>[(3,.c (.ptr 1 0 0 0)),(5,.c (.ptr 2 0 0 0)),(9,.c (.d (.list false 1 Dl))),(11,.c (.d (.list false 3 rl))),(111,.c (.d (.list false 3 rl))),(112,iA (Λ rl)),(113,iA i)])
       (fun _=>[.am m2,.bx [.d (iD nodes),.d (.list false 1 ol),.d (.list false 7 ll)],.bx [.d (iD e0),.d (iD e1)]])
       (fun k i=>i=k/\k<=l.length) 0 (Wk.ca) ⟨rfl,by omega⟩ (fun k s h=>h.2) ?_
      rintro kk i Q' ⟨hi,hk⟩ norm ex rt;by_cases hlt2:kk<l.length
      ·obtain⟨r,hrk⟩:∃r,l[kk]? =some r:=⟨_,lgE hlt2⟩;obtain⟨r1,r2,r3⟩:=hr r (mgE hrk);have hlen:=hrl r.path r2;have hpath:=hpa r.path (by rw[r3]at hlen;omega) r2;rw[r3]at hpath;have hel:rl[i.toNat]? =some [iD r.node,iD (-1),.list false 1 (r.path.map QaB)]:=by
        rw[←hrl2,hi,Int.toNat_natCast,gtm,hrk];simp only[Option.map_some,QdX,r1,QaQ]
       obtain⟨i1,hi1⟩:∃z:Int,z=((kk+1:Nat):Int):=⟨_,rfl⟩;generalize r.path.map QaB=pl at*;generalize r.node=rn at*;clear hr hrl hpa fin
       conv=>cbv
       repeat' first|(refine ex _ _ _ ?_;(conv=>cbv))|(refine rt _ _ ?_;(conv=>cbv))|(left;intro(_:Unit);(conv=>cbv))|(intro(e:List D) he;cases osj (he.symm.trans hel);(conv=>cbv))|(intro(e:List D) he;cases osj (he.symm.trans hDe);(conv=>cbv))|(refine Qah hpath rfl rfl ?_;conv=>cbv)|(intro(k:Int) hk;rw[wS (by omega) (by omega)]at hk;refine(fun(hz:i1=k)=> ?_) ?_;rotate_left;omega;subst hz;(conv=>cbv))|exact gu|exact trivial|refine And.intro ?_ ?_|(intro hc;first|exact absurd hc (by decide)|(exfalso;omega)|((first|rw[wS (by omega) (by omega)]at hc|rw[Qad]at hc|skip);try (conv=>cbv)))|refine CallG.old ?_
       all_goals (refine norm _ _ i1 ⟨hi1,by omega⟩ (Wk.ca))
      ·clear hr hrl hpa
       conv=>cbv
       repeat' first|(refine ex _ _ _ ?_;(conv=>cbv))|(refine rt _ _ ?_;(conv=>cbv))|exact fin _ _ (by assumption)|exact gu|exact trivial|refine And.intro ?_ ?_|(intro hc;first|exact absurd hc (by decide)|(exfalso;omega)|((first|rw[wS (by omega) (by omega)]at hc|rw[Qad]at hc|skip);try (conv=>cbv)))|refine CallG.old ?_
   ·clear hrt hsp hpa;generalize QaZ t down e1 false=Dv at*;generalize Qbt t down t.nodes.toNat=xs at*;simp only[QaU,Qcb,QaT,QaO,QaQ,Qaf,Qak,QrM]at*;generalize hxl:List.map Qas xs=xl at*;generalize hol:t.ov.map Qbs=ol at*;generalize hll:t.links.map QaJ=ll at*;generalize hdl:down.map Qbs=dl at*;generalize t.nodes=nodes at*;generalize Dv.map QaB=Dl at*
    conv=>cbv
    repeat' first|(left;intro(_:Unit);(conv=>cbv))|(refine Qaz [0] haw rfl rfl (by decide) (by repeat' first|exact trivial|refine And.intro ?_ ?_|rfl) rfl rfl ?_;rintro r hc' ⟨rfl,m1,tl1,rfl,hT1⟩;(conv=>cbv))|(refine Qah hall rfl rfl ?_;conv=>cbv)|(refine Qah hdi rfl rfl ?_;conv=>cbv)|exact fin _ _ (by assumption)|exact gu|exact trivial|refine And.intro ?_ ?_|(intro hc;first|exact absurd hc (by decide)|(exfalso;omega)|((first|rw[wS (by omega) (by omega)]at hc|rw[Qad]at hc|skip);try (conv=>cbv)))|refine CallG.old ?_
  ·rw[if_neg h1]at hdi;clear hrt hsp hpa;generalize Qbt t down t.nodes.toNat=xs at*;simp only[QaU,Qcb,QaT,QaO,QaQ,Qaf,Qak,QrM,List.map_nil]at*;generalize hxl:List.map Qas xs=xl at*;generalize hol:t.ov.map Qbs=ol at*;generalize hll:t.links.map QaJ=ll at*;generalize hdl:down.map Qbs=dl at*;generalize t.nodes=nodes at*
   conv=>cbv
   repeat' first|(left;intro(_:Unit);(conv=>cbv))|(refine Qaz [0] haw rfl rfl (by decide) (by repeat' first|exact trivial|refine And.intro ?_ ?_|rfl) rfl rfl ?_;rintro r hc' ⟨rfl,m1,tl1,rfl,hT1⟩;(conv=>cbv))|(refine Qah hall rfl rfl ?_;conv=>cbv)|(refine Qah hdi rfl rfl ?_;conv=>cbv)|exact fin _ _ (by assumption)|exact gu|exact trivial|refine And.intro ?_ ?_|(intro hc;first|exact absurd hc (by decide)|(exfalso;omega)|((first|rw[wS (by omega) (by omega)]at hc|rw[Qad]at hc|skip);try (conv=>cbv)))|refine CallG.old ?_
 ·rw[Qk5,if_neg hf]at hall;rw[Qc9,if_neg hf]at hdi;clear hrt hsp hpa;simp only[QaU,Qcb,QaT,QaO,QaQ,Qaf,Qak,QrM,List.map_nil]at*;generalize hol:t.ov.map Qbs=ol at*;generalize hll:t.links.map QaJ=ll at*;generalize hdl:down.map Qbs=dl at*;generalize t.nodes=nodes at*
  conv=>cbv
  repeat' first|(left;intro(_:Unit);(conv=>cbv))|(refine Qaz [0] haw rfl rfl (by decide) (by repeat' first|exact trivial|refine And.intro ?_ ?_|rfl) rfl rfl ?_;rintro r hc' ⟨rfl,m1,tl1,rfl,hT1⟩;(conv=>cbv))|(refine Qah hall rfl rfl ?_;conv=>cbv)|(refine Qah hdi rfl rfl ?_;conv=>cbv)|exact fin _ _ (by assumption)|exact gu|exact trivial|refine And.intro ?_ ?_|(intro hc;first|exact absurd hc (by decide)|(exfalso;omega)|((first|rw[wS (by omega) (by omega)]at hc|rw[Qad]at hc|skip);try (conv=>cbv)))|refine CallG.old ?_
end Go.Ab
