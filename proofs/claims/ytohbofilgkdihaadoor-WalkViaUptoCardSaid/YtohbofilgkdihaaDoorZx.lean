/-
  Merged texts, part x.
-/
import Derived.Test.YtohbofilgkdihaaDoorZw
import Derived.Deep.DeepHandedRow
import Derived.Lib.LaidTab
set_option linter.all false
namespace Go.Ab
open Go.Proofs Go.Proofs.YtohbofilgkdihaaDoor Go.ChangeShapes Go.WideShapes Go.ChangeAt Go.RowKit
inductive ShO:Sh->Prop
 |int (k:IntKind) (h:k≠ .u64):ShO (.int k)
 |bool:ShO .bool
 |list (sz:Nat) (es:List Sh) (hne:es≠[]) (h:∀s∈es,ShO s):ShO (.list sz es)
theorem Qpl{ss:List Sh}{ds:List D}{n:Nat}(h:FitL ss ds n):∀{j:Nat} {x:D},ds[j]? =some x->∃s m,s∈ss/\Fit1 s x m:=by
 induction ss generalizing ds n with
 |nil=>intro j x hx;cases h;simp at hx
 |cons s ss ih=>
  intro j x hx;cases h with
  |cons _ _ d ds' a b h1 h2=>
   cases j with
   |zero=>simp at hx;subst hx;exact⟨s,a,by simp,h1⟩
   |succ j=>
    obtain⟨s',m,q1,q2⟩:=ih h2 (by simpa using hx);exact⟨s',m,by simp[q1],q2⟩
theorem QmS{es:List Sh}:∀{l:List (List D)} {n:Nat},FitLL es l n->∀{i:Nat} {e:List D},l[i]? =some e->∃m,FitL es e m:=by
 intro l;induction l with
 |nil=>intro n _ i e he;simp at he
 |cons e0 l ih=>
  intro n h i e he;cases h with
  |cons _ _ _ a b h1 h2=>
   cases i with
   |zero=>simp at he;subst he;exact⟨a,h1⟩
   |succ i=>exact ih h2 (by simpa using he)
abbrev pwG:Nat:=0
theorem Qwc{G:Nat->Prop}{W:World}(hT:W.heap[pwG]? =some Qjx){v:Value}{d:D}(h:DR G W v d):∀{s:Sh} {n:Nat},ShO s->Fit1 s d n->DR (fun b=>G b/\b≠pwG) W v d:=by
 induction h with
 |bool b=>intro s n _ _;exact .bool b
 |int k z=>intro s n _ _;exact .int k z
 |nils nl sz=>intro s n _ _;exact .nils nl sz
 |emp a sz=>intro s n _ _;exact .emp a sz
 |sl b off cap sz l g hG hcap hmax hsz hc hr ih=>
  intro s n hs hf;cases hf with
  |list _ es _ m hll=>
   cases hs with
   |list _ _ hne hes=>
    have each:∀(i:Nat) (e:List D) (j:Nat) (x:D),l[i]? =some e->e[j]? =some x->∃s' m',ShO s'/\Fit1 s' x m':=fun i e j x he hx=>by
     obtain⟨m1,h1⟩:=QmS hll he;obtain⟨s',m',q1,q2⟩:=Qpl h1 hx;exact⟨s',m',hes s' q1,q2⟩
    refine .sl b off cap sz l g (fun hl=>⟨hG hl,fun hb=> ?_⟩) hcap hmax hsz hc fun i e j x he hx=> ?_
    ·cases l with
     |nil=>exact hl rfl
     |cons e l=>
      obtain⟨m1,h1⟩:=QmS hll (i:=0) (e:=e) rfl;have h2:=h1.len;cases e with
      |nil=>exact hne (List.eq_nil_of_length_eq_zero (by simpa using h2.symm))
      |cons x e=>
       have hc0:=hc 0 (x::e) 0 x rfl rfl;have hr0:=hr 0 (x::e) 0 x rfl rfl;obtain⟨s',m',q1,q2⟩:=each 0 (x::e) 0 x rfl rfl;subst hb;rw[QbE hT]at hc0;have hz:∃z,g 0 0= .int .u64 z:=by
        rw[List.getElem?_toArray,gtm,omi]at hc0;obtain⟨z,-,e⟩:=hc0;exact⟨z,e.symm⟩
       obtain⟨z,hz⟩:=hz;rw[hz]at hr0;cases hr0;cases q2;cases q1 with
       |int _ h=>exact h rfl
    ·obtain⟨s',m',q1,q2⟩:=each i e j x he hx;exact ih i e j x he hx q1 q2
 |_=>intro s n hs hf;cases hs<;>cases hf
theorem Qry{W:World}(hT:W.heap[pwG]? =some Qjx){cs:List Value}{ds:List D}{ss:List Sh}{n:Nat}(h:CsR W cs ds)(hf:FitL ss ds n)(hs:∀s∈ss,ShO s):
  ∀(i:Nat) (v:Value) (d:D),cs[i]? =some v->ds[i]? =some d->DR (fun b=>b<W.heap.size/\b≠pwG) W v d:=fun i v d hv hd=>by
 obtain⟨s,m,q1,q2⟩:=Qpl hf hd;exact Qwc hT (h.2 i v d hv hd) (hs s q1) q2
noncomputable def pwA:Ar:=fun b=>if b=pwG then some pwB else none
theorem QwM:Qbs pwA:=by rw[Qbs,pwA,if_pos rfl]
theorem QsA{b:Nat}{x:AB}(h:pwA b=some x):b=pwG/\x=pwB:=by
 rw[pwA]at h;split at h
 ·rename_i e;exact⟨e,(osj h).symm⟩
 ·cases h
theorem QzE{W:World}(hT:W.heap[pwG]? =some Qjx):HR (fun b=>b<W.heap.size/\b≠pwG) [(0,0)] [.am pwA] W where
 len:=rfl
 own:=fun l l' b k k' h1 h2 _ _=>by
  have:=Qaa h1;have:=Qaa h2;simp at *;omega
 g:=fun b hb=>⟨hb.1,fun⟨l,k,h1,h2⟩=>by
  have hl:l=0:=by have:=Qaa h1;simpa using this
  subst hl;cases h1;obtain⟨x,hx⟩:=h2;exact hb.2 (QsA hx).1⟩
 blk:=fun l k h1=>by
  have hl:l=0:=by have:=Qaa h1;simpa using this
  subst hl;cases h1;intro b x hx;obtain⟨rfl,rfl⟩:=QsA hx;exact⟨_,hT,rfl⟩
theorem QvE{W:World}(hT:W.heap[pwG]? =some Qjx){cs:Array Value}{ds:List D}{ss:List Sh}{n:Nat}(h:CsR W cs.toList ds)(hf:FitL ss ds n)(hs:∀s∈ss,ShO s):
  VR (fun b=>b<W.heap.size/\b≠pwG) W [(0,0)] [.am pwA] (.agg cs) (.agg (ds.map .d)):=by
 refine .agg cs _ (by have:=h.1;simpa using this) fun i v x hv hx=> ?_
 simp only[gtm,omi]at hx;obtain⟨d,hd,rfl⟩:=hx;exact .d _ _ (Qry hT h hf hs i v d (by simpa using hv) hd)
theorem QwP{f:FuncId}{fn:Func}(hfn:Tryd.prog.funcs[f]? =some fn){avs:List AV}{W:World}{vs:List Value}(hf:FnS Tryd.prog f avs [.am pwA] fun r h'=>r=bA true/\∃m' tl,h'= .am m'::tl/\Qbs m')(hT:W.heap[pwG]? =some Qjx)(hv:VRs (fun b=>b<W.heap.size/\b≠pwG) W [(0,0)] [.am pwA] vs avs):
  Calls Tryd.prog f vs.toArray W fun e W'=>e= .returned (.bool true)/\Quiet W W'/\∀b,b<W.heap.size->W'.heap[b]? =W.heap[b]? :=by
 refine((hf.out _ [(0,0)] W vs (QzE hT) hv).calls hfn).mono fun e W' ⟨v,r,G',ι',h',he,hr,hr',hvr,hx⟩=> ?_
 obtain⟨rfl,m',tl,rfl,hT'⟩:=hr;refine⟨?_,hx.quiet,fun b hb=> ?_⟩
 ·have:=Qzj (Qb8 hvr);rw[this]at he;exact he
 ·by_cases e:b=pwG
  ·subst e;obtain⟨o,h1,h2⟩:=hr'.blk 0 _ rfl _ _ hT';rw[h1,hT,h2]
  ·refine hx.frame b hb fun⟨l,blk,h1,h2⟩=> ?_
   have hl:l=0:=by have:=Qaa h1;simpa using this
   subst hl;cases h1;obtain⟨x,hx⟩:=h2;exact e (QsA hx).1
set_option maxRecDepth 100000 in
theorem QzF{W:World}(hsh:W.ShapedOpen Tryd.prog){cs:Array Value}(h:W.var? Tryd.prog "internal/strconv.uint64pow10"=some cs)(hcs:cs.toList=Go.Lib.pow10Tab.map fun n=>Value.int .u64 n):W.heap[pwG]? =some Qjx:=by
 have hg:Tryd.prog.globalNamed "internal/strconv.uint64pow10"=some pwG:=by kernel_rfl
 have hlt:pwG<Tryd.prog.globals.size:=by
  have:decide (pwG<Tryd.prog.globals.size)=true:=by kernel_rfl
  exact of_decide_eq_true this
 have hrow:(((begin Tryd.prog (fun _ _=>0) default).world.heap[pwG]?).bind Obj.row?).isSome=true:=by kernel_rfl
 obtain⟨⟨zero,t⟩,hz⟩:=Option.isSome_iff_exists.1 hrow;have ht:pwT=t:=congrArg QAc hz;obtain⟨c,h1,-,-⟩:=hsh.1 pwG zero t hlt hz;unfold World.var? at h;rw[hg]at h;simp only[Option.bind_some,h1,osi]at h;subst h;rw[h1,Qjx,ht,←hcs]
theorem QtN{ds:List D}{n:Nat}(h:FitL QuS ds n):∃c:Top,Qa2 c= .agg (ds.map .d):=by
 obtain⟨d0,ds0,_,_,rfl,rfl,g0,h_0⟩:=h.un;obtain⟨nodes,rfl,w_nodes⟩:=g0.i;obtain⟨d1,ds1,_,_,rfl,rfl,g1,h_1⟩:=h_0.un;obtain⟨ov,rfl,w_ov⟩:=g1.lm QbA (fun _=>1) Qx4;rw[QoO]at w_ov;obtain⟨d2,ds2,_,_,rfl,rfl,g2,h_2⟩:=h_1.un;obtain⟨links,rfl,w_links⟩:=g2.lm QaL (fun _=>1) Qx5;rw[QoO]at w_links;rw[h_2.end];exact⟨⟨nodes,ov,links⟩,rfl⟩
theorem Qv9{ds:List D}{n:Nat}(h:FitL [.list 1 [.bool]] ds n):∃l:List Bool,ds=[Qaf l]:=by
 obtain⟨d0,ds0,_,_,rfl,rfl,g0,h_0⟩:=h.un;obtain⟨ov,rfl,w_ov⟩:=g0.lm QbA (fun _=>1) Qx4;rw[QoO]at w_ov;rw[h_0.end];exact⟨ov,rfl⟩
theorem QtM{ds:List D}{n:Nat}(h:FitL [shI,shI,shI] ds n):∃a b c:Int,AV.agg [.d (iD a),.d (iD b),.d (iD c)]= .agg (ds.map .d):=by
 obtain⟨d0,ds0,_,_,rfl,rfl,g0,h_0⟩:=h.un;obtain⟨z1,rfl,w_z1⟩:=g0.i;obtain⟨d1,ds1,_,_,rfl,rfl,g1,h_1⟩:=h_0.un;obtain⟨z2,rfl,w_z2⟩:=g1.i;obtain⟨d2,ds2,_,_,rfl,rfl,g2,h_2⟩:=h_1.un;obtain⟨z3,rfl,w_z3⟩:=g2.i;rw[h_2.end];exact⟨z1,z2,z3,rfl⟩
theorem Qw8:ShO shI:= .int _ (by decide)
theorem QyR(l:List Sh)(h:∀s∈l,s=shI):∀s∈l,ShO s:=fun s hs=>by rw[h s hs];exact Qw8
theorem Qxa:∀s∈QuS,ShO s:=by
 intro s hs;simp only[QuS,List.mem_cons,List.not_mem_nil,or_false]at hs;rcases hs with rfl|rfl|rfl
 ·exact Qw8
 ·exact .list _ _ (by simp) (by intro s hs;simp at hs;subst hs;exact .bool)
 ·exact .list _ _ (by simp) (by intro s hs;simp at hs;subst hs;exact Qw8)
theorem Qw7:∀s∈[Sh.list 1 [.bool]],ShO s:=by
 intro s hs;simp only[List.mem_cons,List.not_mem_nil,or_false]at hs;subst hs;exact .list _ _ (by simp) (by intro s hs;simp at hs;subst hs;exact .bool)
theorem QyB{W:World}(hT:W.heap[pwG]? =some Qjx){v:Value}{l:List Bool}{n:Nat}(h:CsR W [v] [Qaf l])(hf:FitL [.list 1 [.bool]] [Qaf l] n):
  VR (fun b=>b<W.heap.size/\b≠pwG) W [(0,0)] [.am pwA] v (.c (.d (Qaf l))):=
 .c _ _ (.d _ _ (Qry hT h hf Qw7 0 _ _ rfl rfl))
end Go.Ab
namespace Go.Ab
open Go.Proofs
theorem QpZ(k:Nat):(QaK k).Pairwise (·<·):=by
 rw[QaK,List.pairwise_map];exact List.pairwise_lt_range.imp fun h=>by omega
theorem Qjt{t:Top}{n:Int}{k:Nat}{f:Int->Bool}(hf:∀a,f a=true->Qbm t a=n):QnH t n ((QaK k).filter f)=true:=by
 have hp:=(QpZ k).filter f;refine Qgt.2 fun i hi=> ?_
 have hx:((QaK k).filter f)[i]? =some (((QaK k).filter f)[i]):=lgE hi;refine Qng hx (hf _ (List.mem_filter.1 (mgE hx)).2) ?_;rcases Nat.eq_zero_or_pos i with h|h
 ·exact .inl h
 ·refine .inr ⟨_,lgE (show i-1<_ by omega),?_⟩;exact List.pairwise_iff_getElem.1 hp (i-1) i (by omega) hi (by omega)
section
variable{t:Top}{down:List Bool}(hf:Qa9 t down=true)
include hf
theorem QfA:Qao t=true:=by
 simp only[Qa9,Bool.and_eq_true]at hf;exact hf.1
theorem Qsr{n d:Int}(hn:0<=n/\n<t.nodes)(hd:0<=d/\d<t.nodes):(Qg6 t down n d).1=QbF t down (Qat t down d false) n d:=by
 rw[Qg6,if_pos hf,if_pos hd,if_pos hn]
theorem QvK{n:Int}(hn:0<=n/\n<t.nodes){i:Nat}(hi:(i:Int)<t.nodes):(toL t down n t.nodes.toNat)[i]? =some ⟨QbF t down (Qat t down (i:Int) false) n (i:Int),false,[]⟩:=by
 rw[toL,QaK,List.map_map,gtm,List.getElem?_range (by omega)];simp only[Option.map_some,Function.comp];rw[Qsr hf hn ⟨by omega,hi⟩]
omit hf in
theorem Qsq(D:List Int)(n d:Int):QnH t n (QbF t down D n d)=true:=by
 refine Qjt fun a h=> ?_
 simp only[Bool.and_eq_true,decide_eq_true_eq]at h;exact h.1
omit hf in
theorem Qkv(D:List Int)(d:Int):QbF t down D d d=[]:=by
 rw[QbF,List.filter_eq_nil_iff];intro a _ h;simp only[Bool.and_eq_true,decide_eq_true_eq,onB,Bool.not_eq_true',decide_eq_false_iff_not]at h;exact h.2.1.1.1.2 h.1
theorem Qhc{n:Int}(hn:0<=n/\n<t.nodes):Qke t ⟨n,toL t down n t.nodes.toNat,Qj5 t down n⟩=true:=by
 have hl:(toL t down n t.nodes.toNat).length=t.nodes.toNat:=by simp[toL,QaK]
 refine Qc7.2 ⟨QfA hf,hn,by simp only;omega,?_,fun i e he=> ?_⟩
 ·simp only[Qj5,Qkd,List.filter_filter];refine Qjt fun a h=> ?_
  simp only[Bool.and_eq_true,decide_eq_true_eq]at h;exact h.2
 ·simp only at he ⊢;have hi:=Qaa he;rw[QvK hf hn (by omega)]at he;obtain rfl:=osj he;refine QdZ.2 ⟨Qsq _ _ _,fun⟨h1,h2⟩=> ?_,fun h=>(by cases h),fun _=>rfl,fun s hs=>(by cases hs)⟩;simp only at h2;rw[h1,Qkv]at h2;simp at h2
theorem QoQ{n:Int}(hn:0<=n/\n<t.nodes):Qed (Qbd t down t.nodes.toNat) n=⟨n,toL t down n t.nodes.toNat,Qj5 t down n⟩:=by
 have h:(Qbd t down t.nodes.toNat)[n.toNat]? =some (QbS t down ((n.toNat:Nat):Int)).1:=by
  rw[Qbd,gtm,List.getElem?_range (by omega)];rfl
 rw[Qed,List.getD_eq_getElem?_getD,h,Option.getD_some,Int.toNat_of_nonneg hn.1,QbS,if_pos hf,if_pos hn]
theorem QmK:Qgh t (Qbd t down t.nodes.toNat)=true:=by
 have hl:(Qbd t down t.nodes.toNat).length=t.nodes.toNat:=by simp[Qbd]
 have hv:=Qai.1 (QfA hf);refine QbW.2 ⟨QfA hf,by omega,fun i x hx=> ?_⟩;have hi:=Qaa hx;have hn:0<=(i:Int)/\(i:Int)<t.nodes:=⟨by omega,by omega⟩;rw[Qbd,gtm,List.getElem?_range (by omega)]at hx;simp only[Option.map_some,osi]at hx;rw[QbS,if_pos hf,if_pos hn]at hx;subst hx;exact⟨rfl,Qhc hf hn⟩
theorem QgQ{n d:Int}(hn:0<=n/\n<t.nodes)(hd:0<=d/\d<t.nodes):ent (Qed (Qbd t down t.nodes.toNat) n) d=⟨QbF t down (Qat t down d false) n d,false,[]⟩:=by
 have h:=QvK hf hn (i:=d.toNat) (by omega);rw[Int.toNat_of_nonneg hd.1]at h;rw[QoQ hf hn,ent,List.getD_eq_getElem?_getD];simp only;rw[h];rfl
theorem Qt4{p:Pkt}{n:Int}(hn:0<=n/\n<t.nodes)(hd:0<=p.dst/\p.dst<t.nodes):
  (p.dst=n->gA t (Qbd t down t.nodes.toNat) p (n,[])=([],{p with stack:=[],hops:=0},-1))/\
  (p.dst≠n->QbF t down (Qat t down p.dst false) n p.dst=[]->gA t (Qbd t down t.nodes.toNat) p (n,[])=([],{p with stack:=[],hops:=0},1))/\
  (p.dst≠n->QbF t down (Qat t down p.dst false) n p.dst≠[]->gA t (Qbd t down t.nodes.toNat) p (n,[])=(QbF t down (Qat t down p.dst false) n p.dst,{p with stack:=[],hops:=1},0)):=by
 have hta:=QoQ hf hn;have hen:=QgQ hf hn hd;have hs:=QqP (x:=Qed (Qbd t down t.nodes.toNat) n) (p:={p with stack:=[],hops:=0}) (by rw[hta];exact Qhc hf hn) hd (by simp only;omega) rfl;have hnode:(Qed (Qbd t down t.nodes.toNat) n).node=n:=by rw[hta]
 simp only[hnode,hen]at hs;obtain⟨s1,s2,s3⟩:=hs;refine⟨fun h=>s1 h,fun h h'=>s2 h (by rw[h'];rfl),fun h h'=> ?_⟩;have:=s3 h (List.length_pos_iff.2 h');exact this
end
section
variable{σ:Type}[DecidableEq σ]
theorem QtO{f:Kn σ->σ->Option (Kn σ)}{Q:σ->Prop}:∀(ys:List σ) (K:Kn σ) (c:Int),(∀y∈ys,∀K,(∀x,lkK K x=some none->Q x)->∃K',f K y=some K'/\∀x,lkK K' x=some none->lkK K x=some none)->(∀x,lkK K x=some none->Q x)->
  ∃K' c',Qgd f ys K c=some (K',c')/\∀x,lkK K' x=some none->lkK K x=some none:=by
 intro ys;induction ys with
 |nil=>intro K c _ _;exact⟨K,c,rfl,fun x h=>h⟩
 |cons y ys ih=>
  intro K c hf hK;obtain⟨K1,h1,h2⟩:=hf y (by simp) K hK;obtain⟨K2,c2,h3,h4⟩:=ih K1 (QiN (c+Qxw K1 y)) (fun z hz=>hf z (by simp[hz])) fun x hx=>hK x (h2 x hx)
  refine⟨K2,c2,?_,fun x hx=>h2 x (h4 x hx)⟩;rw[Qgd,h1];exact h3
theorem Qwb{nx:σ->List σ}:∀(n m:Nat) (K:Kn σ) (s:σ),n<m->Dep nx n s->(∀x,lkK K x=some none->¬Dep nx n x)->∃K',dfs nx m K s=some K'/\∀x,lkK K' x=some none->lkK K x=some none:=by
 intro n;induction n with
 |zero=>
  intro m K s hm hd hK;obtain⟨m,rfl⟩:∃k,m=k+1:=⟨m-1,by omega⟩;rw[dfs];cases hk:lkK K s with
  |some c=>
   cases c with
   |some c=>exact⟨K,rfl,fun x h=>h⟩
   |none=>exact absurd hd (hK s hk)
  |none=>
   rw[show nx s=[]from hd];refine⟨_,rfl,fun x hx=> ?_⟩;rw[Qgn]at hx;split at hx
   ·rename_i e;subst e;rw[QeW,hk]at hx;simp[lkK]at hx
   ·rename_i e;rw[QeW]at hx;cases hk2:lkK K x with
    |some c=>rw[hk2]at hx;exact hx
    |none=>
     rw[hk2]at hx;simp only[lkK]at hx;rw[if_neg fun h=>e h.symm]at hx;cases hx
 |succ n ih=>
  intro m K s hm hd hK;by_cases hs:Dep nx n s
  ·exact ih m K s (by omega) hs fun x hx h=>hK x hx (Qkn h)
  ·obtain⟨m,rfl⟩:∃k,m=k+1:=⟨m-1,by omega⟩;rw[dfs];cases hk:lkK K s with
   |some c=>
    cases c with
    |some c=>exact⟨K,rfl,fun x h=>h⟩
    |none=>exact absurd hd (hK s hk)
   |none=>
    obtain⟨K1,c1,h1,h2⟩:=QtO (f:=dfs nx m) (Q:=fun x=>¬Dep nx n x) (nx s) (K++[(s,none)]) (if nx s=[]then 1 else 0) (fun y hy K2 hK2=>ih m K2 y (by omega) (hd y hy) hK2) fun x hx h=>by
     rw[QeW]at hx;cases hk2:lkK K x with
     |some c=>
      rw[hk2]at hx;simp only[osi]at hx;subst hx;exact hK x hk2 (Qkn h)
     |none=>
      rw[hk2]at hx;simp only[lkK]at hx;split at hx
      ·rename_i e;subst e;exact hs h
      ·cases hx
    rw[h1];refine⟨_,rfl,fun x hx=> ?_⟩;rw[Qgn]at hx;split at hx
    ·rename_i e;cases h3:lkK K1 x with
     |none=>rw[h3]at hx;cases hx
     |some c=>rw[h3]at hx;simp at hx
    ·rename_i e;have h4:=h2 x hx;rw[QeW]at h4;cases hk2:lkK K x with
     |some c=>rw[hk2]at h4;exact h4
     |none=>
      rw[hk2]at h4;simp only[lkK]at h4;rw[if_neg fun h=>e h.symm]at h4;cases h4
theorem Qx7{nx:σ->List σ}{U:List σ}(hU:∀x∈U,∀y∈nx x,y∈U){n:Nat}{x:σ}(hx:x∈U)(h:Dep nx n x):∃k,k<U.length/\Dep nx k x:=by
 have key:∀n x,x∈U->Dep nx n x->(∀k,n=k+1->¬Dep nx k x)->∃l:List σ,l.Nodup/\(∀y∈l,y∈U/\Dep nx n y)/\l.length=n+1:=by
  intro n;induction n with
  |zero=>intro x hx h _;exact⟨[x],by simp,fun y hy=>by simp at hy;rw[hy];exact⟨hx,h⟩,rfl⟩
  |succ n ih=>
   intro x hx h hn;have hn:=hn n rfl;obtain⟨y,hy,hy2⟩:∃y∈nx x,∀k,n=k+1->¬Dep nx k y:=by
    cases n with
    |zero=>
     cases he:nx x with
     |nil=>exact absurd he hn
     |cons y r=>exact⟨y,by simp,fun k hk=>by omega⟩
    |succ k=>
     refine Classical.byContradiction fun hc=>hn fun y hy=>Classical.byContradiction fun hd=>hc ⟨y,hy,fun k' hk=> ?_⟩
     obtain rfl:k'=k:=by omega
     exact hd
   obtain⟨l,h1,h2,h3⟩:=ih y (hU x hx y hy) (h y hy) hy2;refine⟨x::l,?_,fun z hz=> ?_,by simp[h3]⟩
   ·rw[List.nodup_cons];exact⟨fun hm=>hn (h2 x hm).2,h1⟩
   ·rcases List.mem_cons.1 hz with rfl|hz
    ·exact⟨hx,h⟩
    ·exact⟨(h2 z hz).1,Qkn (h2 z hz).2⟩
 have min:∀n,Dep nx n x->∃k,Dep nx k x/\∀j,k=j+1->¬Dep nx j x:=by
  intro n;induction n with
  |zero=>intro h;exact⟨0,h,fun j hj=>by omega⟩
  |succ n ih=>
   intro h;by_cases hd:Dep nx n x
   ·exact ih hd
   ·exact⟨n+1,h,fun j hj=>by
     obtain rfl:n=j:=by omega
     exact hd⟩
 obtain⟨k,h1,h2⟩:=min n h;obtain⟨l,g1,g2,g3⟩:=key k x hx h1 h2;have:=g1.length_le_of_subset fun y hy=>(g2 y hy).1
 exact⟨k,by omega,h1⟩
theorem Qwh{nx:σ->List σ}{s:σ}{V:List σ}(hnd:V.Nodup)(hs:s∈V)(hV:∀x∈V,∀y∈nx x,y∈V):∃U,Expl nx s U/\U.length<=V.length:=by
 classical
 let R:σ->Prop:=fun x=>∀W:σ->Prop,W s->(∀x,W x->∀y∈nx x,W y)->W x
 have hRs:R s:=fun W h _=>h
 have hRn:∀x,R x->∀y∈nx x,R y:=fun x hx y hy W h1 h2=>h2 x (hx W h1 h2) y hy
 have hRV:∀x,R x->x∈V:=fun x hx=>hx (·∈V) hs hV
 have hU:∀x,x∈s::V.filter (fun x=>decide (R x/\x≠s))↔R x:=fun x=>by
  simp only[List.mem_cons,List.mem_filter,decide_eq_true_eq];constructor
  ·rintro(rfl|⟨-,h,-⟩)
   ·exact hRs
   ·exact h
  ·intro h;by_cases e:x=s
   ·exact .inl e
   ·exact .inr ⟨hRV x h,h,e⟩
 have hn:(s::V.filter (fun x=>decide (R x/\x≠s))).Nodup:=by
  refine List.nodup_cons.2 ⟨fun h=> ?_,hnd.filter _⟩;have:=(List.mem_filter.1 h).2;simp at this
 refine⟨s::V.filter (fun x=>decide (R x/\x≠s)),⟨⟨_,rfl⟩,hn,fun x hx y hy=>(hU y).2 (hRn x ((hU x).1 hx) y hy),fun W h1 h2 x hx=>(hU x).1 hx W h1 h2⟩,hn.length_le_of_subset fun x hx=>hRV x ((hU x).1 hx)⟩
end
inductive RW (t:Top) (d:Int):Int->List Int->Prop
 |nil:RW t d d []
 |cons (n a:Int) (w:List Int) (h0:0<=a/\a<2*t.links.length) (h1:Qbm t a=n) (h2:w≠[]->ovT t (Qbi t a)=false) (h3:RW t d (Qbi t a) w):RW t d n (a::w)
section
variable{t:Top}{down:List Bool}(hf:Qa9 t down=true){p:Pkt}(hd:0<=p.dst/\p.dst<t.nodes)
noncomputable abbrev gR (t:Top) (down:List Bool) (p:Pkt):Wlk:=gW t (Qbd t down t.nodes.toNat) p
include hf hd
theorem Qf8:IsDist t down p.dst false (Qat t down p.dst false):=(QdY (QfA hf) down false hd.1 hd.2).1
theorem QqG{n:Int}(hn:0<=n/\n<t.nodes):(gR t down p).ar (n,[])=QbF t down (Qat t down p.dst false) n p.dst/\((gR t down p).rs (n,[])=if p.dst=n then -1 else if QbF t down (Qat t down p.dst false) n p.dst=[]then 1 else 0)/\∀a∈QbF t down (Qat t down p.dst false) n p.dst,(gR t down p).to (n,[]) a=(Qbi t a,[]):=by
 obtain⟨s1,s2,s3⟩:=Qt4 hf hn hd;by_cases e:p.dst=n
 ·have h:=s1 e;have hnx:QbF t down (Qat t down p.dst false) n p.dst=[]:=by rw[←e];exact Qkv _ _
  refine⟨?_,?_,fun a ha=> ?_⟩
  ·show(gA t _ p (n,[])).1=_;rw[h,hnx]
  ·show(gA t _ p (n,[])).2.2=_;rw[h,if_pos e]
  ·rw[hnx]at ha;cases ha
 ·by_cases hnx:QbF t down (Qat t down p.dst false) n p.dst=[]
  ·have h:=s2 e hnx;refine⟨?_,?_,fun a ha=> ?_⟩
   ·show(gA t _ p (n,[])).1=_;rw[h,hnx]
   ·show(gA t _ p (n,[])).2.2=_;rw[h,if_neg e,if_pos hnx]
   ·rw[hnx]at ha;cases ha
  ·have h:=s3 e hnx;refine⟨?_,?_,fun a ha=> ?_⟩
   ·show(gA t _ p (n,[])).1=_;rw[h]
   ·show(gA t _ p (n,[])).2.2=_;rw[h,if_neg e,if_neg hnx]
   ·show(Qbi t a,(gA t _ p (n,[])).2.1.stack)=_;rw[h]
omit hd in
theorem Qdc{d n a:Int}{D:List Int}(ha:a∈QbF t down D n d):(0<=a/\a<2*t.links.length)/\Qbm t a=n/\n≠d/\0<=gt D (Qbi t a)/\Qch t (Qbi t a) d=true/\gt D n=gt D (Qbi t a)+Qbt t a/\(0<=Qbi t a/\Qbi t a<t.nodes)/\1<=Qbt t a:=by
 obtain⟨h1,h2⟩:=List.mem_filter.1 ha;simp only[QaK,List.mem_map,List.mem_range]at h1;obtain⟨k,hk,rfl⟩:=h1;simp only[Bool.and_eq_true,decide_eq_true_eq,onB,Bool.not_eq_true',decide_eq_false_iff_not]at h2;obtain⟨e1,⟨⟨⟨_,e3⟩,e4⟩,e5⟩,e6⟩:=h2;have hr:0<=(k:Int)/\(k:Int)<2*t.links.length:=by omega
 obtain⟨-,f2,-,f4,-⟩:=Qb5 (QfA hf) hr.1 hr.2;rw[e1]at e3 e6;exact⟨hr,e1,e3,e4,e5,e6,f2,f4⟩
theorem QoH{n:Int}(hn:0<=n/\n<t.nodes)(hne:n≠p.dst)(h:0<=gt (Qat t down p.dst false) n):QbF t down (Qat t down p.dst false) n p.dst≠[]:=by
 obtain⟨a,a0,a1,ho,hx,hy,hc⟩:=(Qf8 hf hd).tight n hn.1 hn.2 hne h;simp only[xOf,yOf,Qf5,Bool.false_eq_true,if_false,Bool.and_eq_true]at ho hx hy hc;intro he;have:a∈QbF t down (Qat t down p.dst false) n p.dst:=by
  refine List.mem_filter.2 ⟨?_,?_⟩
  ·simp only[QaK,List.mem_map,List.mem_range];exact⟨a.toNat,by omega,by omega⟩
  ·simp only[Bool.and_eq_true,decide_eq_true_eq,onB,Bool.not_eq_true',decide_eq_false_iff_not];rw[hx];exact⟨rfl,⟨⟨⟨ho.1,hne⟩,hy⟩,ho.2⟩,hc⟩
 rw[he]at this;cases this
theorem QyK:∀(k:Nat) (n:Int),0<=n/\n<t.nodes->gt (Qat t down p.dst false) n<=k->Dep (gR t down p).nx k (n,[]):=by
 intro k;induction k with
 |zero=>
  intro n hn hk;obtain⟨h1,-,-⟩:=QqG hf hd hn;show nxt (gR t down p).ar (gR t down p).to (n,[])=[];rw[nxt,h1];cases hl:QbF t down (Qat t down p.dst false) n p.dst with
  |nil=>rfl
  |cons a r=>
   obtain⟨-,-,-,q1,-,q2,-,q3⟩:=Qdc hf (a:=a) (by rw[hl];simp);omega
 |succ k ih=>
  intro n hn hk y hy;obtain⟨h1,-,h3⟩:=QqG hf hd hn;rw[Wlk.nx,nxt,List.mem_map]at hy;obtain⟨a,ha,rfl⟩:=hy;rw[h1]at ha;obtain⟨-,-,-,q1,-,q2,q4,q3⟩:=Qdc hf ha;rw[h3 a ha];exact ih _ q4 (by omega)
theorem QyJ:∀(k:Nat) (n:Int) (q:List Int),0<=n/\n<t.nodes->0<=gt (Qat t down p.dst false) n->Dep (gR t down p).nx k (n,[])->∀y∈brs (gR t down p).ar (gR t down p).to k (n,[]) q,y.1=(p.dst,[])/\∃w,y.2=q++w/\RW t p.dst n w/\(w.map (Qbt t)).sum=gt (Qat t down p.dst false) n/\(w=[]->n=p.dst):=by
 have base:∀(n:Int) (q:List Int),0<=n/\n<t.nodes->0<=gt (Qat t down p.dst false) n->(gR t down p).ar (n,[])=[]->∀y:WSt×List Int,y=((n,[]),q)->y.1=(p.dst,[])/\∃w,y.2=q++w/\RW t p.dst n w/\(w.map (Qbt t)).sum=gt (Qat t down p.dst false) n/\(w=[]->n=p.dst):=by
  rintro n q hn h0 har y rfl;obtain⟨h1,-,-⟩:=QqG hf hd hn;have hne:n=p.dst:=Classical.byContradiction fun hne=>QoH hf hd hn hne h0 (by rw[←h1];exact har)
  subst hne;exact⟨rfl,[],by simp,.nil,by rw[(Qf8 hf hd).zero];rfl,fun _=>rfl⟩
 intro k;induction k with
 |zero=>
  intro n q hn h0 hD y hy;simp only[brs,List.mem_singleton]at hy;refine base n q hn h0 ?_ y hy;have:nxt (gR t down p).ar (gR t down p).to (n,[])=[]:=hD;rw[nxt,List.map_eq_nil_iff]at this;exact this
 |succ k ih=>
  intro n q hn h0 hD y hy;rw[brs]at hy;split at hy
  ·rename_i har;exact base n q hn h0 har y (by simpa using hy)
  ·rename_i har;obtain⟨a,ha,hy⟩:=List.mem_flatMap.1 hy;have hDa:=hD ((gR t down p).to (n,[]) a) (List.mem_map.2 ⟨a,ha,rfl⟩);obtain⟨h1,-,h3⟩:=QqG hf hd hn;rw[h1]at ha;obtain⟨q0,q1,q2,q3,q4,q5,q6,q7⟩:=Qdc hf ha;rw[h3 a ha]at hy hDa;obtain⟨r1,w,r2,r3,r4,r5⟩:=ih (Qbi t a) (q++[a]) q6 q3 hDa y hy;refine⟨r1,a::w,by rw[r2];simp,.cons n a w q0 q1 (fun hw=> ?_) r3,?_,fun h=>by cases h⟩
   ·simp only[Qch,Bool.or_eq_true,decide_eq_true_eq,Bool.not_eq_true']at q4;rcases q4 with q4|q4
    ·rw[q4]at r3;exfalso;cases r3 with
     |nil=>exact hw rfl
     |cons _ b w' g0 g1 g2 g3=>
      rw[q4,(Qf8 hf hd).zero]at r4;have hpos:∀(m:Int) (l:List Int),RW t p.dst m l->0<=(l.map (Qbt t)).sum:=by
       intro m l hl;induction hl with
       |nil=>simp
       |cons n a w h0 h1 h2 h3 ih=>
        have:=(Qb5 (QfA hf) h0.1 h0.2).2.2.2.1;simp only[List.map_cons,List.sum_cons];omega
      have:=hpos _ _ g3;have:=(Qb5 (QfA hf) g0.1 g0.2).2.2.2.1;simp only[List.map_cons,List.sum_cons]at r4;omega
    ·exact q4
   ·simp only[List.map_cons,List.sum_cons];omega
omit hf in
theorem QsN:((List.range t.nodes.toNat).map fun(n:Nat)=>((n:Int),([]:List Seg))).Nodup/\∀n:Int,0<=n->n<t.nodes->(n,([]:List Seg))∈(List.range t.nodes.toNat).map fun(n:Nat)=>((n:Int),([]:List Seg)):=by
 refine⟨?_,fun n h0 h1=>List.mem_map.2 ⟨n.toNat,List.mem_range.2 (by omega),by rw[Int.toNat_of_nonneg h0]⟩⟩;rw[List.nodup_iff_pairwise_ne,List.pairwise_map];exact List.pairwise_lt_range.imp fun h e=>by have:=(Prod.mk.inj e).1;omega
end
section
variable{t:Top}{down:List Bool}(hf:Qa9 t down=true){p:Pkt}(hd:0<=p.dst/\p.dst<t.nodes){k:Int}(hk:0<=k/\k<t.nodes)
abbrev sg1 (k:Int):List Seg:=[⟨1,k⟩]
include hf hd hk
theorem Qyj{n:Int}(hn:0<=n/\n<t.nodes):
  (n=k->p.dst=k->gA t (Qbd t down t.nodes.toNat) p (n,sg1 k)=([],{p with stack:=[],hops:=0},-1))/\
  (n=k->p.dst≠k->QbF t down (Qat t down p.dst false) k p.dst≠[]->gA t (Qbd t down t.nodes.toNat) p (n,sg1 k)=(QbF t down (Qat t down p.dst false) k p.dst,{p with stack:=[],hops:=1},0))/\
  (n≠k->QbF t down (Qat t down k false) n k≠[]->gA t (Qbd t down t.nodes.toNat) p (n,sg1 k)=(QbF t down (Qat t down k false) n k,{p with stack:=sg1 k,hops:=1},0)):=by
 have hta:=QoQ hf hn;have hnode:(Qed (Qbd t down t.nodes.toNat) n).node=n:=by rw[hta]
 have htb:Qke t (Qed (Qbd t down t.nodes.toNat) n)=true:=by rw[hta];exact Qhc hf hn
 have he1:=QgQ hf hn hd;have he2:=QgQ hf hn hk;have h0:gA t (Qbd t down t.nodes.toNat) p (n,sg1 k)=Qea t (Qed (Qbd t down t.nodes.toNat) n) {p with stack:=sg1 k,hops:=0} (Qfe n (sg1 k)):=by
  rw[gA,Qga,if_pos ⟨htb,hd⟩,if_neg (by simp[sg1]),hnode]
 refine⟨fun h1 h2=> ?_,fun h1 h2 h3=> ?_,fun h1 h3=> ?_⟩
 ·subst h1;rw[h0,show Qfe n (sg1 n)=[]by simp[Qfe,sg1],Qea,Qdv,if_pos (by rw[hnode];exact h2)]
 ·subst h1;rw[h0,show Qfe n (sg1 n)=[]by simp[Qfe,sg1],Qea,Qdv,if_neg (by rw[hnode];exact h2),if_neg (by simp),if_pos ⟨hd,by simp only[he1];exact List.length_pos_iff.2 h3⟩];simp only[he1,QcY,Qds,Bool.false_eq_true,if_false];rfl
 ·have hsk:Qfe n (sg1 k)=sg1 k:=by
   have:¬k=n:=fun e=>h1 e.symm
   simp[Qfe,sg1,this]
  rw[h0,hsk];simp only[sg1,Qea];rw[if_neg (by simp),if_pos trivial,if_pos ⟨hk,by simp only[he2];exact List.length_pos_iff.2 h3⟩];simp only[he2,QcY,Qds,Bool.false_eq_true,if_false];rfl
theorem QqH{n:Int}(hn:0<=n/\n<t.nodes)(h0:0<=gt (Qat t down k false) n)(h1:0<=gt (Qat t down p.dst false) k):
  (n=k->p.dst=k->(gR t down p).ar (n,sg1 k)=[]/\(gR t down p).rs (n,sg1 k)= -1)/\
  (n=k->p.dst≠k->(gR t down p).ar (n,sg1 k)=QbF t down (Qat t down p.dst false) k p.dst/\(gR t down p).ar (n,sg1 k)≠[]/\∀a,(gR t down p).to (n,sg1 k) a=(Qbi t a,[]))/\
  (n≠k->(gR t down p).ar (n,sg1 k)=QbF t down (Qat t down k false) n k/\(gR t down p).ar (n,sg1 k)≠[]/\∀a,(gR t down p).to (n,sg1 k) a=(Qbi t a,sg1 k)):=by
 obtain⟨s1,s2,s3⟩:=Qyj hf hd hk hn;refine⟨fun e1 e2=> ?_,fun e1 e2=> ?_,fun e1=> ?_⟩
 ·have h:=s1 e1 e2;exact⟨by show(gA t _ p (n,sg1 k)).1=_;rw[h],by show(gA t _ p (n,sg1 k)).2.2=_;rw[h]⟩
 ·have hne:=QoH hf hd hk (fun e=>e2 e.symm) h1;have h:=s2 e1 e2 hne;have ha:(gR t down p).ar (n,sg1 k)=QbF t down (Qat t down p.dst false) k p.dst:=by show(gA t _ p (n,sg1 k)).1=_;rw[h]
  exact⟨ha,by rw[ha];exact hne,fun a=>by show(Qbi t a,(gA t _ p (n,sg1 k)).2.1.stack)=_;rw[h]⟩
 ·have hne:=QoH (p:={p with dst:=k}) hf hk hn e1 h0;have h:=s3 e1 hne;have ha:(gR t down p).ar (n,sg1 k)=QbF t down (Qat t down k false) n k:=by show(gA t _ p (n,sg1 k)).1=_;rw[h]
  exact⟨ha,by rw[ha];exact hne,fun a=>by show(Qbi t a,(gA t _ p (n,sg1 k)).2.1.stack)=_;rw[h]⟩
theorem QyN(h1:0<=gt (Qat t down p.dst false) k):∀(m:Nat) (n:Int),0<=n/\n<t.nodes->0<=gt (Qat t down k false) n->gt (Qat t down k false) n<=m->Dep (gR t down p).nx (m+(gt (Qat t down p.dst false) k).toNat) (n,sg1 k):=by
 have hdk:=Qf8 (p:={p with dst:=k}) hf hk;have base:∀j:Nat,gt (Qat t down p.dst false) k<=j->Dep (gR t down p).nx j (k,sg1 k):=fun j hj=>by
  obtain⟨a1,a2,-⟩:=QqH hf hd hk hk (by rw[hdk.zero];omega) h1;by_cases e:p.dst=k
  ·refine QiQ (Nat.zero_le _) ?_;show nxt (gR t down p).ar (gR t down p).to (k,sg1 k)=[];rw[nxt,(a1 rfl e).1];rfl
  ·obtain⟨b1,b2,b3⟩:=a2 rfl e;cases j with
   |zero=>
    exfalso;obtain⟨a,r,hr⟩:=List.exists_cons_of_ne_nil b2;obtain⟨-,-,-,q1,-,q2,-,q3⟩:=Qdc hf (a:=a) (n:=k) (d:=p.dst) (D:=Qat t down p.dst false) (by rw[←b1,hr];simp);omega
   |succ j=>
    intro y hy;obtain⟨a,ha,rfl⟩:=List.mem_map.1 hy;rw[b1]at ha;obtain⟨-,-,-,q1,-,q2,q4,q3⟩:=Qdc hf ha;rw[b3 a];exact QyK hf hd j _ q4 (by omega)
 intro m;induction m with
 |zero=>
  intro n hn h0 hm;by_cases e:n=k
  ·subst e;exact base _ (by omega)
  ·exfalso;obtain⟨-,-,a3⟩:=QqH hf hd hk hn h0 h1;obtain⟨b1,b2,-⟩:=a3 e;obtain⟨a,r,hr⟩:=List.exists_cons_of_ne_nil b2;obtain⟨-,-,-,q1,-,q2,-,q3⟩:=Qdc hf (a:=a) (n:=n) (d:=k) (D:=Qat t down k false) (by rw[←b1,hr];simp);omega
 |succ m ih=>
  intro n hn h0 hm;by_cases e:n=k
  ·subst e;exact base _ (by omega)
  ·obtain⟨-,-,a3⟩:=QqH hf hd hk hn h0 h1;obtain⟨b1,b2,b3⟩:=a3 e;rw[show m+1+(gt (Qat t down p.dst false) k).toNat=(m+(gt (Qat t down p.dst false) k).toNat)+1 by omega];intro y hy;obtain⟨a,ha,rfl⟩:=List.mem_map.1 hy;rw[b1]at ha;obtain⟨-,-,-,q1,-,q2,q4,q3⟩:=Qdc hf ha;rw[b3 a];exact ih _ q4 q1 (by omega)
theorem QyM(h1:0<=gt (Qat t down p.dst false) k):∀(j:Nat) (n:Int) (q:List Int),0<=n/\n<t.nodes->0<=gt (Qat t down k false) n->Dep (gR t down p).nx j (n,sg1 k)->∀y∈brs (gR t down p).ar (gR t down p).to j (n,sg1 k) q,
  y.1.1=p.dst/\(gR t down p).rs y.1= -1/\∃w,y.2=q++w/\(∀a∈w,0<=a/\a<2*t.links.length)/\(w.map (Qbt t)).sum=gt (Qat t down k false) n+gt (Qat t down p.dst false) k:=by
 have hdk:=Qf8 (p:={p with dst:=k}) hf hk;have hrw:∀(m:Int) (w:List Int),RW t p.dst m w->∀a∈w,0<=a/\a<2*t.links.length:=by
  intro m w h;induction h with
  |nil=>intro a ha;cases ha
  |cons n b w g0 g1 g2 g3 ih=>
   intro a ha;rcases List.mem_cons.1 ha with rfl|ha
   ·exact g0
   ·exact ih a ha
 have hrs:(gR t down p).rs (p.dst,[])= -1:=by
  obtain⟨-,h2,-⟩:=QqG hf hd (n:=p.dst) hd;rw[h2,if_pos rfl]
 intro j;induction j with
 |zero=>
  intro n q hn h0 hD y hy;obtain⟨a1,a2,a3⟩:=QqH hf hd hk hn h0 h1;have har:(gR t down p).ar (n,sg1 k)=[]:=by
   have:nxt (gR t down p).ar (gR t down p).to (n,sg1 k)=[]:=hD;rw[nxt,List.map_eq_nil_iff]at this;exact this
  by_cases e:n=k
  ·by_cases e2:p.dst=k
   ·simp only[brs,List.mem_singleton]at hy;subst hy;refine⟨by rw[e2];exact e,(a1 e e2).2,[],by simp,fun a ha=>(by cases ha),?_⟩;have z1:=hdk.zero;have z2:=(Qf8 hf hd).zero;rw[e2]at z2;simp only at z1;rw[e,z1,e2,z2];rfl
   ·exact absurd har (a2 e e2).2.1
  ·exact absurd har (a3 e).2.1
 |succ j ih=>
  intro n q hn h0 hD y hy;obtain⟨a1,a2,a3⟩:=QqH hf hd hk hn h0 h1;rw[brs]at hy;by_cases e:n=k
  ·by_cases e2:p.dst=k
   ·rw[if_pos (a1 e e2).1]at hy;simp only[List.mem_singleton]at hy;subst hy;refine⟨by rw[e2];exact e,(a1 e e2).2,[],by simp,fun a ha=>(by cases ha),?_⟩;have z1:=hdk.zero;have z2:=(Qf8 hf hd).zero;rw[e2]at z2;simp only at z1;rw[e,z1,e2,z2];rfl
   ·obtain⟨b1,b2,b3⟩:=a2 e e2;rw[if_neg b2]at hy;obtain⟨a,ha,hy⟩:=List.mem_flatMap.1 hy;have hDa:=hD ((gR t down p).to (n,sg1 k) a) (List.mem_map.2 ⟨a,ha,rfl⟩);rw[b1]at ha;obtain⟨q0,q1,q2,q3,q4,q5,q6,q7⟩:=Qdc hf ha;rw[b3 a]at hy hDa;obtain⟨r1,w,r2,r3,r4,-⟩:=QyJ hf hd j (Qbi t a) (q++[a]) q6 q3 hDa y hy;refine⟨by rw[r1],by rw[r1];exact hrs,a::w,by rw[r2];simp,fun c hc=> ?_,?_⟩
    ·rcases List.mem_cons.1 hc with rfl|hc
     ·exact q0
     ·exact hrw _ _ r3 c hc
    ·have z1:=hdk.zero;simp only at z1;simp only[List.map_cons,List.sum_cons];rw[e,z1];omega
  ·obtain⟨b1,b2,b3⟩:=a3 e;rw[if_neg b2]at hy;obtain⟨a,ha,hy⟩:=List.mem_flatMap.1 hy;have hDa:=hD ((gR t down p).to (n,sg1 k) a) (List.mem_map.2 ⟨a,ha,rfl⟩);rw[b1]at ha;obtain⟨q0,q1,q2,q3,q4,q5,q6,q7⟩:=Qdc hf ha;rw[b3 a]at hy hDa;obtain⟨r1,r5,w,r2,r3,r4⟩:=ih (Qbi t a) (q++[a]) q6 q3 hDa y hy;refine⟨r1,r5,a::w,by rw[r2];simp,fun c hc=> ?_,?_⟩
   ·rcases List.mem_cons.1 hc with rfl|hc
    ·exact q0
    ·exact r3 c hc
   ·simp only[List.map_cons,List.sum_cons];omega
end
section
variable{t:Top}{down:List Bool}(hf:Qa9 t down=true){p:Pkt}(hd:0<=p.dst/\p.dst<t.nodes){k:Int}(hk:0<=k/\k<t.nodes)
include hf hd hk
theorem QyL{n:Int}(hn:0<=n/\n<t.nodes)(h0:0<=gt (Qat t down k false) n)(h1:0<=gt (Qat t down p.dst false) k):∃U,Expl (gR t down p).nx (n,sg1 k) U/\U.length<=2*t.nodes.toNat/\
  (QjV (gR t down p) U.length (n,sg1 k) 0=([],6)\/∃l,QjV (gR t down p) U.length (n,sg1 k) 0=(l,0)/\l≠[]/\
   ∀r∈l,r.rs= -1/\r.node=p.dst/\(∀a∈r.path,0<=a/\a<2*t.links.length)/\(r.path.map (Qbt t)).sum=gt (Qat t down k false) n+gt (Qat t down p.dst false) k):=by
 obtain⟨v1,v2⟩:=QsN (t:=t) hd;have hB:∀x,x∈((List.range t.nodes.toNat).map fun(i:Nat)=>((i:Int),sg1 k)).filter (fun x=>decide (0<=gt (Qat t down k false) x.1))↔∃i:Int,(0<=i/\i<t.nodes)/\0<=gt (Qat t down k false) i/\x=(i,sg1 k):=fun x=>by
  rw[List.mem_filter];simp only[List.mem_map,List.mem_range,decide_eq_true_eq];constructor
  ·rintro⟨⟨i,hi,rfl⟩,h⟩;exact⟨(i:Int),by omega,h,rfl⟩
  ·rintro⟨i,hi,h,rfl⟩;exact⟨⟨i.toNat,by omega,by rw[Int.toNat_of_nonneg hi.1]⟩,h⟩
 have hcl:∀x∈((List.range t.nodes.toNat).map fun(i:Nat)=>((i:Int),([]:List Seg)))++((List.range t.nodes.toNat).map fun(i:Nat)=>((i:Int),sg1 k)).filter (fun x=>decide (0<=gt (Qat t down k false) x.1)),
   ∀y∈(gR t down p).nx x,y∈((List.range t.nodes.toNat).map fun(i:Nat)=>((i:Int),([]:List Seg)))++((List.range t.nodes.toNat).map fun(i:Nat)=>((i:Int),sg1 k)).filter (fun x=>decide (0<=gt (Qat t down k false) x.1)):=by
  intro x hx y hy;rcases List.mem_append.1 hx with hx|hx
  ·obtain⟨i,hi,rfl⟩:=List.mem_map.1 hx;have hi':=List.mem_range.1 hi;obtain⟨g1,-,g3⟩:=QqG hf hd (n:=(i:Int)) (by omega);rw[Wlk.nx,nxt,List.mem_map]at hy;obtain⟨a,ha,rfl⟩:=hy;rw[g1]at ha;rw[g3 a ha];obtain⟨-,-,-,-,-,-,q6,-⟩:=Qdc hf ha;exact List.mem_append_left _ (v2 _ q6.1 q6.2)
  ·obtain⟨i,hi,hi0,rfl⟩:=(hB x).1 hx;obtain⟨a1,a2,a3⟩:=QqH hf hd hk hi hi0 h1;rw[Wlk.nx,nxt,List.mem_map]at hy;obtain⟨a,ha,rfl⟩:=hy;by_cases e:i=k
   ·by_cases e2:p.dst=k
    ·rw[(a1 e e2).1]at ha;cases ha
    ·obtain⟨b1,b2,b3⟩:=a2 e e2;rw[b1]at ha;rw[b3 a];obtain⟨-,-,-,-,-,-,q6,-⟩:=Qdc hf ha;exact List.mem_append_left _ (v2 _ q6.1 q6.2)
   ·obtain⟨b1,b2,b3⟩:=a3 e;rw[b1]at ha;rw[b3 a];obtain⟨-,-,-,q3,-,-,q6,-⟩:=Qdc hf ha;exact List.mem_append_right _ ((hB _).2 ⟨_,q6,q3,rfl⟩)
 have hnd:(((List.range t.nodes.toNat).map fun(i:Nat)=>((i:Int),([]:List Seg)))++((List.range t.nodes.toNat).map fun(i:Nat)=>((i:Int),sg1 k)).filter (fun x=>decide (0<=gt (Qat t down k false) x.1))).Nodup:=by
  refine List.nodup_append.2 ⟨v1,?_,fun x hx y hy e=> ?_⟩
  ·rw[List.nodup_iff_pairwise_ne];refine List.Pairwise.filter _ ?_;rw[List.pairwise_map];exact List.pairwise_lt_range.imp fun h e=>by have:=(Prod.mk.inj e).1;omega
  ·subst e;obtain⟨i,-,rfl⟩:=List.mem_map.1 hx;obtain⟨j,-,-,e⟩:=(hB _).1 hy;have:=(Prod.mk.inj e).2;simp[sg1]at this
 obtain⟨U,hE,hl⟩:=Qwh hnd (List.mem_append_right _ ((hB (n,sg1 k)).2 ⟨n,hn,h0,rfl⟩)) hcl;have hlen:U.length<=2*t.nodes.toNat:=by
  refine Nat.le_trans hl ?_;rw[List.length_append];refine Nat.le_trans (Nat.add_le_add_left (List.length_filter_le _ _) _) ?_;simp only[List.length_map,List.length_range];omega
 refine⟨U,hE,hlen,?_⟩;obtain⟨j,hj,hdj⟩:=Qx7 hE.cl hE.st (QyN hf hd hk h1 (gt (Qat t down k false) n).toNat n hn h0 (by omega));obtain⟨K,hK,-⟩:=Qwb j U.length [] (n,sg1 k) hj hdj fun x h=>by cases h
 have hdU:Dep (gR t down p).nx U.length (n,sg1 k):=QiQ (by omega) hdj;simp only[QjV,if_true,hK];split
 ·exact .inl rfl
 ·refine .inr ⟨_,rfl,fun he=> ?_,fun r hr=> ?_⟩
  ·have g1:=QiE (ar:=(gR t down p).ar) (to:=(gR t down p).to) U.length (n,sg1 k) [];have g2:=Qsu (nx:=(gR t down p).nx) U.length (n,sg1 k);rw[brR,List.map_eq_nil_iff]at he;rw[he]at g1;simp only[List.length_nil]at g1;have g3:num (nxt (gR t down p).ar (gR t down p).to) U.length (n,sg1 k)=num (gR t down p).nx U.length (n,sg1 k):=rfl;omega
  ·rw[brR]at hr;obtain⟨y,hy,rfl⟩:=List.mem_map.1 hr;obtain⟨r1,r2,w,r3,r4,r5⟩:=QyM hf hd hk h1 U.length n [] hn h0 hdU y hy;rw[List.nil_append]at r3;simp only[QAd];exact⟨r2,r1,by rw[r3];exact r4,by rw[r3];exact r5⟩
end
theorem QqU{t:Top}{down:List Bool}(hf:Qa9 t down=true):TbI (Qbd t down t.nodes.toNat):=by
 have hv:=Qai.1 (QfA hf);refine⟨fun x hx e he=> ?_⟩;simp only[Qbd,List.mem_map,List.mem_range]at hx;obtain⟨k,hk,rfl⟩:=hx;have hn:0<=(k:Int)/\(k:Int)<t.nodes:=by omega
 rw[QbS,if_pos hf,if_pos hn]at he;simp only[toL,List.mem_map]at he;obtain⟨d,hd,rfl⟩:=he;simp only[QaK,List.mem_map,List.mem_range]at hd;obtain⟨j,hj,rfl⟩:=hd;refine⟨?_,by simp⟩;simp only;rw[Qsr hf hn (by omega),QbF];refine Nat.le_trans (List.length_filter_le _ _) ?_;simp only[QaK,List.length_map,List.length_range];omega
def viP(k d:Int):Pkt:=⟨0,0,d,0,[⟨1,k⟩],0⟩
abbrev QrJ (s k d:Int):AV:= .agg [.d (iD s),.d (iD k),.d (iD d)]
theorem Qu9(P:Program)(hP:P=Tryd.prog)(t:Top)(down:List Bool)(hf:Qa9 t down=true)(s k d:Int)(hs:0<=s/\s<t.nodes)(hk:0<=k/\k<t.nodes)(hd:0<=d/\d<t.nodes)(ha:0<=gt (Qat t down k false) s)(hb:0<=gt (Qat t down d false) k):
  ∃(l:List Rsl) (e:Int),(∀m,Qbs m->FnS P Qdi [Qa2 t,Qcu (Qbd t down t.nodes.toNat),Qdj (viP k d),iA s] [.am m] fun r h'=>∃m',h'=[.am m']/\Qbs m'/\r= .tup [.c (.d (QxB l)),iA e])/\
   (e=6\/(e=0/\l≠[]/\∀r∈l,r.rs= -1/\r.node=d/\(∀a∈r.path,0<=a/\a<2*t.links.length)/\(r.path.map (Qbt t)).sum=gt (Qat t down k false) s+gt (Qat t down d false) k)):=by
 have hc:=QmK hf;have hx:=QqU hf;have hv:=Qai.1 (QfA hf);obtain⟨U,hE,hl,hall⟩:=QyL hf (p:=viP k d) hd hk hs ha hb;have hck:QaH t (Qbd t down t.nodes.toNat) s=0:=by rw[QaH,if_pos hc,if_pos hs]
 have hst:StI t (s,(viP k d).stack):=⟨hs.1,hs.2,by simp[viP],fun x hx=>by
  simp only[viP,List.mem_cons,List.not_mem_nil,or_false]at hx;subst hx;unfold In64;simp only;omega⟩
 have hok:=Qs5 hP hc hx (p:=viP k d) hst hE (by omega);refine⟨(QjV (gW t (Qbd t down t.nodes.toNat) (viP k d)) U.length (s,sg1 k) 0).1,(QjV (gW t (Qbd t down t.nodes.toNat) (viP k d)) U.length (s,sg1 k) 0).2,fun m hT=> ?_,?_⟩
 ·have:=Qth P hP t (Qbd t down t.nodes.toNat) (viP k d) s (gW t (Qbd t down t.nodes.toNat) (viP k d)) U m hT fun _=>⟨hok,hE.st⟩
  rw[hck]at this;refine Qy0 (R:=fun r m'=>Qbs m'/\r= .tup [.c (.d (QxB (QjV (gW t (Qbd t down t.nodes.toNat) (viP k d)) U.length (s,sg1 k) 0).1)),iA (QjV (gW t (Qbd t down t.nodes.toNat) (viP k d)) U.length (s,sg1 k) 0).2]) this fun r m' ⟨_,e⟩=>by subst e;exact⟨fun _=>rfl,rfl⟩
 ·rcases hall with h|⟨l,h,g1,g2⟩
  ·exact .inl (by rw[show QjV (gW t (Qbd t down t.nodes.toNat) (viP k d)) U.length (s,sg1 k) 0=([],6)from h])
  ·right;rw[show QjV (gW t (Qbd t down t.nodes.toNat) (viP k d)) U.length (s,sg1 k) 0=(l,0)from h];exact⟨rfl,g1,g2⟩
theorem QuY(pa:List Int)(f:Int->Int)(h:∀a∈pa,1<=f a)(j:Nat):0<=((pa.take j).map f).sum/\((pa.take j).map f).sum<=(pa.map f).sum:=by
 induction pa generalizing j with
 |nil=>simp
 |cons a r ih=>
  have h1:=h a (List.mem_cons_self ..);have h2:=ih (fun b hb=>h b (List.mem_cons_of_mem _ hb));cases j with
  |zero=>
   have:=(h2 r.length).1;rw[List.take_length]at this;simp only[List.take_zero,List.map_nil,List.sum_nil,List.map_cons,List.sum_cons];omega
  |succ j=>
   have:=h2 j;simp only[List.take_succ_cons,List.map_cons,List.sum_cons];omega
theorem Qxq(P:Program)(hP:P=Tryd.prog)(haw:QnI P)(t:Top)(down:List Bool)(s k d:Int)(m:Ar)(hT:Qbs m):FnS P Qe1 [Qa2 t,QaY down,QrJ s k d] [.am m] fun r h'=>r=bA true/\∃m' tl,h'= .am m'::tl/\Qbs m':=by
 have haw:FnS P Qcy [] [.am m] fun r h'=>∃m',h'=[.am m']/\Qbs m'/\r=bA true:=
  Qy0 (R:=fun r m'=>Qbs m'/\r=bA true) ((haw m hT).mono fun r h' ⟨e,m',tl,e2,h⟩=>⟨m',tl,e2,h,e⟩) fun r m' ⟨_,e⟩=>by subst e;exact⟨fun _=>rfl,rfl⟩
 have hall:=QsB P hP t down;have hd1:=Qn3 P hP t down k;have hd2:=Qn3 P hP t down d;have hco:=fun a=>Qn0 P hP t a
 have hvc:=fun hf hs hk hd ha hb=>Qu9 P hP t down hf s k d hs hk hd ha hb
 refine QaO (hP▸mixed) (hP▸Qh6) (hP▸QiI) (nle rfl) fun Λ Λo Q hQ=> ?_
 clear hP;have fin:=fun m' tl hT=>hQ (bA true) (.am m'::tl) ⟨rfl,m',tl,rfl,hT⟩
 clear hQ;by_cases hgood:Qa9 t down=true/\(0<=k/\k<t.nodes)/\(0<=d/\d<t.nodes)/\(0<=s/\s<t.nodes)
 ·obtain⟨hf,hk,hd,hs⟩:=hgood;have hv:=QfA hf;rw[Qiw,if_pos hf]at hall;rw[QbG,if_pos hf,if_pos hk]at hd1;rw[QbG,if_pos hf,if_pos hd]at hd2;obtain⟨i1,j1⟩:=QdY (t:=t) hv down false hk.1 hk.2;obtain⟨i2,j2⟩:=QdY (t:=t) hv down false hd.1 hd.2;have l1:=i1.len;have l2:=i2.len;have b1:=j1 s hs.1 hs.2;have b2:=j2 k hk.1 hk.2;clear i1 i2 j1 j2;have hvc:=fun ha hb=>hvc hf hs hk hd ha hb
  have hcp:∀a:Int,0<=a/\a<2*t.links.length->1<=Qbt t a/\Qbt t a<=65535:=fun a h=>(Qb5 hv h.1 h.2).2.2.2
  generalize Qat t down k false=D1 at*;generalize Qat t down d false=D2 at*;have e1:(D1.map QaA)[s.toNat]? =some [iD (gt D1 s)]:=by
   rw[gtm,lgE (show s.toNat<D1.length by omega)];simp only[Option.map_some,QaA,gt,List.getD_eq_getElem?_getD,lgE (show s.toNat<D1.length by omega),Option.getD_some]
  have e2:(D2.map QaA)[k.toNat]? =some [iD (gt D2 k)]:=by
   rw[gtm,lgE (show k.toNat<D2.length by omega)];simp only[Option.map_some,QaA,gt,List.getD_eq_getElem?_getD,lgE (show k.toNat<D2.length by omega),Option.getD_some]
  generalize gt D1 s=G1 at*;generalize gt D2 k=G2 at*;generalize Qbd t down t.nodes.toNat=xs at*;generalize hL:(2*t.links.length:Int)=L2 at*;simp only[Qa2,Qcu,Qdj,QaY,QaT,QaU,Qbn,Qaf,Qak,QrJ,QxB,viP,List.map_cons,List.map_nil,Qal]at*;generalize hxl:List.map Qar xs=xl at*;generalize hol:t.ov.map QbA=ol at*;generalize hll:t.links.map QaL=ll at*;generalize hdl:down.map QbA=dl at*;generalize t.nodes=nodes at*;generalize hm1:D1.map QaA=Dl1 at*;generalize hm2:D2.map QaA=Dl2 at*;have n1:Λ Dl1=nodes:=by rw[Λo,←hm1,List.length_map];exact l1
  have n2:Λ Dl2=nodes:=by rw[Λo,←hm2,List.length_map];exact l2
  by_cases hG:0<=G1/\0<=G2
  ·obtain⟨l,e,hwa,hcase⟩:=hvc hG.1 hG.2;have hwf:=fun m hT=>(FnS.fg (hwa m hT):FnS P Qdi [.agg [.d (iD nodes),.d (.list false 1 ol),.d (.list false 7 ll)],.c (.d (.list false 3 xl)),.agg [.d (iD 0),.d (iD 0),.d (iD d),.d (iD 0),.d (.list false 2 [[iD 1,iD k]]),.d (iD 0)],iA s] [.am m] _)
   clear hvc hwa;generalize hrl2:List.map QeM l=rl at*;have lrl:Λ rl=l.length:=by rw[Λo,←hrl2];simp
   generalize Qbt t=cst at*;rcases hcase with rfl|⟨rfl,hne,hr⟩
   ·conv=>cbv
    repeat' first|(left;intro(_:Unit);(conv=>cbv))|(refine QaI [0] haw rfl rfl (by decide) (by repeat' first|exact trivial|refine And.intro ?_ ?_|rfl) rfl rfl ?_;rintro r hc' ⟨m1,rfl,hT1,rfl⟩;have hw1:=hwf m1 hT1;(conv=>cbv))|(refine Qaj hall rfl rfl ?_;conv=>cbv)|(refine Qaj hd1 rfl rfl ?_;conv=>cbv)|(refine Qaj hd2 rfl rfl ?_;conv=>cbv)|(intro(e:List D) he;cases osj (he.symm.trans e1);(conv=>cbv))|(intro(e:List D) he;cases osj (he.symm.trans e2);(conv=>cbv))|(refine Qhg 3 0 2 1 rfl rfl (by repeat' first|exact trivial|refine And.intro ?_ ?_|rfl) (by repeat' first|exact trivial|refine And.intro ?_ ?_|rfl) ?_;(conv=>cbv))|(refine QaI [0] hw1 rfl rfl (by decide) (by repeat' first|exact trivial|refine And.intro ?_ ?_|rfl) rfl rfl ?_;rintro r hc' ⟨m2,rfl,hT2,rfl⟩;(conv=>cbv))|exact fin _ _ (by assumption)|exact gu|exact trivial|refine And.intro ?_ ?_|(intro hc;first|exact absurd hc (by decide)|(exfalso;omega)|((first|rw[wS (by omega) (by omega)]at hc|rw[Qad]at hc|skip);try (conv=>cbv)))|refine CallG.old ?_
   ·have hln:0<l.length:=List.length_pos_iff.2 hne
    conv=>cbv
    repeat' first|(left;intro(_:Unit);(conv=>cbv))|(refine QaI [0] haw rfl rfl (by decide) (by repeat' first|exact trivial|refine And.intro ?_ ?_|rfl) rfl rfl ?_;rintro r hc' ⟨m1,rfl,hT1,rfl⟩;have hw1:=hwf m1 hT1;(conv=>cbv))|(refine Qaj hall rfl rfl ?_;conv=>cbv)|(refine Qaj hd1 rfl rfl ?_;conv=>cbv)|(refine Qaj hd2 rfl rfl ?_;conv=>cbv)|(intro(e:List D) he;cases osj (he.symm.trans e1);(conv=>cbv))|(intro(e:List D) he;cases osj (he.symm.trans e2);(conv=>cbv))|(refine Qhg 3 0 2 1 rfl rfl (by repeat' first|exact trivial|refine And.intro ?_ ?_|rfl) (by repeat' first|exact trivial|refine And.intro ?_ ?_|rfl) ?_;(conv=>cbv))|(refine QaI [0] hw1 rfl rfl (by decide) (by repeat' first|exact trivial|refine And.intro ?_ ?_|rfl) rfl rfl ?_;rintro r hc' ⟨m2,rfl,hT2,rfl⟩;(conv=>cbv))|exact fin _ _ (by assumption)|exact gu|exact trivial|refine And.intro ?_ ?_|(intro hc;first|exact absurd hc (by decide)|(exfalso;omega)|((first|rw[wS (by omega) (by omega)]at hc|rw[Qad]at hc|skip);try (conv=>cbv)))|refine CallG.old ?_
    refine Qba l.length (fun(i:Int)=>[(3,.c (.ptr 1 0 0 0)),(9,iA s),(10,iA k),(11,iA d),(12,.c (.d (.list false 1 Dl1))),(14,.c (.d (.list false 1 Dl2))),(16,.c (.d (.list false 3 rl))),(121,.c (.d (.list false 3 rl))),(122,iA (Λ rl)),(123,iA i)])
     (fun _=>[.am m2,.bx [.d (iD nodes),.d (.list false 1 ol),.d (.list false 7 ll)]])
     (fun k i=>i=k/\k<=l.length) 0 (Wk.ca) ⟨rfl,by omega⟩ (fun k s h=>h.2) ?_
    rintro kk i Q' ⟨hi,hkk⟩ norm ex rt;by_cases hlt2:kk<l.length
    ·obtain⟨r,hrk⟩:∃r,l[kk]? =some r:=⟨_,lgE hlt2⟩;obtain⟨r1,r2,r3,r4⟩:=hr r (mgE hrk);have hel:rl[i.toNat]? =some [iD d,iD (-1),.list false 1 (r.path.map QaA)]:=by
      rw[←hrl2,hi,Int.toNat_natCast,gtm,hrk];simp only[Option.map_some,QeM,r1,r2,QaU]
     obtain⟨i1,hi1⟩:∃z:Int,z=((kk+1:Nat):Int):=⟨_,rfl⟩;generalize r.path=pa at*;have hsum:=fun(j:Nat)=>QuY pa cst (fun a h=>(hcp a (r3 a h)).1) j
     have hcp2:=fun a h=>hcp a (r3 a h)
     rw[r4]at hsum;generalize hpl:pa.map QaA=pl at*;have lpl:Λ pl=pa.length:=by rw[Λo,←hpl];simp
     clear hr fin hcp
     conv=>cbv
     repeat' first|(refine ex _ _ _ ?_;(conv=>cbv))|(refine rt _ _ ?_;(conv=>cbv))|(left;intro(_:Unit);(conv=>cbv))|(intro(e:List D) he;cases osj (he.symm.trans hel);(conv=>cbv))|exact gu|exact trivial|refine And.intro ?_ ?_|(intro hc;first|exact absurd hc (by decide)|(exfalso;omega)|((first|rw[wS (by omega) (by omega)]at hc|rw[Qad]at hc|skip);try (conv=>cbv)))|refine CallG.old ?_
     refine Qba pa.length (fun(x:Int×Int)=>[(3,.c (.ptr 1 0 0 0)),(9,iA s),(10,iA k),(11,iA d),(12,.c (.d (.list false 1 Dl1))),(14,.c (.d (.list false 1 Dl2))),(16,.c (.d (.list false 3 rl))),(121,.c (.d (.list false 3 rl))),(122,iA (Λ rl)),(123,iA i),(19,.c (.ptr 2 0 0 0)),(20,iA x.1),(128,.c (.d (.list false 1 pl))),(129,iA (Λ pl)),(130,iA x.2)])
      (fun _=>[.am m2,.bx [.d (iD nodes),.d (.list false 1 ol),.d (.list false 7 ll)],.bx [.d (iD d),.d (iD (-1)),.d (.list false 1 pl)]])
      (fun j x=>x.2=j/\j<=pa.length/\x.1=((pa.take j).map cst).sum) (0,0) (Wk.ca) ⟨rfl,by omega,by simp⟩ (fun j s h=>h.2.1) ?_
     rintro jj ⟨c,j⟩ Q2 ⟨hj,hjl,hcs⟩ norm2 ex2 rt2;simp only at hj hcs;by_cases hlt3:jj<pa.length
     ·obtain⟨a,hak⟩:∃a,pa[jj]? =some a:=⟨_,lgE hlt3⟩;have hpe:pl[j.toNat]? =some [iD a]:=by
       rw[←hpl,hj,Int.toNat_natCast,gtm,hak];simp only[Option.map_some,QaA]
      have hq1:=hsum jj;have hq2:=hsum (jj+1);have hq3:((pa.take (jj+1)).map cst).sum=((pa.take jj).map cst).sum+cst a:=by
       rw[List.take_add_one,hak];simp
      rw[hq3,←hcs]at hq2;rw[←hcs]at hq1;have hcc:=hco a;generalize hca:cst a=ca at*;obtain⟨c1,hc1⟩:∃z:Int,z=c+ca:=⟨_,rfl⟩;obtain⟨j1,hj1⟩:∃z:Int,z=((jj+1:Nat):Int):=⟨_,rfl⟩;clear norm ex rt hco
      conv=>cbv
      repeat' first|(refine ex _ _ _ ?_;(conv=>cbv))|(refine rt _ _ ?_;(conv=>cbv))|(left;intro(_:Unit);(conv=>cbv))|(intro(e:List D) he;cases osj (he.symm.trans hpe);(conv=>cbv))|(refine Qaj hcc rfl rfl ?_;conv=>cbv)|(intro(k:Int) hk;rw[wS (by omega) (by omega)]at hk;refine(fun(hz:c1=k)=> ?_) ?_;rotate_left;omega;subst hz;(conv=>cbv))|(intro(k:Int) hk;rw[wS (by omega) (by omega)]at hk;refine(fun(hz:j1=k)=> ?_) ?_;rotate_left;omega;subst hz;(conv=>cbv))|exact gu|exact trivial|refine And.intro ?_ ?_|(intro hc;first|exact absurd hc (by decide)|(exfalso;omega)|((first|rw[wS (by omega) (by omega)]at hc|rw[Qad]at hc|skip);try (conv=>cbv)))|refine CallG.old ?_
      all_goals (refine norm2 _ _ (c1,j1) ⟨hj1,by omega,by rw[hq3,hc1,hcs]⟩ (Wk.ca))
     ·have hjj:jj=pa.length:=by omega
      rw[hjj,List.take_length,r4]at hcs;clear norm2 hco
      conv=>cbv
      repeat' first|(refine ex _ _ _ ?_;(conv=>cbv))|(refine rt _ _ ?_;(conv=>cbv))|(refine ex2 _ _ _ ?_;(conv=>cbv))|(refine rt2 _ _ ?_;(conv=>cbv))|(left;intro(_:Unit);(conv=>cbv))|(intro(e:List D) he;cases osj (he.symm.trans e1);(conv=>cbv))|(intro(e:List D) he;cases osj (he.symm.trans e2);(conv=>cbv))|(intro(k:Int) hk;rw[wS (by omega) (by omega)]at hk;refine(fun(hz:i1=k)=> ?_) ?_;rotate_left;omega;subst hz;(conv=>cbv))|exact gu|exact trivial|refine And.intro ?_ ?_|(intro hc;first|exact absurd hc (by decide)|(exfalso;omega)|((first|rw[wS (by omega) (by omega)]at hc|rw[Qad]at hc|skip);try (conv=>cbv)))|refine CallG.old ?_
      all_goals (refine norm _ _ i1 ⟨hi1,by omega⟩ (Wk.ca))
    ·conv=>cbv
     repeat' first|(refine ex _ _ _ ?_;(conv=>cbv))|(refine rt _ _ ?_;(conv=>cbv))|exact fin _ _ (by assumption)|exact gu|exact trivial|refine And.intro ?_ ?_|(intro hc;first|exact absurd hc (by decide)|(exfalso;omega)|((first|rw[wS (by omega) (by omega)]at hc|rw[Qad]at hc|skip);try (conv=>cbv)))|refine CallG.old ?_
  ·clear hvc hco
   conv=>cbv
   repeat' first|(left;intro(_:Unit);(conv=>cbv))|(refine QaI [0] haw rfl rfl (by decide) (by repeat' first|exact trivial|refine And.intro ?_ ?_|rfl) rfl rfl ?_;rintro r hc' ⟨m1,rfl,hT1,rfl⟩;(conv=>cbv))|(refine Qaj hall rfl rfl ?_;conv=>cbv)|(refine Qaj hd1 rfl rfl ?_;conv=>cbv)|(refine Qaj hd2 rfl rfl ?_;conv=>cbv)|(intro(e:List D) he;cases osj (he.symm.trans e1);(conv=>cbv))|(intro(e:List D) he;cases osj (he.symm.trans e2);(conv=>cbv))|exact fin _ _ (by assumption)|exact gu|exact trivial|refine And.intro ?_ ?_|(intro hc;first|exact absurd hc (by decide)|(exfalso;omega)|((first|rw[wS (by omega) (by omega)]at hc|rw[Qad]at hc|skip);try (conv=>cbv)))|refine CallG.old ?_
 ·obtain⟨ea,hea⟩:∃e,e=(Qiw t down).2:=⟨_,rfl⟩;obtain⟨f1,hf1⟩:∃e,e=(QbG t down k false).2:=⟨_,rfl⟩;obtain⟨f2,hf2⟩:∃e,e=(QbG t down d false).2:=⟨_,rfl⟩;have hbad:ea≠0\/f1≠0\/f2≠0\/s<0\/t.nodes<=s:=by
   by_cases hf:Qa9 t down=true
   ·by_cases hk:0<=k/\k<t.nodes
    ·by_cases hd:0<=d/\d<t.nodes
     ·right;right;right;refine Classical.byContradiction fun h=>hgood ⟨hf,hk,hd,by omega⟩
     ·right;right;left;rw[hf2,QbG,if_pos hf,if_neg hd];simp
    ·right;left;rw[hf1,QbG,if_pos hf,if_neg hk];simp
   ·left;rw[hea,Qiw,if_neg hf];simp
  rw[←hea]at hall;rw[←hf1]at hd1;rw[←hf2]at hd2;clear hvc hgood hea hf1 hf2 hco;generalize (Qiw t down).1=xs at*;generalize (QbG t down k false).1=D1 at*;generalize (QbG t down d false).1=D2 at*;simp only[Qa2,Qcu,QaY,QaT,QaU,Qaf,Qak,QrJ]at*;generalize hxl:List.map Qar xs=xl at*;generalize hol:t.ov.map QbA=ol at*;generalize hll:t.links.map QaL=ll at*;generalize hdl:down.map QbA=dl at*;generalize t.nodes=nodes at*;generalize D1.map QaA=Dl1 at*;generalize D2.map QaA=Dl2 at*
  conv=>cbv
  repeat' first|(left;intro(_:Unit);(conv=>cbv))|(refine QaI [0] haw rfl rfl (by decide) (by repeat' first|exact trivial|refine And.intro ?_ ?_|rfl) rfl rfl ?_;rintro r hc' ⟨m1,rfl,hT1,rfl⟩;(conv=>cbv))|(refine Qaj hall rfl rfl ?_;conv=>cbv)|(refine Qaj hd1 rfl rfl ?_;conv=>cbv)|(refine Qaj hd2 rfl rfl ?_;conv=>cbv)|exact fin _ _ (by assumption)|exact gu|exact trivial|refine And.intro ?_ ?_|(intro hc;first|exact absurd hc (by decide)|(exfalso;omega)|((first|rw[wS (by omega) (by omega)]at hc|rw[Qad]at hc|skip);try (conv=>cbv)))|refine CallG.old ?_
end Go.Ab
