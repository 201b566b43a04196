/-
  Merged texts, part x.
-/
import Derived.Test.YtohbofilgkdihaaGreatDoorZw
import Derived.Deep.DeepHandedRow
import Derived.Lib.LaidTab
set_option linter.all false
namespace Go.Ab
open Go.Proofs Go.Proofs.YtohbofilgkdihaaGreatDoor Go.ChangeShapes Go.WideShapes Go.ChangeAt Go.RowKit
inductive ShO:Sh->Prop
 |int (k:IntKind) (h:k≠ .u64):ShO (.int k)
 |bool:ShO .bool
 |list (sz:Nat) (es:List Sh) (hne:es≠[]) (h:∀s∈es,ShO s):ShO (.list sz es)
theorem QqK{ss:List Sh}{ds:List D}{n:Nat}(h:FitL ss ds n):∀{j:Nat} {x:D},ds[j]? =some x->∃s m,s∈ss/\Fit1 s x m:=by
 induction ss generalizing ds n with
 |nil=>intro j x hx;cases h;simp at hx
 |cons s ss ih=>
  intro j x hx;cases h with
  |cons _ _ d ds' a b h1 h2=>
   cases j with
   |zero=>simp at hx;subst hx;exact⟨s,a,by simp,h1⟩
   |succ j=>
    obtain⟨s',m,q1,q2⟩:=ih h2 (by simpa using hx);exact⟨s',m,by simp[q1],q2⟩
theorem Qoi{es:List Sh}:∀{l:List (List D)} {n:Nat},FitLL es l n->∀{i:Nat} {e:List D},l[i]? =some e->∃m,FitL es e m:=by
 intro l;induction l with
 |nil=>intro n _ i e he;simp at he
 |cons e0 l ih=>
  intro n h i e he;cases h with
  |cons _ _ _ a b h1 h2=>
   cases i with
   |zero=>simp at he;subst he;exact⟨a,h1⟩
   |succ i=>exact ih h2 (by simpa using he)
abbrev pwG:Nat:=0
theorem Qx0{G:Nat->Prop}{W:World}(hT:W.heap[pwG]? =some QiY){v:Value}{d:D}(h:DR G W v d):∀{s:Sh} {n:Nat},ShO s->Fit1 s d n->DR (λb=>G b/\b≠pwG) W v d:=by
 induction h with
 |bool b=>intro s n _ _;exact .bool b
 |int k z=>intro s n _ _;exact .int k z
 |nils nl sz=>intro s n _ _;exact .nils nl sz
 |emp a sz=>intro s n _ _;exact .emp a sz
 |sl b off cap sz l g hG hcap hmax hsz hc hr ih=>
  intro s n hs hf;cases hf with
  |list _ es _ m hll=>
   cases hs with
   |list _ _ hne hes=>
    have each:∀(i:Nat) (e:List D) (j:Nat) (x:D),l[i]? =some e->e[j]? =some x->∃s' m',ShO s'/\Fit1 s' x m':=λi e j x he hx=>by
     obtain⟨m1,h1⟩:=Qoi hll he;obtain⟨s',m',q1,q2⟩:=QqK h1 hx;exact⟨s',m',hes s' q1,q2⟩
    refine .sl b off cap sz l g (λhl=>⟨hG hl,λhb=> ?_⟩) hcap hmax hsz hc λi e j x he hx=> ?_
    ·cases l with
     |nil=>exact hl rfl
     |cons e l=>
      obtain⟨m1,h1⟩:=Qoi hll (i:=0) (e:=e) rfl;have h2:=h1.len;cases e with
      |nil=>exact hne (lzQ (by simpa using h2.symm))
      |cons x e=>
       have hc0:=hc 0 (x::e) 0 x rfl rfl;have hr0:=hr 0 (x::e) 0 x rfl rfl;obtain⟨s',m',q1,q2⟩:=each 0 (x::e) 0 x rfl rfl;subst hb;rw[QbG hT]at hc0;have hz:∃z,g 0 0= .int .u64 z:=by
        rw[List.getElem?_toArray,gtm,omi]at hc0;obtain⟨z,-,e⟩:=hc0;exact⟨z,e.symm⟩
       obtain⟨z,hz⟩:=hz;rw[hz]at hr0;cases hr0;cases q2;cases q1 with
       |int _ h=>exact h rfl
    ·obtain⟨s',m',q1,q2⟩:=each i e j x he hx;exact ih i e j x he hx q1 q2
 |_=>intro s n hs hf;cases hs<;>cases hf
theorem Qpt{W:World}(hT:W.heap[pwG]? =some QiY){cs:List Value}{ds:List D}{ss:List Sh}{n:Nat}(h:CsR W cs ds)(hf:FitL ss ds n)(hs:∀s∈ss,ShO s):
  ∀(i:Nat) (v:Value) (d:D),cs[i]? =some v->ds[i]? =some d->DR (λb=>b<W.heap.size/\b≠pwG) W v d:=λi v d hv hd=>by
 obtain⟨s,m,q1,q2⟩:=QqK hf hd;exact Qx0 hT (h.2 i v d hv hd) (hs s q1) q2
noncomputable def pwA:Ar:=λb=>if b=pwG then some pwB else none
theorem QyE:Qbt pwA:=by rw[Qbt,pwA,if_pos rfl]
theorem Quc{b:Nat}{x:AB}(h:pwA b=some x):b=pwG/\x=pwB:=by
 rw[pwA]at h;split at h
 ·rename_i e;exact⟨e,(osj h).symm⟩
 ·cases h
theorem QBQ{W:World}(hT:W.heap[pwG]? =some QiY):HR (λb=>b<W.heap.size/\b≠pwG) [(0,0)] [.am pwA] W where
 len:=rfl
 own:=λl l' b k k' h1 h2 _ _=>by
  have:=Qaa h1;have:=Qaa h2;simp at *;omega
 g:=λb hb=>⟨hb.1,λ⟨l,k,h1,h2⟩=>by
  have hl:l=0:=by have:=Qaa h1;simpa using this
  subst hl;cases h1;obtain⟨x,hx⟩:=h2;exact hb.2 (Quc hx).1⟩
 blk:=λl k h1=>by
  have hl:l=0:=by have:=Qaa h1;simpa using this
  subst hl;cases h1;intro b x hx;obtain⟨rfl,rfl⟩:=Quc hx;exact⟨_,hT,rfl⟩
theorem QAH{W:World}(hT:W.heap[pwG]? =some QiY){cs:Array Value}{ds:List D}{ss:List Sh}{n:Nat}(h:CsR W cs.toList ds)(hf:FitL ss ds n)(hs:∀s∈ss,ShO s):
  VR (λb=>b<W.heap.size/\b≠pwG) W [(0,0)] [.am pwA] (.agg cs) (.agg (ds.map .d)):=by
 refine .agg cs _ (by have:=h.1;simpa using this) λi v x hv hx=> ?_
 simp only[gtm,omi]at hx;obtain⟨d,hd,rfl⟩:=hx;exact .d _ _ (Qpt hT h hf hs i v d (by simpa using hv) hd)
theorem QyI{f:FuncId}{fn:Func}(hfn:Tryz.prog.funcs[f]? =some fn){avs:List AV}{W:World}{vs:List Value}(hf:FnS Tryz.prog f avs [.am pwA] λr h'=>r=bA true/\∃m' tl,h'= .am m'::tl/\Qbt m')(hT:W.heap[pwG]? =some QiY)(hv:VRs (λb=>b<W.heap.size/\b≠pwG) W [(0,0)] [.am pwA] vs avs):
  Calls Tryz.prog f vs.toArray W λe W'=>e= .returned (.bool true)/\Quiet W W'/\∀b,b<W.heap.size->W'.heap[b]? =W.heap[b]? :=by
 refine((hf.out _ [(0,0)] W vs (QBQ hT) hv).calls hfn).mono λe W' ⟨v,r,G',ι',h',he,hr,hr',hvr,hx⟩=> ?_
 obtain⟨rfl,m',tl,rfl,hT'⟩:=hr;refine⟨?_,hx.quiet,λb hb=> ?_⟩
 ·have:=QBv (Qcb hvr);rw[this]at he;exact he
 ·by_cases e:b=pwG
  ·subst e;obtain⟨o,h1,h2⟩:=hr'.blk 0 _ rfl _ _ hT';rw[h1,hT,h2]
  ·refine hx.frame b hb λ⟨l,blk,h1,h2⟩=> ?_
   have hl:l=0:=by have:=Qaa h1;simpa using this
   subst hl;cases h1;obtain⟨x,hx⟩:=h2;exact e (Quc hx).1
set_option maxRecDepth 100000 in
theorem QBR{W:World}(hsh:W.ShapedOpen Tryz.prog){cs:Array Value}(h:W.var? Tryz.prog "internal/strconv.uint64pow10"=some cs)(hcs:cs.toList=Go.Lib.pow10Tab.map λn=>Value.int .u64 n):W.heap[pwG]? =some QiY:=by
 have hg:Tryz.prog.globalNamed "internal/strconv.uint64pow10"=some pwG:=by kernel_rfl
 have hlt:pwG<Tryz.prog.globals.size:=by
  have:decide (pwG<Tryz.prog.globals.size)=true:=by kernel_rfl
  exact of_decide_eq_true this
 have hrow:(((begin Tryz.prog (λ_ _=>0) default).world.heap[pwG]?).bind Obj.row?).isSome=true:=by kernel_rfl
 obtain⟨⟨zero,t⟩,hz⟩:=Option.isSome_iff_exists.1 hrow;have ht:pwT=t:=congrArg QCl hz;obtain⟨c,h1,-,-⟩:=hsh.1 pwG zero t hlt hz;unfold World.var? at h;rw[hg]at h;simp only[Option.bind_some,h1,osi]at h;subst h;rw[h1,QiY,ht,<-hcs]
theorem Qvx{ds:List D}{n:Nat}(h:FitL QwH ds n):∃c:Top,QaF c= .agg (ds.map .d):=by
 obtain⟨d0,ds0,_,_,rfl,rfl,g0,h_0⟩:=h.un;obtain⟨nodes,rfl,w_nodes⟩:=g0.i;obtain⟨d1,ds1,_,_,rfl,rfl,g1,h_1⟩:=h_0.un;obtain⟨ov,rfl,w_ov⟩:=g1.lm QaY (λ_=>1) Qz2;rw[Qnt]at w_ov;obtain⟨d2,ds2,_,_,rfl,rfl,g2,h_2⟩:=h_1.un;obtain⟨links,rfl,w_links⟩:=g2.lm Qaz (λ_=>1) Qz3;rw[Qnt]at w_links;rw[h_2.end];exact⟨⟨nodes,ov,links⟩,rfl⟩
theorem QxX{ds:List D}{n:Nat}(h:FitL [.list 1 [.bool]] ds n):∃l:List Bool,ds=[Qaf l]:=by
 obtain⟨d0,ds0,_,_,rfl,rfl,g0,h_0⟩:=h.un;obtain⟨ov,rfl,w_ov⟩:=g0.lm QaY (λ_=>1) Qz2;rw[Qnt]at w_ov;rw[h_0.end];exact⟨ov,rfl⟩
theorem Qy4:ShO shI:= .int _ (by decide)
theorem Qy6:∀s∈QwH,ShO s:=by
 intro s hs;simp only[QwH,List.mem_cons,List.not_mem_nil,or_false]at hs;rcases hs with rfl|rfl|rfl
 ·exact Qy4
 ·exact .list _ _ (by simp) (by intro s hs;simp at hs;subst hs;exact .bool)
 ·exact .list _ _ (by simp) (by intro s hs;simp at hs;subst hs;exact Qy4)
theorem Qy3:∀s∈[Sh.list 1 [.bool]],ShO s:=by
 intro s hs;simp only[List.mem_cons,List.not_mem_nil,or_false]at hs;subst hs;exact .list _ _ (by simp) (by intro s hs;simp at hs;subst hs;exact .bool)
theorem QAI{W:World}(hT:W.heap[pwG]? =some QiY){v:Value}{l:List Bool}{n:Nat}(h:CsR W [v] [Qaf l])(hf:FitL [.list 1 [.bool]] [Qaf l] n):
  VR (λb=>b<W.heap.size/\b≠pwG) W [(0,0)] [.am pwA] v (.c (.d (Qaf l))):=
 .c _ _ (.d _ _ (Qpt hT h hf Qy3 0 _ _ rfl rfl))
theorem Qvw{ds:List D}{n:Nat}(h:FitL [.list 1 [shI]] ds n):∃l:List Int,ds=[Qax l]:=by
 obtain⟨d0,ds0,_,_,rfl,rfl,g0,h_0⟩:=h.un;obtain⟨xs,rfl,w_xs⟩:=g0.lm Qar (λ_=>1) QBu;rw[Qnt]at w_xs;rw[h_0.end];exact⟨xs,rfl⟩
theorem QwG:∀s∈[Sh.list 1 [shI]],ShO s:=by
 intro s hs;simp only[List.mem_cons,List.not_mem_nil,or_false]at hs;subst hs;exact .list _ _ (by simp) (by intro s hs;simp at hs;subst hs;exact Qy4)
theorem QyF{W:World}(hT:W.heap[pwG]? =some QiY){v:Value}{l:List Int}{n:Nat}(h:CsR W [v] [Qax l])(hf:FitL [.list 1 [shI]] [Qax l] n):
  VR (λb=>b<W.heap.size/\b≠pwG) W [(0,0)] [.am pwA] v (Qao l):=
 .c _ _ (.d _ _ (Qpt hT h hf QwG 0 _ _ rfl rfl))
end Go.Ab
namespace Go.Ab
open Go.Proofs
theorem Qrs(k:Nat):(QaS k).Pairwise (·<·):=by
 rw[QaS,List.pairwise_map];exact List.pairwise_lt_range.imp λh=>by omega
theorem Qkn{t:Top}{n:Int}{k:Nat}{f:Int->Bool}(hf:∀a,f a=true->QaE t a=n):Qlf t n ((QaS k).filter f)=true:=by
 have hp:=(Qrs k).filter f;refine Qep.2 λi hi=> ?_
 have hx:((QaS k).filter f)[i]? =some (((QaS k).filter f)[i]):=lgE hi;refine Qkm hx (hf _ (List.mem_filter.1 (mgE hx)).2) ?_;rcases Nat.eq_zero_or_pos i with h|h
 ·exact .inl h
 ·refine .inr ⟨_,lgE (show i-1<_ by omega),?_⟩;exact List.pairwise_iff_getElem.1 hp (i-1) i (by omega) hi (by omega)
section
variable{t:Top}{down:List Bool}(hf:QaK t down=true)
include hf
theorem Qdw:Qam t=true:=by
 simp only[QaK,Bool.and_eq_true]at hf;exact hf.1
theorem Qt2{n d:Int}(hn:0<=n/\n<t.nodes)(hd:0<=d/\d<t.nodes):(QhT t down n d).1=QcD t down (QaM t down d false) n d:=by
 rw[QhT,if_pos hf,if_pos hd,if_pos hn]
theorem Qxz{n:Int}(hn:0<=n/\n<t.nodes){i:Nat}(hi:(i:Int)<t.nodes):(toL t down n t.nodes.toNat)[i]? =some ⟨QcD t down (QaM t down (i:Int) false) n (i:Int),false,[]⟩:=by
 rw[toL,QaS,List.map_map,gtm,List.getElem?_range (by omega)];simp only[Option.map_some,Function.comp];rw[Qt2 hf hn ⟨by omega,hi⟩]
omit hf in
theorem Qt1(D:List Int)(n d:Int):Qlf t n (QcD t down D n d)=true:=by
 refine Qkn λa h=> ?_
 simp only[Bool.and_eq_true,decide_eq_true_eq]at h;exact h.1
omit hf in
theorem QhS(D:List Int)(d:Int):QcD t down D d d=[]:=by
 rw[QcD,List.filter_eq_nil_iff];intro a _ h;simp only[Bool.and_eq_true,decide_eq_true_eq,onB,Bool.not_eq_true',decide_eq_false_iff_not]at h;exact h.2.1.1.1.2 h.1
theorem QlN{n:Int}(hn:0<=n/\n<t.nodes):Qhq t ⟨n,toL t down n t.nodes.toNat,QiQ t down n⟩=true:=by
 have hl:(toL t down n t.nodes.toNat).length=t.nodes.toNat:=by simp[toL,QaS]
 refine QbV.2 ⟨Qdw hf,hn,by simp only;omega,?_,λi e he=> ?_⟩
 ·simp only[QiQ,Qlg,List.filter_filter];refine Qkn λa h=> ?_
  simp only[Bool.and_eq_true,decide_eq_true_eq]at h;exact h.2
 ·simp only at he |-;have hi:=Qaa he;rw[Qxz hf hn (by omega)]at he;obtain rfl:=osj he;refine Qed.2 ⟨Qt1 _ _ _,λ⟨h1,h2⟩=> ?_,λh=>(by cases h),λ_=>rfl,λs hs=>(by cases hs)⟩;simp only at h2;rw[h1,QhS]at h2;simp at h2
theorem Qnu{n:Int}(hn:0<=n/\n<t.nodes):QcY (QbH t down t.nodes.toNat) n=⟨n,toL t down n t.nodes.toNat,QiQ t down n⟩:=by
 have h:(QbH t down t.nodes.toNat)[n.toNat]? =some (QbT t down ((n.toNat:Nat):Int)).1:=by
  rw[QbH,gtm,List.getElem?_range (by omega)];rfl
 rw[QcY,List.getD_eq_getElem?_getD,h,Option.getD_some,Int.toNat_of_nonneg hn.1,QbT,if_pos hf,if_pos hn]
theorem Qn8:Qf4 t (QbH t down t.nodes.toNat)=true:=by
 have hl:(QbH t down t.nodes.toNat).length=t.nodes.toNat:=by simp[QbH]
 have hv:=Qai.1 (Qdw hf);refine Qbk.2 ⟨Qdw hf,by omega,λi x hx=> ?_⟩;have hi:=Qaa hx;have hn:0<=(i:Int)/\(i:Int)<t.nodes:=⟨by omega,by omega⟩;rw[QbH,gtm,List.getElem?_range (by omega)]at hx;simp only[Option.map_some,osi]at hx;rw[QbT,if_pos hf,if_pos hn]at hx;subst hx;exact⟨rfl,QlN hf hn⟩
theorem QrM{n d:Int}(hn:0<=n/\n<t.nodes)(hd:0<=d/\d<t.nodes):ent (QcY (QbH t down t.nodes.toNat) n) d=⟨QcD t down (QaM t down d false) n d,false,[]⟩:=by
 have h:=Qxz hf hn (i:=d.toNat) (by omega);rw[Int.toNat_of_nonneg hd.1]at h;rw[Qnu hf hn,ent,List.getD_eq_getElem?_getD];simp only;rw[h];rfl
end
section
variable{σ:Type}[DecidableEq σ]
theorem Qvy{f:Kn σ->σ->Option (Kn σ)}{Q:σ->Prop}:∀(ys:List σ) (K:Kn σ) (c:Int),(∀y∈ys,∀K,(∀x,lkK K x=some none->Q x)->∃K',f K y=some K'/\∀x,lkK K' x=some none->lkK K x=some none)->(∀x,lkK K x=some none->Q x)->
  ∃K' c',QgK f ys K c=some (K',c')/\∀x,lkK K' x=some none->lkK K x=some none:=by
 intro ys;induction ys with
 |nil=>intro K c _ _;exact⟨K,c,rfl,λx h=>h⟩
 |cons y ys ih=>
  intro K c hf hK;obtain⟨K1,h1,h2⟩:=hf y (by simp) K hK;obtain⟨K2,c2,h3,h4⟩:=ih K1 (QjG (c+Qzq K1 y)) (λz hz=>hf z (by simp[hz])) λx hx=>hK x (h2 x hx)
  refine⟨K2,c2,?_,λx hx=>h2 x (h4 x hx)⟩;rw[QgK,h1];exact h3
theorem QxZ{nx:σ->List σ}:∀(n m:Nat) (K:Kn σ) (s:σ),n<m->Dep nx n s->(∀x,lkK K x=some none->¬Dep nx n x)->∃K',dfs nx m K s=some K'/\∀x,lkK K' x=some none->lkK K x=some none:=by
 intro n;induction n with
 |zero=>
  intro m K s hm hd hK;obtain⟨m,rfl⟩:∃k,m=k+1:=⟨m-1,by omega⟩;rw[dfs];cases hk:lkK K s with
  |some c=>
   cases c with
   |some c=>exact⟨K,rfl,λx h=>h⟩
   |none=>exact absurd hd (hK s hk)
  |none=>
   rw[show nx s=[]from hd];refine⟨_,rfl,λx hx=> ?_⟩;rw[QgX]at hx;split at hx
   ·rename_i e;subst e;rw[Qfk,hk]at hx;simp[lkK]at hx
   ·rename_i e;rw[Qfk]at hx;cases hk2:lkK K x with
    |some c=>rw[hk2]at hx;exact hx
    |none=>
     rw[hk2]at hx;simp only[lkK]at hx;rw[if_neg λh=>e h.symm]at hx;cases hx
 |succ n ih=>
  intro m K s hm hd hK;by_cases hs:Dep nx n s
  ·exact ih m K s (by omega) hs λx hx h=>hK x hx (Qlr h)
  ·obtain⟨m,rfl⟩:∃k,m=k+1:=⟨m-1,by omega⟩;rw[dfs];cases hk:lkK K s with
   |some c=>
    cases c with
    |some c=>exact⟨K,rfl,λx h=>h⟩
    |none=>exact absurd hd (hK s hk)
   |none=>
    obtain⟨K1,c1,h1,h2⟩:=Qvy (f:=dfs nx m) (Q:=λx=>¬Dep nx n x) (nx s) (K++[(s,none)]) (if nx s=[]then 1 else 0) (λy hy K2 hK2=>ih m K2 y (by omega) (hd y hy) hK2) λx hx h=>by
     rw[Qfk]at hx;cases hk2:lkK K x with
     |some c=>
      rw[hk2]at hx;simp only[osi]at hx;subst hx;exact hK x hk2 (Qlr h)
     |none=>
      rw[hk2]at hx;simp only[lkK]at hx;split at hx
      ·rename_i e;subst e;exact hs h
      ·cases hx
    rw[h1];refine⟨_,rfl,λx hx=> ?_⟩;rw[QgX]at hx;split at hx
    ·rename_i e;cases h3:lkK K1 x with
     |none=>rw[h3]at hx;cases hx
     |some c=>rw[h3]at hx;simp at hx
    ·rename_i e;have h4:=h2 x hx;rw[Qfk]at h4;cases hk2:lkK K x with
     |some c=>rw[hk2]at h4;exact h4
     |none=>
      rw[hk2]at h4;simp only[lkK]at h4;rw[if_neg λh=>e h.symm]at h4;cases h4
theorem Qz5{nx:σ->List σ}{U:List σ}(hU:∀x∈U,∀y∈nx x,y∈U){n:Nat}{x:σ}(hx:x∈U)(h:Dep nx n x):∃k,k<U.length/\Dep nx k x:=by
 have key:∀n x,x∈U->Dep nx n x->(∀k,n=k+1->¬Dep nx k x)->∃l:List σ,l.Nodup/\(∀y∈l,y∈U/\Dep nx n y)/\l.length=n+1:=by
  intro n;induction n with
  |zero=>intro x hx h _;exact⟨[x],by simp,λy hy=>by simp at hy;rw[hy];exact⟨hx,h⟩,rfl⟩
  |succ n ih=>
   intro x hx h hn;have hn:=hn n rfl;obtain⟨y,hy,hy2⟩:∃y∈nx x,∀k,n=k+1->¬Dep nx k y:=by
    cases n with
    |zero=>
     cases he:nx x with
     |nil=>exact absurd he hn
     |cons y r=>exact⟨y,by simp,λk hk=>by omega⟩
    |succ k=>
     refine Classical.byContradiction λhc=>hn λy hy=>Classical.byContradiction λhd=>hc ⟨y,hy,λk' hk=> ?_⟩
     obtain rfl:k'=k:=by omega
     exact hd
   obtain⟨l,h1,h2,h3⟩:=ih y (hU x hx y hy) (h y hy) hy2;refine⟨x::l,?_,λz hz=> ?_,by simp[h3]⟩
   ·rw[List.nodup_cons];exact⟨λhm=>hn (h2 x hm).2,h1⟩
   ·rcases List.mem_cons.1 hz with rfl|hz
    ·exact⟨hx,h⟩
    ·exact⟨(h2 z hz).1,Qlr (h2 z hz).2⟩
 have min:∀n,Dep nx n x->∃k,Dep nx k x/\∀j,k=j+1->¬Dep nx j x:=by
  intro n;induction n with
  |zero=>intro h;exact⟨0,h,λj hj=>by omega⟩
  |succ n ih=>
   intro h;by_cases hd:Dep nx n x
   ·exact ih hd
   ·exact⟨n+1,h,λj hj=>by
     obtain rfl:n=j:=by omega
     exact hd⟩
 obtain⟨k,h1,h2⟩:=min n h;obtain⟨l,g1,g2,g3⟩:=key k x hx h1 h2;have:=g1.length_le_of_subset λy hy=>(g2 y hy).1
 exact⟨k,by omega,h1⟩
theorem Qx6{nx:σ->List σ}{s:σ}{V:List σ}(hnd:V.Nodup)(hs:s∈V)(hV:∀x∈V,∀y∈nx x,y∈V):∃U,Expl nx s U/\U.length<=V.length:=by
 classical
 let R:σ->Prop:=λx=>∀W:σ->Prop,W s->(∀x,W x->∀y∈nx x,W y)->W x
 have hRs:R s:=λW h _=>h
 have hRn:∀x,R x->∀y∈nx x,R y:=λx hx y hy W h1 h2=>h2 x (hx W h1 h2) y hy
 have hRV:∀x,R x->x∈V:=λx hx=>hx (·∈V) hs hV
 have hU:∀x,x∈s::V.filter (λx=>decide (R x/\x≠s))↔R x:=λx=>by
  simp only[List.mem_cons,List.mem_filter,decide_eq_true_eq];constructor
  ·rintro(rfl|⟨-,h,-⟩)
   ·exact hRs
   ·exact h
  ·intro h;by_cases e:x=s
   ·exact .inl e
   ·exact .inr ⟨hRV x h,h,e⟩
 have hn:(s::V.filter (λx=>decide (R x/\x≠s))).Nodup:=by
  refine List.nodup_cons.2 ⟨λh=> ?_,hnd.filter _⟩;have:=(List.mem_filter.1 h).2;simp at this
 refine⟨s::V.filter (λx=>decide (R x/\x≠s)),⟨⟨_,rfl⟩,hn,λx hx y hy=>(hU y).2 (hRn x ((hU x).1 hx) y hy),λW h1 h2 x hx=>(hU x).1 hx W h1 h2⟩,hn.length_le_of_subset λx hx=>hRV x ((hU x).1 hx)⟩
end
inductive RW (t:Top) (d:Int):Int->List Int->Prop
 |nil:RW t d d []
 |cons (n a:Int) (w:List Int) (h0:0<=a/\a<2*t.links.length) (h1:QaE t a=n) (h2:w≠[]->ovT t (QaA t a)=false) (h3:RW t d (QaA t a) w):RW t d n (a::w)
section
variable{t:Top}{down:List Bool}(hf:QaK t down=true){p:Pkt}(hd:0<=p.dst/\p.dst<t.nodes)
noncomputable abbrev gR (t:Top) (down:List Bool) (p:Pkt):Wlk:=gW t (QbH t down t.nodes.toNat) p
include hf hd
theorem QyX:IsDist t down p.dst false (QaM t down p.dst false):=(QbZ (Qdw hf) down false hd.1 hd.2).1
omit hd in
theorem Qqc{d n a:Int}{D:List Int}(ha:a∈QcD t down D n d):(0<=a/\a<2*t.links.length)/\QaE t a=n/\n≠d/\0<=gt D (QaA t a)/\QcJ t (QaA t a) d=true/\gt D n=gt D (QaA t a)+Qbp t a/\(0<=QaA t a/\QaA t a<t.nodes)/\1<=Qbp t a:=by
 obtain⟨h1,h2⟩:=List.mem_filter.1 ha;simp only[QaS,List.mem_map,List.mem_range]at h1;obtain⟨k,hk,rfl⟩:=h1;simp only[Bool.and_eq_true,decide_eq_true_eq,onB,Bool.not_eq_true',decide_eq_false_iff_not]at h2;obtain⟨e1,⟨⟨⟨_,e3⟩,e4⟩,e5⟩,e6⟩:=h2;have hr:0<=(k:Int)/\(k:Int)<2*t.links.length:=by omega
 obtain⟨-,f2,-,f4,-⟩:=QbB (Qdw hf) hr.1 hr.2;rw[e1]at e3 e6;exact⟨hr,e1,e3,e4,e5,e6,f2,f4⟩
theorem Qur{n:Int}(hn:0<=n/\n<t.nodes)(hne:n≠p.dst)(h:0<=gt (QaM t down p.dst false) n):QcD t down (QaM t down p.dst false) n p.dst≠[]:=by
 obtain⟨a,a0,a1,ho,hx,hy,hc⟩:=(QyX hf hd).tight n hn.1 hn.2 hne h;simp only[xOf,yOf,QgE,Bool.false_eq_true,if_false,Bool.and_eq_true]at ho hx hy hc;intro he;have:a∈QcD t down (QaM t down p.dst false) n p.dst:=by
  refine List.mem_filter.2 ⟨?_,?_⟩
  ·simp only[QaS,List.mem_map,List.mem_range];exact⟨a.toNat,by omega,by omega⟩
  ·simp only[Bool.and_eq_true,decide_eq_true_eq,onB,Bool.not_eq_true',decide_eq_false_iff_not];rw[hx];exact⟨rfl,⟨⟨⟨ho.1,hne⟩,hy⟩,ho.2⟩,hc⟩
 rw[he]at this;cases this
omit hf in
end
def Qdh(t:Top):Int->List Int->Int
 |v,[]=>v
 |_,a::r=>Qdh t (QaA t a) r
theorem QfJ(t:Top):∀(v:Int) (p q:List Int),Qdh t v (p++q)=Qdh t (Qdh t v p) q
 |_,[],_=>rfl
 |_,a::r,q=>QfJ t (QaA t a) r q
theorem Qsf{t:Top}{d n:Int}{w:List Int}(h:RW t d n w):Qdh t n w=d/\∀(k:Nat) (a:Int),w[k]? =some a->(0<=a/\a<2*t.links.length)/\QaE t a=Qdh t n (w.take k)/\(k≠0->ovT t (Qdh t n (w.take k))=false):=by
 induction h with
 |nil=>exact⟨rfl,λk a h=>by simp at h⟩
 |cons n a w h0 h1 h2 h3 ih=>
  obtain⟨i1,i2⟩:=ih;refine⟨i1,λk b hb=> ?_⟩;cases k with
  |zero=>
   simp only[List.getElem?_cons_zero,osi]at hb;subst hb;exact⟨h0,h1,λh=>absurd rfl h⟩
  |succ k=>
   simp only[List.getElem?_cons_succ]at hb;obtain⟨j1,j2,j3⟩:=i2 k b hb;refine⟨j1,j2,λ_=> ?_⟩;by_cases hk:k=0
   ·subst hk;exact h2 λe=>by rw[e]at hb;simp at hb
   ·exact j3 hk
theorem QyB(P:Program)(hP:P=Tryz.prog)(t:Top)(d s:Int)(p:List Int)(hv:Qam t=true)(hs:0<=s/\s<t.nodes)(hp:p.length<=5000000)(hg:RW t d s p):
    Ret P QdW [QaF t,iA s,Qao p] (.tup [iA d,iA (p.map (Qbp t)).sum,iA 0]):=by
  have hva:=QeY P hP t;have har:=Qgp P hP t;have htl:=λa=>QdI P hP t a
  have hhd:=λa=>QeH P hP t a
  have hov:=λn=>QeR P hP t n
  have hco:=λa=>QmA P hP t a
  refine Qah (hP▸mixed) (hP▸QgR) (hP▸Qh3) (nle rfl) λΛ Λo K hK=> ?_
  clear hP;rw[hv]at hva;rw[Qbo,if_pos hv]at har;obtain⟨hend,hat⟩:=Qsf hg;have hst:∀(k:Nat) (a:Int),p[k]? =some a->(0<=a/\a<2*t.links.length)/\QaE t a=Qdh t s (p.take k)/\(k≠0->ovT t (Qdh t s (p.take k))=false)/\(1<=Qbp t a/\Qbp t a<=65535):=λk a ha=>by
    obtain⟨k1,k2,k3⟩:=hat k a ha;have:=QbB hv k1.1 k1.2;exact⟨k1,k2,k3,this.2.2.2⟩
  clear hat;have hcs:∀(k:Nat) (a:Int),p[k]? =some a->((p.take (k+1)).map (Qbp t)).sum=((p.take k).map (Qbp t)).sum+Qbp t a:=λk a ha=>by rw[Qal ha];simp
  have hen:∀(k:Nat) (a:Int),p[k]? =some a->Qdh t s (p.take (k+1))=QaA t a:=λk a ha=>by rw[Qal ha,QfJ];rfl
  clear hg;obtain⟨M,hM⟩:∃M:Int,M=2*t.links.length:=⟨_,rfl⟩;rw[<-hM]at har hst;have hML:0<=M:=by omega
  clear hM;obtain⟨en,hene⟩:∃en:List Int->Int,∀l,Qdh t s l=en l:=⟨_,λ_=>rfl⟩;have hen0:en []=s:=by rw[<-hene];rfl
  simp only[hene]at hend hst hen;clear hene;simp only[QaF,Qao,Qax,Qaf,Qak]at*;generalize t.ov.map QaY=ovl at*;generalize t.links.map Qaz=lkl at*;generalize t.nodes=nodes at*;generalize plh:List.map Qar p=pl at*;have pln:Λ pl=p.length:=by rw[Λo,<-plh];simp
  conv=>cbv
  repeat' first|(refine Qag hva rfl rfl ?_;conv=>cbv)|exact gxQ|refine And.intro ?_ ?_|(intro hc;(first|rw[wS (by omega) (by omega)]at hc|rw[Qab]at hc|skip);try (conv=>cbv))
  refine QaT p.length (λ(s:Int×Int×Int)=>[(1,iA s.1),(2,.c (.d (.list false 1 pl))),(3,.c (.ptr 0 0 0 0)),(6,iA 0),(7,iA 0),(8,iA 0),(9,iA s.2.1),(10,iA s.2.2)])
    (λ_=>[.bx [.d (iD nodes),.d (.list false 1 ovl),.d (.list false 7 lkl)]])
    (λk x=>x.2.2=k/\k<=p.length/\x.1=en (p.take k)/\x.2.1=((p.take k).map (Qbp t)).sum/\0<=x.2.1/\x.2.1<=65535*k) (s,0,0) (Wk.cw) ⟨rfl,by omega,by simp[hen0],by simp,by simp,by simp⟩ (λk s h=>h.2.1) ?_
  rintro k ⟨n,c,i⟩ Q' ⟨hi,hk,hn,hc,hc0,hc1⟩ norm ex rt;simp only at hi hn hc hc0 hc1;by_cases hlt:k<p.length
  · obtain⟨x,hx⟩:∃x,p[k]? =some x:=⟨_,lgE hlt⟩
    have hxa:=QdS plh hi hx;obtain⟨x1,x2,x4,x5⟩:=hst k x hx;rw[<-hn]at x2 x4;have htx:=htl x;have hhx:=hhd x;have hcx:=hco x;have hon:=hov n;rw[x2]at htx;have he1:=hen k x hx;have hc2:=hcs k x hx;rw[<-hc]at hc2;generalize QaA t x=hdx at*;generalize Qbp t x=cx at*;by_cases hk0:k=0
    · have hi0:i=0:=by omega
      conv=>cbv
      repeat' first|(intro e he;cases osj (he.symm.trans hxa);(conv=>cbv))|(refine Qag har rfl rfl ?_;conv=>cbv)|(refine Qag htx rfl rfl ?_;conv=>cbv)|(refine Qag hhx rfl rfl ?_;conv=>cbv)|(refine Qag hcx rfl rfl ?_;conv=>cbv)|exact gxQ|refine And.intro ?_ ?_|(intro hc;(first|rw[wS (by omega) (by omega)]at hc|rw[Qab]at hc|skip);try (conv=>cbv))
      all_goals first
        |(exfalso;omega)
        |(refine norm _ _ (hdx,_,_) ?_ (Wk.cw)
          exact⟨by simp only;omega,by omega,he1.symm,by simp only;rw[hc2];omega,by simp only;omega,by simp only;omega⟩)
    · rw[x4 hk0]at hon
      conv=>cbv
      repeat' first|(intro e he;cases osj (he.symm.trans hxa);(conv=>cbv))|(refine Qag har rfl rfl ?_;conv=>cbv)|(refine Qag htx rfl rfl ?_;conv=>cbv)|(refine Qag hhx rfl rfl ?_;conv=>cbv)|(refine Qag hcx rfl rfl ?_;conv=>cbv)|(refine Qag hon rfl rfl ?_;conv=>cbv)|exact gxQ|refine And.intro ?_ ?_|(intro hc;(first|rw[wS (by omega) (by omega)]at hc|rw[Qab]at hc|skip);try (conv=>cbv))
      all_goals first
        |(exfalso;omega)
        |(refine norm _ _ (hdx,_,_) ?_ (Wk.cw)
          exact⟨by simp only;omega,by omega,he1.symm,by simp only;rw[hc2];omega,by simp only;omega,by simp only;omega⟩)
  · rw[tkQ (by omega)]at hn hc
    rw[hend]at hn;rw[<-hn,<-hc]at hK
    conv=>cbv
    repeat' first|exact gxQ|refine And.intro ?_ ?_|(intro hc;(first|rw[wS (by omega) (by omega)]at hc|rw[Qab]at hc|skip);try (conv=>cbv))
    refine ex _ _ _ ?_
    conv=>cbv
    repeat' first|exact gxQ|refine And.intro ?_ ?_|(intro hc;(first|rw[wS (by omega) (by omega)]at hc|rw[Qab]at hc|skip);try (conv=>cbv))
    exact hK
theorem FnS.cut3{P:Program}{f:Nat}{args:List AV}{h:Hp}{R:AV->Hp->Prop}(hf:FnS P f args h R)(hc:∀r h',R r h'->∃x y z,r= .tup [x,y,z]/\Qdn h.length x=true/\Qdn h.length y=true/\Qdn h.length z=true/\QcG h.length (h'.take h.length)=true):
  FnS P f args h λr h1=>∃h2,R r (h1++h2)/\h1.length=h.length:=by
 refine⟨λG ι w vs hr hv=> ?_⟩;refine(hf.out G ι w vs hr hv).mono λe w2 ⟨v,r,G2,ι2,hc2,he,hR,hr2,hvr,hx⟩=> ?_
 have hl2:h.length<=hc2.length:=by
  rcases Nat.lt_or_ge hc2.length h.length with hb|hb
  ·obtain⟨k',h1,_⟩:=hx.keep hc2.length _ (lgE hb);have:=Qaa h1;omega
  ·exact hb
 obtain⟨x,y,z,rfl,c1,c2,c3,c4⟩:=hc r hc2 hR;have hlt:(hc2.take h.length).length=h.length:=by rw[List.length_take];omega
 cases hvr with
 |tup cs _ hn hcs=>
  have hn2:cs.size=3:=hn;let a:Act:=⟨#[cs[0],cs[1],cs[2]],[]⟩;have hfit:Fits 3 G ι h w (lkL [(0,x),(1,y),(2,z)]) hc2 a w2:=⟨G2,ι2,⟨hr2,rfl,λi=>by
   match i with
   |0=>exact hcs 0 _ _ (agQ (by omega)) rfl
   |1=>exact hcs 1 _ _ (agQ (by omega)) rfl
   |2=>exact hcs 2 _ _ (agQ (by omega)) rfl
   |i+3=>exact .c _ _ (.u _)⟩,hx,Marks.nil _ _ _ _ _⟩
  obtain⟨G3,ι3,st⟩:=Wk.cut_fits (m:=h.length) (L':=[(0,x),(1,y),(2,z)]) (h':=hc2.take h.length) ⟨hc2.drop h.length,(List.take_append_drop _ _).symm⟩ (by omega) (by rw[hlt];exact c4)
   (by rw[hlt];exact⟨⟨rfl,c1⟩,⟨rfl,c2⟩,⟨rfl,c3⟩,trivial⟩) (Nat.le_refl _) hfit
  have hv0:=st.rel.env 0;have hv1:=st.rel.env 1;have hv2:=st.rel.env 2;refine⟨.tuple cs,_,G3,ι3,hc2.take h.length,he,⟨hc2.drop h.length,by rw[List.take_append_drop];exact hR,hlt⟩,st.rel.hr,.tup cs _ hn λi v u hv hz=> ?_,st.ext⟩
  match i,hz with
  |0,hz=>cases hz;rw[agQ (by omega)]at hv;cases hv;exact hv0
  |1,hz=>cases hz;rw[agQ (by omega)]at hv;cases hv;exact hv1
  |2,hz=>cases hz;rw[agQ (by omega)]at hv;cases hv;exact hv2
  |i+3,hz=>cases hz
theorem Qct{P:Program}{f:Nat}{fn:Func}{af:AF}{args:List AV}{R:AV->Prop}(hm:P.follows .mixedOrders=true)(hf:P.funcs[f]? =some fn)(hc:QaC P fn=some af)(hl:args.length<=af.nt)
 (hv:∀(Λ:Len),(∀l,Λ l=(l.length:Int))->∀(K:AV->Prop),(∀r,R r->K r)->vcF P Λ af args K):Qu9 P f args R:=
 Qtr (K:=R) hm hf hc hl λΛ h=>hv Λ h _ λ_ h=>h
theorem Qrf{t:Top}:∀(p:List Int) (s:Int),(∀(k:Nat) (a:Int),p[k]? =some a->(0<=a/\a<2*t.links.length)/\QaE t a=Qdh t s (p.take k)/\(k≠0->ovT t (Qdh t s (p.take k))=false))->RW t (Qdh t s p) s p
 |[],s,_=> .nil
 |a::r,s,h=>by
  have h0:=h 0 a rfl;refine .cons s a r h0.1 h0.2.1 (λhr=> ?_) (Qrf r (QaA t a) λk b hb=> ?_)
  ·obtain⟨b,r',rfl⟩:=List.exists_cons_of_ne_nil hr;exact(h 1 b rfl).2.2 (by decide)
  ·have h1:=h (k+1) b hb;exact⟨h1.1,h1.2.1,λhk=>h1.2.2 (by omega)⟩
def RpR(t:Top)(s:Int)(p:List Int)(r:AV):Prop:=∃to c e:Int,r= .tup [iA to,iA c,iA e]/\(e=0->Qam t=true/\(0<=s/\s<t.nodes)/\to=Qdh t s p/\RW t to s p)
set_option maxHeartbeats 1000000 in
theorem Qww(P:Program)(hP:P=Tryz.prog)(t:Top)(s:Int)(p:List Int)(hp:p.length<=1000):Qu9 P QdW [QaF t,iA s,Qao p] (RpR t s p):=by
  have hva:=QeY P hP t;have har:=Qgp P hP t;have htl:=λa=>QdI P hP t a
  have hhd:=λa=>QeH P hP t a
  have hov:=λn=>QeR P hP t n
  have hco:=λa=>QmA P hP t a
  refine Qct (hP▸mixed) (hP▸QgR) (hP▸Qh3) (nle rfl) λΛ Λo K hK=> ?_
  clear hP;have k0:∀e:Int,e≠0->K (.tup [iA 0,iA 0,iA e]):=λe he=>hK _ ⟨0,0,e,rfl,λh=>absurd h he⟩
  have k1:∀c:Int,Qam t=true->(0<=s/\s<t.nodes)->(∀(k:Nat) (a:Int),k<p.length->p[k]? =some a->(0<=a/\a<2*t.links.length)/\QaE t a=Qdh t s (p.take k)/\(k≠0->ovT t (Qdh t s (p.take k))=false))->K (.tup [iA (Qdh t s p),iA c,iA 0]):=λc h1 h2 h3=>
    hK _ ⟨_,c,0,rfl,λ_=>⟨h1,h2,rfl,Qrf p s λk a hk=>h3 k a (List.getElem?_eq_some_iff.1 hk).1 hk⟩⟩
  clear hK;by_cases hv:Qam t=true/\0<=s/\s<t.nodes
  · obtain⟨hv,hs⟩:=hv
    replace k1:=λc=>k1 c hv hs
    rw[hv]at hva;rw[Qbo,if_pos hv]at har;have hcst:∀a:Int,0<=a/\a<2*t.links.length->(1<=Qbp t a/\Qbp t a<=65535):=λa ha=>(QbB hv ha.1 ha.2).2.2.2
    have hen:∀(k:Nat) (a:Int),p[k]? =some a->Qdh t s (p.take (k+1))=QaA t a:=λk a ha=>by rw[Qal ha,QfJ];rfl
    obtain⟨M,hM⟩:∃M:Int,M=2*t.links.length:=⟨_,rfl⟩;rw[<-hM]at har k1 hcst;have hML:0<=M:=by omega
    have hM2:M<=1000:=by
      have:=(Qai.1 hv).2.2.1;omega
    clear hM;obtain⟨en,hene⟩:∃en:List Int->Int,∀l,Qdh t s l=en l:=⟨_,λ_=>rfl⟩;have hen0:en []=s:=by rw[<-hene];rfl
    simp only[hene]at k1 hen;clear hene;simp only[QaF,Qao,Qax,Qaf,Qak]at*;generalize hoT:ovT t=oT at*;generalize htT:QaE t=tT at*;generalize hhT:QaA t=hT at*;generalize hcT:Qbp t=cT at*;generalize t.ov.map QaY=ovl at*;generalize t.links.map Qaz=lkl at*;generalize t.nodes=nodes at*;clear hoT htT hhT hcT;generalize plh:List.map Qar p=pl at*;have pln:Λ pl=p.length:=by rw[Λo,<-plh];simp
    conv=>cbv
    repeat' first|(refine Qag hva rfl rfl ?_;conv=>cbv)|exact gxQ|refine And.intro ?_ ?_|(intro hc;(first|rw[wS (by omega) (by omega)]at hc|rw[Qab]at hc|skip);try (conv=>cbv))
    refine QaT p.length (λ(s:Int×Int×Int)=>[(1,iA s.1),(2,.c (.d (.list false 1 pl))),(3,.c (.ptr 0 0 0 0)),(6,iA 0),(7,iA 0),(8,iA 0),(9,iA s.2.1),(10,iA s.2.2)])
      (λ_=>[.bx [.d (iD nodes),.d (.list false 1 ovl),.d (.list false 7 lkl)]])
      (λk x=>x.2.2=k/\k<=p.length/\x.1=en (p.take k)/\0<=x.2.1/\x.2.1<=65535*k/\∀(j:Nat) (a:Int),j<k->p[j]? =some a->(0<=a/\a<M)/\tT a=en (p.take j)/\(j≠0->oT (en (p.take j))=false)) (s,0,0) (Wk.cw) ⟨rfl,by omega,by simp[hen0],by simp,by simp,λj a h=>absurd h (by omega)⟩ (λk s h=>h.2.1) ?_
    rintro k ⟨n,c,i⟩ Q' ⟨hi,hk,hn,hc0,hc1,hat⟩ norm ex rt;simp only at hi hn hc0 hc1;have hnx:∀(x:Int),p[k]? =some x->(0<=x/\x<M)->tT x=n->(k≠0->oT n=false)->∀(j:Nat) (a:Int),j<k+1->p[j]? =some a->(0<=a/\a<M)/\tT a=en (p.take j)/\(j≠0->oT (en (p.take j))=false):=λx hx h1 h2 h3 j a hj ha=>by
      rcases Nat.lt_or_ge j k with h|h
      · exact hat j a h ha
      · obtain rfl:j=k:=by omega
        obtain rfl:=osj (hx.symm.trans ha);exact⟨h1,by rw[h2,hn],by rw[<-hn];exact h3⟩
    by_cases hlt:k<p.length
    · obtain⟨x,hx⟩:∃x,p[k]? =some x:=⟨_,lgE hlt⟩
      have hxa:=QdS plh hi hx;have htx:=htl x;have hhx:=hhd x;have hcx:=hco x;have hcb:=hcst x;have hon:=hov n;have he1:=hen k x hx;replace hnx:=hnx x hx;clear hat hov htl hhd hco hcst hen k1;generalize hT x=hdx at*;generalize cT x=cx at*;generalize tT x=tx at*;generalize oT n=on at*;by_cases hx0:0<=x/\x<M
      · replace hcb:=hcb hx0
        replace hnx:=hnx hx0;obtain⟨i1,hi1⟩:∃z:Int,z=((k+1:Nat):Int):=⟨_,rfl⟩;by_cases hk0:k=0
        · have hi0:i=0:=by omega
          conv=>cbv
          repeat' first|(refine rt _ _ ?_;(conv=>cbv))|(intro e he;cases osj (he.symm.trans hxa);(conv=>cbv))|(refine Qag har rfl rfl ?_;conv=>cbv)|(refine Qag htx rfl rfl ?_;conv=>cbv)|(refine Qag hhx rfl rfl ?_;conv=>cbv)|(refine Qag hcx rfl rfl ?_;conv=>cbv)|(intro(k:Int) hk;rw[wS (by omega) (by omega)]at hk;refine(λ(hz:i1=k)=> ?_) ?_;rotate_left;omega;subst hz;(conv=>cbv))|exact k0 _ (by decide)|exact gxQ|refine And.intro ?_ ?_|(intro hc;(first|rw[wS (by omega) (by omega)]at hc|rw[Qab]at hc|skip);try (conv=>cbv))
          all_goals first
            |(exfalso;omega)
            |(refine norm _ _ (hdx,_,i1) ?_ (Wk.cw)
              exact⟨hi1,by omega,he1.symm,by simp only;omega,by simp only;omega,hnx (by omega) λh=>absurd hk0 h⟩)
        · conv=>cbv
          repeat' first|(refine rt _ _ ?_;(conv=>cbv))|(intro e he;cases osj (he.symm.trans hxa);(conv=>cbv))|(refine Qag har rfl rfl ?_;conv=>cbv)|(refine Qag htx rfl rfl ?_;conv=>cbv)|(refine Qag hhx rfl rfl ?_;conv=>cbv)|(refine Qag hcx rfl rfl ?_;conv=>cbv)|refine Qaw hon rfl rfl ?_ ?_|(intro(k:Int) hk;rw[wS (by omega) (by omega)]at hk;refine(λ(hz:i1=k)=> ?_) ?_;rotate_left;omega;subst hz;(conv=>cbv))|exact k0 _ (by decide)|exact gxQ|refine And.intro ?_ ?_|(intro hc;(first|rw[wS (by omega) (by omega)]at hc|rw[Qab]at hc|skip);try (conv=>cbv))
          all_goals first
            |(exfalso;omega)
            |(refine norm _ _ (hdx,_,i1) ?_ (Wk.cw)
              exact⟨hi1,by omega,he1.symm,by simp only;omega,by simp only;omega,hnx (by omega) λ_=>by assumption⟩)
      · conv=>cbv
        repeat' first|(refine rt _ _ ?_;(conv=>cbv))|(intro e he;cases osj (he.symm.trans hxa);(conv=>cbv))|(refine Qag har rfl rfl ?_;conv=>cbv)|exact k0 _ (by decide)|exact gxQ|refine And.intro ?_ ?_|(intro hc;(first|rw[wS (by omega) (by omega)]at hc|rw[Qab]at hc|skip);try (conv=>cbv))
    · obtain rfl:k=p.length:=by omega
      rw[tkQ (by omega)]at hn;have hK:=k1 c hat;rw[<-hn]at hK
      conv=>cbv
      repeat' first|exact gxQ|refine And.intro ?_ ?_|(intro hc;(first|rw[wS (by omega) (by omega)]at hc|rw[Qab]at hc|skip);try (conv=>cbv))
      refine ex _ _ _ ?_
      conv=>cbv
      repeat' first|exact gxQ|refine And.intro ?_ ?_|(intro hc;(first|rw[wS (by omega) (by omega)]at hc|rw[Qab]at hc|skip);try (conv=>cbv))
      exact hK
  · clear k1 har htl hhd hov hco
    simp only[QaF,Qao,Qax,Qaf,Qak]at*;generalize t.ov.map QaY=ovl at*;generalize t.links.map Qaz=lkl at*;generalize Qam t=vt at*;generalize t.nodes=nodes at*;generalize p.map Qar=pl at*;cases vt with
    |false=>
      conv=>cbv
      repeat' first|(refine Qag hva rfl rfl ?_;conv=>cbv)|exact k0 _ (by decide)|exact gxQ|refine And.intro ?_ ?_|(intro hc;(first|rw[wS (by omega) (by omega)]at hc|rw[Qab]at hc|skip);try (conv=>cbv))
    |true=>
      have hs:s<0\/nodes<=s:=by
        refine Classical.byContradiction λh=>hv ⟨rfl,by omega,by omega⟩
      conv=>cbv
      repeat' first|(refine Qag hva rfl rfl ?_;conv=>cbv)|exact k0 _ (by decide)|exact gxQ|refine And.intro ?_ ?_|(intro hc;(first|rw[wS (by omega) (by omega)]at hc|rw[Qab]at hc|skip);try (conv=>cbv))
theorem Quo(P:Program)(hP:P=Tryz.prog)(t:Top)(s:Int)(p:List Int)(hp:p.length<=1000):FnS P QdW [QaF t,iA s,Qao p] [] λr h'=>RpR t s p r/\h'=[]:=by
 refine FnS.mono (FnS.cut3 (Qww P hP t s p hp) λr h' hr=> ?_) λr h' hr=> ?_
 ·obtain⟨_,to,c,e,rfl,-⟩:=hr;exact⟨_,_,_,rfl,rfl,rfl,rfl,rfl⟩
 ·obtain⟨h2,⟨_,h3⟩,h4⟩:=hr;exact⟨h3,lzQ h4⟩
def QBg(t:Top)(down:List Bool)(s:Int)(p:List Int)(r:AV):Prop:=∃e:Int,r=iA e/\(e=0->QaK t down=true/\(0<=s/\s<t.nodes)/\RW t (Qdh t s p) s p/\∀a∈p,upB down a=true)
set_option maxHeartbeats 1000000 in
theorem QrE(P:Program)(hP:P=Tryz.prog)(t:Top)(down:List Bool)(s:Int)(p:List Int)(hp:p.length<=1000):Qu9 P QeN [QaF t,Qau down,Qao p,iA s] (QBg t down s p):=by
 have hfi:=QhE P hP t down;have hpa:=Quo P hP t s p hp;have hup:=λa h=>QuM P hP down a h
 refine Qct (hP▸mixed) (hP▸Qk8) (hP▸Qmr) (nle rfl) λΛ Λo K hK=> ?_
 clear hP;have k0:∀e:Int,e≠0->K (iA e):=λe he=>hK _ ⟨e,rfl,λh=>absurd h he⟩
 have k1:QaK t down=true->(0<=s/\s<t.nodes)->RW t (Qdh t s p) s p->(∀(k:Nat) (a:Int),k<p.length->p[k]? =some a->upB down a=true)->K (iA 0):=λh1 h2 h3 h4=>
  hK _ ⟨0,rfl,λ_=>⟨h1,h2,h3,λa ha=>by
   obtain⟨k,hk⟩:=List.getElem?_of_mem ha;exact h4 k a (List.getElem?_eq_some_iff.1 hk).1 hk⟩⟩
 clear hK;have hrw:∀to,RW t to s p->∀(k:Nat) (a:Int),p[k]? =some a->0<=a/\a<2*t.links.length:=λto h k a ha=>((Qsf h).2 k a ha).1
 have hfb:QaK t down=true->down.length=0\/down.length=2*t.links.length:=by
  intro h;simp only[QaK,Bool.and_eq_true,Bool.or_eq_true,decide_eq_true_eq]at h;exact h.2
 simp only[RpR]at hpa;cases hft:QaK t down with
 |false=>
  clear hpa hup k1 hrw hfb;rw[hft]at hfi;simp only[QaF,Qau,Qao,Qax,Qaf,Qak]at*;generalize t.ov.map QaY=ovl at*;generalize t.links.map Qaz=lkl at*;generalize t.nodes=nodes at*;generalize p.map Qar=pl at*;generalize down.map QaY=dl at*
  conv=>cbv
  repeat' first|(refine Qag hfi rfl rfl ?_;conv=>cbv)|exact k0 _ (by decide)|exact gxQ|refine And.intro ?_ ?_|(intro hc;(first|rw[wS (by omega) (by omega)]at hc|rw[Qab]at hc|skip);try (conv=>cbv))
 |true=>
  have hdl0:=hfb hft;replace k1:=k1 hft;rw[hft]at hfi;clear hfb hft;replace k1:(0<=s/\s<t.nodes)->∀to,to=Qdh t s p->RW t to s p->_:=λh1 to h2 h3=>k1 h1 (h2▸h3)
  generalize hRW:(λto=>RW t to s p)=rw_ at*;have hRW':∀to,RW t to s p=rw_ to:=λto=>by rw[<-hRW]
  simp only[hRW']at*;clear hRW hRW';generalize Qdh t s p=en at*;generalize Qam t=vt at*;simp only[QaF,Qau,Qao,Qax,Qaf,Qak]at*;generalize t.ov.map QaY=ovl at*;generalize t.links.map Qaz=lkl at*;generalize t.nodes=nodes at*;generalize hL2:(2*t.links.length:Int)=L2 at*;generalize upB down=ub at*;generalize hdl:down.map QaY=dl at*;generalize plh:List.map Qar p=pl at*;have pln:Λ pl=p.length:=by rw[Λo,<-plh];simp
  conv=>cbv
  repeat' first|(refine Qag hfi rfl rfl ?_;conv=>cbv)|(refine QaH [] hpa ?_;rintro r hc' ⟨⟨to,c,e,rfl,hpe⟩,rfl⟩;(conv=>cbv))|exact k0 _ (by first|decide|assumption)|exact gxQ|refine And.intro ?_ ?_|(intro hc;(first|rw[wS (by omega) (by omega)]at hc|rw[Qab]at hc|skip);try (conv=>cbv))
  obtain⟨-,h1,h2,h3⟩:=hpe (by omega);replace k1:=k1 h1 to h2 h3;have hrg:=hrw to h3;clear hrw hpe hpa;refine QaT p.length (λ(i:Int)=>[(1,.c (.d (.list false 1 dl))),(2,.c (.d (.list false 1 pl))),(12,iA i)])
   (λ_=>[.bx [.d (iD nodes),.d (.list false 1 ovl),.d (.list false 7 lkl)]])
   (λk i=>i=k/\k<=p.length/\∀(j:Nat) (a:Int),j<k->p[j]? =some a->ub a=true) 0 (Wk.cw) ⟨rfl,by omega,λj a h=>absurd h (by omega)⟩ (λk s h=>h.2.1) ?_
  rintro k i Q' ⟨hi,hk,hat⟩ norm ex rt;by_cases hlt:k<p.length
  ·obtain⟨x,hx⟩:∃x,p[k]? =some x:=⟨_,lgE hlt⟩;have hxa:=QdS plh hi hx;have hx0:=hrg k x hx;have hux:=hup x (by omega);have hnx:ub x=true->∀(j:Nat) (a:Int),j<k+1->p[j]? =some a->ub a=true:=λh j a hj ha=>by
    rcases Nat.lt_or_ge j k with h'|h'
    ·exact hat j a h' ha
    ·obtain rfl:j=k:=by omega
     obtain rfl:=osj (hx.symm.trans ha);exact h
   obtain⟨i1,hi1⟩:∃z:Int,z=((k+1:Nat):Int):=⟨_,rfl⟩;clear hat k1 hrg hup;generalize ub x=ux at*
   conv=>cbv
   repeat' first|(refine rt _ _ ?_;(conv=>cbv))|(intro e he;cases osj (he.symm.trans hxa);(conv=>cbv))|refine Qaw hux rfl rfl ?_ ?_|(intro(k:Int) hk;rw[wS (by omega) (by omega)]at hk;refine(λ(hz:i1=k)=> ?_) ?_;rotate_left;omega;subst hz;(conv=>cbv))|exact k0 _ (by decide)|exact gxQ|refine And.intro ?_ ?_|(intro hc;(first|rw[wS (by omega) (by omega)]at hc|rw[Qab]at hc|skip);try (conv=>cbv))
   refine norm _ _ i1 ⟨hi1,by omega,hnx (by assumption)⟩ (Wk.cw)
  ·obtain rfl:k=p.length:=by omega
   have hK:=k1 hat
   conv=>cbv
   repeat' first|exact gxQ|refine And.intro ?_ ?_|(intro hc;(first|rw[wS (by omega) (by omega)]at hc|rw[Qab]at hc|skip);try (conv=>cbv))
   refine ex _ _ _ ?_
   conv=>cbv
   repeat' first|exact gxQ|refine And.intro ?_ ?_|(intro hc;(first|rw[wS (by omega) (by omega)]at hc|rw[Qab]at hc|skip);try (conv=>cbv))
   exact hK
theorem Qpp(P:Program)(hP:P=Tryz.prog)(t:Top)(down:List Bool)(s:Int)(p:List Int)(hp:p.length<=1000):FnS P QeN [QaF t,Qau down,Qao p,iA s] [] λr h'=>QBg t down s p r/\h'=[]:=by
 refine FnS.mono (FnS.cut (QrE P hP t down s p hp) λr h' hr=> ?_) λr h' hr=> ?_
 ·obtain⟨_,e,rfl,-⟩:=hr;exact⟨rfl,rfl⟩
 ·obtain⟨h2,⟨_,h3⟩,h4⟩:=hr;exact⟨h3,lzQ h4⟩
inductive PF (t:Top) (down:List Bool) (d:Int):Int->List Int->Prop
 |nil:PF t down d d []
 |cons (n a:Int) (w:List Int) (h0:a∈QcD t down (QaM t down d false) n d) (h1:PF t down d (QaA t a) w):PF t down d n (a::w)
inductive UQ (t:Top) (down:List Bool) (d:Int):Int->Prop
 |here:UQ t down d d
 |step (n a:Int) (h0:QcD t down (QaM t down d false) n d=[a]) (h1:UQ t down d (QaA t a)):UQ t down d n
inductive CH (t:Top) (down:List Bool) (d:Int):Int->List Int->Prop
 |nil:CH t down d d []
 |cons (n a:Int) (w:List Int) (h0:QcD t down (QaM t down d false) n d=[a]) (h1:CH t down d (QaA t a) w):CH t down d n (a::w)
theorem QBs{t:Top}{down:List Bool}{d n:Int}{w:List Int}(h:PF t down d n w):UQ t down d n->CH t down d n w:=by
 induction h with
 |nil=>intro _;exact .nil
 |cons n a w h0 h1 ih=>
  intro hu;cases hu with
  |here=>rw[QhS]at h0;cases h0
  |step _ b g0 g1=>
   rw[g0]at h0;obtain rfl:a=b:=by simpa using h0
   exact .cons n a w g0 (ih g1)
def J11(t:Top)(down:List Bool)(d s:Int)(n:Int)(o:List Int)(k:Nat):Prop:=
 (0<=n/\n<t.nodes)/\0<=gt (QaM t down d false) n/\o.length=k/\(k:Int)+gt (QaM t down d false) n<=gt (QaM t down d false) s/\∀w,PF t down d n w->PF t down d s (o++w)
def QBj(t:Top)(down:List Bool)(s d:Int)(r:AV):Prop:=∃(w:List Int) (e:Int),r= .tup [Qao w,iA e]/\(e=0->QaK t down=true/\(0<=s/\s<t.nodes)/\(0<=d/\d<t.nodes)/\PF t down d s w)
set_option maxHeartbeats 1000000 in
theorem Qt8(P:Program)(hP:P=Tryz.prog)(t:Top)(down:List Bool)(s d:Int):Qu9 P Qfq [QaF t,Qau down,iA s,iA d] (QBj t down s d):=by
 have hdi:=QmE P hP t down d;have htl:=λa=>QdI P hP t a
 have hhd:=λa=>QeH P hP t a
 have hon:=λ(hv:Qam t=true) hd (h0:0<=d/\d<t.nodes) a ha1 ha2=>QAB P hP t down (QaM t down d false) a d hv hd ha1 ha2 (QbZ hv down false h0.1 h0.2).1.len (QbZ hv down false h0.1 h0.2).2
 refine Qct (hP▸mixed) (hP▸QmW) (hP▸QnW) (nle rfl) λΛ Λo K hK=> ?_
 clear hP;have k0:∀e:Int,e≠0->K (.tup [Qao [],iA e]):=λe he=>hK _ ⟨[],e,rfl,λh=>absurd h he⟩
 have k1:∀w:List Int,QaK t down=true->(0<=s/\s<t.nodes)->(0<=d/\d<t.nodes)->PF t down d s w->K (.tup [Qao w,iA 0]):=λw h1 h2 h3 h4=>hK _ ⟨w,0,rfl,λ_=>⟨h1,h2,h3,h4⟩⟩
 clear hK;simp only[Qao,Qax,List.map_nil]at k0;by_cases hg:QaK t down=true/\0<=d/\d<t.nodes
 ·obtain⟨hf,hd⟩:=hg;have hv:=Qdw hf;have hfb:down.length=0\/down.length=2*t.links.length:=by
   simp only[QaK,Bool.and_eq_true,Bool.or_eq_true,decide_eq_true_eq]at hf;exact hf.2
  replace hon:=hon hv hfb hd;rw[QbU,if_pos hf,if_pos hd]at hdi;by_cases hs:0<=s/\s<t.nodes
  ·obtain⟨hd1,hd2⟩:=QbZ (t:=t) hv down false hd.1 hd.2;have hDl:=hd1.len;have hde:=hd2 s hs.1 hs.2;have hDe:((QaM t down d false).map Qar)[s.toNat]? =some [iD (gt (QaM t down d false) s)]:=by
    rw[gtm,lgE (show s.toNat<(QaM t down d false).length by omega)];simp only[Option.map_some,Qar,gt,List.getD_eq_getElem?_getD,lgE (show s.toNat<(QaM t down d false).length by omega),Option.getD_some]
   replace k1:∀w:List Int,PF t down d s w->K (.tup [Qao w,iA 0]):=λw=>k1 w hf hs hd
   have hmem:∀(b:Nat) (n:Int),b<2*t.links.length->QaE t b=n->onB t down (QaM t down d false) b d=true->(b:Int)∈QcD t down (QaM t down d false) n d:=λb n h1 h2 h3=>by
    refine List.mem_filter.2 ⟨?_,?_⟩
    ·simp only[QaS,List.mem_map,List.mem_range];exact⟨b,h1,rfl⟩
    ·rw[h3,Bool.and_true,decide_eq_true_eq];exact h2
   have hj0:0<=gt (QaM t down d false) s->J11 t down d s s [] 0:=λh=>⟨hs,h,rfl,by omega,λw hw=>hw⟩
   have hstep:∀(n:Int) (o:List Int) (k b:Nat),J11 t down d s n o k->b<2*t.links.length->QaE t b=n->onB t down (QaM t down d false) b d=true->J11 t down d s (QaA t b) (o++[(b:Int)]) (k+1):=λn o k b hj h1 h2 h3=>by
    obtain⟨j1,j2,j3,j4,j5⟩:=hj;have hm:=hmem b n h1 h2 h3;obtain⟨q0,q1,q2,q3,q4,q5,q6,q7⟩:=Qqc hf hm;refine⟨q6,q3,by simp[j3],by omega,λw hw=> ?_⟩;rw[List.append_assoc];exact j5 _ (.cons n b w hm hw)
   have hex:∀(n:Int) (o:List Int) (k:Nat),J11 t down d s n o k->n≠d->¬∀(b:Nat),b<2*t.links.length->QaE t b=n->onB t down (QaM t down d false) b d=true->False:=λn o k hj hne hall=>by
    have hne2:=Qur (p:=⟨0,0,d,0,[],0⟩) hf hd hj.1 hne hj.2.1;obtain⟨a,r,hr⟩:=List.exists_cons_of_ne_nil hne2;have ha:a∈QcD t down (QaM t down d false) n d:=by rw[show QcD t down (QaM t down d false) n d=a::r from hr];simp
    obtain⟨h1,h2⟩:=List.mem_filter.1 ha;simp only[QaS,List.mem_map,List.mem_range]at h1;obtain⟨b,hb,rfl⟩:=h1;simp only[Bool.and_eq_true,decide_eq_true_eq]at h2;exact hall b hb h2.1 h2.2
   have hend:∀(n:Int) (o:List Int) (k:Nat),J11 t down d s n o k->n=d->PF t down d s o:=λn o k hj e=>by
    subst e;have:=hj.2.2.2.2 [] .nil
    rwa [List.append_nil]at this
   have hjle:∀(n:Int) (o:List Int) (k:Nat),J11 t down d s n o k->k<=(gt (QaM t down d false) s).toNat/\o.length=k:=λn o k hj=>⟨by have:=hj.2.1;have:=hj.2.2.2.1;omega,hj.2.2.1⟩
   replace k1:∀(n:Int) (o:List Int) (k:Nat),J11 t down d s n o k->n=d->K (.tup [Qao o,iA 0]):=λn o k hj e=>k1 o (hend n o k hj e)
   clear hmem hend hd1 hd2;generalize J11 t down d s=J at*;obtain⟨onv,honv⟩:∃f:Int->Bool,∀a,onB t down (QaM t down d false) a d=f a:=⟨_,λ_=>rfl⟩;simp only[honv]at hon hstep hex;clear honv;generalize gt (QaM t down d false) s=G at*;generalize QaM t down d false=Dv at*;have hL2:=(Qai.1 hv).2.2.1;generalize hlv:2*t.links.length=v at*;have hL3:(v:Int)=2*t.links.length:=by omega
   have hon':∀a:Int,0<=a->a<v->_:=λa h1 h2=>hon a h1 (by omega)
   clear hon;simp only[QaF,Qau,Qao,Qax,Qaf,Qak]at*;generalize htT:QaE t=tT at*;generalize hhT:QaA t=hT at*;clear htT hhT;generalize t.ov.map QaY=ol at*;generalize hll:t.links.map Qaz=ll at*;have hls:Λ ll=t.links.length:=by rw[Λo,<-hll];simp
   generalize t.nodes=nodes at*;generalize t.links.length=nl at*;generalize down.map QaY=dl at*;generalize hDm:Dv.map Qar=Dl at*;have hDn:Λ Dl=nodes:=by rw[Λo,<-hDm,List.length_map];exact hDl
   clear hf hv hfb hDm hll hDl
   conv=>cbv
   repeat' first|(refine Qag hdi rfl rfl ?_;conv=>cbv)|(intro(e:List D) he;cases osj (he.symm.trans hDe);(conv=>cbv))|exact k0 _ (by decide)|exact gxQ|refine And.intro ?_ ?_|(intro hc;(first|rw[wS (by omega) (by omega)]at hc|rw[Qab]at hc|skip);try (conv=>cbv))
   refine QaT G.toNat (λ(s:Int×Nat×Nat×Bool×List (List Ab.D))=>[(1,.c (.d (.list false 1 dl))),(2,iA s.1),(3,iA d),(4,.c (.ptr 0 0 0 0)),(10,.c (.d (.list false 1 Dl))),(12,.c (.arr 1 s.2.1 0 s.2.2.1))])
    (λs=>[.bx [.d (iD nodes),.d (.list false 1 ol),.d (.list false 7 ll)],.da s.2.2.2.1 s.2.1 1 s.2.2.2.2])
    (λk x=>∃o:List Int,x.2.2.2.2=o.map Qar/\x.2.2.1=o.length/\J x.1 o k) (s,0,0,false,[]) (.trans (.nilS 12 1 rfl) (Wk.cw)) ⟨[],rfl,rfl,hj0 (by omega)⟩ (λk x h=>by obtain⟨o,-,-,h⟩:=h;exact(hjle _ _ _ h).1) ?_
   rintro k ⟨n,ve,m,rb,es⟩ Q' ⟨o,hes,hm,hj⟩ norm ex rt;simp only at hes hm hj;obtain⟨hkG,hok⟩:=hjle _ _ _ hj;by_cases hnd:n=d
   ·have hK:=k1 n o k hj hnd;rw[<-hes]at hK;have hml:m=es.length:=by rw[hes,List.length_map];exact hm
    conv=>cbv
    repeat' first|(refine ex _ _ _ ?_;(conv=>cbv))|exact gxQ|refine And.intro ?_ ?_|(intro hc;(first|rw[wS (by omega) (by omega)]at hc|rw[Qab]at hc|skip);try (conv=>cbv))
    all_goals (refine(λ(hz:_=es)=> ?_) (hc.trans (by rw[List.drop_zero,tkQ (by omega)]));rw[hz];exact hK)
   ·have hex:=hex n o k hj hnd;have hst:=λb=>hstep n o k b hj
    have hml:m=es.length:=by rw[hes,List.length_map];exact hm
    clear k1 hstep hjle hj0 hDe
    conv=>cbv
    repeat' first|exact gxQ|refine And.intro ?_ ?_|(intro hc;(first|rw[wS (by omega) (by omega)]at hc|rw[Qab]at hc|skip);try (conv=>cbv))
    refine Qbs v (λ(i:Int)=>[(1,.c (.d (.list false 1 dl))),(2,iA n),(3,iA d),(4,.c (.ptr 0 0 0 0)),(10,.c (.d (.list false 1 Dl))),(12,.c (.arr 1 ve 0 m)),(13,iA i)])
     (λ_=>[.bx [.d (iD nodes),.d (.list false 1 ol),.d (.list false 7 ll)],.da rb ve 1 es])
     (λkk i=>i=kk/\kk<=v/\∀b:Nat,b<kk->tT b=n->onv b=true->False) 0
     2 (λ(s:Int×Nat×Nat×Bool×List (List Ab.D))=>[(1,.c (.d (.list false 1 dl))),(2,iA s.1),(3,iA d),(4,.c (.ptr 0 0 0 0)),(10,.c (.d (.list false 1 Dl))),(12,.c (.arr 1 s.2.1 0 s.2.2.1))])
     (λs=>[.bx [.d (iD nodes),.d (.list false 1 ol),.d (.list false 7 ll)],.da s.2.2.2.1 s.2.1 1 s.2.2.2.2])
     (λx=>∃o:List Int,x.2.2.2.2=o.map Qar/\x.2.2.1=o.length/\J x.1 o (k+1)) (Wk.cw) ⟨rfl,by omega,λb h=>absurd h (by omega)⟩ (λk s h=>h.2.1) ?_ ?_
    ·rintro kk i Q2 ⟨hi,hkk,hno⟩ norm2 jn ex2 rt2;by_cases hlt:kk<v
     ·have ht1:=htl i;have hh1:=hhd i;have ho1:=hon' i (by omega) (by omega);have hst1:=hst kk hlt;have hnn:(tT kk=n->onv kk=true->False)->∀b:Nat,b<kk+1->tT b=n->onv b=true->False:=λh b hb=>by
       rcases Nat.lt_or_ge b kk with h'|h'
       ·exact hno b h'
       ·obtain rfl:b=kk:=by omega
        exact h
      rw[<-hi]at hst1 hnn;clear htl hhd hon' hst hno hex norm ex rt;generalize tT i=ti at*;generalize hT i=hi1 at*;generalize onv i=oi at*;obtain⟨i1,hi1'⟩:∃z:Int,z=((kk+1:Nat):Int):=⟨_,rfl⟩;obtain⟨ye,hye⟩:∃z,z=es++[Qar i]:=⟨_,rfl⟩;obtain⟨m1,hm1⟩:∃z,z=m+1:=⟨_,rfl⟩
      conv=>cbv
      repeat' first|(refine Qag ht1 rfl rfl ?_;conv=>cbv)|refine Qaw ho1 rfl rfl ?_ ?_|(refine Qag hh1 rfl rfl ?_;conv=>cbv)|(intro(m:Nat) (r:Bool) (y:List (List D)) hm hr hy;refine(λ(hz:m1=m) (hz2:ye=y)=> ?_) (by first|omega|(simp only[List.length_cons,List.length_nil]at hm;omega)) (by first|(rw[hy,List.drop_zero,tkQ (by omega)];exact hye)|(rw[hy];exact hye));subst hz;subst hz2;(conv=>cbv))|(intro(k:Int) hk;rw[wS (by omega) (by omega)]at hk;refine(λ(hz:i1=k)=> ?_) ?_;rotate_left;omega;subst hz;(conv=>cbv))|exact gxQ|refine And.intro ?_ ?_|(intro hc;(first|rw[wS (by omega) (by omega)]at hc|rw[Qab]at hc|skip);try (conv=>cbv))
      ·refine jn _ _ (_,_,_,_,_) ?_ (Wk.cw);exact⟨o++[i],by simp only;rw[hye,hes,List.map_append];rfl,by simp only[List.length_append,List.length_cons,List.length_nil];omega,hst1 (by omega) (by assumption)⟩
      ·refine norm2 _ _ i1 ⟨hi1',by omega,hnn λ_ h=> ?_⟩ (Wk.cw);rw[‹oi=false›]at h;cases h
      ·refine norm2 _ _ i1 ⟨hi1',by omega,hnn λh _=>absurd h (by omega)⟩ (Wk.cw)
     ·exfalso;exact hex λb hb=>hno b (by omega)
    ·rintro⟨n2,ve2,m2,rb2,es2⟩ ⟨o2,h1,h2,h3⟩;refine norm _ _ (n2,ve2,m2,rb2,es2) ⟨o2,h1,h2,h3⟩ (Wk.cw)
  ·clear k1 hon htl hhd;generalize QaM t down d false=Dv at*;simp only[QaF,Qau,Qao,Qax,Qaf,Qak]at*;generalize t.ov.map QaY=ol at*;generalize t.links.map Qaz=ll at*;generalize t.nodes=nodes at*;generalize down.map QaY=dl at*;generalize Dv.map Qar=Dl at*
   conv=>cbv
   repeat' first|(refine Qag hdi rfl rfl ?_;conv=>cbv)|exact k0 _ (by decide)|exact gxQ|refine And.intro ?_ ?_|(intro hc;(first|rw[wS (by omega) (by omega)]at hc|rw[Qab]at hc|skip);try (conv=>cbv))
 ·have he:∃e:Int,e≠0/\QbU t down d false=([],e):=by
   rw[QbU];by_cases hf:QaK t down=true
   ·rw[if_pos hf,if_neg λh=>hg ⟨hf,h⟩];exact⟨2,by decide,rfl⟩
   ·rw[if_neg hf];exact⟨1,by decide,rfl⟩
  obtain⟨e,he0,he⟩:=he;rw[he]at hdi;clear k1 hon htl hhd he hg;simp only[QaF,Qau,Qao,Qax,Qaf,Qak,List.map_nil]at*;generalize t.ov.map QaY=ol at*;generalize t.links.map Qaz=ll at*;generalize t.nodes=nodes at*;generalize down.map QaY=dl at*
  conv=>cbv
  repeat' first|(refine Qag hdi rfl rfl ?_;conv=>cbv)|exact k0 _ (by first|decide|assumption)|exact gxQ|refine And.intro ?_ ?_|(intro hc;(first|rw[wS (by omega) (by omega)]at hc|rw[Qab]at hc|skip);try (conv=>cbv))
theorem Qr8(P:Program)(hP:P=Tryz.prog)(t:Top)(down:List Bool)(s d:Int):FnS P Qfq [QaF t,Qau down,iA s,iA d] [] λr h'=>QBj t down s d r/\h'=[]:=by
 refine FnS.mono (FnS.cut2 (Qt8 P hP t down s d) λr h' hr=> ?_) λr h' hr=> ?_
 ·obtain⟨_,w,e,rfl,-⟩:=hr;exact⟨_,_,rfl,rfl,rfl,rfl⟩
 ·obtain⟨h2,⟨_,h3⟩,h4⟩:=hr;exact⟨h3,lzQ h4⟩
structure OrdN (nodes:Int) (g:Int->Int) (o:List Int) (k:Nat):Prop where
 len:o.length=k
 nd:o.Nodup
 mem:∀n∈o,(0<=n/\n<nodes)/\0<=g n
 pw:o.Pairwise λa b=>g b<=g a
 out:∀n,0<=n->n<nodes->0<=g n->n∉o->∀x∈o,g n<=g x
theorem OrdN.le{nodes:Int}{g:Int->Int}{o:List Int}{k:Nat}(h:OrdN nodes g o k):k<=nodes.toNat:=by
 rw[<-h.len];have:=h.nd.length_le_of_subset (l₂:=(List.range nodes.toNat).map λ(n:Nat)=>(n:Int)) λn hn=>by
  have:=(h.mem n hn).1;exact List.mem_map.2 ⟨n.toNat,List.mem_range.2 (by omega),by omega⟩
 simpa using this
theorem OrdN.nil(nodes:Int)(g:Int->Int):OrdN nodes g [] 0:=⟨rfl,List.nodup_nil,λn h=>(by cases h),List.Pairwise.nil,λn _ _ _ _ x h=>(by cases h)⟩
def Best(nodes:Int)(g:Int->Int)(o:List Int)(b:Int)(k:Nat):Prop:=
 (b= -1/\∀m:Nat,m<k->0<=g m->(m:Int)∈o)\/((0<=b/\b<nodes)/\0<=g b/\b∉o/\∀m:Nat,m<k->0<=g m->(m:Int)∉o->g m<=g b)
theorem Best.keep{nodes:Int}{g:Int->Int}{o:List Int}{b:Int}{k:Nat}(h:Best nodes g o b k)(hk:0<=g k->(k:Int)∉o->0<=b/\g k<=g b):Best nodes g o b (k+1):=by
 rcases h with ⟨h1,h2⟩|⟨h1,h2,h3,h4⟩
 ·refine .inl ⟨h1,λm hm h0=> ?_⟩;rcases Nat.lt_or_ge m k with h'|h'
  ·exact h2 m h' h0
  ·obtain rfl:m=k:=by omega
   exact Classical.byContradiction λhn=>by have:=(hk h0 hn).1;omega
 ·refine .inr ⟨h1,h2,h3,λm hm h0 hn=> ?_⟩;rcases Nat.lt_or_ge m k with h'|h'
  ·exact h4 m h' h0 hn
  ·obtain rfl:m=k:=by omega
   exact(hk h0 hn).2
theorem Best.new{nodes:Int}{g:Int->Int}{o:List Int}{b:Int}{k:Nat}(h:Best nodes g o b k)(hn:(k:Int)<nodes)(h0:0<=g k)(h1:(k:Int)∉o)(hb:b<0\/g b<g k):Best nodes g o (k:Int) (k+1):=by
 refine .inr ⟨⟨by omega,hn⟩,h0,h1,λm hm g0 gn=> ?_⟩;rcases Nat.lt_or_ge m k with h'|h'
 ·rcases h with ⟨_,h2⟩|⟨h1,h2,h3,h4⟩
  ·exact absurd (h2 m h' g0) gn
  ·have:=h4 m h' g0 gn;omega
 ·obtain rfl:m=k:=by omega
  omega
theorem Best.rng{nodes:Int}{g:Int->Int}{o:List Int}{b:Int}{k:Nat}(h:Best nodes g o b k):b= -1\/(0<=b/\b<nodes):=by
 rcases h with h|h
 ·exact .inl h.1
 ·exact .inr h.1
theorem Best.add{nodes:Int}{g:Int->Int}{o:List Int}{b:Int}{k:Nat}(hn:0<=nodes)(h:Best nodes g o b nodes.toNat)(hb:¬b<0)(ho:OrdN nodes g o k):OrdN nodes g (o++[b]) (k+1):=by
 rcases h with ⟨h1,_⟩|⟨h1,h2,h3,h4⟩
 ·omega
 ·refine⟨by simp[ho.len],?_,λn hm=> ?_,?_,λn n0 n1 g0 gn x hx=> ?_⟩
  ·refine List.nodup_append.2 ⟨ho.nd,by simp,λx hx y hy e=> ?_⟩;rw[List.mem_singleton]at hy;rw[e,hy]at hx;exact h3 hx
  ·rcases List.mem_append.1 hm with hm|hm
   ·exact ho.mem n hm
   ·rw[List.mem_singleton]at hm;subst hm;exact⟨h1,h2⟩
  ·refine List.pairwise_append.2 ⟨ho.pw,List.pairwise_singleton ..,λx hx y hy=> ?_⟩;rw[List.mem_singleton]at hy;subst hy;exact ho.out y h1.1 h1.2 h2 h3 x hx
  ·have gn':n∉o:=λh=>gn (List.mem_append_left _ h)
   rcases List.mem_append.1 hx with hx|hx
   ·exact ho.out n n0 n1 g0 gn' x hx
   ·rw[List.mem_singleton]at hx;subst hx;have:=h4 n.toNat (by omega);rw[Int.toNat_of_nonneg n0]at this;exact this g0 gn'
theorem Best.all{nodes:Int}{g:Int->Int}{o:List Int}{b:Int}(h:Best nodes g o b nodes.toNat)(hb:b<0):∀n,0<=n->n<nodes->0<=g n->n∈o:=by
 intro n n0 n1 g0;rcases h with ⟨h1,h2⟩|⟨h1,_⟩
 ·have:=h2 n.toNat (by omega);rw[Int.toNat_of_nonneg n0]at this;exact this g0
 ·omega
def QBi(t:Top)(D:List Int)(r:AV):Prop:=∃(l:List Int) (k:Nat),r= .tup [Qao l,iA 0]/\OrdN t.nodes (gt D) l k/\∀n,0<=n->n<t.nodes->0<=gt D n->n∈l
set_option maxHeartbeats 1000000 in
theorem Qwj(P:Program)(hP:P=Tryz.prog)(t:Top)(down:List Bool)(d:Int)(hf:QaK t down=true)(hd:0<=d/\d<t.nodes):Qu9 P QeM [QaF t,Qau down,iA d] (QBi t (QaM t down d false)):=by
 have hdi:=QmE P hP t down d;have hha:=λl n=>Qxe P hP l n
 refine Qct (hP▸mixed) (hP▸Qk6) (hP▸Qmp) (nle rfl) λΛ Λo K hK=> ?_
 clear hP;have hv:=Qdw hf;rw[QbU,if_pos hf,if_pos hd]at hdi;obtain⟨hd1,hd2⟩:=QbZ (t:=t) hv down false hd.1 hd.2;have hDl:=hd1.len;clear hd1;generalize QaM t down d false=Dv at*;have k1:∀(l:List Int) (k:Nat),OrdN t.nodes (gt Dv) l k->(∀n,0<=n->n<t.nodes->0<=gt Dv n->n∈l)->K (.tup [Qao l,iA 0]):=λl k h1 h2=>hK _ ⟨l,k,rfl,h1,h2⟩
 clear hK;have hDe:∀i:Int,0<=i->i<t.nodes->(Dv.map Qar)[i.toNat]? =some [iD (gt Dv i)]:=λi h0 h1=>by
  rw[gtm,lgE (show i.toNat<Dv.length by omega)];simp only[Option.map_some,Qar,gt,List.getD_eq_getElem?_getD,lgE (show i.toNat<Dv.length by omega),Option.getD_some]
 have hn64:=(Qai.1 hv).1;obtain⟨g,hg⟩:∃g:Int->Int,∀i,gt Dv i=g i:=⟨_,λ_=>rfl⟩;have hg':gt Dv=g:=funext hg;rw[hg']at k1;simp only[hg]at hDe hd2 k1;clear hg hg' hf hv;simp only[QaF,Qau,Qao,Qax,Qaf,Qak]at*;generalize t.ov.map QaY=ol at*;generalize t.links.map Qaz=ll at*;generalize t.nodes=nodes at*;generalize down.map QaY=dl at*;generalize hDm:Dv.map Qar=Dl at*;have hDn:Λ Dl=nodes:=by rw[Λo,<-hDm,List.length_map];exact hDl
 clear hDm hDl
 conv=>cbv
 repeat' first|(refine Qag hdi rfl rfl ?_;conv=>cbv)|exact gxQ|refine And.intro ?_ ?_|(intro hc;(first|rw[wS (by omega) (by omega)]at hc|rw[Qab]at hc|skip);try (conv=>cbv))
 refine QaT nodes.toNat (λ(s:Nat×Nat×Bool×List (List Ab.D))=>[(3,.c (.ptr 0 0 0 0)),(8,.c (.d (.list false 1 Dl))),(10,.c (.arr 1 s.1 0 s.2.1))])
  (λs=>[.bx [.d (iD nodes),.d (.list false 1 ol),.d (.list false 7 ll)],.da s.2.2.1 s.1 1 s.2.2.2])
  (λk x=>∃o:List Int,x.2.2.2=o.map Qar/\x.2.1=o.length/\OrdN nodes g o k) (0,0,false,[]) (.trans (.nilS 10 1 rfl) (Wk.cw)) ⟨[],rfl,rfl,OrdN.nil _ _⟩ (λk x h=>by obtain⟨o,-,-,h⟩:=h;exact h.le) ?_
 rintro k ⟨ve,m,rb,es⟩ Q' ⟨o,hes,hm,ho⟩ norm ex rt;simp only at hes hm;have hkN:=ho.le;have hok:=ho.len;have hml:m=es.length:=by rw[hes,List.length_map];exact hm
 have hhas:∀n:Int,Ret P QgC [.c (.d (.list false 1 ((es.drop 0).take m))),iA n] (bA (decide (n∈o))):=λn=>by
  rw[List.drop_zero,tkQ (by omega),hes];exact hha o n
 clear hha
 conv=>cbv
 repeat' first|exact gxQ|refine And.intro ?_ ?_|(intro hc;(first|rw[wS (by omega) (by omega)]at hc|rw[Qab]at hc|skip);try (conv=>cbv))
 refine Qbs nodes.toNat (λ(s:Int×Int)=>[(3,.c (.ptr 0 0 0 0)),(8,.c (.d (.list false 1 Dl))),(10,.c (.arr 1 ve 0 m)),(11,iA s.1),(12,iA s.2)])
  (λ_=>[.bx [.d (iD nodes),.d (.list false 1 ol),.d (.list false 7 ll)],.da rb ve 1 es])
  (λkk s=>s.2=kk/\kk<=nodes.toNat/\Best nodes g o s.1 kk) (-1,0)
  2 (λ(b:Int)=>[(3,.c (.ptr 0 0 0 0)),(8,.c (.d (.list false 1 Dl))),(10,.c (.arr 1 ve 0 m)),(11,iA b)])
  (λ_=>[.bx [.d (iD nodes),.d (.list false 1 ol),.d (.list false 7 ll)],.da rb ve 1 es])
  (λb=>Best nodes g o b nodes.toNat) (Wk.cw) ⟨rfl,by omega,.inl ⟨rfl,λm h=>absurd h (by omega)⟩⟩ (λk s h=>h.2.1) ?_ ?_
 ·rintro kk ⟨b,i⟩ Q2 ⟨hi,hkk,hB⟩ norm2 jn ex2 rt2;simp only at hi hB;have hrg:=hB.rng;by_cases hlt:kk<nodes.toNat
  ·have hkeep:=hB.keep;have hnew:=hB.new (by omega);rw[<-hi]at hkeep hnew;have hh:=hhas i;have hDi:=hDe i (by omega) (by omega);have hDb:=hDe b;obtain⟨i1,hi1⟩:∃z:Int,z=((kk+1:Nat):Int):=⟨_,rfl⟩;have hgi:=hd2 i (by omega) (by omega);clear hB hhas hDe norm ex rt k1 ho;generalize hho:decide (i∈o)=ho at*;have hyes:ho=false->i∉o:=λh=>by rw[<-hho,decide_eq_false_iff_not]at h;exact h
   have hno:ho=true->i∈o:=λh=>by rw[<-hho,decide_eq_true_eq]at h;exact h
   clear hho;generalize hgb:g b=gb at*;generalize hgii:g i=gi at*;by_cases hb0:b<0
   ·clear hDb
    conv=>cbv
    repeat' first|(intro(e:List D) he;cases osj (he.symm.trans hDi);(conv=>cbv))|(refine Qxk hh (by simp[QgQ,evN,lkN,Qet,Qi0,Qli,view,QhV,fgC,fgD]) ?_ ?_)|(intro(k:Int) hk;rw[wS (by omega) (by omega)]at hk;refine(λ(hz:i1=k)=> ?_) ?_;rotate_left;omega;subst hz;(conv=>cbv))|exact gxQ|refine And.intro ?_ ?_|(intro hc;(first|rw[wS (by omega) (by omega)]at hc|rw[Qab]at hc|skip);try (conv=>cbv))
    all_goals first
     |(refine norm2 _ _ (i,i1) ⟨hi1,by omega,hnew (by omega) (hyes (by assumption)) (.inl hb0)⟩ (Wk.cw))
     |(refine norm2 _ _ (b,i1) ⟨hi1,by omega,hkeep λh1 h2=>absurd (hno (by assumption)) h2⟩ (Wk.cw))
     |(refine norm2 _ _ (b,i1) ⟨hi1,by omega,hkeep λh1 h2=>absurd h1 (by omega)⟩ (Wk.cw))
   ·replace hDb:=hDb (by omega) (by omega);have hgb:=hd2 b (by omega) (by omega)
    conv=>cbv
    repeat' first|(intro(e:List D) he;cases osj (he.symm.trans hDi);(conv=>cbv))|(intro(e:List D) he;cases osj (he.symm.trans hDb);(conv=>cbv))|(refine Qxk hh (by simp[QgQ,evN,lkN,Qet,Qi0,Qli,view,QhV,fgC,fgD]) ?_ ?_)|(intro(k:Int) hk;rw[wS (by omega) (by omega)]at hk;refine(λ(hz:i1=k)=> ?_) ?_;rotate_left;omega;subst hz;(conv=>cbv))|exact gxQ|refine And.intro ?_ ?_|(intro hc;(first|rw[wS (by omega) (by omega)]at hc|rw[Qab]at hc|skip);try (conv=>cbv))
    all_goals first
     |(refine norm2 _ _ (i,i1) ⟨hi1,by omega,hnew (by omega) (hyes (by assumption)) (.inr (by omega))⟩ (Wk.cw))
     |(refine norm2 _ _ (b,i1) ⟨hi1,by omega,hkeep λh1 h2=>absurd (hno (by assumption)) h2⟩ (Wk.cw))
     |(refine norm2 _ _ (b,i1) ⟨hi1,by omega,hkeep λh1 h2=>absurd h1 (by omega)⟩ (Wk.cw))
     |(refine norm2 _ _ (b,i1) ⟨hi1,by omega,hkeep λh1 h2=>⟨by omega,by omega⟩⟩ (Wk.cw))
  ·obtain rfl:kk=nodes.toNat:=by omega
   conv=>cbv
   repeat' first|exact gxQ|refine And.intro ?_ ?_|(intro hc;(first|rw[wS (by omega) (by omega)]at hc|rw[Qab]at hc|skip);try (conv=>cbv))
   refine jn _ _ b hB (Wk.cw)
 ·intro b hB;have hrg:=hB.rng;by_cases hb0:b<0
  ·have hK:=k1 o k ho (hB.all hb0);rw[<-hes]at hK;clear hhas hDe k1
   conv=>cbv
   repeat' first|(refine rt _ _ ?_;(conv=>cbv))|exact gxQ|refine And.intro ?_ ?_|(intro hc;(first|rw[wS (by omega) (by omega)]at hc|rw[Qab]at hc|skip);try (conv=>cbv))
   all_goals (refine(λ(hz:_=es)=> ?_) (hc.trans (by rw[List.drop_zero,tkQ (by omega)]));rw[hz];exact hK)
  ·have hon:=hB.add (by omega) hb0 ho;obtain⟨ye,hye⟩:∃z,z=es++[Qar b]:=⟨_,rfl⟩;obtain⟨m1,hm1⟩:∃z,z=m+1:=⟨_,rfl⟩;clear hhas hDe k1 ex rt ho hB
   conv=>cbv
   repeat' first|(intro(m:Nat) (r:Bool) (y:List (List D)) hm hr hy;refine(λ(hz:m1=m) (hz2:ye=y)=> ?_) (by first|omega|(simp only[List.length_cons,List.length_nil]at hm;omega)) (by first|(rw[hy,List.drop_zero,tkQ (by omega)];exact hye)|(rw[hy];exact hye));subst hz;subst hz2;(conv=>cbv))|exact gxQ|refine And.intro ?_ ?_|(intro hc;(first|rw[wS (by omega) (by omega)]at hc|rw[Qab]at hc|skip);try (conv=>cbv))
   refine norm _ _ (_,_,_,_) ?_ (Wk.cw);exact⟨o++[b],by simp only;rw[hye,hes,List.map_append];rfl,by simp only[List.length_append,List.length_cons,List.length_nil];omega,hon⟩
theorem Qt7(P:Program)(hP:P=Tryz.prog)(t:Top)(down:List Bool)(d:Int)(hf:QaK t down=true)(hd:0<=d/\d<t.nodes):FnS P QeM [QaF t,Qau down,iA d] [] λr h'=>QBi t (QaM t down d false) r/\h'=[]:=by
 refine FnS.mono (FnS.cut2 (Qwj P hP t down d hf hd) λr h' hr=> ?_) λr h' hr=> ?_
 ·obtain⟨_,l,k,rfl,-⟩:=hr;exact⟨_,_,rfl,rfl,rfl,rfl⟩
 ·obtain⟨h2,⟨_,h3⟩,h4⟩:=hr;exact⟨h3,lzQ h4⟩
section
variable{t:Top}{down:List Bool}{d:Int}
noncomputable abbrev nxD (t:Top) (down:List Bool) (d n:Int):List Int:=QcD t down (QaM t down d false) n d
structure CI (t:Top) (down:List Bool) (d:Int) (l:List Int) (C:List Int) (i:Nat):Prop where
 len:(C.length:Int)=t.nodes
 un:∀(j:Nat) (n:Int),j<i->l[j]? =some n->gt C n=if n=d then 1 else 0
 dn:∀(j:Nat) (n:Int),i<=j->l[j]? =some n->(1<=gt C n/\gt C n<=2)/\(gt C n=1->UQ t down d n)
 al:∀n,0<=n->n<t.nodes->(0<=gt C n/\gt C n<=2)/\(n∉l->n=d\/gt C n=0)
structure InC (t:Top) (down:List Bool) (d:Int) (l:List Int) (i:Nat) (x:Int) (C':List Int) (k:Nat):Prop where
 ex:∃C,CI t down d l C (i+1)/\C'.length=C.length/\(∀n,0<=n->n≠x->gt C' n=gt C n)/\(k=0->gt C' x=gt C x)/\
  (x≠d->(0<=gt C' x/\gt C' x<=2)/\(1<=k->1<=gt C' x)/\(gt C' x=1->k=1/\∀a,(nxD t down d x)[0]? =some a->gt C (QaA t a)=1))
 at_:l[i]? =some x
variable(hf:QaK t down=true)(hd:0<=d/\d<t.nodes){l:List Int}{kl:Nat}(ho:OrdN t.nodes (gt (QaM t down d false)) l kl)(hal:∀n,0<=n->n<t.nodes->0<=gt (QaM t down d false) n->n∈l)
include hf hd
include ho hal
omit hf hal in
theorem Qvs:CI t down d l ((List.replicate t.nodes.toNat 0).set d.toNat 1) l.length:=by
 have hl:d<((List.replicate t.nodes.toNat (0:Int)).length:Int):=by simp;omega
 have hg:∀j,0<=j->j<t.nodes->gt ((List.replicate t.nodes.toNat (0:Int)).set d.toNat 1) j=if j=d then 1 else 0:=by
  intro j j0 j1;rw[Qlt hd.1 hl j0];split
  ·rfl
  ·simp only[gt,List.getD_eq_getElem?_getD,List.getElem?_replicate];rw[if_pos (by omega)];rfl
 refine⟨by simp;omega,λj n hj hn=> ?_,λj n hj hn=> ?_,λn n0 n1=> ?_⟩
 ·have:=(ho.mem n (mgE hn)).1;exact hg n this.1 this.2
 ·have:=Qaa hn;omega
 ·rw[hg n n0 n1];refine⟨by split<;>omega,λ_=> ?_⟩;by_cases h:n=d
  ·exact .inl h
  ·right;rw[if_neg h]
theorem QvQ{C:List Int}{i:Nat}{x:Int}(h:CI t down d l C (i+1))(hx:l[i]? =some x):InC t down d l i x C 0:=by
 have hu:=h.un i x (by omega) hx;refine⟨⟨C,h,rfl,λ_ _ _=>rfl,λ_=>rfl,λhne=> ?_⟩,hx⟩;rw[hu,if_neg hne];exact⟨by omega,λh=>by omega,λh=>by omega⟩
theorem QpQ{C':List Int}{i k:Nat}{x a:Int}(h:InC t down d l i x C' k)(ha:a∈nxD t down d x):x≠d/\QaA t a≠x/\(0<=QaA t a/\QaA t a<t.nodes)/\(1<=gt C' (QaA t a)/\gt C' (QaA t a)<=2)/\(gt C' (QaA t a)=1->UQ t down d (QaA t a)):=by
 obtain⟨q0,q1,q2,q3,q4,q5,q6,q7⟩:=Qqc hf ha;obtain⟨C,h1,h2,h3,h4,h5⟩:=h.ex;have hx:=h.at_;have hne:QaA t a≠x:=λe=>by rw[e]at q5;omega
 obtain⟨j,hj⟩:=List.getElem?_of_mem (hal _ q6.1 q6.2 q3);have hji:i+1<=j:=by
  refine Classical.byContradiction λhc=> ?_
  rcases Nat.lt_or_ge j i with hlt|hge
  ·have hp:=List.pairwise_iff_getElem.1 ho.pw j i (Qaa hj) (Qaa hx) hlt;rw[(List.getElem?_eq_some_iff.1 hj).2,(List.getElem?_eq_some_iff.1 hx).2]at hp;omega
  ·obtain rfl:j=i:=by omega
   rw[hj]at hx;exact hne (osj hx)
 have hdn:=h1.dn j _ hji hj;rw[<-h3 _ q6.1 hne]at hdn;exact⟨q2,hne,q6,hdn.1,hdn.2⟩
theorem QAk{C':List Int}{i k:Nat}{x a:Int}(h:InC t down d l i x C' k)(ha:(nxD t down d x)[k]? =some a):(0<=x/\x<t.nodes)/\(C'.length:Int)=t.nodes/\(0<=QaA t a/\QaA t a<t.nodes)/\(1<=gt C' (QaA t a)/\gt C' (QaA t a)<=2)/\(0<=gt C' x/\gt C' x<=2):=by
 obtain⟨q2,hne,q6,h6,_⟩:=QpQ hf hd ho hal h (mgE ha);obtain⟨C,h1,h2,h3,h4,h5⟩:=h.ex;exact⟨(ho.mem x (mgE h.at_)).1,by rw[h2];exact h1.len,q6,h6,(h5 q2).1⟩
theorem Qyh{C':List Int}{i k:Nat}{x a:Int}(h:InC t down d l i x C' k)(ha:(nxD t down d x)[k]? =some a){v c:Int}(hc:c<=gt C' (QaA t a)/\c<=2-gt C' x/\(c=gt C' (QaA t a)\/c=2-gt C' x))(hv:v=gt C' x+c):InC t down d l i x (C'.set x.toNat v) (k+1):=by
 obtain⟨q2,hne,q6,h6,_⟩:=QpQ hf hd ho hal h (mgE ha);obtain⟨C,h1,h2,h3,h4,h5⟩:=h.ex;have hxr:=(ho.mem x (mgE h.at_)).1;have hlen:=h1.len;have hgx:gt (C'.set x.toNat v) x=v:=by rw[Qlt hxr.1 (by omega) hxr.1,if_pos rfl]
 obtain⟨g1,g2,g3⟩:=h5 q2;refine⟨⟨C,h1,by rw[List.length_set,h2],λn n0 hn=> ?_,λh=>by omega,λ_=> ?_⟩,h.at_⟩
 ·rw[Qlt hxr.1 (by omega) n0,if_neg hn];exact h3 n n0 hn
 ·rw[hgx,hv];have hc0:k=0->gt C' x=0:=λhk=>by
   rw[h4 hk,h1.un i x (by omega) h.at_,if_neg q2]
  refine⟨by omega,λ_=>by omega,λhv1=> ?_⟩;by_cases hk:k=0
  ·subst hk;rw[hc0 rfl]at hv1;refine⟨rfl,λb hb=> ?_⟩;obtain rfl:=osj (ha.symm.trans hb);rw[<-h3 _ q6.1 hne];omega
  ·exfalso;have:=g2 (by omega);omega
theorem QAj{C':List Int}{i:Nat}{x:Int}(h:InC t down d l i x C' (nxD t down d x).length):CI t down d l C' i:=by
 have hin:=λa ha=>QpQ hf hd ho hal h (a:=a) ha
 obtain⟨C,h1,h2,h3,h4,h5⟩:=h.ex;have hx:=h.at_;have hxm:=ho.mem x (mgE hx);have hoth:∀(j:Nat) (n:Int),j≠i->l[j]? =some n->n≠x/\0<=n:=λj n hj hn=>by
  refine⟨λe=>hj ?_,(ho.mem n (mgE hn)).1.1⟩;subst e;exact(List.getElem?_inj (Qaa hn) ho.nd).1 (hn.trans hx.symm)
 have hxx:(1<=gt C' x/\gt C' x<=2)/\(gt C' x=1->UQ t down d x):=by
  by_cases hxd:x=d
  ·have h0:(nxD t down d x).length=0:=by rw[hxd,nxD,QhS];rfl
   rw[h4 h0,h1.un i x (by omega) hx,if_pos hxd];exact⟨by omega,λ_=>by rw[hxd];exact .here⟩
  ·have hne:=Qur (p:=⟨0,0,d,0,[],0⟩) hf hd hxm.1 hxd hxm.2;obtain⟨a,r,hr⟩:=List.exists_cons_of_ne_nil hne;have hr:nxD t down d x=a::r:=hr;obtain⟨g1,g2,g3⟩:=h5 hxd;refine⟨⟨g2 (by rw[hr];simp),g1.2⟩,λhc=> ?_⟩;obtain⟨e1,e2⟩:=g3 hc;rw[hr]at e1 e2;have hr0:r=[]:=by
    simp only[List.length_cons]at e1;exact lzQ (by omega)
   have hca:=e2 a rfl;obtain⟨i1,i2,i3,i4,i5⟩:=hin a (by rw[hr];simp);rw[h3 _ i3.1 i2]at i5;refine .step x a (by show nxD t down d x=[a];rw[hr,hr0]) (i5 hca)
 refine⟨by rw[h2];exact h1.len,λj n hj hn=> ?_,λj n hj hn=> ?_,λn n0 n1=> ?_⟩
 ·obtain⟨e1,e2⟩:=hoth j n (by omega) hn;rw[h3 n e2 e1];exact h1.un j n (by omega) hn
 ·by_cases hji:j=i
  ·subst hji;obtain rfl:=osj (hn.symm.trans hx);exact hxx
  ·obtain⟨e1,e2⟩:=hoth j n hji hn;rw[h3 n e2 e1];exact h1.dn j n (by omega) hn
 ·by_cases hnx:n=x
  ·subst hnx;exact⟨⟨by have:=hxx.1.1;omega,hxx.1.2⟩,λh=>absurd (mgE hx) h⟩
  ·rw[h3 n n0 hnx];exact h1.al n n0 n1
theorem QzZ{C:List Int}(h:CI t down d l C 0){n:Int}(hn:0<=n/\n<t.nodes)(h1:gt C n=1):UQ t down d n:=by
 by_cases hm:n∈l
 ·obtain⟨j,hj⟩:=List.getElem?_of_mem hm;exact(h.dn j n (by omega) hj).2 h1
 ·rcases(h.al n hn.1 hn.2).2 hm with e|e
  ·rw[e];exact .here
  ·omega
end
def QBf(t:Top)(down:List Bool)(n d:Int)(r:AV):Prop:=∃c e:Int,r= .tup [iA c,iA e]/\(e=0->c=1->UQ t down d n)
set_option maxHeartbeats 2000000 in
theorem Qvv(P:Program)(hP:P=Tryz.prog)(t:Top)(down:List Bool)(n d:Int):Qu9 P QeL [QaF t,Qau down,iA n,iA d,iA 2] (QBf t down n d):=by
 have hdi:=QmE P hP t down d;have hord:=Qt7 P hP t down d;have hnx:=λ(hv:Qam t=true) hd (h0:0<=d/\d<t.nodes) x=>Qq4 P hP t down (QaM t down d false) x d hv hd (QbZ hv down false h0.1 h0.2).1.len (QbZ hv down false h0.1 h0.2).2
 have hhd:=λa=>QeH P hP t a
 refine Qct (hP▸mixed) (hP▸Qk5) (hP▸Qmo) (nle rfl) λΛ Λo K hK=> ?_
 clear hP;have k0:∀e:Int,e≠0->K (.tup [iA 0,iA e]):=λe he=>hK _ ⟨0,e,rfl,λh=>absurd h he⟩
 have k1:∀c:Int,(c=1->UQ t down d n)->K (.tup [iA c,iA 0]):=λc h=>hK _ ⟨c,0,rfl,λ_=>h⟩
 clear hK;by_cases hg:QaK t down=true/\0<=d/\d<t.nodes
 ·obtain⟨hf,hd⟩:=hg;have hv:=Qdw hf;have hfb:down.length=0\/down.length=2*t.links.length:=by
   simp only[QaK,Bool.and_eq_true,Bool.or_eq_true,decide_eq_true_eq]at hf;exact hf.2
  replace hnx:=hnx hv hfb hd;replace hord:=hord hf hd;rw[QbU,if_pos hf,if_pos hd]at hdi;by_cases hs:0<=n/\n<t.nodes
  ·have hst:=λ{l:List Int} {kl:Nat} (ho:OrdN t.nodes (gt (QaM t down d false)) l kl)=>Qvs (down:=down) hd ho
   have hin0:=λ{l:List Int} {kl:Nat} (ho:OrdN t.nodes (gt (QaM t down d false)) l kl) hal {C:List Int} {i:Nat} {x:Int}=>QvQ hf hd ho hal (C:=C) (i:=i) (x:=x)
   have hinr:=λ{l:List Int} {kl:Nat} (ho:OrdN t.nodes (gt (QaM t down d false)) l kl) hal {C:List Int} {i k:Nat} {x a:Int}=>QAk hf hd ho hal (C':=C) (i:=i) (k:=k) (x:=x) (a:=a)
   have hinS:=λ{l:List Int} {kl:Nat} (ho:OrdN t.nodes (gt (QaM t down d false)) l kl) hal {C:List Int} {i k:Nat} {x a v c:Int}=>Qyh hf hd ho hal (C':=C) (i:=i) (k:=k) (x:=x) (a:=a) (v:=v) (c:=c)
   have hinE:=λ{l:List Int} {kl:Nat} (ho:OrdN t.nodes (gt (QaM t down d false)) l kl) hal {C:List Int} {i:Nat} {x:Int}=>QAj hf hd ho hal (C':=C) (i:=i) (x:=x)
   have hciE:=λ{l:List Int} {kl:Nat} (ho:OrdN t.nodes (gt (QaM t down d false)) l kl) hal {C:List Int} (h:CI t down d l C 0)=>QzZ hf hd ho hal h hs
   have hole:=λ{l:List Int} {kl:Nat} (ho:OrdN t.nodes (gt (QaM t down d false)) l kl)=>And.intro ho.le ho.len
   have hlen:=λ{l C:List Int} {i:Nat} (h:CI t down d l C i)=>h.len
   have hlenI:=λ{l C:List Int} {i k:Nat} {x:Int} (h:InC t down d l i x C k)=>show(C.length:Int)=t.nodes by
    obtain⟨C0,h1,h2,-⟩:=h.ex;rw[h2];exact h1.len
   have hqlen:∀x,(nxD t down d x).length<=1000:=λx=>by
    have:=(Qai.1 hv).2.2.1;refine Nat.le_trans (List.length_filter_le _ _) ?_;simp only[QaS,List.length_map,List.length_range];omega
   have hn64:=(Qai.1 hv).1;simp only[QBi]at hord;simp only[nxD]at*;obtain⟨nx,hnx'⟩:∃f:Int->List Int,∀x,QcD t down (QaM t down d false) x d=f x:=⟨_,λ_=>rfl⟩;simp only[hnx']at hnx hin0 hinr hinS hinE hqlen;clear hnx';generalize hCI:CI t down d=ci at*;generalize hIC:InC t down d=ic at*;generalize hUQ:UQ t down d n=uq at*;clear hCI hIC hUQ;generalize QaM t down d false=Dv at*;generalize hOrd:OrdN t.nodes (gt Dv)=ordn at*;clear hOrd;obtain⟨al,hal⟩:∃f:List Int->Prop,∀l:List Int,(∀n,0<=n->n<t.nodes->0<=gt Dv n->n∈l)=f l:=⟨_,λ_=>rfl⟩;simp only[hal]at hord hin0 hinr hinS hinE hciE;clear hal hf hv hfb;generalize htT:QaA t=hT at*;clear htT;simp only[QaF,Qau,Qao,Qax,Qaf,Qak]at*;generalize t.ov.map QaY=ol at*;generalize t.links.map Qaz=ll at*;generalize t.nodes=nodes at*;generalize down.map QaY=dl at*;generalize Dv.map Qar=Dl at*;obtain⟨N,hN⟩:∃k,k=nodes.toNat:=⟨_,rfl⟩;obtain⟨dn,hdn⟩:∃k,k=d.toNat:=⟨_,rfl⟩;obtain⟨E0,hE0⟩:∃E:List (List Ab.D),E=List.replicate N [iD 0]:=⟨_,rfl⟩;have hE0l:E0.length=N:=by rw[hE0,List.length_replicate]
   have he0:E0[dn]? =some [iD 0]:=by rw[hE0,List.getElem?_replicate,if_pos (by omega)]
   obtain⟨E1,hE1⟩:∃E:List (List Ab.D),E=E0.set dn [iD 1]:=⟨_,rfl⟩;have hE1l:E1.length=N:=by rw[hE1,List.length_set,hE0l]
   have hE1C:E1=((List.replicate nodes.toNat 0).set d.toNat 1).map Qar:=by rw[hE1,hE0,hN,hdn,List.map_set,List.map_replicate];rfl
   conv=>cbv
   repeat' first|(refine Qag hdi rfl rfl ?_;conv=>cbv)|(intro(m:Nat) (es:List (List D)) hm hes;refine(λ(hz:N=m) (hz2:E0=es)=> ?_) (by omega) (by rw[hE0,hes,hN]);subst hz;subst hz2;(conv=>cbv))|(intro(c:Int) (hc:c<=1/\c<=2/\_);refine(λ(hz:1=c)=> ?_) (by omega);subst hz;(conv=>cbv))|(intro(k:Nat) hk;refine(λ(hz:dn=k)=> ?_) ?_;rotate_left;omega;subst hz;(conv=>cbv))|(intro(e:List D) he;cases osj (he.symm.trans he0);(conv=>cbv))|(intro(x:List (List D)) (hx:x=E0.set dn [iD 1]);refine(λ(hz:E1=x)=> ?_) (hE1.trans hx.symm);subst hz;(conv=>cbv))|(intro(k:Int) hk;rw[wS (by omega) (by omega)]at hk;refine(λ(hz:ix=k)=> ?_) ?_;rotate_left;omega;subst hz;(conv=>cbv))|(refine QaH [] hord ?_;rintro r hc' ⟨⟨l,kl,rfl,ho,ha⟩,rfl⟩;(have hlΛ:=Λo (l.map Qar));rw[List.length_map]at hlΛ;obtain⟨hkl1,hkl2⟩:=hole ho;obtain⟨ix,hix⟩:∃z:Int,z=(l.length:Int)-1:=⟨_,rfl⟩;generalize hlm:l.map Qar=lm at *;(conv=>cbv))|exact gxQ|refine And.intro ?_ ?_|(intro hc;(first|rw[wS (by omega) (by omega)]at hc|rw[Qab]at hc|skip);try (conv=>cbv))
   have hst:=hst ho;replace hin0:=λ{C:List Int} {i:Nat} {x:Int}=>hin0 ho ha (C:=C) (i:=i) (x:=x)
   replace hinr:=λ{C:List Int} {i k:Nat} {x a:Int}=>hinr ho ha (C:=C) (i:=i) (k:=k) (x:=x) (a:=a)
   replace hinS:=λ{C:List Int} {i k:Nat} {x a v c:Int}=>hinS ho ha (C:=C) (i:=i) (k:=k) (x:=x) (a:=a) (v:=v) (c:=c)
   replace hinE:=λ{C:List Int} {i:Nat} {x:Int}=>hinE ho ha (C:=C) (i:=i) (x:=x)
   replace hciE:=λ{C:List Int}=>hciE ho ha (C:=C)
   replace hlen:=λ{C:List Int} {i:Nat}=>hlen (l:=l) (C:=C) (i:=i)
   replace hlenI:=λ{C:List Int} {i k:Nat} {x:Int}=>hlenI (l:=l) (C:=C) (i:=i) (k:=k) (x:=x)
   have hll:∀(k:Nat) (x:Int),l[k]? =some x->lm[k]? =some [iD x]:=λk x h=>by rw[<-hlm,gtm,h];rfl
   have hget:∀(C:List Int) (j:Int),(C.length:Int)=nodes->0<=j->j<nodes->(C.map Qar)[j.toNat]? =some [iD (gt C j)]:=λC j h0 h1 h2=>by
    rw[gtm,lgE (show j.toNat<C.length by omega)];simp only[Option.map_some,Qar,gt,List.getD_eq_getElem?_getD,lgE (show j.toNat<C.length by omega),Option.getD_some]
   clear ho ha hole hord hdi he0 hE0 hE0l hE1;refine Qbs l.length (λ(s:List Int×List (List Ab.D)×Int)=>[(1,.c (.d (.list false 1 dl))),(2,iA n),(3,iA d),(4,iA 2),(5,.c (.ptr 0 0 0 0)),(12,.c (.d (.list false 1 Dl))),(14,.c (.arr 1 0 0 N)),(15,.c (.d (.list false 1 lm))),(17,iA s.2.2)])
    (λs=>[.bx [.d (iD nodes),.d (.list false 1 ol),.d (.list false 7 ll)],.da true 0 1 s.2.1])
    (λk s=>s.2.1=s.1.map Qar/\s.2.2=(l.length:Int)-1-k/\k<=l.length/\ci l s.1 (l.length-k)) (_,E1,ix)
    0 (λ(s:List Int×List (List Ab.D))=>[(2,iA n),(14,.c (.arr 1 0 0 N))])
    (λs=>[.bx [.d (iD nodes),.d (.list false 1 ol),.d (.list false 7 ll)],.da true 0 1 s.2])
    (λs=>s.2=s.1.map Qar/\ci l s.1 0) (Wk.cw) ⟨hE1C,by simp only;omega,by omega,hst⟩ (λk s h=>h.2.2.1) ?_ ?_
   ·rintro k ⟨C,es,i⟩ Q' ⟨hes,hi,hk,hci⟩ norm jn ex rt;simp only at hes hi hci;by_cases hlt:k<l.length
    ·obtain⟨p,hp⟩:∃p:Nat,p=l.length-(k+1):=⟨_,rfl⟩;have hpi:i=(p:Int):=by omega
     obtain⟨x,hx⟩:∃x,l[p]? =some x:=⟨_,lgE (by omega)⟩;have hxl:=hll p x hx;rw[show p=i.toNat by omega]at hxl;have hx0:=hnx x;rw[show l.length-k=p+1 by omega]at hci;have hin:=hin0 hci hx;replace hinE:=λ{C:List Int}=>hinE (C:=C) (i:=p) (x:=x)
     replace hinS:=λ{C:List Int} {k:Nat} {a v c:Int}=>hinS (C:=C) (i:=p) (k:=k) (x:=x) (a:=a) (v:=v) (c:=c)
     replace hinr:=λ{C:List Int} {k:Nat} {a:Int}=>hinr (C:=C) (i:=p) (k:=k) (x:=x) (a:=a)
     replace hlenI:=λ{C:List Int} {k:Nat}=>hlenI (C:=C) (i:=p) (k:=k) (x:=x)
     have hql:=hqlen x;generalize nx x=q at*;have hqΛ:=Λo (q.map Qar);rw[List.length_map]at hqΛ;have hqe:∀(k:Nat) (a:Int),q[k]? =some a->(q.map Qar)[k]? =some [iD a]:=λk a h=>by rw[gtm,h];rfl
     generalize q.map Qar=qm at*;clear hin0 hciE hnx hll hqlen hst hci
     conv=>cbv
     repeat' first|(intro(e:List D) he;cases osj (he.symm.trans hxl);(conv=>cbv))|(refine Qag hx0 rfl rfl ?_;conv=>cbv)|exact gxQ|refine And.intro ?_ ?_|(intro hc;(first|rw[wS (by omega) (by omega)]at hc|rw[Qab]at hc|skip);try (conv=>cbv))
     refine Qbs q.length (λ(s:List Int×List (List Ab.D)×Int)=>[(1,.c (.d (.list false 1 dl))),(2,iA n),(3,iA d),(4,iA 2),(5,.c (.ptr 0 0 0 0)),(12,.c (.d (.list false 1 Dl))),(14,.c (.arr 1 0 0 N)),(15,.c (.d (.list false 1 lm))),(17,iA i),(18,.c (.d (.list false 1 qm))),(19,iA s.2.2)])
      (λs=>[.bx [.d (iD nodes),.d (.list false 1 ol),.d (.list false 7 ll)],.da true 0 1 s.2.1])
      (λkk s=>s.2.1=s.1.map Qar/\s.2.2=kk/\kk<=q.length/\ic l p x s.1 kk) (C,es,0)
      2 (λ(s:List Int×List (List Ab.D))=>[(1,.c (.d (.list false 1 dl))),(2,iA n),(3,iA d),(4,iA 2),(5,.c (.ptr 0 0 0 0)),(12,.c (.d (.list false 1 Dl))),(14,.c (.arr 1 0 0 N)),(15,.c (.d (.list false 1 lm))),(17,iA i)])
      (λs=>[.bx [.d (iD nodes),.d (.list false 1 ol),.d (.list false 7 ll)],.da true 0 1 s.2])
      (λs=>s.2=s.1.map Qar/\ci l s.1 p) (Wk.cw) ⟨hes,rfl,by omega,hin⟩ (λk s h=>h.2.2.1) ?_ ?_
     ·rintro kk ⟨C',es',j⟩ Q2 ⟨hes',hj,hkk,hic⟩ norm2 jn2 ex2 rt2;simp only at hes' hj hic;clear norm jn ex rt k1 hes hin;by_cases hlt2:kk<q.length
      ·obtain⟨a,ha⟩:∃a,q[kk]? =some a:=⟨_,lgE hlt2⟩;have hqa:=hqe kk a ha;rw[show kk=j.toNat by omega]at hqa;obtain⟨r1,r2,r3,r4,r5⟩:=hinr hic ha;have hst:=λ{v c:Int}=>hinS (v:=v) (c:=c) hic ha
       have hea:=hget C' (hT a) r2 r3.1 r3.2;have hex:=hget C' x r2 r1.1 r1.2;have hha:=hhd a;rw[<-hes']at hea hex;have hesl:es'.length=N:=by rw[hes',List.length_map];omega
       have hsetE:∀v:Int,es'.set x.toNat [iD v]=(C'.set x.toNat v).map Qar:=λv=>by rw[hes',List.map_set];rfl
       generalize hT a=ha' at*;generalize gt C' ha'=ga at*;generalize gt C' x=gx at*;obtain⟨xn,hxn⟩:∃z,z=x.toNat:=⟨_,rfl⟩;obtain⟨an,han⟩:∃z,z=ha'.toNat:=⟨_,rfl⟩;rw[<-hxn]at hex hst hsetE;rw[<-han]at hea;obtain⟨j1,hj1⟩:∃z:Int,z=((kk+1:Nat):Int):=⟨_,rfl⟩;clear hinS hinE hinr hlenI hget hhd jn2 hqe hlen
       conv=>cbv
       repeat' first|(intro(e:List D) he;cases osj (he.symm.trans hqa);(conv=>cbv))|(intro(e:List D) he;cases osj (he.symm.trans hxl);(conv=>cbv))|(intro(e:List D) he;cases osj (he.symm.trans hea);(conv=>cbv))|(intro(e:List D) he;cases osj (he.symm.trans hex);(conv=>cbv))|(refine Qag hha rfl rfl ?_;conv=>cbv)|(intro(k:Nat) hk;refine(λ(hz:xn=k)=> ?_) ?_;rotate_left;omega;subst hz;(conv=>cbv))|(intro(k:Nat) hk;refine(λ(hz:an=k)=> ?_) ?_;rotate_left;omega;subst hz;(conv=>cbv))|(intro(k:Int) hk;rw[wS (by omega) (by omega)]at hk;refine(λ(hz:j1=k)=> ?_) ?_;rotate_left;omega;subst hz;(conv=>cbv))|exact gxQ|refine And.intro ?_ ?_|(intro hc;(first|rw[wS (by omega) (by omega)]at hc|rw[Qab]at hc|skip);try (conv=>cbv))
       rename_i z hz c hcc v hv hk1 es2;refine norm2 _ _ (C'.set xn v,es2,j1) ⟨?_,hj1,by omega,hst (c:=c) (by omega) hv⟩ (Wk.cw);exact hc.trans (hsetE v)
      ·obtain rfl:kk=q.length:=by omega
       have:=hinE hic
       conv=>cbv
       repeat' first|exact gxQ|refine And.intro ?_ ?_|(intro hc;(first|rw[wS (by omega) (by omega)]at hc|rw[Qab]at hc|skip);try (conv=>cbv))
       refine jn2 _ _ (C',es') ⟨hes',this⟩ (Wk.cw)
     ·rintro⟨C',es'⟩ ⟨h1,h2⟩;obtain⟨i1,hi1⟩:∃z:Int,z=i-1:=⟨_,rfl⟩
      conv=>cbv
      repeat' first|(intro(k:Int) hk;rw[wS (by omega) (by omega)]at hk;refine(λ(hz:i1=k)=> ?_) ?_;rotate_left;omega;subst hz;(conv=>cbv))|exact gxQ|refine And.intro ?_ ?_|(intro hc;(first|rw[wS (by omega) (by omega)]at hc|rw[Qab]at hc|skip);try (conv=>cbv))
      refine norm _ _ (C',es',i1) ⟨h1,by simp only;omega,by omega,?_⟩ (Wk.cw);rw[show l.length-(k+1)=p by omega];exact h2
    ·have hk0:l.length-k=0:=by omega
     rw[hk0]at hci
     conv=>cbv
     repeat' first|exact gxQ|refine And.intro ?_ ?_|(intro hc;(first|rw[wS (by omega) (by omega)]at hc|rw[Qab]at hc|skip);try (conv=>cbv))
     refine jn _ _ (C,es) ⟨hes,hci⟩ (Wk.cw)
   ·rintro⟨C,es⟩ ⟨hes,hci⟩;simp only at hes hci;have hE:=hciE hci;have hCl:=hlen hci;have heg:=hget C n hCl hs.1 hs.2;rw[<-hes]at heg;have hesl:es.length=N:=by rw[hes,List.length_map];omega
    have k1:=k1 (gt C n) hE;generalize gt C n=gn at*;obtain⟨nn,hnn⟩:∃z,z=n.toNat:=⟨_,rfl⟩;rw[<-hnn]at heg
    conv=>cbv
    repeat' first|(intro(k:Nat) hk;refine(λ(hz:nn=k)=> ?_) ?_;rotate_left;omega;subst hz;(conv=>cbv))|(intro(e:List D) he;cases osj (he.symm.trans heg);(conv=>cbv))|exact gxQ|refine And.intro ?_ ?_|(intro hc;(first|rw[wS (by omega) (by omega)]at hc|rw[Qab]at hc|skip);try (conv=>cbv))
    exact k1
  ·clear k1 hord hnx hhd;generalize QaM t down d false=Dv at*;simp only[QaF,Qau,Qao,Qax,Qaf,Qak]at*;generalize t.ov.map QaY=ol at*;generalize t.links.map Qaz=ll at*;generalize t.nodes=nodes at*;generalize down.map QaY=dl at*;generalize Dv.map Qar=Dl at*
   conv=>cbv
   repeat' first|(refine Qag hdi rfl rfl ?_;conv=>cbv)|exact k0 _ (by decide)|exact gxQ|refine And.intro ?_ ?_|(intro hc;(first|rw[wS (by omega) (by omega)]at hc|rw[Qab]at hc|skip);try (conv=>cbv))
 ·have he:∃e:Int,e≠0/\QbU t down d false=([],e):=by
   rw[QbU];by_cases hf:QaK t down=true
   ·rw[if_pos hf,if_neg λh=>hg ⟨hf,h⟩];exact⟨2,by decide,rfl⟩
   ·rw[if_neg hf];exact⟨1,by decide,rfl⟩
  obtain⟨e,he0,he⟩:=he;rw[he]at hdi;clear k1 hord hnx hhd he hg;simp only[QaF,Qau,Qao,Qax,Qaf,Qak,List.map_nil]at*;generalize t.ov.map QaY=ol at*;generalize t.links.map Qaz=ll at*;generalize t.nodes=nodes at*;generalize down.map QaY=dl at*
  conv=>cbv
  repeat' first|(refine Qag hdi rfl rfl ?_;conv=>cbv)|exact k0 _ (by first|decide|assumption)|exact gxQ|refine And.intro ?_ ?_|(intro hc;(first|rw[wS (by omega) (by omega)]at hc|rw[Qab]at hc|skip);try (conv=>cbv))
theorem Qs8(P:Program)(hP:P=Tryz.prog)(t:Top)(down:List Bool)(n d:Int):FnS P QeL [QaF t,Qau down,iA n,iA d,iA 2] [] λr h'=>QBf t down n d r/\h'=[]:=by
 refine FnS.mono (FnS.cut2 (Qvv P hP t down n d) λr h' hr=> ?_) λr h' hr=> ?_
 ·obtain⟨_,c,e,rfl,-⟩:=hr;exact⟨_,_,rfl,rfl,rfl,rfl⟩
 ·obtain⟨h2,⟨_,h3⟩,h4⟩:=hr;exact⟨h3,lzQ h4⟩
def QBk(t:Top)(down:List Bool)(n d:Int)(r:AV):Prop:=∃b:Bool,r=bA b/\(b=true->UQ t down d n)
theorem QuJ(P:Program)(hP:P=Tryz.prog)(t:Top)(down:List Bool)(n d:Int):Qu9 P Qd7 [QaF t,Qau down,iA n,iA d] (QBk t down n d):=by
 have hco:=Qs8 P hP t down n d;refine Qct (hP▸mixed) (hP▸Qj3) (hP▸QkX) (nle rfl) λΛ Λo K hK=> ?_
 clear hP;have k0:K (bA false):=hK _ ⟨false,rfl,λh=>by cases h⟩;have k1:UQ t down d n->K (bA true):=λh=>hK _ ⟨true,rfl,λ_=>h⟩
 clear hK;simp only[QBf]at hco;generalize UQ t down d n=uq at*;simp only[QaF,Qau,Qaf,Qak]at*;generalize t.ov.map QaY=ol at*;generalize t.links.map Qaz=ll at*;generalize t.nodes=nodes at*;generalize down.map QaY=dl at*
 conv=>cbv
 repeat' first|(refine QaH [] hco ?_;rintro r hc' ⟨⟨c,e,rfl,h⟩,rfl⟩;(conv=>cbv))|exact k0|exact gxQ|refine And.intro ?_ ?_|(intro hc;(first|rw[wS (by omega) (by omega)]at hc|rw[Qab]at hc|skip);try (conv=>cbv))
 all_goals (refine k1 (h (by omega) (by omega)))
theorem Qst(P:Program)(hP:P=Tryz.prog)(t:Top)(down:List Bool)(n d:Int):FnS P Qd7 [QaF t,Qau down,iA n,iA d] [] λr h'=>QBk t down n d r/\h'=[]:=by
 refine FnS.mono (FnS.cut (QuJ P hP t down n d) λr h' hr=> ?_) λr h' hr=> ?_
 ·obtain⟨_,b,rfl,-⟩:=hr;exact⟨rfl,rfl⟩
 ·obtain⟨h2,⟨_,h3⟩,h4⟩:=hr;exact⟨h3,lzQ h4⟩
def Rcv(t:Top)(down:List Bool)(w:List Int)(r:AV):Prop:=∃b:Bool,r=bA b/\(b=true->∀a0 aL:Int,w[0]? =some a0->w[w.length-1]? =some aL->CH t down (QaA t aL) (QaE t a0) w)
set_option maxHeartbeats 1000000 in
theorem Qs9(P:Program)(hP:P=Tryz.prog)(t:Top)(down:List Bool)(w:List Int)(hw:w≠[])(hwl:w.length<=1000):Qu9 P Qd8 [QaF t,Qau down,Qao w] (Rcv t down w):=by
 have htl:=λa=>QdI P hP t a
 have hhd:=λa=>QeH P hP t a
 have hpa:=λs d=>Qr8 P hP t down s d
 have huq:=λs d=>Qst P hP t down s d
 have hsm:=λl=>QgH P hP l w
 refine Qct (hP▸mixed) (hP▸Qj4) (hP▸QkY) (nle rfl) λΛ Λo K hK=> ?_
 clear hP;have hlen:0<w.length:=List.length_pos_iff.2 hw;obtain⟨a0,ha0⟩:∃a,w[0]? =some a:=⟨_,lgE hlen⟩;obtain⟨aL,haL⟩:∃a,w[w.length-1]? =some a:=⟨_,lgE (by omega)⟩;have k0:K (bA false):=hK _ ⟨false,rfl,λh=>by cases h⟩;have k1:∀p,PF t down (QaA t aL) (QaE t a0) p->UQ t down (QaA t aL) (QaE t a0)->p=w->K (bA true):=λp h1 h2 e=>hK _ ⟨true,rfl,λ_ b0 bL hb0 hbL=>by
  obtain rfl:=osj (ha0.symm.trans hb0);obtain rfl:=osj (haL.symm.trans hbL);subst e;exact QBs h1 h2⟩
 clear hK;have htl:=htl a0;have hhd:=hhd aL;generalize QaE t a0=x at*;generalize QaA t aL=y at*;replace hpa:=hpa x y;replace huq:=huq x y;simp only[QBj]at hpa;simp only[QBk]at huq;generalize hPF:PF t down y x=pf at*;generalize hUQ:UQ t down y x=uq at*;clear hPF hUQ;have hsm':∀l,Ret P Qck [Qao l,Qao w] (bA (decide (l=w))):=hsm;generalize QaK t down=fb at*;obtain⟨Q0,hQ0⟩:∃Q0:Prop,Q0=(fb=true/\(0<=x/\x<t.nodes)/\0<=y/\y<t.nodes):=⟨_,rfl⟩;simp only[QaF,Qau,Qao,Qax,Qaf,Qak]at*;generalize t.ov.map QaY=ol at*;generalize t.links.map Qaz=ll at*;generalize t.nodes=nodes at*;generalize down.map QaY=dl at*;have hwΛ:=Λo (w.map Qar);rw[List.length_map]at hwΛ;have he0:(w.map Qar)[(0:Int).toNat]? =some [iD a0]:=by rw[gtm];show Option.map Qar w[0]? =_;rw[ha0];rfl
 obtain⟨zL,hzL⟩:∃z:Int,z=(w.length:Int)-1:=⟨_,rfl⟩;have heL:(w.map Qar)[zL.toNat]? =some [iD aL]:=by rw[gtm,show zL.toNat=w.length-1 by omega,haL];rfl
 generalize hwm:w.map Qar=wm at*;clear hw ha0 haL hsm
 conv=>cbv
 repeat' first|(intro(e:List D) he;cases osj (he.symm.trans he0);(conv=>cbv))|(intro(e:List D) he;cases osj (he.symm.trans heL);(conv=>cbv))|(intro(k:Int) hk;rw[wS (by omega) (by omega)]at hk;refine(λ(hz:zL=k)=> ?_) ?_;rotate_left;omega;subst hz;(conv=>cbv))|(refine Qag htl rfl rfl ?_;conv=>cbv)|(refine Qag hhd rfl rfl ?_;conv=>cbv)|(refine QaH [] hpa ?_;rintro r hc' ⟨⟨p,e,rfl,hp⟩,rfl⟩;(have hsp:=hsm' p);generalize List.map Qar p=pm at *;(conv=>cbv))|(refine QaH [] huq ?_;rintro r hc' ⟨⟨b,rfl,hb⟩,rfl⟩;cases b<;>(conv=>cbv))|refine Qaw hsp rfl rfl ?_ ?_|exact k0|exact gxQ|refine And.intro ?_ ?_|(intro hc;(first|rw[wS (by omega) (by omega)]at hc|rw[Qab]at hc|skip);try (conv=>cbv))
 exact k1 p (hp (by omega)).2.2.2 (hb rfl) (of_decide_eq_true (by assumption))
theorem QrH(P:Program)(hP:P=Tryz.prog)(t:Top)(down:List Bool)(w:List Int)(hw:w≠[])(hwl:w.length<=1000):FnS P Qd8 [QaF t,Qau down,Qao w] [] λr h'=>Rcv t down w r/\h'=[]:=by
 refine FnS.mono (FnS.cut (Qs9 P hP t down w hw hwl) λr h' hr=> ?_) λr h' hr=> ?_
 ·obtain⟨_,b,rfl,-⟩:=hr;exact⟨rfl,rfl⟩
 ·obtain⟨h2,⟨_,h3⟩,h4⟩:=hr;exact⟨h3,lzQ h4⟩
inductive EncS (t:Top) (down:List Bool):Int->List Int->List Seg->Prop
 |nil (n:Int):EncS t down n [] []
 |arc (a:Int) (p:List Int) (l:List Seg) (h0:0<=a/\a<2*t.links.length) (hu:upB down a=true) (h:EncS t down (QaA t a) p l):EncS t down (QaE t a) (a::p) (⟨2,a⟩::l)
 |node (y:Int) (p:List Int) (l:List Seg) (h:EncS t down y p l):EncS t down y p (⟨1,y⟩::l)
 |step (n y a:Int) (p:List Int) (l:List Seg) (hy:0<=y/\y<t.nodes) (h0:QcD t down (QaM t down y false) n y=[a]) (h:EncS t down (QaA t a) p (⟨1,y⟩::l)):EncS t down n (a::p) (⟨1,y⟩::l)
theorem QAa{t:Top}{down:List Bool}{y n:Int}{w q:List Int}{m:List Seg}(hy:0<=y/\y<t.nodes)(h:CH t down y n w)(he:EncS t down y q m):EncS t down n (w++q) (⟨1,y⟩::m):=by
 induction h with
 |nil=>exact .node y q m he
 |cons n a w h0 h1 ih=>exact .step n y a _ m hy h0 ih
def SgB(s:Seg):Prop:=(1<=s.kind/\s.kind<=2)/\0<=s.num/\s.num<=1000
def SG(t:Top)(down:List Bool)(s:Int)(p:List Int)(i nx:Nat)(sg:Seg):Prop:=
 i<nx/\nx<=p.length/\SgB sg/\∀q m,EncS t down (Qdh t s (p.take nx)) q m->EncS t down (Qdh t s (p.take i)) ((p.take nx).drop i++q) (sg::m)
def OKL(t:Top)(down:List Bool)(s:Int)(p:List Int)(i:Nat)(o:List Seg):Prop:=
 (∀q m,EncS t down (Qdh t s (p.take i)) q m->EncS t down s (p.take i++q) (o++m))/\o.length<=i/\∀x∈o,SgB x
theorem Qyy{t:Top}{down:List Bool}{s:Int}{p:List Int}:OKL t down s p 0 []:=⟨λq m h=>h,by simp,λx h=>by cases h⟩
theorem Qyw{t:Top}{down:List Bool}{s:Int}{p:List Int}{i nx:Nat}{o:List Seg}{sg:Seg}(h:OKL t down s p i o)(hs:SG t down s p i nx sg):OKL t down s p nx (o++[sg]):=by
 obtain⟨h1,h2,h3⟩:=h;obtain⟨g1,g2,g3,g4⟩:=hs;refine⟨λq m hq=> ?_,by simp;omega,λx hx=> ?_⟩
 ·have:=h1 _ _ (g4 q m hq);rw[<-List.append_assoc]at this;have e:p.take i++(p.take nx).drop i=p.take nx:=by
   conv=>rhs;rw[<-List.take_append_drop i (p.take nx)]
   rw[List.take_take,Nat.min_eq_left (by omega)]
  rw[e]at this;rw[List.append_assoc];exact this
 ·rcases List.mem_append.1 hx with hx|hx
  ·exact h3 x hx
  ·rw[List.mem_singleton]at hx;rw[hx];exact g3
theorem Qyx{t:Top}{down:List Bool}{s:Int}{p:List Int}{o:List Seg}(h:OKL t down s p p.length o):EncS t down s p o/\o.length<=p.length/\∀x∈o,SgB x:=by
 refine⟨?_,h.2.1,h.2.2⟩;have:=h.1 [] [] (.nil _);rw[List.append_nil,List.append_nil,List.take_length]at this;exact this
section
variable{t:Top}{down:List Bool}(hf:QaK t down=true){s d:Int}{p:List Int}(hw:RW t d s p)(hu:∀a∈p,upB down a=true)
include hf hw
theorem QsW{i:Nat}{a:Int}(ha:p[i]? =some a):(0<=a/\a<=1000)/\(0<=QaA t a/\QaA t a<t.nodes/\QaA t a<=1000):=by
 have hv:=Qai.1 (Qdw hf);have h0:=((Qsf hw).2 i a ha).1;have hl:=hv.2.2.1;have hn:=hv.1;have:=(QbB (Qdw hf) h0.1 h0.2).2.1;exact⟨⟨by omega,by omega⟩,this.1,this.2,by omega⟩
include hu
theorem QAT{i:Nat}{a:Int}(ha:p[i]? =some a):SG t down s p i (i+1) ⟨2,a⟩:=by
 obtain⟨h0,h1,_⟩:=(Qsf hw).2 i a ha;have hb:=QsW hf hw ha;have hlt:=Qaa ha;refine⟨by omega,hlt,⟨⟨by simp only;omega,by simp only;omega⟩,hb.1.1,hb.1.2⟩,λq m h=> ?_⟩;have e1:(p.take (i+1)).drop i=[a]:=by rw[Qal ha,List.drop_append_of_le_length (by simp;omega),List.drop_of_length_le (by rw[List.length_take];exact Nat.min_le_left _ _)];rfl
 rw[Qal ha,QfJ]at h;rw[e1,<-h1];exact .arc a q m h0 (hu a (mgE ha)) h
theorem Qy2{i k:Nat}{aL:Int}(hik:i<k)(hk:k<=p.length)(ha:p[k-1]? =some aL)(hc:∀b0 bL:Int,((p.take k).drop i)[0]? =some b0->((p.take k).drop i)[((p.take k).drop i).length-1]? =some bL->CH t down (QaA t bL) (QaE t b0) ((p.take k).drop i)):SG t down s p i k ⟨1,QaA t aL⟩:=by
 obtain⟨a0,h0⟩:∃a,p[i]? =some a:=⟨_,lgE (by omega)⟩;have hb:=QsW hf hw ha;have e0:((p.take k).drop i)[0]? =some a0:=by rw[List.getElem?_drop,List.getElem?_take,if_pos (by omega)];exact h0
 have eL:((p.take k).drop i)[((p.take k).drop i).length-1]? =some aL:=by
  rw[List.length_drop,List.length_take,Nat.min_eq_left hk,List.getElem?_drop,List.getElem?_take,if_pos (by omega),show i+(k-i-1)=k-1 by omega];exact ha
 have hc:=hc a0 aL e0 eL;refine⟨hik,hk,⟨⟨by simp only;omega,by simp only;omega⟩,hb.2.1,hb.2.2.2⟩,λq m h=> ?_⟩;have h1:=((Qsf hw).2 i a0 h0).2.1;have h2:Qdh t s (p.take k)=QaA t aL:=by
  conv=>lhs;rw[show k=(k-1)+1 by omega,Qal ha,QfJ]
  rfl
 rw[h2]at h;rw[<-h1];exact QAa ⟨hb.2.1,hb.2.2.1⟩ hc h
end
def QBh(t:Top)(down:List Bool)(s:Int)(p:List Int)(r:AV):Prop:=∃(l:List Seg) (e:Int),r= .tup [QcI l,iA e]/\(e=0->QaK t down=true/\(0<=s/\s<t.nodes)/\RW t (Qdh t s p) s p/\EncS t down s p l/\l.length<=p.length/\∀x∈l,SgB x)
set_option maxHeartbeats 2000000 in
theorem QtO(P:Program)(hP:P=Tryz.prog)(t:Top)(down:List Bool)(s:Int)(p:List Int)(hp:p.length<=100):Qu9 P Qfs [QaF t,Qau down,Qao p,iA s] (QBh t down s p):=by
 have hck:=Qpp P hP t down s p (by omega);have hcv:=λ(i k:Nat) (h0:i<k) (h1:k<=p.length)=>QrH P hP t down ((p.take k).drop i) (λe=>by have:=congrArg List.length e;rw[List.length_drop,List.length_take,Nat.min_eq_left h1]at this;simp at this;omega) (by rw[List.length_drop,List.length_take];omega)
 have hhd:=λa=>QeH P hP t a
 refine Qct (hP▸mixed) (hP▸QmZ) (hP▸QnZ) (nle rfl) λΛ Λo K hK=> ?_
 clear hP;have k0:∀e:Int,e≠0->K (.tup [QcI [],iA e]):=λe he=>hK _ ⟨[],e,rfl,λh=>absurd h he⟩
 have k1:QaK t down=true->(0<=s/\s<t.nodes)->RW t (Qdh t s p) s p->∀l,OKL t down s p p.length l->K (.tup [QcI l,iA 0]):=λh1 h2 h3 l h4=>hK _ ⟨l,0,rfl,λ_=>⟨h1,h2,h3,Qyx h4⟩⟩
 clear hK;have hsa:=λ(hf:QaK t down=true) (hw:RW t (Qdh t s p) s p) (hu:∀a∈p,upB down a=true) {i:Nat} {a:Int}=>QAT hf hw hu (i:=i) (a:=a)
 have hsn:=λ(hf:QaK t down=true) (hw:RW t (Qdh t s p) s p) (hu:∀a∈p,upB down a=true) {i k:Nat} {a:Int}=>Qy2 hf hw hu (i:=i) (k:=k) (aL:=a)
 have hlt:=λ(hf:QaK t down=true) (hw:RW t (Qdh t s p) s p) {i:Nat} {a:Int}=>QsW hf hw (i:=i) (a:=a)
 have hoa:=λ{i nx:Nat} {o:List Seg} {sg:Seg}=>Qyw (t:=t) (down:=down) (s:=s) (p:=p) (i:=i) (nx:=nx) (o:=o) (sg:=sg)
 have ho0:=Qyy (t:=t) (down:=down) (s:=s) (p:=p);have hsl:=λ{i nx:Nat} {sg:Seg} (h:SG t down s p i nx sg)=>And.intro h.1 (And.intro h.2.1 h.2.2.1)
 have hol:=λ{i:Nat} {o:List Seg} (h:OKL t down s p i o)=>h.2.1
 simp only[QBg]at hck;simp only[Rcv]at hcv;generalize OKL t down s p=okl at*;generalize SG t down s p=sg at*;generalize hRW:RW t (Qdh t s p) s p=rw0 at*;clear hRW;generalize QaK t down=fb at*;obtain⟨ups,hups⟩:∃Q:Prop,(∀a∈p,upB down a=true)=Q:=⟨_,rfl⟩;rw[hups]at hck hsa hsn;clear hups;obtain⟨chp,hchp⟩:∃Q:List Int->Prop,∀w,(∀a0 aL:Int,w[0]? =some a0->w[w.length-1]? =some aL->CH t down (QaA t aL) (QaE t a0) w)=Q w:=⟨_,λ_=>rfl⟩;simp only[hchp]at hcv hsn;clear hchp;generalize QaA t=hT at*;simp only[QaF,Qau,Qao,Qax,QcI,QaZ,Qaf,Qak,List.map_nil]at*;generalize t.ov.map QaY=ol at*;generalize t.links.map Qaz=ll at*;generalize t.nodes=nodes at*;generalize down.map QaY=dl at*;have hpΛ:=Λo (p.map Qar);rw[List.length_map]at hpΛ;have hpe:∀(k:Nat) (a:Int),p[k]? =some a->(p.map Qar)[k]? =some [iD a]:=λk a h=>by rw[gtm,h];rfl
 simp only[List.map_take,List.map_drop]at hcv;generalize p.map Qar=pl at*
 conv=>cbv
 repeat' first|(refine QaH [] hck ?_;rintro r hc' ⟨⟨e,rfl,he⟩,rfl⟩;(conv=>cbv))|exact k0 _ (by assumption)|exact gxQ|refine And.intro ?_ ?_|(intro hc;(first|rw[wS (by omega) (by omega)]at hc|rw[Qab]at hc|skip);try (conv=>cbv))
 obtain⟨h1,h2,h3,h4⟩:=he (by omega);subst h1;replace hsa:=λ{i:Nat} {a:Int}=>hsa rfl h3 h4 (i:=i) (a:=a)
 replace hsn:=λ{i k:Nat} {a:Int}=>hsn rfl h3 h4 (i:=i) (k:=k) (a:=a)
 replace hlt:=λ{i:Nat} {a:Int}=>hlt rfl h3 (i:=i) (a:=a)
 replace k1:=k1 rfl h2 h3;clear hck he h3 h4 k0;refine QaT p.length (λ(s:Int×Nat×Nat×Bool×List (List Ab.D))=>[(1,.c (.d (.list false 1 dl))),(2,.c (.d (.list false 1 pl))),(4,.c (.ptr 0 0 0 0)),(11,.c (.arr 1 s.2.1 0 s.2.2.1)),(12,iA s.1)])
  (λs=>[.bx [.d (iD nodes),.d (.list false 1 ol),.d (.list false 7 ll)],.da s.2.2.2.1 s.2.1 2 s.2.2.2.2])
  (λk x=>∃(o:List Seg) (i:Nat),x.2.2.2.2=o.map Qaj/\x.2.2.1=o.length/\x.1=i/\k<=i/\i<=p.length/\okl i o) (0,0,0,false,[]) (.trans (.nilS 11 2 rfl) (Wk.cw)) ⟨[],0,rfl,rfl,rfl,by omega,by omega,ho0⟩ (λk x h=>by obtain⟨o,i,-,-,-,h1,h2,-⟩:=h;omega) ?_
 rintro k ⟨iz,ve,m,rb,es⟩ Q' ⟨o,i,hes,hm,hi,hk,hil,ho⟩ norm ex rt;simp only at hes hm hi;have hml:m=es.length:=by rw[hes,List.length_map];exact hm
 have hob:=hol ho;by_cases hlt2:i<p.length
 ·obtain⟨a,ha⟩:∃a,p[i]? =some a:=⟨_,lgE hlt2⟩;have hpa:=hpe i a ha;rw[show i=iz.toNat by omega]at hpa;have hs0:=hsa ha;have hab:=hlt ha;obtain⟨i1,hi1⟩:∃z:Int,z=((i+1:Nat):Int):=⟨_,rfl⟩;clear k1 ho0 hol hsa
  conv=>cbv
  repeat' first|(intro(e:List D) he;cases osj (he.symm.trans hpa);(conv=>cbv))|(intro(k:Int) hk;rw[wS (by omega) (by omega)]at hk;refine(λ(hz:i1=k)=> ?_) ?_;rotate_left;omega;subst hz;(conv=>cbv))|exact gxQ|refine And.intro ?_ ?_|(intro hc;(first|rw[wS (by omega) (by omega)]at hc|rw[Qab]at hc|skip);try (conv=>cbv))
  refine Qbs p.length (λ(s:Int×Int×Int×Int)=>[(1,.c (.d (.list false 1 dl))),(2,.c (.d (.list false 1 pl))),(4,.c (.ptr 0 0 0 0)),(11,.c (.arr 1 ve 0 m)),(12,iA iz),(13,.c (.ptr 2 0 0 0)),(14,iA s.2.2.1),(15,iA s.2.2.2)])
   (λs=>[.bx [.d (iD nodes),.d (.list false 1 ol),.d (.list false 7 ll)],.da rb ve 2 es,.bx [.d (iD s.1),.d (iD s.2.1)]])
   (λkk s=>s.2.2.2=i+1+kk/\i+1+kk<=p.length+1/\∃nx:Nat,s.2.2.1=nx/\sg i nx ⟨s.1,s.2.1⟩) (2,a,i1,i1)
   2 (λ(s:Int×Int×Int)=>[(1,.c (.d (.list false 1 dl))),(2,.c (.d (.list false 1 pl))),(4,.c (.ptr 0 0 0 0)),(11,.c (.arr 1 ve 0 m)),(12,iA iz),(13,.c (.ptr 2 0 0 0)),(14,iA s.2.2)])
   (λs=>[.bx [.d (iD nodes),.d (.list false 1 ol),.d (.list false 7 ll)],.da rb ve 2 es,.bx [.d (iD s.1),.d (iD s.2.1)]])
   (λs=>∃nx:Nat,s.2.2=nx/\sg i nx ⟨s.1,s.2.1⟩) (Wk.cw) ⟨by simp only;omega,by omega,i+1,hi1,hs0⟩ (λk s h=>by have:=h.2.1;omega) ?_ ?_
  ·rintro kk ⟨sk,sn,nxz,kz⟩ Q2 ⟨hkz,hkk,nx,hnx,hsg⟩ norm2 jn2 ex2 rt2;simp only at hkz hnx hsg;by_cases hlt3:i+1+kk<=p.length
   ·have hcv1:=hcv i (i+1+kk) (by omega) hlt3;obtain⟨b,hb⟩:∃b,p[i+kk]? =some b:=⟨_,lgE (by omega)⟩;have hpb:=hpe _ b hb;obtain⟨kz1,hkz1⟩:∃z:Int,z=((i+kk:Nat):Int):=⟨_,rfl⟩;rw[show i+kk=kz1.toNat by omega]at hpb;have hhb:=hhd b;have hsn1:=hsn (i:=i) (k:=i+1+kk) (a:=b) (by omega) hlt3 (by rw[show i+1+kk-1=i+kk by omega];exact hb);obtain⟨kz2,hkz2⟩:∃z:Int,z=((i+1+(kk+1):Nat):Int):=⟨_,rfl⟩;clear hcv hhd hsn hpe norm ex rt;generalize hT b=hTb at*;obtain⟨W0,hW0⟩:∃W,W=List.drop i (List.take (i+1+kk) pl):=⟨_,rfl⟩;rw[<-hW0]at hcv1
    conv=>cbv
    repeat' first|(intro(e:List D) he;cases osj (he.symm.trans hpb);(conv=>cbv))|(intro(k:Int) hk;rw[wS (by omega) (by omega)]at hk;refine(λ(hz:kz1=k)=> ?_) ?_;rotate_left;omega;subst hz;(conv=>cbv))|(intro(k:Int) hk;rw[wS (by omega) (by omega)]at hk;refine(λ(hz:kz2=k)=> ?_) ?_;rotate_left;omega;subst hz;(conv=>cbv))|(refine Qag hhb rfl rfl ?_;conv=>cbv)|(intro(x:List (List D)) hx;refine(λ(hz:W0=x)=> ?_) (by rw[hx,hW0,show iz.toNat=i by omega,show kz.toNat=i+1+kk by omega]);subst hz;(conv=>cbv))|(refine QaH [] hcv1 ?_;rintro r hc' ⟨⟨bb,rfl,hbb⟩,rfl⟩;cases bb<;>(conv=>cbv))|exact gxQ|refine And.intro ?_ ?_|(intro hc;(first|rw[wS (by omega) (by omega)]at hc|rw[Qab]at hc|skip);try (conv=>cbv))
    ·refine norm2 _ _ (sk,sn,nxz,kz2) ⟨by simp only;omega,by omega,nx,hnx,hsg⟩ (Wk.cw)
    ·refine norm2 _ _ (1,hTb,kz,kz2) ⟨by simp only;omega,by omega,i+1+kk,by simp only;omega,hsn1 (hbb rfl)⟩ (Wk.cw)
   ·clear hcv hhd hsn hpe norm ex rt
    conv=>cbv
    repeat' first|exact gxQ|refine And.intro ?_ ?_|(intro hc;(first|rw[wS (by omega) (by omega)]at hc|rw[Qab]at hc|skip);try (conv=>cbv))
    refine jn2 _ _ (sk,sn,nxz) ⟨nx,hnx,hsg⟩ (Wk.cw)
  ·rintro⟨sk,sn,nxz⟩ ⟨nx,hnx,hsg⟩;simp only at hnx hsg;have hoa:=hoa ho hsg;have hsb:=hsl hsg;obtain⟨ye,hye⟩:∃z,z=es++[[iD sk,iD sn]]:=⟨_,rfl⟩;obtain⟨m1,hm1⟩:∃z,z=m+1:=⟨_,rfl⟩;clear hcv hhd hsn hpe ex rt
   conv=>cbv
   repeat' first|(intro(m:Nat) (r:Bool) (y:List (List D)) hm hr hy;refine(λ(hz:m1=m) (hz2:ye=y)=> ?_) (by first|omega|(simp only[List.length_cons,List.length_nil]at hm;omega)) (by first|(rw[hy,List.drop_zero,tkQ (by omega)];exact hye)|(rw[hy];exact hye));subst hz;subst hz2;(conv=>cbv))|exact gxQ|refine And.intro ?_ ?_|(intro hc;(first|rw[wS (by omega) (by omega)]at hc|rw[Qab]at hc|skip);try (conv=>cbv))
   refine norm _ _ (_,_,_,_,_) ?_ (Wk.cw);exact⟨o++[⟨sk,sn⟩],nx,by simp only;rw[hye,hes,List.map_append];rfl,by simp only[List.length_append,List.length_cons,List.length_nil];omega,hnx,by omega,by omega,hoa⟩
 ·obtain rfl:i=p.length:=by omega
  have hK:=k1 o ho;rw[<-hes]at hK;clear hcv hhd hsn hpe norm hsa
  conv=>cbv
  repeat' first|(refine ex _ _ _ ?_;(conv=>cbv))|exact gxQ|refine And.intro ?_ ?_|(intro hc;(first|rw[wS (by omega) (by omega)]at hc|rw[Qab]at hc|skip);try (conv=>cbv))
  all_goals (refine(λ(hz:_=es)=> ?_) (hc.trans (by rw[List.drop_zero,tkQ (by omega)]));rw[hz];exact hK)
theorem Qr0(P:Program)(hP:P=Tryz.prog)(t:Top)(down:List Bool)(s:Int)(p:List Int)(hp:p.length<=100):FnS P Qfs [QaF t,Qau down,Qao p,iA s] [] λr h'=>QBh t down s p r/\h'=[]:=by
 refine FnS.mono (FnS.cut2 (QtO P hP t down s p hp) λr h' hr=> ?_) λr h' hr=> ?_
 ·obtain⟨_,l,e,rfl,-⟩:=hr;exact⟨_,_,rfl,rfl,rfl,rfl⟩
 ·obtain⟨h2,⟨_,h3⟩,h4⟩:=hr;exact⟨h3,lzQ h4⟩
theorem Qsq{t:Top}{down:List Bool}(hf:QaK t down=true):TbI (QbH t down t.nodes.toNat):=by
 have hv:=Qai.1 (Qdw hf);refine⟨λx hx e he=> ?_⟩;simp only[QbH,List.mem_map,List.mem_range]at hx;obtain⟨k,hk,rfl⟩:=hx;have hn:0<=(k:Int)/\(k:Int)<t.nodes:=by omega
 rw[QbT,if_pos hf,if_pos hn]at he;simp only[toL,List.mem_map]at he;obtain⟨d,hd,rfl⟩:=he;simp only[QaS,List.mem_map,List.mem_range]at hd;obtain⟨j,hj,rfl⟩:=hd;refine⟨?_,by simp⟩;simp only;rw[Qt2 hf hn (by omega),QcD];refine Nat.le_trans (List.length_filter_le _ _) ?_;simp only[QaS,List.length_map,List.length_range];omega
inductive LC (g:Wlk):WSt->List Int->WSt->Prop
 |nil (s:WSt) (h:g.ar s=[]):LC g s [] s
 |cons (s:WSt) (a:Int) (w:List Int) (e:WSt) (h:g.ar s=[a]) (h1:LC g (g.to s a) w e):LC g s (a::w) e
theorem Qv4{g:Wlk}{s:WSt}{a:Int}(h:g.ar s=[a]):g.nx s=[g.to s a]:=by rw[Wlk.nx,nxt,h];rfl
theorem QAx{g:Wlk}{s e:WSt}{w:List Int}(h:LC g s w e):Dep g.nx w.length s:=by
 induction h with
 |nil s h=>show g.nx s=[];rw[Wlk.nx,nxt,h];rfl
 |cons s a w e h h1 ih=>
  intro y hy;rw[Qv4 h,List.mem_singleton]at hy;rw[hy];exact ih
theorem QBI{g:Wlk}{s e:WSt}{w:List Int}(h:LC g s w e):∀k,Dep g.nx k s->w.length<=k:=by
 induction h with
 |nil s h=>intro k _;exact Nat.zero_le _
 |cons s a w e h h1 ih=>
  intro k hk;cases k with
  |zero=>
   have:g.nx s=[]:=hk;rw[Qv4 h]at this;cases this
  |succ k=>
   have:=ih k (hk _ (by rw[Qv4 h];simp));simp only[List.length_cons];omega
theorem QAw{g:Wlk}{s e:WSt}{w:List Int}(h:LC g s w e):∀(m:Nat) (q:List Int),w.length<=m->brs g.ar g.to m s q=[(e,q++w)]:=by
 induction h with
 |nil s h=>
  intro m q _;cases m with
  |zero=>simp[brs]
  |succ m=>rw[brs,if_pos h];simp
 |cons s a w e h h1 ih=>
  intro m q hm;cases m with
  |zero=>simp at hm
  |succ m=>
   rw[brs,if_neg (by rw[h];simp),h];simp only[List.flatMap_cons,List.flatMap_nil,List.append_nil];rw[ih m (q++[a]) (by simp at hm;omega)];simp
theorem QBJ{g:Wlk}{s e:WSt}{w:List Int}(h:LC g s w e):∃V:List WSt,V.length=w.length+1/\s∈V/\∀x∈V,∀y∈g.nx x,y∈V:=by
 induction h with
 |nil s h=>exact⟨[s],rfl,by simp,λx hx y hy=>by
   rw[List.mem_singleton]at hx;rw[hx,Wlk.nx,nxt,h]at hy;cases hy⟩
 |cons s a w e h h1 ih=>
  obtain⟨V,v1,v2,v3⟩:=ih;refine⟨s::V,by simp[v1],by simp,λx hx y hy=> ?_⟩;rcases List.mem_cons.1 hx with rfl|hx
  ·rw[Qv4 h,List.mem_singleton]at hy;rw[hy];exact List.mem_cons_of_mem _ v2
  ·exact List.mem_cons_of_mem _ (v3 x hx y hy)
theorem Qwe{σ:Type}(V:List σ):∃W:List σ,W.Nodup/\(∀x,x∈W↔x∈V)/\W.length<=V.length:=by
 classical
 induction V with
 |nil=>exact⟨[],List.nodup_nil,λx=>Iff.rfl,Nat.le_refl _⟩
 |cons a r ih=>
  obtain⟨W,h1,h2,h3⟩:=ih;by_cases ha:a∈W
  ·refine⟨W,h1,λx=> ?_,by simp;omega⟩;rw[h2,List.mem_cons];refine⟨λh=> .inr h,λh=> ?_⟩;rcases h with rfl|h
   ·exact(h2 x).1 ha
   ·exact h
  ·exact⟨a::W,List.nodup_cons.2 ⟨ha,h1⟩,λx=>by rw[List.mem_cons,List.mem_cons,h2],by simp;omega⟩
theorem QAv{g:Wlk}{s e:WSt}{w:List Int}(h:LC g s w e):∃U,Expl g.nx s U/\U.length<=w.length+1/\Qpf g U.length s 0=([⟨e.1,g.rs e,w⟩],0):=by
 obtain⟨V,v1,v2,v3⟩:=QBJ h;obtain⟨W,w1,w2,w3⟩:=Qwe V;obtain⟨U,hE,hl⟩:=Qx6 w1 ((w2 s).2 v2) λx hx y hy=>(w2 y).2 (v3 x ((w2 x).1 hx) y hy)
 refine⟨U,hE,by omega,?_⟩;obtain⟨k,hk,hdk⟩:=Qz5 hE.cl hE.st (QAx h);obtain⟨K,hK,-⟩:=QxZ k U.length [] s hk hdk λx h=>by cases h
 have hle:=QBI h k hdk;have hb:=QAw h U.length [] (by omega);have hn:=Qjy (ar:=g.ar) (to:=g.to) U.length s [];rw[hb]at hn;have hn1:num g.nx U.length s=1:=by rw[<-show num (nxt g.ar g.to) U.length s=num g.nx U.length s from rfl,<-hn];rfl
 simp only[Qpf,if_true,hK,hn1];rw[if_neg (by omega),brR,hb];rfl
section
variable{t:Top}{down:List Bool}(hf:QaK t down=true){p:Pkt}(hd:0<=p.dst/\p.dst<t.nodes)
include hf hd
theorem QpM{n:Int}{l:List Seg}(hn:0<=n/\n<t.nodes)(hl:l.length<=32):gA t (QbH t down t.nodes.toNat) p (n,l)=QdE t (QcY (QbH t down t.nodes.toNat) n) {p with stack:=l,hops:=0} (QcK n l):=by
 have hta:=Qnu hf hn;have hnode:(QcY (QbH t down t.nodes.toNat) n).node=n:=by rw[hta]
 have htb:Qhq t (QcY (QbH t down t.nodes.toNat) n)=true:=by rw[hta];exact QlN hf hn
 rw[gA,Qhk,if_pos ⟨htb,hd⟩,if_neg (by simp only;omega),hnode]
theorem Quy(n:Int)(l:List Seg):(QcK n l).length<=l.length:=(List.dropWhile_sublist _).length_le
theorem QAb{n:Int}{q:List Int}{l:List Seg}(h:EncS t down n q l):(0<=n/\n<t.nodes)->Qdh t n q=p.dst->∀l':List Seg,l'.length<=32->QcK n l'=QcK n l->∃e,LC (gR t down p) (n,l') q e/\(gR t down p).rs e= -1/\e.1=p.dst:=by
 induction h with
 |nil n=>
  intro hn he l' hl hs;have hA:=QpM hf hd hn hl;have hta:=Qnu hf hn;have hnode:(QcY (QbH t down t.nodes.toNat) n).node=n:=by rw[hta]
  have he:n=p.dst:=he;rw[hs,show QcK n []=[]from rfl,QdE,QdZ,if_pos (by rw[hnode];exact he.symm)]at hA;refine⟨(n,l'),.nil _ ?_,?_,he⟩
  ·show(gA t _ p (n,l')).1=_;rw[hA]
  ·show(gA t _ p (n,l')).2.2=_;rw[hA]
 |arc a q l h0 hu h ih=>
  intro hn he l' hl hs;have hA:=QpM hf hd hn hl;have hta:=Qnu hf hn;have hnode:(QcY (QbH t down t.nodes.toNat) (QaE t a)).node=QaE t a:=by rw[hta]
  have hdn:(QcY (QbH t down t.nodes.toNat) (QaE t a)).down=QiQ t down (QaE t a):=by rw[hta]
  have hsk:QcK (QaE t a) (⟨2,a⟩::l)=⟨2,a⟩::l:=by simp[QcK]
  have hlen:=Quy hf hd (QaE t a) l';rw[hs,hsk]at hA hlen;have hnd:a∉QiQ t down (QaE t a):=λhm=>by
   have:=(List.mem_filter.1 hm).2;rw[hu]at this;cases this
  have hv:=Qdw hf;rw[QdE]at hA;simp only at hA;rw[if_neg (by omega),if_neg (by omega),if_pos trivial,if_pos ⟨h0,by rw[hnode];exact(QgI hv h0.1 h0.2).symm⟩,if_neg (by rw[hdn];exact hnd),QdA]at hA;have hh:=(QbB hv h0.1 h0.2).2.1;obtain⟨e,e1,e2,e3⟩:=ih hh he l (by simp only[List.length_cons]at hlen;omega) rfl;refine⟨e,.cons _ a q e ?_ ?_,e2,e3⟩
  ·show(gA t _ p (QaE t a,l')).1=_;rw[hA]
  ·rw[show(gR t down p).to (QaE t a,l') a=(QaA t a,l)by show(QaA t a,(gA t _ p (QaE t a,l')).2.1.stack)=_;rw[hA]];exact e1
 |node y q l h ih=>
  intro hn he l' hl hs;refine ih hn he l' hl (hs.trans ?_);simp[QcK]
 |step n y a q l hy h0 h ih=>
  intro hn he l' hl hs;have hA:=QpM hf hd hn hl;obtain⟨q0,q1,q2,q3,q4,q5,q6,q7⟩:=Qqc hf (a:=a) (n:=n) (d:=y) (D:=QaM t down y false) (by rw[h0];simp);have hsk:QcK n (⟨1,y⟩::l)=⟨1,y⟩::l:=by
   have:¬y=n:=λe=>q2 e.symm
   simp[QcK,this]
  have hlen:=Quy hf hd n l';rw[hs,hsk]at hA hlen;have he1:=QrM hf hn hy;rw[QdE]at hA;simp only at hA;rw[if_neg (by omega),if_pos trivial,if_pos ⟨hy,by rw[he1,h0];simp⟩,he1,h0,Qc8]at hA;simp only[Bool.false_eq_true,if_false,QdA]at hA;obtain⟨e,e1,e2,e3⟩:=ih q6 he (⟨1,y⟩::l) (by omega) rfl;refine⟨e,.cons _ a q e ?_ ?_,e2,e3⟩
  ·show(gA t _ p (n,l')).1=_;rw[hA]
  ·rw[show(gR t down p).to (n,l') a=(QaA t a,⟨1,y⟩::l)by show(QaA t a,(gA t _ p (n,l')).2.1.stack)=_;rw[hA]];exact e1
end
def Qu5(d:Int)(l:List Seg):Pkt:=⟨0,0,d,0,l,0⟩
theorem QvA(P:Program)(hP:P=Tryz.prog)(t:Top)(down:List Bool)(hf:QaK t down=true)(s:Int)(q:List Int)(l:List Seg)(hs:0<=s/\s<t.nodes)(hw:RW t (Qdh t s q) s q)(he:EncS t down s q l)(hl:l.length<=q.length)(hq:q.length<=10)(hb:∀x∈l,SgB x):
  ∀m,Qbt m->FnS P Qdq [QaF t,Qcy (QbH t down t.nodes.toNat),Qcr (Qu5 (Qdh t s q) l),iA s] [.am m] λr h'=>∃m',h'=[.am m']/\Qbt m'/\r= .tup [.c (.d (Qzw [⟨Qdh t s q,-1,q⟩])),iA 0]:=by
 intro m hT;have hc:=Qn8 hf;have hx:=Qsq hf;have hv:=Qai.1 (Qdw hf);have hd:0<=Qdh t s q/\Qdh t s q<t.nodes:=by
  cases q with
  |nil=>exact hs
  |cons a r=>
   have hne:(a::r).length-1<(a::r).length:=by simp
   obtain⟨b,hb⟩:∃b,(a::r)[(a::r).length-1]? =some b:=⟨_,lgE hne⟩;have h0:=((Qsf hw).2 _ b hb).1;have h1:=(QbB (Qdw hf) h0.1 h0.2).2.1;have h2:Qdh t s (a::r)=QaA t b:=by
    conv=>lhs;rw[<-List.take_length (l:=a::r),show(a::r).length=((a::r).length-1)+1 by simp,Qal hb,QfJ]
    rfl
   rw[h2];exact h1
 obtain⟨e,e1,e2,e3⟩:=QAb hf (p:=Qu5 (Qdh t s q) l) hd he hs rfl l (by omega) rfl;obtain⟨U,hE,hUl,hall⟩:=QAv e1;rw[e2,e3]at hall;have hck:QaO t (QbH t down t.nodes.toNat) s=0:=by rw[QaO,if_pos hc,if_pos hs]
 have hst:StI t (s,(Qu5 (Qdh t s q) l).stack):=⟨hs.1,hs.2,by simp only[Qu5];omega,λx hx=>by
  have:=hb x hx;unfold SgB at this;unfold In64;omega⟩
 have hok:=QuL hP hc hx (p:=Qu5 (Qdh t s q) l) hst hE (by omega);have:=QuY P hP t (QbH t down t.nodes.toNat) (Qu5 (Qdh t s q) l) s (gW t (QbH t down t.nodes.toNat) (Qu5 (Qdh t s q) l)) U m hT λ_=>⟨hok,hE.st⟩
 rw[hck,show Qpf (gW t (QbH t down t.nodes.toNat) (Qu5 (Qdh t s q) l)) U.length (s,(Qu5 (Qdh t s q) l).stack) 0=([⟨Qdh t s q,-1,q⟩],0)from hall]at this;exact QA4 (R:=λr m'=>Qbt m'/\r= .tup [.c (.d (Qzw [⟨Qdh t s q,-1,q⟩])),iA 0]) this λr m' ⟨_,e⟩=>by subst e;exact⟨λ_=>rfl,rfl⟩
theorem QsY(P:Program)(haw:QlV P)(m:Ar)(hT:Qbt m):FnS P QcC [] [.am m] λr h'=>∃m',h'=[.am m']/\Qbt m'/\r=bA true:=
 QA4 (R:=λr m'=>Qbt m'/\r=bA true) ((haw m hT).mono λr h' ⟨e,m',tl,e2,h⟩=>⟨m',tl,e2,h,e⟩) λr m' ⟨_,e⟩=>by subst e;exact⟨λ_=>rfl,rfl⟩
end Go.Ab
