/-
  Merged texts, part y.
-/
import Derived.Test.YtohbofilgkdihaaGreatDoorZx
import Derived.Deep.DeepHandedRow
import Derived.Lib.LaidTab
set_option linter.all false
namespace Go.Ab
open Go.Proofs Go.Proofs.YtohbofilgkdihaaGreatDoor Go.ChangeShapes Go.WideShapes Go.ChangeAt Go.RowKit
inductive ShO:Sh->Prop
 |int (k:IntKind) (h:k≠ .u64):ShO (.int k)
 |bool:ShO .bool
 |list (sz:Nat) (es:List Sh) (hne:es≠[]) (h:∀s∈es,ShO s):ShO (.list sz es)
theorem Qrd{ss:List Sh}{ds:List D}{n:Nat}(h:FitL ss ds n):∀{j:Nat} {x:D},ds[j]? =some x->∃s m,s∈ss/\Fit1 s x m:=by
 induction ss generalizing ds n with
 |nil=>intro j x hx;cases h;simp at hx
 |cons s ss ih=>
  intro j x hx;cases h with
  |cons _ _ d ds' a b h1 h2=>
   cases j with
   |zero=>simp at hx;subst hx;exact⟨s,a,by simp,h1⟩
   |succ j=>
    obtain⟨s',m,q1,q2⟩:=ih h2 (by simpa using hx);exact⟨s',m,by simp[q1],q2⟩
theorem Qos{es:List Sh}:∀{l:List (List D)} {n:Nat},FitLL es l n->∀{i:Nat} {e:List D},l[i]? =some e->∃m,FitL es e m:=by
 intro l;induction l with
 |nil=>intro n _ i e he;simp at he
 |cons e0 l ih=>
  intro n h i e he;cases h with
  |cons _ _ _ a b h1 h2=>
   cases i with
   |zero=>simp at he;subst he;exact⟨a,h1⟩
   |succ i=>exact ih h2 (by simpa using he)
abbrev pwG:Nat:=0
theorem QyC{G:Nat->Prop}{W:World}(hT:W.heap[pwG]? =some QkC){v:Value}{d:D}(h:DR G W v d):∀{s:Sh} {n:Nat},ShO s->Fit1 s d n->DR (λb=>G b/\b≠pwG) W v d:=by
 induction h with
 |bool b=>intro s n _ _;exact .bool b
 |int k z=>intro s n _ _;exact .int k z
 |nils nl sz=>intro s n _ _;exact .nils nl sz
 |emp a sz=>intro s n _ _;exact .emp a sz
 |sl b off cap sz l g hG hcap hmax hsz hc hr ih=>
  intro s n hs hf;cases hf with
  |list _ es _ m hll=>
   cases hs with
   |list _ _ hne hes=>
    have each:∀(i:Nat) (e:List D) (j:Nat) (x:D),l[i]? =some e->e[j]? =some x->∃s' m',ShO s'/\Fit1 s' x m':=λi e j x he hx=>by
     obtain⟨m1,h1⟩:=Qos hll he;obtain⟨s',m',q1,q2⟩:=Qrd h1 hx;exact⟨s',m',hes s' q1,q2⟩
    refine .sl b off cap sz l g (λhl=>⟨hG hl,λhb=> ?_⟩) hcap hmax hsz hc λi e j x he hx=> ?_
    ·cases l with
     |nil=>exact hl rfl
     |cons e l=>
      obtain⟨m1,h1⟩:=Qos hll (i:=0) (e:=e) rfl;have h2:=h1.len;cases e with
      |nil=>exact hne (lzQ (by simpa using h2.symm))
      |cons x e=>
       have hc0:=hc 0 (x::e) 0 x rfl rfl;have hr0:=hr 0 (x::e) 0 x rfl rfl;obtain⟨s',m',q1,q2⟩:=each 0 (x::e) 0 x rfl rfl;subst hb;rw[QbJ hT]at hc0;have hz:∃z,g 0 0= .int .u64 z:=by
        rw[List.getElem?_toArray,gtm,omi]at hc0;obtain⟨z,-,e⟩:=hc0;exact⟨z,e.symm⟩
       obtain⟨z,hz⟩:=hz;rw[hz]at hr0;cases hr0;cases q2;cases q1 with
       |int _ h=>exact h rfl
    ·obtain⟨s',m',q1,q2⟩:=each i e j x he hx;exact ih i e j x he hx q1 q2
 |_=>intro s n hs hf;cases hs<;>cases hf
theorem QtG{W:World}(hT:W.heap[pwG]? =some QkC){cs:List Value}{ds:List D}{ss:List Sh}{n:Nat}(h:CsR W cs ds)(hf:FitL ss ds n)(hs:∀s∈ss,ShO s):
  ∀(i:Nat) (v:Value) (d:D),cs[i]? =some v->ds[i]? =some d->DR (λb=>b<W.heap.size/\b≠pwG) W v d:=λi v d hv hd=>by
 obtain⟨s,m,q1,q2⟩:=Qrd hf hd;exact QyC hT (h.2 i v d hv hd) (hs s q1) q2
noncomputable def pwA:Ar:=λb=>if b=pwG then some pwB else none
theorem Qzi:Qbk pwA:=by rw[Qbk,pwA,if_pos rfl]
theorem QuH{b:Nat}{x:AB}(h:pwA b=some x):b=pwG/\x=pwB:=by
 rw[pwA]at h;split at h
 ·rename_i e;exact⟨e,(osj h).symm⟩
 ·cases h
theorem QCt{W:World}(hT:W.heap[pwG]? =some QkC):HR (λb=>b<W.heap.size/\b≠pwG) [(0,0)] [.am pwA] W where
 len:=rfl
 own:=λl l' b k k' h1 h2 _ _=>by
  have:=Qaa h1;have:=Qaa h2;simp at *;omega
 g:=λb hb=>⟨hb.1,λ⟨l,k,h1,h2⟩=>by
  have hl:l=0:=by have:=Qaa h1;simpa using this
  subst hl;cases h1;obtain⟨x,hx⟩:=h2;exact hb.2 (QuH hx).1⟩
 blk:=λl k h1=>by
  have hl:l=0:=by have:=Qaa h1;simpa using this
  subst hl;cases h1;intro b x hx;obtain⟨rfl,rfl⟩:=QuH hx;exact⟨_,hT,rfl⟩
theorem QBj{W:World}(hT:W.heap[pwG]? =some QkC){cs:Array Value}{ds:List D}{ss:List Sh}{n:Nat}(h:CsR W cs.toList ds)(hf:FitL ss ds n)(hs:∀s∈ss,ShO s):
  VR (λb=>b<W.heap.size/\b≠pwG) W [(0,0)] [.am pwA] (.agg cs) (.agg (ds.map .d)):=by
 refine .agg cs _ (by have:=h.1;simpa using this) λi v x hv hx=> ?_
 simp only[gtm,omi]at hx;obtain⟨d,hd,rfl⟩:=hx;exact .d _ _ (QtG hT h hf hs i v d (by simpa using hv) hd)
theorem Qzl{f:FuncId}{fn:Func}(hfn:Tryz.prog.funcs[f]? =some fn){avs:List AV}{W:World}{vs:List Value}(hf:FnS Tryz.prog f avs [.am pwA] λr h'=>r=bA true/\∃m' tl,h'= .am m'::tl/\Qbk m')(hT:W.heap[pwG]? =some QkC)(hv:VRs (λb=>b<W.heap.size/\b≠pwG) W [(0,0)] [.am pwA] vs avs):
  Calls Tryz.prog f vs.toArray W λe W'=>e= .returned (.bool true)/\Quiet W W'/\∀b,b<W.heap.size->W'.heap[b]? =W.heap[b]? :=by
 refine((hf.out _ [(0,0)] W vs (QCt hT) hv).calls hfn).mono λe W' ⟨v,r,G',ι',h',he,hr,hr',hvr,hx⟩=> ?_
 obtain⟨rfl,m',tl,rfl,hT'⟩:=hr;refine⟨?_,hx.quiet,λb hb=> ?_⟩
 ·have:=QCa (Qcc hvr);rw[this]at he;exact he
 ·by_cases e:b=pwG
  ·subst e;obtain⟨o,h1,h2⟩:=hr'.blk 0 _ rfl _ _ hT';rw[h1,hT,h2]
  ·refine hx.frame b hb λ⟨l,blk,h1,h2⟩=> ?_
   have hl:l=0:=by have:=Qaa h1;simpa using this
   subst hl;cases h1;obtain⟨x,hx⟩:=h2;exact e (QuH hx).1
set_option maxRecDepth 100000 in
theorem QCu{W:World}(hsh:W.ShapedOpen Tryz.prog){cs:Array Value}(h:W.var? Tryz.prog "internal/strconv.uint64pow10"=some cs)(hcs:cs.toList=Go.Lib.pow10Tab.map λn=>Value.int .u64 n):W.heap[pwG]? =some QkC:=by
 have hg:Tryz.prog.globalNamed "internal/strconv.uint64pow10"=some pwG:=by kernel_rfl
 have hlt:pwG<Tryz.prog.globals.size:=by
  have:decide (pwG<Tryz.prog.globals.size)=true:=by kernel_rfl
  exact of_decide_eq_true this
 have hrow:(((begin Tryz.prog (λ_ _=>0) default).world.heap[pwG]?).bind Obj.row?).isSome=true:=by kernel_rfl
 obtain⟨⟨zero,t⟩,hz⟩:=Option.isSome_iff_exists.1 hrow;have ht:pwT=t:=congrArg QCZ hz;obtain⟨c,h1,-,-⟩:=hsh.1 pwG zero t hlt hz;unfold World.var? at h;rw[hg]at h;simp only[Option.bind_some,h1,osi]at h;subst h;rw[h1,QkC,ht,<-hcs]
def QuZ:List Sh:=[.list 1 [shI],.bool,.list 2 [shI,shI]]
def Qo9:List Sh:=[shI,.list 3 QuZ,.list 1 [shI]]
def QwZ:List Sh:=QBz++[.list 3 Qo9,shI,shI,shI,shI,.list 2 [shI,shI],shI,shI]
def Qx1(a:Ety):Nat:=a.arcs.length+a.push.length+1
theorem Qyw:∀e n,FitL QuZ e n->∃a:Ety,e=Qax a/\Qx1 a<=n:=by
 intro e n h;obtain⟨d0,ds0,_,_,rfl,rfl,g0,h_0⟩:=h.un;obtain⟨arcs,rfl,w_arcs⟩:=g0.lm QaC (λ_=>1) QAF;rw[QgQ]at w_arcs;obtain⟨d1,ds1,_,_,rfl,rfl,g1,h_1⟩:=h_0.un;obtain⟨rep,rfl⟩:=g1.b;obtain⟨d2,ds2,_,_,rfl,rfl,g2,h_2⟩:=h_1.un;obtain⟨push,rfl,w_push⟩:=g2.lm Qaf (λ_=>1) Qyy;rw[QgQ]at w_push;rw[h_2.end];exact⟨⟨arcs,rep,push⟩,rfl,by simp only[Qx1];omega⟩
def QzX(x:Tab):Nat:=(x.to.map Qx1).sum+x.down.length+1
theorem Qyz:∀e n,FitL Qo9 e n->∃a:Tab,e=Qal a/\QzX a<=n:=by
 intro e n h;obtain⟨d0,ds0,_,_,rfl,rfl,g0,h_0⟩:=h.un;obtain⟨node,rfl,w_node⟩:=g0.i;obtain⟨d1,ds1,_,_,rfl,rfl,g1,h_1⟩:=h_0.un;obtain⟨to,rfl,w_to⟩:=g1.lm Qax Qx1 Qyw;obtain⟨d2,ds2,_,_,rfl,rfl,g2,h_2⟩:=h_1.un;obtain⟨down,rfl,w_down⟩:=g2.lm QaC (λ_=>1) QAF;rw[QgQ]at w_down;rw[h_2.end];exact⟨⟨node,to,down⟩,rfl,by simp only[QzX];omega⟩
abbrev QCT:={s:Seg // In64 s.kind/\In64 s.num}
def QAN(s:QCT):List D:=Qaf s.1
theorem QC3{z:Int}(h:(Lit.int .i64 z).wf=true):In64 z:=by
 simp only[Lit.wf,Bool.and_eq_true,decide_eq_true_eq]at h;exact h
theorem QAH:∀e n,FitL [shI,shI] e n->∃a:QCT,e=QAN a/\1<=n:=by
 intro e n h;have hw:=h.weight;simp only[List.length_cons]at hw;obtain⟨d0,ds0,_,_,rfl,rfl,g0,h_0⟩:=h.un;obtain⟨z1,rfl,w_z1⟩:=g0.i;obtain⟨d1,ds1,_,_,rfl,rfl,g1,h_1⟩:=h_0.un;obtain⟨z2,rfl,w_z2⟩:=g1.i;rw[h_1.end];exact⟨⟨⟨z1,z2⟩,QC3 w_z1,QC3 w_z2⟩,rfl,by omega⟩
theorem QzJ{α:Type}(f:α->Nat):∀{l:List α} {x:α},x∈l->f x<=(l.map f).sum:=by
 intro l;induction l with
 |nil=>intro x h;cases h
 |cons a l ih=>
  intro x h;simp only[List.map_cons,List.sum_cons];rcases List.mem_cons.1 h with rfl|h
  ·omega
  ·have:=ih h;omega
theorem QzC(l:List Ety):sE l<=(l.map Qx1).sum:=by
 show(l.map λe=>e.arcs.length+e.push.length).sum<=(l.map Qx1).sum;induction l with
 |nil=>simp
 |cons a l ih=>
  have h:Qx1 a=a.arcs.length+a.push.length+1:=rfl;simp only[List.map_cons,List.sum_cons];omega
theorem Qyv{ds:List D}{n:Nat}(h:FitL QwZ ds n)(hn:n<=1048576):∃c:C24,QtB c= .agg (ds.map .d)/\Qz2 c/\InS c.p.stack:=by
 obtain⟨d0,ds0,_,_,rfl,rfl,g0,h_0⟩:=h.un;obtain⟨nodes,rfl,w_nodes⟩:=g0.i;obtain⟨d1,ds1,_,_,rfl,rfl,g1,h_1⟩:=h_0.un;obtain⟨ov,rfl,w_ov⟩:=g1.lm Qbq (λ_=>1) QB9;rw[QgQ]at w_ov;obtain⟨d2,ds2,_,_,rfl,rfl,g2,h_2⟩:=h_1.un;obtain⟨links,rfl,w_links⟩:=g2.lm QaD (λ_=>1) QAG;rw[QgQ]at w_links;obtain⟨d3,ds3,_,_,rfl,rfl,g3,h_3⟩:=h_2.un;obtain⟨xs,rfl,w_xs⟩:=g3.lm Qal QzX Qyz;obtain⟨d4,ds4,_,_,rfl,rfl,g4,h_4⟩:=h_3.un;obtain⟨id,rfl,w_id⟩:=g4.i;obtain⟨d5,ds5,_,_,rfl,rfl,g5,h_5⟩:=h_4.un;obtain⟨src,rfl,w_src⟩:=g5.i;obtain⟨d6,ds6,_,_,rfl,rfl,g6,h_6⟩:=h_5.un;obtain⟨dst,rfl,w_dst⟩:=g6.i;obtain⟨d7,ds7,_,_,rfl,rfl,g7,h_7⟩:=h_6.un;obtain⟨flow,rfl,w_flow⟩:=g7.i;obtain⟨d8,ds8,_,_,rfl,rfl,g8,h_8⟩:=h_7.un;obtain⟨stack,rfl,w_stack⟩:=g8.lm QAN (λ_=>1) QAH;rw[QgQ]at w_stack;obtain⟨d9,ds9,_,_,rfl,rfl,g9,h_9⟩:=h_8.un;obtain⟨hops,rfl,w_hops⟩:=g9.i;obtain⟨d10,ds10,_,_,rfl,rfl,g10,h_10⟩:=h_9.un;obtain⟨fr,rfl,w_fr⟩:=g10.i;rw[h_10.end];refine⟨⟨⟨nodes,ov,links⟩,xs,⟨id,src,dst,flow,stack.map (·.1),hops⟩,fr⟩,?_,λx hx=> ?_,λs hs=> ?_⟩
 ·simp only[QtB,Qag,Qai,QaG,List.map_map];rfl
 ·have h1:QzX x<=(xs.map QzX).sum:=QzJ QzX hx;have h2:=QzC x.to;have h3:QzX x=(x.to.map Qx1).sum+x.down.length+1:=rfl;omega
 ·obtain⟨y,_,rfl⟩:=List.mem_map.1 hs;exact y.2
theorem QzF:∀s∈QwZ,ShO s:=by
 have i:ShO shI:= .int _ (by decide);have hi:∀s∈[shI,shI],ShO s:=by intro s hs;simp at hs;subst hs;exact i
 have hi1:∀s∈[shI],ShO s:=by intro s hs;simp at hs;subst hs;exact i
 have he:∀s∈QuZ,ShO s:=by
  intro s hs;simp only[QuZ,List.mem_cons,List.not_mem_nil,or_false]at hs;rcases hs with rfl|rfl|rfl
  ·exact .list _ _ (by simp) hi1
  ·exact .bool
  ·exact .list _ _ (by simp) hi
 have ht:∀s∈Qo9,ShO s:=by
  intro s hs;simp only[Qo9,List.mem_cons,List.not_mem_nil,or_false]at hs;rcases hs with rfl|rfl|rfl
  ·exact i
  ·exact .list _ _ (by simp[QuZ]) he
  ·exact .list _ _ (by simp) hi1
 intro s hs;simp only[QwZ,QBz,List.cons_append,List.nil_append,List.mem_cons,List.not_mem_nil,or_false]at hs;rcases hs with rfl|rfl|rfl|rfl|rfl|rfl|rfl|rfl|rfl|rfl|rfl
 ·exact i
 ·exact .list _ _ (by simp) (by intro s hs;simp at hs;subst hs;exact .bool)
 ·exact .list _ _ (by simp) (by intro s hs;simp at hs;subst hs;exact i)
 ·exact .list _ _ (by simp[Qo9]) ht
 ·exact i
 ·exact i
 ·exact i
 ·exact i
 ·exact .list _ _ (by simp) hi
 ·exact i
 ·exact i
end Go.Ab
namespace Go.Ab
open Go.Proofs
def QBs:Rsl:=⟨0,0,[]⟩
def QwB(g:Wlk)(pick:Nat->WSt->Int):Nat->List WSt->WSt->List Int->Rsl×Int×Nat
 |0,seen,_,_=>(QBs,16,seen.length)
 |n+1,seen,s,path=>
  if s∈seen then (QBs,16,seen.length)
  else if g.ar s=[]then (⟨s.1,g.rs s,path⟩,0,seen.length)
  else if 0<=pick seen.length s/\pick seen.length s<(g.ar s).length then QwB g pick n (seen++[s]) (g.to s (gt (g.ar s) (pick seen.length s))) (path++[gt (g.ar s) (pick seen.length s)])
  else (QBs,2,seen.length+1)
def QxP(g:Wlk)(pick:Nat->WSt->Int)(U:List WSt)(s:WSt)(e:Int):Rsl×Int×Nat:=if e=0 then QwB g pick (U.length+1) [] s []else (QBs,e,0)
theorem Qrl{l:List Int}{i:Int}(h0:0<=i)(h1:i<l.length):l[i.toNat]? =some (gt l i)/\gt l i∈l:=by
 have hl:i.toNat<l.length:=by omega
 have e:l[i.toNat]? =some (gt l i):=by rw[gt,List.getD_eq_getElem?_getD,lgE hl];rfl
 exact⟨e,mgE e⟩
theorem Qzb{g:Wlk}{pick:Nat->WSt->Int}(hp:∀k s,g.ar s≠[]->0<=pick k s/\pick k s<(g.ar s).length):∀(n F:Nat) (seen:List WSt) (s:WSt) (path:List Int),n<F->Dep g.nx n s->(∀x∈seen,¬Dep g.nx n x)->
  ∃r k,QwB g pick F seen s path=(r,0,k)/\r∈brR g n s path:=by
 intro n;induction n with
 |zero=>
  intro F seen s path hF hd hs;obtain⟨F,rfl⟩:∃k,F=k+1:=⟨F-1,by omega⟩;have h1:s∉seen:=λh=>hs s h hd
  have h2:g.ar s=[]:=by rw[Dep,Wlk.nx,nxt,List.map_eq_nil_iff]at hd;exact hd
  rw[QwB,if_neg h1,if_pos h2];exact⟨_,_,rfl,by rw[Qjc h2];simp⟩
 |succ n ih=>
  intro F seen s path hF hd hs;by_cases hs1:Dep g.nx n s
  ·obtain⟨r,k,h1,h2⟩:=ih F seen s path (by omega) hs1 λx hx h=>hs x hx (Qoj h)
   exact⟨r,k,h1,by rw[brR,QtA g.ar g.to path hs1];exact h2⟩
  ·obtain⟨F,rfl⟩:∃k,F=k+1:=⟨F-1,by omega⟩;have h1:s∉seen:=λh=>hs s h hd
   have h2:g.ar s≠[]:=λh=>hs1 (QlC (Nat.zero_le n) (by rw[Dep,Wlk.nx,nxt,h];rfl))
   obtain⟨k0,k1⟩:=hp seen.length s h2;rw[QwB,if_neg h1,if_neg h2,if_pos ⟨k0,k1⟩];have hm:=(Qrl k0 k1).2;obtain⟨r,k,h3,h4⟩:=ih F (seen++[s]) (g.to s (gt (g.ar s) (pick seen.length s))) (path++[gt (g.ar s) (pick seen.length s)]) (by omega) (hd _ (List.mem_map.2 ⟨_,hm,rfl⟩)) λx hx h=>by
    rcases List.mem_append.1 hx with hx|hx
    ·exact hs x hx (Qoj h)
    ·rw[List.mem_singleton]at hx;subst hx;exact hs1 h
   exact⟨r,k,h3,by rw[Qmw h2];exact List.mem_flatMap.2 ⟨_,hm,h4⟩⟩
inductive Lead (t:Top) (d:Int):Int->List Int->Prop
 |nil:Lead t d d []
 |cons (n a:Int) (w:List Int) (h1:Qba t a=n) (h3:Lead t d (QbD t a) w):Lead t d n (a::w)
def QtR(t:Top):Int->List Int->Int
 |v,[]=>v
 |_,a::r=>QtR t (QbD t a) r
theorem Qq8(t:Top):∀(v:Int) (p q:List Int),QtR t v (p++q)=QtR t (QtR t v p) q
 |_,[],_=>rfl
 |_,a::r,q=>Qq8 t (QbD t a) r q
theorem Qy2{t:Top}{d n:Int}{w:List Int}(h:Lead t d n w):QtR t n w=d/\∀(k:Nat) (a:Int),w[k]? =some a->Qba t a=QtR t n (w.take k):=by
 induction h with
 |nil=>exact⟨rfl,λk a h=>by simp at h⟩
 |cons n a w h1 h3 ih=>
  obtain⟨i1,i2⟩:=ih;refine⟨i1,λk b hb=> ?_⟩;cases k with
  |zero=>
   simp only[List.getElem?_cons_zero,osi]at hb;subst hb;exact h1
  |succ k=>
   simp only[List.getElem?_cons_succ]at hb;exact i2 k b hb
section
variable{t:Top}{xs:List Tab}{p:Pkt}(hc:Qdn t xs=true)(hx:TbI xs)
include hc hx
theorem Qw6{s:WSt}(hs:StI t s){a:Int}(ha:a∈(gW t xs p).ar s):Qba t a=s.1:=by
 obtain⟨e1,e2,e3,e4⟩:=Qjd hc hs.nn hs.lt;have hb:=Qjb t (Qe7 xs s.1) {p with stack:=s.2,hops:=0};have h0:(gA t xs p s).2.2=0:=hb.some.2 (by
  show 0<(gA t xs p s).1.length;have ha:a∈(gA t xs p s).1:=ha;cases h:(gA t xs p s).1 with
  |nil=>rw[h]at ha;cases ha
  |cons=>simp)
 have h1:=(hb.yes h0).1 a ha;rw[e3]at h1;exact h1
theorem QvI:∀(n:Nat) (s:WSt) (path:List Int),StI t s->∀q∈brs (gW t xs p).ar (gW t xs p).to n s path,∃w,q.2=path++w/\Lead t q.1.1 s.1 w:=by
 intro n;induction n with
 |zero=>
  intro s path hs q hq;simp only[brs,List.mem_singleton]at hq;subst hq;exact⟨[],by simp,.nil⟩
 |succ n ih=>
  intro s path hs q hq;rw[brs]at hq;split at hq
  ·simp only[List.mem_singleton]at hq;subst hq;exact⟨[],by simp,.nil⟩
  ·obtain⟨a,ha,hq⟩:=List.mem_flatMap.1 hq;obtain⟨w,e,hw⟩:=ih _ _ ((Qgb hc hx hs).2.2 a ha) q hq;exact⟨a::w,by rw[e];simp,.cons _ _ _ (Qw6 hc hx hs ha) hw⟩
end
def snS(seen:List WSt):Ssc:=seen.map λs=>(Qsv s,.s (.bool true))
theorem Qw1{seen:List WSt}{s:WSt}(h:sfind (Qsv s) (snS seen) 0=none):s∉seen:=λhs=>Ql0.1 h (List.mem_map.2 ⟨_,List.mem_map.2 ⟨s,hs,rfl⟩,rfl⟩)
theorem Qw3{seen:List WSt}{s:WSt}{i:Nat}{v:DV}(h:sfind (Qsv s) (snS seen) 0=some (i,v)):s∈seen/\v= .s (.bool true):=by
 obtain⟨-,h2⟩:=Ql1 h;obtain⟨s',h3,h4⟩:=gtm .. ▸h2 |> omi.1
 simp only[pmi]at h4;rw[<-Qrp h4.1];exact⟨mgE h3,h4.2.symm⟩
theorem Qw2(seen:List WSt)(s:WSt):snS (seen++[s])=snS seen++[(Qsv s,.s (.bool true))]:=by simp[snS]
theorem FnS.frzR{P:Program}{f:Nat}{args:List AV}{h:Hp}{R R':AV->Hp->Prop}(hf:FnS P f args h R)
 (ht:∀r h',R r h'->∃a b x,(∃na nb:Int,a= .d (iD na)/\b= .d (iD nb))/\((r= .tup [.agg [a,b,.d (.list true 1 [])],x]/\R' (.tup [.agg [a,b,.d (.list false 1 [])],x]) h')\/
   ∃k ve n rr es,r= .tup [.agg [a,b,.arr k ve 0 n],x]/\h'[k]? =some (.da rr ve 1 es)/\QbL x=true/\R' (.tup [.agg [a,b,.d (.list false 1 (es.take n))],x]) (h'.set k .dead))):FnS P f args h R':=by
 refine⟨λG ι w vs hr hv=>(hf.out G ι w vs hr hv).mono λe w' ⟨v,r,G',ι',h',a1,a2,a3,a4,a5⟩=> ?_⟩;obtain⟨a,b,x,⟨da,db,rfl,rfl⟩,hc⟩:=ht r h' a2;rcases hc with ⟨rfl,hR⟩|⟨k,ve,n,rr,es,rfl,hk,hx,hR⟩
 ·refine⟨v,_,G',ι',h',a1,hR,a3,?_,a5⟩;obtain⟨cs,rfl,hn,hcs⟩:=Qqa a4;refine .tup cs _ hn λi y z hy hz=> ?_
  match i,hz with
  |0,hz=>cases hz;exact(hcs 0 y _ hy rfl).fg
  |1,hz=>cases hz;exact hcs 1 y _ hy rfl
  |i+2,hz=>simp at hz
 ·cases a4 with
  |tup cs _ hn hcs=>
   have h0:∃u,cs[0]? =some u:=by
    have h1:0<cs.size:=by rw[hn];simp
    exact⟨_,agQ h1⟩
   obtain⟨u,hu⟩:=h0;obtain⟨c2,rfl,hn2,hc2⟩:=QgN (hcs 0 u _ hu rfl);have h2:∃u2,c2[2]? =some u2:=by
    have h1:2<c2.size:=by rw[hn2];simp
    exact⟨_,agQ h1⟩
   obtain⟨u2,hu2⟩:=h2;have hc:=hc2 2 u2 _ hu2 rfl;have hfz:frz h' (.arr k ve 0 n)=some (.list false 1 (es.take n),h'.set k Blk.dead):=by
    simp[frz,hk]
   obtain⟨G2,q1,q2,q3⟩:=QcC a3 hc hfz;refine⟨.tuple cs,_,G2,ι',_,a1,hR,q1,.tup cs _ hn λi y z hy hz=> ?_,a5.trans q3⟩
   match i,hz with
   |0,hz=>
    cases hz;rw[hu]at hy;cases hy;refine .agg c2 _ hn2 λj y2 z2 hy2 hz2=> ?_
    match j,hz2 with
    |0,hz2=>
     cases hz2;exact QdG ((VR.c _ _ (hc2 0 y2 _ hy2 rfl)).ext q3 a3)
    |1,hz2=>
     cases hz2;exact QdG ((VR.c _ _ (hc2 1 y2 _ hy2 rfl)).ext q3 a3)
    |2,hz2=>
     cases hz2;rw[hu2]at hy2;cases hy2;exact .d _ _ q2
    |j+3,hz2=>simp at hz2
   |1,hz=>cases hz;exact(hcs 1 y _ hy rfl).ext q3 a3
   |i+2,hz=>simp at hz
abbrev QBR (r:Rsl) (e:Int):AV:= .tup [QsM r,iA e]
def Qtb(B:Hp)(r0:Rsl)(e:Int)(r:AV)(h':Hp):Prop:=∃tl,h'=B++tl/\
 ((r= .tup [.agg [.d (iD r0.node),.d (iD r0.rs),.d (.list true 1 [])],iA e]/\r0.path=[])\/
  ∃k ve rb,r= .tup [.agg [.d (iD r0.node),.d (iD r0.rs),.arr (B.length+k) ve 0 r0.path.length],iA e]/\tl[k]? =some (.da rb ve 1 (r0.path.map QaC)))
theorem QuB{P:Program}{f:Nat}{args:List AV}{B:Hp}{h:Hp}{r0:Rsl}{e:Int}(hl:B.length=h.length)(hB:QcE B.length B=true)(hf:FnS P f args h (Qtb B r0 e)):FnS P f args h λr h'=>r=QBR r0 e/\h'=B:=by
 have h1:FnS P f args h λr h'=>r=QBR r0 e/\∃tl,h'=B++tl:=by
  refine FnS.frzR hf ?_;rintro r h' ⟨tl,rfl,hc⟩;refine⟨.d (iD r0.node),.d (iD r0.rs),iA e,⟨_,_,rfl,rfl⟩,?_⟩;rcases hc with ⟨rfl,hp⟩|⟨k,ve,rb,rfl,hk⟩
  ·exact .inl ⟨rfl,by rw[QBR,QsM,Qav,hp];rfl,tl,rfl⟩
  ·refine .inr ⟨_,ve,_,rb,r0.path.map QaC,rfl,?_,rfl,?_,tl.set k .dead,?_⟩
   ·rw[apQ (by omega),Nat.add_sub_cancel_left];exact hk
   ·rw[tkQ (by rw[List.length_map];exact Nat.le_refl _)]
   ·rw[List.set_append_right _ _ (by omega),Nat.add_sub_cancel_left]
 refine FnS.mono (FnS.cut2 h1 λr h' hr=> ?_) λr h' hr=> ?_
 ·obtain⟨rfl,tl,rfl⟩:=hr;refine⟨_,_,rfl,rfl,rfl,?_⟩;rw[<-hl,List.take_left' rfl];exact hB
 ·obtain⟨h2,⟨h3,tl,h4⟩,h5⟩:=hr;rw[<-hl]at h5;have:=congrArg (List.take B.length) h4;rw[List.take_left' h5,List.take_left' rfl]at this;exact⟨h3,this⟩
end Go.Ab
