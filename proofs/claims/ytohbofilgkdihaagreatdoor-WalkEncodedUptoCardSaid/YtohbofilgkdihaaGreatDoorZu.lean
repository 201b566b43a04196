/-
  Merged texts, part u.
-/
import Derived.Test.YtohbofilgkdihaaGreatDoorZt
import Derived.Sort.Grow
set_option linter.all false
namespace Go.Ab
open Go.Proofs Go.Sort
theorem Qwv{α:Type}[Inhabited α](enc:α->Value)(w:World)(n b o:Nat)(d:Array α)(os:Array Obj){c:Array Value}{t:TypeId}{fr:Nat×Nat}(hb:w.heap[b]? =some (.cells c t fr)):
  (grow (putRow enc (Sort.ahead w n) b o d) os).heap[b]? =some (.cells (putCells enc o d c) t fr)/\(∀x,x<w.heap.size->x≠b->(grow (putRow enc (Sort.ahead w n) b o d) os).heap[x]? =w.heap[x]?)/\
   w.heap.size<=(grow (putRow enc (Sort.ahead w n) b o d) os).heap.size:=by
 have hlt:b<w.heap.size:=by
  rcases Nat.lt_or_ge b w.heap.size with h|h
  ·exact h
  ·rw[Array.getElem?_eq_none h]at hb;cases hb
 have hg:∀x,x<w.heap.size->(grow (putRow enc (Sort.ahead w n) b o d) os).heap[x]? =(w.heap.modify b (onCells (putCells enc o d)))[x]? :=by
  intro x hx;rw[heap_grow_old _ _ (by simpa using hx)];rfl
 refine⟨?_,λx hx hne=> ?_,by simp[grow,putRow,mapBlock]⟩
 ·rw[hg b hlt,Array.getElem?_modify,if_pos rfl,hb];rfl
 ·rw[hg x hx,Array.getElem?_modify,if_neg (λe=>hne e.symm)]
def Qw2(P:Program)(f:Nat):Prop:=
 (∀(blk off cap:Nat) (zs:List Int) (w:World),Holds (Value.int .i64) w blk off zs.toArray->blk<w.heap.size->zs.length<4611686018427387904->
  Calls P f #[.slice (some ⟨blk,off,none⟩) zs.length cap] w λe w'=>e= .returned (.tuple #[])/\∃n os,w'=grow (putRow (Value.int .i64) (Sort.ahead w n) blk off (zs.mergeSort λx y=>decide (x<=y)).toArray) os)/\
 ∀(p:Option Addr) (cap:Nat) (w:World),Calls P f #[.slice p 0 cap] w λe w'=>e= .returned (.tuple #[])/\w'=w
theorem QwJ{P:Program}{f:Nat}(hs:Qw2 P f)(zs:List Int)(hz:zs.length<4611686018427387904)(r:Bool)(v:Nat)(hfn:∃fn,P.funcs[f]? =some fn:=by exact⟨_,QcL⟩):
  FnS P f [.c (.arr 0 v 0 zs.length)] [.da r v 1 (zs.map Qar)] λr' h'=>r'= .tup []/\h'=[.da r v 1 ((zs.mergeSort λx y=>decide (x<=y)).map Qar)]:=by
 refine⟨λG ι w vs hr hv=> ?_⟩;obtain⟨v0,hvs⟩:∃v0,vs=[v0]:=by
  have:=hv.1
  match vs,this with
  |[x],_=>exact⟨x,rfl⟩
 subst hvs;have hv0:VR G w ι [.da r v 1 (zs.map Qar)] v0 (.c (.arr 0 v 0 zs.length)):=hv.2 0 _ _ rfl rfl;have none:∀p cap,v0= .slice p 0 cap->zs=[]->Calls P f [v0].toArray w λe w'=>∃v' r' G' ι' h',e= .returned v'/\(r'= .tup []/\h'=[.da r v 1 ((zs.mergeSort λx y=>decide (x<=y)).map Qar)])/\HR G' ι' h' w'/\VR G' w' ι' h' v' r'/\Ext G ι [.da r v 1 (zs.map Qar)] w G' ι' h' w':=by
  intro p cap he hz;subst he hz;refine(hs.2 p cap w).mono λe w' ⟨h1,h2⟩=> ?_
  subst h2;exact⟨_,.tup [],G,ι,_,h1,⟨rfl,by simp⟩,hr,.tup _ _ rfl (by simp),Ext.refl _ _ _ _⟩
 obtain⟨fn,hfn⟩:=hfn;refine Qea.of hfn ?_;cases Qeh hv0 with
 |arr _ _ _ _ _ blk hb ha hk hk0=>
  cases hb;cases r with
  |false=>
   obtain⟨_,h2,h3⟩:=hk0 1 _ rfl;exact none _ _ h3 (lzQ h2)
  |true=>
   obtain⟨b,o,cap,g1,g2,g3,g4,g5⟩:=hk 1 _ rfl;by_cases hz0:zs=[]
   ·have hl:zs.length=0:=by rw[hz0];rfl
    rcases g5 with g5|⟨_,_,o',g5⟩
    ·exact none _ _ (by rw[hl]at g5;exact g5) hz0
    ·exact none _ _ g5 hz0
   ·have hlen:zs.length≠0:=λh=>hz0 (lzQ h)
    have g5:=g5.resolve_right λh=>hlen h.1
    rw[Nat.zero_mul,Nat.add_zero]at g5;subst g5;obtain⟨b',o',c,t,fr,p0,p1,p2,p3,p4,p5,p6⟩:=hr.blk 0 _ rfl;rw[g1]at p1;cases p1;have cell:∀j,j<zs.length->∃y,c[o+j]? =some y/\y= .int .i64 zs[j]! :=by
     intro j hj;have he:(zs.map Qar)[j]? =some (Qar zs[j]!):=by
      rw[gtm,lgE hj,getElem!_pos zs j hj];rfl
     obtain⟨y,hy,hd⟩:=p6 j _ 0 (iD zs[j]!) he rfl;refine⟨y,by simpa using hy,?_⟩;cases hd;rfl
    have hH:Holds (Value.int .i64) w b o zs.toArray:=by
     intro j hj;have hj:j<zs.length:=by simpa using hj
     obtain⟨y,hy,hyv⟩:=cell j hj;have harr:zs.toArray[j]! =zs[j]! :=by simp
     refine⟨by rw[QbG p2,hy,hyv,harr],?_⟩;refine Qon p2 (p4 (o+j) ?_);have:=(Array.getElem?_eq_some_iff.1 hy).1;exact this
    have hbw:b<w.heap.size:=QaJ hr (QeT (k:= .da true v 1 (zs.map Qar)) g1 rfl rfl);refine(hs.1 b o cap zs w hH hbw hz).mono λe w' ⟨h1,n,os,h2⟩=> ?_
    obtain⟨k1,k2,k3⟩:=Qwv (Value.int .i64) w n b o (zs.mergeSort λx y=>decide (x<=y)).toArray os p2;rw[<-h2]at k1 k2 k3;have hq:Quiet w w':=by subst h2;exact⟨rfl,rfl,rfl,by simp[grow,putRow,mapBlock,Sort.ahead]⟩
    have hml:(zs.mergeSort λx y=>decide (x<=y)).length=zs.length:=List.length_mergeSort _;generalize hms:(zs.mergeSort λx y=>decide (x<=y))=ms at*;have hi0:ι.set 0 (b,o)=ι:=by
     have:=hr.len
     match ι,this with
     |[x],_=>simp at g1;simp[g1]
    have hpc:(putCells (Value.int .i64) o ms.toArray c).size=c.size:=by simp[putCells]
    have hkept:Kept ι (ι.set 0 (b,o)) w w' 0 (.da true v 1 (zs.map Qar)) (.da true v 1 (ms.map Qar)):=by
     refine .inr ⟨rfl,rfl,rfl,by simp[hml],by rw[hi0],λ_ b2 o2 hb2=> ?_⟩;rw[g1]at hb2;cases hb2;simp[bsize,k1,p2,hpc]
    have hle:o+(ms.map Qar).length*1<=c.size:=by
     rw[List.length_map,hml];simpa using p3
    obtain⟨q1,q2⟩:=HR.move (k:= .da true v 1 (ms.map Qar)) (b1:=b) (o1:=o) hr (l:=0) rfl g1 rfl rfl hkept k3 k2 (.inl rfl)
     ⟨b,o,_,t,fr,by rw[List.length_map,hml];rw[List.length_map]at p0;exact p0,by rw[hi0];exact g1,k1,by rw[hpc];exact hle,by rw[hpc];exact p4,λi e he=>by
      simp only[gtm,omi]at he;obtain⟨_,_,rfl⟩:=he;rfl,λi e j x he hx=>by
      have hi:=Qaa he;simp only[gtm,omi]at he;obtain⟨z,hzi,rfl⟩:=he;have hj:j=0:=by have:=Qaa hx;simpa [Qar]using this
      subst hj;simp only[Qar,List.getElem?_cons_zero,osi]at hx;subst hx;refine⟨.int .i64 z,?_,.int _ _⟩;simp only[List.length_map]at hi hle;have e:o+i*1+0=o+i:=by omega
      rw[e];simp only[putCells,Array.getElem?_mapIdx];rw[agQ (by omega),Option.map_some,if_pos (by simp;omega),show o+i-o=i by omega];have:ms.toArray[i]! =z:=by
       rw[getElem!_pos _ i (by simpa using hi)];have:=List.getElem?_eq_some_iff.1 hzi;simpa using this.2
      rw[this]⟩ hq
    rw[hi0]at q1 q2;exact⟨_,.tup [],G,ι,_,h1,⟨rfl,rfl⟩,q1,.tup _ _ rfl (by simp),q2⟩
end Go.Ab
