/-
  Merged texts, part v.
-/
import Derived.Test.YtohbofilgkdihaaDoorZu
import Derived.Shelf.Sort.Plain
import Derived.Shelf.Slices.In.SortNone
import Derived.Ground.NamesProg
import Derived.Ground.Names2Prog
import Derived.Test.YtohbofilgkdihaaDoorProg
set_option linter.all false
namespace Go.Proofs
open Go.Shelf
set_option maxRecDepth 100000
def Tryd.lays189_ren:Go.Shelf.Ren:=⟨fun|189=>25|125=>41|257=>40|128=>66|129=>67|294=>57|295=>58|296=>59|297=>60|298=>61|299=>62|216=>63|300=>64|301=>65|328=>78|329=>79|330=>80|331=>81|332=>82|215=>83|343=>88|n=>n,fun|28=>32|3=>3|46=>96|0=>0|51=>125|53=>127|4=>4|183=>117|182=>116|131=>122|5=>5|9=>9|218=>136|222=>140|228=>149|229=>150|n=>n,fun|n=>n⟩
theorem Tryd.lays189:Go.Proofs.Lays.n189 Tryd.prog Tryd.lays189_ren:={
  mixed:=by kernel_rfl
  f125:=Tryd.func41.trans (congrArg some (by kernel_rfl))
  f128:=Tryd.func66.trans (congrArg some (by kernel_rfl))
  f129:=Tryd.func67.trans (congrArg some (by kernel_rfl))
  f189:=Tryd.func25.trans (congrArg some (by kernel_rfl))
  f215:=Tryd.func83.trans (congrArg some (by kernel_rfl))
  f216:=Tryd.func63.trans (congrArg some (by kernel_rfl))
  f257:=Tryd.func40.trans (congrArg some (by kernel_rfl))
  f294:=Tryd.func57.trans (congrArg some (by kernel_rfl))
  f295:=Tryd.func58.trans (congrArg some (by kernel_rfl))
  f296:=Tryd.func59.trans (congrArg some (by kernel_rfl))
  f297:=Tryd.func60.trans (congrArg some (by kernel_rfl))
  f298:=Tryd.func61.trans (congrArg some (by kernel_rfl))
  f299:=Tryd.func62.trans (congrArg some (by kernel_rfl))
  f300:=Tryd.func64.trans (congrArg some (by kernel_rfl))
  f301:=Tryd.func65.trans (congrArg some (by kernel_rfl))
  f328:=Tryd.func78.trans (congrArg some (by kernel_rfl))
  f329:=Tryd.func79.trans (congrArg some (by kernel_rfl))
  f330:=Tryd.func80.trans (congrArg some (by kernel_rfl))
  f331:=Tryd.func81.trans (congrArg some (by kernel_rfl))
  f332:=Tryd.func82.trans (congrArg some (by kernel_rfl))
  f343:=Tryd.func88.trans (congrArg some (by kernel_rfl))
  t0:=Tryd.underlying0
  a0:=Tryd.isAgg0
  z0:=Tryd.sizeOf0
  v0:=Tryd.zeroValue0
  t3:=Tryd.underlying3
  a3:=Tryd.isAgg3
  z3:=Tryd.sizeOf3
  v3:=Tryd.zeroValue3
  t4:=Tryd.underlying4
  a4:=Tryd.isAgg4
  z4:=Tryd.sizeOf4
  v4:=Tryd.zeroValue4
  t5:=Tryd.underlying5
  a5:=Tryd.isAgg5
  z5:=Tryd.sizeOf5
  v5:=Tryd.zeroValue5
  t9:=Tryd.underlying9
  a9:=Tryd.isAgg9
  z9:=Tryd.sizeOf9
  v9:=Tryd.zeroValue9
  t28:=Tryd.underlying32
  a28:=Tryd.isAgg32
  z28:=Tryd.sizeOf32
  v28:=Tryd.zeroValue32
  t46:=Tryd.underlying96
  a46:=Tryd.isAgg96
  z46:=Tryd.sizeOf96
  v46:=Tryd.zeroValue96
  t51:=Tryd.underlying125
  a51:=Tryd.isAgg125
  z51:=Tryd.sizeOf125
  v51:=Tryd.zeroValue125
  t53:=Tryd.underlying127
  a53:=Tryd.isAgg127
  z53:=Tryd.sizeOf127
  v53:=Tryd.zeroValue127
  t131:=Tryd.underlying122
  a131:=Tryd.isAgg122
  z131:=Tryd.sizeOf122
  v131:=Tryd.zeroValue122
  t182:=Tryd.underlying116
  a182:=Tryd.isAgg116
  z182:=Tryd.sizeOf116
  v182:=Tryd.zeroValue116
  t183:=Tryd.underlying117
  a183:=Tryd.isAgg117
  z183:=Tryd.sizeOf117
  v183:=Tryd.zeroValue117
  t218:=Tryd.underlying136
  a218:=Tryd.isAgg136
  z218:=Tryd.sizeOf136
  v218:=Tryd.zeroValue136
  t222:=Tryd.underlying140
  a222:=Tryd.isAgg140
  z222:=Tryd.sizeOf140
  v222:=Tryd.zeroValue140
  t228:=Tryd.underlying149
  a228:=Tryd.isAgg149
  z228:=Tryd.sizeOf149
  v228:=Tryd.zeroValue149
  t229:=Tryd.underlying150
  a229:=Tryd.isAgg150
  z229:=Tryd.sizeOf150
  v229:=Tryd.zeroValue150}
end Go.Proofs
namespace Go.Ab
open Go.Proofs Go.Sort
theorem QsU:Qvf Tryd.prog Qc1:=⟨fun blk off cap zs w hH hb hz=>Any.slices_Sort_int Tryd.lays189 blk off cap zs w hH hb hz,fun p cap w=>Any.slices_Sort_int_none Tryd.lays189 p cap w⟩
end Go.Ab
namespace Go.Ab
open Go.Proofs
theorem QgO:∀(l:List Int) (x y:Int),Qby (l++[x,y])=if x=y then Qby (l++[x])else Qby (l++[x])++[y]
 |[],x,y=>by
  simp only[List.nil_append,Qby];split
  ·rename_i e;rw[e]
  ·rfl
 |[a],x,y=>by
  have ih:=QgO [] x y;simp only[List.nil_append]at ih;simp only[List.cons_append,List.nil_append];rw[show Qby [a,x,y]=if a=x then Qby [x,y]else a::Qby [x,y]from rfl,show Qby [a,x]=if a=x then Qby [x]else a::Qby [x]from rfl,ih];split<;>split<;>rfl
 |a::b::l,x,y=>by
  have ih:=QgO (b::l) x y;simp only[List.cons_append]at ih ⊢;rw[show Qby (a::b::(l++[x,y]))=if a=b then Qby (b::(l++[x,y]))else a::Qby (b::(l++[x,y]))from rfl,show Qby (a::b::(l++[x]))=if a=b then Qby (b::(l++[x]))else a::Qby (b::(l++[x]))from rfl,ih];split<;>split<;>rfl
theorem Qkm{zs:List Int}{k:Nat}{x y:Int}(hk:1<=k)(hx:zs[k-1]? =some x)(hy:zs[k]? =some y):Qby (zs.take (k+1))=if x=y then Qby (zs.take k)else Qby (zs.take k)++[y]:=by
 obtain⟨j,rfl⟩:∃j,k=j+1:=⟨k-1,by omega⟩;rw[Nat.add_sub_cancel]at hx;rw[Qas hy,Qas hx,List.append_assoc];exact QgO _ _ _
set_option maxHeartbeats 2000000 in
theorem Qqc(P:Program)(hP:P=Tryd.prog)(zs:List Int)(hz:zs.length<=100000000)(r:Bool)(v:Nat):
  FnS P Qcm [.c (.arr 0 v 0 zs.length)] [.da r v 1 (zs.map QaA)] fun r' h'=>∃m es',r'= .c (.arr 0 v 0 m)/\h'=[.da r v 1 es']/\es'.take m=(Qby zs).map QaA/\m<=es'.length:=by
 refine QaO (hP▸mixed) (hP▸QdR) (hP▸QdW) (nle rfl) fun Λ Λo K hK=> ?_
 clear hP;have kk:∀m es',es'.take m=(Qby zs).map QaA->m<=es'.length->K (.c (.arr 0 v 0 m)) [.da r v 1 es']:=fun m es' h1 h2=>hK _ _ ⟨m,es',rfl,rfl,h1,h2⟩
 clear hK;obtain⟨n,hn⟩:∃n,n=zs.length:=⟨_,rfl⟩;obtain⟨es,hes⟩:∃x,x=zs.map QaA:=⟨_,rfl⟩;have les:es.length=n:=by rw[hes,List.length_map,hn]
 rw[←hes,←hn];have small:n<2->Qby zs=zs:=fun h=>by
  match zs,hn with
  |[],_=>rfl
  |[x],_=>rfl
  |x::y::l,hn=>simp at hn;omega
 conv=>cbv
 repeat' first|exact gu|exact trivial|refine And.intro ?_ ?_|(intro hc;first|exact absurd hc (by decide)|(exfalso;omega)|((first|rw[wS (by omega) (by omega)]at hc|rw[Qad]at hc|skip);try (conv=>cbv)))|refine CallG.old ?_
 ·refine kk n es ?_ (by omega);rw[←les,List.take_length,small (by omega),hes]
 clear small;refine Qba n (fun(i:Int)=>[(0,.c (.arr 0 v 0 n)),(3,iA i)]) (fun _=>[.da r v 1 es]) (fun j i=>i=j+1/\j+1<=n/\Qby (zs.take (j+1))=zs.take (j+1)) 1 (Wk.ch) ⟨rfl,by omega,by cases zs<;>rfl⟩ (fun k s h=>by omega) ?_;rintro j i Q' ⟨hi,hj,hcm⟩ norm ex rt;by_cases hlt:j+1<n
 ·obtain⟨x,hx⟩:∃x,zs[j]? =some x:=⟨_,lgE (by omega)⟩;obtain⟨y,hy⟩:∃y,zs[j+1]? =some y:=⟨_,lgE (by omega)⟩;have ex1:es[j]? =some [iD x]:=by rw[hes,gtm,hx];rfl
  obtain⟨kn,hkn⟩:∃q,q=j+1:=⟨_,rfl⟩;have ey1:es[kn]? =some [iD y]:=by rw[hkn,hes,gtm,hy];rfl
  have hct:=Qkm (k:=j+1) (by omega) (by rw[Nat.add_sub_cancel];exact hx) hy
  conv=>cbv
  repeat' first|(refine ex _ _ _ ?_;(conv=>cbv))|(refine rt _ _ ?_;(conv=>cbv))|(intro(k:Nat) hk;refine(fun(hz:kn=k)=> ?_) ?_;rotate_left;omega;subst hz;(conv=>cbv))|(intro(k:Nat) hk;refine(fun(hz:j=k)=> ?_) ?_;rotate_left;omega;subst hz;(conv=>cbv))|(intro(e:List D) he;cases osj (he.symm.trans ey1);(conv=>cbv))|(intro(e:List D) he;cases osj (he.symm.trans ex1);(conv=>cbv))|exact gu|exact trivial|refine And.intro ?_ ?_|(intro hc;first|exact absurd hc (by decide)|(exfalso;omega)|((first|rw[wS (by omega) (by omega)]at hc|rw[Qad]at hc|skip);try (conv=>cbv)))|refine CallG.old ?_
  ·rename_i i0 nl hi0;have hi1:i0=kn:=by omega
   subst hi1;have rtO:=rt;clear norm ex rt;have hxy:x=y:=by omega
   rw[if_pos hxy,hcm]at hct;refine Qba n (fun(s:Int×Int×List (List D))=>[(0,.c (.arr 0 v 0 n)),(3,iA s.1),(4,.c (.arr 0 v i0 nl)),(5,iA s.2.1)]) (fun s=>[.da r v 1 s.2.2])
    (fun q s=>∃kq:Nat,s.1=kq/\s.2.1=q+1/\i0<=kq/\kq<=i0+q/\i0+q+1<=n/\s.2.2.length=n/\s.2.2.take kq=(Qby (zs.take (i0+q+1))).map QaA/\∀p,kq<=p->s.2.2[p]? =es[p]?)
    (i,1,es) (Wk.ch) ⟨i0,by simp only;omega,rfl,Nat.le_refl _,Nat.le_refl _,by omega,les,by simp only[Nat.add_zero];rw[hkn,hct,hes,List.map_take],fun _ _=>rfl⟩ (fun k s ⟨_,h⟩=>by omega) ?_
   rintro q ⟨ki,qi,bl⟩ Q2 ⟨kq,hki,hqi,h1,h2,h3,lbl,htk,hrest⟩ nrm ex rt;simp only at hki hqi lbl htk hrest;by_cases hlt2:i0+q+1<n
   ·obtain⟨a1,ha1⟩:∃a,a=i0+q+1:=⟨_,rfl⟩;obtain⟨a0,ha0⟩:∃a,a=i0+q:=⟨_,rfl⟩;obtain⟨e0,he0⟩:∃x,zs[a0]? =some x:=⟨_,lgE (by omega)⟩;obtain⟨e1,he1⟩:∃x,zs[a1]? =some x:=⟨_,lgE (by omega)⟩;have hb0:bl[a0]? =some [iD e0]:=by rw[hrest a0 (by omega),hes,gtm,he0];rfl
    have hb1:bl[a1]? =some [iD e1]:=by rw[hrest a1 (by omega),hes,gtm,he1];rfl
    obtain⟨c0,hc0⟩:∃c,bl[kq]? =some c:=⟨_,lgE (by omega)⟩;have hc2:bl[kq]? =some [iD (zs.getD kq 0)]:=by rw[hrest kq (Nat.le_refl _),hes];exact QwA zs (by omega)
    have hct2:=Qkm (zs:=zs) (k:=a1) (by omega) (by rw[show a1-1=a0 by omega];exact he0) he1;have st1:e0≠e1->(bl.set kq [iD e1]).take (kq+1)=(Qby (zs.take (a1+1))).map QaA:=fun h=>by
     rw[hct2,if_neg h,List.map_append,show zs.take a1=zs.take (i0+q+1)by rw[ha1],←htk];rw[List.take_succ_eq_append_getElem (by rw[List.length_set];omega),List.getElem_set_self,List.take_set_of_le (Nat.le_refl _)];rfl
    have st2:e0=e1->bl.take kq=(Qby (zs.take (a1+1))).map QaA:=fun h=>by
     rw[hct2,if_pos h,show zs.take a1=zs.take (i0+q+1)by rw[ha1],←htk]
    generalize zs.getD kq 0=c1 at*;clear hct hct2 hcm hc0 kk
    conv=>cbv
    repeat' first|(refine ex _ _ _ ?_;(conv=>cbv))|(refine rt _ _ ?_;(conv=>cbv))|(intro(k:Nat) hk;refine(fun(hz:a1=k)=> ?_) ?_;rotate_left;omega;subst hz;(conv=>cbv))|(intro(k:Nat) hk;refine(fun(hz:a0=k)=> ?_) ?_;rotate_left;omega;subst hz;(conv=>cbv))|(intro(k:Nat) hk;refine(fun(hz:kq=k)=> ?_) ?_;rotate_left;omega;subst hz;(conv=>cbv))|(intro(e:List D) he;cases osj (he.symm.trans hb1);(conv=>cbv))|(intro(e:List D) he;cases osj (he.symm.trans hb0);(conv=>cbv))|(intro(e:List D) he;cases osj (he.symm.trans hc2);(conv=>cbv))|exact gu|exact trivial|refine And.intro ?_ ?_|(intro hc;first|exact absurd hc (by decide)|(exfalso;omega)|((first|rw[wS (by omega) (by omega)]at hc|rw[Qad]at hc|skip);try (conv=>cbv)))|refine CallG.old ?_
    ·rename_i x hx ki' hki' qi';have hne:¬e1=e0:=by assumption
     have hx:x=bl.set kq [iD e1]:=hx;subst hx;refine nrm _ _ (ki',qi',bl.set kq [iD e1]) ⟨kq+1,by simp only;omega,by simp only;omega,by omega,by omega,by omega,by simp only[List.length_set];exact lbl,?_,fun p hp=> ?_⟩ (Wk.ch)
     ·simp only;rw[st1 (fun e=>hne e.symm),show a1+1=i0+(q+1)+1 by omega]
     ·simp only;rw[List.getElem?_set_ne (by omega)];exact hrest p (by omega)
    ·rename_i qi';have heq:e1=e0:=by assumption
     exact nrm _ _ (ki,qi',bl) ⟨kq,hki,by simp only;omega,by omega,by omega,by omega,lbl,by simp only;rw[st2 heq.symm,show a1+1=i0+(q+1)+1 by omega],hrest⟩ (Wk.ch)
   ·conv=>cbv
    repeat' first|(refine ex _ _ _ ?_;(conv=>cbv))|(refine rt _ _ ?_;(conv=>cbv))|exact gu|exact trivial|refine And.intro ?_ ?_|(intro hc;first|exact absurd hc (by decide)|(exfalso;omega)|((first|rw[wS (by omega) (by omega)]at hc|rw[Qad]at hc|skip);try (conv=>cbv)))|refine CallG.old ?_
    rename_i a2 n2 ha2 hn2 bl2 hbl2 m2;have hm2:m2=kq:=by omega
    have ha3:a2=kq:=by omega
    subst hm2;refine rtO _ _ ?_;refine kk m2 bl2 ?_ ?_
    ·rw[hbl2,ha3,List.take_append_of_le_length (by rw[List.length_take];omega),List.take_take,Nat.min_self,htk,show i0+q+1=zs.length by omega,List.take_length]
    ·rw[hbl2];simp;omega
  ·rename_i i';refine norm _ _ i' ⟨by omega,by omega,?_⟩ (Wk.ch);rw[hct,if_neg (fun e=>by rename_i h;exact h e.symm),hcm,←Qas hy]
 conv=>cbv
 repeat' first|(refine ex _ _ _ ?_;(conv=>cbv))|(refine rt _ _ ?_;(conv=>cbv))|exact gu|exact trivial|refine And.intro ?_ ?_|(intro hc;first|exact absurd hc (by decide)|(exfalso;omega)|((first|rw[wS (by omega) (by omega)]at hc|rw[Qad]at hc|skip);try (conv=>cbv)))|refine CallG.old ?_
 refine kk n es ?_ (by omega);rw[←les,List.take_length,hes];rw[show j+1=zs.length by omega,List.take_length]at hcm;rw[hcm]
theorem FnS.frzT{P:Program}{f:Nat}{args:List AV}{h:Hp}{R R':AV->Hp->Prop}(hf:FnS P f args h R)
 (ht:∀r h',R r h'->R' r h'\/∃m tl k ve n rr sz es x,h'= .am m::tl/\r= .tup [.c (.arr (k+1) ve 0 n),x]/\tl[k]? =some (.da rr ve sz es)/\QcB x=true/\R' (.tup [.c (.d (.list false sz (es.take n))),x]) (.am m::tl.set k .dead)):FnS P f args h R':=by
 refine⟨fun G ι w vs hr hv=>(hf.out G ι w vs hr hv).mono fun e w' ⟨v,r,G',ι',h',a1,a2,a3,a4,a5⟩=> ?_⟩;rcases ht r h' a2 with h1|⟨m,tl,k,ve,n,rr,sz,es,x,rfl,rfl,hk,hx,hR⟩
 ·exact⟨v,r,G',ι',h',a1,h1,a3,a4,a5⟩
 ·cases a4 with
  |tup cs _ hn hcs=>
   have h0:∃u,cs[0]? =some u:=by
    have h1:0<cs.size:=by rw[hn];simp
    exact⟨_,Array.getElem?_eq_getElem h1⟩
   obtain⟨u,hu⟩:=h0;have hc:=Qd2 (hcs 0 u _ hu rfl);have hfz:frz (.am m::tl) (.arr (k+1) ve 0 n)=some (.list false sz (es.take n),(Blk.am m::tl).set (k+1) Blk.dead):=by
    simp[frz,hk]
   obtain⟨G2,q1,q2,q3⟩:=QcZ a3 hc hfz;refine⟨.tuple cs,_,G2,ι',_,a1,hR,q1,.tup cs _ hn fun i y z hy hz=> ?_,a5.trans q3⟩
   match i,hz with
   |0,hz=>
    cases hz;rw[hu]at hy;cases hy;exact .c _ _ (.d _ _ q2)
   |1,hz=>cases hz;exact(hcs 1 y _ hy rfl).ext q3 a3
theorem QoW(P:Program)(hP:P=Tryd.prog)(t:Top)(xs:List Tab)(p:Pkt)(from_:Int)(g:Wlk)(U:List WSt)(m:Ar)(hT:Qbs m)(hU:QaH t xs from_=0->UOK P t xs p g U/\(from_,p.stack)∈U):
  FnS P Qev [Qa2 t,Qcu xs,Qdj p,iA from_] [.am m] fun r h'=>∃m',h'=[.am m']/\QhQ g m (from_,p.stack) U.length (QaH t xs from_) r m':=by
 refine FnS.gct (Qhd P hP t xs p from_ g U m hT hU) _ fun r h' hR=> ?_
 obtain⟨m',tl,rfl,h⟩:=hR;have hr:∀ρ,r=rnA ρ r/\QuE 1 r=true:=fun ρ=>by
  unfold QhQ at h;split at h
  ·split at h
   ·obtain⟨d,al,S,a,rfl,-⟩:=h;exact⟨rfl,rfl⟩
   ·obtain⟨rfl,-⟩:=h;exact⟨rfl,rfl⟩
  ·obtain⟨rfl,-⟩:=h;exact⟨rfl,rfl⟩
 refine⟨[0],r,[.am m'],⟨m',rfl,h⟩,rfl,by decide,fun l hl=>by simp at hl ⊢;omega,fun i k hk=> ?_,(hr _).1,rfl,(hr (fun i=>i)).2,by simp,fun i hi=> ?_,fun k hk=> ?_⟩
 ·match i,hk with
  |0,hk=>cases hk;rfl
  |i+1,hk=>simp at hk
 ·match i,hi with
  |0,_=>rfl
 ·simp at hk;rw[hk];intro _ _ _ h;cases h
theorem Qm9{g:Wlk}{ks:List WSt}(h:∀x∈ks,(g.ar x).length<=1000)(k:Nat):((ks.take k).flatMap g.ar).length<=1000*ks.length:=by
 have key:∀l:List WSt,(∀x∈l,(g.ar x).length<=1000)->(l.flatMap g.ar).length<=1000*l.length:=by
  intro l;induction l with
  |nil=>intro _;simp
  |cons x l ih=>
   intro h;have h1:=h x (by simp);have h2:=ih fun y hy=>h y (by simp[hy])
   rw[List.flatMap_cons,List.length_append,List.length_cons];omega
 have h1:=key (ks.take k) fun x hx=>h x (List.mem_of_mem_take hx)
 rw[List.length_take]at h1;have:min k ks.length<=ks.length:=Nat.min_le_right _ _;omega
theorem QlQ{g:Wlk}{ks:List WSt}{k:Nat}{x:WSt}(h:ks[k]? =some x):(ks.take (k+1)).flatMap g.ar=(ks.take k).flatMap g.ar++g.ar x:=by
 rw[Qas h,List.flatMap_append];simp
theorem Qun{g:Wlk}{U ks:List WSt}{n:Nat}(hm:∀x,x∈ks↔x∈U)(hr:∀x∈U,∀a∈g.ar x,0<=a/\a<(n:Int)):Qby ((ks.flatMap g.ar).mergeSort fun x y=>decide (x<=y))=Qzx g U n:=by
 have hs:((ks.flatMap g.ar).mergeSort fun x y=>decide (x<=y)).Pairwise (·<=·):=by
  have:=List.pairwise_mergeSort (le:=fun x y:Int=>decide (x<=y)) (fun a b c h1 h2=>by simp at *;omega) (fun a b=>by simp;omega) (ks.flatMap g.ar);exact this.imp fun h=>by simpa using h
 refine QpO (Qha _ hs) ?_ fun z=> ?_
 ·refine List.Pairwise.filter _ ?_;rw[List.pairwise_map];exact List.pairwise_lt_range.imp fun h=>by omega
 ·rw[Qjn,List.mem_mergeSort,List.mem_flatMap,Qzx,List.mem_filter,List.any_eq_true,List.mem_map];constructor
  ·rintro⟨x,hx,hz⟩;have h1:=(hm x).1 hx;have h2:=hr x h1 z hz;exact⟨⟨z.toNat,List.mem_range.2 (by omega),by omega⟩,x,h1,by simpa using hz⟩
  ·rintro⟨-,x,hx,hz⟩;exact⟨x,(hm x).2 hx,by simpa using hz⟩
theorem Qxs(P:Program)(hP:P=Tryd.prog)(t:Top)(xs:List Tab)(p:Pkt)(from_:Int)(g:Wlk)(U:List WSt)(m:Ar)(hT:Qbs m)(hU:QaH t xs from_=0->UOK P t xs p g U/\Expl g.nx (from_,p.stack) U)(hr:QaH t xs from_=0->∀x∈U,∀a∈g.ar x,0<=a/\a<QbC t):
  FnS P QdK [Qa2 t,Qcu xs,Qdj p,iA from_] [.am m] fun r h'=>∃m' tl,h'= .am m'::tl/\Qbs m'/\r= .tup [QaT (Qvw t g U (from_,p.stack) (QaH t xs from_)).1,iA (Qvw t g U (from_,p.stack) (QaH t xs from_)).2]:=by
 have hsr:=QoW P hP t xs p from_ g U m hT fun h=>⟨(hU h).1,(hU h).2.st⟩
 have hso:=fun zs hz r v=>QuU (P:=P) (hP▸QsU) zs hz r v (hP▸⟨_,QcC⟩)
 have hcm:=fun zs hz r v=>Qqc P hP zs hz r v
 generalize hL1:(Qvw t g U (from_,p.stack) (QaH t xs from_)).1=L1 at*;generalize hE2:(Qvw t g U (from_,p.stack) (QaH t xs from_)).2=E2 at*;refine FnS.thawP (R:=fun r h'=>∃m' tl d,h'= .am m'::tl/\Qbs m'/\r= .tup [.c (.d d),iA E2]/\(d= .list false 1 (L1.map QaA)\/(d= .list true 1 []/\L1=[]))) ?_ ?_
 rotate_left
 ·rintro r h' ⟨m',tl,d,rfl,hT',rfl,hd⟩;refine⟨m',tl,d,iA E2,am0,m',.list false 1 (L1.map QaA),rfl,fun b x h=>(by cases h),fun b x h=>h,rfl,rfl,?_,m',tl,rfl,hT',rfl⟩;rcases hd with rfl|⟨rfl,rfl⟩
  ·exact .same _
  ·exact .fg _
 refine FnS.frzT (R:=fun r h'=>(∃m' tl,h'= .am m'::tl/\Qbs m'/\r= .tup [.c (.d (.list true 1 [])),iA E2]/\L1=[])\/
  ∃m' tl ve n rr es,h'= .am m'::tl/\Qbs m'/\r= .tup [.c (.arr 3 ve 0 n),iA E2]/\tl[2]? =some (.da rr ve 1 es)/\es.take n=L1.map QaA) ?_ ?_
 rotate_left
 ·rintro r h' (⟨m',tl,rfl,hT',rfl,h1⟩|⟨m',tl,ve,n,rr,es,rfl,hT',rfl,h1,h2⟩)
  ·exact .inl ⟨m',tl,_,rfl,hT',rfl,.inr ⟨rfl,h1⟩⟩
  ·exact .inr ⟨m',tl,2,ve,n,rr,1,es,iA E2,rfl,rfl,h1,rfl,m',_,_,rfl,hT',rfl,.inl (by rw[h2])⟩
 refine QaO (hP▸mixed) (hP▸QlG) (hP▸QmD) (nle rfl) fun Λ Λo Q hQ=> ?_
 clear hP;have htab:¬New m (.list true 1 []) 0:=fun e=>by
  rcases e with e|e
  ·rw[Qbs]at hT;rw[hT]at e;cases e
  ·exact Qa3 e
 by_cases h0:QaH t xs from_=0
 ·obtain⟨hUK,hE⟩:=hU h0;have hr:=hr h0;rw[h0]at hsr hL1 hE2;simp only[QhQ,if_true]at hsr;cases hd:dfs g.nx U.length [] (from_,p.stack)with
  |some K=>
   rw[hd]at hsr;simp only[Qvw,hd,if_true]at hL1 hE2;obtain⟨hnd,hmem,-,hdn,r0,hr0⟩:=QkG hE hd;have hpl:=fun{m':Ar} {al:List Nat} {S:Nat->Prop} {d:D} (hI:PI g m' K al S d)=>QvD hI hdn hnd fun e=>by rw[e]at hr0;cases hr0
   have hKl:(K.map (·.1)).length<=1000:=by
    have:=hnd.length_le_of_subset fun x hx=>(hmem x).1 hx
    have:=hUK.len;omega
   have hgl:∀x∈K.map (·.1),(g.ar x).length<=1000:=fun x hx=>by
    obtain⟨_,_,_,h⟩:=hUK.st x ((hmem x).1 hx);exact h.len
   have hfl:=Qm9 hgl;have hcomp:Qby ((((K.map (·.1)).flatMap g.ar)).mergeSort fun x y=>decide (x<=y))=L1:=by
    rw[←hL1];have ha:=(QdF t).2.2;exact Qun hmem fun x hx a h=>by have:=hr x hx a h;omega
   clear hdn hnd hr0 hmem hE hUK hd hU;generalize K.map (·.1)=ks at*;generalize (from_,p.stack)=st at*;subst hE2;have hfs:=fun{k:Nat} {x:WSt}=> @QlQ g ks k x
   have hend:=fun m' tl ve n rr es h1 h2 h3=>hQ (.tup [.c (.arr 3 ve 0 n),iA 0]) (.am m'::tl) (.inr ⟨m',tl,ve,n,rr,es,rfl,h1,rfl,h2,h3⟩)
   clear hQ hL1 hr;obtain⟨id,src,dst,flow,st0,hops⟩:=p;simp only[Qa2,Qcu,Qdj,Qbn,Qaf,Qak]at hsr ⊢;generalize hxl:List.map Qar xs=xl at*;generalize hol:t.ov.map QbA=ol at*;generalize hll:t.links.map QaL=ll at*;generalize htn:t.nodes=nodes at*;generalize List.map Qal st0=sl at*;obtain⟨cn,hcn⟩:∃z:Int,z=(ks.length:Int):=⟨_,rfl⟩
   conv=>cbv
   repeat' first|(left;intro(_:Unit);(conv=>cbv))|(refine QaI [0] hsr rfl rfl (by decide) (by repeat' first|exact trivial|refine And.intro ?_ ?_|rfl) rfl rfl ?_;rintro r hc' ⟨m',rfl,d3,al3,S3,a,rfl,p3,hab,f3⟩;have hT3:Qbs m':=((f3.same _ htab).trans hT);obtain⟨bn,cap,rfl,hpr⟩:=hpl p3;generalize hn:ks.length=n at *;(conv=>cbv))|(intro(c:Int) hc;refine(fun(hz:cn=c)=> ?_) (by rw[hc,Qad];omega);subst hz;(conv=>cbv))|exact gu|exact trivial|refine And.intro ?_ ?_|(intro hc;first|exact absurd hc (by decide)|(exfalso;omega)|((first|rw[wS (by omega) (by omega)]at hc|rw[Qad]at hc|skip);try (conv=>cbv)))|refine CallG.old ?_
   obtain⟨Nr,rx,hrow,hrat⟩:=hpr.at_;refine QcQ n (fun(s:Int×Nat×Nat×Bool×List (List D))=>[(13,.c (.arr 3 s.2.1 0 s.2.2.1)),(28,.c (.d (.sl bn 0 1 n cap))),(29,iA cn),(30,iA s.1)])
    (fun s=>[.am m',.bx [.d (iD nodes),.d (.list false 1 ol),.d (.list false 7 ll)],.bx [.d (iD id),.d (iD src),.d (iD dst),.d (iD flow),.d (.list false 2 sl),.d (iD hops)],.da s.2.2.2.1 s.2.1 1 s.2.2.2.2])
    (fun k s=>s.1=k/\k<=n/\s.2.2.1=s.2.2.2.2.length/\s.2.2.2.2=((ks.take k).flatMap g.ar).map QaA) (0,0,0,false,[])
    0 (fun(s:Nat×Bool×Nat)=>[(13,.c (.arr 3 s.1 0 s.2.2))])
    (fun s=>[.am m',.bx [.d (iD nodes),.d (.list false 1 ol),.d (.list false 7 ll)],.bx [.d (iD id),.d (iD src),.d (iD dst),.d (iD flow),.d (.list false 2 sl),.d (iD hops)],.da s.2.1 s.1 1 ((ks.flatMap g.ar).map QaA)]) (fun s=>s.2.2=(ks.flatMap g.ar).length)
    (.trans (.nilS 13 1 rfl) (Wk.ca)) ⟨rfl,by omega,rfl,rfl⟩ (fun k s h=>h.2.1) ?_ ?_
   ·rintro kk ⟨i,ve,mm,rb,es⟩ Q' ⟨hi,hk,hm,hes⟩ norm jn ex rt;simp only at hi hm hes;by_cases hlt:kk<n
    ·obtain⟨x,hx⟩:∃x,ks[kk]? =some x:=⟨_,lgE (by omega)⟩;obtain⟨a1,Na,nx,c,hxa,hpa⟩:=hrat kk x hx;simp only[plD]at hpa;have hgx:=hgl x (mgE hx);have hnew:((ks.take (kk+1)).flatMap g.ar).map QaA=es++(g.ar x).map QaA:=by rw[hfs hx,List.map_append,hes]
     have hml:mm<=1000000:=by
      have:=hfl kk;rw[hm,hes,List.length_map];omega
     have hal:((g.ar x).map QaA).length<=1000:=by rw[List.length_map];exact hgx
     clear hso hcm hend hcomp hfs hrat hpl hsr jn;generalize (g.ar x).map QaA=arl at*;obtain⟨ye,hye⟩:∃z,z=es++arl:=⟨_,rfl⟩;obtain⟨m1,hm1⟩:∃z,z=mm+arl.length:=⟨_,rfl⟩;obtain⟨i1,hi1⟩:∃z:Int,z=((kk+1:Nat):Int):=⟨_,rfl⟩
     conv=>cbv
     repeat' first|(intro(k:Nat) hk;refine(fun(hz:kk=k)=> ?_) ?_;rotate_left;omega;subst hz;(conv=>cbv))|(refine⟨Nr,_,_,hrow,hxa,?_⟩;(conv=>cbv))|(refine⟨Na,_,_,hpa,rfl,?_⟩;(conv=>cbv))|(intro(m:Nat) (r:Bool) (y:List (List D)) hm hr hy;refine(fun(hz:m1=m) (hz2:ye=y)=> ?_) (by first|omega|(simp only[List.length_cons,List.length_nil]at hm;omega)) (by first|(rw[hy,List.drop_zero,List.take_of_length_le (by omega)];exact hye)|(rw[hy];exact hye));subst hz;subst hz2;(conv=>cbv))|(intro(k:Int) hk;rw[wS (by omega) (by omega)]at hk;refine(fun(hz:i1=k)=> ?_) ?_;rotate_left;omega;subst hz;(conv=>cbv))|exact gu|exact trivial|refine And.intro ?_ ?_|(intro hc;first|exact absurd hc (by decide)|(exfalso;omega)|((first|rw[wS (by omega) (by omega)]at hc|rw[Qad]at hc|skip);try (conv=>cbv)))|refine CallG.old ?_
     refine norm _ _ (_,_,_,_,_) ?_ (Wk.ca);exact⟨hi1,by omega,by simp only;rw[hye,List.length_append];omega,by simp only;rw[hye,hnew]⟩
    ·obtain rfl:n=kk:=by omega
     rw[List.take_of_length_le (by omega)]at hes;have hmz:mm=(ks.flatMap g.ar).length:=by rw[hm,hes,List.length_map]
     subst hes;clear hso hcm hend hcomp hfs hrat hpl hsr norm;generalize (ks.flatMap g.ar).length=zl at*;generalize (ks.flatMap g.ar).map QaA=zsl at*
     conv=>cbv
     repeat' first|exact gu|exact trivial|refine And.intro ?_ ?_|(intro hc;first|exact absurd hc (by decide)|(exfalso;omega)|((first|rw[wS (by omega) (by omega)]at hc|rw[Qad]at hc|skip);try (conv=>cbv)))|refine CallG.old ?_
     refine jn _ _ (_,_,_) ?_ (Wk.ca);exact hmz
   ·rintro⟨ve,rb,mm⟩ hm;simp only at hm;have hzl:(ks.flatMap g.ar).length<=1000000:=by
     have:=hfl ks.length;rw[List.take_of_length_le (Nat.le_refl _)]at this;omega
    clear hfl hfs hrat hpl hsr;generalize ks.flatMap g.ar=zs at*;have hso:=hso zs (by omega) rb ve;have hcm:=hcm (zs.mergeSort fun x y=>decide (x<=y)) (by rw[List.length_mergeSort];omega) rb ve;rw[List.length_mergeSort,hcomp]at hcm;rw[←hm]at hso hcm;generalize zs.map QaA=zsl at*;generalize (zs.mergeSort fun x y=>decide (x<=y)).map QaA=zso at*
    conv=>cbv
    repeat' first|(refine QaI [3] hso rfl rfl (by decide) (by repeat' first|exact trivial|refine And.intro ?_ ?_|rfl) rfl rfl ?_;rintro r hc' ⟨rfl,rfl⟩;(conv=>cbv))|(refine QaI [3] hcm rfl rfl (by decide) (by repeat' first|exact trivial|refine And.intro ?_ ?_|rfl) rfl rfl ?_;rintro r hc' ⟨m2,es2,rfl,rfl,hes2,hle2⟩;have hfin:=fun tl h=>hend m' tl ve m2 rb es2 hT3 h hes2;(conv=>cbv))|exact hfin _ rfl|exact gu|exact trivial|refine And.intro ?_ ?_|(intro hc;first|exact absurd hc (by decide)|(exfalso;omega)|((first|rw[wS (by omega) (by omega)]at hc|rw[Qad]at hc|skip);try (conv=>cbv)))|refine CallG.old ?_
  |none=>
   rw[hd]at hsr;simp only[Qvw,hd,if_true]at hL1 hE2;have fin:=fun m' tl (h1:Qbs m')=>hQ (.tup [.c (.d (.list true 1 [])),iA 16]) (.am m'::tl) (.inl ⟨m',tl,rfl,h1,by rw[hE2],hL1.symm⟩)
   clear hU hE hQ hso hcm;generalize (from_,p.stack)=st at*;obtain⟨id,src,dst,flow,st0,hops⟩:=p;simp only[Qa2,Qcu,Qdj,Qbn,Qaf,Qak]at hsr ⊢;generalize hxl:List.map Qar xs=xl at*;generalize hol:t.ov.map QbA=ol at*;generalize hll:t.links.map QaL=ll at*;generalize htn:t.nodes=nodes at*;generalize List.map Qal st0=sl at*
   conv=>cbv
   repeat' first|(left;intro(_:Unit);(conv=>cbv))|(refine QaI [0] hsr rfl rfl (by decide) (by repeat' first|exact trivial|refine And.intro ?_ ?_|rfl) rfl rfl ?_;rintro r hc' ⟨m',rfl,rfl,d3,f3⟩;have hfin:=fun tl=>fin m' tl ((f3.same _ htab).trans hT);(conv=>cbv))|exact hfin _|exact gu|exact trivial|refine And.intro ?_ ?_|(intro hc;first|exact absurd hc (by decide)|(exfalso;omega)|((first|rw[wS (by omega) (by omega)]at hc|rw[Qad]at hc|skip);try (conv=>cbv)))|refine CallG.old ?_
 ·simp only[QhQ,if_neg h0]at hsr;simp only[Qvw,if_neg h0]at hL1 hE2;have fin:=fun tl=>hQ (.tup [.c (.d (.list true 1 [])),iA E2]) (.am m::tl) (.inl ⟨m,tl,rfl,hT,rfl,hL1.symm⟩)
  rw[hE2]at hsr;clear hU hQ hso hcm;have h0:E2≠0:=by rw[←hE2];exact h0
  obtain⟨id,src,dst,flow,st0,hops⟩:=p;simp only[Qa2,Qcu,Qdj,Qbn,Qaf,Qak]at hsr ⊢;generalize hxl:List.map Qar xs=xl at*;generalize hol:t.ov.map QbA=ol at*;generalize hll:t.links.map QaL=ll at*;generalize htn:t.nodes=nodes at*;generalize List.map Qal st0=sl at*
  conv=>cbv
  repeat' first|(left;intro(_:Unit);(conv=>cbv))|(refine QaI [0] hsr rfl rfl (by decide) (by repeat' first|exact trivial|refine And.intro ?_ ?_|rfl) rfl rfl ?_;rintro r hc' ⟨m',rfl,rfl,rfl⟩;(conv=>cbv))|exact fin _|exact gu|exact trivial|refine And.intro ?_ ?_|(intro hc;first|exact absurd hc (by decide)|(exfalso;omega)|((first|rw[wS (by omega) (by omega)]at hc|rw[Qad]at hc|skip);try (conv=>cbv)))|refine CallG.old ?_
noncomputable def Qbd(t:Top)(down:List Bool)(k:Nat):List Tab:=(List.range k).map fun(n:Nat)=>(QbS t down (n:Int)).1
noncomputable def Qiw(t:Top)(down:List Bool):List Tab×Int:=if Qa9 t down=true then (Qbd t down t.nodes.toNat,0)else ([],1)
theorem QqS(t:Top)(down:List Bool)(k:Nat):Qbd t down (k+1)=Qbd t down k++[(QbS t down (k:Int)).1]:=by
 rw[Qbd,List.range_succ,List.map_append];rfl
theorem QsB(P:Program)(hP:P=Tryd.prog)(t:Top)(down:List Bool):Ret P Qdt [Qa2 t,QaY down] (.tup [Qcu (Qiw t down).1,iA (Qiw t down).2]):=by
 have hft:=Qi2 P hP t down;have hro:=fun n=>QsL P hP t down n
 have hv:Qa9 t down=true->t.nodes<=64/\0<=t.nodes:=fun h=>by
  have h1:Qao t=true:=by
   simp only[Qa9,Bool.and_eq_true]at h;exact h.1
  have:=(Qai.1 h1).1;omega
 refine Qag (hP▸mixed) (hP▸Qhj) (hP▸QiK) (nle rfl) fun Λ Λo K hK=> ?_
 clear hP;have kF:Qa9 t down=false->K (.tup [.c (.d (.list false 3 [])),iA 1]):=fun h=>by
  rw[Qiw,if_neg (by rw[h];simp)]at hK;exact hK
 have kT:Qa9 t down=true->K (.tup [.c (.d (.list false 3 ((Qbd t down t.nodes.toNat).map Qar))),iA 0]):=fun h=>by
  rw[Qiw,if_pos h]at hK;exact hK
 clear hK;have hsc:=QqS t down;have hl0:Qbd t down 0=[]:=rfl;generalize Qbd t down=lk at*;generalize Qa9 t down=fb at*;cases fb with
 |false=>
  have kF:=kF rfl;simp only[Qa2,QaY,Qaf,Qak]at hft ⊢;generalize List.map QbA down=dl at*;generalize List.map QbA t.ov=ol at*;generalize List.map QaL t.links=ll at*
  conv=>cbv
  repeat' first|(refine Qaj hft rfl rfl ?_;conv=>cbv)|exact kF|exact gu|exact trivial|refine And.intro ?_ ?_|(intro hc;first|exact absurd hc (by decide)|(exfalso;omega)|((first|rw[wS (by omega) (by omega)]at hc|rw[Qad]at hc|skip);try (conv=>cbv)))|refine CallG.old ?_
 |true=>
  have kTT:=kT rfl;clear kT;obtain⟨hv1,hv0⟩:=hv rfl;clear hv kF;obtain⟨nodes,ov,links⟩:=t;simp only[Qa2,QaY,Qaf,Qak]at*;generalize hdl:List.map QbA down=dl at*;generalize hol:List.map QbA ov=ol at*;generalize hll:List.map QaL links=ll at*
  conv=>cbv
  repeat' first|(refine Qaj hft rfl rfl ?_;conv=>cbv)|exact gu|exact trivial|refine And.intro ?_ ?_|(intro hc;first|exact absurd hc (by decide)|(exfalso;omega)|((first|rw[wS (by omega) (by omega)]at hc|rw[Qad]at hc|skip);try (conv=>cbv)))|refine CallG.old ?_
  refine QcQ nodes.toNat (fun(s:Int×Nat×Nat×Bool×List (List D))=>[(1,.c (.d (.list false 1 dl))),(2,.c (.ptr 0 0 0 0)),(6,.c (.arr 1 s.2.1 0 s.2.2.1)),(7,iA s.1)])
   (fun s=>[.bx [.d (iD nodes),.d (.list false 1 ol),.d (.list false 7 ll)],.da s.2.2.2.1 s.2.1 3 s.2.2.2.2])
   (fun k s=>s.1=k/\k<=nodes.toNat/\s.2.2.1=k/\s.2.2.2.2.length=k/\s.2.2.2.2=(lk k).map Qar) (0,0,0,false,[])
   0 (fun(s:Nat×Bool×Nat)=>[(6,.c (.arr 1 s.1 0 s.2.2))])
   (fun s=>[.bx [.d (iD nodes),.d (.list false 1 ol),.d (.list false 7 ll)],.da s.2.1 s.1 3 ((lk nodes.toNat).map Qar)]) (fun s=>s.2.2=((lk nodes.toNat).map Qar).length)
   (.trans (.nilS 6 3 rfl) (Wk.cw)) ⟨rfl,by omega,rfl,rfl,by rw[hl0];rfl⟩ (fun k s h=>h.2.1) ?_ ?_
  ·rintro kk ⟨d,ve,m,rb,es⟩ Q' ⟨hi,hk,hm,hel,hes⟩ norm jn ex rt;simp only at hi hm hel hes;by_cases hlt:kk<nodes.toNat
   ·have hrk:=hro d;have hsk:=hsc kk;rw[←hi]at hsk;have hnew:(lk (kk+1)).map Qar=es++[Qar (QbS ⟨nodes,ov,links⟩ down d).1]:=by rw[hsk,List.map_append,hes];rfl
    clear hft hro kTT jn hsc hsk;generalize (QbS ⟨nodes,ov,links⟩ down d).2=er at*;generalize (QbS ⟨nodes,ov,links⟩ down d).1=tb at*;obtain⟨tn,tt,td⟩:=tb;simp only[QqR,Qar,Qh1,QaU]at hrk hnew;generalize List.map QaG tt=ttl at*;generalize List.map QaA td=tdl at*;obtain⟨ye,hye⟩:∃z,z=es++[[iD tn,.list false 3 ttl,.list false 1 tdl]]:=⟨_,rfl⟩;obtain⟨m1,hm1⟩:∃z,z=m+1:=⟨_,rfl⟩;obtain⟨i1,hi1⟩:∃z:Int,z=((kk+1:Nat):Int):=⟨_,rfl⟩
    conv=>cbv
    repeat' first|(refine Qaj hrk rfl rfl ?_;conv=>cbv)|(intro(m:Nat) (r:Bool) (y:List (List D)) hm hr hy;refine(fun(hz:m1=m) (hz2:ye=y)=> ?_) (by first|omega|(simp only[List.length_cons,List.length_nil]at hm;omega)) (by first|(rw[hy,List.drop_zero,List.take_of_length_le (by omega)];exact hye)|(rw[hy];exact hye));subst hz;subst hz2;(conv=>cbv))|(intro(k:Int) hk;rw[wS (by omega) (by omega)]at hk;refine(fun(hz:i1=k)=> ?_) ?_;rotate_left;omega;subst hz;(conv=>cbv))|exact gu|exact trivial|refine And.intro ?_ ?_|(intro hc;first|exact absurd hc (by decide)|(exfalso;omega)|((first|rw[wS (by omega) (by omega)]at hc|rw[Qad]at hc|skip);try (conv=>cbv)))|refine CallG.old ?_
    refine norm _ _ (_,_,_,_,_) ?_ (Wk.cw);exact⟨hi1,by omega,by simp only;omega,by simp only;rw[hye,List.length_append];simp;omega,by simp only;rw[hye];exact hnew.symm⟩
   ·obtain rfl:kk=nodes.toNat:=by omega
    rw[hes]at hel;clear hft hro kTT norm hsc hl0;subst hes;generalize (lk nodes.toNat).map Qar=zl at*;have hmz:m=zl.length:=by omega
    conv=>cbv
    repeat' first|exact gu|exact trivial|refine And.intro ?_ ?_|(intro hc;first|exact absurd hc (by decide)|(exfalso;omega)|((first|rw[wS (by omega) (by omega)]at hc|rw[Qad]at hc|skip);try (conv=>cbv)))|refine CallG.old ?_
    refine jn _ _ (_,_,_) ?_ (Wk.cw);exact hmz
  ·rintro⟨ve,rb,m⟩ hm;simp only at hm;clear hft hro hsc hl0;generalize (lk nodes.toNat).map Qar=zl at*
   conv=>cbv
   repeat' first|exact gu|exact trivial|refine And.intro ?_ ?_|(intro hc;first|exact absurd hc (by decide)|(exfalso;omega)|((first|rw[wS (by omega) (by omega)]at hc|rw[Qad]at hc|skip);try (conv=>cbv)))|refine CallG.old ?_
   all_goals (refine(fun(hz:_=zl)=> ?_) (hc.trans (by rw[List.drop_zero,List.take_of_length_le (by omega)]));rw[hz];exact kTT)
def rgX:List Tab:=[⟨0,[⟨[],false,[]⟩,⟨[0],false,[]⟩,⟨[0,7],false,[]⟩,⟨[7],false,[]⟩],[]⟩,⟨1,[⟨[1],false,[]⟩,⟨[],false,[]⟩,⟨[2],false,[]⟩,⟨[1,2],false,[]⟩],[]⟩,
 ⟨2,[⟨[3,4],false,[]⟩,⟨[3],false,[]⟩,⟨[],false,[]⟩,⟨[4],false,[]⟩],[]⟩,⟨3,[⟨[6],false,[]⟩,⟨[5,6],false,[]⟩,⟨[5],false,[]⟩,⟨[],false,[]⟩],[]⟩]
def rgY:List Tab:=[⟨0,[⟨[],false,[]⟩,⟨[0],false,[]⟩,⟨[0,7],false,[]⟩,⟨[7],false,[]⟩],[]⟩,⟨1,[⟨[1],false,[]⟩,⟨[],false,[]⟩,⟨[1],false,[]⟩,⟨[1,2],false,[]⟩],[]⟩,
 ⟨2,[⟨[3,4],false,[]⟩,⟨[3],false,[]⟩,⟨[],false,[]⟩,⟨[4],false,[]⟩],[]⟩,⟨3,[⟨[6],false,[]⟩,⟨[5,6],false,[]⟩,⟨[5],false,[]⟩,⟨[],false,[]⟩],[]⟩]
def rgP:Pkt:=⟨0,0,2,0,[],0⟩
def rgU:List WSt:=[(0,[]),(1,[]),(3,[]),(2,[])]
theorem Ql2{n d:Int}{D l:List Int}(hd:Qat QaC [] d false=D)(h0:0<=d/\d<QaC.nodes)(hn:0<=n/\n<QaC.nodes)(h:QbF QaC [] D n d=l):Qg6 QaC [] n d=(l,0):=by
 rw[Qg6,if_pos (by decide),if_pos h0,if_pos hn,hd,h]
theorem QuI{n:Int}{l0 l1 l2 l3:List Int}(hn:0<=n/\n<QaC.nodes)(h0:QbF QaC [] [0,1,2,1] n 0=l0)(h1:QbF QaC [] [1,0,1,2] n 1=l1)(h2:QbF QaC [] [2,1,0,1] n 2=l2)(h3:QbF QaC [] [1,2,1,0] n 3=l3)(hd:Qj5 QaC [] n=[]):
  (QbS QaC [] n).1=⟨n,[⟨l0,false,[]⟩,⟨l1,false,[]⟩,⟨l2,false,[]⟩,⟨l3,false,[]⟩],[]⟩:=by
 have n0:=Ql2 QwV (by decide) hn h0;have n1:=Ql2 QwW (by decide) hn h1;have n2:=Ql2 QwX (by decide) hn h2;have n3:=Ql2 QwY (by decide) hn h3;rw[QbS,if_pos (by decide),if_pos hn];have e1:toL QaC [] n QaC.nodes.toNat=[⟨l0,false,[]⟩,⟨l1,false,[]⟩,⟨l2,false,[]⟩,⟨l3,false,[]⟩]:=by
  show(QaK 4).map _=_;rw[show QaK 4=[0,1,2,3]by decide];simp only[List.map_cons,List.map_nil,n0,n1,n2,n3]
 rw[e1,hd]
theorem QyE:Qiw QaC []=(rgX,0):=by
 rw[Qiw,if_pos (by decide)];have:Qbd QaC [] QaC.nodes.toNat=rgX:=by
  show(List.range 4).map _=_;rw[show List.range 4=[0,1,2,3]by decide];simp only[List.map_cons,List.map_nil];rw[QuI (n:=((0:Nat):Int)) (by decide) (l0:=[]) (l1:=[0]) (l2:=[0,7]) (l3:=[7]) (by decide) (by decide) (by decide) (by decide) (by decide),
   QuI (n:=((1:Nat):Int)) (by decide) (l0:=[1]) (l1:=[]) (l2:=[2]) (l3:=[1,2]) (by decide) (by decide) (by decide) (by decide) (by decide),
   QuI (n:=((2:Nat):Int)) (by decide) (l0:=[3,4]) (l1:=[3]) (l2:=[]) (l3:=[4]) (by decide) (by decide) (by decide) (by decide) (by decide),
   QuI (n:=((3:Nat):Int)) (by decide) (l0:=[6]) (l1:=[5,6]) (l2:=[5]) (l3:=[]) (by decide) (by decide) (by decide) (by decide) (by decide)]
  rfl
 rw[this]
theorem QwS:QaH QaC rgX 0=0/\QaH QaC rgY 0=0:=by decide
theorem QyF:Qgh QaC rgX=true/\Qgh QaC rgY=true:=by decide
theorem QyI:TbI rgX/\TbI rgY:=by
 constructor<;>(refine⟨?_⟩;decide)
theorem QzG:(gW QaC rgX rgP).nx (0,[])=[(1,[]),(3,[])]/\(gW QaC rgX rgP).nx (1,[])=[(2,[])]/\(gW QaC rgX rgP).nx (3,[])=[(2,[])]/\(gW QaC rgX rgP).nx (2,[])=[]:=by
 decide
theorem QzH:(gW QaC rgY rgP).nx (0,[])=[(1,[]),(3,[])]/\(gW QaC rgY rgP).nx (1,[])=[(0,[])]/\(gW QaC rgY rgP).nx (3,[])=[(2,[])]/\(gW QaC rgY rgP).nx (2,[])=[]:=by
 decide
theorem QyG:Expl (gW QaC rgX rgP).nx (0,[]) rgU:=by
 obtain⟨h0,h1,h2,h3⟩:=QzG;refine⟨⟨_,rfl⟩,by decide,fun x hx y hy=> ?_,fun W h hc x hx=> ?_⟩
 ·simp only[rgU,List.mem_cons,List.not_mem_nil,or_false]at hx ⊢;rcases hx with rfl|rfl|rfl|rfl
  ·rw[h0]at hy;simp at hy;rcases hy with rfl|rfl<;>simp
  ·rw[h1]at hy;simp at hy;subst hy;simp
  ·rw[h2]at hy;simp at hy;subst hy;simp
  ·rw[h3]at hy;cases hy
 ·have w1:=hc _ h (1,[]) (by rw[h0];simp);have w3:=hc _ h (3,[]) (by rw[h0];simp);have w2:=hc _ w1 (2,[]) (by rw[h1];simp);simp only[rgU,List.mem_cons,List.not_mem_nil,or_false]at hx;rcases hx with rfl|rfl|rfl|rfl
  ·exact h
  ·exact w1
  ·exact w3
  ·exact w2
theorem QyH:Expl (gW QaC rgY rgP).nx (0,[]) rgU:=by
 obtain⟨h0,h1,h2,h3⟩:=QzH;refine⟨⟨_,rfl⟩,by decide,fun x hx y hy=> ?_,fun W h hc x hx=> ?_⟩
 ·simp only[rgU,List.mem_cons,List.not_mem_nil,or_false]at hx ⊢;rcases hx with rfl|rfl|rfl|rfl
  ·rw[h0]at hy;simp at hy;rcases hy with rfl|rfl<;>simp
  ·rw[h1]at hy;simp at hy;subst hy;simp
  ·rw[h2]at hy;simp at hy;subst hy;simp
  ·rw[h3]at hy;cases hy
 ·have w1:=hc _ h (1,[]) (by rw[h0];simp);have w3:=hc _ h (3,[]) (by rw[h0];simp);have w2:=hc _ w3 (2,[]) (by rw[h2];simp);simp only[rgU,List.mem_cons,List.not_mem_nil,or_false]at hx;rcases hx with rfl|rfl|rfl|rfl
  ·exact h
  ·exact w1
  ·exact w3
  ·exact w2
theorem QwQ:QjV (gW QaC rgX rgP) rgU.length (0,[]) 0=([⟨2,-1,[0,2]⟩,⟨2,-1,[7,5]⟩],0):=by
 decide
theorem QwR:Qvk (gW QaC rgX rgP) rgU (0,[]) 0=(true,0):=by decide
theorem QwT:Qvw QaC (gW QaC rgY rgP) rgU (0,[]) 0=([],16):=by decide
theorem QwU{P:Program}(hP:P=Tryd.prog):UOK P QaC rgX rgP (gW QaC rgX rgP) rgU/\UOK P QaC rgY rgP (gW QaC rgY rgP) rgU:=
  ⟨Qs5 hP QyF.1 QyI.1 (s0:=(0,[])) ⟨by decide,by decide,by decide,fun s hs=>by cases hs⟩ QyG (by decide),
   Qs5 hP QyF.2 QyI.2 (s0:=(0,[])) ⟨by decide,by decide,by decide,fun s hs=>by cases hs⟩ QyH (by decide)⟩
def Qkp:Nat->Code->Bool
 |0,_=>true
 |n+1,.seq _ b=>Qkp n b
 |_+1,_=>false
def Qe6:Nat->Code->Code
 |0,c=>c
 |n+1,.seq _ b=>Qe6 n b
 |_+1,c=>c
def Qia:Nat->AC->AC
 |0,c=>c
 |n+1,.seq _ b=>Qia n b
 |_+1,c=>c
def Qy5(P:Program)(Λ:Len)(m:Nat):Nat->AC->Lv->Hp->(Lv->Hp->Prop)->Prop
 |0,_,L,h,K=>K L h
 |n+1,.seq a b,L,h,K=>vcC P Λ m a L h fun e L' h'=>match e with
  | .normal=>Qy5 P Λ m n b L' h' K
  |_=>False
 |_+1,_,_,_,_=>False
theorem QtI{P:Program}{N:Nat}{G0:Nat->Prop}{ι0:Io}{h0:Hp}{w0:World}{Λ:Len}(hΛ:∀l,Λ l=(l.length:Int)){m:Nat}(hm:P.follows .mixedOrders=true)(hm0:h0.length<=m){post:Exit->Act->World->Prop}{K:Lv->Hp->Prop}:
  ∀(n:Nat) (c:Code) (x:AC) (L:Lv) (h:Hp) (a:Act) (w:World),Qkp n c=true->QfW P N c=some x->Qy5 P Λ m n x L h K->Fits N G0 ι0 h0 w0 (lkL L) h a w->
   (∀L' h' a' w',K L' h'->Fits N G0 ι0 h0 w0 (lkL L') h' a' w'->QfW P N (Qe6 n c)=some (Qia n x)->(Qe6 n c).wpIn (Fen none) 0 P post a' w')->c.wpIn (Fen none) 0 P post a w:=by
 intro n;induction n with
 |zero=>intro c x L h a w _ hc hv hf hk;exact hk L h a w hv hf hc
 |succ n ih=>
  intro c x L h a w hs hc hv hf hk;cases c with
  |seq c1 c2=>
   simp only[QfW,Qb6]at hc;split at hc
   ·rename_i x1 x2 h1 h2;cases hc;simp only[Qy5]at hv;refine wpIn_seq (wpIn_mono (QgF hΛ hm hm0 c1 x1 L h _ a w h1 hv hf) fun e a' w' ⟨L',h',hq,hf'⟩=> ?_);cases e with
    |normal=>exact ih c2 x2 L' h' a' w' hs h2 hq hf' hk
    |ret=>exact hq.elim
    |exit i=>exact hq.elim
    |goto=>exact hq.elim
    |panic=>exact hq.elim
    |outgrown=>exact hq.elim
   ·cases hc
  |_=>cases hs
inductive NoW (bad:D->Prop):D->Prop
 |int (k:IntKind) (n:Int):NoW bad (.int k n)
 |bool (b:Bool):NoW bad (.bool b)
 |list (nl:Bool) (sz:Nat) (l:List (List D)) (h:∀(i:Nat) (e:List D) (j:Nat) (x:D),l[i]? =some e->e[j]? =some x->¬bad x) (h':∀(i:Nat) (e:List D) (j:Nat) (x:D),l[i]? =some e->e[j]? =some x->NoW bad x):NoW bad (.list nl sz l)
section
variable{G:Nat->Prop}{w w':World}{b0 o0:Nat}{v0:Value}
theorem DR.poke(hw:∀b o,¬(b=b0/\o=o0)->w'.cell? ⟨b,o,none⟩=w.cell? ⟨b,o,none⟩)(hv:w.cell? ⟨b0,o0,none⟩=some v0){d:D}(hno:NoW (DR G w v0) d):∀{v:Value},DR G w v d->DR G w' v d:=by
 induction hno with
 |int k n=>intro v h;cases h;exact .int _ _
 |bool b=>intro v h;cases h;exact .bool _
 |list nl sz l hl _ ih=>
  intro v h;cases h with
  |nils=>exact .nils _ _
  |emp=>exact .emp _ _
  |sl b off cap _ _ g hG hcap hmax hsz hc hr=>
   refine .sl b off cap sz l g hG hcap hmax hsz (fun i e j x he hx=> ?_) fun i e j x he hx=>ih i e j x he hx (hr i e j x he hx)
   have hne:¬(b=b0/\off+i*sz+j=o0):=fun⟨e1,e2⟩=>by
    have h1:=hc i e j x he hx;rw[e1,e2,hv]at h1;have h2:=hr i e j x he hx;rw[←osj h1]at h2;exact hl i e j x he hx h2
   rw[hw _ _ hne];exact hc i e j x he hx
theorem QrF{v:Value}{nl:Bool}{sz:Nat}{l:List (List D)}(h:DR G w v (.list nl sz l)):∃a cap,v= .slice a l.length cap:=by
 generalize hd:D.list nl sz l=d at h;cases h<;>first|(cases hd;done)|(cases hd;exact⟨_,_,rfl⟩)
theorem QAt{v:Value}{k:IntKind}{n:Int}(h:DR G w v (.int k n)):v= .int k n:=by
 cases h;rfl
theorem Qzj{v:Value}{b:Bool}(h:DR G w v (.bool b)):v= .bool b:=by
 cases h;rfl
theorem Qvp{v:Value}{nl nl':Bool}{sz sz':Nat}{l l':List (List D)}(h:DR G w v (.list nl sz l))(h':DR G w v (.list nl' sz' l')):l.length=l'.length:=by
 obtain⟨a,c,e⟩:=QrF h;obtain⟨a',c',e'⟩:=QrF h';have h2:=e.symm.trans e';injection h2
theorem Qya{v:Value}{nl:Bool}{n:Int}(h:DR G w v (.list nl 1 [[.int .i64 n]])):∃b off cap,v= .slice (some ⟨b,off,none⟩) 1 cap/\w.cell? ⟨b,off,none⟩=some (.int .i64 n):=by
 generalize hd:D.list nl 1 [[.int .i64 n]]=d at h;cases h with
 |sl b off cap _ _ g hG hcap hmax hsz hc hr=>
  cases hd;have h1:=hc 0 _ 0 _ rfl rfl;have h3:=hr 0 _ 0 _ rfl rfl;refine⟨b,off,cap,rfl,?_⟩;rw[show off+0*1+0=off by omega]at h1;rw[h1];generalize g 0 0=u at h3;cases h3;rfl
 |_=>cases hd
theorem Qyb{v:Value}{nl nl':Bool}{n n':Int}(h:DR G w v (.list nl 1 [[.int .i64 n]]))(h':DR G w v (.list nl' 1 [[.int .i64 n']])):n=n':=by
 obtain⟨b,o,c,e,h1⟩:=Qya h;obtain⟨b',o',c',e',h2⟩:=Qya h';rw[e]at e';cases e';rw[h1]at h2;cases h2;rfl
def Qzy(n:Int):D->Bool
 | .list _ 1 [[.int .i64 k]]=>decide (k≠n)
 | .list _ _ l=>decide (l.length≠1)
 | .int _ _=>true
 | .bool _=>true
 |_=>false
theorem Qbc{n:Int}{x:D}(hx:Qzy n x=true)(h0:DR G w v0 (.list false 1 [[.int .i64 n]])):¬DR G w v0 x:=by
 intro h;unfold Qzy at hx;split at hx
 ·rename_i k;have:=Qyb h0 h;simp at hx;exact hx this.symm
 ·rename_i l _;have:=Qvp h0 h;simp at hx this;omega
 ·obtain⟨a,c,e⟩:=QrF h0;rw[QAt h]at e;cases e
 ·obtain⟨a,c,e⟩:=QrF h0;rw[Qzj h]at e;cases e
 ·cases hx
def Qzi(n:Int):Nat->D->Bool
 |0,_=>false
 |_+1,.int _ _=>true
 |_+1,.bool _=>true
 |f+1,.list _ _ l=>l.all fun e=>e.all fun x=>Qzy n x&&Qzi n f x
 |_+1,_=>false
theorem QaQ{n:Int}(h0:DR G w v0 (.list false 1 [[.int .i64 n]])):∀(f:Nat) {d:D},Qzi n f d=true->NoW (DR G w v0) d:=by
 intro f;induction f with
 |zero=>intro d h;cases h
 |succ f ih=>
  intro d h;cases d with
  |int k m=>exact .int _ _
  |bool b=>exact .bool _
  |list nl sz l=>
   simp only[Qzi,List.all_eq_true,Bool.and_eq_true]at h;exact .list nl sz l (fun i e j x he hx=>Qbc (h e (mgE he) x (mgE hx)).1 h0) fun i e j x he hx=>ih (h e (mgE he) x (mgE hx)).2
  |_=>cases h
theorem Qni(hw:∀b o,¬(b=b0/\o=o0)->w'.cell? ⟨b,o,none⟩=w.cell? ⟨b,o,none⟩)(hv:w.cell? ⟨b0,o0,none⟩=some v0){l l':List (List D)}{sz b off n cap i0 j0:Nat}{x0 x0':D}(h:DR G w (.slice (some ⟨b,off,none⟩) n cap) (.list false sz l))(hne:l≠[])(hll:l'.length=l.length)
 (hsz':∀(i:Nat) (e:List D),l'[i]? =some e->e.length=sz)
 (hx0:∃e,l[i0]? =some e/\e[j0]? =some x0)
 (same:∀(i:Nat) (e':List D) (j:Nat) (x':D),l'[i]? =some e'->e'[j]? =some x'->(i=i0/\j=j0/\x'=x0')\/((∃e,l[i]? =some e/\e[j]? =some x')/\¬DR G w v0 x'/\NoW (DR G w v0) x'/\¬(i=i0/\j=j0)))
 (hat:∀vv,w.cell? ⟨b,off+i0*sz+j0,none⟩=some vv->DR G w vv x0->∃uu,w'.cell? ⟨b,off+i0*sz+j0,none⟩=some uu/\DR G w' uu x0'):
  DR G w' (.slice (some ⟨b,off,none⟩) n cap) (.list false sz l'):=by
 generalize hd:D.list false sz l=d at h;generalize hvv:Value.slice (some ⟨b,off,none⟩) n cap=v at h;cases h with
 |sl b1 off1 cap1 _ _ g hG hcap hmax hsz hc hr=>
  cases hd;injection hvv with e1 e2 e3
  injection e1 with e1
  injection e1 with e4 e5
  subst e2 e3 e4 e5;obtain⟨e,he,hx⟩:=hx0;obtain⟨uu,hu1,hu2⟩:=hat _ (hc i0 e j0 x0 he hx) (hr i0 e j0 x0 he hx);have:=DR.sl (G:=G) (w:=w') b off cap sz l' (fun i j=>if i=i0/\j=j0 then uu else g i j) (fun _=>hG hne) (by rw[hll];exact hcap) (by rw[hll];exact hmax) hsz' ?_ ?_
  ·rw[hll]at this;exact this
  ·intro i e' j x' he' hx';rcases same i e' j x' he' hx' with ⟨rfl,rfl,rfl⟩|⟨⟨e2,h1,h2⟩,h3,-,h5⟩
   ·simp only[and_self,if_true];exact hu1
   ·rw[if_neg h5];have h6:=hc i e2 j x' h1 h2;have hnn:¬(b=b0/\off+i*sz+j=o0):=fun⟨q1,q2⟩=>by
     rw[q1,q2,hv]at h6;have h7:=hr i e2 j x' h1 h2;rw[←osj h6]at h7;exact h3 h7
    rw[hw _ _ hnn];exact h6
  ·intro i e' j x' he' hx';rcases same i e' j x' he' hx' with ⟨rfl,rfl,rfl⟩|⟨⟨e2,h1,h2⟩,h3,h4,h5⟩
   ·simp only[and_self,if_true];exact hu2
   ·rw[if_neg h5];exact DR.poke hw hv h4 (hr i e2 j x' h1 h2)
 |_=>first|(cases hd;done)|(cases hvv;done)|(cases hd;exact absurd rfl hne)
theorem Qln{b off n cap sz:Nat}{nl:Bool}{l:List (List D)}(h:DR G w (.slice (some ⟨b,off,none⟩) n cap) (.list nl sz l)){i j:Nat}{e:List D}{x:D}(he:l[i]? =some e)(hx:e[j]? =some x):∃u,w.cell? ⟨b,off+i*sz+j,none⟩=some u/\DR G w u x:=by
 generalize hd:D.list nl sz l=d at h;generalize hvv:Value.slice (some ⟨b,off,none⟩) n cap=v at h;cases h with
 |sl b1 off1 cap1 _ _ g hG hcap hmax hsz hc hr=>
  cases hd;injection hvv with e1 e2 e3
  injection e1 with e1
  injection e1 with e4 e5
  subst e2 e3 e4 e5;exact⟨_,hc i e j x he hx,hr i e j x he hx⟩
 |_=>first|(cases hd;done)|(cases hvv;done)|(cases hd;cases he)
theorem Qsy(hw:∀b o,¬(b=b0/\o=o0)->w'.cell? ⟨b,o,none⟩=w.cell? ⟨b,o,none⟩)(hv:w.cell? ⟨b0,o0,none⟩=some v0){bx ox n cap oT nT capT:Nat}{u:Value}(h:DR G w (.slice (some ⟨bx,ox,none⟩) n cap) (.list false 3 (rgX.map Qar)))
 (hT:w.cell? ⟨bx,ox+1*3+1,none⟩=some (.slice (some ⟨b0,oT,none⟩) nT capT))(ho:o0=oT+2*3+0)(hu:w'.cell? ⟨b0,o0,none⟩=some u)(hu':DR G w' u (.list false 1 [[.int .i64 1]])):
  DR G w v0 (.list false 1 [[.int .i64 2]])/\DR G w' (.slice (some ⟨bx,ox,none⟩) n cap) (.list false 3 (rgY.map Qar)):=by
 obtain⟨v1,h1,h2⟩:=Qln h (i:=1) (j:=1) rfl rfl;rw[hT]at h1;cases h1;obtain⟨v2,h3,h4⟩:=Qln h2 (i:=2) (j:=0) rfl rfl;rw[←ho,hv]at h3;cases h3;refine⟨h4,Qni hw hv (i0:=1) (j0:=1) (x0:=Qh1 [⟨[1],false,[]⟩,⟨[],false,[]⟩,⟨[2],false,[]⟩,⟨[1,2],false,[]⟩]) (x0':=Qh1 [⟨[1],false,[]⟩,⟨[],false,[]⟩,⟨[1],false,[]⟩,⟨[1,2],false,[]⟩]) h (by simp[rgX]) rfl (fun i e he=> ?_) ⟨_,rfl,rfl⟩ (fun i e j x he hx=> ?_) fun vv hvv hvd=> ?_⟩
 ·match i,he with
  |0,he=>cases he;rfl
  |1,he=>cases he;rfl
  |2,he=>cases he;rfl
  |3,he=>cases he;rfl
  |i+4,he=>simp[rgY]at he
 ·match i,he with
  |0,he=>
   cases he
   match j,hx with
   |0,hx=>cases hx;exact .inr ⟨⟨_,rfl,rfl⟩,Qbc rfl h4,QaQ h4 5 rfl,by omega⟩
   |1,hx=>cases hx;exact .inr ⟨⟨_,rfl,rfl⟩,Qbc rfl h4,QaQ h4 5 rfl,by omega⟩
   |2,hx=>cases hx;exact .inr ⟨⟨_,rfl,rfl⟩,Qbc rfl h4,QaQ h4 5 rfl,by omega⟩
   |j+3,hx=>simp[Qar,QaG]at hx
  |1,he=>
   cases he
   match j,hx with
   |0,hx=>cases hx;exact .inr ⟨⟨_,rfl,rfl⟩,Qbc rfl h4,QaQ h4 5 rfl,by omega⟩
   |1,hx=>cases hx;exact .inl ⟨rfl,rfl,rfl⟩
   |2,hx=>cases hx;exact .inr ⟨⟨_,rfl,rfl⟩,Qbc rfl h4,QaQ h4 5 rfl,by omega⟩
   |j+3,hx=>simp[Qar,QaG]at hx
  |2,he=>
   cases he
   match j,hx with
   |0,hx=>cases hx;exact .inr ⟨⟨_,rfl,rfl⟩,Qbc rfl h4,QaQ h4 5 rfl,by omega⟩
   |1,hx=>cases hx;exact .inr ⟨⟨_,rfl,rfl⟩,Qbc rfl h4,QaQ h4 5 rfl,by omega⟩
   |2,hx=>cases hx;exact .inr ⟨⟨_,rfl,rfl⟩,Qbc rfl h4,QaQ h4 5 rfl,by omega⟩
   |j+3,hx=>simp[Qar,QaG]at hx
  |3,he=>
   cases he
   match j,hx with
   |0,hx=>cases hx;exact .inr ⟨⟨_,rfl,rfl⟩,Qbc rfl h4,QaQ h4 5 rfl,by omega⟩
   |1,hx=>cases hx;exact .inr ⟨⟨_,rfl,rfl⟩,Qbc rfl h4,QaQ h4 5 rfl,by omega⟩
   |2,hx=>cases hx;exact .inr ⟨⟨_,rfl,rfl⟩,Qbc rfl h4,QaQ h4 5 rfl,by omega⟩
   |j+3,hx=>simp[Qar,QaG]at hx
  |i+4,he=>simp[rgY]at he
 ·rw[hT]at hvv;cases hvv;refine⟨_,?_,Qni hw hv (i0:=2) (j0:=0) (x0:=QaU [2]) (x0':=QaU [1]) hvd (by simp) rfl (fun i e he=> ?_) ⟨_,rfl,rfl⟩ (fun i e j x he hx=> ?_) fun vv hvv hvd=> ?_⟩
  ·have hnn:¬(bx=b0/\ox+1*3+1=o0):=fun⟨q1,q2⟩=>by
    rw[q1,q2,hv]at hT;rw[osj hT]at h4;have:=Qvp h2 h4;simp at this
   rw[hw _ _ hnn];exact hT
  ·match i,he with
   |0,he=>cases he;rfl
   |1,he=>cases he;rfl
   |2,he=>cases he;rfl
   |3,he=>cases he;rfl
   |i+4,he=>simp at he
  ·match i,he with
   |0,he=>
    cases he
    match j,hx with
    |0,hx=>cases hx;exact .inr ⟨⟨_,rfl,rfl⟩,Qbc rfl h4,QaQ h4 5 rfl,by omega⟩
    |1,hx=>cases hx;exact .inr ⟨⟨_,rfl,rfl⟩,Qbc rfl h4,QaQ h4 5 rfl,by omega⟩
    |2,hx=>cases hx;exact .inr ⟨⟨_,rfl,rfl⟩,Qbc rfl h4,QaQ h4 5 rfl,by omega⟩
    |j+3,hx=>simp[Qar,QaG]at hx
   |1,he=>
    cases he
    match j,hx with
    |0,hx=>cases hx;exact .inr ⟨⟨_,rfl,rfl⟩,Qbc rfl h4,QaQ h4 5 rfl,by omega⟩
    |1,hx=>cases hx;exact .inr ⟨⟨_,rfl,rfl⟩,Qbc rfl h4,QaQ h4 5 rfl,by omega⟩
    |2,hx=>cases hx;exact .inr ⟨⟨_,rfl,rfl⟩,Qbc rfl h4,QaQ h4 5 rfl,by omega⟩
    |j+3,hx=>simp[Qar,QaG]at hx
   |2,he=>
    cases he
    match j,hx with
    |0,hx=>cases hx;exact .inl ⟨rfl,rfl,rfl⟩
    |1,hx=>cases hx;exact .inr ⟨⟨_,rfl,rfl⟩,Qbc rfl h4,QaQ h4 5 rfl,by omega⟩
    |2,hx=>cases hx;exact .inr ⟨⟨_,rfl,rfl⟩,Qbc rfl h4,QaQ h4 5 rfl,by omega⟩
    |j+3,hx=>simp[Qar,QaG]at hx
   |3,he=>
    cases he
    match j,hx with
    |0,hx=>cases hx;exact .inr ⟨⟨_,rfl,rfl⟩,Qbc rfl h4,QaQ h4 5 rfl,by omega⟩
    |1,hx=>cases hx;exact .inr ⟨⟨_,rfl,rfl⟩,Qbc rfl h4,QaQ h4 5 rfl,by omega⟩
    |2,hx=>cases hx;exact .inr ⟨⟨_,rfl,rfl⟩,Qbc rfl h4,QaQ h4 5 rfl,by omega⟩
    |j+3,hx=>simp[Qar,QaG]at hx
   |i+4,he=>simp at he
  ·rw[←ho];exact⟨u,hu,hu'⟩
end
theorem QxO(P:Program)(hP:P=Tryd.prog)(m:Ar)(hT:Qbs m):FnS P Qdi [Qa2 QaC,Qcu rgX,Qdj rgP,iA 0] [.am m] fun r h'=>∃m' tl,h'= .am m'::tl/\Qbs m'/\r= .tup [.c (.d (QxB [⟨2,-1,[0,2]⟩,⟨2,-1,[7,5]⟩])),iA 0]:=by
 have h:=Qth P hP QaC rgX rgP 0 (gW QaC rgX rgP) rgU m hT fun _=>⟨(QwU hP).1,by decide⟩
 rw[QwS.1,show((0:Int),rgP.stack)=(0,[])from rfl,QwQ]at h;exact h
theorem QxP(P:Program)(hP:P=Tryd.prog)(m:Ar)(hT:Qbs m):FnS P QcS [Qa2 QaC,Qcu rgX,Qdj rgP,iA 0] [.am m] fun r h'=>∃m' tl,h'= .am m'::tl/\Qbs m'/\r= .tup [bA true,iA 0]:=by
 have h:=Qxr P hP QaC rgX rgP 0 (gW QaC rgX rgP) rgU m hT fun _=>⟨(QwU hP).1,QyG⟩
 rw[QwS.1,show((0:Int),rgP.stack)=(0,[])from rfl,QwR]at h;exact h
theorem QxR(P:Program)(hP:P=Tryd.prog)(m:Ar)(hT:Qbs m):FnS P QdK [Qa2 QaC,Qcu rgY,Qdj rgP,iA 0] [.am m] fun r h'=>∃m' tl,h'= .am m'::tl/\Qbs m'/\r= .tup [QaT [],iA 16]:=by
 have h:=Qxs P hP QaC rgY rgP 0 (gW QaC rgY rgP) rgU m hT (fun _=>⟨(QwU hP).2,QyH⟩) fun _=>by decide
 rw[QwS.2,show((0:Int),rgP.stack)=(0,[])from rfl,QwT]at h;exact h
def afB:AF->AC
 |⟨_,_,b⟩=>b
def rgL:List (List D):=QaC.links.map QaL
abbrev rgA:D:= .list false 3 (List.map QeM [⟨2,-1,[0,2]⟩,⟨2,-1,[7,5]⟩])
theorem Qrp(m:Ar)(hT:Qbs m)(Λ:Len)(Λo:∀l,Λ l=(l.length:Int)):
  vcC Tryd.prog Λ 1 (Qia 8 (afB Qaq)) [(3,.c (.ptr 2 0 0 0)),(4,.c (.d (.list false 3 (rgY.map Qar)))),(6,.c (.d rgA)),(7,iA 0),(8,bA true),(9,iA 0)] [.am m,.dead,.bx [.d (iD 4),.d (.list true 1 []),.d (.list false 7 rgL)]]
   fun x L h=>match x with
    | .exit _=>False
    |_=>lkN L 0=bA true/\∃m' tl,h= .am m'::tl/\Qbs m':=by
 have h1:=QxR Tryd.prog rfl m hT;have h2:∀l,Ret Tryd.prog Qdb [QaT l,QaT l] (bA true):=fun l=>by
  have:=QoI Tryd.prog rfl l l;rw[decide_eq_true rfl]at this;exact this
 have s1:=h2 [0,2];have s2:=h2 [7,5];clear h2;obtain⟨al,hal⟩:∃al,al=List.map QeM [⟨2,-1,[0,2]⟩,⟨2,-1,[7,5]⟩]:=⟨_,rfl⟩;have l2:Λ al=2:=by rw[Λo,hal];rfl
 have e0:al[(0:Int).toNat]? =some [iD 2,iD (-1),.list false 1 [[iD 0],[iD 2]]]:=by rw[hal];rfl
 have e1:al[(1:Int).toNat]? =some [iD 2,iD (-1),.list false 1 [[iD 7],[iD 5]]]:=by rw[hal];rfl
 rw[rgA,←hal];clear hal;simp only[Qa2,Qcu,Qaf,Qak,QaY]at h1;generalize hyl:List.map Qar rgY=yl at*;have h1f:FnS Tryd.prog QdK [.agg [.d (iD 4),.d (.list true 1 []),.d (.list false 7 rgL)],.c (.d (.list false 3 yl)),.agg [.d (iD 0),.d (iD 0),.d (iD 2),.d (iD 0),.d (.list true 2 []),.d (iD 0)],iA 0] [.am m] _:=FnS.fg h1;clear h1;generalize rgL=ll at*;generalize hP:Tryd.prog=P at*
 conv=>cbv
 repeat' first|(refine QaI [0] h1f rfl rfl (by decide) (by repeat' first|exact trivial|refine And.intro ?_ ?_|rfl) rfl rfl ?_;rintro r hc' ⟨m3,tl3,rfl,hT3,rfl⟩;(conv=>cbv))|(intro(e:List D) he;cases osj (he.symm.trans e0);(conv=>cbv))|(intro(e:List D) he;cases osj (he.symm.trans e1);(conv=>cbv))|(refine Qaj s1 rfl rfl ?_;conv=>cbv)|(refine Qaj s2 rfl rfl ?_;conv=>cbv)|exact⟨rfl,m3,_,rfl,hT3⟩|exact⟨m3,_,rfl,hT3⟩|exact gu|exact trivial|refine And.intro ?_ ?_|(intro hc;first|exact absurd hc (by decide)|(exfalso;omega)|((first|rw[wS (by omega) (by omega)]at hc|rw[Qad]at hc|skip);try (conv=>cbv)))|refine CallG.old ?_
theorem QqF(P:Program)(hP:P=Tryd.prog)(t:Top)(down:List Bool)(n:Int)(m:Ar)(hf:Qa9 t down=true)(hn:0<=n/\n<t.nodes)(hu:∀a∈Qkd t n,upB down a=true):
  FnS P QcR [Qa2 t,QaY down,iA n] [.am m] fun r h'=>∃m' tl d,h'= .am m'::tl/\r= .tup [.agg [.d (iD n),.d d,.d (.list true 1 [])],iA 0]/\Qc8 3 m' d ((toL t down n t.nodes.toNat).map QaG)/\(∀b,m b≠none->m' b=m b)/\∀b,InB d b->m b=none:=by
 have hfits:=Qi2 P hP t down;have hnext:=fun d=>Qss P hP t down n d
 have hout:=QvB P hP t n;have hup:=fun a=>Qu5 P hP down a
 refine QaO (hP▸mixed) (hP▸QeU) (hP▸Qfy) (nle rfl) fun Λ Λo K hK=> ?_
 clear hP;have hfb:Qao t=true/\(down.length=0\/down.length=2*t.links.length):=by simpa [Qa9]using hf
 obtain⟨hv,hdo⟩:=hfb;have hn64:=(Qai.1 hv).1;have hor:∀a∈Qkd t n,0<=a/\a<2*t.links.length:=by
  intro a ha;have h2:QbC t=2*t.links.length:=by rw[QbC,if_pos hv]
  simp only[Qkd,List.mem_filter,QaK,List.mem_map,List.mem_range]at ha;obtain⟨⟨k,hk,rfl⟩,_⟩:=ha;omega
 have hol':(Qkd t n).length<=512:=by
  rw[Qkd];refine Nat.le_trans (List.length_filter_le _ _) ?_;have:=(QdF t).2.1;simp only[QaK,List.length_map,List.length_range];omega
 have hts:∀k,toL t down n (k+1)=toL t down n k++[⟨(Qg6 t down n k).1,false,[]⟩]:=by
  intro k;simp[toL,Qci]
 have ht0:toL t down n 0=[]:=rfl;have htn:∀k,(toL t down n k).length=k:=by intro k;simp[toL,QaK]
 have hend:=fun m' tl d h1 h2 h3=>hK (.tup [.agg [.d (iD n),.d d,.d (.list true 1 [])],iA 0]) (.am m'::tl) ⟨m',tl,d,rfl,rfl,h1,h2,h3⟩
 clear hK;rw[hf]at hfits;generalize toL t down n=tol at*;generalize hub:upB down=ub at*;generalize Qg6 t down n=nx at*;generalize Qkd t n=ou at*;simp only[QaY,Qaf]at*;clear hf;generalize hdl:down.map QbA=dl at*;obtain⟨nodes,ov,links⟩:=t;simp only[Qa2,Qaf,Qak,QaT,QaU]at*;generalize hol:List.map QbA ov=ol at*;generalize hll:List.map QaL links=ll at*
 conv=>cbv
 repeat' first|refine QaF hfits rfl rfl ?_ ?_|(left;intro(_:Unit);(conv=>cbv))|(intro hc;cases hc;done)|exact gu|exact trivial|refine And.intro ?_ ?_|(intro hc;first|exact absurd hc (by decide)|(exfalso;omega)|((first|rw[wS (by omega) (by omega)]at hc|rw[Qad]at hc|skip);try (conv=>cbv)))|refine CallG.old ?_
 refine QcQ nodes.toNat (fun(s:Int×Ar×D)=>[(1,.c (.d (.list false 1 dl))),(2,iA n),(3,.c (.ptr 1 0 0 0)),(6,.c (.ptr 2 0 0 0)),(8,.c (.ptr 3 0 0 0)),(9,iA s.1)])
  (fun s=>[.am s.2.1,.bx [.d (iD nodes),.d (.list false 1 ol),.d (.list false 7 ll)],.bx [.d (iD 0),.d (.list true 3 []),.d (.list true 1 [])],.bx [.d (iD n),.d s.2.2,.d (.list true 1 [])]])
  (fun k s=>s.1=k/\k<=nodes.toNat/\Qc8 3 s.2.1 s.2.2 ((tol k).map QaG)/\(∀b,m b≠none->s.2.1 b=m b)/\∀b,InB s.2.2 b->m b=none) (0,m,.list true 3 [])
  0 (fun(s:Ar×D)=>[(1,.c (.d (.list false 1 dl))),(2,iA n),(3,.c (.ptr 1 0 0 0)),(6,.c (.ptr 2 0 0 0)),(8,.c (.ptr 3 0 0 0))])
  (fun s=>[.am s.1,.bx [.d (iD nodes),.d (.list false 1 ol),.d (.list false 7 ll)],.bx [.d (iD 0),.d (.list true 3 []),.d (.list true 1 [])],.bx [.d (iD n),.d s.2,.d (.list true 1 [])]]) (fun s=>Qc8 3 s.1 s.2 ((tol nodes.toNat).map QaG)/\(∀b,m b≠none->s.1 b=m b)/\∀b,InB s.2 b->m b=none)
  (Wk.ca) ⟨rfl,by omega,.inl ⟨rfl,by rw[ht0];rfl⟩,fun _ _=>rfl,fun b hb=>(Qa3 hb).elim⟩ (fun k s h=>h.2.1) ?_ ?_
 ·rintro k ⟨d,m1,dd⟩ Q' ⟨hi,hk,hrow,hsame,hnew⟩ norm jn ex rt;simp only at hi hrow hsame hnew;have hnx:=hnext d;have hts:=hts k;rw[←hi]at hts;have htk:=htn k;clear hend hout hup hfits hnext;by_cases hlt:k<nodes.toNat
  ·generalize nx d=nd at*;obtain⟨nl,ne⟩:=nd;simp only at hnx hts;generalize hnl:nl.map QaA=nll at*;have hnew1:(tol (k+1)).map QaG=(tol k).map QaG++[[.list false 1 nll,.bool false,.list false 2 []]]:=by rw[hts,List.map_append];simp only[List.map_cons,List.map_nil,QaG,QaU,Qbn,List.map_nil,hnl]
   have hlen1:((tol k).map QaG).length=k:=by rw[List.length_map];exact htk
   have fin:∀L h m4 d4,GrS 3 m1 m4 dd d4 ((tol (k+1)).map QaG)->Wk _ L h _ _->Q' .normal L h:=fun L h m4 d4 g hw=>norm L h (((k+1:Nat):Int),m4,d4) ⟨rfl,by omega,g.row,fun b hb=>(g.same b (by rw[hsame b hb];exact hb) (fun hd=>hb (hnew b hd))).trans (hsame b hb),fun b hb=>(g.new b hb).elim (hnew b) fun h1=>Classical.byContradiction fun hm=>by rw[hsame b hm]at h1;exact hm h1⟩ hw
   clear norm jn;rw[hnew1]at fin;generalize (tol k).map QaG=prl at*;obtain⟨i1,hi1⟩:∃z:Int,z=((k+1:Nat):Int):=⟨_,rfl⟩;simp only[←hi1]at fin;rcases hrow with ⟨rfl,rfl⟩|⟨bn,Nn,cap,rfl,hbn2,hsz,hcap,hNn⟩
   ·conv=>cbv
    repeat' first|(refine ex _ _ _ ?_;(conv=>cbv))|(refine Qaj hnx rfl rfl ?_;conv=>cbv)|(right;intro(_:Unit);refine And.intro (fun _=>⟨(fun hq=>by cases hq),nle rfl⟩) ?_;intro(b4:Nat) (N4:Nat) (cap4:Nat) (k4:Nat) (m4:Ar) hb4 hk4 hkc4 hcN4 hm4;have hg:=Qjd (e:=[.list false 1 nll,.bool false,.list false 2 []]) rfl hb4 hk4 hkc4 hcN4 hm4;(conv=>cbv))|(left;intro(_:Unit);(conv=>cbv))|(intro(k:Int) hk;rw[wS (by omega) (by omega)]at hk;refine(fun(hz:i1=k)=> ?_) ?_;rotate_left;omega;subst hz;(conv=>cbv))|exact gu|exact trivial|refine And.intro ?_ ?_|(intro hc;first|exact absurd hc (by decide)|(exfalso;omega)|((first|rw[wS (by omega) (by omega)]at hc|rw[Qad]at hc|skip);try (conv=>cbv)))|refine CallG.old ?_
    exact fin _ _ _ _ hg (Wk.ca)
   ·generalize hnal:prl.length=nal at*
    conv=>cbv
    repeat' first|(refine ex _ _ _ ?_;(conv=>cbv))|(refine Qaj hnx rfl rfl ?_;conv=>cbv)|(refine⟨Nn,prl,hbn2,rfl,hnal,hsz,hcap,hNn,(fun _=>⟨(fun hq=>by cases hq),(show(nal+1)*56<=140737488355328 by omega)⟩),?_⟩;intro(b4:Nat) (N4:Nat) (cap4:Nat) (k4:Nat) (m4:Ar) hb4 hk4 hkc4 hcN4 hm4;have hg:=QlI (c:=cap) (e:=[.list false 1 nll,.bool false,.list false 2 []]) hsz rfl hnal hb4 hk4 hkc4 hcN4 hm4;(conv=>cbv))|(left;intro(_:Unit);(conv=>cbv))|(intro(k:Int) hk;rw[wS (by omega) (by omega)]at hk;refine(fun(hz:i1=k)=> ?_) ?_;rotate_left;omega;subst hz;(conv=>cbv))|exact gu|exact trivial|refine And.intro ?_ ?_|(intro hc;first|exact absurd hc (by decide)|(exfalso;omega)|((first|rw[wS (by omega) (by omega)]at hc|rw[Qad]at hc|skip);try (conv=>cbv)))|refine CallG.old ?_
    exact fin _ _ _ _ hg (Wk.ca)
  ·obtain rfl:k=nodes.toNat:=by omega
   clear norm
   conv=>cbv
   repeat' first|exact gu|exact trivial|refine And.intro ?_ ?_|(intro hc;first|exact absurd hc (by decide)|(exfalso;omega)|((first|rw[wS (by omega) (by omega)]at hc|rw[Qad]at hc|skip);try (conv=>cbv)))|refine CallG.old ?_
   refine jn _ _ (_,_) ⟨hrow,hsame,hnew⟩ (Wk.ca)
 rintro⟨m1,dd⟩ ⟨hrow,hsame,hnew⟩;simp only at hrow hsame hnew;have fin:=fun tl=>hend m1 tl dd hrow hsame hnew
 clear hend hrow hsame hnew hnext hts ht0 htn hfits;generalize oeh:ou.map QaA=oe at*;have hon:Λ oe=ou.length:=by rw[Λo,←oeh];simp
 conv=>cbv
 repeat' first|(refine Qaj hout rfl rfl ?_;conv=>cbv)|exact gu|exact trivial|refine And.intro ?_ ?_|(intro hc;first|exact absurd hc (by decide)|(exfalso;omega)|((first|rw[wS (by omega) (by omega)]at hc|rw[Qad]at hc|skip);try (conv=>cbv)))|refine CallG.old ?_
 refine Qba ou.length (fun(s:Int)=>[(1,.c (.d (.list false 1 dl))),(6,.c (.ptr 2 0 0 0)),(8,.c (.ptr 3 0 0 0)),(12,.c (.d (.list false 1 oe))),(13,iA s)])
  (fun s=>[.am m1,.bx [.d (iD nodes),.d (.list false 1 ol),.d (.list false 7 ll)],.bx [.d (iD 0),.d (.list true 3 []),.d (.list true 1 [])],.bx [.d (iD n),.d dd,.d (.list true 1 [])]])
  (fun k s=>s=k/\k<=ou.length) 0
  (Wk.ca) ⟨rfl,by omega⟩ (fun k s h=>h.2) ?_
 rintro k i Q' ⟨hi,hk⟩ norm ex rt;by_cases hlt:k<ou.length
 ·obtain⟨x,hx⟩:∃x,ou[k]? =some x:=⟨_,lgE hlt⟩;have hxa:=Qhi oeh hi hx;have hxr:=hor x (mgE hx);have hux:=hup x (by omega);rw[hu x (mgE hx)]at hux;simp only[QaA]at hxa;clear fin hup hu;obtain⟨i1,hi1⟩:∃z:Int,z=((k+1:Nat):Int):=⟨_,rfl⟩
  conv=>cbv
  repeat' first|(refine ex _ _ _ ?_;(conv=>cbv))|(refine rt _ _ ?_;(conv=>cbv))|(intro e he;cases osj (he.symm.trans hxa);(conv=>cbv))|refine QaF hux rfl rfl ?_ ?_|(intro(k:Int) hk;rw[wS (by omega) (by omega)]at hk;refine(fun(hz:i1=k)=> ?_) ?_;rotate_left;omega;subst hz;(conv=>cbv))|exact gu|exact trivial|refine And.intro ?_ ?_|(intro hc;first|exact absurd hc (by decide)|(exfalso;omega)|((first|rw[wS (by omega) (by omega)]at hc|rw[Qad]at hc|skip);try (conv=>cbv)))|refine CallG.old ?_
  all_goals (refine norm _ _ i1 ⟨hi1,by omega⟩ (Wk.ca))
 ·conv=>cbv
  repeat' first|(refine ex _ _ _ ?_;(conv=>cbv))|(refine rt _ _ ?_;(conv=>cbv))|exact gu|exact trivial|refine And.intro ?_ ?_|(intro hc;first|exact absurd hc (by decide)|(exfalso;omega)|((first|rw[wS (by omega) (by omega)]at hc|rw[Qad]at hc|skip);try (conv=>cbv)))|refine CallG.old ?_
  all_goals exact fin _
structure TbR (t:Top) (down:List Bool) (m0 m:Ar) (d:D) (l:List (List D)):Prop where
 row:Qc8 3 m d l
 el:∀(i:Nat) (e:List D),l[i]? =some e->∃x,e=[iD (i:Int),x,.list false 1 []]/\Qc8 3 m x ((toL t down (i:Int) t.nodes.toNat).map QaG)/\(∀b,InB x b->m0 b=none)/\∀b,InB x b->¬InB d b
 nw:∀b,InB d b->m0 b=none
 same:∀b,m0 b≠none->m b=m0 b
theorem TbR.step{t:Top}{down:List Bool}{m0 m m1 m4:Ar}{d d4 x:D}{l:List (List D)}{k:Nat}{i:Int}(h:TbR t down m0 m d l)(hk:l.length=k)(hi:i=(k:Int))(hx:Qc8 3 m1 x ((toL t down i t.nodes.toNat).map QaG))(h1:∀b,m b≠none->m1 b=m b)(h2:∀b,InB x b->m b=none)
 (g:GrS 3 m1 m4 d d4 (l++[[iD i,x,.list false 1 []]])):TbR t down m0 m4 d4 (l++[[iD i,x,.list false 1 []]])where
 row:=g.row
 el:=fun j e he=>by
  have one:∀(y:D) (yl:List (List D)),Qc8 3 m1 y yl->(∀b,InB y b->¬InB d b)->Qc8 3 m4 y yl/\∀b,InB y b->¬InB d4 b:=fun y yl hy hd=>
   ⟨hy.frame fun b hb=>g.same b (hy.key' hb) (hd b hb),fun b hb h4=>(g.new b h4).elim (hd b hb) (hy.key' hb)⟩
  by_cases hj:j<l.length
  ·rw[gal hj]at he;obtain⟨y,rfl,q1,q2,q3⟩:=h.el j e he;obtain⟨p1,p2⟩:=one y _ (q1.frame fun b hb=>h1 b (q1.key' hb)) q3;exact⟨y,rfl,p1,q2,p2⟩
  ·rw[List.getElem?_append_right (by omega)]at he;have hj2:j-l.length=0:=by have:=Qaa he;simp at this;omega
   rw[hj2]at he;simp only[List.getElem?_cons_zero,osi]at he;subst he;obtain rfl:j=k:=by omega
   subst hi;obtain⟨p1,p2⟩:=one x _ hx fun b hb hd=>h.row.key' hd (h2 b hb)
   refine⟨x,rfl,p1,fun b hb=>Classical.byContradiction fun hm=> ?_,p2⟩;have:=h.same b hm;rw[h2 b hb]at this;exact hm this.symm
 nw:=fun b hb=>by
  rcases g.new b hb with h3|h3
  ·exact h.nw b h3
  ·refine Classical.byContradiction fun hm=> ?_
   have h4:=h.same b hm;have h5:=h1 b (by rw[h4];exact hm);rw[h3,h4]at h5;exact hm h5.symm
 same:=fun b hb=>by
  have h4:=h.same b hb;have h5:=h1 b (by rw[h4];exact hb);rw[g.same b (by rw[h5,h4];exact hb) (fun hd=>hb (h.nw b hd)),h5,h4]
theorem Qy0{P:Program}{f:Nat}{args:List AV}{m:Ar}{R:AV->Ar->Prop}(hf:FnS P f args [.am m] fun r h'=>∃m' tl,h'= .am m'::tl/\R r m')(hr:∀r m',R r m'->(∀ρ,r=rnA ρ r)/\QuE 1 r=true):FnS P f args [.am m] fun r h'=>∃m',h'=[.am m']/\R r m':=by
 refine FnS.gct hf _ fun r h' hR=> ?_
 obtain⟨m',tl,rfl,h⟩:=hR;obtain⟨h1,h2⟩:=hr r m' h;refine⟨[0],r,[.am m'],⟨m',rfl,h⟩,rfl,by decide,fun l hl=>by simp at hl ⊢;omega,fun i k hk=> ?_,h1 _,rfl,h2,by simp,fun i hi=> ?_,fun k hk=> ?_⟩
 ·match i,hk with
  |0,hk=>cases hk;rfl
  |i+1,hk=>simp at hk
 ·match i,hi with
  |0,_=>rfl
 ·simp at hk;rw[hk];intro _ _ _ h;cases h
theorem QoG(P:Program)(hP:P=Tryd.prog)(t:Top)(down:List Bool)(n:Int)(m:Ar)(hf:Qa9 t down=true)(hn:0<=n/\n<t.nodes)(hu:∀a∈Qkd t n,upB down a=true):
  FnS P QcR [Qa2 t,QaY down,iA n] [.am m] fun r h'=>∃m',h'=[.am m']/\∃b k cap,r= .tup [.agg [.d (iD n),.d (.sl b 0 3 k cap),.d (.list true 1 [])],iA 0]/\Qc8 3 m' (.sl b 0 3 k cap) ((toL t down n t.nodes.toNat).map QaG)/\(∀b,m b≠none->m' b=m b)/\∀i,InB (.sl b 0 3 k cap) i->m i=none:=by
 refine Qy0 ((QqF P hP t down n m hf hn hu).mono fun r h' ⟨m',tl,d,e1,e2,h3,h4,h5⟩=>⟨m',tl,e1,?_⟩) fun r m' ⟨b,k,cap,e,_⟩=>by subst e;exact⟨fun _=>rfl,rfl⟩
 have h3':=h3;rcases h3 with ⟨-,h0⟩|⟨b,N,cap,rfl,-⟩
 ·have hl:((toL t down n t.nodes.toNat).map QaG).length=t.nodes.toNat:=by simp[toL,QaK]
  rw[h0]at hl;simp at hl;omega
 ·exact⟨b,_,cap,e2,h3',h4,h5⟩
theorem QvW(P:Program)(hP:P=Tryd.prog)(t:Top)(down:List Bool)(m:Ar)(hf:Qa9 t down=true)(hu:∀n a,a∈Qkd t n->upB down a=true):
  FnS P Qdt [Qa2 t,QaY down] [.am m] fun r h'=>∃m' tl d l,h'= .am m'::tl/\r= .tup [.c (.d d),iA 0]/\l.length=t.nodes.toNat/\TbR t down m m' d l:=by
 have hft:=Qi2 P hP t down;rw[hf]at hft;have hro:=fun n m hn=>QoG P hP t down n m hf hn (hu n)
 have hv:t.nodes<=64/\0<=t.nodes:=by
  have h1:Qao t=true:=by
   simp only[Qa9,Bool.and_eq_true]at hf;exact hf.1
  have:=(Qai.1 h1).1;omega
 clear hf hu;refine QaO (hP▸mixed) (hP▸Qhj) (hP▸QiK) (nle rfl) fun Λ Λo K hK=> ?_
 clear hP;have hend:=fun m' tl d l h1 h2=>hK (.tup [.c (.d d),iA 0]) (.am m'::tl) ⟨m',tl,d,l,rfl,rfl,h1,h2⟩
 clear hK;have hst:=fun{m1 m2 m4 d d4 x l k i}=> @TbR.step t down m m1 m2 m4 d d4 x l k i
 have h0:TbR t down m m (.list true 3 []) []:=⟨.inl ⟨rfl,rfl⟩,fun i e h=>by simp at h,fun b hb=>(Qa3 hb).elim,fun b _=>rfl⟩;have hrk:=fun{m1 d l} (h:TbR t down m m1 d l)=>h.row
 generalize TbR t down m=tbr at*;obtain⟨hv1,hv0⟩:=hv;generalize hrr:(fun n=>(toL t down n t.nodes.toNat).map QaG)=rr at*;have hr2:∀n,(toL t down n t.nodes.toNat).map QaG=rr n:=fun n=>by rw[←hrr]
 simp only[hr2]at hro hst;clear hrr hr2;obtain⟨nodes,ov,links⟩:=t;simp only[Qa2,QaY,Qaf,Qak]at*;generalize hdl:List.map QbA down=dl at*;generalize hol:List.map QbA ov=ol at*;generalize hll:List.map QaL links=ll at*
 conv=>cbv
 repeat' first|(refine Qaj hft rfl rfl ?_;conv=>cbv)|(left;intro(_:Unit);(conv=>cbv))|(intro hc;cases hc;done)|exact gu|exact trivial|refine And.intro ?_ ?_|(intro hc;first|exact absurd hc (by decide)|(exfalso;omega)|((first|rw[wS (by omega) (by omega)]at hc|rw[Qad]at hc|skip);try (conv=>cbv)))|refine CallG.old ?_
 refine QcQ nodes.toNat (fun(s:Int×Ar×D×List (List D))=>[(1,.c (.d (.list false 1 dl))),(2,.c (.ptr 1 0 0 0)),(6,.c (.d s.2.2.1)),(7,iA s.1)])
  (fun s=>[.am s.2.1,.bx [.d (iD nodes),.d (.list false 1 ol),.d (.list false 7 ll)]])
  (fun k s=>s.1=k/\k<=nodes.toNat/\s.2.2.2.length=k/\tbr s.2.1 s.2.2.1 s.2.2.2) (0,m,.list true 3 [],[])
  0 (fun(s:Ar×D×List (List D))=>[(6,.c (.d s.2.1))])
  (fun s=>[.am s.1,.bx [.d (iD nodes),.d (.list false 1 ol),.d (.list false 7 ll)]]) (fun s=>s.2.2.length=nodes.toNat/\tbr s.1 s.2.1 s.2.2)
  (Wk.ca) ⟨rfl,by omega,rfl,h0⟩ (fun k s h=>h.2.1) ?_ ?_
 ·rintro kk ⟨d,m1,dd,l⟩ Q' ⟨hi,hk,hl,hT⟩ norm jn ex rt;simp only at hi hl hT;by_cases hlt:kk<nodes.toNat
  ·have hrk1:=hro d m1 (by omega);have hrow:=hrk hT;have fin:∀L h m2 m4 d4 x,Qc8 3 m2 x (rr d)->(∀b,m1 b≠none->m2 b=m1 b)->(∀b,InB x b->m1 b=none)->GrS 3 m2 m4 dd d4 (l++[[iD d,x,.list false 1 []]])->Wk _ L h _ _->Q' .normal L h:=fun L h m2 m4 d4 x q1 q2 q3 g hw=>norm L h (((kk+1:Nat):Int),m4,d4,l++[[iD d,x,.list false 1 []]]) ⟨rfl,by omega,by simp[hl],hst hT hl hi q1 q2 q3 g⟩ hw
   obtain⟨i1,hi1⟩:∃z:Int,z=((kk+1:Nat):Int):=⟨_,rfl⟩;simp only[←hi1]at fin;clear norm jn hst hro hT h0 hend hft hrk;generalize rr d=rd at*;rcases hrow with ⟨rfl,rfl⟩|⟨bn,Nn,cap,rfl,hbn2,hsz,hcap,hNn⟩
   ·conv=>cbv
    repeat' first|(refine ex _ _ _ ?_;(conv=>cbv))|(refine QaI [0] hrk1 rfl rfl (by decide) (by repeat' first|exact trivial|refine And.intro ?_ ?_|rfl) rfl rfl ?_;rintro r hc' ⟨m2,rfl,xb,xk,xc,rfl,q1,q2,q3⟩;(conv=>cbv))|(right;intro(_:Unit);refine And.intro (fun _=>⟨(fun hq=>by cases hq),nle rfl⟩) ?_;intro(b4:Nat) (N4:Nat) (cap4:Nat) (k4:Nat) (m4:Ar) hb4 hk4 hkc4 hcN4 hm4;have hg:=Qjd (e:=[iD d,.sl xb 0 3 xk xc,.list false 1 []]) rfl hb4 hk4 hkc4 hcN4 hm4;(conv=>cbv))|(left;intro(_:Unit);(conv=>cbv))|(intro(k:Int) hk;rw[wS (by omega) (by omega)]at hk;refine(fun(hz:i1=k)=> ?_) ?_;rotate_left;omega;subst hz;(conv=>cbv))|exact gu|exact trivial|refine And.intro ?_ ?_|(intro hc;first|exact absurd hc (by decide)|(exfalso;omega)|((first|rw[wS (by omega) (by omega)]at hc|rw[Qad]at hc|skip);try (conv=>cbv)))|refine CallG.old ?_
    exact fin _ _ _ _ _ _ q1 q2 q3 hg (Wk.ca)
   ·generalize hnal:l.length=nal at*
    conv=>cbv
    repeat' first|(refine ex _ _ _ ?_;(conv=>cbv))|(refine QaI [0] hrk1 rfl rfl (by decide) (by repeat' first|exact trivial|refine And.intro ?_ ?_|rfl) rfl rfl ?_;rintro r hc' ⟨m2,rfl,xb,xk,xc,rfl,q1,q2,q3⟩;have hbn3:=(q2 bn (by rw[hbn2];simp)).trans hbn2;(conv=>cbv))|(refine⟨Nn,l,hbn3,rfl,hnal,hsz,hcap,hNn,(fun _=>⟨(fun hq=>by cases hq),(show(nal+1)*56<=140737488355328 by omega)⟩),?_⟩;intro(b4:Nat) (N4:Nat) (cap4:Nat) (k4:Nat) (m4:Ar) hb4 hk4 hkc4 hcN4 hm4;have hg:=QlI (c:=cap) (e:=[iD d,.sl xb 0 3 xk xc,.list false 1 []]) hsz rfl hnal hb4 hk4 hkc4 hcN4 hm4;(conv=>cbv))|(left;intro(_:Unit);(conv=>cbv))|(intro(k:Int) hk;rw[wS (by omega) (by omega)]at hk;refine(fun(hz:i1=k)=> ?_) ?_;rotate_left;omega;subst hz;(conv=>cbv))|exact gu|exact trivial|refine And.intro ?_ ?_|(intro hc;first|exact absurd hc (by decide)|(exfalso;omega)|((first|rw[wS (by omega) (by omega)]at hc|rw[Qad]at hc|skip);try (conv=>cbv)))|refine CallG.old ?_
    exact fin _ _ _ _ _ _ q1 q2 q3 hg (Wk.ca)
  ·obtain rfl:kk=nodes.toNat:=by omega
   clear norm
   conv=>cbv
   repeat' first|exact gu|exact trivial|refine And.intro ?_ ?_|(intro hc;first|exact absurd hc (by decide)|(exfalso;omega)|((first|rw[wS (by omega) (by omega)]at hc|rw[Qad]at hc|skip);try (conv=>cbv)))|refine CallG.old ?_
   refine jn _ _ (_,_,_) ⟨hl,hT⟩ (Wk.ca)
 rintro⟨m1,dd,l⟩ ⟨hl,hT⟩;simp only at hl hT;have fin:=fun tl=>hend m1 tl dd l hl hT
 conv=>cbv
 repeat' first|exact fin _|exact gu|exact trivial|refine And.intro ?_ ?_|(intro hc;first|exact absurd hc (by decide)|(exfalso;omega)|((first|rw[wS (by omega) (by omega)]at hc|rw[Qad]at hc|skip);try (conv=>cbv)))|refine CallG.old ?_
theorem Qtw(P:Program)(hP:P=Tryd.prog)(t:Top)(down:List Bool)(m:Ar)(hf:Qa9 t down=true)(hu:∀n a,a∈Qkd t n->upB down a=true):
  FnS P Qdt [Qa2 t,QaY down] [.am m] fun r h'=>∃m',h'=[.am m']/\∃d l,r= .tup [.c (.d d),iA 0]/\l.length=t.nodes.toNat/\TbR t down m m' d l:=
 Qy0 ((QvW P hP t down m hf hu).mono fun r h' ⟨m',tl,d,l,e1,e2,h3⟩=>⟨m',tl,e1,d,l,e2,h3⟩) fun r m' ⟨d,l,e,_⟩=>by subst e;exact⟨fun _=>rfl,rfl⟩
def Qtm(a:Act)(ds:List Deferred):Act:={a with defers:=a.defers++ds}
theorem Qfg(a:Act)(ds:List Deferred)(d:Option Nat)(v:Value):Qtm (a.put d v) ds=(Qtm a ds).put d v:=by
 cases d<;>rfl
theorem Qyx{F:Fence}{n:Nat}{P:Program}{o:Oper}{a:Act}{w:World}{K:Act->World->Prop}{Q:Exit->Act->World->Prop}(ds:List Deferred)
 (h:o.wpIn F n P a w (fun a' w'=>K (Qtm a' ds) w') (fun _ _ _=>False)):o.wpIn F n P (Qtm a ds) w K Q:=by
 unfold Oper.wpIn at*;refine⟨h.1,?_⟩;have hh:=h.2;show o.uponIn F n P (Qtm a ds) K Q ((o.semAt F.round a.eval).run P w);generalize (o.semAt F.round a.eval).run P w=r at*;cases r with
 |ok x w'=>
  cases x<;>simp only[Oper.uponIn]at hh ⊢<;>
   first
    |(rw[←Qfg];exact hh)
    |(rw[Qfg]at hh;exact hh)
    |exact⟨hh.1,CallsIn.mono hh.2 (fun e w'' he=>by cases e<;>first|(show K ((Qtm a ds).put o.dst _) _;rw[←Qfg];exact he)|exact he.elim|(obtain⟨_,_,h⟩:=he;exact h.elim))⟩
    |exact⟨hh.1,RowsIn.mono hh.2 (fun _ _ he=>by rw[Qfg]at he;exact he)⟩
    |exact⟨hh.1,RoundIn.mono hh.2 (fun e w'' he=>by cases e<;>first|(show K ((Qtm a ds).put o.dst _) _;rw[←Qfg];exact he)|exact he.elim|(obtain⟨_,_,h⟩:=he;exact h.elim))⟩
    |exact hh.elim
 |halt x w'=>cases x<;>simp only[Oper.uponIn]at hh ⊢
theorem Marks.join{w0 wb w:World}{G Gb:Nat->Prop}{ι ιb:Io}{h hb:Hp}{ds1 ds2:List Deferred}(hm1:Marks wb G ι h ds1 w)(hm2:Marks w0 Gb ιb hb ds2 wb)(hx:Ext Gb ιb hb wb G ι h w)(hs:w0.heap.size<=wb.heap.size):Marks w0 G ι h (ds1++ds2) w:=by
 obtain⟨b1,rfl,n1,q1⟩:=hm1;obtain⟨b2,rfl,n2,q2⟩:=hm2;refine⟨b1++b2,by simp,?_,fun b hb=> ?_⟩
 ·refine List.nodup_append.2 ⟨n1,n2,fun x h1 y h2 e=> ?_⟩;subst e;have:=(q1 x h1).lo;have:=(Array.getElem?_eq_some_iff.1 (q2 x h2).at_).1;omega
 ·rcases List.mem_append.1 hb with hb|hb
  ·obtain⟨h1,h2,h3,h4⟩:=q1 b hb;exact⟨by omega,h2,h3,h4⟩
  ·have h1:Marks w0 Gb ιb _ [mkD b] wb:=⟨[b],rfl,by simp,fun c hc=>by simp at hc;subst hc;exact q2 c hb⟩;obtain⟨bs,e,-,q⟩:=h1.ext hx
   match bs,e,q with
   |[c],e,q=>
    have e2:b=c:=by
     simp only[List.map_cons,List.map_nil,List.cons.injEq,and_true]at e;simp only[mkD,Deferred.mk.injEq]at e;have:=e.1;injection this
    subst e2;exact q b (by simp)
section
variable{P:Program}{ro:Option Nat}{N:Nat}{G0:Nat->Prop}{ι0:Io}{h0:Hp}{w0:World}
theorem Qnk{ops:Array Oper}{m:Nat}{Q:Exit->Act->World->Prop}{rest:List Nat}{os:List Oper}{aos:List AO}{k:Nat}{L:Lv}{h:Hp}{K:Lv->Hp->Prop}{a:Act}{w:World}{G:Nat->Prop}{ι:Io}(hm:h.length<=m)(st:St N G0 ι0 h0 w0 G ι (lkL L) h a w)
 (hk:∀i o,os[i]? =some o->ops[k+i]? =some o)(hc:QaS P ops N os=some aos)(hg:aos.all (gOk N)=true)(hv:Qij P m false aos L h fun L' h'=>∃L2 h2,Wk m L' h' L2 h2/\K L2 h2)
 (hQ:∀L' h' G' ι' a' w',K L' h'->St N G0 ι0 h0 w0 G' ι' (lkL L') h' a' w'->Ext G ι h w G' ι' h' w'->wpOpsIn (Fen ro) 0 P ops Q rest a' w'):wpOpsIn (Fen ro) 0 P ops Q (List.range' k os.length++rest) a w:=by
 have key:∀(os:List Oper) (aos:List AO) (k:Nat) (L':Lv) (h':Hp) (a':Act) (w':World),(∀i o,os[i]? =some o->ops[k+i]? =some o)->QaS P ops N os=some aos->aos.all (gOk N)=true->Qij P m false aos L' h' (fun L' h'=>∃L2 h2,Wk m L' h' L2 h2/\K L2 h2)->
   Fits N G ι h w (lkL L') h' a' w'->wpOpsIn (Fen ro) 0 P ops Q (List.range' k os.length++rest) (Qtm a' a.defers) w':=by
  intro os;induction os with
  |nil=>
   intro aos k L' h' a' w' _ hc _ hv hf;simp only[QaS,osi]at hc;subst hc;obtain⟨L2,h2,hw,hK⟩:=hv;obtain⟨G',ι',st'⟩:=hw.fits hm hf;exact hQ L2 h2 G' ι' _ w' hK ⟨⟨st'.rel.hr,st'.rel.size,st'.rel.env⟩,st.ext.trans st'.ext,Marks.join st'.dfr st.dfr st'.ext st.ext.size⟩ st'.ext
  |cons o os ih=>
   intro aos k L' h' a' w' hk hc hg hv hf;simp only[QaS]at hc;split at hc
   ·rename_i ao l hao hl;cases hc;simp only[List.all_cons,Bool.and_eq_true]at hg;have hok:ops[k]? =some o:=by have:=hk 0 o rfl;simpa using this
    have hrest:∀L2 h2 a2 w2,Qij P m false l L2 h2 (fun L' h'=>∃L2 h2,Wk m L' h' L2 h2/\K L2 h2)->Fits N G ι h w (lkL L2) h2 a2 w2->wpOpsIn (Fen ro) 0 P ops Q (List.range' (k+1) os.length++rest) (Qtm a2 a.defers) w2:=fun L2 h2 a2 w2 hv' hf'=>
     ih l (k+1) L2 h2 a2 w2 (fun i o' ho=>by have:=hk (i+1) o' (by simpa using ho);rw[show k+1+i=k+(i+1)by omega];exact this) hl hg.2 hv' hf'
    simp only[List.length_cons,List.range'_succ,List.cons_append];rw[wpOpsIn_cons];unfold wpOpIn;simp only[hok];have ht:(Qtm a' a.defers).tmps=a'.tmps:=rfl;rw[ht];obtain⟨G1,ι1,st1⟩:=hf;obtain⟨hd,hdN,hop,hgs⟩:=Qbp hao;have hgN:=Qfk hg.1;rcases hv with ⟨hgv,hv⟩|⟨hgv,hv⟩
    ·rw[Qb7 st1.rel hgs hgv hgN];simp only[if_true];refine Qyx _ (QiS hm hao hv ⟨G1,ι1,st1⟩ fun L' v h' a' w' hk' hf'=> ?_);exact hrest _ _ _ _ hk' (by rw[QaP];exact hf')
    ·rw[Qb7 st1.rel hgs hgv hgN];simp only[Bool.false_eq_true,if_false];refine⟨fun f _=>Fen.fn ro f,?_⟩;rw[←Qfg];refine hrest _ _ _ _ hv ⟨G1,ι1,?_⟩;rw[QaP,hd];exact st1.step hdN st1.rel.hr (.tup #[] [] rfl (by simp)) (Ext.refl _ _ _ _)
   ·cases hc
 exact key os aos k L h {a with defers:=[]} w hk hc hg hv ⟨G,ι,⟨⟨st.rel.hr,st.rel.size,st.rel.env⟩,Ext.refl _ _ _ _,Marks.nil _ _ _ _ _⟩⟩
theorem St.relist{G:Nat->Prop}{ι:Io}{e:Env}{h:Hp}{a:Act}{w:World}(st:St N G0 ι0 h0 w0 G ι e h a w)(L:Lv)(hL:∀p∈L,VR G w ι h (a.tmps.getD p.1 undef) p.2):St N G0 ι0 h0 w0 G ι (lkL L) h a w:=by
 refine⟨⟨st.rel.hr,st.rel.size,fun i=> ?_⟩,st.ext,st.dfr⟩;induction L with
 |nil=>exact .c _ _ (.u _)
 |cons p r ih=>
  obtain⟨j,v⟩:=p;simp only[lk,lkL,upd];split
  ·rename_i e;subst e;exact hL (j,v) (by simp)
  ·exact ih fun p hp=>hL p (by simp[hp])
theorem St.thaw{G:Nat->Prop}{ι:Io}{e:Env}{m mS mR:Ar}{rest:Hp}{a:Act}{w:World}(st:St N G0 ι0 h0 w0 G ι e (.am m::rest) a w)(hS:∀b x,mS b=some x->m b=some x/\mR b=none)(hR:∀b x,mR b=some x->m b=some x):
  ∃G',St N G0 ι0 h0 w0 G' ι e (.am mR::rest) a w/\∀b x,mS b=some x->G' b/\ABR G' w b x:=by
 obtain⟨q1,q2,q3⟩:=HR.thawP st.rel.hr hS hR;exact⟨_,⟨⟨q1,st.rel.size,fun i=>(st.rel.env i).ext q2 st.rel.hr⟩,st.ext.trans q2,st.dfr.ext q2⟩,q3⟩
end
theorem Qc8.thaw2{sz:Nat}{m:Ar}{d:D}{l l':List (List D)}(h:Qc8 sz m d l)(hl:l.length<=9223372036854775807)(hlen:l'.length=l.length)(hs:∀(i:Nat) (e:List D),l'[i]? =some e->e.length=sz)
 (hr:∀(i:Nat) (e e':List D) (j:Nat) (x x':D),l[i]? =some e->l'[i]? =some e'->e[j]? =some x->e'[j]? =some x'->ThD m x x'):ThD m d (.list false sz l'):=by
 rcases h with ⟨rfl,rfl⟩|⟨b,N,cap,rfl,hm,hs0,hc,hN⟩
 ·obtain rfl:l'=[]:=List.eq_nil_of_length_eq_zero (by simpa using hlen);exact .fg _
 ·have both:∀(i:Nat) (e':List D) (j:Nat) (x':D),l'[i]? =some e'->e'[j]? =some x'->∃e x,l[i]? =some e/\e[j]? =some x:=by
   intro i e' j x' he hx;have hi:=Qaa he;have hj:=Qaa hx;have h1:l[i]? =some (l[i]'(by omega)):=lgE _;have h2:=hs0 _ (mgE h1);have h3:=hs i e' he;exact⟨_,_,h1,lgE (by omega)⟩
  refine .row b 0 sz l.length cap N l.flatten l' (fun i j=>l.flatten.getD (i*sz+j) default) hm hlen hc hl hs (fun i e' j x' he' hx'=> ?_) fun i e' j x' he' hx'=> ?_
  ·obtain⟨e,x,he,hx⟩:=both i e' j x' he' hx';rw[Nat.zero_add,List.getD_eq_getElem?_getD,Qck hs0 (mgE he |> fun _=>he) hx];rfl
  ·obtain⟨e,x,he,hx⟩:=both i e' j x' he' hx';simp only[List.getD_eq_getElem?_getD,Qck hs0 he hx,Option.getD_some];exact hr i e e' j x x' he he' hx hx'
theorem Qxl{t:Top}{down:List Bool}{n:Int}{k:Nat}{m:Ar}{d:D}(h:Qc8 3 m d ((toL t down n k).map QaG))(hk:k<=1000):ThD m d (Qh1 (toL t down n k)):=
 h.thaw (by rw[List.length_map];simp[toL,QaK];omega)
theorem Qs1{t:Top}{down:List Bool}{m:Ar}{d:D}{l:List (List D)}(hf:Qa9 t down=true)(hu:∀n a,a∈Qkd t n->upB down a=true)(hn:t.nodes<=64)(hrow:Qc8 3 m d l)(hel:∀(i:Nat) (e:List D),l[i]? =some e->∃x,e=[iD (i:Int),x,.list false 1 []]/\Qc8 3 m x ((toL t down (i:Int) t.nodes.toNat).map QaG))(hl:l.length=t.nodes.toNat):
  ThD m d (.list false 3 ((Qbd t down t.nodes.toNat).map Qar)):=by
 have hle:(Qbd t down t.nodes.toNat).length=t.nodes.toNat:=by simp[Qbd]
 refine hrow.thaw2 (by omega) (by simp[hle,hl]) (fun i e he=> ?_) fun i e e' j x x' he he' hx hx'=> ?_
 ·simp only[gtm,omi]at he;obtain⟨_,_,rfl⟩:=he;rfl
 ·have hi:=Qaa he;obtain⟨y,rfl,h1⟩:=hel i e he;simp only[Qbd,gtm,omi]at he';obtain⟨_,⟨k,hk,rfl⟩,rfl⟩:=he';obtain rfl:k=i:=by
   rw[List.getElem?_range (by omega)]at hk;exact(osj hk).symm
  have hdn:Qj5 t down (k:Int)=[]:=by
   rw[Qj5,List.filter_eq_nil_iff];intro a ha;rw[hu _ a ha];simp
  rw[QbS,if_pos hf,if_pos (by omega),hdn]at hx'
  match j,hx,hx' with
  |0,hx,hx'=>cases hx;cases hx';exact .same _
  |1,hx,hx'=>cases hx;cases hx';exact Qxl h1 (by omega)
  |2,hx,hx'=>cases hx;cases hx';exact .same _
  |j+3,hx,_=>simp at hx
structure RwF (G:Nat->Prop) (w:World) (bx b1 capx cap1:Nat):Prop where
 dl:DR G w (.slice (some ⟨bx,0,none⟩) 4 capx) (.list false 3 (rgX.map Qar))
 c1:w.cell? ⟨bx,4,none⟩=some (.slice (some ⟨b1,0,none⟩) 4 cap1)
 gx:G bx
 g1:G b1
 bk:∃c t fr,w.heap[b1]? =some (.cells c t fr)/\(∀k,k<c.size->¬(fr.1<=k/\k<fr.2))/\12<=c.size
theorem RwF.ext{G G':Nat->Prop}{ι ι':Io}{h h':Hp}{w w':World}{bx b1 capx cap1:Nat}(hR:RwF G w bx b1 capx cap1)(e:Ext G ι h w G' ι' h' w')(r:HR G ι h w):RwF G' w' bx b1 capx cap1:=by
 have hg:∀b,G b->G' b/\w'.heap[b]? =w.heap[b]? :=fun b hb=>⟨e.gmono b hb,e.frame b (r.g b hb).1 (r.g b hb).2⟩
 refine⟨hR.dl.mono hg,?_,(hg _ hR.gx).1,(hg _ hR.g1).1,?_⟩
 ·rw[Qdn (hg _ hR.gx).2];exact hR.c1
 ·rw[(hg _ hR.g1).2];exact hR.bk
def Qcj(m:Ar):Ar:=fun b=>if b=0 then m b else none
def Qqe(m:Ar):Ar:=fun b=>if b=0 then none else m b
theorem Qv0{N:Nat}{G0:Nat->Prop}{ι0:Io}{h0:Hp}{w0:World}{G:Nat->Prop}{ι:Io}{e:Env}{m0 m:Ar}{rest:Hp}{a:Act}{w:World}{d:D}{l:List (List D)}(st:St N G0 ι0 h0 w0 G ι e (.am m::rest) a w)(hT:Qbs m0)(hl:l.length=4)(hR:TbR QaC [] m0 m d l):
  ∃G' bx b1 capx cap1,d= .sl bx 0 3 4 capx/\St N G0 ι0 h0 w0 G' ι e (.am (Qcj m)::rest) a w/\Qbs (Qcj m)/\RwF G' w bx b1 capx cap1:=by
 have hT0:m0 0≠none:=by rw[Qbs]at hT;rw[hT];simp
 have hTm:Qbs m:=by rw[Qbs,hR.same _ hT0];exact hT
 have hTk:Qbs (Qcj m):=by rw[Qbs,Qcj,if_pos rfl];exact hTm
 obtain⟨G',st',q⟩:=st.thaw (mS:=Qqe m) (mR:=Qcj m) (fun b x h=>by
  rw[Qqe]at h;split at h
  ·cases h
  ·rename_i e;exact⟨h,by rw[Qcj,if_neg e]⟩) (fun b x h=>by
  rw[Qcj]at h;split at h
  ·exact h
  ·cases h)
 have hkd:∀b,m0 b=none->Qqe m b=m b:=fun b hb=>by rw[Qqe,if_neg fun e=>hT0 (by rw[←e];exact hb)]
 have hrow:Qc8 3 (Qqe m) d l:=hR.row.frame fun b hb=>hkd b (hR.nw b hb)
 have hel:∀(i:Nat) (e:List D),l[i]? =some e->∃x,e=[iD (i:Int),x,.list false 1 []]/\Qc8 3 (Qqe m) x ((toL QaC [] (i:Int) QaC.nodes.toNat).map QaG):=fun i e he=>by
  obtain⟨x,h1,h2,h3,h4⟩:=hR.el i e he;exact⟨x,h1,h2.frame fun b hb=>hkd b (h3 b hb)⟩
 have htb:Qbd QaC [] QaC.nodes.toNat=rgX:=by
  have:=QyE;rw[Qiw,if_pos (by decide)]at this;exact(Prod.mk.inj this).1
 have hth:=Qs1 (t:=QaC) (down:=[]) (by decide) (fun n a _=>rfl) (by decide) hrow hel hl;rw[htb]at hth;have he1:l[1]? =some (l[1]'(by omega)):=lgE _;obtain⟨x1,hx1,hr1⟩:=hel 1 _ he1;have hlen1:((toL QaC [] ((1:Nat):Int) QaC.nodes.toNat).map QaG).length=4:=by
  rw[List.length_map];simp[toL,QaK];rfl
 rcases hrow with ⟨-,rfl⟩|⟨bx,Nx,capx,rfl,hmx,hsx,hcx,hNx⟩
 ·cases hl
 rcases hr1 with ⟨-,h0⟩|⟨b1,N1,cap1,rfl,hm1,hs1,hc1,hN1⟩
 ·rw[h0]at hlen1;cases hlen1
 rw[hlen1]at hx1 hc1;rw[hl]at hth ⊢;obtain⟨gx,c,t,fr,a1,a2,a3,a4,a5⟩:=q bx _ hmx;obtain⟨g1,c',t',fr',a1',a2',a3',a4',a5'⟩:=q b1 _ hm1;have hfl:l.flatten[1*3+1]? =some (.sl b1 0 3 4 cap1):=Qck hsx he1 (by rw[hx1];rfl);obtain⟨v,hv,hd⟩:=a5 _ _ hfl;refine⟨G',bx,b1,capx,cap1,rfl,st',hTk,Qnr q hth (.slA _ _ _ _ _),?_,gx,g1,c',t',fr',a1',a4',by omega⟩;rw[QbE a1,hv];cases hd;rfl
def QuF:AC->List AO
 | .seq (.reg _ aos) _=>aos
 |_=>[]
abbrev awB:Blk:= .bx [.d (iD 4),.d (.list true 1 []),.d (.list false 7 rgL)]
abbrev awT:AV:= .agg [.d (iD 4),.d (.list true 1 []),.d (.list false 7 rgL)]
abbrev awX:AV:= .c (.d (.list false 3 (rgX.map Qar)))
theorem QzI(n:Int)(a:Int)(_:a∈Qkd QaC n):upB [] a=true:=rfl
theorem Qp3(m:Ar)(Λ:Len)(Λo:∀l,Λ l=(l.length:Int))(K:Lv->Hp->Prop)
 (hK:∀(L:Lv) (h:Hp) (m':Ar) (d:D) (l:List (List D)),Wk 1 L h [(3,.c (.ptr 2 0 0 0)),(4,.c (.d d))] [.am m',.dead,awB]->l.length=4->TbR QaC [] m m' d l->K L h):Qy5 Tryd.prog Λ 1 5 (afB Qaq) (Qq9 0 []) [.am m] K:=by
 have h1:=Qtw Tryd.prog rfl QaC [] m (by decide) QzI;simp only[awB]at hK;simp only[Qa2,Qaf,Qak,QaY]at h1;generalize hP:Tryd.prog=P at*
 conv=>cbv
 repeat' first|exact gu|exact trivial|refine And.intro ?_ ?_|(intro hc;first|exact absurd hc (by decide)|(exfalso;omega)|((first|rw[wS (by omega) (by omega)]at hc|rw[Qad]at hc|skip);try (conv=>cbv)))|refine CallG.old ?_
 refine QcQ 4 (fun(s:Nat×Bool)=>[(1,.c (.arr 1 s.1 0 s.1)),(12,iA s.1)]) (fun s=>[.am m,.da s.2 s.1 7 (rgL.take s.1)]) (fun k s=>s.1=k/\k<=4) (0,false)
  0 (fun(rb:Bool)=>[(1,.c (.arr 1 4 0 4))]) (fun rb=>[.am m,.da rb 4 7 rgL]) (fun _=>True) (.trans (.nilS 1 7 rfl) (Wk.ca)) ⟨rfl,by omega⟩ (fun k s h=>h.2) ?_ ?_
 ·rintro kk ⟨i,rb⟩ Q' ⟨hi,hk⟩ norm jn ex rt;simp only at hi;subst hi;clear h1 hK
  match i,hk with
  |0,_=>
   clear jn ex rt
   conv=>cbv
   repeat' first|(intro(m1:Nat) (r1:Bool) (y:List (List D)) hm hr hy;obtain rfl:m1=1:=hm;obtain rfl:y=rgL.take 1:=hy;(conv=>cbv))|(intro(c:Int) hc;refine(fun(hz:c=1)=> ?_) (by rw[hc];rfl);subst hz;(conv=>cbv))|(intro(c:Int) hc;refine(fun(hz:c=0)=> ?_) (by rw[hc];rfl);subst hz;(conv=>cbv))|exact gu|exact trivial|refine And.intro ?_ ?_|(intro hc;first|exact absurd hc (by decide)|(exfalso;omega)|((first|rw[wS (by omega) (by omega)]at hc|rw[Qad]at hc|skip);try (conv=>cbv)))|refine CallG.old ?_
   all_goals (refine norm _ _ (1,_) ⟨rfl,by omega⟩ (Wk.ca))
  |1,_=>
   clear jn ex rt
   conv=>cbv
   repeat' first|(intro(m1:Nat) (r1:Bool) (y:List (List D)) hm hr hy;obtain rfl:m1=2:=hm;obtain rfl:y=rgL.take 2:=hy;(conv=>cbv))|(intro(c:Int) hc;refine(fun(hz:c=2)=> ?_) (by rw[hc];rfl);subst hz;(conv=>cbv))|(intro(c:Int) hc;refine(fun(hz:c=0)=> ?_) (by rw[hc];rfl);subst hz;(conv=>cbv))|exact gu|exact trivial|refine And.intro ?_ ?_|(intro hc;first|exact absurd hc (by decide)|(exfalso;omega)|((first|rw[wS (by omega) (by omega)]at hc|rw[Qad]at hc|skip);try (conv=>cbv)))|refine CallG.old ?_
   all_goals (refine norm _ _ (2,_) ⟨rfl,by omega⟩ (Wk.ca))
  |2,_=>
   clear jn ex rt
   conv=>cbv
   repeat' first|(intro(m1:Nat) (r1:Bool) (y:List (List D)) hm hr hy;obtain rfl:m1=3:=hm;obtain rfl:y=rgL.take 3:=hy;(conv=>cbv))|(intro(c:Int) hc;refine(fun(hz:c=3)=> ?_) (by rw[hc];rfl);subst hz;(conv=>cbv))|(intro(c:Int) hc;refine(fun(hz:c=0)=> ?_) (by rw[hc];rfl);subst hz;(conv=>cbv))|exact gu|exact trivial|refine And.intro ?_ ?_|(intro hc;first|exact absurd hc (by decide)|(exfalso;omega)|((first|rw[wS (by omega) (by omega)]at hc|rw[Qad]at hc|skip);try (conv=>cbv)))|refine CallG.old ?_
   all_goals (refine norm _ _ (3,_) ⟨rfl,by omega⟩ (Wk.ca))
  |3,_=>
   clear jn ex rt
   conv=>cbv
   repeat' first|(intro(m1:Nat) (r1:Bool) (y:List (List D)) hm hr hy;obtain rfl:m1=4:=hm;obtain rfl:y=rgL.take 4:=hy;(conv=>cbv))|(intro(c:Int) hc;refine(fun(hz:c=4)=> ?_) (by rw[hc];rfl);subst hz;(conv=>cbv))|(intro(c:Int) hc;refine(fun(hz:c=0)=> ?_) (by rw[hc];rfl);subst hz;(conv=>cbv))|exact gu|exact trivial|refine And.intro ?_ ?_|(intro hc;first|exact absurd hc (by decide)|(exfalso;omega)|((first|rw[wS (by omega) (by omega)]at hc|rw[Qad]at hc|skip);try (conv=>cbv)))|refine CallG.old ?_
   all_goals (refine norm _ _ (4,_) ⟨rfl,by omega⟩ (Wk.ca))
  |4,_=>
   clear norm ex rt
   conv=>cbv
   repeat' first|exact gu|exact trivial|refine And.intro ?_ ?_|(intro hc;first|exact absurd hc (by decide)|(exfalso;omega)|((first|rw[wS (by omega) (by omega)]at hc|rw[Qad]at hc|skip);try (conv=>cbv)))|refine CallG.old ?_
   all_goals (refine jn _ _ rb trivial (Wk.ca))
  |i+5,h=>omega
 ·rintro rb-
  have hle:4=rgL.length:=rfl;have h1f:FnS P Qdt [.agg [.d (iD 4),.d (.list true 1 []),.d (.list false 7 rgL)],.c (.d (.list true 1 []))] [.am m] _:=FnS.fg h1;clear h1;have hl4:QaC.nodes.toNat=4:=rfl;rw[hl4]at h1f;generalize TbR QaC [] m=tbr at*;generalize rgL=ll at*
  conv=>cbv
  repeat' first|(left;intro(_:Unit);(conv=>cbv))|(refine Qhg 1 4 7 4 rfl hle (by repeat' first|exact trivial|refine And.intro ?_ ?_|rfl) (by repeat' first|exact trivial|refine And.intro ?_ ?_|rfl) ?_;(conv=>cbv))|(refine QaI [0] h1f rfl rfl (by decide) (by repeat' first|exact trivial|refine And.intro ?_ ?_|rfl) rfl rfl ?_;rintro r hc' ⟨m2,rfl,d,l,rfl,hl,hR⟩;(conv=>cbv))|(refine hK _ _ m2 d l ?_ hl hR;exact(Wk.ca))|exact gu|exact trivial|refine And.intro ?_ ?_|(intro hc;first|exact absurd hc (by decide)|(exfalso;omega)|((first|rw[wS (by omega) (by omega)]at hc|rw[Qad]at hc|skip);try (conv=>cbv)))|refine CallG.old ?_
section
variable(m:Ar)(bx capx:Nat)(Λ:Len)
theorem QAm:Qdy Tryd.prog Λ 3 false (((QuF (Qia 5 (afB Qaq))).drop 0).take 2) [(3,.c (.ptr 2 0 0 0)),(4,.c (.d (.sl bx 0 3 4 capx)))] [.am m,.dead,awB]
  (fun L h=>∃L2 h2,Wk 3 L h L2 h2/\L2=[(3,.c (.ptr 2 0 0 0)),(4,.c (.d (.sl bx 0 3 4 capx))),(33,awT),(34,.c (.d (.sl bx 0 3 4 capx)))]/\h2=[.am m,.dead,awB]):=by
 simp only[awB,awT];generalize rgL=ll at*;generalize hP:Tryd.prog=P at*
 conv=>cbv
 repeat' first|exact⟨_,_,(Wk.ca),rfl,rfl⟩|exact gu|exact trivial|refine And.intro ?_ ?_|(intro hc;first|exact absurd hc (by decide)|(exfalso;omega)|((first|rw[wS (by omega) (by omega)]at hc|rw[Qad]at hc|skip);try (conv=>cbv)))|refine CallG.old ?_
theorem QAn(hT:Qbs m):Qdy Tryd.prog Λ 3 false (((QuF (Qia 5 (afB Qaq))).drop 2).take 7) [(3,.c (.ptr 2 0 0 0)),(4,.c (.d (.sl bx 0 3 4 capx))),(33,awT),(34,awX)] [.am m,.dead,awB]
  (fun L h=>∃L2 h2,Wk 3 L h L2 h2/\∃m2,Qbs m2/\L2=[(3,.c (.ptr 2 0 0 0)),(4,.c (.d (.sl bx 0 3 4 capx))),(6,.c (.d rgA)),(7,iA 0)]/\h2=[.am m2,.dead,awB]):=by
 have h2:=QxO Tryd.prog rfl m hT;simp only[Qa2,Qcu,Qaf,Qak,QaY]at h2;have h2f:FnS Tryd.prog Qdi [.agg [.d (iD 4),.d (.list true 1 []),.d (.list false 7 rgL)],.c (.d (.list false 3 (rgX.map Qar))),.agg [.d (iD 0),.d (iD 0),.d (iD 2),.d (iD 0),.d (.list true 2 []),.d (iD 0)],iA 0] [.am m] _:=FnS.fg h2;clear h2;simp only[awB,awT,awX];generalize hxl:List.map Qar rgX=xl at*;generalize rgL=ll at*;generalize hP:Tryd.prog=P at*
 conv=>cbv
 repeat' first|(refine QaI [0] h2f rfl rfl (by decide) (by repeat' first|exact trivial|refine And.intro ?_ ?_|rfl) rfl rfl ?_;rintro r hc' ⟨m2,tl2,rfl,hT2,rfl⟩;(conv=>cbv))|exact⟨_,_,(Wk.ca),m2,hT2,rfl,rfl⟩|exact gu|exact trivial|refine And.intro ?_ ?_|(intro hc;first|exact absurd hc (by decide)|(exfalso;omega)|((first|rw[wS (by omega) (by omega)]at hc|rw[Qad]at hc|skip);try (conv=>cbv)))|refine CallG.old ?_
theorem QAo:Qdy Tryd.prog Λ 3 false (((QuF (Qia 6 (afB Qaq))).drop 0).take 2) [(3,.c (.ptr 2 0 0 0)),(4,.c (.d (.sl bx 0 3 4 capx))),(6,.c (.d rgA)),(7,iA 0)] [.am m,.dead,awB]
  (fun L h=>∃L2 h2,Wk 3 L h L2 h2/\L2=[(3,.c (.ptr 2 0 0 0)),(4,.c (.d (.sl bx 0 3 4 capx))),(6,.c (.d rgA)),(7,iA 0),(40,awT),(41,.c (.d (.sl bx 0 3 4 capx)))]/\h2=[.am m,.dead,awB]):=by
 simp only[awB,awT];generalize rgA=ra at*;generalize rgL=ll at*;generalize hP:Tryd.prog=P at*
 conv=>cbv
 repeat' first|exact⟨_,_,(Wk.ca),rfl,rfl⟩|exact gu|exact trivial|refine And.intro ?_ ?_|(intro hc;first|exact absurd hc (by decide)|(exfalso;omega)|((first|rw[wS (by omega) (by omega)]at hc|rw[Qad]at hc|skip);try (conv=>cbv)))|refine CallG.old ?_
theorem QAp(hT:Qbs m):Qdy Tryd.prog Λ 3 false (((QuF (Qia 6 (afB Qaq))).drop 2).take 7) [(3,.c (.ptr 2 0 0 0)),(4,.c (.d (.sl bx 0 3 4 capx))),(6,.c (.d rgA)),(7,iA 0),(40,awT),(41,awX)] [.am m,.dead,awB]
  (fun L h=>∃L2 h2,Wk 3 L h L2 h2/\∃m2,Qbs m2/\L2=[(3,.c (.ptr 2 0 0 0)),(4,.c (.d (.sl bx 0 3 4 capx))),(6,.c (.d rgA)),(7,iA 0),(8,bA true),(9,iA 0)]/\h2=[.am m2,.dead,awB]):=by
 have h2:=QxP Tryd.prog rfl m hT;simp only[Qa2,Qcu,Qaf,Qak,QaY]at h2;have h2f:FnS Tryd.prog QcS [.agg [.d (iD 4),.d (.list true 1 []),.d (.list false 7 rgL)],.c (.d (.list false 3 (rgX.map Qar))),.agg [.d (iD 0),.d (iD 0),.d (iD 2),.d (iD 0),.d (.list true 2 []),.d (iD 0)],iA 0] [.am m] _:=FnS.fg h2;clear h2;simp only[awB,awT,awX];generalize hxl:List.map Qar rgX=xl at*;generalize rgA=ra at*;generalize rgL=ll at*;generalize hP:Tryd.prog=P at*
 conv=>cbv
 repeat' first|(refine QaI [0] h2f rfl rfl (by decide) (by repeat' first|exact trivial|refine And.intro ?_ ?_|rfl) rfl rfl ?_;rintro r hc' ⟨m2,tl2,rfl,hT2,rfl⟩;(conv=>cbv))|exact⟨_,_,(Wk.ca),m2,hT2,rfl,rfl⟩|exact gu|exact trivial|refine And.intro ?_ ?_|(intro hc;first|exact absurd hc (by decide)|(exfalso;omega)|((first|rw[wS (by omega) (by omega)]at hc|rw[Qad]at hc|skip);try (conv=>cbv)))|refine CallG.old ?_
abbrev awL (bx capx:Nat):Lv:=[(3,.c (.ptr 2 0 0 0)),(4,.c (.d (.sl bx 0 3 4 capx))),(6,.c (.d rgA)),(7,iA 0),(8,bA true),(9,iA 0)]
theorem QAq:Qdy Tryd.prog Λ 3 false (((QuF (Qia 7 (afB Qaq))).drop 0).take 3) (awL bx capx) [.am m,.dead,awB]
  (fun L h=>∃L2 h2,Wk 3 L h L2 h2/\L2=(48,.c (.d (.adr bx 4)))::awL bx capx/\h2=[.am m,.dead,awB]):=by
 simp only[awL,awB];generalize rgA=ra at*;generalize rgL=ll at*;generalize hP:Tryd.prog=P at*
 conv=>cbv
 repeat' first|(intro(k0:Nat) hk0;obtain rfl:k0=3:=hk0;(conv=>cbv))|exact⟨_,_,(Wk.ca),rfl,rfl⟩|exact gu|exact trivial|refine And.intro ?_ ?_|(intro hc;first|exact absurd hc (by decide)|(exfalso;omega)|((first|rw[wS (by omega) (by omega)]at hc|rw[Qad]at hc|skip);try (conv=>cbv)))|refine CallG.old ?_
theorem QAr(b1 cap1:Nat):Qdy Tryd.prog Λ 3 false (((QuF (Qia 7 (afB Qaq))).drop 4).take 3) ((49,.c (.d (.sl b1 0 3 4 cap1)))::(48,.c (.d (.adr bx 4)))::awL bx capx) [.am m,.dead,awB]
  (fun L h=>∃L2 h2,Wk 3 L h L2 h2/\L2=(52,.c (.d (.adr b1 6)))::(50,.c (.d (.list false 1 [[iD 1]])))::awL bx capx/\h2=[.am m,.dead,awB]):=by
 simp only[awL,awB];generalize rgA=ra at*;generalize rgL=ll at*;generalize hP:Tryd.prog=P at*
 conv=>cbv
 repeat' first|(intro(k0:Nat) hk0;obtain rfl:k0=6:=hk0;(conv=>cbv))|exact⟨_,_,(Wk.ca),rfl,rfl⟩|exact gu|exact trivial|refine And.intro ?_ ?_|(intro hc;first|exact absurd hc (by decide)|(exfalso;omega)|((first|rw[wS (by omega) (by omega)]at hc|rw[Qad]at hc|skip);try (conv=>cbv)))|refine CallG.old ?_
end
def Qhk:Code->Bool
 | .seq (.region _ _ false) _=>true
 |_=>false
theorem QkB:∀(n:Nat) (c:Code),Qkp n c=true->Qe6 (n+1) c=Qe6 1 (Qe6 n c):=by
 intro n;induction n with
 |zero=>intro c _;rfl
 |succ n ih=>
  intro c h;cases c with
  |seq a b=>exact ih b h
  |_=>cases h
section
variable{P:Program}{N:Nat}
theorem QoJ{c:Code}{aos:List AO}{y:AC}(hr:Qhk c=true)(hc:QfW P N c=some (.seq (.reg false aos) y)):
  ∃id ops c2,c= .seq (.region id ops false) c2/\QaS P ops N ops.toList=some aos/\aos.all (gOk N)=true/\QfW P N c2=some y:=by
 unfold Qhk at hr;split at hr
 ·rename_i id ops c2;refine⟨id,ops,c2,rfl,?_⟩;simp only[QfW,Qb6]at hc;split at hc
  ·rename_i x1 x2 h1 h2;cases hc;split at h1
   ·rename_i l hl;split at h1
    ·rename_i hcond;cases h1;exact⟨hl,hcond.1,h2⟩
    ·simp at h1
   ·cases h1
  ·cases hc
 ·cases hr
theorem QiP{ops:Array Oper}:∀{os:List Oper} {aos:List AO} (_:QaS P ops N os=some aos) (k:Nat),QaS P ops N (os.take k)=some (aos.take k)/\QaS P ops N (os.drop k)=some (aos.drop k):=by
 intro os;induction os with
 |nil=>
  intro aos h k;simp only[QaS,osi]at h;subst h;simp[QaS]
 |cons o os ih=>
  intro aos h k;have h0:=h;simp only[QaS]at h;split at h
  ·rename_i a l ha hl;cases h;cases k with
   |zero=>exact⟨rfl,h0⟩
   |succ k=>
    obtain⟨h1,h2⟩:=ih hl k;refine⟨?_,h2⟩;simp only[List.take_succ_cons,QaS,ha,h1]
  ·cases h
variable{G0:Nat->Prop}{ι0:Io}{h0:Hp}{w0:World}
theorem Qcp{ops:Array Oper}{m:Nat}{Λ:Len}(hΛ:∀l,Λ l=(l.length:Int)){Q:Exit->Act->World->Prop}{aos:List AO}(hall:QaS P ops N ops.toList=some aos)(hg:aos.all (gOk N)=true)(k n:Nat)(hkn:k+n<=aos.length){L:Lv}{h:Hp}{K:Lv->Hp->Prop}{a:Act}{w:World}{G:Nat->Prop}{ι:Io}(hm:h.length<=m)(st:St N G0 ι0 h0 w0 G ι (lkL L) h a w)
 (hv:Qdy P Λ m false ((aos.drop k).take n) L h fun L' h'=>∃L2 h2,Wk m L' h' L2 h2/\K L2 h2)
 (hQ:∀L' h' G' ι' a' w',K L' h'->St N G0 ι0 h0 w0 G' ι' (lkL L') h' a' w'->Ext G ι h w G' ι' h' w'->wpOpsIn (Fen none) 0 P ops Q (List.range' (k+n) (ops.size-(k+n))) a' w'):wpOpsIn (Fen none) 0 P ops Q (List.range' k (ops.size-k)) a w:=by
 have hlen:ops.size=aos.length:=by have:=(Qav hall).1;simpa using this
 have hpc:=(QiP (QiP hall k).2 n).1;have hos:((ops.toList.drop k).take n).length=n:=by simp;omega
 have:=Qnk (ro:=none) (Q:=Q) (rest:=List.range' (k+n) (ops.size-(k+n))) (k:=k) hm st (os:=(ops.toList.drop k).take n) (fun i o ho=>by
  rw[List.getElem?_take]at ho;split at ho
  ·rw[List.getElem?_drop,Array.getElem?_toList]at ho;exact ho
  ·cases ho) hpc (List.all_eq_true.2 fun x hx=>List.all_eq_true.1 hg x (List.mem_of_mem_drop (List.mem_of_mem_take hx))) (Qee hΛ hv) hQ
 rw[hos,List.range'_append_1]at this;rw[show ops.size-k=n+(ops.size-(k+n))by omega];exact this
theorem Qsw{ops:Array Oper}{Q:Exit->Act->World->Prop}{aos:List AO}(hall:QaS P ops N ops.toList=some aos)(k:Nat){d:Option Nat}{op:AOp}(hao:aos[k]? =some ⟨d,op,none⟩){e:Env}{h:Hp}{a:Act}{w:World}{G:Nat->Prop}{ι:Io}(st:St N G0 ι0 h0 w0 G ι e h a w)
 (hh:∀o,ops[k]? =some o->QhZ P ops N o=some ⟨d,op,none⟩->o.wpIn (Fen none) 0 P a w (wpOpsIn (Fen none) 0 P ops Q (List.range' (k+1) (ops.size-(k+1)))) Q):wpOpsIn (Fen none) 0 P ops Q (List.range' k (ops.size-k)) a w:=by
 have hlen:ops.size=aos.length:=by have:=(Qav hall).1;simpa using this
 have hk:=Qaa hao;obtain⟨o,ho⟩:∃o,ops[k]? =some o:=⟨_,Array.getElem?_eq_getElem (by omega)⟩;have hcO:=(Qav hall).2 k o _ (by rw[Array.getElem?_toList];exact ho) hao;obtain⟨hd,hdN,hop,hgs⟩:=Qbp hcO;rw[show ops.size-k=(ops.size-(k+1))+1 by omega,List.range'_succ,wpOpsIn_cons];unfold wpOpIn;simp only[ho];rw[Qb7 st.rel hgs (b:=true) rfl (by simp)];simp only[if_true];exact hh o ho hcO
end
section
variable{N:Nat}{ι0:Io}{m0:Ar}{w0:World}
abbrev StE (N:Nat) (ι0:Io) (m0:Ar) (w0:World):=St N (fun _=>False) ι0 [.am m0] w0
theorem St.swap{G:Nat->Prop}{ι:Io}{L:Lv}{h:Hp}{a:Act}{w:World}{bx b1 capx cap1 s:Nat}(st:StE N ι0 m0 w0 G ι (lkL L) h a w)(hR:RwF G w bx b1 capx cap1)(hs:lkN L s= .c (.d (.sl bx 0 3 4 capx)))(L2:Lv)(h2:∀p∈L2,p=(s,awX)\/lkN L p.1=p.2):
  StE N ι0 m0 w0 G ι (lkL L2) h a w:=by
 refine St.relist st L2 fun p hp=> ?_
 rcases h2 p hp with rfl|h2
 ·have:=st.rel.env s;rw[lk,←Qcl,hs]at this;have e:=Qje this;show VR G w ι h (a.tmps.getD s undef) _;rw[e];exact .c _ _ (.d _ _ hR.dl)
 ·have:=st.rel.env p.1;rw[lk,←Qcl,h2]at this;exact this
theorem QzV{c:Code}{y:AC}(hreg:Qhk c=true)(hc:QfW Tryd.prog N c=some (.seq (.reg false (QuF (Qia 5 (afB Qaq)))) y)){post:Exit->Act->World->Prop}{m:Ar}{bx b1 capx cap1:Nat}{G:Nat->Prop}{ι:Io}{a:Act}{w:World}
 (st:StE N ι0 m0 w0 G ι (lkL [(3,.c (.ptr 2 0 0 0)),(4,.c (.d (.sl bx 0 3 4 capx)))]) [.am m,.dead,awB] a w)(hT:Qbs m)(hR:RwF G w bx b1 capx cap1)
 (hk:∀m' G' ι' a' w',QfW Tryd.prog N (Qe6 1 c)=some y->Qbs m'->StE N ι0 m0 w0 G' ι' (lkL [(3,.c (.ptr 2 0 0 0)),(4,.c (.d (.sl bx 0 3 4 capx))),(6,.c (.d rgA)),(7,iA 0)]) [.am m',.dead,awB] a' w'->RwF G' w' bx b1 capx cap1->(Qe6 1 c).wpIn (Fen none) 0 Tryd.prog post a' w'):c.wpIn (Fen none) 0 Tryd.prog post a w:=by
 obtain⟨id,ops,c2,rfl,hall,hg,hc2⟩:=QoJ hreg hc;have hsz:ops.size=9:=by have:=(Qav hall).1;rw[Array.length_toList]at this;rw[this];rfl
 refine wpIn_seq (wpIn_region ?_);rw[List.range_eq_range'];refine Qcp (Λ:=fun l=>(l.length:Int)) (fun _=>rfl) hall hg 0 2 (by decide) (m:=3) (Nat.le_refl _) st (QAm m bx capx _) fun L1 h1 G1 ι1 a1 w1 ⟨e1,e2⟩ st1 x1=> ?_
 subst e1 e2;have hR1:=hR.ext x1 st.rel.hr;have st2:=St.swap st1 hR1 (s:=34) rfl [(3,.c (.ptr 2 0 0 0)),(4,.c (.d (.sl bx 0 3 4 capx))),(33,awT),(34,awX)] (fun p hp=>by
  simp only[List.mem_cons,List.not_mem_nil,or_false]at hp;rcases hp with rfl|rfl|rfl|rfl
  ·exact .inr rfl
  ·exact .inr rfl
  ·exact .inr rfl
  ·exact .inl rfl)
 refine Qcp (Λ:=fun l=>(l.length:Int)) (fun _=>rfl) hall hg 2 7 (by decide) (m:=3) (Nat.le_refl _) st2 (QAn m bx capx _ hT) fun L3 h3 G3 ι3 a3 w3 ⟨m3,hT3,e1,e2⟩ st3 x3=> ?_
 subst e1 e2;have hR3:=hR1.ext x3 st1.rel.hr;rw[hsz];exact hk m3 G3 ι3 a3 w3 hc2 hT3 st3 hR3
theorem QzW{c:Code}{y:AC}(hreg:Qhk c=true)(hc:QfW Tryd.prog N c=some (.seq (.reg false (QuF (Qia 6 (afB Qaq)))) y)){post:Exit->Act->World->Prop}{m:Ar}{bx b1 capx cap1:Nat}{G:Nat->Prop}{ι:Io}{a:Act}{w:World}
 (st:StE N ι0 m0 w0 G ι (lkL [(3,.c (.ptr 2 0 0 0)),(4,.c (.d (.sl bx 0 3 4 capx))),(6,.c (.d rgA)),(7,iA 0)]) [.am m,.dead,awB] a w)(hT:Qbs m)(hR:RwF G w bx b1 capx cap1)
 (hk:∀m' G' ι' a' w',QfW Tryd.prog N (Qe6 1 c)=some y->Qbs m'->StE N ι0 m0 w0 G' ι' (lkL (awL bx capx)) [.am m',.dead,awB] a' w'->RwF G' w' bx b1 capx cap1->(Qe6 1 c).wpIn (Fen none) 0 Tryd.prog post a' w'):c.wpIn (Fen none) 0 Tryd.prog post a w:=by
 obtain⟨id,ops,c2,rfl,hall,hg,hc2⟩:=QoJ hreg hc;have hsz:ops.size=9:=by have:=(Qav hall).1;rw[Array.length_toList]at this;rw[this];rfl
 refine wpIn_seq (wpIn_region ?_);rw[List.range_eq_range'];refine Qcp (Λ:=fun l=>(l.length:Int)) (fun _=>rfl) hall hg 0 2 (by decide) (m:=3) (Nat.le_refl _) st (QAo m bx capx _) fun L1 h1 G1 ι1 a1 w1 ⟨e1,e2⟩ st1 x1=> ?_
 subst e1 e2;have hR1:=hR.ext x1 st.rel.hr;have st2:=St.swap st1 hR1 (s:=41) rfl [(3,.c (.ptr 2 0 0 0)),(4,.c (.d (.sl bx 0 3 4 capx))),(6,.c (.d rgA)),(7,iA 0),(40,awT),(41,awX)] (fun p hp=>by
  simp only[List.mem_cons,List.not_mem_nil,or_false]at hp;rcases hp with rfl|rfl|rfl|rfl|rfl|rfl
  ·exact .inr rfl
  ·exact .inr rfl
  ·exact .inr rfl
  ·exact .inr rfl
  ·exact .inr rfl
  ·exact .inl rfl)
 refine Qcp (Λ:=fun l=>(l.length:Int)) (fun _=>rfl) hall hg 2 7 (by decide) (m:=3) (Nat.le_refl _) st2 (QAp m bx capx _ hT) fun L3 h3 G3 ι3 a3 w3 ⟨m3,hT3,e1,e2⟩ st3 x3=> ?_
 subst e1 e2;have hR3:=hR1.ext x3 st1.rel.hr;rw[hsz];exact hk m3 G3 ι3 a3 w3 hc2 hT3 st3 hR3
end
section
variable{G:Nat->Prop}{ι ι0:Io}{w0 w w':World}{m m0:Ar}{b1 o0:Nat}{v0:Value}{cs:List D}
theorem Qd3{b:Nat}{x:AB}(h:Qcj m b=some x):m b=some x/\b=0:=by
 rw[Qcj]at h;split at h
 ·rename_i e;exact⟨h,e⟩
 ·cases h
theorem QlL{b:Nat}{x:AB}(h:Qcj m b=some x)(hT:Qbs m):x=pwB:=by
 obtain⟨h1,rfl⟩:=Qd3 h;rw[Qbs]at hT;rw[hT]at h1;exact(osj h1).symm
theorem Qjg(hT:Qbs m):Qbs (Qcj m):=by rw[Qbs,Qcj,if_pos rfl];exact hT
theorem QoP{G':Nat->Prop}{b:Nat}(h:ABR G w b pwB)(hb:w'.heap[b]? =w.heap[b]?):ABR G' w' b pwB:=by
 obtain⟨o,h1,h2⟩:=h;exact⟨o,by rw[hb];exact h1,h2⟩
theorem Qm5{i k:Nat}{B:Blk}{r:Hp}{b:Nat}(_:i=k)(h:(Blk.am (Qcj m)::r)[i]? =some B)(ho:Qcn ι i B b):∃B',(Blk.am m::r)[i]? =some B'/\Qcn ι i B' b:=by
 cases i with
 |zero=>
  simp only[List.getElem?_cons_zero,osi]at h;subst h;obtain⟨x,hx⟩:=ho;exact⟨_,rfl,x,(Qd3 hx).1⟩
 |succ i=>exact⟨B,h,ho⟩
theorem Qgl{r:Hp}{b:Nat}(h:owned ι (.am (Qcj m)::r) b):owned ι (.am m::r) b:=by
 obtain⟨i,B,h1,h2⟩:=h;obtain⟨B',h3,h4⟩:=Qm5 (k:=i) rfl h1 h2;exact⟨i,B',h3,h4⟩
theorem QwL(hw:∀b o,¬(b=b1/\o=o0)->w'.cell? ⟨b,o,none⟩=w.cell? ⟨b,o,none⟩)(hv:w.cell? ⟨b1,o0,none⟩=some v0)(hsz:w'.heap.size=w.heap.size)(hoth:∀b,b≠b1->w'.heap[b]? =w.heap[b]?)(g1:G b1)
   (r:HR G ι [.am m,.dead,.bx (cs.map CV.d)] w)(hT:Qbs m)(hno:∀(i:Nat) (x:D),cs[i]? =some x->NoW (DR G w v0) x):HR G ι [.am (Qcj m),.dead,.bx (cs.map CV.d)] w':=by
  have hnb:∀b,owned ι [.am m,.dead,.bx (cs.map CV.d)] b->b≠b1:=fun b ho e=>(r.g b1 g1).2 (e▸ho)
  exact
    { len:=r.len
      own:=fun l l' b k k' h1 h2 h3 h4=>by
        obtain⟨k1,a1,a2⟩:=Qm5 (k:=l) rfl h1 h3;obtain⟨k2,b1,b2⟩:=Qm5 (k:=l') rfl h2 h4;exact r.own l l' b k1 k2 a1 b1 a2 b2
      g:=fun b hb=>⟨by rw[hsz];exact(r.g b hb).1,fun ho=>(r.g b hb).2 (Qgl ho)⟩
      blk:=fun l k hk=>by
        match l,hk with
        |0,hk=>
          cases hk;intro b x hx;have hxe:=QlL hx hT;have hmx:=(Qd3 hx).1;subst hxe;exact QoP (r.blk 0 _ rfl b _ hmx) (hoth b (hnb b ⟨0,_,rfl,_,hmx⟩))
        |1,hk=>cases hk;trivial
        |2,hk=>
          cases hk;obtain⟨b,o,c,t,fr,h1,h2,h3,h4,h5⟩:=r.blk 2 _ rfl;have hne:=hnb b (Qey h1 (rfl:([Blk.am m,.dead,.bx (cs.map CV.d)])[2]? =_) rfl);refine⟨b,o,c,t,fr,h1,by rw[hoth b hne];exact h2,h3,h4,fun i x hx=> ?_⟩;obtain⟨v,hcv,hr⟩:=h5 i x hx;simp only[gtm,omi]at hx;obtain⟨y,hy,rfl⟩:=hx;cases hr with
          |d _ _ hd=>exact⟨v,hcv,.d _ _ (DR.poke hw hv (hno i y hy) hd)⟩
        |l+3,hk=>simp at hk}
theorem QuA(hsz:w'.heap.size=w.heap.size)(hoth:∀b,b≠b1->w'.heap[b]? =w.heap[b]?)(hq:Quiet w w')(g1:G b1){r:Hp}(e:Ext (fun _=>False) ι0 [.am m0] w0 G ι (.am m::r) w):Ext (fun _=>False) ι0 [.am m0] w0 G ι (.am (Qcj m)::r) w' where
 size:=by rw[hsz];exact e.size
 quiet:=⟨hq.1.trans e.quiet.1,hq.2.1.trans e.quiet.2.1,hq.2.2.1.trans e.quiet.2.2.1,Nat.le_trans e.quiet.2.2.2 hq.2.2.2⟩
 frame:=fun b hb hno=>by
  have hne:b≠b1:=fun h=>by
   subst h;rcases e.gnew b g1 with h|h|h
   ·exact h
   ·omega
   ·exact hno h
  rw[hoth b hne];exact e.frame b hb hno
 gmono:=fun b h=>h.elim
 gnew:=e.gnew
 onew:=fun b ho=>e.onew b (Qgl ho)
 keep:=fun l k hk=>by
  match l,hk with
  |0,hk=>cases hk;exact⟨_,rfl,trivial⟩
  |l+1,hk=>simp at hk
theorem QqA(hoth:∀b,b≠b1->w'.heap[b]? =w.heap[b]?)(g1:G b1){r:Hp}{ds:List Deferred}(hm:Marks w0 G ι (.am m::r) ds w):Marks w0 G ι (.am (Qcj m)::r) ds w':=by
 obtain⟨bs,e,hn,hb⟩:=hm;refine⟨bs,e,hn,fun b hbb=> ?_⟩;obtain⟨h1,h2,h3,h4⟩:=hb b hbb;exact⟨h1,by rw[hoth b fun e=>h3 (e▸g1)];exact h2,h3,fun ho=>h4 (Qgl ho)⟩
theorem QuB{h:Hp}{v:Value}{B:Blk}(hh:VR G w ι [.am m,.dead,B] v (.c (.ptr 2 0 0 0))):VR G w' ι [.am (Qcj m),.dead,B] v (.c (.ptr 2 0 0 0)):=by
 have:=Qd2 hh;cases this with
 |ptr _ _ _ _ _ blk hb ha hk=>exact .c _ _ (.ptr _ _ _ _ _ blk hb ha hk)
end
theorem QyC{G:Nat->Prop}{w:World}{v0:Value}(h:DR G w v0 (.list false 1 [[.int .i64 2]])):NoW (DR G w v0) rgA:=QaQ h 6 rfl
section
variable{N:Nat}{ι0:Io}{m0:Ar}{w0:World}
abbrev QyY:Lv:=[(3,.c (.ptr 2 0 0 0)),(4,.c (.d (.list false 3 (rgY.map Qar)))),(6,.c (.d rgA)),(7,iA 0),(8,bA true),(9,iA 0)]
theorem QtC{m:Ar}{bx b1 capx cap1:Nat}{G:Nat->Prop}{ι:Io}{a:Act}{w w':World}{c c':Array Value}{t:TypeId}{fr:Nat×Nat}{u:Value}
 (st:StE N ι0 m0 w0 G ι (lkL ((52,.c (.d (.adr b1 6)))::(50,.c (.d (.list false 1 [[iD 1]])))::awL bx capx)) [.am m,.dead,awB] a w)(hT:Qbs m)(hR:RwF G w bx b1 capx cap1)
 (h1:w.heap[b1]? =some (.cells c t fr))(h12:12<=c.size)(hu:DR G w u (.list false 1 [[iD 1]]))
 (q2:w'.heap[b1]? =some (.cells c' t fr))(q4:∀k,c'[k]? =if 6<=k/\k<7 then [u][k-6]? else c[k]?)(q5:w'.heap.size=w.heap.size)(q6:∀b',b'≠b1->w'.heap[b']? =w.heap[b']?)(q7:Quiet w w')(a':Act)(ha:a'=a.put none undef):
  StE N ι0 m0 w0 G ι (lkL QyY) [.am (Qcj m),.dead,awB] a' w':=by
 have hat:a'=a:=ha;subst hat;clear ha;have hw:∀b o,¬(b=b1/\o=6)->w'.cell? ⟨b,o,none⟩=w.cell? ⟨b,o,none⟩:=by
  intro b o hn;by_cases hb:b=b1
  ·subst hb;rw[QbE q2,QbE h1,q4,if_neg];rintro⟨g1,g2⟩;exact hn ⟨rfl,by omega⟩
  ·exact Qdn (q6 b hb) o
 obtain⟨v0,hv0⟩:∃v0,c[6]? =some v0:=⟨_,Array.getElem?_eq_getElem (by omega)⟩;have hv:w.cell? ⟨b1,6,none⟩=some v0:=by rw[QbE h1];exact hv0
 have hold:DR G w v0 (.list false 1 [[iD 2]]):=by
  obtain⟨v1,e1,e2⟩:=Qln hR.dl (i:=1) (j:=1) rfl rfl;have hc1:=hR.c1;rw[show 0+1*3+1=4 from rfl,hc1]at e1;cases e1;obtain⟨v2,e3,e4⟩:=Qln e2 (i:=2) (j:=0) rfl rfl;rw[show 0+2*3+0=6 from rfl,hv]at e3;cases e3;exact e4
 have hu6:w'.cell? ⟨b1,6,none⟩=some u:=by rw[QbE q2,q4];rfl
 have hu':DR G w' u (.list false 1 [[iD 1]]):=DR.poke hw hv (QaQ hold 5 rfl) hu;have htab:=(Qsy hw hv hR.dl (show w.cell? ⟨bx,0+1*3+1,none⟩=_ from hR.c1) (show 6=0+2*3+0 from rfl) hu6 hu').2;have hno:∀(i:Nat) (x:D),([iD 4,.list true 1 [],.list false 7 rgL]:List D)[i]? =some x->NoW (DR G w v0) x:=by
  intro i x hx
  match i,hx with
  |0,hx=>cases hx;exact QaQ hold 6 rfl
  |1,hx=>cases hx;exact QaQ hold 6 rfl
  |2,hx=>cases hx;exact QaQ hold 6 rfl
  |i+3,hx=>simp at hx
 have hr':=QwL (cs:=[iD 4,.list true 1 [],.list false 7 rgL]) hw hv q5 q6 hR.g1 st.rel.hr hT hno;refine⟨⟨hr',st.rel.size,?_⟩,QuA q5 q6 q7 hR.g1 st.ext,QqA q6 hR.g1 st.dfr⟩;have hst:StE N ι0 m0 w0 G ι _ _ a' w:=st;have e4:VR G w ι _ (a'.tmps.getD 4 undef) (.c (.d (.sl bx 0 3 4 capx))):=st.rel.env 4;have e4:=Qje e4;have e3:VR G w ι _ (a'.tmps.getD 3 undef) (.c (.ptr 2 0 0 0)):=st.rel.env 3;have e6:VR G w ι _ (a'.tmps.getD 6 undef) (.c (.d rgA)):=st.rel.env 6;have e7:VR G w ι _ (a'.tmps.getD 7 undef) (iA 0):=st.rel.env 7;have e8:VR G w ι _ (a'.tmps.getD 8 undef) (bA true):=st.rel.env 8;have e9:VR G w ι _ (a'.tmps.getD 9 undef) (iA 0):=st.rel.env 9;have all:∀p∈QyY,VR G w' ι [.am (Qcj m),.dead,awB] (a'.tmps.getD p.1 undef) p.2:=by
  intro p hp;simp only[List.mem_cons,List.not_mem_nil,or_false]at hp;rcases hp with rfl|rfl|rfl|rfl|rfl|rfl
  ·exact QuB (h:=[]) e3
  ·show VR G w' ι _ (a'.tmps.getD 4 undef) _;rw[e4];exact .c _ _ (.d _ _ htab)
  ·exact .c _ _ (.d _ _ (DR.poke hw hv (QyC hold) (Qb8 e6)))
  ·exact .c _ _ (.d _ _ (DR.poke hw hv (.int _ _) (Qb8 e7)))
  ·exact .c _ _ (.d _ _ (DR.poke hw hv (.bool _) (Qb8 e8)))
  ·exact .c _ _ (.d _ _ (DR.poke hw hv (.int _ _) (Qb8 e9)))
 intro i;generalize QyY=L at all ⊢;induction L with
 |nil=>exact .c _ _ (.u _)
 |cons p r ih=>
  obtain⟨j,v⟩:=p;simp only[lk,lkL,upd];split
  ·rename_i e;subst e;exact all (j,v) (by simp)
  ·exact ih fun p hp=>all p (by simp[hp])
end
def Qy2(o:Oper):Bool:=match o.op with
 | .load _ (.tmp s)=>Nat.beq s 48
 |_=>false
def Qua(o:Oper):Bool:=match o.op with
 | .store _ (.tmp s) (.tmp u)=>Nat.beq s 52&&Nat.beq u 50
 |_=>false
def QxA(k:Nat)(p:Oper->Bool):Code->Bool
 | .seq (.region _ ops _) _=>(match ops[k]? with
  |some o=>p o
  |none=>false)
 |_=>false
theorem Qr5{o:Oper}(h:Qy2 o=true):∃t,o.op= .load t (.tmp 48):=by
 unfold Qy2 at h;split at h
 ·rename_i t s hs;have:=Nat.eq_of_beq_eq_true h;subst this;exact⟨t,hs⟩
 ·cases h
theorem Qqq{o:Oper}(h:Qua o=true):∃t,o.op= .store t (.tmp 52) (.tmp 50):=by
 unfold Qua at h;split at h
 ·rename_i t s u hs;rw[Bool.and_eq_true]at h;have h1:=Nat.eq_of_beq_eq_true h.1;have h2:=Nat.eq_of_beq_eq_true h.2;subst h1 h2;exact⟨t,hs⟩
 ·cases h
section
variable{N:Nat}{ι0:Io}{m0:Ar}{w0:World}
theorem QzX{c:Code}{y:AC}(hreg:Qhk c=true)(hld:QxA 3 Qy2 c=true)(hsto:QxA 7 Qua c=true)(hc:QfW Tryd.prog N c=some (.seq (.reg false (QuF (Qia 7 (afB Qaq)))) y)){post:Exit->Act->World->Prop}{m:Ar}{bx b1 capx cap1:Nat}{G:Nat->Prop}{ι:Io}{a:Act}{w:World}
 (st:StE N ι0 m0 w0 G ι (lkL (awL bx capx)) [.am m,.dead,awB] a w)(hT:Qbs m)(hR:RwF G w bx b1 capx cap1)
 (hk:∀m' G' ι' a' w',QfW Tryd.prog N (Qe6 1 c)=some y->Qbs m'->StE N ι0 m0 w0 G' ι' (lkL QyY) [.am m',.dead,awB] a' w'->(Qe6 1 c).wpIn (Fen none) 0 Tryd.prog post a' w'):c.wpIn (Fen none) 0 Tryd.prog post a w:=by
 obtain⟨id,ops,c2,rfl,hall,hg,hc2⟩:=QoJ hreg hc;have hsz:ops.size=8:=by have:=(Qav hall).1;rw[Array.length_toList]at this;rw[this];rfl
 refine wpIn_seq (wpIn_region ?_);rw[List.range_eq_range'];refine Qcp (Λ:=fun l=>(l.length:Int)) (fun _=>rfl) hall hg 0 3 (by decide) (m:=3) (Nat.le_refl _) st (QAq m bx capx _) fun L1 h1 G1 ι1 a1 w1 ⟨e1,e2⟩ st1 x1=> ?_
 subst e1 e2;have hR1:=hR.ext x1 st.rel.hr;refine Qsw hall 3 (d:=some 49) (op:= .ld (.t 48) none) rfl st1 fun o ho hcO=> ?_
 obtain⟨t,hop⟩:=Qr5 (o:=o) (by simpa only[QxA,ho]using hld);obtain⟨hd,hdN,hop',-⟩:=Qbp hcO;simp only[Qab,hop]at hop';split at hop'
 ·rename_i n yy hn hy;cases hop';have hp:a1.eval (.tmp 48)= .pointer (some ⟨bx,4,none⟩):=Qdq (st1.rel.env 48);have hcell:=hR1.c1;refine Qew (fun c hc=>by rw[hop]at hc;cases hc) (v:= .slice (some ⟨b1,0,none⟩) 4 cap1) (w':=w1) (by simp[execOp,hop,hp,Instr.loadAt,Instr.sureAddr,loadVar,QlN hn,hcell]) ?_;have st2:=st1.step (dst:=o.dst) hdN st1.rel.hr (.c _ _ (.d _ _ (.slA b1 0 3 4 cap1))) (Ext.refl _ _ _ _);rw[←hd]at st2 ⊢;refine Qcp (Λ:=fun l=>(l.length:Int)) (fun _=>rfl) hall hg 4 3 (by decide) (m:=3) (Nat.le_refl _) (L:=(49,.c (.d (.sl b1 0 3 4 cap1)))::(48,.c (.d (.adr bx 4)))::awL bx capx) st2 (QAr m bx capx _ b1 cap1) fun L3 h3 G3 ι3 a3 w3 ⟨e1,e2⟩ st3 x3=> ?_
  subst e1 e2;have hR3:=hR1.ext x3 st1.rel.hr;refine Qsw hall 7 (d:=none) (op:= .st (.t 52) (.t 50) 1) rfl st3 fun o2 ho2 hcO2=> ?_
  obtain⟨t2,hop2⟩:=Qqq (o:=o2) (by simpa only[QxA,ho2]using hsto);obtain⟨hd2,-,hop2',-⟩:=Qbp hcO2;simp only[Qab,hop2]at hop2';split at hop2'
  ·rename_i i x' y' hi hx hy;simp only[AOp.st.injEq]at hop2';obtain⟨-,-,his⟩:=hop2';have hp:a3.eval (.tmp 52)= .pointer (some ⟨b1,6,none⟩):=Qdq (st3.rel.env 52);have hu:DR G3 w3 (a3.eval (.tmp 50)) (.list false 1 [[iD 1]]):=Qb8 (st3.rel.env 50);obtain⟨aa,cap,hue⟩:=QrF hu;obtain⟨cc,tt,fr,b1',b2',b3'⟩:=hR3.bk;have hcl:(a3.eval (.tmp 50)).cells= #[a3.eval (.tmp 50)]:=by rw[hue];rfl
   obtain⟨w',c',q1,q2,q3,q4,q5,q6,q7⟩:=Qbl Tryd.prog b1 6 tt fr [a3.eval (.tmp 50)] w3 cc 0 b1' b2' (by simp;omega) (fun v hv=>by simp at hv;rw[hv,hue];rfl);refine Qf4 (fun c hc=>by rw[hop2]at hc;cases hc) (w':=w') (by simp[execOp,hop2,hp,Instr.storeAt,Instr.sureAddr,storeVar,QaW hi,←his,hcl,q1]) ?_;have st4:=QtC st3 hT hR3 b1' b3' hu q2 (fun k=>by rw[q4];simp) q5 q6 q7 (a3.put o2.dst undef) (by rw[←hd2]);rw[hsz];exact hk _ _ _ _ _ hc2 (Qjg hT) st4
  ·cases hop2'
 ·cases hop'
end
def Qx0(c:Code):Bool:=Qkp 8 c&&Qhk (Qe6 5 c)&&Qhk (Qe6 6 c)&&Qhk (Qe6 7 c)&&QxA 3 Qy2 (Qe6 7 c)&&QxA 7 Qua (Qe6 7 c)
def Qx1(f:Option Func)(p:Code->Bool):Bool:=match f with
 |some fn=>(match fn.body with
  |some c=>p c
  |none=>false)
 |none=>false
theorem QxQ:Qx1 Tryd.prog.funcs[Qcy]? Qx0=true:=by
 rw[QfB]
 kernel_rfl
theorem Qjf:∀{n k:Nat} {c:Code},k<=n->Qkp n c=true->Qkp k c=true:=by
  intro n;induction n with
  |zero=>intro k c hk _;obtain rfl:k=0:=by omega
         rfl
  |succ n ih=>
    intro k c hk h;cases k with
    |zero=>rfl
    |succ k=>
      cases c with
      |seq a b=>exact ih (k:=k) (c:=b) (by omega) h
      |_=>cases h
theorem Qqx{G:Nat->Prop}{ι:Io}{m:Ar}{w:World}(r:HR G ι [.am m] w)(hT:Qbs m):HR (fun _=>False) ι [.am (Qcj m)] w where
 len:=r.len
 own:=fun l l' b k k' h1 h2 h3 h4=>by
  obtain⟨k1,a1,a2⟩:=Qm5 (k:=l) rfl h1 h3;obtain⟨k2,b1,b2⟩:=Qm5 (k:=l') rfl h2 h4;exact r.own l l' b k1 k2 a1 b1 a2 b2
 g:=fun b h=>h.elim
 blk:=fun l k hk=>by
  match l,hk with
  |0,hk=>
   cases hk;intro b x hx;have hxe:=QlL hx hT;have hmx:=(Qd3 hx).1;subst hxe;exact QoP (r.blk 0 _ rfl b _ hmx) rfl
  |l+1,hk=>simp at hk
theorem Qp1{fn:Func}(hfn:Tryd.prog.funcs[Qcy]? =some fn)(hcf:QaJ Tryd.prog fn=some Qaq):QnI Tryd.prog:=by
  intro m hT;refine⟨fun G ι w vs hr hvs=> ?_⟩;obtain⟨c,hb,hac,hres,hnt⟩:=QgN hcf;have hchk:=QxQ;rw[hfn]at hchk;simp only[Qx1,hb,Qx0,Bool.and_eq_true]at hchk;obtain⟨⟨⟨⟨⟨k8,k5⟩,k6⟩,k7⟩,kl⟩,ks⟩:=hchk;have hr0:=Qqx hr hT;have hvs0:vs=[]:=List.eq_nil_of_length_eq_zero (by simpa using hvs.1);subst hvs0;have henter:=QgR (af:=Qaq) (args:=[]) (vs:=[]) hnt (by simp) hr0 ⟨rfl,fun i v x h1 h2=>by simp at h1⟩;have hΛ:∀l:List (List D),(fun l:List (List D)=>(l.length:Int)) l=(l.length:Int):=fun _=>rfl
  have hwp:∀a,Fits fn.ntmps (fun _=>False) ι [.am (Qcj m)] w (lkL (Qq9 0 [])) [.am (Qcj m)] a w->c.wpIn (Fen none) 0 Tryd.prog (out fn.ntmps (fun _=>False) ι [.am (Qcj m)] w fun x L h=>match x with
        | .exit _=>False
        |_=>lkN L 0=bA true/\∃m' tl,h= .am m'::tl/\Qbs m') a w:=by
    intro a0 hf0;refine QtI (Λ:=fun l=>(l.length:Int)) hΛ (m:=1) mixed (Nat.le_refl _) 5 c (afB Qaq) (Qq9 0 []) [.am (Qcj m)] _ w (Qjf (by omega) k8) hac (Qp3 (Qcj m) _ hΛ (fun L h=>∃m' d l,Wk 1 L h [(3,.c (.ptr 2 0 0 0)),(4,.c (.d d))] [.am m',.dead,awB]/\l.length=4/\TbR QaC [] (Qcj m) m' d l) fun L h m' d l q1 q2 q3=>⟨m',d,l,q1,q2,q3⟩) hf0 ?_;rintro L h a1 w1 ⟨m1,d,l,hw1,hl,htb⟩ hf1 hc5;obtain⟨G1,ι1,st1⟩:=hw1.fits (Nat.le_refl _) hf1;obtain⟨G2,bx,b1,capx,cap1,rfl,st2,hT2,hR2⟩:=Qv0 st1 (Qjg hT) hl htb;refine QzV k5 hc5 st2 hT2 hR2 fun m3 G3 ι3 a3 w3 hc6 hT3 st3 hR3=> ?_
    rw[←QkB 5 c (Qjf (by omega) k8)]at hc6 ⊢;refine QzW k6 hc6 st3 hT3 hR3 fun m4 G4 ι4 a4 w4 hc7 hT4 st4 hR4=> ?_
    rw[←QkB 6 c (Qjf (by omega) k8)]at hc7 ⊢;refine QzX k7 kl ks hc7 st4 hT4 hR4 fun m5 G5 ι5 a5 w5 hc8 hT5 st5=> ?_
    exact QgF (Λ:=fun l=>(l.length:Int)) hΛ (m:=1) mixed (Nat.le_refl _) _ _ _ _ _ a5 w5 hc8 (Qrp m5 hT5 _ hΛ) ⟨G5,ι5,st5⟩
  refine .of hfn (QfT hfn hb (wpIn_mono (hwp _ henter) fun x a w' ⟨L,h',hq,hfit⟩=> ?_));have fin:(lkN L 0=bA true/\∃m' tl,h'= .am m'::tl/\Qbs m')->LeavesInM Fence.wide 0 Tryd.prog fn a.tmps (fun e w'=>∃v r G' ι' h'',e= .returned v/\(r=bA true/\∃m' tl,h''= .am m'::tl/\Qbs m')/\HR G' ι' h'' w'/\VR G' w' ι' h'' v r/\Ext G ι [.am m] w G' ι' h'' w') a.defers .returning w':=by
    rintro⟨hr1,m',tl,rfl,hT'⟩;refine QgT hfit fun G1 ι1 w2 rel ext=> ?_
    obtain⟨us,q1,q2⟩:=Qf7 (P:=Tryd.prog) (af:=Qaq) (vs:=[lkN L 0]) hres rel.hr rel.env (by rw[Qcl];rfl);have hv:=Qg7 q2;rw[hr1]at hv;have hbv:=Qzj (Qb8 hv);have hao:∀b,owned (ι1.take 1) [.am (Qcj m')] b->owned ι1 (.am m'::tl) b:=fun b ⟨i,k,h1,h2⟩=>by
      match i,h1 with
      |0,h1=>
        cases h1;obtain⟨x,hx⟩:=h2;exact⟨0,_,rfl,x,(Qd3 hx).1⟩
      |i+1,h1=>simp at h1
    have hon:∀b,owned (ι1.take 1) [.am (Qcj m')] b->owned ι [.am m] b\/w.heap.size<=b:=fun b hb=>(ext.onew b (hao b hb)).imp Qgl id
    refine⟨_,q1,_,bA true,G,ι1.take 1,[.am (Qcj m')],rfl,⟨rfl,Qcj m',[],rfl,Qjg hT'⟩,?_,?_,?_⟩
    · exact
        { len:=by have:=rel.hr.len;simp at this ⊢;omega
          own:=fun l l' b k k' h1 h2 _ _=>by
            have:=Qaa h1;have:=Qaa h2;simp at *;omega
          g:=fun b hb=>⟨Nat.lt_of_lt_of_le (hr.g b hb).1 ext.size,fun ho=>(hon b ho).elim (hr.g b hb).2 fun h=>by have:=(hr.g b hb).1;omega⟩
          blk:=fun l k hk=>by
            match l,hk with
            |0,hk=>
              cases hk;intro b x hx;have hxe:=QlL hx hT';have hmx:=(Qd3 hx).1;subst hxe;exact QoP (rel.hr.blk 0 _ rfl b _ hmx) rfl
            |l+1,hk=>simp at hk}
    · have hv':VR G1 w2 ι1 (.am m'::tl) _ (bA true):=hv
      rw[hbv];exact .c _ _ (.d _ _ (.bool true))
    · exact
        { size:=ext.size
          quiet:=ext.quiet
          frame:=fun b hb hno=>ext.frame b hb fun ho=>hno (Qgl ho)
          gmono:=fun b h=>h
          gnew:=fun b h=> .inl h
          onew:=hon
          keep:=fun l k hk=>by
            match l,hk with
            |0,hk=>cases hk;exact⟨_,rfl,trivial⟩
            |l+1,hk=>simp at hk}
  cases x with
  |normal=>exact fin hq
  |ret=>exact fin hq
  |exit i=>exact hq.elim
  |goto=>exact hq.elim
  |panic=>exact hq.elim
  |outgrown=>exact hq.elim
theorem Qp2:QnI Tryd.prog:=Qp1 QfB Qlc
end Go.Ab
