/-
  Merged texts, part v.
-/
import Derived.Test.YtohbofilgkdihaaGreatDoorZu
import Derived.Shelf.Sort.Plain
import Derived.Shelf.Slices.In.SortNone
import Derived.Ground.NamesProg
import Derived.Ground.Names2Prog
import Derived.Test.YtohbofilgkdihaaGreatDoorProg
set_option linter.all false
namespace Go.Proofs
open Go.Shelf
def Tryz.lays189_ren:Go.Shelf.Ren:=⟨λ|189=>36|125=>62|257=>61|128=>97|129=>98|294=>88|295=>89|296=>90|297=>91|298=>92|299=>93|216=>94|300=>95|301=>96|328=>112|329=>113|330=>114|331=>115|332=>116|215=>117|343=>125|n=>n,λ|28=>43|3=>3|46=>127|0=>0|51=>162|53=>164|4=>4|183=>154|182=>153|131=>159|5=>5|9=>9|218=>176|222=>180|228=>189|229=>190|n=>n,λ|n=>n⟩
theorem Tryz.lays189:Go.Proofs.Lays.n189 Tryz.prog Tryz.lays189_ren:={
  mixed:=by kernel_rfl
  f125:=Tryz.func62.trans (congrArg some (by kernel_rfl))
  f128:=Tryz.func97.trans (congrArg some (by kernel_rfl))
  f129:=Tryz.func98.trans (congrArg some (by kernel_rfl))
  f189:=Tryz.func36.trans (congrArg some (by kernel_rfl))
  f215:=Tryz.func117.trans (congrArg some (by kernel_rfl))
  f216:=Tryz.func94.trans (congrArg some (by kernel_rfl))
  f257:=Tryz.func61.trans (congrArg some (by kernel_rfl))
  f294:=Tryz.func88.trans (congrArg some (by kernel_rfl))
  f295:=Tryz.func89.trans (congrArg some (by kernel_rfl))
  f296:=Tryz.func90.trans (congrArg some (by kernel_rfl))
  f297:=Tryz.func91.trans (congrArg some (by kernel_rfl))
  f298:=Tryz.func92.trans (congrArg some (by kernel_rfl))
  f299:=Tryz.func93.trans (congrArg some (by kernel_rfl))
  f300:=Tryz.func95.trans (congrArg some (by kernel_rfl))
  f301:=Tryz.func96.trans (congrArg some (by kernel_rfl))
  f328:=Tryz.func112.trans (congrArg some (by kernel_rfl))
  f329:=Tryz.func113.trans (congrArg some (by kernel_rfl))
  f330:=Tryz.func114.trans (congrArg some (by kernel_rfl))
  f331:=Tryz.func115.trans (congrArg some (by kernel_rfl))
  f332:=Tryz.func116.trans (congrArg some (by kernel_rfl))
  f343:=Tryz.func125.trans (congrArg some (by kernel_rfl))
  t0:=Tryz.underlying0
  a0:=Tryz.isAgg0
  z0:=Tryz.sizeOf0
  v0:=Tryz.zeroValue0
  t3:=Tryz.underlying3
  a3:=Tryz.isAgg3
  z3:=Tryz.sizeOf3
  v3:=Tryz.zeroValue3
  t4:=Tryz.underlying4
  a4:=Tryz.isAgg4
  z4:=Tryz.sizeOf4
  v4:=Tryz.zeroValue4
  t5:=Tryz.underlying5
  a5:=Tryz.isAgg5
  z5:=Tryz.sizeOf5
  v5:=Tryz.zeroValue5
  t9:=Tryz.underlying9
  a9:=Tryz.isAgg9
  z9:=Tryz.sizeOf9
  v9:=Tryz.zeroValue9
  t28:=Tryz.underlying43
  a28:=Tryz.isAgg43
  z28:=Tryz.sizeOf43
  v28:=Tryz.zeroValue43
  t46:=Tryz.underlying127
  a46:=Tryz.isAgg127
  z46:=Tryz.sizeOf127
  v46:=Tryz.zeroValue127
  t51:=Tryz.underlying162
  a51:=Tryz.isAgg162
  z51:=Tryz.sizeOf162
  v51:=Tryz.zeroValue162
  t53:=Tryz.underlying164
  a53:=Tryz.isAgg164
  z53:=Tryz.sizeOf164
  v53:=Tryz.zeroValue164
  t131:=Tryz.underlying159
  a131:=Tryz.isAgg159
  z131:=Tryz.sizeOf159
  v131:=Tryz.zeroValue159
  t182:=Tryz.underlying153
  a182:=Tryz.isAgg153
  z182:=Tryz.sizeOf153
  v182:=Tryz.zeroValue153
  t183:=Tryz.underlying154
  a183:=Tryz.isAgg154
  z183:=Tryz.sizeOf154
  v183:=Tryz.zeroValue154
  t218:=Tryz.underlying176
  a218:=Tryz.isAgg176
  z218:=Tryz.sizeOf176
  v218:=Tryz.zeroValue176
  t222:=Tryz.underlying180
  a222:=Tryz.isAgg180
  z222:=Tryz.sizeOf180
  v222:=Tryz.zeroValue180
  t228:=Tryz.underlying189
  a228:=Tryz.isAgg189
  z228:=Tryz.sizeOf189
  v228:=Tryz.zeroValue189
  t229:=Tryz.underlying190
  a229:=Tryz.isAgg190
  z229:=Tryz.sizeOf190
  v229:=Tryz.zeroValue190}
end Go.Proofs
namespace Go.Ab
open Go.Proofs Go.Sort
theorem Quz:Qw2 Tryz.prog Qdb:=⟨λblk off cap zs w hH hb hz=>Any.slices_Sort_int Tryz.lays189 blk off cap zs w hH hb hz,λp cap w=>Any.slices_Sort_int_none Tryz.lays189 p cap w⟩
end Go.Ab
namespace Go.Ab
open Go.Proofs
theorem Qhz:∀(l:List Int) (x y:Int),QbC (l++[x,y])=if x=y then QbC (l++[x])else QbC (l++[x])++[y]
 |[],x,y=>by
  simp only[List.nil_append,QbC];split
  ·rename_i e;rw[e]
  ·rfl
 |[a],x,y=>by
  have ih:=Qhz [] x y;simp only[List.nil_append]at ih;simp only[List.cons_append,List.nil_append];rw[show QbC [a,x,y]=if a=x then QbC [x,y]else a::QbC [x,y]from rfl,show QbC [a,x]=if a=x then QbC [x]else a::QbC [x]from rfl,ih];split<;>split<;>rfl
 |a::b::l,x,y=>by
  have ih:=Qhz (b::l) x y;simp only[List.cons_append]at ih |-;rw[show QbC (a::b::(l++[x,y]))=if a=b then QbC (b::(l++[x,y]))else a::QbC (b::(l++[x,y]))from rfl,show QbC (a::b::(l++[x]))=if a=b then QbC (b::(l++[x]))else a::QbC (b::(l++[x]))from rfl,ih];split<;>split<;>rfl
theorem Qlq{zs:List Int}{k:Nat}{x y:Int}(hk:1<=k)(hx:zs[k-1]? =some x)(hy:zs[k]? =some y):QbC (zs.take (k+1))=if x=y then QbC (zs.take k)else QbC (zs.take k)++[y]:=by
 obtain⟨j,rfl⟩:∃j,k=j+1:=⟨k-1,by omega⟩;rw[Nat.add_sub_cancel]at hx;rw[Qal hy,Qal hx,List.append_assoc];exact Qhz _ _ _
set_option maxHeartbeats 2000000 in
theorem QrG(P:Program)(hP:P=Tryz.prog)(zs:List Int)(hz:zs.length<=100000000)(r:Bool)(v:Nat):
  FnS P Qco [.c (.arr 0 v 0 zs.length)] [.da r v 1 (zs.map Qar)] λr' h'=>∃m es',r'= .c (.arr 0 v 0 m)/\h'=[.da r v 1 es']/\es'.take m=(QbC zs).map Qar/\m<=es'.length:=by
 refine QaW (hP▸mixed) (hP▸Qd5) (hP▸Qec) (nle rfl) λΛ Λo K hK=> ?_
 clear hP;have kk:∀m es',es'.take m=(QbC zs).map Qar->m<=es'.length->K (.c (.arr 0 v 0 m)) [.da r v 1 es']:=λm es' h1 h2=>hK _ _ ⟨m,es',rfl,rfl,h1,h2⟩
 clear hK;obtain⟨n,hn⟩:∃n,n=zs.length:=⟨_,rfl⟩;obtain⟨es,hes⟩:∃x,x=zs.map Qar:=⟨_,rfl⟩;have les:es.length=n:=by rw[hes,List.length_map,hn]
 rw[<-hes,<-hn];have small:n<2->QbC zs=zs:=λh=>by
  match zs,hn with
  |[],_=>rfl
  |[x],_=>rfl
  |x::y::l,hn=>simp at hn;omega
 conv=>cbv
 repeat' first|exact gxQ|refine And.intro ?_ ?_|(intro hc;(first|rw[wS (by omega) (by omega)]at hc|rw[Qab]at hc|skip);try (conv=>cbv))
 ·refine kk n es ?_ (by omega);rw[<-les,List.take_length,small (by omega),hes]
 clear small;refine QaT n (λ(i:Int)=>[(0,.c (.arr 0 v 0 n)),(3,iA i)]) (λ_=>[.da r v 1 es]) (λj i=>i=j+1/\j+1<=n/\QbC (zs.take (j+1))=zs.take (j+1)) 1 (Wk.ch) ⟨rfl,by omega,by cases zs<;>rfl⟩ (λk s h=>by omega) ?_;rintro j i Q' ⟨hi,hj,hcm⟩ norm ex rt;by_cases hlt:j+1<n
 ·obtain⟨x,hx⟩:∃x,zs[j]? =some x:=⟨_,lgE (by omega)⟩;obtain⟨y,hy⟩:∃y,zs[j+1]? =some y:=⟨_,lgE (by omega)⟩;have ex1:es[j]? =some [iD x]:=by rw[hes,gtm,hx];rfl
  obtain⟨kn,hkn⟩:∃q,q=j+1:=⟨_,rfl⟩;have ey1:es[kn]? =some [iD y]:=by rw[hkn,hes,gtm,hy];rfl
  have hct:=Qlq (k:=j+1) (by omega) (by rw[Nat.add_sub_cancel];exact hx) hy
  conv=>cbv
  repeat' first|(refine ex _ _ _ ?_;(conv=>cbv))|(refine rt _ _ ?_;(conv=>cbv))|(intro(k:Nat) hk;refine(λ(hz:kn=k)=> ?_) ?_;rotate_left;omega;subst hz;(conv=>cbv))|(intro(k:Nat) hk;refine(λ(hz:j=k)=> ?_) ?_;rotate_left;omega;subst hz;(conv=>cbv))|(intro(e:List D) he;cases osj (he.symm.trans ey1);(conv=>cbv))|(intro(e:List D) he;cases osj (he.symm.trans ex1);(conv=>cbv))|exact gxQ|refine And.intro ?_ ?_|(intro hc;(first|rw[wS (by omega) (by omega)]at hc|rw[Qab]at hc|skip);try (conv=>cbv))
  ·rename_i i0 nl hi0;have hi1:i0=kn:=by omega
   subst hi1;have rtO:=rt;clear norm ex rt;have hxy:x=y:=by omega
   rw[if_pos hxy,hcm]at hct;refine QaT n (λ(s:Int×Int×List (List D))=>[(0,.c (.arr 0 v 0 n)),(3,iA s.1),(4,.c (.arr 0 v i0 nl)),(5,iA s.2.1)]) (λs=>[.da r v 1 s.2.2])
    (λq s=>∃kq:Nat,s.1=kq/\s.2.1=q+1/\i0<=kq/\kq<=i0+q/\i0+q+1<=n/\s.2.2.length=n/\s.2.2.take kq=(QbC (zs.take (i0+q+1))).map Qar/\∀p,kq<=p->s.2.2[p]? =es[p]?)
    (i,1,es) (Wk.ch) ⟨i0,by simp only;omega,rfl,Nat.le_refl _,Nat.le_refl _,by omega,les,by simp only[Nat.add_zero];rw[hkn,hct,hes,List.map_take],λ_ _=>rfl⟩ (λk s ⟨_,h⟩=>by omega) ?_
   rintro q ⟨ki,qi,bl⟩ Q2 ⟨kq,hki,hqi,h1,h2,h3,lbl,htk,hrest⟩ nrm ex rt;simp only at hki hqi lbl htk hrest;by_cases hlt2:i0+q+1<n
   ·obtain⟨a1,ha1⟩:∃a,a=i0+q+1:=⟨_,rfl⟩;obtain⟨a0,ha0⟩:∃a,a=i0+q:=⟨_,rfl⟩;obtain⟨e0,he0⟩:∃x,zs[a0]? =some x:=⟨_,lgE (by omega)⟩;obtain⟨e1,he1⟩:∃x,zs[a1]? =some x:=⟨_,lgE (by omega)⟩;have hb0:bl[a0]? =some [iD e0]:=by rw[hrest a0 (by omega),hes,gtm,he0];rfl
    have hb1:bl[a1]? =some [iD e1]:=by rw[hrest a1 (by omega),hes,gtm,he1];rfl
    obtain⟨c0,hc0⟩:∃c,bl[kq]? =some c:=⟨_,lgE (by omega)⟩;have hc2:bl[kq]? =some [iD (zs.getD kq 0)]:=by rw[hrest kq (Nat.le_refl _),hes];exact Qyp zs (by omega)
    have hct2:=Qlq (zs:=zs) (k:=a1) (by omega) (by rw[show a1-1=a0 by omega];exact he0) he1;have st1:e0≠e1->(bl.set kq [iD e1]).take (kq+1)=(QbC (zs.take (a1+1))).map Qar:=λh=>by
     rw[hct2,if_neg h,List.map_append,show zs.take a1=zs.take (i0+q+1)by rw[ha1],<-htk];rw[List.take_succ_eq_append_getElem (by rw[List.length_set];omega),List.getElem_set_self,List.take_set_of_le (Nat.le_refl _)];rfl
    have st2:e0=e1->bl.take kq=(QbC (zs.take (a1+1))).map Qar:=λh=>by
     rw[hct2,if_pos h,show zs.take a1=zs.take (i0+q+1)by rw[ha1],<-htk]
    generalize zs.getD kq 0=c1 at*;clear hct hct2 hcm hc0 kk
    conv=>cbv
    repeat' first|(refine ex _ _ _ ?_;(conv=>cbv))|(refine rt _ _ ?_;(conv=>cbv))|(intro(k:Nat) hk;refine(λ(hz:a1=k)=> ?_) ?_;rotate_left;omega;subst hz;(conv=>cbv))|(intro(k:Nat) hk;refine(λ(hz:a0=k)=> ?_) ?_;rotate_left;omega;subst hz;(conv=>cbv))|(intro(k:Nat) hk;refine(λ(hz:kq=k)=> ?_) ?_;rotate_left;omega;subst hz;(conv=>cbv))|(intro(e:List D) he;cases osj (he.symm.trans hb1);(conv=>cbv))|(intro(e:List D) he;cases osj (he.symm.trans hb0);(conv=>cbv))|(intro(e:List D) he;cases osj (he.symm.trans hc2);(conv=>cbv))|exact gxQ|refine And.intro ?_ ?_|(intro hc;(first|rw[wS (by omega) (by omega)]at hc|rw[Qab]at hc|skip);try (conv=>cbv))
    ·rename_i x hx ki' hki' qi';have hne:¬e1=e0:=by assumption
     have hx:x=bl.set kq [iD e1]:=hx;subst hx;refine nrm _ _ (ki',qi',bl.set kq [iD e1]) ⟨kq+1,by simp only;omega,by simp only;omega,by omega,by omega,by omega,by simp only[List.length_set];exact lbl,?_,λp hp=> ?_⟩ (Wk.ch)
     ·simp only;rw[st1 (λe=>hne e.symm),show a1+1=i0+(q+1)+1 by omega]
     ·simp only;rw[List.getElem?_set_ne (by omega)];exact hrest p (by omega)
    ·rename_i qi';have heq:e1=e0:=by assumption
     exact nrm _ _ (ki,qi',bl) ⟨kq,hki,by simp only;omega,by omega,by omega,by omega,lbl,by simp only;rw[st2 heq.symm,show a1+1=i0+(q+1)+1 by omega],hrest⟩ (Wk.ch)
   ·conv=>cbv
    repeat' first|(refine ex _ _ _ ?_;(conv=>cbv))|(refine rt _ _ ?_;(conv=>cbv))|exact gxQ|refine And.intro ?_ ?_|(intro hc;(first|rw[wS (by omega) (by omega)]at hc|rw[Qab]at hc|skip);try (conv=>cbv))
    rename_i a2 n2 ha2 hn2 bl2 hbl2 m2;have hm2:m2=kq:=by omega
    have ha3:a2=kq:=by omega
    subst hm2;refine rtO _ _ ?_;refine kk m2 bl2 ?_ ?_
    ·rw[hbl2,ha3,List.take_append_of_le_length (by rw[List.length_take];omega),List.take_take,Nat.min_self,htk,show i0+q+1=zs.length by omega,List.take_length]
    ·rw[hbl2];simp;omega
  ·rename_i i';refine norm _ _ i' ⟨by omega,by omega,?_⟩ (Wk.ch);rw[hct,if_neg (λe=>by rename_i h;exact h e.symm),hcm,<-Qal hy]
 conv=>cbv
 repeat' first|(refine ex _ _ _ ?_;(conv=>cbv))|(refine rt _ _ ?_;(conv=>cbv))|exact gxQ|refine And.intro ?_ ?_|(intro hc;(first|rw[wS (by omega) (by omega)]at hc|rw[Qab]at hc|skip);try (conv=>cbv))
 refine kk n es ?_ (by omega);rw[<-les,List.take_length,hes];rw[show j+1=zs.length by omega,List.take_length]at hcm;rw[hcm]
theorem FnS.frzT{P:Program}{f:Nat}{args:List AV}{h:Hp}{R R':AV->Hp->Prop}(hf:FnS P f args h R)
 (ht:∀r h',R r h'->R' r h'\/∃m tl k ve n rr sz es x,h'= .am m::tl/\r= .tup [.c (.arr (k+1) ve 0 n),x]/\tl[k]? =some (.da rr ve sz es)/\QcE x=true/\R' (.tup [.c (.d (.list false sz (es.take n))),x]) (.am m::tl.set k .dead)):FnS P f args h R':=by
 refine⟨λG ι w vs hr hv=>(hf.out G ι w vs hr hv).mono λe w' ⟨v,r,G',ι',h',a1,a2,a3,a4,a5⟩=> ?_⟩;rcases ht r h' a2 with h1|⟨m,tl,k,ve,n,rr,sz,es,x,rfl,rfl,hk,hx,hR⟩
 ·exact⟨v,r,G',ι',h',a1,h1,a3,a4,a5⟩
 ·cases a4 with
  |tup cs _ hn hcs=>
   have h0:∃u,cs[0]? =some u:=by
    have h1:0<cs.size:=by rw[hn];simp
    exact⟨_,agQ h1⟩
   obtain⟨u,hu⟩:=h0;have hc:=Qeh (hcs 0 u _ hu rfl);have hfz:frz (.am m::tl) (.arr (k+1) ve 0 n)=some (.list false sz (es.take n),(Blk.am m::tl).set (k+1) Blk.dead):=by
    simp[frz,hk]
   obtain⟨G2,q1,q2,q3⟩:=Qc9 a3 hc hfz;refine⟨.tuple cs,_,G2,ι',_,a1,hR,q1,.tup cs _ hn λi y z hy hz=> ?_,a5.trans q3⟩
   match i,hz with
   |0,hz=>
    cases hz;rw[hu]at hy;cases hy;exact .c _ _ (.d _ _ q2)
   |1,hz=>cases hz;exact(hcs 1 y _ hy rfl).ext q3 a3
theorem Qqn(P:Program)(hP:P=Tryz.prog)(t:Top)(xs:List Tab)(p:Pkt)(from_:Int)(g:Wlk)(U:List WSt)(m:Ar)(hT:Qbt m)(hU:QaO t xs from_=0->UOK P t xs p g U/\(from_,p.stack)∈U):
  FnS P QeP [QaF t,Qcy xs,Qcr p,iA from_] [.am m] λr h'=>∃m',h'=[.am m']/\QiF g m (from_,p.stack) U.length (QaO t xs from_) r m':=by
 refine FnS.gct (Qh0 P hP t xs p from_ g U m hT hU) _ λr h' hR=> ?_
 obtain⟨m',tl,rfl,h⟩:=hR;have hr:∀Z,r=rnA Z r/\Qwo 1 r=true:=λZ=>by
  unfold QiF at h;split at h
  ·split at h
   ·obtain⟨d,al,S,a,rfl,-⟩:=h;exact⟨rfl,rfl⟩
   ·obtain⟨rfl,-⟩:=h;exact⟨rfl,rfl⟩
  ·obtain⟨rfl,-⟩:=h;exact⟨rfl,rfl⟩
 refine⟨[0],r,[.am m'],⟨m',rfl,h⟩,rfl,by decide,λl hl=>by simp at hl |-;omega,λi k hk=> ?_,(hr _).1,rfl,(hr (λi=>i)).2,by simp,λi hi=> ?_,λk hk=> ?_⟩
 ·match i,hk with
  |0,hk=>cases hk;rfl
  |i+1,hk=>simp at hk
 ·match i,hi with
  |0,_=>rfl
 ·simp at hk;rw[hk];intro _ _ _ h;cases h
theorem QoB{g:Wlk}{ks:List WSt}(h:∀x∈ks,(g.ar x).length<=1000)(k:Nat):((ks.take k).flatMap g.ar).length<=1000*ks.length:=by
 have key:∀l:List WSt,(∀x∈l,(g.ar x).length<=1000)->(l.flatMap g.ar).length<=1000*l.length:=by
  intro l;induction l with
  |nil=>intro _;simp
  |cons x l ih=>
   intro h;have h1:=h x (by simp);have h2:=ih λy hy=>h y (by simp[hy])
   rw[List.flatMap_cons,List.length_append,List.length_cons];omega
 have h1:=key (ks.take k) λx hx=>h x (List.mem_of_mem_take hx)
 rw[List.length_take]at h1;have:min k ks.length<=ks.length:=Nat.min_le_right _ _;omega
theorem Qnb{g:Wlk}{ks:List WSt}{k:Nat}{x:WSt}(h:ks[k]? =some x):(ks.take (k+1)).flatMap g.ar=(ks.take k).flatMap g.ar++g.ar x:=by
 rw[Qal h,List.flatMap_append];simp
theorem Qv7{g:Wlk}{U ks:List WSt}{n:Nat}(hm:∀x,x∈ks↔x∈U)(hr:∀x∈U,∀a∈g.ar x,0<=a/\a<(n:Int)):QbC ((ks.flatMap g.ar).mergeSort λx y=>decide (x<=y))=QBK g U n:=by
 have hs:((ks.flatMap g.ar).mergeSort λx y=>decide (x<=y)).Pairwise (·<=·):=by
  have:=List.pairwise_mergeSort (le:=λx y:Int=>decide (x<=y)) (λa b c h1 h2=>by simp at *;omega) (λa b=>by simp;omega) (ks.flatMap g.ar);exact this.imp λh=>by simpa using h
 refine Qrh (QhY _ hs) ?_ λz=> ?_
 ·refine List.Pairwise.filter _ ?_;rw[List.pairwise_map];exact List.pairwise_lt_range.imp λh=>by omega
 ·rw[Qkh,List.mem_mergeSort,List.mem_flatMap,QBK,List.mem_filter,List.any_eq_true,List.mem_map];constructor
  ·rintro⟨x,hx,hz⟩;have h1:=(hm x).1 hx;have h2:=hr x h1 z hz;exact⟨⟨z.toNat,List.mem_range.2 (by omega),by omega⟩,x,h1,by simpa using hz⟩
  ·rintro⟨-,x,hx,hz⟩;exact⟨x,(hm x).2 hx,by simpa using hz⟩
theorem Qzm(P:Program)(hP:P=Tryz.prog)(t:Top)(xs:List Tab)(p:Pkt)(from_:Int)(g:Wlk)(U:List WSt)(m:Ar)(hT:Qbt m)(hU:QaO t xs from_=0->UOK P t xs p g U/\Expl g.nx (from_,p.stack) U)(hr:QaO t xs from_=0->∀x∈U,∀a∈g.ar x,0<=a/\a<Qbo t):
  FnS P QdX [QaF t,Qcy xs,Qcr p,iA from_] [.am m] λr h'=>∃m' tl,h'= .am m'::tl/\Qbt m'/\r= .tup [Qao (Qxj t g U (from_,p.stack) (QaO t xs from_)).1,iA (Qxj t g U (from_,p.stack) (QaO t xs from_)).2]:=by
 have hsr:=Qqn P hP t xs p from_ g U m hT λh=>⟨(hU h).1,(hU h).2.st⟩
 have hso:=λzs hz r v=>QwJ (P:=P) (hP▸Quz) zs hz r v (hP▸⟨_,QcL⟩)
 have hcm:=λzs hz r v=>QrG P hP zs hz r v
 generalize hL1:(Qxj t g U (from_,p.stack) (QaO t xs from_)).1=L1 at*;generalize hE2:(Qxj t g U (from_,p.stack) (QaO t xs from_)).2=E2 at*;refine FnS.thawP (R:=λr h'=>∃m' tl d,h'= .am m'::tl/\Qbt m'/\r= .tup [.c (.d d),iA E2]/\(d= .list false 1 (L1.map Qar)\/(d= .list true 1 []/\L1=[]))) ?_ ?_
 rotate_left
 ·rintro r h' ⟨m',tl,d,rfl,hT',rfl,hd⟩;refine⟨m',tl,d,iA E2,am0,m',.list false 1 (L1.map Qar),rfl,λb x h=>(by cases h),λb x h=>h,rfl,rfl,?_,m',tl,rfl,hT',rfl⟩;rcases hd with rfl|⟨rfl,rfl⟩
  ·exact .same _
  ·exact .fg _
 refine FnS.frzT (R:=λr h'=>(∃m' tl,h'= .am m'::tl/\Qbt m'/\r= .tup [.c (.d (.list true 1 [])),iA E2]/\L1=[])\/
  ∃m' tl ve n rr es,h'= .am m'::tl/\Qbt m'/\r= .tup [.c (.arr 3 ve 0 n),iA E2]/\tl[2]? =some (.da rr ve 1 es)/\es.take n=L1.map Qar) ?_ ?_
 rotate_left
 ·rintro r h' (⟨m',tl,rfl,hT',rfl,h1⟩|⟨m',tl,ve,n,rr,es,rfl,hT',rfl,h1,h2⟩)
  ·exact .inl ⟨m',tl,_,rfl,hT',rfl,.inr ⟨rfl,h1⟩⟩
  ·exact .inr ⟨m',tl,2,ve,n,rr,1,es,iA E2,rfl,rfl,h1,rfl,m',_,_,rfl,hT',rfl,.inl (by rw[h2])⟩
 refine QaW (hP▸mixed) (hP▸Qm1) (hP▸Qn1) (nle rfl) λΛ Λo Q hQ=> ?_
 clear hP;have htab:¬New m (.list true 1 []) 0:=λe=>by
  rcases e with e|e
  ·rw[Qbt]at hT;rw[hT]at e;cases e
  ·exact Qa9 e
 by_cases h0:QaO t xs from_=0
 ·obtain⟨hUK,hE⟩:=hU h0;have hr:=hr h0;rw[h0]at hsr hL1 hE2;simp only[QiF,if_true]at hsr;cases hd:dfs g.nx U.length [] (from_,p.stack)with
  |some K=>
   rw[hd]at hsr;simp only[Qxj,hd,if_true]at hL1 hE2;obtain⟨hnd,hmem,-,hdn,r0,hr0⟩:=QlK hE hd;have hpl:=λ{m':Ar} {al:List Nat} {S:Nat->Prop} {d:D} (hI:PI g m' K al S d)=>Qxr hI hdn hnd λe=>by rw[e]at hr0;cases hr0
   have hKl:(K.map (·.1)).length<=1000:=by
    have:=hnd.length_le_of_subset λx hx=>(hmem x).1 hx
    have:=hUK.len;omega
   have hgl:∀x∈K.map (·.1),(g.ar x).length<=1000:=λx hx=>by
    obtain⟨_,_,_,h⟩:=hUK.st x ((hmem x).1 hx);exact h.len
   have hfl:=QoB hgl;have hcomp:QbC ((((K.map (·.1)).flatMap g.ar)).mergeSort λx y=>decide (x<=y))=L1:=by
    rw[<-hL1];have ha:=(QdQ t).2.2;exact Qv7 hmem λx hx a h=>by have:=hr x hx a h;omega
   clear hdn hnd hr0 hmem hE hUK hd hU;generalize K.map (·.1)=ks at*;generalize (from_,p.stack)=st at*;subst hE2;have hfs:=λ{k:Nat} {x:WSt}=> @Qnb g ks k x
   have hend:=λm' tl ve n rr es h1 h2 h3=>hQ (.tup [.c (.arr 3 ve 0 n),iA 0]) (.am m'::tl) (.inr ⟨m',tl,ve,n,rr,es,rfl,h1,rfl,h2,h3⟩)
   clear hQ hL1 hr;obtain⟨id,src,dst,flow,st0,hops⟩:=p;simp only[QaF,Qcy,Qcr,QaZ,Qaf,Qak]at hsr |-;generalize hxl:List.map Qav xs=xl at*;generalize hol:t.ov.map QaY=ol at*;generalize hll:t.links.map Qaz=ll at*;generalize htn:t.nodes=nodes at*;generalize List.map Qaj st0=sl at*;obtain⟨cn,hcn⟩:∃z:Int,z=(ks.length:Int):=⟨_,rfl⟩
   conv=>cbv
   repeat' first|(left;intro(_:Unit);(conv=>cbv))|(refine QaH [0] hsr ?_;rintro r hc' ⟨m',rfl,d3,al3,S3,a,rfl,p3,hab,f3⟩;have hT3:Qbt m':=((f3.same _ htab).trans hT);obtain⟨bn,cap,rfl,hpr⟩:=hpl p3;generalize hn:ks.length=n at *;(conv=>cbv))|(intro(c:Int) hc;refine(λ(hz:cn=c)=> ?_) (by rw[hc,Qab];omega);subst hz;(conv=>cbv))|exact gxQ|refine And.intro ?_ ?_|(intro hc;(first|rw[wS (by omega) (by omega)]at hc|rw[Qab]at hc|skip);try (conv=>cbv))
   obtain⟨Nr,rx,hrow,hrat⟩:=hpr.at_;refine Qbs n (λ(s:Int×Nat×Nat×Bool×List (List D))=>[(13,.c (.arr 3 s.2.1 0 s.2.2.1)),(28,.c (.d (.sl bn 0 1 n cap))),(29,iA cn),(30,iA s.1)])
    (λs=>[.am m',.bx [.d (iD nodes),.d (.list false 1 ol),.d (.list false 7 ll)],.bx [.d (iD id),.d (iD src),.d (iD dst),.d (iD flow),.d (.list false 2 sl),.d (iD hops)],.da s.2.2.2.1 s.2.1 1 s.2.2.2.2])
    (λk s=>s.1=k/\k<=n/\s.2.2.1=s.2.2.2.2.length/\s.2.2.2.2=((ks.take k).flatMap g.ar).map Qar) (0,0,0,false,[])
    0 (λ(s:Nat×Bool×Nat)=>[(13,.c (.arr 3 s.1 0 s.2.2))])
    (λs=>[.am m',.bx [.d (iD nodes),.d (.list false 1 ol),.d (.list false 7 ll)],.bx [.d (iD id),.d (iD src),.d (iD dst),.d (iD flow),.d (.list false 2 sl),.d (iD hops)],.da s.2.1 s.1 1 ((ks.flatMap g.ar).map Qar)]) (λs=>s.2.2=(ks.flatMap g.ar).length)
    (.trans (.nilS 13 1 rfl) (Wk.ca)) ⟨rfl,by omega,rfl,rfl⟩ (λk s h=>h.2.1) ?_ ?_
   ·rintro kk ⟨i,ve,mm,rb,es⟩ Q' ⟨hi,hk,hm,hes⟩ norm jn ex rt;simp only at hi hm hes;by_cases hlt:kk<n
    ·obtain⟨x,hx⟩:∃x,ks[kk]? =some x:=⟨_,lgE (by omega)⟩;obtain⟨a1,Na,nx,c,hxa,hpa⟩:=hrat kk x hx;simp only[plD]at hpa;have hgx:=hgl x (mgE hx);have hnew:((ks.take (kk+1)).flatMap g.ar).map Qar=es++(g.ar x).map Qar:=by rw[hfs hx,List.map_append,hes]
     have hml:mm<=1000000:=by
      have:=hfl kk;rw[hm,hes,List.length_map];omega
     have hal:((g.ar x).map Qar).length<=1000:=by rw[List.length_map];exact hgx
     clear hso hcm hend hcomp hfs hrat hpl hsr jn;generalize (g.ar x).map Qar=arl at*;obtain⟨ye,hye⟩:∃z,z=es++arl:=⟨_,rfl⟩;obtain⟨m1,hm1⟩:∃z,z=mm+arl.length:=⟨_,rfl⟩;obtain⟨i1,hi1⟩:∃z:Int,z=((kk+1:Nat):Int):=⟨_,rfl⟩
     conv=>cbv
     repeat' first|(intro(k:Nat) hk;refine(λ(hz:kk=k)=> ?_) ?_;rotate_left;omega;subst hz;(conv=>cbv))|(refine⟨Nr,_,_,hrow,hxa,?_⟩;(conv=>cbv))|(refine⟨Na,_,_,hpa,rfl,?_⟩;(conv=>cbv))|(intro(m:Nat) (r:Bool) (y:List (List D)) hm hr hy;refine(λ(hz:m1=m) (hz2:ye=y)=> ?_) (by first|omega|(simp only[List.length_cons,List.length_nil]at hm;omega)) (by first|(rw[hy,List.drop_zero,tkQ (by omega)];exact hye)|(rw[hy];exact hye));subst hz;subst hz2;(conv=>cbv))|(intro(k:Int) hk;rw[wS (by omega) (by omega)]at hk;refine(λ(hz:i1=k)=> ?_) ?_;rotate_left;omega;subst hz;(conv=>cbv))|exact gxQ|refine And.intro ?_ ?_|(intro hc;(first|rw[wS (by omega) (by omega)]at hc|rw[Qab]at hc|skip);try (conv=>cbv))
     refine norm _ _ (_,_,_,_,_) ?_ (Wk.ca);exact⟨hi1,by omega,by simp only;rw[hye,List.length_append];omega,by simp only;rw[hye,hnew]⟩
    ·obtain rfl:n=kk:=by omega
     rw[tkQ (by omega)]at hes;have hmz:mm=(ks.flatMap g.ar).length:=by rw[hm,hes,List.length_map]
     subst hes;clear hso hcm hend hcomp hfs hrat hpl hsr norm;generalize (ks.flatMap g.ar).length=zl at*;generalize (ks.flatMap g.ar).map Qar=zsl at*
     conv=>cbv
     repeat' first|exact gxQ|refine And.intro ?_ ?_|(intro hc;(first|rw[wS (by omega) (by omega)]at hc|rw[Qab]at hc|skip);try (conv=>cbv))
     refine jn _ _ (_,_,_) ?_ (Wk.ca);exact hmz
   ·rintro⟨ve,rb,mm⟩ hm;simp only at hm;have hzl:(ks.flatMap g.ar).length<=1000000:=by
     have:=hfl ks.length;rw[tkQ (Nat.le_refl _)]at this;omega
    clear hfl hfs hrat hpl hsr;generalize ks.flatMap g.ar=zs at*;have hso:=hso zs (by omega) rb ve;have hcm:=hcm (zs.mergeSort λx y=>decide (x<=y)) (by rw[List.length_mergeSort];omega) rb ve;rw[List.length_mergeSort,hcomp]at hcm;rw[<-hm]at hso hcm;generalize zs.map Qar=zsl at*;generalize (zs.mergeSort λx y=>decide (x<=y)).map Qar=zso at*
    conv=>cbv
    repeat' first|(refine QaH [3] hso ?_;rintro r hc' ⟨rfl,rfl⟩;(conv=>cbv))|(refine QaH [3] hcm ?_;rintro r hc' ⟨m2,es2,rfl,rfl,hes2,hle2⟩;have hfin:=λtl h=>hend m' tl ve m2 rb es2 hT3 h hes2;(conv=>cbv))|exact hfin _ rfl|exact gxQ|refine And.intro ?_ ?_|(intro hc;(first|rw[wS (by omega) (by omega)]at hc|rw[Qab]at hc|skip);try (conv=>cbv))
  |none=>
   rw[hd]at hsr;simp only[Qxj,hd,if_true]at hL1 hE2;have fin:=λm' tl (h1:Qbt m')=>hQ (.tup [.c (.d (.list true 1 [])),iA 16]) (.am m'::tl) (.inl ⟨m',tl,rfl,h1,by rw[hE2],hL1.symm⟩)
   clear hU hE hQ hso hcm;generalize (from_,p.stack)=st at*;obtain⟨id,src,dst,flow,st0,hops⟩:=p;simp only[QaF,Qcy,Qcr,QaZ,Qaf,Qak]at hsr |-;generalize hxl:List.map Qav xs=xl at*;generalize hol:t.ov.map QaY=ol at*;generalize hll:t.links.map Qaz=ll at*;generalize htn:t.nodes=nodes at*;generalize List.map Qaj st0=sl at*
   conv=>cbv
   repeat' first|(left;intro(_:Unit);(conv=>cbv))|(refine QaH [0] hsr ?_;rintro r hc' ⟨m',rfl,rfl,d3,f3⟩;have hfin:=λtl=>fin m' tl ((f3.same _ htab).trans hT);(conv=>cbv))|exact hfin _|exact gxQ|refine And.intro ?_ ?_|(intro hc;(first|rw[wS (by omega) (by omega)]at hc|rw[Qab]at hc|skip);try (conv=>cbv))
 ·simp only[QiF,if_neg h0]at hsr;simp only[Qxj,if_neg h0]at hL1 hE2;have fin:=λtl=>hQ (.tup [.c (.d (.list true 1 [])),iA E2]) (.am m::tl) (.inl ⟨m,tl,rfl,hT,rfl,hL1.symm⟩)
  rw[hE2]at hsr;clear hU hQ hso hcm;have h0:E2≠0:=by rw[<-hE2];exact h0
  obtain⟨id,src,dst,flow,st0,hops⟩:=p;simp only[QaF,Qcy,Qcr,QaZ,Qaf,Qak]at hsr |-;generalize hxl:List.map Qav xs=xl at*;generalize hol:t.ov.map QaY=ol at*;generalize hll:t.links.map Qaz=ll at*;generalize htn:t.nodes=nodes at*;generalize List.map Qaj st0=sl at*
  conv=>cbv
  repeat' first|(left;intro(_:Unit);(conv=>cbv))|(refine QaH [0] hsr ?_;rintro r hc' ⟨m',rfl,rfl,rfl⟩;(conv=>cbv))|exact fin _|exact gxQ|refine And.intro ?_ ?_|(intro hc;(first|rw[wS (by omega) (by omega)]at hc|rw[Qab]at hc|skip);try (conv=>cbv))
noncomputable def QbH(t:Top)(down:List Bool)(k:Nat):List Tab:=(List.range k).map λ(n:Nat)=>(QbT t down (n:Int)).1
noncomputable def QiL(t:Top)(down:List Bool):List Tab×Int:=if QaK t down=true then (QbH t down t.nodes.toNat,0)else ([],1)
theorem Qsp(t:Top)(down:List Bool)(k:Nat):QbH t down (k+1)=QbH t down k++[(QbT t down (k:Int)).1]:=by
 rw[QbH,List.range_succ,List.map_append];rfl
theorem Qud(P:Program)(hP:P=Tryz.prog)(t:Top)(down:List Bool):Ret P QdC [QaF t,Qau down] (.tup [Qcy (QiL t down).1,iA (QiL t down).2]):=by
 have hft:=QhE P hP t down;have hro:=λn=>Qun P hP t down n
 have hv:QaK t down=true->t.nodes<=64/\0<=t.nodes:=λh=>by
  have h1:Qam t=true:=by
   simp only[QaK,Bool.and_eq_true]at h;exact h.1
  have:=(Qai.1 h1).1;omega
 refine Qah (hP▸mixed) (hP▸Qh5) (hP▸QjD) (nle rfl) λΛ Λo K hK=> ?_
 clear hP;have kF:QaK t down=false->K (.tup [.c (.d (.list false 3 [])),iA 1]):=λh=>by
  rw[QiL,if_neg (by rw[h];simp)]at hK;exact hK
 have kT:QaK t down=true->K (.tup [.c (.d (.list false 3 ((QbH t down t.nodes.toNat).map Qav))),iA 0]):=λh=>by
  rw[QiL,if_pos h]at hK;exact hK
 clear hK;have hsc:=Qsp t down;have hl0:QbH t down 0=[]:=rfl;generalize QbH t down=lk at*;generalize QaK t down=fb at*;cases fb with
 |false=>
  have kF:=kF rfl;simp only[QaF,Qau,Qaf,Qak]at hft |-;generalize List.map QaY down=dl at*;generalize List.map QaY t.ov=ol at*;generalize List.map Qaz t.links=ll at*
  conv=>cbv
  repeat' first|(refine Qag hft rfl rfl ?_;conv=>cbv)|exact kF|exact gxQ|refine And.intro ?_ ?_|(intro hc;(first|rw[wS (by omega) (by omega)]at hc|rw[Qab]at hc|skip);try (conv=>cbv))
 |true=>
  have kTT:=kT rfl;clear kT;obtain⟨hv1,hv0⟩:=hv rfl;clear hv kF;obtain⟨nodes,ov,links⟩:=t;simp only[QaF,Qau,Qaf,Qak]at*;generalize hdl:List.map QaY down=dl at*;generalize hol:List.map QaY ov=ol at*;generalize hll:List.map Qaz links=ll at*
  conv=>cbv
  repeat' first|(refine Qag hft rfl rfl ?_;conv=>cbv)|exact gxQ|refine And.intro ?_ ?_|(intro hc;(first|rw[wS (by omega) (by omega)]at hc|rw[Qab]at hc|skip);try (conv=>cbv))
  refine Qbs nodes.toNat (λ(s:Int×Nat×Nat×Bool×List (List D))=>[(1,.c (.d (.list false 1 dl))),(2,.c (.ptr 0 0 0 0)),(6,.c (.arr 1 s.2.1 0 s.2.2.1)),(7,iA s.1)])
   (λs=>[.bx [.d (iD nodes),.d (.list false 1 ol),.d (.list false 7 ll)],.da s.2.2.2.1 s.2.1 3 s.2.2.2.2])
   (λk s=>s.1=k/\k<=nodes.toNat/\s.2.2.1=k/\s.2.2.2.2.length=k/\s.2.2.2.2=(lk k).map Qav) (0,0,0,false,[])
   0 (λ(s:Nat×Bool×Nat)=>[(6,.c (.arr 1 s.1 0 s.2.2))])
   (λs=>[.bx [.d (iD nodes),.d (.list false 1 ol),.d (.list false 7 ll)],.da s.2.1 s.1 3 ((lk nodes.toNat).map Qav)]) (λs=>s.2.2=((lk nodes.toNat).map Qav).length)
   (.trans (.nilS 6 3 rfl) (Wk.cw)) ⟨rfl,by omega,rfl,rfl,by rw[hl0];rfl⟩ (λk s h=>h.2.1) ?_ ?_
  ·rintro kk ⟨d,ve,m,rb,es⟩ Q' ⟨hi,hk,hm,hel,hes⟩ norm jn ex rt;simp only at hi hm hel hes;by_cases hlt:kk<nodes.toNat
   ·have hrk:=hro d;have hsk:=hsc kk;rw[<-hi]at hsk;have hnew:(lk (kk+1)).map Qav=es++[Qav (QbT ⟨nodes,ov,links⟩ down d).1]:=by rw[hsk,List.map_append,hes];rfl
    clear hft hro kTT jn hsc hsk;generalize (QbT ⟨nodes,ov,links⟩ down d).2=er at*;generalize (QbT ⟨nodes,ov,links⟩ down d).1=tb at*;obtain⟨tn,tt,td⟩:=tb;simp only[Qjc,Qav,Qfa,Qax]at hrk hnew;generalize List.map Qay tt=ttl at*;generalize List.map Qar td=tdl at*;obtain⟨ye,hye⟩:∃z,z=es++[[iD tn,.list false 3 ttl,.list false 1 tdl]]:=⟨_,rfl⟩;obtain⟨m1,hm1⟩:∃z,z=m+1:=⟨_,rfl⟩;obtain⟨i1,hi1⟩:∃z:Int,z=((kk+1:Nat):Int):=⟨_,rfl⟩
    conv=>cbv
    repeat' first|(refine Qag hrk rfl rfl ?_;conv=>cbv)|(intro(m:Nat) (r:Bool) (y:List (List D)) hm hr hy;refine(λ(hz:m1=m) (hz2:ye=y)=> ?_) (by first|omega|(simp only[List.length_cons,List.length_nil]at hm;omega)) (by first|(rw[hy,List.drop_zero,tkQ (by omega)];exact hye)|(rw[hy];exact hye));subst hz;subst hz2;(conv=>cbv))|(intro(k:Int) hk;rw[wS (by omega) (by omega)]at hk;refine(λ(hz:i1=k)=> ?_) ?_;rotate_left;omega;subst hz;(conv=>cbv))|exact gxQ|refine And.intro ?_ ?_|(intro hc;(first|rw[wS (by omega) (by omega)]at hc|rw[Qab]at hc|skip);try (conv=>cbv))
    refine norm _ _ (_,_,_,_,_) ?_ (Wk.cw);exact⟨hi1,by omega,by simp only;omega,by simp only;rw[hye,List.length_append];simp;omega,by simp only;rw[hye];exact hnew.symm⟩
   ·obtain rfl:kk=nodes.toNat:=by omega
    rw[hes]at hel;clear hft hro kTT norm hsc hl0;subst hes;generalize (lk nodes.toNat).map Qav=zl at*;have hmz:m=zl.length:=by omega
    conv=>cbv
    repeat' first|exact gxQ|refine And.intro ?_ ?_|(intro hc;(first|rw[wS (by omega) (by omega)]at hc|rw[Qab]at hc|skip);try (conv=>cbv))
    refine jn _ _ (_,_,_) ?_ (Wk.cw);exact hmz
  ·rintro⟨ve,rb,m⟩ hm;simp only at hm;clear hft hro hsc hl0;generalize (lk nodes.toNat).map Qav=zl at*
   conv=>cbv
   repeat' first|exact gxQ|refine And.intro ?_ ?_|(intro hc;(first|rw[wS (by omega) (by omega)]at hc|rw[Qab]at hc|skip);try (conv=>cbv))
   all_goals (refine(λ(hz:_=zl)=> ?_) (hc.trans (by rw[List.drop_zero,tkQ (by omega)]));rw[hz];exact kTT)
def rgX:List Tab:=[⟨0,[⟨[],false,[]⟩,⟨[0],false,[]⟩,⟨[0,7],false,[]⟩,⟨[7],false,[]⟩],[]⟩,⟨1,[⟨[1],false,[]⟩,⟨[],false,[]⟩,⟨[2],false,[]⟩,⟨[1,2],false,[]⟩],[]⟩,
 ⟨2,[⟨[3,4],false,[]⟩,⟨[3],false,[]⟩,⟨[],false,[]⟩,⟨[4],false,[]⟩],[]⟩,⟨3,[⟨[6],false,[]⟩,⟨[5,6],false,[]⟩,⟨[5],false,[]⟩,⟨[],false,[]⟩],[]⟩]
def rgY:List Tab:=[⟨0,[⟨[],false,[]⟩,⟨[0],false,[]⟩,⟨[0,7],false,[]⟩,⟨[7],false,[]⟩],[]⟩,⟨1,[⟨[1],false,[]⟩,⟨[],false,[]⟩,⟨[1],false,[]⟩,⟨[1,2],false,[]⟩],[]⟩,
 ⟨2,[⟨[3,4],false,[]⟩,⟨[3],false,[]⟩,⟨[],false,[]⟩,⟨[4],false,[]⟩],[]⟩,⟨3,[⟨[6],false,[]⟩,⟨[5,6],false,[]⟩,⟨[5],false,[]⟩,⟨[],false,[]⟩],[]⟩]
def rgP:Pkt:=⟨0,0,2,0,[],0⟩
def rgU:List WSt:=[(0,[]),(1,[]),(3,[]),(2,[])]
theorem Qnl{n d:Int}{D l:List Int}(hd:QaM QaP [] d false=D)(h0:0<=d/\d<QaP.nodes)(hn:0<=n/\n<QaP.nodes)(h:QcD QaP [] D n d=l):QhT QaP [] n d=(l,0):=by
 rw[QhT,if_pos (by decide),if_pos h0,if_pos hn,hd,h]
theorem Qws{n:Int}{l0 l1 l2 l3:List Int}(hn:0<=n/\n<QaP.nodes)(h0:QcD QaP [] [0,1,2,1] n 0=l0)(h1:QcD QaP [] [1,0,1,2] n 1=l1)(h2:QcD QaP [] [2,1,0,1] n 2=l2)(h3:QcD QaP [] [1,2,1,0] n 3=l3)(hd:QiQ QaP [] n=[]):
  (QbT QaP [] n).1=⟨n,[⟨l0,false,[]⟩,⟨l1,false,[]⟩,⟨l2,false,[]⟩,⟨l3,false,[]⟩],[]⟩:=by
 have n0:=Qnl QyO (by decide) hn h0;have n1:=Qnl QyP (by decide) hn h1;have n2:=Qnl QyQ (by decide) hn h2;have n3:=Qnl QyR (by decide) hn h3;rw[QbT,if_pos (by decide),if_pos hn];have e1:toL QaP [] n QaP.nodes.toNat=[⟨l0,false,[]⟩,⟨l1,false,[]⟩,⟨l2,false,[]⟩,⟨l3,false,[]⟩]:=by
  show(QaS 4).map _=_;rw[show QaS 4=[0,1,2,3]by decide];simp only[List.map_cons,List.map_nil,n0,n1,n2,n3]
 rw[e1,hd]
theorem QAL:QiL QaP []=(rgX,0):=by
 rw[QiL,if_pos (by decide)];have:QbH QaP [] QaP.nodes.toNat=rgX:=by
  show(List.range 4).map _=_;rw[show List.range 4=[0,1,2,3]by decide];simp only[List.map_cons,List.map_nil];rw[Qws (n:=((0:Nat):Int)) (by decide) (l0:=[]) (l1:=[0]) (l2:=[0,7]) (l3:=[7]) (by decide) (by decide) (by decide) (by decide) (by decide),
   Qws (n:=((1:Nat):Int)) (by decide) (l0:=[1]) (l1:=[]) (l2:=[2]) (l3:=[1,2]) (by decide) (by decide) (by decide) (by decide) (by decide),
   Qws (n:=((2:Nat):Int)) (by decide) (l0:=[3,4]) (l1:=[3]) (l2:=[]) (l3:=[4]) (by decide) (by decide) (by decide) (by decide) (by decide),
   Qws (n:=((3:Nat):Int)) (by decide) (l0:=[6]) (l1:=[5,6]) (l2:=[5]) (l3:=[]) (by decide) (by decide) (by decide) (by decide) (by decide)]
  rfl
 rw[this]
theorem QyL:QaO QaP rgX 0=0/\QaO QaP rgY 0=0:=by decide
theorem QAM:Qf4 QaP rgX=true/\Qf4 QaP rgY=true:=by decide
theorem QAP:TbI rgX/\TbI rgY:=by
 constructor<;>(refine⟨?_⟩;decide)
theorem QBS:(gW QaP rgX rgP).nx (0,[])=[(1,[]),(3,[])]/\(gW QaP rgX rgP).nx (1,[])=[(2,[])]/\(gW QaP rgX rgP).nx (3,[])=[(2,[])]/\(gW QaP rgX rgP).nx (2,[])=[]:=by
 decide
theorem QBT:(gW QaP rgY rgP).nx (0,[])=[(1,[]),(3,[])]/\(gW QaP rgY rgP).nx (1,[])=[(0,[])]/\(gW QaP rgY rgP).nx (3,[])=[(2,[])]/\(gW QaP rgY rgP).nx (2,[])=[]:=by
 decide
theorem QAN:Expl (gW QaP rgX rgP).nx (0,[]) rgU:=by
 obtain⟨h0,h1,h2,h3⟩:=QBS;refine⟨⟨_,rfl⟩,by decide,λx hx y hy=> ?_,λW h hc x hx=> ?_⟩
 ·simp only[rgU,List.mem_cons,List.not_mem_nil,or_false]at hx |-;rcases hx with rfl|rfl|rfl|rfl
  ·rw[h0]at hy;simp at hy;rcases hy with rfl|rfl<;>simp
  ·rw[h1]at hy;simp at hy;subst hy;simp
  ·rw[h2]at hy;simp at hy;subst hy;simp
  ·rw[h3]at hy;cases hy
 ·have w1:=hc _ h (1,[]) (by rw[h0];simp);have w3:=hc _ h (3,[]) (by rw[h0];simp);have w2:=hc _ w1 (2,[]) (by rw[h1];simp);simp only[rgU,List.mem_cons,List.not_mem_nil,or_false]at hx;rcases hx with rfl|rfl|rfl|rfl
  ·exact h
  ·exact w1
  ·exact w3
  ·exact w2
theorem QAO:Expl (gW QaP rgY rgP).nx (0,[]) rgU:=by
 obtain⟨h0,h1,h2,h3⟩:=QBT;refine⟨⟨_,rfl⟩,by decide,λx hx y hy=> ?_,λW h hc x hx=> ?_⟩
 ·simp only[rgU,List.mem_cons,List.not_mem_nil,or_false]at hx |-;rcases hx with rfl|rfl|rfl|rfl
  ·rw[h0]at hy;simp at hy;rcases hy with rfl|rfl<;>simp
  ·rw[h1]at hy;simp at hy;subst hy;simp
  ·rw[h2]at hy;simp at hy;subst hy;simp
  ·rw[h3]at hy;cases hy
 ·have w1:=hc _ h (1,[]) (by rw[h0];simp);have w3:=hc _ h (3,[]) (by rw[h0];simp);have w2:=hc _ w3 (2,[]) (by rw[h2];simp);simp only[rgU,List.mem_cons,List.not_mem_nil,or_false]at hx;rcases hx with rfl|rfl|rfl|rfl
  ·exact h
  ·exact w1
  ·exact w3
  ·exact w2
theorem QyJ:Qpf (gW QaP rgX rgP) rgU.length (0,[]) 0=([⟨2,-1,[0,2]⟩,⟨2,-1,[7,5]⟩],0):=by
 decide
theorem QyK:Qw6 (gW QaP rgX rgP) rgU (0,[]) 0=(true,0):=by decide
theorem QyM:Qxj QaP (gW QaP rgY rgP) rgU (0,[]) 0=([],16):=by decide
theorem QyN{P:Program}(hP:P=Tryz.prog):UOK P QaP rgX rgP (gW QaP rgX rgP) rgU/\UOK P QaP rgY rgP (gW QaP rgY rgP) rgU:=
  ⟨QuL hP QAM.1 QAP.1 (s0:=(0,[])) ⟨by decide,by decide,by decide,λs hs=>by cases hs⟩ QAN (by decide),
   QuL hP QAM.2 QAP.2 (s0:=(0,[])) ⟨by decide,by decide,by decide,λs hs=>by cases hs⟩ QAO (by decide)⟩
def Qlu:Nat->Code->Bool
 |0,_=>true
 |n+1,.seq _ b=>Qlu n b
 |_+1,_=>false
def Qfx:Nat->Code->Code
 |0,c=>c
 |n+1,.seq _ b=>Qfx n b
 |_+1,c=>c
def QiZ:Nat->AC->AC
 |0,c=>c
 |n+1,.seq _ b=>QiZ n b
 |_+1,c=>c
def QA9(P:Program)(Λ:Len)(m:Nat):Nat->AC->Lv->Hp->(Lv->Hp->Prop)->Prop
 |0,_,L,h,K=>K L h
 |n+1,.seq a b,L,h,K=>vcC P Λ m a L h λe L' h'=>match e with
  | .normal=>QA9 P Λ m n b L' h' K
  |_=>False
 |_+1,_,_,_,_=>False
theorem Qvq{P:Program}{N:Nat}{G0:Nat->Prop}{ι0:Io}{h0:Hp}{w0:World}{Λ:Len}(hΛ:∀l,Λ l=(l.length:Int)){m:Nat}(hm:P.follows .mixedOrders=true)(hm0:h0.length<=m){post:Exit->Act->World->Prop}{K:Lv->Hp->Prop}:
  ∀(n:Nat) (c:Code) (x:AC) (L:Lv) (h:Hp) (a:Act) (w:World),Qlu n c=true->Qgu P N c=some x->QA9 P Λ m n x L h K->Fits N G0 ι0 h0 w0 (lkL L) h a w->
   (∀L' h' a' w',K L' h'->Fits N G0 ι0 h0 w0 (lkL L') h' a' w'->Qgu P N (Qfx n c)=some (QiZ n x)->(Qfx n c).wpIn (Fen none) 0 P post a' w')->c.wpIn (Fen none) 0 P post a w:=by
 intro n;induction n with
 |zero=>intro c x L h a w _ hc hv hf hk;exact hk L h a w hv hf hc
 |succ n ih=>
  intro c x L h a w hs hc hv hf hk;cases c with
  |seq c1 c2=>
   simp only[Qgu,Qb9]at hc;split at hc
   ·rename_i x1 x2 h1 h2;cases hc;simp only[QA9]at hv;refine wpIn_seq (wpIn_mono (Qhp hΛ hm hm0 c1 x1 L h _ a w h1 hv hf) λe a' w' ⟨L',h',hq,hf'⟩=> ?_);cases e with
    |normal=>exact ih c2 x2 L' h' a' w' hs h2 hq hf' hk
    |ret=>exact hq.elim
    |exit i=>exact hq.elim
    |goto=>exact hq.elim
    |panic=>exact hq.elim
    |outgrown=>exact hq.elim
   ·cases hc
  |_=>cases hs
inductive NoW (bad:D->Prop):D->Prop
 |int (k:IntKind) (n:Int):NoW bad (.int k n)
 |bool (b:Bool):NoW bad (.bool b)
 |list (nl:Bool) (sz:Nat) (l:List (List D)) (h:∀(i:Nat) (e:List D) (j:Nat) (x:D),l[i]? =some e->e[j]? =some x->¬bad x) (h':∀(i:Nat) (e:List D) (j:Nat) (x:D),l[i]? =some e->e[j]? =some x->NoW bad x):NoW bad (.list nl sz l)
section
variable{G:Nat->Prop}{w w':World}{b0 o0:Nat}{v0:Value}
theorem DR.poke(hw:∀b o,¬(b=b0/\o=o0)->w'.cell? ⟨b,o,none⟩=w.cell? ⟨b,o,none⟩)(hv:w.cell? ⟨b0,o0,none⟩=some v0){d:D}(hno:NoW (DR G w v0) d):∀{v:Value},DR G w v d->DR G w' v d:=by
 induction hno with
 |int k n=>intro v h;cases h;exact .int _ _
 |bool b=>intro v h;cases h;exact .bool _
 |list nl sz l hl _ ih=>
  intro v h;cases h with
  |nils=>exact .nils _ _
  |emp=>exact .emp _ _
  |sl b off cap _ _ g hG hcap hmax hsz hc hr=>
   refine .sl b off cap sz l g hG hcap hmax hsz (λi e j x he hx=> ?_) λi e j x he hx=>ih i e j x he hx (hr i e j x he hx)
   have hne:¬(b=b0/\off+i*sz+j=o0):=λ⟨e1,e2⟩=>by
    have h1:=hc i e j x he hx;rw[e1,e2,hv]at h1;have h2:=hr i e j x he hx;rw[<-osj h1]at h2;exact hl i e j x he hx h2
   rw[hw _ _ hne];exact hc i e j x he hx
theorem Qtg{v:Value}{nl:Bool}{sz:Nat}{l:List (List D)}(h:DR G w v (.list nl sz l)):∃a cap,v= .slice a l.length cap:=by
 generalize hd:D.list nl sz l=d at h;cases h<;>first|(cases hd;done)|(cases hd;exact⟨_,_,rfl⟩)
theorem QCA{v:Value}{k:IntKind}{n:Int}(h:DR G w v (.int k n)):v= .int k n:=by
 cases h;rfl
theorem QBv{v:Value}{b:Bool}(h:DR G w v (.bool b)):v= .bool b:=by
 cases h;rfl
theorem Qxb{v:Value}{nl nl':Bool}{sz sz':Nat}{l l':List (List D)}(h:DR G w v (.list nl sz l))(h':DR G w v (.list nl' sz' l')):l.length=l'.length:=by
 obtain⟨a,c,e⟩:=Qtg h;obtain⟨a',c',e'⟩:=Qtg h';have h2:=e.symm.trans e';injection h2
theorem Qz8{v:Value}{nl:Bool}{n:Int}(h:DR G w v (.list nl 1 [[.int .i64 n]])):∃b off cap,v= .slice (some ⟨b,off,none⟩) 1 cap/\w.cell? ⟨b,off,none⟩=some (.int .i64 n):=by
 generalize hd:D.list nl 1 [[.int .i64 n]]=d at h;cases h with
 |sl b off cap _ _ g hG hcap hmax hsz hc hr=>
  cases hd;have h1:=hc 0 _ 0 _ rfl rfl;have h3:=hr 0 _ 0 _ rfl rfl;refine⟨b,off,cap,rfl,?_⟩;rw[show off+0*1+0=off by omega]at h1;rw[h1];generalize g 0 0=u at h3;cases h3;rfl
 |_=>cases hd
theorem Qz9{v:Value}{nl nl':Bool}{n n':Int}(h:DR G w v (.list nl 1 [[.int .i64 n]]))(h':DR G w v (.list nl' 1 [[.int .i64 n']])):n=n':=by
 obtain⟨b,o,c,e,h1⟩:=Qz8 h;obtain⟨b',o',c',e',h2⟩:=Qz8 h';rw[e]at e';cases e';rw[h1]at h2;cases h2;rfl
def QBL(n:Int):D->Bool
 | .list _ 1 [[.int .i64 k]]=>decide (k≠n)
 | .list _ _ l=>decide (l.length≠1)
 | .int _ _=>true
 | .bool _=>true
 |_=>false
theorem Qbh{n:Int}{x:D}(hx:QBL n x=true)(h0:DR G w v0 (.list false 1 [[.int .i64 n]])):¬DR G w v0 x:=by
 intro h;unfold QBL at hx;split at hx
 ·rename_i k;have:=Qz9 h0 h;simp at hx;exact hx this.symm
 ·rename_i l _;have:=Qxb h0 h;simp at hx this;omega
 ·obtain⟨a,c,e⟩:=Qtg h0;rw[QCA h]at e;cases e
 ·obtain⟨a,c,e⟩:=Qtg h0;rw[QBv h]at e;cases e
 ·cases hx
def QBt(n:Int):Nat->D->Bool
 |0,_=>false
 |_+1,.int _ _=>true
 |_+1,.bool _=>true
 |f+1,.list _ _ l=>l.all λe=>e.all λx=>QBL n x&&QBt n f x
 |_+1,_=>false
theorem Qa0{n:Int}(h0:DR G w v0 (.list false 1 [[.int .i64 n]])):∀(f:Nat) {d:D},QBt n f d=true->NoW (DR G w v0) d:=by
 intro f;induction f with
 |zero=>intro d h;cases h
 |succ f ih=>
  intro d h;cases d with
  |int k m=>exact .int _ _
  |bool b=>exact .bool _
  |list nl sz l=>
   simp only[QBt,List.all_eq_true,Bool.and_eq_true]at h;exact .list nl sz l (λi e j x he hx=>Qbh (h e (mgE he) x (mgE hx)).1 h0) λi e j x he hx=>ih (h e (mgE he) x (mgE hx)).2
  |_=>cases h
theorem QoJ(hw:∀b o,¬(b=b0/\o=o0)->w'.cell? ⟨b,o,none⟩=w.cell? ⟨b,o,none⟩)(hv:w.cell? ⟨b0,o0,none⟩=some v0){l l':List (List D)}{sz b off n cap i0 j0:Nat}{x0 x0':D}(h:DR G w (.slice (some ⟨b,off,none⟩) n cap) (.list false sz l))(hne:l≠[])(hll:l'.length=l.length)
 (hsz':∀(i:Nat) (e:List D),l'[i]? =some e->e.length=sz)
 (hx0:∃e,l[i0]? =some e/\e[j0]? =some x0)
 (same:∀(i:Nat) (e':List D) (j:Nat) (x':D),l'[i]? =some e'->e'[j]? =some x'->(i=i0/\j=j0/\x'=x0')\/((∃e,l[i]? =some e/\e[j]? =some x')/\¬DR G w v0 x'/\NoW (DR G w v0) x'/\¬(i=i0/\j=j0)))
 (hat:∀vv,w.cell? ⟨b,off+i0*sz+j0,none⟩=some vv->DR G w vv x0->∃uu,w'.cell? ⟨b,off+i0*sz+j0,none⟩=some uu/\DR G w' uu x0'):
  DR G w' (.slice (some ⟨b,off,none⟩) n cap) (.list false sz l'):=by
 generalize hd:D.list false sz l=d at h;generalize hvv:Value.slice (some ⟨b,off,none⟩) n cap=v at h;cases h with
 |sl b1 off1 cap1 _ _ g hG hcap hmax hsz hc hr=>
  cases hd;injection hvv with e1 e2 e3
  injection e1 with e1
  injection e1 with e4 e5
  subst e2 e3 e4 e5;obtain⟨e,he,hx⟩:=hx0;obtain⟨uu,hu1,hu2⟩:=hat _ (hc i0 e j0 x0 he hx) (hr i0 e j0 x0 he hx);have:=DR.sl (G:=G) (w:=w') b off cap sz l' (λi j=>if i=i0/\j=j0 then uu else g i j) (λ_=>hG hne) (by rw[hll];exact hcap) (by rw[hll];exact hmax) hsz' ?_ ?_
  ·rw[hll]at this;exact this
  ·intro i e' j x' he' hx';rcases same i e' j x' he' hx' with ⟨rfl,rfl,rfl⟩|⟨⟨e2,h1,h2⟩,h3,-,h5⟩
   ·simp only[and_self,if_true];exact hu1
   ·rw[if_neg h5];have h6:=hc i e2 j x' h1 h2;have hnn:¬(b=b0/\off+i*sz+j=o0):=λ⟨q1,q2⟩=>by
     rw[q1,q2,hv]at h6;have h7:=hr i e2 j x' h1 h2;rw[<-osj h6]at h7;exact h3 h7
    rw[hw _ _ hnn];exact h6
  ·intro i e' j x' he' hx';rcases same i e' j x' he' hx' with ⟨rfl,rfl,rfl⟩|⟨⟨e2,h1,h2⟩,h3,h4,h5⟩
   ·simp only[and_self,if_true];exact hu2
   ·rw[if_neg h5];exact DR.poke hw hv h4 (hr i e2 j x' h1 h2)
 |_=>first|(cases hd;done)|(cases hvv;done)|(cases hd;exact absurd rfl hne)
theorem QmF{b off n cap sz:Nat}{nl:Bool}{l:List (List D)}(h:DR G w (.slice (some ⟨b,off,none⟩) n cap) (.list nl sz l)){i j:Nat}{e:List D}{x:D}(he:l[i]? =some e)(hx:e[j]? =some x):∃u,w.cell? ⟨b,off+i*sz+j,none⟩=some u/\DR G w u x:=by
 generalize hd:D.list nl sz l=d at h;generalize hvv:Value.slice (some ⟨b,off,none⟩) n cap=v at h;cases h with
 |sl b1 off1 cap1 _ _ g hG hcap hmax hsz hc hr=>
  cases hd;injection hvv with e1 e2 e3
  injection e1 with e1
  injection e1 with e4 e5
  subst e2 e3 e4 e5;exact⟨_,hc i e j x he hx,hr i e j x he hx⟩
 |_=>first|(cases hd;done)|(cases hvv;done)|(cases hd;cases he)
theorem Qua(hw:∀b o,¬(b=b0/\o=o0)->w'.cell? ⟨b,o,none⟩=w.cell? ⟨b,o,none⟩)(hv:w.cell? ⟨b0,o0,none⟩=some v0){bx ox n cap oT nT capT:Nat}{u:Value}(h:DR G w (.slice (some ⟨bx,ox,none⟩) n cap) (.list false 3 (rgX.map Qav)))
 (hT:w.cell? ⟨bx,ox+1*3+1,none⟩=some (.slice (some ⟨b0,oT,none⟩) nT capT))(ho:o0=oT+2*3+0)(hu:w'.cell? ⟨b0,o0,none⟩=some u)(hu':DR G w' u (.list false 1 [[.int .i64 1]])):
  DR G w v0 (.list false 1 [[.int .i64 2]])/\DR G w' (.slice (some ⟨bx,ox,none⟩) n cap) (.list false 3 (rgY.map Qav)):=by
 obtain⟨v1,h1,h2⟩:=QmF h (i:=1) (j:=1) rfl rfl;rw[hT]at h1;cases h1;obtain⟨v2,h3,h4⟩:=QmF h2 (i:=2) (j:=0) rfl rfl;rw[<-ho,hv]at h3;cases h3;refine⟨h4,QoJ hw hv (i0:=1) (j0:=1) (x0:=Qfa [⟨[1],false,[]⟩,⟨[],false,[]⟩,⟨[2],false,[]⟩,⟨[1,2],false,[]⟩]) (x0':=Qfa [⟨[1],false,[]⟩,⟨[],false,[]⟩,⟨[1],false,[]⟩,⟨[1,2],false,[]⟩]) h (by simp[rgX]) rfl (λi e he=> ?_) ⟨_,rfl,rfl⟩ (λi e j x he hx=> ?_) λvv hvv hvd=> ?_⟩
 ·match i,he with
  |0,he=>cases he;rfl
  |1,he=>cases he;rfl
  |2,he=>cases he;rfl
  |3,he=>cases he;rfl
  |i+4,he=>simp[rgY]at he
 ·match i,he with
  |0,he=>
   cases he
   match j,hx with
   |0,hx=>cases hx;exact .inr ⟨⟨_,rfl,rfl⟩,Qbh rfl h4,Qa0 h4 5 rfl,by omega⟩
   |1,hx=>cases hx;exact .inr ⟨⟨_,rfl,rfl⟩,Qbh rfl h4,Qa0 h4 5 rfl,by omega⟩
   |2,hx=>cases hx;exact .inr ⟨⟨_,rfl,rfl⟩,Qbh rfl h4,Qa0 h4 5 rfl,by omega⟩
   |j+3,hx=>simp[Qav,Qay]at hx
  |1,he=>
   cases he
   match j,hx with
   |0,hx=>cases hx;exact .inr ⟨⟨_,rfl,rfl⟩,Qbh rfl h4,Qa0 h4 5 rfl,by omega⟩
   |1,hx=>cases hx;exact .inl ⟨rfl,rfl,rfl⟩
   |2,hx=>cases hx;exact .inr ⟨⟨_,rfl,rfl⟩,Qbh rfl h4,Qa0 h4 5 rfl,by omega⟩
   |j+3,hx=>simp[Qav,Qay]at hx
  |2,he=>
   cases he
   match j,hx with
   |0,hx=>cases hx;exact .inr ⟨⟨_,rfl,rfl⟩,Qbh rfl h4,Qa0 h4 5 rfl,by omega⟩
   |1,hx=>cases hx;exact .inr ⟨⟨_,rfl,rfl⟩,Qbh rfl h4,Qa0 h4 5 rfl,by omega⟩
   |2,hx=>cases hx;exact .inr ⟨⟨_,rfl,rfl⟩,Qbh rfl h4,Qa0 h4 5 rfl,by omega⟩
   |j+3,hx=>simp[Qav,Qay]at hx
  |3,he=>
   cases he
   match j,hx with
   |0,hx=>cases hx;exact .inr ⟨⟨_,rfl,rfl⟩,Qbh rfl h4,Qa0 h4 5 rfl,by omega⟩
   |1,hx=>cases hx;exact .inr ⟨⟨_,rfl,rfl⟩,Qbh rfl h4,Qa0 h4 5 rfl,by omega⟩
   |2,hx=>cases hx;exact .inr ⟨⟨_,rfl,rfl⟩,Qbh rfl h4,Qa0 h4 5 rfl,by omega⟩
   |j+3,hx=>simp[Qav,Qay]at hx
  |i+4,he=>simp[rgY]at he
 ·rw[hT]at hvv;cases hvv;refine⟨_,?_,QoJ hw hv (i0:=2) (j0:=0) (x0:=Qax [2]) (x0':=Qax [1]) hvd (by simp) rfl (λi e he=> ?_) ⟨_,rfl,rfl⟩ (λi e j x he hx=> ?_) λvv hvv hvd=> ?_⟩
  ·have hnn:¬(bx=b0/\ox+1*3+1=o0):=λ⟨q1,q2⟩=>by
    rw[q1,q2,hv]at hT;rw[osj hT]at h4;have:=Qxb h2 h4;simp at this
   rw[hw _ _ hnn];exact hT
  ·match i,he with
   |0,he=>cases he;rfl
   |1,he=>cases he;rfl
   |2,he=>cases he;rfl
   |3,he=>cases he;rfl
   |i+4,he=>simp at he
  ·match i,he with
   |0,he=>
    cases he
    match j,hx with
    |0,hx=>cases hx;exact .inr ⟨⟨_,rfl,rfl⟩,Qbh rfl h4,Qa0 h4 5 rfl,by omega⟩
    |1,hx=>cases hx;exact .inr ⟨⟨_,rfl,rfl⟩,Qbh rfl h4,Qa0 h4 5 rfl,by omega⟩
    |2,hx=>cases hx;exact .inr ⟨⟨_,rfl,rfl⟩,Qbh rfl h4,Qa0 h4 5 rfl,by omega⟩
    |j+3,hx=>simp[Qav,Qay]at hx
   |1,he=>
    cases he
    match j,hx with
    |0,hx=>cases hx;exact .inr ⟨⟨_,rfl,rfl⟩,Qbh rfl h4,Qa0 h4 5 rfl,by omega⟩
    |1,hx=>cases hx;exact .inr ⟨⟨_,rfl,rfl⟩,Qbh rfl h4,Qa0 h4 5 rfl,by omega⟩
    |2,hx=>cases hx;exact .inr ⟨⟨_,rfl,rfl⟩,Qbh rfl h4,Qa0 h4 5 rfl,by omega⟩
    |j+3,hx=>simp[Qav,Qay]at hx
   |2,he=>
    cases he
    match j,hx with
    |0,hx=>cases hx;exact .inl ⟨rfl,rfl,rfl⟩
    |1,hx=>cases hx;exact .inr ⟨⟨_,rfl,rfl⟩,Qbh rfl h4,Qa0 h4 5 rfl,by omega⟩
    |2,hx=>cases hx;exact .inr ⟨⟨_,rfl,rfl⟩,Qbh rfl h4,Qa0 h4 5 rfl,by omega⟩
    |j+3,hx=>simp[Qav,Qay]at hx
   |3,he=>
    cases he
    match j,hx with
    |0,hx=>cases hx;exact .inr ⟨⟨_,rfl,rfl⟩,Qbh rfl h4,Qa0 h4 5 rfl,by omega⟩
    |1,hx=>cases hx;exact .inr ⟨⟨_,rfl,rfl⟩,Qbh rfl h4,Qa0 h4 5 rfl,by omega⟩
    |2,hx=>cases hx;exact .inr ⟨⟨_,rfl,rfl⟩,Qbh rfl h4,Qa0 h4 5 rfl,by omega⟩
    |j+3,hx=>simp[Qav,Qay]at hx
   |i+4,he=>simp at he
  ·rw[<-ho];exact⟨u,hu,hu'⟩
end
theorem QzL(P:Program)(hP:P=Tryz.prog)(m:Ar)(hT:Qbt m):FnS P Qdq [QaF QaP,Qcy rgX,Qcr rgP,iA 0] [.am m] λr h'=>∃m' tl,h'= .am m'::tl/\Qbt m'/\r= .tup [.c (.d (Qzw [⟨2,-1,[0,2]⟩,⟨2,-1,[7,5]⟩])),iA 0]:=by
 have h:=QuY P hP QaP rgX rgP 0 (gW QaP rgX rgP) rgU m hT λ_=>⟨(QyN hP).1,by decide⟩
 rw[QyL.1,show((0:Int),rgP.stack)=(0,[])from rfl,QyJ]at h;exact h
theorem QzM(P:Program)(hP:P=Tryz.prog)(m:Ar)(hT:Qbt m):FnS P Qc1 [QaF QaP,Qcy rgX,Qcr rgP,iA 0] [.am m] λr h'=>∃m' tl,h'= .am m'::tl/\Qbt m'/\r= .tup [bA true,iA 0]:=by
 have h:=Qzl P hP QaP rgX rgP 0 (gW QaP rgX rgP) rgU m hT λ_=>⟨(QyN hP).1,QAN⟩
 rw[QyL.1,show((0:Int),rgP.stack)=(0,[])from rfl,QyK]at h;exact h
theorem QzO(P:Program)(hP:P=Tryz.prog)(m:Ar)(hT:Qbt m):FnS P QdX [QaF QaP,Qcy rgY,Qcr rgP,iA 0] [.am m] λr h'=>∃m' tl,h'= .am m'::tl/\Qbt m'/\r= .tup [Qao [],iA 16]:=by
 have h:=Qzm P hP QaP rgY rgP 0 (gW QaP rgY rgP) rgU m hT (λ_=>⟨(QyN hP).2,QAO⟩) λ_=>by decide
 rw[QyL.2,show((0:Int),rgP.stack)=(0,[])from rfl,QyM]at h;exact h
def afB:AF->AC
 |⟨_,_,b⟩=>b
def rgL:List (List D):=QaP.links.map Qaz
abbrev rgA:D:= .list false 3 (List.map Qfg [⟨2,-1,[0,2]⟩,⟨2,-1,[7,5]⟩])
theorem QsZ(m:Ar)(hT:Qbt m)(Λ:Len)(Λo:∀l,Λ l=(l.length:Int)):
  vcC Tryz.prog Λ 1 (QiZ 8 (afB Qat)) [(3,.c (.ptr 2 0 0 0)),(4,.c (.d (.list false 3 (rgY.map Qav)))),(6,.c (.d rgA)),(7,iA 0),(8,bA true),(9,iA 0)] [.am m,.dead,.bx [.d (iD 4),.d (.list true 1 []),.d (.list false 7 rgL)]]
   λx L h=>match x with
    | .exit _=>False
    |_=>lkN L 0=bA true/\∃m' tl,h= .am m'::tl/\Qbt m':=by
 have h1:=QzO Tryz.prog rfl m hT;have h2:∀l,Ret Tryz.prog Qck [Qao l,Qao l] (bA true):=λl=>by
  have:=QgH Tryz.prog rfl l l;rw[decide_eq_true rfl]at this;exact this
 have s1:=h2 [0,2];have s2:=h2 [7,5];clear h2;obtain⟨al,hal⟩:∃al,al=List.map Qfg [⟨2,-1,[0,2]⟩,⟨2,-1,[7,5]⟩]:=⟨_,rfl⟩;have l2:Λ al=2:=by rw[Λo,hal];rfl
 have e0:al[(0:Int).toNat]? =some [iD 2,iD (-1),.list false 1 [[iD 0],[iD 2]]]:=by rw[hal];rfl
 have e1:al[(1:Int).toNat]? =some [iD 2,iD (-1),.list false 1 [[iD 7],[iD 5]]]:=by rw[hal];rfl
 rw[rgA,<-hal];clear hal;simp only[QaF,Qcy,Qaf,Qak,Qau]at h1;generalize hyl:List.map Qav rgY=yl at*;have h1f:FnS Tryz.prog QdX [.agg [.d (iD 4),.d (.list true 1 []),.d (.list false 7 rgL)],.c (.d (.list false 3 yl)),.agg [.d (iD 0),.d (iD 0),.d (iD 2),.d (iD 0),.d (.list true 2 []),.d (iD 0)],iA 0] [.am m] _:=FnS.fg h1;clear h1;generalize rgL=ll at*;generalize hP:Tryz.prog=P at*
 conv=>cbv
 repeat' first|(refine QaH [0] h1f ?_;rintro r hc' ⟨m3,tl3,rfl,hT3,rfl⟩;(conv=>cbv))|(intro(e:List D) he;cases osj (he.symm.trans e0);(conv=>cbv))|(intro(e:List D) he;cases osj (he.symm.trans e1);(conv=>cbv))|(refine Qag s1 rfl rfl ?_;conv=>cbv)|(refine Qag s2 rfl rfl ?_;conv=>cbv)|exact⟨rfl,m3,_,rfl,hT3⟩|exact⟨m3,_,rfl,hT3⟩|exact gxQ|refine And.intro ?_ ?_|(intro hc;(first|rw[wS (by omega) (by omega)]at hc|rw[Qab]at hc|skip);try (conv=>cbv))
theorem Qse(P:Program)(hP:P=Tryz.prog)(t:Top)(down:List Bool)(n:Int)(m:Ar)(hf:QaK t down=true)(hn:0<=n/\n<t.nodes)(hu:∀a∈Qlg t n,upB down a=true):
  FnS P Qc0 [QaF t,Qau down,iA n] [.am m] λr h'=>∃m' tl d,h'= .am m'::tl/\r= .tup [.agg [.d (iD n),.d d,.d (.list true 1 [])],iA 0]/\Qdg 3 m' d ((toL t down n t.nodes.toNat).map Qay)/\(∀b,m b≠none->m' b=m b)/\∀b,InB d b->m b=none:=by
 have hfits:=QhE P hP t down;have hnext:=λd=>Qt3 P hP t down n d
 have hout:=Qxp P hP t n;have hup:=λa=>QuM P hP down a
 refine QaW (hP▸mixed) (hP▸Qfi) (hP▸Qf3) (nle rfl) λΛ Λo K hK=> ?_
 clear hP;have hfb:Qam t=true/\(down.length=0\/down.length=2*t.links.length):=by simpa [QaK]using hf
 obtain⟨hv,hdo⟩:=hfb;have hn64:=(Qai.1 hv).1;have hor:∀a∈Qlg t n,0<=a/\a<2*t.links.length:=by
  intro a ha;have h2:Qbo t=2*t.links.length:=by rw[Qbo,if_pos hv]
  simp only[Qlg,List.mem_filter,QaS,List.mem_map,List.mem_range]at ha;obtain⟨⟨k,hk,rfl⟩,_⟩:=ha;omega
 have hol':(Qlg t n).length<=512:=by
  rw[Qlg];refine Nat.le_trans (List.length_filter_le _ _) ?_;have:=(QdQ t).2.1;simp only[QaS,List.length_map,List.length_range];omega
 have hts:∀k,toL t down n (k+1)=toL t down n k++[⟨(QhT t down n k).1,false,[]⟩]:=by
  intro k;simp[toL,Qcl]
 have ht0:toL t down n 0=[]:=rfl;have htn:∀k,(toL t down n k).length=k:=by intro k;simp[toL,QaS]
 have hend:=λm' tl d h1 h2 h3=>hK (.tup [.agg [.d (iD n),.d d,.d (.list true 1 [])],iA 0]) (.am m'::tl) ⟨m',tl,d,rfl,rfl,h1,h2,h3⟩
 clear hK;rw[hf]at hfits;generalize toL t down n=tol at*;generalize hub:upB down=ub at*;generalize QhT t down n=nx at*;generalize Qlg t n=ou at*;simp only[Qau,Qaf]at*;clear hf;generalize hdl:down.map QaY=dl at*;obtain⟨nodes,ov,links⟩:=t;simp only[QaF,Qaf,Qak,Qao,Qax]at*;generalize hol:List.map QaY ov=ol at*;generalize hll:List.map Qaz links=ll at*
 conv=>cbv
 repeat' first|refine Qaw hfits rfl rfl ?_ ?_|(left;intro(_:Unit);(conv=>cbv))|(intro hc;cases hc;done)|exact gxQ|refine And.intro ?_ ?_|(intro hc;(first|rw[wS (by omega) (by omega)]at hc|rw[Qab]at hc|skip);try (conv=>cbv))
 refine Qbs nodes.toNat (λ(s:Int×Ar×D)=>[(1,.c (.d (.list false 1 dl))),(2,iA n),(3,.c (.ptr 1 0 0 0)),(6,.c (.ptr 2 0 0 0)),(8,.c (.ptr 3 0 0 0)),(9,iA s.1)])
  (λs=>[.am s.2.1,.bx [.d (iD nodes),.d (.list false 1 ol),.d (.list false 7 ll)],.bx [.d (iD 0),.d (.list true 3 []),.d (.list true 1 [])],.bx [.d (iD n),.d s.2.2,.d (.list true 1 [])]])
  (λk s=>s.1=k/\k<=nodes.toNat/\Qdg 3 s.2.1 s.2.2 ((tol k).map Qay)/\(∀b,m b≠none->s.2.1 b=m b)/\∀b,InB s.2.2 b->m b=none) (0,m,.list true 3 [])
  0 (λ(s:Ar×D)=>[(1,.c (.d (.list false 1 dl))),(2,iA n),(3,.c (.ptr 1 0 0 0)),(6,.c (.ptr 2 0 0 0)),(8,.c (.ptr 3 0 0 0))])
  (λs=>[.am s.1,.bx [.d (iD nodes),.d (.list false 1 ol),.d (.list false 7 ll)],.bx [.d (iD 0),.d (.list true 3 []),.d (.list true 1 [])],.bx [.d (iD n),.d s.2,.d (.list true 1 [])]]) (λs=>Qdg 3 s.1 s.2 ((tol nodes.toNat).map Qay)/\(∀b,m b≠none->s.1 b=m b)/\∀b,InB s.2 b->m b=none)
  (Wk.ca) ⟨rfl,by omega,.inl ⟨rfl,by rw[ht0];rfl⟩,λ_ _=>rfl,λb hb=>(Qa9 hb).elim⟩ (λk s h=>h.2.1) ?_ ?_
 ·rintro k ⟨d,m1,dd⟩ Q' ⟨hi,hk,hrow,hsame,hnew⟩ norm jn ex rt;simp only at hi hrow hsame hnew;have hnx:=hnext d;have hts:=hts k;rw[<-hi]at hts;have htk:=htn k;clear hend hout hup hfits hnext;by_cases hlt:k<nodes.toNat
  ·generalize nx d=nd at*;obtain⟨nl,ne⟩:=nd;simp only at hnx hts;generalize hnl:nl.map Qar=nll at*;have hnew1:(tol (k+1)).map Qay=(tol k).map Qay++[[.list false 1 nll,.bool false,.list false 2 []]]:=by rw[hts,List.map_append];simp only[List.map_cons,List.map_nil,Qay,Qax,QaZ,List.map_nil,hnl]
   have hlen1:((tol k).map Qay).length=k:=by rw[List.length_map];exact htk
   have fin:∀L h m4 d4,GrS 3 m1 m4 dd d4 ((tol (k+1)).map Qay)->Wk _ L h _ _->Q' .normal L h:=λL h m4 d4 g hw=>norm L h (((k+1:Nat):Int),m4,d4) ⟨rfl,by omega,g.row,λb hb=>(g.same b (by rw[hsame b hb];exact hb) (λhd=>hb (hnew b hd))).trans (hsame b hb),λb hb=>(g.new b hb).elim (hnew b) λh1=>Classical.byContradiction λhm=>by rw[hsame b hm]at h1;exact hm h1⟩ hw
   clear norm jn;rw[hnew1]at fin;generalize (tol k).map Qay=prl at*;obtain⟨i1,hi1⟩:∃z:Int,z=((k+1:Nat):Int):=⟨_,rfl⟩;simp only[<-hi1]at fin;rcases hrow with ⟨rfl,rfl⟩|⟨bn,Nn,cap,rfl,hbn2,hsz,hcap,hNn⟩
   ·conv=>cbv
    repeat' first|(refine ex _ _ _ ?_;(conv=>cbv))|(refine Qag hnx rfl rfl ?_;conv=>cbv)|(right;intro(_:Unit);refine And.intro (λ_=>⟨(λhq=>by cases hq),nle rfl⟩) ?_;intro(b4:Nat) (N4:Nat) (cap4:Nat) (k4:Nat) (m4:Ar) hb4 hk4 hkc4 hcN4 hm4;have hg:=Qj7 (e:=[.list false 1 nll,.bool false,.list false 2 []]) rfl hb4 hk4 hkc4 hcN4 hm4;(conv=>cbv))|(left;intro(_:Unit);(conv=>cbv))|(intro(k:Int) hk;rw[wS (by omega) (by omega)]at hk;refine(λ(hz:i1=k)=> ?_) ?_;rotate_left;omega;subst hz;(conv=>cbv))|exact gxQ|refine And.intro ?_ ?_|(intro hc;(first|rw[wS (by omega) (by omega)]at hc|rw[Qab]at hc|skip);try (conv=>cbv))
    exact fin _ _ _ _ hg (Wk.ca)
   ·generalize hnal:prl.length=nal at*
    conv=>cbv
    repeat' first|(refine ex _ _ _ ?_;(conv=>cbv))|(refine Qag hnx rfl rfl ?_;conv=>cbv)|(refine⟨Nn,prl,hbn2,rfl,hnal,hsz,hcap,hNn,(λ_=>⟨(λhq=>by cases hq),(show(nal+1)*56<=140737488355328 by omega)⟩),?_⟩;intro(b4:Nat) (N4:Nat) (cap4:Nat) (k4:Nat) (m4:Ar) hb4 hk4 hkc4 hcN4 hm4;have hg:=Qm3 (c:=cap) (e:=[.list false 1 nll,.bool false,.list false 2 []]) hsz rfl hnal hb4 hk4 hkc4 hcN4 hm4;(conv=>cbv))|(left;intro(_:Unit);(conv=>cbv))|(intro(k:Int) hk;rw[wS (by omega) (by omega)]at hk;refine(λ(hz:i1=k)=> ?_) ?_;rotate_left;omega;subst hz;(conv=>cbv))|exact gxQ|refine And.intro ?_ ?_|(intro hc;(first|rw[wS (by omega) (by omega)]at hc|rw[Qab]at hc|skip);try (conv=>cbv))
    exact fin _ _ _ _ hg (Wk.ca)
  ·obtain rfl:k=nodes.toNat:=by omega
   clear norm
   conv=>cbv
   repeat' first|exact gxQ|refine And.intro ?_ ?_|(intro hc;(first|rw[wS (by omega) (by omega)]at hc|rw[Qab]at hc|skip);try (conv=>cbv))
   refine jn _ _ (_,_) ⟨hrow,hsame,hnew⟩ (Wk.ca)
 rintro⟨m1,dd⟩ ⟨hrow,hsame,hnew⟩;simp only at hrow hsame hnew;have fin:=λtl=>hend m1 tl dd hrow hsame hnew
 clear hend hrow hsame hnew hnext hts ht0 htn hfits;generalize oeh:ou.map Qar=oe at*;have hon:Λ oe=ou.length:=by rw[Λo,<-oeh];simp
 conv=>cbv
 repeat' first|(refine Qag hout rfl rfl ?_;conv=>cbv)|exact gxQ|refine And.intro ?_ ?_|(intro hc;(first|rw[wS (by omega) (by omega)]at hc|rw[Qab]at hc|skip);try (conv=>cbv))
 refine QaT ou.length (λ(s:Int)=>[(1,.c (.d (.list false 1 dl))),(6,.c (.ptr 2 0 0 0)),(8,.c (.ptr 3 0 0 0)),(12,.c (.d (.list false 1 oe))),(13,iA s)])
  (λs=>[.am m1,.bx [.d (iD nodes),.d (.list false 1 ol),.d (.list false 7 ll)],.bx [.d (iD 0),.d (.list true 3 []),.d (.list true 1 [])],.bx [.d (iD n),.d dd,.d (.list true 1 [])]])
  (λk s=>s=k/\k<=ou.length) 0
  (Wk.ca) ⟨rfl,by omega⟩ (λk s h=>h.2) ?_
 rintro k i Q' ⟨hi,hk⟩ norm ex rt;by_cases hlt:k<ou.length
 ·obtain⟨x,hx⟩:∃x,ou[k]? =some x:=⟨_,lgE hlt⟩;have hxa:=QdS oeh hi hx;have hxr:=hor x (mgE hx);have hux:=hup x (by omega);rw[hu x (mgE hx)]at hux;simp only[Qar]at hxa;clear fin hup hu;obtain⟨i1,hi1⟩:∃z:Int,z=((k+1:Nat):Int):=⟨_,rfl⟩
  conv=>cbv
  repeat' first|(refine ex _ _ _ ?_;(conv=>cbv))|(refine rt _ _ ?_;(conv=>cbv))|(intro e he;cases osj (he.symm.trans hxa);(conv=>cbv))|refine Qaw hux rfl rfl ?_ ?_|(intro(k:Int) hk;rw[wS (by omega) (by omega)]at hk;refine(λ(hz:i1=k)=> ?_) ?_;rotate_left;omega;subst hz;(conv=>cbv))|exact gxQ|refine And.intro ?_ ?_|(intro hc;(first|rw[wS (by omega) (by omega)]at hc|rw[Qab]at hc|skip);try (conv=>cbv))
  all_goals (refine norm _ _ i1 ⟨hi1,by omega⟩ (Wk.ca))
 ·conv=>cbv
  repeat' first|(refine ex _ _ _ ?_;(conv=>cbv))|(refine rt _ _ ?_;(conv=>cbv))|exact gxQ|refine And.intro ?_ ?_|(intro hc;(first|rw[wS (by omega) (by omega)]at hc|rw[Qab]at hc|skip);try (conv=>cbv))
  all_goals exact fin _
structure TbR (t:Top) (down:List Bool) (m0 m:Ar) (d:D) (l:List (List D)):Prop where
 row:Qdg 3 m d l
 el:∀(i:Nat) (e:List D),l[i]? =some e->∃x,e=[iD (i:Int),x,.list false 1 []]/\Qdg 3 m x ((toL t down (i:Int) t.nodes.toNat).map Qay)/\(∀b,InB x b->m0 b=none)/\∀b,InB x b->¬InB d b
 nw:∀b,InB d b->m0 b=none
 same:∀b,m0 b≠none->m b=m0 b
theorem TbR.step{t:Top}{down:List Bool}{m0 m m1 m4:Ar}{d d4 x:D}{l:List (List D)}{k:Nat}{i:Int}(h:TbR t down m0 m d l)(hk:l.length=k)(hi:i=(k:Int))(hx:Qdg 3 m1 x ((toL t down i t.nodes.toNat).map Qay))(h1:∀b,m b≠none->m1 b=m b)(h2:∀b,InB x b->m b=none)
 (g:GrS 3 m1 m4 d d4 (l++[[iD i,x,.list false 1 []]])):TbR t down m0 m4 d4 (l++[[iD i,x,.list false 1 []]])where
 row:=g.row
 el:=λj e he=>by
  have one:∀(y:D) (yl:List (List D)),Qdg 3 m1 y yl->(∀b,InB y b->¬InB d b)->Qdg 3 m4 y yl/\∀b,InB y b->¬InB d4 b:=λy yl hy hd=>
   ⟨hy.frame λb hb=>g.same b (hy.key' hb) (hd b hb),λb hb h4=>(g.new b h4).elim (hd b hb) (hy.key' hb)⟩
  by_cases hj:j<l.length
  ·rw[gal hj]at he;obtain⟨y,rfl,q1,q2,q3⟩:=h.el j e he;obtain⟨p1,p2⟩:=one y _ (q1.frame λb hb=>h1 b (q1.key' hb)) q3;exact⟨y,rfl,p1,q2,p2⟩
  ·rw[apQ (by omega)]at he;have hj2:j-l.length=0:=by have:=Qaa he;simp at this;omega
   rw[hj2]at he;simp only[List.getElem?_cons_zero,osi]at he;subst he;obtain rfl:j=k:=by omega
   subst hi;obtain⟨p1,p2⟩:=one x _ hx λb hb hd=>h.row.key' hd (h2 b hb)
   refine⟨x,rfl,p1,λb hb=>Classical.byContradiction λhm=> ?_,p2⟩;have:=h.same b hm;rw[h2 b hb]at this;exact hm this.symm
 nw:=λb hb=>by
  rcases g.new b hb with h3|h3
  ·exact h.nw b h3
  ·refine Classical.byContradiction λhm=> ?_
   have h4:=h.same b hm;have h5:=h1 b (by rw[h4];exact hm);rw[h3,h4]at h5;exact hm h5.symm
 same:=λb hb=>by
  have h4:=h.same b hb;have h5:=h1 b (by rw[h4];exact hb);rw[g.same b (by rw[h5,h4];exact hb) (λhd=>hb (h.nw b hd)),h5,h4]
theorem QA4{P:Program}{f:Nat}{args:List AV}{m:Ar}{R:AV->Ar->Prop}(hf:FnS P f args [.am m] λr h'=>∃m' tl,h'= .am m'::tl/\R r m')(hr:∀r m',R r m'->(∀Z,r=rnA Z r)/\Qwo 1 r=true):FnS P f args [.am m] λr h'=>∃m',h'=[.am m']/\R r m':=by
 refine FnS.gct hf _ λr h' hR=> ?_
 obtain⟨m',tl,rfl,h⟩:=hR;obtain⟨h1,h2⟩:=hr r m' h;refine⟨[0],r,[.am m'],⟨m',rfl,h⟩,rfl,by decide,λl hl=>by simp at hl |-;omega,λi k hk=> ?_,h1 _,rfl,h2,by simp,λi hi=> ?_,λk hk=> ?_⟩
 ·match i,hk with
  |0,hk=>cases hk;rfl
  |i+1,hk=>simp at hk
 ·match i,hi with
  |0,_=>rfl
 ·simp at hk;rw[hk];intro _ _ _ h;cases h
theorem Qqa(P:Program)(hP:P=Tryz.prog)(t:Top)(down:List Bool)(n:Int)(m:Ar)(hf:QaK t down=true)(hn:0<=n/\n<t.nodes)(hu:∀a∈Qlg t n,upB down a=true):
  FnS P Qc0 [QaF t,Qau down,iA n] [.am m] λr h'=>∃m',h'=[.am m']/\∃b k cap,r= .tup [.agg [.d (iD n),.d (.sl b 0 3 k cap),.d (.list true 1 [])],iA 0]/\Qdg 3 m' (.sl b 0 3 k cap) ((toL t down n t.nodes.toNat).map Qay)/\(∀b,m b≠none->m' b=m b)/\∀i,InB (.sl b 0 3 k cap) i->m i=none:=by
 refine QA4 ((Qse P hP t down n m hf hn hu).mono λr h' ⟨m',tl,d,e1,e2,h3,h4,h5⟩=>⟨m',tl,e1,?_⟩) λr m' ⟨b,k,cap,e,_⟩=>by subst e;exact⟨λ_=>rfl,rfl⟩
 have h3':=h3;rcases h3 with ⟨-,h0⟩|⟨b,N,cap,rfl,-⟩
 ·have hl:((toL t down n t.nodes.toNat).map Qay).length=t.nodes.toNat:=by simp[toL,QaS]
  rw[h0]at hl;simp at hl;omega
 ·exact⟨b,_,cap,e2,h3',h4,h5⟩
theorem QxK(P:Program)(hP:P=Tryz.prog)(t:Top)(down:List Bool)(m:Ar)(hf:QaK t down=true)(hu:∀n a,a∈Qlg t n->upB down a=true):
  FnS P QdC [QaF t,Qau down] [.am m] λr h'=>∃m' tl d l,h'= .am m'::tl/\r= .tup [.c (.d d),iA 0]/\l.length=t.nodes.toNat/\TbR t down m m' d l:=by
 have hft:=QhE P hP t down;rw[hf]at hft;have hro:=λn m hn=>Qqa P hP t down n m hf hn (hu n)
 have hv:t.nodes<=64/\0<=t.nodes:=by
  have h1:Qam t=true:=by
   simp only[QaK,Bool.and_eq_true]at hf;exact hf.1
  have:=(Qai.1 h1).1;omega
 clear hf hu;refine QaW (hP▸mixed) (hP▸Qh5) (hP▸QjD) (nle rfl) λΛ Λo K hK=> ?_
 clear hP;have hend:=λm' tl d l h1 h2=>hK (.tup [.c (.d d),iA 0]) (.am m'::tl) ⟨m',tl,d,l,rfl,rfl,h1,h2⟩
 clear hK;have hst:=λ{m1 m2 m4 d d4 x l k i}=> @TbR.step t down m m1 m2 m4 d d4 x l k i
 have h0:TbR t down m m (.list true 3 []) []:=⟨.inl ⟨rfl,rfl⟩,λi e h=>by simp at h,λb hb=>(Qa9 hb).elim,λb _=>rfl⟩;have hrk:=λ{m1 d l} (h:TbR t down m m1 d l)=>h.row
 generalize TbR t down m=tbr at*;obtain⟨hv1,hv0⟩:=hv;generalize hrr:(λn=>(toL t down n t.nodes.toNat).map Qay)=rr at*;have hr2:∀n,(toL t down n t.nodes.toNat).map Qay=rr n:=λn=>by rw[<-hrr]
 simp only[hr2]at hro hst;clear hrr hr2;obtain⟨nodes,ov,links⟩:=t;simp only[QaF,Qau,Qaf,Qak]at*;generalize hdl:List.map QaY down=dl at*;generalize hol:List.map QaY ov=ol at*;generalize hll:List.map Qaz links=ll at*
 conv=>cbv
 repeat' first|(refine Qag hft rfl rfl ?_;conv=>cbv)|(left;intro(_:Unit);(conv=>cbv))|(intro hc;cases hc;done)|exact gxQ|refine And.intro ?_ ?_|(intro hc;(first|rw[wS (by omega) (by omega)]at hc|rw[Qab]at hc|skip);try (conv=>cbv))
 refine Qbs nodes.toNat (λ(s:Int×Ar×D×List (List D))=>[(1,.c (.d (.list false 1 dl))),(2,.c (.ptr 1 0 0 0)),(6,.c (.d s.2.2.1)),(7,iA s.1)])
  (λs=>[.am s.2.1,.bx [.d (iD nodes),.d (.list false 1 ol),.d (.list false 7 ll)]])
  (λk s=>s.1=k/\k<=nodes.toNat/\s.2.2.2.length=k/\tbr s.2.1 s.2.2.1 s.2.2.2) (0,m,.list true 3 [],[])
  0 (λ(s:Ar×D×List (List D))=>[(6,.c (.d s.2.1))])
  (λs=>[.am s.1,.bx [.d (iD nodes),.d (.list false 1 ol),.d (.list false 7 ll)]]) (λs=>s.2.2.length=nodes.toNat/\tbr s.1 s.2.1 s.2.2)
  (Wk.ca) ⟨rfl,by omega,rfl,h0⟩ (λk s h=>h.2.1) ?_ ?_
 ·rintro kk ⟨d,m1,dd,l⟩ Q' ⟨hi,hk,hl,hT⟩ norm jn ex rt;simp only at hi hl hT;by_cases hlt:kk<nodes.toNat
  ·have hrk1:=hro d m1 (by omega);have hrow:=hrk hT;have fin:∀L h m2 m4 d4 x,Qdg 3 m2 x (rr d)->(∀b,m1 b≠none->m2 b=m1 b)->(∀b,InB x b->m1 b=none)->GrS 3 m2 m4 dd d4 (l++[[iD d,x,.list false 1 []]])->Wk _ L h _ _->Q' .normal L h:=λL h m2 m4 d4 x q1 q2 q3 g hw=>norm L h (((kk+1:Nat):Int),m4,d4,l++[[iD d,x,.list false 1 []]]) ⟨rfl,by omega,by simp[hl],hst hT hl hi q1 q2 q3 g⟩ hw
   obtain⟨i1,hi1⟩:∃z:Int,z=((kk+1:Nat):Int):=⟨_,rfl⟩;simp only[<-hi1]at fin;clear norm jn hst hro hT h0 hend hft hrk;generalize rr d=rd at*;rcases hrow with ⟨rfl,rfl⟩|⟨bn,Nn,cap,rfl,hbn2,hsz,hcap,hNn⟩
   ·conv=>cbv
    repeat' first|(refine ex _ _ _ ?_;(conv=>cbv))|(refine QaH [0] hrk1 ?_;rintro r hc' ⟨m2,rfl,xb,xk,xc,rfl,q1,q2,q3⟩;(conv=>cbv))|(right;intro(_:Unit);refine And.intro (λ_=>⟨(λhq=>by cases hq),nle rfl⟩) ?_;intro(b4:Nat) (N4:Nat) (cap4:Nat) (k4:Nat) (m4:Ar) hb4 hk4 hkc4 hcN4 hm4;have hg:=Qj7 (e:=[iD d,.sl xb 0 3 xk xc,.list false 1 []]) rfl hb4 hk4 hkc4 hcN4 hm4;(conv=>cbv))|(left;intro(_:Unit);(conv=>cbv))|(intro(k:Int) hk;rw[wS (by omega) (by omega)]at hk;refine(λ(hz:i1=k)=> ?_) ?_;rotate_left;omega;subst hz;(conv=>cbv))|exact gxQ|refine And.intro ?_ ?_|(intro hc;(first|rw[wS (by omega) (by omega)]at hc|rw[Qab]at hc|skip);try (conv=>cbv))
    exact fin _ _ _ _ _ _ q1 q2 q3 hg (Wk.ca)
   ·generalize hnal:l.length=nal at*
    conv=>cbv
    repeat' first|(refine ex _ _ _ ?_;(conv=>cbv))|(refine QaH [0] hrk1 ?_;rintro r hc' ⟨m2,rfl,xb,xk,xc,rfl,q1,q2,q3⟩;have hbn3:=(q2 bn (by rw[hbn2];simp)).trans hbn2;(conv=>cbv))|(refine⟨Nn,l,hbn3,rfl,hnal,hsz,hcap,hNn,(λ_=>⟨(λhq=>by cases hq),(show(nal+1)*56<=140737488355328 by omega)⟩),?_⟩;intro(b4:Nat) (N4:Nat) (cap4:Nat) (k4:Nat) (m4:Ar) hb4 hk4 hkc4 hcN4 hm4;have hg:=Qm3 (c:=cap) (e:=[iD d,.sl xb 0 3 xk xc,.list false 1 []]) hsz rfl hnal hb4 hk4 hkc4 hcN4 hm4;(conv=>cbv))|(left;intro(_:Unit);(conv=>cbv))|(intro(k:Int) hk;rw[wS (by omega) (by omega)]at hk;refine(λ(hz:i1=k)=> ?_) ?_;rotate_left;omega;subst hz;(conv=>cbv))|exact gxQ|refine And.intro ?_ ?_|(intro hc;(first|rw[wS (by omega) (by omega)]at hc|rw[Qab]at hc|skip);try (conv=>cbv))
    exact fin _ _ _ _ _ _ q1 q2 q3 hg (Wk.ca)
  ·obtain rfl:kk=nodes.toNat:=by omega
   clear norm
   conv=>cbv
   repeat' first|exact gxQ|refine And.intro ?_ ?_|(intro hc;(first|rw[wS (by omega) (by omega)]at hc|rw[Qab]at hc|skip);try (conv=>cbv))
   refine jn _ _ (_,_,_) ⟨hl,hT⟩ (Wk.ca)
 rintro⟨m1,dd,l⟩ ⟨hl,hT⟩;simp only at hl hT;have fin:=λtl=>hend m1 tl dd l hl hT
 conv=>cbv
 repeat' first|exact fin _|exact gxQ|refine And.intro ?_ ?_|(intro hc;(first|rw[wS (by omega) (by omega)]at hc|rw[Qab]at hc|skip);try (conv=>cbv))
theorem Qve(P:Program)(hP:P=Tryz.prog)(t:Top)(down:List Bool)(m:Ar)(hf:QaK t down=true)(hu:∀n a,a∈Qlg t n->upB down a=true):
  FnS P QdC [QaF t,Qau down] [.am m] λr h'=>∃m',h'=[.am m']/\∃d l,r= .tup [.c (.d d),iA 0]/\l.length=t.nodes.toNat/\TbR t down m m' d l:=
 QA4 ((QxK P hP t down m hf hu).mono λr h' ⟨m',tl,d,l,e1,e2,h3⟩=>⟨m',tl,e1,d,l,e2,h3⟩) λr m' ⟨d,l,e,_⟩=>by subst e;exact⟨λ_=>rfl,rfl⟩
def Qu3(a:Act)(ds:List Deferred):Act:={a with defers:=a.defers++ds}
theorem QfG(a:Act)(ds:List Deferred)(d:Option Nat)(v:Value):Qu3 (a.put d v) ds=(Qu3 a ds).put d v:=by
 cases d<;>rfl
theorem QAC{F:Fence}{n:Nat}{P:Program}{o:Oper}{a:Act}{w:World}{K:Act->World->Prop}{Q:Exit->Act->World->Prop}(ds:List Deferred)
 (h:o.wpIn F n P a w (λa' w'=>K (Qu3 a' ds) w') (λ_ _ _=>False)):o.wpIn F n P (Qu3 a ds) w K Q:=by
 unfold Oper.wpIn at*;refine⟨h.1,?_⟩;have hh:=h.2;show o.uponIn F n P (Qu3 a ds) K Q ((o.semAt F.round a.eval).run P w);generalize (o.semAt F.round a.eval).run P w=r at*;cases r with
 |ok x w'=>
  cases x<;>simp only[Oper.uponIn]at hh |-<;>
   first
    |(rw[<-QfG];exact hh)
    |(rw[QfG]at hh;exact hh)
    |exact⟨hh.1,CallsIn.mono hh.2 (λe w'' he=>by cases e<;>first|(show K ((Qu3 a ds).put o.dst _) _;rw[<-QfG];exact he)|exact he.elim|(obtain⟨_,_,h⟩:=he;exact h.elim))⟩
    |exact⟨hh.1,RowsIn.mono hh.2 (λ_ _ he=>by rw[QfG]at he;exact he)⟩
    |exact⟨hh.1,RoundIn.mono hh.2 (λe w'' he=>by cases e<;>first|(show K ((Qu3 a ds).put o.dst _) _;rw[<-QfG];exact he)|exact he.elim|(obtain⟨_,_,h⟩:=he;exact h.elim))⟩
    |exact hh.elim
 |halt x w'=>cases x<;>simp only[Oper.uponIn]at hh |-
theorem Marks.join{w0 wb w:World}{G Gb:Nat->Prop}{ι ιb:Io}{h hb:Hp}{ds1 ds2:List Deferred}(hm1:Marks wb G ι h ds1 w)(hm2:Marks w0 Gb ιb hb ds2 wb)(hx:Ext Gb ιb hb wb G ι h w)(hs:w0.heap.size<=wb.heap.size):Marks w0 G ι h (ds1++ds2) w:=by
 obtain⟨b1,rfl,n1,q1⟩:=hm1;obtain⟨b2,rfl,n2,q2⟩:=hm2;refine⟨b1++b2,by simp,?_,λb hb=> ?_⟩
 ·refine List.nodup_append.2 ⟨n1,n2,λx h1 y h2 e=> ?_⟩;subst e;have:=(q1 x h1).lo;have:=(Array.getElem?_eq_some_iff.1 (q2 x h2).at_).1;omega
 ·rcases List.mem_append.1 hb with hb|hb
  ·obtain⟨h1,h2,h3,h4⟩:=q1 b hb;exact⟨by omega,h2,h3,h4⟩
  ·have h1:Marks w0 Gb ιb _ [mkD b] wb:=⟨[b],rfl,by simp,λc hc=>by simp at hc;subst hc;exact q2 c hb⟩;obtain⟨bs,e,-,q⟩:=h1.ext hx
   match bs,e,q with
   |[c],e,q=>
    have e2:b=c:=by
     simp only[List.map_cons,List.map_nil,List.cons.injEq,and_true]at e;simp only[mkD,Deferred.mk.injEq]at e;have:=e.1;injection this
    subst e2;exact q b (by simp)
section
variable{P:Program}{ro:Option Nat}{N:Nat}{G0:Nat->Prop}{ι0:Io}{h0:Hp}{w0:World}
theorem QoL{ops:Array Oper}{m:Nat}{Q:Exit->Act->World->Prop}{rest:List Nat}{os:List Oper}{aos:List AO}{k:Nat}{L:Lv}{h:Hp}{K:Lv->Hp->Prop}{a:Act}{w:World}{G:Nat->Prop}{ι:Io}(hm:h.length<=m)(st:St N G0 ι0 h0 w0 G ι (lkL L) h a w)
 (hk:∀i o,os[i]? =some o->ops[k+i]? =some o)(hc:Qa2 P ops N os=some aos)(hg:aos.all (gOk N)=true)(hv:Qja P m false aos L h λL' h'=>∃L2 h2,Wk m L' h' L2 h2/\K L2 h2)
 (hQ:∀L' h' G' ι' a' w',K L' h'->St N G0 ι0 h0 w0 G' ι' (lkL L') h' a' w'->Ext G ι h w G' ι' h' w'->wpOpsIn (Fen ro) 0 P ops Q rest a' w'):wpOpsIn (Fen ro) 0 P ops Q (List.range' k os.length++rest) a w:=by
 have key:∀(os:List Oper) (aos:List AO) (k:Nat) (L':Lv) (h':Hp) (a':Act) (w':World),(∀i o,os[i]? =some o->ops[k+i]? =some o)->Qa2 P ops N os=some aos->aos.all (gOk N)=true->Qja P m false aos L' h' (λL' h'=>∃L2 h2,Wk m L' h' L2 h2/\K L2 h2)->
   Fits N G ι h w (lkL L') h' a' w'->wpOpsIn (Fen ro) 0 P ops Q (List.range' k os.length++rest) (Qu3 a' a.defers) w':=by
  intro os;induction os with
  |nil=>
   intro aos k L' h' a' w' _ hc _ hv hf;simp only[Qa2,osi]at hc;subst hc;obtain⟨L2,h2,hw,hK⟩:=hv;obtain⟨G',ι',st'⟩:=hw.fits hm hf;exact hQ L2 h2 G' ι' _ w' hK ⟨⟨st'.rel.hr,st'.rel.size,st'.rel.env⟩,st.ext.trans st'.ext,Marks.join st'.dfr st.dfr st'.ext st.ext.size⟩ st'.ext
  |cons o os ih=>
   intro aos k L' h' a' w' hk hc hg hv hf;simp only[Qa2]at hc;split at hc
   ·rename_i ao l hao hl;cases hc;simp only[List.all_cons,Bool.and_eq_true]at hg;have hok:ops[k]? =some o:=by have:=hk 0 o rfl;simpa using this
    have hrest:∀L2 h2 a2 w2,Qja P m false l L2 h2 (λL' h'=>∃L2 h2,Wk m L' h' L2 h2/\K L2 h2)->Fits N G ι h w (lkL L2) h2 a2 w2->wpOpsIn (Fen ro) 0 P ops Q (List.range' (k+1) os.length++rest) (Qu3 a2 a.defers) w2:=λL2 h2 a2 w2 hv' hf'=>
     ih l (k+1) L2 h2 a2 w2 (λi o' ho=>by have:=hk (i+1) o' (by simpa using ho);rw[show k+1+i=k+(i+1)by omega];exact this) hl hg.2 hv' hf'
    simp only[List.length_cons,List.range'_succ,List.cons_append];rw[wpOpsIn_cons];unfold wpOpIn;simp only[hok];have ht:(Qu3 a' a.defers).tmps=a'.tmps:=rfl;rw[ht];obtain⟨G1,ι1,st1⟩:=hf;obtain⟨hd,hdN,hop,hgs⟩:=Qbu hao;have hgN:=QfL hg.1;rcases hv with ⟨hgv,hv⟩|⟨hgv,hv⟩
    ·rw[Qca st1.rel hgs hgv hgN];simp only[if_true];refine QAC _ (QjK hm hao hv ⟨G1,ι1,st1⟩ λL' v h' a' w' hk' hf'=> ?_);exact hrest _ _ _ _ hk' (by rw[QaX];exact hf')
    ·rw[Qca st1.rel hgs hgv hgN];simp only[Bool.false_eq_true,if_false];refine⟨λf _=>Fen.fn ro f,?_⟩;rw[<-QfG];refine hrest _ _ _ _ hv ⟨G1,ι1,?_⟩;rw[QaX,hd];exact st1.step hdN st1.rel.hr (.tup #[] [] rfl (by simp)) (Ext.refl _ _ _ _)
   ·cases hc
 exact key os aos k L h {a with defers:=[]} w hk hc hg hv ⟨G,ι,⟨⟨st.rel.hr,st.rel.size,st.rel.env⟩,Ext.refl _ _ _ _,Marks.nil _ _ _ _ _⟩⟩
theorem St.relist{G:Nat->Prop}{ι:Io}{e:Env}{h:Hp}{a:Act}{w:World}(st:St N G0 ι0 h0 w0 G ι e h a w)(L:Lv)(hL:∀p∈L,VR G w ι h (a.tmps.getD p.1 undef) p.2):St N G0 ι0 h0 w0 G ι (lkL L) h a w:=by
 refine⟨⟨st.rel.hr,st.rel.size,λi=> ?_⟩,st.ext,st.dfr⟩;induction L with
 |nil=>exact .c _ _ (.u _)
 |cons p r ih=>
  obtain⟨j,v⟩:=p;simp only[lk,lkL,upd];split
  ·rename_i e;subst e;exact hL (j,v) (by simp)
  ·exact ih λp hp=>hL p (by simp[hp])
theorem St.thaw{G:Nat->Prop}{ι:Io}{e:Env}{m mS mR:Ar}{rest:Hp}{a:Act}{w:World}(st:St N G0 ι0 h0 w0 G ι e (.am m::rest) a w)(hS:∀b x,mS b=some x->m b=some x/\mR b=none)(hR:∀b x,mR b=some x->m b=some x):
  ∃G',St N G0 ι0 h0 w0 G' ι e (.am mR::rest) a w/\∀b x,mS b=some x->G' b/\ABR G' w b x:=by
 obtain⟨q1,q2,q3⟩:=HR.thawP st.rel.hr hS hR;exact⟨_,⟨⟨q1,st.rel.size,λi=>(st.rel.env i).ext q2 st.rel.hr⟩,st.ext.trans q2,st.dfr.ext q2⟩,q3⟩
end
theorem Qdg.thaw2{sz:Nat}{m:Ar}{d:D}{l l':List (List D)}(h:Qdg sz m d l)(hl:l.length<=9223372036854775807)(hlen:l'.length=l.length)(hs:∀(i:Nat) (e:List D),l'[i]? =some e->e.length=sz)
 (hr:∀(i:Nat) (e e':List D) (j:Nat) (x x':D),l[i]? =some e->l'[i]? =some e'->e[j]? =some x->e'[j]? =some x'->ThD m x x'):ThD m d (.list false sz l'):=by
 rcases h with ⟨rfl,rfl⟩|⟨b,N,cap,rfl,hm,hs0,hc,hN⟩
 ·obtain rfl:l'=[]:=lzQ (by simpa using hlen);exact .fg _
 ·have both:∀(i:Nat) (e':List D) (j:Nat) (x':D),l'[i]? =some e'->e'[j]? =some x'->∃e x,l[i]? =some e/\e[j]? =some x:=by
   intro i e' j x' he hx;have hi:=Qaa he;have hj:=Qaa hx;have h1:l[i]? =some (l[i]'(by omega)):=lgE _;have h2:=hs0 _ (mgE h1);have h3:=hs i e' he;exact⟨_,_,h1,lgE (by omega)⟩
  refine .row b 0 sz l.length cap N l.flatten l' (λi j=>l.flatten.getD (i*sz+j) default) hm hlen hc hl hs (λi e' j x' he' hx'=> ?_) λi e' j x' he' hx'=> ?_
  ·obtain⟨e,x,he,hx⟩:=both i e' j x' he' hx';rw[Nat.zero_add,List.getD_eq_getElem?_getD,Qcn hs0 (mgE he |> λ_=>he) hx];rfl
  ·obtain⟨e,x,he,hx⟩:=both i e' j x' he' hx';simp only[List.getD_eq_getElem?_getD,Qcn hs0 he hx,Option.getD_some];exact hr i e e' j x x' he he' hx hx'
theorem Qzg{t:Top}{down:List Bool}{n:Int}{k:Nat}{m:Ar}{d:D}(h:Qdg 3 m d ((toL t down n k).map Qay))(hk:k<=1000):ThD m d (Qfa (toL t down n k)):=
 h.thaw (by rw[List.length_map];simp[toL,QaS];omega)
theorem QuG{t:Top}{down:List Bool}{m:Ar}{d:D}{l:List (List D)}(hf:QaK t down=true)(hu:∀n a,a∈Qlg t n->upB down a=true)(hn:t.nodes<=64)(hrow:Qdg 3 m d l)(hel:∀(i:Nat) (e:List D),l[i]? =some e->∃x,e=[iD (i:Int),x,.list false 1 []]/\Qdg 3 m x ((toL t down (i:Int) t.nodes.toNat).map Qay))(hl:l.length=t.nodes.toNat):
  ThD m d (.list false 3 ((QbH t down t.nodes.toNat).map Qav)):=by
 have hle:(QbH t down t.nodes.toNat).length=t.nodes.toNat:=by simp[QbH]
 refine hrow.thaw2 (by omega) (by simp[hle,hl]) (λi e he=> ?_) λi e e' j x x' he he' hx hx'=> ?_
 ·simp only[gtm,omi]at he;obtain⟨_,_,rfl⟩:=he;rfl
 ·have hi:=Qaa he;obtain⟨y,rfl,h1⟩:=hel i e he;simp only[QbH,gtm,omi]at he';obtain⟨_,⟨k,hk,rfl⟩,rfl⟩:=he';obtain rfl:k=i:=by
   rw[List.getElem?_range (by omega)]at hk;exact(osj hk).symm
  have hdn:QiQ t down (k:Int)=[]:=by
   rw[QiQ,List.filter_eq_nil_iff];intro a ha;rw[hu _ a ha];simp
  rw[QbT,if_pos hf,if_pos (by omega),hdn]at hx'
  match j,hx,hx' with
  |0,hx,hx'=>cases hx;cases hx';exact .same _
  |1,hx,hx'=>cases hx;cases hx';exact Qzg h1 (by omega)
  |2,hx,hx'=>cases hx;cases hx';exact .same _
  |j+3,hx,_=>simp at hx
structure RwF (G:Nat->Prop) (w:World) (bx b1 capx cap1:Nat):Prop where
 dl:DR G w (.slice (some ⟨bx,0,none⟩) 4 capx) (.list false 3 (rgX.map Qav))
 c1:w.cell? ⟨bx,4,none⟩=some (.slice (some ⟨b1,0,none⟩) 4 cap1)
 gx:G bx
 g1:G b1
 bk:∃c t fr,w.heap[b1]? =some (.cells c t fr)/\(∀k,k<c.size->¬(fr.1<=k/\k<fr.2))/\12<=c.size
theorem RwF.ext{G G':Nat->Prop}{ι ι':Io}{h h':Hp}{w w':World}{bx b1 capx cap1:Nat}(hR:RwF G w bx b1 capx cap1)(e:Ext G ι h w G' ι' h' w')(r:HR G ι h w):RwF G' w' bx b1 capx cap1:=by
 have hg:∀b,G b->G' b/\w'.heap[b]? =w.heap[b]? :=λb hb=>⟨e.gmono b hb,e.frame b (r.g b hb).1 (r.g b hb).2⟩
 refine⟨hR.dl.mono hg,?_,(hg _ hR.gx).1,(hg _ hR.g1).1,?_⟩
 ·rw[Qdu (hg _ hR.gx).2];exact hR.c1
 ·rw[(hg _ hR.g1).2];exact hR.bk
def Qcm(m:Ar):Ar:=λb=>if b=0 then m b else none
def QrJ(m:Ar):Ar:=λb=>if b=0 then none else m b
theorem QxO{N:Nat}{G0:Nat->Prop}{ι0:Io}{h0:Hp}{w0:World}{G:Nat->Prop}{ι:Io}{e:Env}{m0 m:Ar}{rest:Hp}{a:Act}{w:World}{d:D}{l:List (List D)}(st:St N G0 ι0 h0 w0 G ι e (.am m::rest) a w)(hT:Qbt m0)(hl:l.length=4)(hR:TbR QaP [] m0 m d l):
  ∃G' bx b1 capx cap1,d= .sl bx 0 3 4 capx/\St N G0 ι0 h0 w0 G' ι e (.am (Qcm m)::rest) a w/\Qbt (Qcm m)/\RwF G' w bx b1 capx cap1:=by
 have hT0:m0 0≠none:=by rw[Qbt]at hT;rw[hT];simp
 have hTm:Qbt m:=by rw[Qbt,hR.same _ hT0];exact hT
 have hTk:Qbt (Qcm m):=by rw[Qbt,Qcm,if_pos rfl];exact hTm
 obtain⟨G',st',q⟩:=st.thaw (mS:=QrJ m) (mR:=Qcm m) (λb x h=>by
  rw[QrJ]at h;split at h
  ·cases h
  ·rename_i e;exact⟨h,by rw[Qcm,if_neg e]⟩) (λb x h=>by
  rw[Qcm]at h;split at h
  ·exact h
  ·cases h)
 have hkd:∀b,m0 b=none->QrJ m b=m b:=λb hb=>by rw[QrJ,if_neg λe=>hT0 (by rw[<-e];exact hb)]
 have hrow:Qdg 3 (QrJ m) d l:=hR.row.frame λb hb=>hkd b (hR.nw b hb)
 have hel:∀(i:Nat) (e:List D),l[i]? =some e->∃x,e=[iD (i:Int),x,.list false 1 []]/\Qdg 3 (QrJ m) x ((toL QaP [] (i:Int) QaP.nodes.toNat).map Qay):=λi e he=>by
  obtain⟨x,h1,h2,h3,h4⟩:=hR.el i e he;exact⟨x,h1,h2.frame λb hb=>hkd b (h3 b hb)⟩
 have htb:QbH QaP [] QaP.nodes.toNat=rgX:=by
  have:=QAL;rw[QiL,if_pos (by decide)]at this;exact(Prod.mk.inj this).1
 have hth:=QuG (t:=QaP) (down:=[]) (by decide) (λn a _=>rfl) (by decide) hrow hel hl;rw[htb]at hth;have he1:l[1]? =some (l[1]'(by omega)):=lgE _;obtain⟨x1,hx1,hr1⟩:=hel 1 _ he1;have hlen1:((toL QaP [] ((1:Nat):Int) QaP.nodes.toNat).map Qay).length=4:=by
  rw[List.length_map];simp[toL,QaS];rfl
 rcases hrow with ⟨-,rfl⟩|⟨bx,Nx,capx,rfl,hmx,hsx,hcx,hNx⟩
 ·cases hl
 rcases hr1 with ⟨-,h0⟩|⟨b1,N1,cap1,rfl,hm1,hs1,hc1,hN1⟩
 ·rw[h0]at hlen1;cases hlen1
 rw[hlen1]at hx1 hc1;rw[hl]at hth |-;obtain⟨gx,c,t,fr,a1,a2,a3,a4,a5⟩:=q bx _ hmx;obtain⟨g1,c',t',fr',a1',a2',a3',a4',a5'⟩:=q b1 _ hm1;have hfl:l.flatten[1*3+1]? =some (.sl b1 0 3 4 cap1):=Qcn hsx he1 (by rw[hx1];rfl);obtain⟨v,hv,hd⟩:=a5 _ _ hfl;refine⟨G',bx,b1,capx,cap1,rfl,st',hTk,QoU q hth (.slA _ _ _ _ _),?_,gx,g1,c',t',fr',a1',a4',by omega⟩;rw[QbG a1,hv];cases hd;rfl
def Qwp:AC->List AO
 | .seq (.reg _ aos) _=>aos
 |_=>[]
abbrev awB:Blk:= .bx [.d (iD 4),.d (.list true 1 []),.d (.list false 7 rgL)]
abbrev awT:AV:= .agg [.d (iD 4),.d (.list true 1 []),.d (.list false 7 rgL)]
abbrev awX:AV:= .c (.d (.list false 3 (rgX.map Qav)))
theorem QBU(n:Int)(a:Int)(_:a∈Qlg QaP n):upB [] a=true:=rfl
theorem Qrw(m:Ar)(Λ:Len)(Λo:∀l,Λ l=(l.length:Int))(K:Lv->Hp->Prop)
 (hK:∀(L:Lv) (h:Hp) (m':Ar) (d:D) (l:List (List D)),Wk 1 L h [(3,.c (.ptr 2 0 0 0)),(4,.c (.d d))] [.am m',.dead,awB]->l.length=4->TbR QaP [] m m' d l->K L h):QA9 Tryz.prog Λ 1 5 (afB Qat) (QsG 0 []) [.am m] K:=by
 have h1:=Qve Tryz.prog rfl QaP [] m (by decide) QBU;simp only[awB]at hK;simp only[QaF,Qaf,Qak,Qau]at h1;generalize hP:Tryz.prog=P at*
 conv=>cbv
 repeat' first|exact gxQ|refine And.intro ?_ ?_|(intro hc;(first|rw[wS (by omega) (by omega)]at hc|rw[Qab]at hc|skip);try (conv=>cbv))
 refine Qbs 4 (λ(s:Nat×Bool)=>[(1,.c (.arr 1 s.1 0 s.1)),(12,iA s.1)]) (λs=>[.am m,.da s.2 s.1 7 (rgL.take s.1)]) (λk s=>s.1=k/\k<=4) (0,false)
  0 (λ(rb:Bool)=>[(1,.c (.arr 1 4 0 4))]) (λrb=>[.am m,.da rb 4 7 rgL]) (λ_=>True) (.trans (.nilS 1 7 rfl) (Wk.ca)) ⟨rfl,by omega⟩ (λk s h=>h.2) ?_ ?_
 ·rintro kk ⟨i,rb⟩ Q' ⟨hi,hk⟩ norm jn ex rt;simp only at hi;subst hi;clear h1 hK
  match i,hk with
  |0,_=>
   clear jn ex rt
   conv=>cbv
   repeat' first|(intro(m1:Nat) (r1:Bool) (y:List (List D)) hm hr hy;obtain rfl:m1=1:=hm;obtain rfl:y=rgL.take 1:=hy;(conv=>cbv))|(intro(c:Int) hc;refine(λ(hz:c=1)=> ?_) (by rw[hc];rfl);subst hz;(conv=>cbv))|(intro(c:Int) hc;refine(λ(hz:c=0)=> ?_) (by rw[hc];rfl);subst hz;(conv=>cbv))|exact gxQ|refine And.intro ?_ ?_|(intro hc;(first|rw[wS (by omega) (by omega)]at hc|rw[Qab]at hc|skip);try (conv=>cbv))
   all_goals (refine norm _ _ (1,_) ⟨rfl,by omega⟩ (Wk.ca))
  |1,_=>
   clear jn ex rt
   conv=>cbv
   repeat' first|(intro(m1:Nat) (r1:Bool) (y:List (List D)) hm hr hy;obtain rfl:m1=2:=hm;obtain rfl:y=rgL.take 2:=hy;(conv=>cbv))|(intro(c:Int) hc;refine(λ(hz:c=2)=> ?_) (by rw[hc];rfl);subst hz;(conv=>cbv))|(intro(c:Int) hc;refine(λ(hz:c=0)=> ?_) (by rw[hc];rfl);subst hz;(conv=>cbv))|exact gxQ|refine And.intro ?_ ?_|(intro hc;(first|rw[wS (by omega) (by omega)]at hc|rw[Qab]at hc|skip);try (conv=>cbv))
   all_goals (refine norm _ _ (2,_) ⟨rfl,by omega⟩ (Wk.ca))
  |2,_=>
   clear jn ex rt
   conv=>cbv
   repeat' first|(intro(m1:Nat) (r1:Bool) (y:List (List D)) hm hr hy;obtain rfl:m1=3:=hm;obtain rfl:y=rgL.take 3:=hy;(conv=>cbv))|(intro(c:Int) hc;refine(λ(hz:c=3)=> ?_) (by rw[hc];rfl);subst hz;(conv=>cbv))|(intro(c:Int) hc;refine(λ(hz:c=0)=> ?_) (by rw[hc];rfl);subst hz;(conv=>cbv))|exact gxQ|refine And.intro ?_ ?_|(intro hc;(first|rw[wS (by omega) (by omega)]at hc|rw[Qab]at hc|skip);try (conv=>cbv))
   all_goals (refine norm _ _ (3,_) ⟨rfl,by omega⟩ (Wk.ca))
  |3,_=>
   clear jn ex rt
   conv=>cbv
   repeat' first|(intro(m1:Nat) (r1:Bool) (y:List (List D)) hm hr hy;obtain rfl:m1=4:=hm;obtain rfl:y=rgL.take 4:=hy;(conv=>cbv))|(intro(c:Int) hc;refine(λ(hz:c=4)=> ?_) (by rw[hc];rfl);subst hz;(conv=>cbv))|(intro(c:Int) hc;refine(λ(hz:c=0)=> ?_) (by rw[hc];rfl);subst hz;(conv=>cbv))|exact gxQ|refine And.intro ?_ ?_|(intro hc;(first|rw[wS (by omega) (by omega)]at hc|rw[Qab]at hc|skip);try (conv=>cbv))
   all_goals (refine norm _ _ (4,_) ⟨rfl,by omega⟩ (Wk.ca))
  |4,_=>
   clear norm ex rt
   conv=>cbv
   repeat' first|exact gxQ|refine And.intro ?_ ?_|(intro hc;(first|rw[wS (by omega) (by omega)]at hc|rw[Qab]at hc|skip);try (conv=>cbv))
   all_goals (refine jn _ _ rb trivial (Wk.ca))
  |i+5,h=>omega
 ·rintro rb-
  have hle:4=rgL.length:=rfl;have h1f:FnS P QdC [.agg [.d (iD 4),.d (.list true 1 []),.d (.list false 7 rgL)],.c (.d (.list true 1 []))] [.am m] _:=FnS.fg h1;clear h1;have hl4:QaP.nodes.toNat=4:=rfl;rw[hl4]at h1f;generalize TbR QaP [] m=tbr at*;generalize rgL=ll at*
  conv=>cbv
  repeat' first|(left;intro(_:Unit);(conv=>cbv))|(refine Qln 1 4 7 4 rfl hle (by repeat' first|exact trivial|refine And.intro ?_ ?_|rfl) (by repeat' first|exact trivial|refine And.intro ?_ ?_|rfl) ?_;(conv=>cbv))|(refine QaH [0] h1f ?_;rintro r hc' ⟨m2,rfl,d,l,rfl,hl,hR⟩;(conv=>cbv))|(refine hK _ _ m2 d l ?_ hl hR;exact(Wk.ca))|exact gxQ|refine And.intro ?_ ?_|(intro hc;(first|rw[wS (by omega) (by omega)]at hc|rw[Qab]at hc|skip);try (conv=>cbv))
section
variable(m:Ar)(bx capx:Nat)(Λ:Len)
theorem QCt:QdJ Tryz.prog Λ 3 false (((Qwp (QiZ 5 (afB Qat))).drop 0).take 2) [(3,.c (.ptr 2 0 0 0)),(4,.c (.d (.sl bx 0 3 4 capx)))] [.am m,.dead,awB]
  (λL h=>∃L2 h2,Wk 3 L h L2 h2/\L2=[(3,.c (.ptr 2 0 0 0)),(4,.c (.d (.sl bx 0 3 4 capx))),(33,awT),(34,.c (.d (.sl bx 0 3 4 capx)))]/\h2=[.am m,.dead,awB]):=by
 simp only[awB,awT];generalize rgL=ll at*;generalize hP:Tryz.prog=P at*
 conv=>cbv
 repeat' first|exact⟨_,_,(Wk.ca),rfl,rfl⟩|exact gxQ|refine And.intro ?_ ?_|(intro hc;(first|rw[wS (by omega) (by omega)]at hc|rw[Qab]at hc|skip);try (conv=>cbv))
theorem QCu(hT:Qbt m):QdJ Tryz.prog Λ 3 false (((Qwp (QiZ 5 (afB Qat))).drop 2).take 7) [(3,.c (.ptr 2 0 0 0)),(4,.c (.d (.sl bx 0 3 4 capx))),(33,awT),(34,awX)] [.am m,.dead,awB]
  (λL h=>∃L2 h2,Wk 3 L h L2 h2/\∃m2,Qbt m2/\L2=[(3,.c (.ptr 2 0 0 0)),(4,.c (.d (.sl bx 0 3 4 capx))),(6,.c (.d rgA)),(7,iA 0)]/\h2=[.am m2,.dead,awB]):=by
 have h2:=QzL Tryz.prog rfl m hT;simp only[QaF,Qcy,Qaf,Qak,Qau]at h2;have h2f:FnS Tryz.prog Qdq [.agg [.d (iD 4),.d (.list true 1 []),.d (.list false 7 rgL)],.c (.d (.list false 3 (rgX.map Qav))),.agg [.d (iD 0),.d (iD 0),.d (iD 2),.d (iD 0),.d (.list true 2 []),.d (iD 0)],iA 0] [.am m] _:=FnS.fg h2;clear h2;simp only[awB,awT,awX];generalize hxl:List.map Qav rgX=xl at*;generalize rgL=ll at*;generalize hP:Tryz.prog=P at*
 conv=>cbv
 repeat' first|(refine QaH [0] h2f ?_;rintro r hc' ⟨m2,tl2,rfl,hT2,rfl⟩;(conv=>cbv))|exact⟨_,_,(Wk.ca),m2,hT2,rfl,rfl⟩|exact gxQ|refine And.intro ?_ ?_|(intro hc;(first|rw[wS (by omega) (by omega)]at hc|rw[Qab]at hc|skip);try (conv=>cbv))
theorem QCv:QdJ Tryz.prog Λ 3 false (((Qwp (QiZ 6 (afB Qat))).drop 0).take 2) [(3,.c (.ptr 2 0 0 0)),(4,.c (.d (.sl bx 0 3 4 capx))),(6,.c (.d rgA)),(7,iA 0)] [.am m,.dead,awB]
  (λL h=>∃L2 h2,Wk 3 L h L2 h2/\L2=[(3,.c (.ptr 2 0 0 0)),(4,.c (.d (.sl bx 0 3 4 capx))),(6,.c (.d rgA)),(7,iA 0),(40,awT),(41,.c (.d (.sl bx 0 3 4 capx)))]/\h2=[.am m,.dead,awB]):=by
 simp only[awB,awT];generalize rgA=ra at*;generalize rgL=ll at*;generalize hP:Tryz.prog=P at*
 conv=>cbv
 repeat' first|exact⟨_,_,(Wk.ca),rfl,rfl⟩|exact gxQ|refine And.intro ?_ ?_|(intro hc;(first|rw[wS (by omega) (by omega)]at hc|rw[Qab]at hc|skip);try (conv=>cbv))
theorem QCw(hT:Qbt m):QdJ Tryz.prog Λ 3 false (((Qwp (QiZ 6 (afB Qat))).drop 2).take 7) [(3,.c (.ptr 2 0 0 0)),(4,.c (.d (.sl bx 0 3 4 capx))),(6,.c (.d rgA)),(7,iA 0),(40,awT),(41,awX)] [.am m,.dead,awB]
  (λL h=>∃L2 h2,Wk 3 L h L2 h2/\∃m2,Qbt m2/\L2=[(3,.c (.ptr 2 0 0 0)),(4,.c (.d (.sl bx 0 3 4 capx))),(6,.c (.d rgA)),(7,iA 0),(8,bA true),(9,iA 0)]/\h2=[.am m2,.dead,awB]):=by
 have h2:=QzM Tryz.prog rfl m hT;simp only[QaF,Qcy,Qaf,Qak,Qau]at h2;have h2f:FnS Tryz.prog Qc1 [.agg [.d (iD 4),.d (.list true 1 []),.d (.list false 7 rgL)],.c (.d (.list false 3 (rgX.map Qav))),.agg [.d (iD 0),.d (iD 0),.d (iD 2),.d (iD 0),.d (.list true 2 []),.d (iD 0)],iA 0] [.am m] _:=FnS.fg h2;clear h2;simp only[awB,awT,awX];generalize hxl:List.map Qav rgX=xl at*;generalize rgA=ra at*;generalize rgL=ll at*;generalize hP:Tryz.prog=P at*
 conv=>cbv
 repeat' first|(refine QaH [0] h2f ?_;rintro r hc' ⟨m2,tl2,rfl,hT2,rfl⟩;(conv=>cbv))|exact⟨_,_,(Wk.ca),m2,hT2,rfl,rfl⟩|exact gxQ|refine And.intro ?_ ?_|(intro hc;(first|rw[wS (by omega) (by omega)]at hc|rw[Qab]at hc|skip);try (conv=>cbv))
abbrev awL (bx capx:Nat):Lv:=[(3,.c (.ptr 2 0 0 0)),(4,.c (.d (.sl bx 0 3 4 capx))),(6,.c (.d rgA)),(7,iA 0),(8,bA true),(9,iA 0)]
theorem QCx:QdJ Tryz.prog Λ 3 false (((Qwp (QiZ 7 (afB Qat))).drop 0).take 3) (awL bx capx) [.am m,.dead,awB]
  (λL h=>∃L2 h2,Wk 3 L h L2 h2/\L2=(48,.c (.d (.adr bx 4)))::awL bx capx/\h2=[.am m,.dead,awB]):=by
 simp only[awL,awB];generalize rgA=ra at*;generalize rgL=ll at*;generalize hP:Tryz.prog=P at*
 conv=>cbv
 repeat' first|(intro(k0:Nat) hk0;obtain rfl:k0=3:=hk0;(conv=>cbv))|exact⟨_,_,(Wk.ca),rfl,rfl⟩|exact gxQ|refine And.intro ?_ ?_|(intro hc;(first|rw[wS (by omega) (by omega)]at hc|rw[Qab]at hc|skip);try (conv=>cbv))
theorem QCy(b1 cap1:Nat):QdJ Tryz.prog Λ 3 false (((Qwp (QiZ 7 (afB Qat))).drop 4).take 3) ((49,.c (.d (.sl b1 0 3 4 cap1)))::(48,.c (.d (.adr bx 4)))::awL bx capx) [.am m,.dead,awB]
  (λL h=>∃L2 h2,Wk 3 L h L2 h2/\L2=(52,.c (.d (.adr b1 6)))::(50,.c (.d (.list false 1 [[iD 1]])))::awL bx capx/\h2=[.am m,.dead,awB]):=by
 simp only[awL,awB];generalize rgA=ra at*;generalize rgL=ll at*;generalize hP:Tryz.prog=P at*
 conv=>cbv
 repeat' first|(intro(k0:Nat) hk0;obtain rfl:k0=6:=hk0;(conv=>cbv))|exact⟨_,_,(Wk.ca),rfl,rfl⟩|exact gxQ|refine And.intro ?_ ?_|(intro hc;(first|rw[wS (by omega) (by omega)]at hc|rw[Qab]at hc|skip);try (conv=>cbv))
end
def Qh6:Code->Bool
 | .seq (.region _ _ false) _=>true
 |_=>false
theorem QlF:∀(n:Nat) (c:Code),Qlu n c=true->Qfx (n+1) c=Qfx 1 (Qfx n c):=by
 intro n;induction n with
 |zero=>intro c _;rfl
 |succ n ih=>
  intro c h;cases c with
  |seq a b=>exact ih b h
  |_=>cases h
section
variable{P:Program}{N:Nat}
theorem Qqd{c:Code}{aos:List AO}{y:AC}(hr:Qh6 c=true)(hc:Qgu P N c=some (.seq (.reg false aos) y)):
  ∃id ops c2,c= .seq (.region id ops false) c2/\Qa2 P ops N ops.toList=some aos/\aos.all (gOk N)=true/\Qgu P N c2=some y:=by
 unfold Qh6 at hr;split at hr
 ·rename_i id ops c2;refine⟨id,ops,c2,rfl,?_⟩;simp only[Qgu,Qb9]at hc;split at hc
  ·rename_i x1 x2 h1 h2;cases hc;split at h1
   ·rename_i l hl;split at h1
    ·rename_i hcond;cases h1;exact⟨hl,hcond.1,h2⟩
    ·simp at h1
   ·cases h1
  ·cases hc
 ·cases hr
theorem QjI{ops:Array Oper}:∀{os:List Oper} {aos:List AO} (_:Qa2 P ops N os=some aos) (k:Nat),Qa2 P ops N (os.take k)=some (aos.take k)/\Qa2 P ops N (os.drop k)=some (aos.drop k):=by
 intro os;induction os with
 |nil=>
  intro aos h k;simp only[Qa2,osi]at h;subst h;simp[Qa2]
 |cons o os ih=>
  intro aos h k;have h0:=h;simp only[Qa2]at h;split at h
  ·rename_i a l ha hl;cases h;cases k with
   |zero=>exact⟨rfl,h0⟩
   |succ k=>
    obtain⟨h1,h2⟩:=ih hl k;refine⟨?_,h2⟩;simp only[List.take_succ_cons,Qa2,ha,h1]
  ·cases h
variable{G0:Nat->Prop}{ι0:Io}{h0:Hp}{w0:World}
theorem Qcs{ops:Array Oper}{m:Nat}{Λ:Len}(hΛ:∀l,Λ l=(l.length:Int)){Q:Exit->Act->World->Prop}{aos:List AO}(hall:Qa2 P ops N ops.toList=some aos)(hg:aos.all (gOk N)=true)(k n:Nat)(hkn:k+n<=aos.length){L:Lv}{h:Hp}{K:Lv->Hp->Prop}{a:Act}{w:World}{G:Nat->Prop}{ι:Io}(hm:h.length<=m)(st:St N G0 ι0 h0 w0 G ι (lkL L) h a w)
 (hv:QdJ P Λ m false ((aos.drop k).take n) L h λL' h'=>∃L2 h2,Wk m L' h' L2 h2/\K L2 h2)
 (hQ:∀L' h' G' ι' a' w',K L' h'->St N G0 ι0 h0 w0 G' ι' (lkL L') h' a' w'->Ext G ι h w G' ι' h' w'->wpOpsIn (Fen none) 0 P ops Q (List.range' (k+n) (ops.size-(k+n))) a' w'):wpOpsIn (Fen none) 0 P ops Q (List.range' k (ops.size-k)) a w:=by
 have hlen:ops.size=aos.length:=by have:=(QaD hall).1;simpa using this
 have hpc:=(QjI (QjI hall k).2 n).1;have hos:((ops.toList.drop k).take n).length=n:=by simp;omega
 have:=QoL (ro:=none) (Q:=Q) (rest:=List.range' (k+n) (ops.size-(k+n))) (k:=k) hm st (os:=(ops.toList.drop k).take n) (λi o ho=>by
  rw[List.getElem?_take]at ho;split at ho
  ·rw[List.getElem?_drop,Array.getElem?_toList]at ho;exact ho
  ·cases ho) hpc (List.all_eq_true.2 λx hx=>List.all_eq_true.1 hg x (List.mem_of_mem_drop (List.mem_of_mem_take hx))) (Qes hΛ hv) hQ
 rw[hos,List.range'_append_1]at this;rw[show ops.size-k=n+(ops.size-(k+n))by omega];exact this
theorem Qt6{ops:Array Oper}{Q:Exit->Act->World->Prop}{aos:List AO}(hall:Qa2 P ops N ops.toList=some aos)(k:Nat){d:Option Nat}{op:AOp}(hao:aos[k]? =some ⟨d,op,none⟩){e:Env}{h:Hp}{a:Act}{w:World}{G:Nat->Prop}{ι:Io}(st:St N G0 ι0 h0 w0 G ι e h a w)
 (hh:∀o,ops[k]? =some o->QiP P ops N o=some ⟨d,op,none⟩->o.wpIn (Fen none) 0 P a w (wpOpsIn (Fen none) 0 P ops Q (List.range' (k+1) (ops.size-(k+1)))) Q):wpOpsIn (Fen none) 0 P ops Q (List.range' k (ops.size-k)) a w:=by
 have hlen:ops.size=aos.length:=by have:=(QaD hall).1;simpa using this
 have hk:=Qaa hao;obtain⟨o,ho⟩:∃o,ops[k]? =some o:=⟨_,agQ (by omega)⟩;have hcO:=(QaD hall).2 k o _ (by rw[Array.getElem?_toList];exact ho) hao;obtain⟨hd,hdN,hop,hgs⟩:=Qbu hcO;rw[show ops.size-k=(ops.size-(k+1))+1 by omega,List.range'_succ,wpOpsIn_cons];unfold wpOpIn;simp only[ho];rw[Qca st.rel hgs (b:=true) rfl (by simp)];simp only[if_true];exact hh o ho hcO
end
section
variable{N:Nat}{ι0:Io}{m0:Ar}{w0:World}
abbrev StE (N:Nat) (ι0:Io) (m0:Ar) (w0:World):=St N (λ_=>False) ι0 [.am m0] w0
theorem St.swap{G:Nat->Prop}{ι:Io}{L:Lv}{h:Hp}{a:Act}{w:World}{bx b1 capx cap1 s:Nat}(st:StE N ι0 m0 w0 G ι (lkL L) h a w)(hR:RwF G w bx b1 capx cap1)(hs:lkN L s= .c (.d (.sl bx 0 3 4 capx)))(L2:Lv)(h2:∀p∈L2,p=(s,awX)\/lkN L p.1=p.2):
  StE N ι0 m0 w0 G ι (lkL L2) h a w:=by
 refine St.relist st L2 λp hp=> ?_
 rcases h2 p hp with rfl|h2
 ·have:=st.rel.env s;rw[lk,<-Qb2,hs]at this;have e:=Qj8 this;show VR G w ι h (a.tmps.getD s undef) _;rw[e];exact .c _ _ (.d _ _ hR.dl)
 ·have:=st.rel.env p.1;rw[lk,<-Qb2,h2]at this;exact this
theorem QB6{c:Code}{y:AC}(hreg:Qh6 c=true)(hc:Qgu Tryz.prog N c=some (.seq (.reg false (Qwp (QiZ 5 (afB Qat)))) y)){post:Exit->Act->World->Prop}{m:Ar}{bx b1 capx cap1:Nat}{G:Nat->Prop}{ι:Io}{a:Act}{w:World}
 (st:StE N ι0 m0 w0 G ι (lkL [(3,.c (.ptr 2 0 0 0)),(4,.c (.d (.sl bx 0 3 4 capx)))]) [.am m,.dead,awB] a w)(hT:Qbt m)(hR:RwF G w bx b1 capx cap1)
 (hk:∀m' G' ι' a' w',Qgu Tryz.prog N (Qfx 1 c)=some y->Qbt m'->StE N ι0 m0 w0 G' ι' (lkL [(3,.c (.ptr 2 0 0 0)),(4,.c (.d (.sl bx 0 3 4 capx))),(6,.c (.d rgA)),(7,iA 0)]) [.am m',.dead,awB] a' w'->RwF G' w' bx b1 capx cap1->(Qfx 1 c).wpIn (Fen none) 0 Tryz.prog post a' w'):c.wpIn (Fen none) 0 Tryz.prog post a w:=by
 obtain⟨id,ops,c2,rfl,hall,hg,hc2⟩:=Qqd hreg hc;have hsz:ops.size=9:=by have:=(QaD hall).1;rw[Array.length_toList]at this;rw[this];rfl
 refine wpIn_seq (wpIn_region ?_);rw[List.range_eq_range'];refine Qcs (Λ:=λl=>(l.length:Int)) (λ_=>rfl) hall hg 0 2 (by decide) (m:=3) (Nat.le_refl _) st (QCt m bx capx _) λL1 h1 G1 ι1 a1 w1 ⟨e1,e2⟩ st1 x1=> ?_
 subst e1 e2;have hR1:=hR.ext x1 st.rel.hr;have st2:=St.swap st1 hR1 (s:=34) rfl [(3,.c (.ptr 2 0 0 0)),(4,.c (.d (.sl bx 0 3 4 capx))),(33,awT),(34,awX)] (λp hp=>by
  simp only[List.mem_cons,List.not_mem_nil,or_false]at hp;rcases hp with rfl|rfl|rfl|rfl
  ·exact .inr rfl
  ·exact .inr rfl
  ·exact .inr rfl
  ·exact .inl rfl)
 refine Qcs (Λ:=λl=>(l.length:Int)) (λ_=>rfl) hall hg 2 7 (by decide) (m:=3) (Nat.le_refl _) st2 (QCu m bx capx _ hT) λL3 h3 G3 ι3 a3 w3 ⟨m3,hT3,e1,e2⟩ st3 x3=> ?_
 subst e1 e2;have hR3:=hR1.ext x3 st1.rel.hr;rw[hsz];exact hk m3 G3 ι3 a3 w3 hc2 hT3 st3 hR3
theorem QB7{c:Code}{y:AC}(hreg:Qh6 c=true)(hc:Qgu Tryz.prog N c=some (.seq (.reg false (Qwp (QiZ 6 (afB Qat)))) y)){post:Exit->Act->World->Prop}{m:Ar}{bx b1 capx cap1:Nat}{G:Nat->Prop}{ι:Io}{a:Act}{w:World}
 (st:StE N ι0 m0 w0 G ι (lkL [(3,.c (.ptr 2 0 0 0)),(4,.c (.d (.sl bx 0 3 4 capx))),(6,.c (.d rgA)),(7,iA 0)]) [.am m,.dead,awB] a w)(hT:Qbt m)(hR:RwF G w bx b1 capx cap1)
 (hk:∀m' G' ι' a' w',Qgu Tryz.prog N (Qfx 1 c)=some y->Qbt m'->StE N ι0 m0 w0 G' ι' (lkL (awL bx capx)) [.am m',.dead,awB] a' w'->RwF G' w' bx b1 capx cap1->(Qfx 1 c).wpIn (Fen none) 0 Tryz.prog post a' w'):c.wpIn (Fen none) 0 Tryz.prog post a w:=by
 obtain⟨id,ops,c2,rfl,hall,hg,hc2⟩:=Qqd hreg hc;have hsz:ops.size=9:=by have:=(QaD hall).1;rw[Array.length_toList]at this;rw[this];rfl
 refine wpIn_seq (wpIn_region ?_);rw[List.range_eq_range'];refine Qcs (Λ:=λl=>(l.length:Int)) (λ_=>rfl) hall hg 0 2 (by decide) (m:=3) (Nat.le_refl _) st (QCv m bx capx _) λL1 h1 G1 ι1 a1 w1 ⟨e1,e2⟩ st1 x1=> ?_
 subst e1 e2;have hR1:=hR.ext x1 st.rel.hr;have st2:=St.swap st1 hR1 (s:=41) rfl [(3,.c (.ptr 2 0 0 0)),(4,.c (.d (.sl bx 0 3 4 capx))),(6,.c (.d rgA)),(7,iA 0),(40,awT),(41,awX)] (λp hp=>by
  simp only[List.mem_cons,List.not_mem_nil,or_false]at hp;rcases hp with rfl|rfl|rfl|rfl|rfl|rfl
  ·exact .inr rfl
  ·exact .inr rfl
  ·exact .inr rfl
  ·exact .inr rfl
  ·exact .inr rfl
  ·exact .inl rfl)
 refine Qcs (Λ:=λl=>(l.length:Int)) (λ_=>rfl) hall hg 2 7 (by decide) (m:=3) (Nat.le_refl _) st2 (QCw m bx capx _ hT) λL3 h3 G3 ι3 a3 w3 ⟨m3,hT3,e1,e2⟩ st3 x3=> ?_
 subst e1 e2;have hR3:=hR1.ext x3 st1.rel.hr;rw[hsz];exact hk m3 G3 ι3 a3 w3 hc2 hT3 st3 hR3
end
section
variable{G:Nat->Prop}{ι ι0:Io}{w0 w w':World}{m m0:Ar}{b1 o0:Nat}{v0:Value}{cs:List D}
theorem Qei{b:Nat}{x:AB}(h:Qcm m b=some x):m b=some x/\b=0:=by
 rw[Qcm]at h;split at h
 ·rename_i e;exact⟨h,e⟩
 ·cases h
theorem Qm6{b:Nat}{x:AB}(h:Qcm m b=some x)(hT:Qbt m):x=pwB:=by
 obtain⟨h1,rfl⟩:=Qei h;rw[Qbt]at hT;rw[hT]at h1;exact(osj h1).symm
theorem Qka(hT:Qbt m):Qbt (Qcm m):=by rw[Qbt,Qcm,if_pos rfl];exact hT
theorem Qqi{G':Nat->Prop}{b:Nat}(h:ABR G w b pwB)(hb:w'.heap[b]? =w.heap[b]?):ABR G' w' b pwB:=by
 obtain⟨o,h1,h2⟩:=h;exact⟨o,by rw[hb];exact h1,h2⟩
theorem Qox{i k:Nat}{B:Blk}{r:Hp}{b:Nat}(_:i=k)(h:(Blk.am (Qcm m)::r)[i]? =some B)(ho:Qcp ι i B b):∃B',(Blk.am m::r)[i]? =some B'/\Qcp ι i B' b:=by
 cases i with
 |zero=>
  simp only[List.getElem?_cons_zero,osi]at h;subst h;obtain⟨x,hx⟩:=ho;exact⟨_,rfl,x,(Qei hx).1⟩
 |succ i=>exact⟨B,h,ho⟩
theorem QgV{r:Hp}{b:Nat}(h:owned ι (.am (Qcm m)::r) b):owned ι (.am m::r) b:=by
 obtain⟨i,B,h1,h2⟩:=h;obtain⟨B',h3,h4⟩:=Qox (k:=i) rfl h1 h2;exact⟨i,B',h3,h4⟩
theorem QyD(hw:∀b o,¬(b=b1/\o=o0)->w'.cell? ⟨b,o,none⟩=w.cell? ⟨b,o,none⟩)(hv:w.cell? ⟨b1,o0,none⟩=some v0)(hsz:w'.heap.size=w.heap.size)(hoth:∀b,b≠b1->w'.heap[b]? =w.heap[b]?)(g1:G b1)
   (r:HR G ι [.am m,.dead,.bx (cs.map CV.d)] w)(hT:Qbt m)(hno:∀(i:Nat) (x:D),cs[i]? =some x->NoW (DR G w v0) x):HR G ι [.am (Qcm m),.dead,.bx (cs.map CV.d)] w':=by
  have hnb:∀b,owned ι [.am m,.dead,.bx (cs.map CV.d)] b->b≠b1:=λb ho e=>(r.g b1 g1).2 (e▸ho)
  exact
    { len:=r.len
      own:=λl l' b k k' h1 h2 h3 h4=>by
        obtain⟨k1,a1,a2⟩:=Qox (k:=l) rfl h1 h3;obtain⟨k2,b1,b2⟩:=Qox (k:=l') rfl h2 h4;exact r.own l l' b k1 k2 a1 b1 a2 b2
      g:=λb hb=>⟨by rw[hsz];exact(r.g b hb).1,λho=>(r.g b hb).2 (QgV ho)⟩
      blk:=λl k hk=>by
        match l,hk with
        |0,hk=>
          cases hk;intro b x hx;have hxe:=Qm6 hx hT;have hmx:=(Qei hx).1;subst hxe;exact Qqi (r.blk 0 _ rfl b _ hmx) (hoth b (hnb b ⟨0,_,rfl,_,hmx⟩))
        |1,hk=>cases hk;trivial
        |2,hk=>
          cases hk;obtain⟨b,o,c,t,fr,h1,h2,h3,h4,h5⟩:=r.blk 2 _ rfl;have hne:=hnb b (QeT h1 (rfl:([Blk.am m,.dead,.bx (cs.map CV.d)])[2]? =_) rfl);refine⟨b,o,c,t,fr,h1,by rw[hoth b hne];exact h2,h3,h4,λi x hx=> ?_⟩;obtain⟨v,hcv,hr⟩:=h5 i x hx;simp only[gtm,omi]at hx;obtain⟨y,hy,rfl⟩:=hx;cases hr with
          |d _ _ hd=>exact⟨v,hcv,.d _ _ (DR.poke hw hv (hno i y hy) hd)⟩
        |l+3,hk=>simp at hk}
theorem Qwk(hsz:w'.heap.size=w.heap.size)(hoth:∀b,b≠b1->w'.heap[b]? =w.heap[b]?)(hq:Quiet w w')(g1:G b1){r:Hp}(e:Ext (λ_=>False) ι0 [.am m0] w0 G ι (.am m::r) w):Ext (λ_=>False) ι0 [.am m0] w0 G ι (.am (Qcm m)::r) w' where
 size:=by rw[hsz];exact e.size
 quiet:=⟨hq.1.trans e.quiet.1,hq.2.1.trans e.quiet.2.1,hq.2.2.1.trans e.quiet.2.2.1,Nat.le_trans e.quiet.2.2.2 hq.2.2.2⟩
 frame:=λb hb hno=>by
  have hne:b≠b1:=λh=>by
   subst h;rcases e.gnew b g1 with h|h|h
   ·exact h
   ·omega
   ·exact hno h
  rw[hoth b hne];exact e.frame b hb hno
 gmono:=λb h=>h.elim
 gnew:=e.gnew
 onew:=λb ho=>e.onew b (QgV ho)
 keep:=λl k hk=>by
  match l,hk with
  |0,hk=>cases hk;exact⟨_,rfl,trivial⟩
  |l+1,hk=>simp at hk
theorem Qr9(hoth:∀b,b≠b1->w'.heap[b]? =w.heap[b]?)(g1:G b1){r:Hp}{ds:List Deferred}(hm:Marks w0 G ι (.am m::r) ds w):Marks w0 G ι (.am (Qcm m)::r) ds w':=by
 obtain⟨bs,e,hn,hb⟩:=hm;refine⟨bs,e,hn,λb hbb=> ?_⟩;obtain⟨h1,h2,h3,h4⟩:=hb b hbb;exact⟨h1,by rw[hoth b λe=>h3 (e▸g1)];exact h2,h3,λho=>h4 (QgV ho)⟩
theorem Qwl{h:Hp}{v:Value}{B:Blk}(hh:VR G w ι [.am m,.dead,B] v (.c (.ptr 2 0 0 0))):VR G w' ι [.am (Qcm m),.dead,B] v (.c (.ptr 2 0 0 0)):=by
 have:=Qeh hh;cases this with
 |ptr _ _ _ _ _ blk hb ha hk=>exact .c _ _ (.ptr _ _ _ _ _ blk hb ha hk)
end
theorem QAJ{G:Nat->Prop}{w:World}{v0:Value}(h:DR G w v0 (.list false 1 [[.int .i64 2]])):NoW (DR G w v0) rgA:=Qa0 h 6 rfl
section
variable{N:Nat}{ι0:Io}{m0:Ar}{w0:World}
abbrev QA2:Lv:=[(3,.c (.ptr 2 0 0 0)),(4,.c (.d (.list false 3 (rgY.map Qav)))),(6,.c (.d rgA)),(7,iA 0),(8,bA true),(9,iA 0)]
theorem Qvk{m:Ar}{bx b1 capx cap1:Nat}{G:Nat->Prop}{ι:Io}{a:Act}{w w':World}{c c':Array Value}{t:TypeId}{fr:Nat×Nat}{u:Value}
 (st:StE N ι0 m0 w0 G ι (lkL ((52,.c (.d (.adr b1 6)))::(50,.c (.d (.list false 1 [[iD 1]])))::awL bx capx)) [.am m,.dead,awB] a w)(hT:Qbt m)(hR:RwF G w bx b1 capx cap1)
 (h1:w.heap[b1]? =some (.cells c t fr))(h12:12<=c.size)(hu:DR G w u (.list false 1 [[iD 1]]))
 (q2:w'.heap[b1]? =some (.cells c' t fr))(q4:∀k,c'[k]? =if 6<=k/\k<7 then [u][k-6]? else c[k]?)(q5:w'.heap.size=w.heap.size)(q6:∀b',b'≠b1->w'.heap[b']? =w.heap[b']?)(q7:Quiet w w')(a':Act)(ha:a'=a.put none undef):
  StE N ι0 m0 w0 G ι (lkL QA2) [.am (Qcm m),.dead,awB] a' w':=by
 have hat:a'=a:=ha;subst hat;clear ha;have hw:∀b o,¬(b=b1/\o=6)->w'.cell? ⟨b,o,none⟩=w.cell? ⟨b,o,none⟩:=by
  intro b o hn;by_cases hb:b=b1
  ·subst hb;rw[QbG q2,QbG h1,q4,if_neg];rintro⟨g1,g2⟩;exact hn ⟨rfl,by omega⟩
  ·exact Qdu (q6 b hb) o
 obtain⟨v0,hv0⟩:∃v0,c[6]? =some v0:=⟨_,agQ (by omega)⟩;have hv:w.cell? ⟨b1,6,none⟩=some v0:=by rw[QbG h1];exact hv0
 have hold:DR G w v0 (.list false 1 [[iD 2]]):=by
  obtain⟨v1,e1,e2⟩:=QmF hR.dl (i:=1) (j:=1) rfl rfl;have hc1:=hR.c1;rw[show 0+1*3+1=4 from rfl,hc1]at e1;cases e1;obtain⟨v2,e3,e4⟩:=QmF e2 (i:=2) (j:=0) rfl rfl;rw[show 0+2*3+0=6 from rfl,hv]at e3;cases e3;exact e4
 have hu6:w'.cell? ⟨b1,6,none⟩=some u:=by rw[QbG q2,q4];rfl
 have hu':DR G w' u (.list false 1 [[iD 1]]):=DR.poke hw hv (Qa0 hold 5 rfl) hu;have htab:=(Qua hw hv hR.dl (show w.cell? ⟨bx,0+1*3+1,none⟩=_ from hR.c1) (show 6=0+2*3+0 from rfl) hu6 hu').2;have hno:∀(i:Nat) (x:D),([iD 4,.list true 1 [],.list false 7 rgL]:List D)[i]? =some x->NoW (DR G w v0) x:=by
  intro i x hx
  match i,hx with
  |0,hx=>cases hx;exact Qa0 hold 6 rfl
  |1,hx=>cases hx;exact Qa0 hold 6 rfl
  |2,hx=>cases hx;exact Qa0 hold 6 rfl
  |i+3,hx=>simp at hx
 have hr':=QyD (cs:=[iD 4,.list true 1 [],.list false 7 rgL]) hw hv q5 q6 hR.g1 st.rel.hr hT hno;refine⟨⟨hr',st.rel.size,?_⟩,Qwk q5 q6 q7 hR.g1 st.ext,Qr9 q6 hR.g1 st.dfr⟩;have hst:StE N ι0 m0 w0 G ι _ _ a' w:=st;have e4:VR G w ι _ (a'.tmps.getD 4 undef) (.c (.d (.sl bx 0 3 4 capx))):=st.rel.env 4;have e4:=Qj8 e4;have e3:VR G w ι _ (a'.tmps.getD 3 undef) (.c (.ptr 2 0 0 0)):=st.rel.env 3;have e6:VR G w ι _ (a'.tmps.getD 6 undef) (.c (.d rgA)):=st.rel.env 6;have e7:VR G w ι _ (a'.tmps.getD 7 undef) (iA 0):=st.rel.env 7;have e8:VR G w ι _ (a'.tmps.getD 8 undef) (bA true):=st.rel.env 8;have e9:VR G w ι _ (a'.tmps.getD 9 undef) (iA 0):=st.rel.env 9;have all:∀p∈QA2,VR G w' ι [.am (Qcm m),.dead,awB] (a'.tmps.getD p.1 undef) p.2:=by
  intro p hp;simp only[List.mem_cons,List.not_mem_nil,or_false]at hp;rcases hp with rfl|rfl|rfl|rfl|rfl|rfl
  ·exact Qwl (h:=[]) e3
  ·show VR G w' ι _ (a'.tmps.getD 4 undef) _;rw[e4];exact .c _ _ (.d _ _ htab)
  ·exact .c _ _ (.d _ _ (DR.poke hw hv (QAJ hold) (Qcb e6)))
  ·exact .c _ _ (.d _ _ (DR.poke hw hv (.int _ _) (Qcb e7)))
  ·exact .c _ _ (.d _ _ (DR.poke hw hv (.bool _) (Qcb e8)))
  ·exact .c _ _ (.d _ _ (DR.poke hw hv (.int _ _) (Qcb e9)))
 intro i;generalize QA2=L at all |-;induction L with
 |nil=>exact .c _ _ (.u _)
 |cons p r ih=>
  obtain⟨j,v⟩:=p;simp only[lk,lkL,upd];split
  ·rename_i e;subst e;exact all (j,v) (by simp)
  ·exact ih λp hp=>all p (by simp[hp])
end
def QA6(o:Oper):Bool:=match o.op with
 | .load _ (.tmp s)=>Nat.beq s 48
 |_=>false
def QvT(o:Oper):Bool:=match o.op with
 | .store _ (.tmp s) (.tmp u)=>Nat.beq s 52&&Nat.beq u 50
 |_=>false
def Qzv(k:Nat)(p:Oper->Bool):Code->Bool
 | .seq (.region _ ops _) _=>(match ops[k]? with
  |some o=>p o
  |none=>false)
 |_=>false
theorem QtF{o:Oper}(h:QA6 o=true):∃t,o.op= .load t (.tmp 48):=by
 unfold QA6 at h;split at h
 ·rename_i t s hs;have:=Nat.eq_of_beq_eq_true h;subst this;exact⟨t,hs⟩
 ·cases h
theorem QrW{o:Oper}(h:QvT o=true):∃t,o.op= .store t (.tmp 52) (.tmp 50):=by
 unfold QvT at h;split at h
 ·rename_i t s u hs;rw[Bool.and_eq_true]at h;have h1:=Nat.eq_of_beq_eq_true h.1;have h2:=Nat.eq_of_beq_eq_true h.2;subst h1 h2;exact⟨t,hs⟩
 ·cases h
section
variable{N:Nat}{ι0:Io}{m0:Ar}{w0:World}
theorem QB8{c:Code}{y:AC}(hreg:Qh6 c=true)(hld:Qzv 3 QA6 c=true)(hsto:Qzv 7 QvT c=true)(hc:Qgu Tryz.prog N c=some (.seq (.reg false (Qwp (QiZ 7 (afB Qat)))) y)){post:Exit->Act->World->Prop}{m:Ar}{bx b1 capx cap1:Nat}{G:Nat->Prop}{ι:Io}{a:Act}{w:World}
 (st:StE N ι0 m0 w0 G ι (lkL (awL bx capx)) [.am m,.dead,awB] a w)(hT:Qbt m)(hR:RwF G w bx b1 capx cap1)
 (hk:∀m' G' ι' a' w',Qgu Tryz.prog N (Qfx 1 c)=some y->Qbt m'->StE N ι0 m0 w0 G' ι' (lkL QA2) [.am m',.dead,awB] a' w'->(Qfx 1 c).wpIn (Fen none) 0 Tryz.prog post a' w'):c.wpIn (Fen none) 0 Tryz.prog post a w:=by
 obtain⟨id,ops,c2,rfl,hall,hg,hc2⟩:=Qqd hreg hc;have hsz:ops.size=8:=by have:=(QaD hall).1;rw[Array.length_toList]at this;rw[this];rfl
 refine wpIn_seq (wpIn_region ?_);rw[List.range_eq_range'];refine Qcs (Λ:=λl=>(l.length:Int)) (λ_=>rfl) hall hg 0 3 (by decide) (m:=3) (Nat.le_refl _) st (QCx m bx capx _) λL1 h1 G1 ι1 a1 w1 ⟨e1,e2⟩ st1 x1=> ?_
 subst e1 e2;have hR1:=hR.ext x1 st.rel.hr;refine Qt6 hall 3 (d:=some 49) (op:= .ld (.t 48) none) rfl st1 λo ho hcO=> ?_
 obtain⟨t,hop⟩:=QtF (o:=o) (by simpa only[Qzv,ho]using hld);obtain⟨hd,hdN,hop',-⟩:=Qbu hcO;simp only[Qac,hop]at hop';split at hop'
 ·rename_i n yy hn hy;cases hop';have hp:a1.eval (.tmp 48)= .pointer (some ⟨bx,4,none⟩):=Qdy (st1.rel.env 48);have hcell:=hR1.c1;refine QeQ (λc hc=>by rw[hop]at hc;cases hc) (v:= .slice (some ⟨b1,0,none⟩) 4 cap1) (w':=w1) (by simp[execOp,hop,hp,Instr.loadAt,Instr.sureAddr,loadVar,Qm8 hn,hcell]) ?_;have st2:=st1.step (dst:=o.dst) hdN st1.rel.hr (.c _ _ (.d _ _ (.slA b1 0 3 4 cap1))) (Ext.refl _ _ _ _);rw[<-hd]at st2 |-;refine Qcs (Λ:=λl=>(l.length:Int)) (λ_=>rfl) hall hg 4 3 (by decide) (m:=3) (Nat.le_refl _) (L:=(49,.c (.d (.sl b1 0 3 4 cap1)))::(48,.c (.d (.adr bx 4)))::awL bx capx) st2 (QCy m bx capx _ b1 cap1) λL3 h3 G3 ι3 a3 w3 ⟨e1,e2⟩ st3 x3=> ?_
  subst e1 e2;have hR3:=hR1.ext x3 st1.rel.hr;refine Qt6 hall 7 (d:=none) (op:= .st (.t 52) (.t 50) 1) rfl st3 λo2 ho2 hcO2=> ?_
  obtain⟨t2,hop2⟩:=QrW (o:=o2) (by simpa only[Qzv,ho2]using hsto);obtain⟨hd2,-,hop2',-⟩:=Qbu hcO2;simp only[Qac,hop2]at hop2';split at hop2'
  ·rename_i i x' y' hi hx hy;simp only[AOp.st.injEq]at hop2';obtain⟨-,-,his⟩:=hop2';have hp:a3.eval (.tmp 52)= .pointer (some ⟨b1,6,none⟩):=Qdy (st3.rel.env 52);have hu:DR G3 w3 (a3.eval (.tmp 50)) (.list false 1 [[iD 1]]):=Qcb (st3.rel.env 50);obtain⟨aa,cap,hue⟩:=Qtg hu;obtain⟨cc,tt,fr,b1',b2',b3'⟩:=hR3.bk;have hcl:(a3.eval (.tmp 50)).cells= #[a3.eval (.tmp 50)]:=by rw[hue];rfl
   obtain⟨w',c',q1,q2,q3,q4,q5,q6,q7⟩:=Qbr Tryz.prog b1 6 tt fr [a3.eval (.tmp 50)] w3 cc 0 b1' b2' (by simp;omega) (λv hv=>by simp at hv;rw[hv,hue];rfl);refine QgD (λc hc=>by rw[hop2]at hc;cases hc) (w':=w') (by simp[execOp,hop2,hp,Instr.storeAt,Instr.sureAddr,storeVar,Qa4 hi,<-his,hcl,q1]) ?_;have st4:=Qvk st3 hT hR3 b1' b3' hu q2 (λk=>by rw[q4];simp) q5 q6 q7 (a3.put o2.dst undef) (by rw[<-hd2]);rw[hsz];exact hk _ _ _ _ _ hc2 (Qka hT) st4
  ·cases hop2'
 ·cases hop'
end
def QzX(c:Code):Bool:=Qlu 8 c&&Qh6 (Qfx 5 c)&&Qh6 (Qfx 6 c)&&Qh6 (Qfx 7 c)&&Qzv 3 QA6 (Qfx 7 c)&&Qzv 7 QvT (Qfx 7 c)
def QzY(f:Option Func)(p:Code->Bool):Bool:=match f with
 |some fn=>(match fn.body with
  |some c=>p c
  |none=>false)
 |none=>false
theorem QzN:QzY Tryz.prog.funcs[QcC]? QzX=true:=by
 rw[Qf6]
 kernel_rfl
theorem Qj9:∀{n k:Nat} {c:Code},k<=n->Qlu n c=true->Qlu k c=true:=by
  intro n;induction n with
  |zero=>intro k c hk _;obtain rfl:k=0:=by omega
         rfl
  |succ n ih=>
    intro k c hk h;cases k with
    |zero=>rfl
    |succ k=>
      cases c with
      |seq a b=>exact ih (k:=k) (c:=b) (by omega) h
      |_=>cases h
theorem Qr5{G:Nat->Prop}{ι:Io}{m:Ar}{w:World}(r:HR G ι [.am m] w)(hT:Qbt m):HR (λ_=>False) ι [.am (Qcm m)] w where
 len:=r.len
 own:=λl l' b k k' h1 h2 h3 h4=>by
  obtain⟨k1,a1,a2⟩:=Qox (k:=l) rfl h1 h3;obtain⟨k2,b1,b2⟩:=Qox (k:=l') rfl h2 h4;exact r.own l l' b k1 k2 a1 b1 a2 b2
 g:=λb h=>h.elim
 blk:=λl k hk=>by
  match l,hk with
  |0,hk=>
   cases hk;intro b x hx;have hxe:=Qm6 hx hT;have hmx:=(Qei hx).1;subst hxe;exact Qqi (r.blk 0 _ rfl b _ hmx) rfl
  |l+1,hk=>simp at hk
theorem Qru{fn:Func}(hfn:Tryz.prog.funcs[QcC]? =some fn)(hcf:QaC Tryz.prog fn=some Qat):QlV Tryz.prog:=by
  intro m hT;refine⟨λG ι w vs hr hvs=> ?_⟩;obtain⟨c,hb,hac,hres,hnt⟩:=Qhy hcf;have hchk:=QzN;rw[hfn]at hchk;simp only[QzY,hb,QzX,Bool.and_eq_true]at hchk;obtain⟨⟨⟨⟨⟨k8,k5⟩,k6⟩,k7⟩,kl⟩,ks⟩:=hchk;have hr0:=Qr5 hr hT;have hvs0:vs=[]:=lzQ (by simpa using hvs.1);subst hvs0;have henter:=QhB (af:=Qat) (args:=[]) (vs:=[]) hnt (by simp) hr0 ⟨rfl,λi v x h1 h2=>by simp at h1⟩;have hΛ:∀l:List (List D),(λl:List (List D)=>(l.length:Int)) l=(l.length:Int):=λ_=>rfl
  have hwp:∀a,Fits fn.ntmps (λ_=>False) ι [.am (Qcm m)] w (lkL (QsG 0 [])) [.am (Qcm m)] a w->c.wpIn (Fen none) 0 Tryz.prog (out fn.ntmps (λ_=>False) ι [.am (Qcm m)] w λx L h=>match x with
        | .exit _=>False
        |_=>lkN L 0=bA true/\∃m' tl,h= .am m'::tl/\Qbt m') a w:=by
    intro a0 hf0;refine Qvq (Λ:=λl=>(l.length:Int)) hΛ (m:=1) mixed (Nat.le_refl _) 5 c (afB Qat) (QsG 0 []) [.am (Qcm m)] _ w (Qj9 (by omega) k8) hac (Qrw (Qcm m) _ hΛ (λL h=>∃m' d l,Wk 1 L h [(3,.c (.ptr 2 0 0 0)),(4,.c (.d d))] [.am m',.dead,awB]/\l.length=4/\TbR QaP [] (Qcm m) m' d l) λL h m' d l q1 q2 q3=>⟨m',d,l,q1,q2,q3⟩) hf0 ?_;rintro L h a1 w1 ⟨m1,d,l,hw1,hl,htb⟩ hf1 hc5;obtain⟨G1,ι1,st1⟩:=hw1.fits (Nat.le_refl _) hf1;obtain⟨G2,bx,b1,capx,cap1,rfl,st2,hT2,hR2⟩:=QxO st1 (Qka hT) hl htb;refine QB6 k5 hc5 st2 hT2 hR2 λm3 G3 ι3 a3 w3 hc6 hT3 st3 hR3=> ?_
    rw[<-QlF 5 c (Qj9 (by omega) k8)]at hc6 |-;refine QB7 k6 hc6 st3 hT3 hR3 λm4 G4 ι4 a4 w4 hc7 hT4 st4 hR4=> ?_
    rw[<-QlF 6 c (Qj9 (by omega) k8)]at hc7 |-;refine QB8 k7 kl ks hc7 st4 hT4 hR4 λm5 G5 ι5 a5 w5 hc8 hT5 st5=> ?_
    exact Qhp (Λ:=λl=>(l.length:Int)) hΛ (m:=1) mixed (Nat.le_refl _) _ _ _ _ _ a5 w5 hc8 (QsZ m5 hT5 _ hΛ) ⟨G5,ι5,st5⟩
  refine .of hfn (Qgr hfn hb (wpIn_mono (hwp _ henter) λx a w' ⟨L,h',hq,hfit⟩=> ?_));have fin:(lkN L 0=bA true/\∃m' tl,h'= .am m'::tl/\Qbt m')->LeavesInM Fence.wide 0 Tryz.prog fn a.tmps (λe w'=>∃v r G' ι' h'',e= .returned v/\(r=bA true/\∃m' tl,h''= .am m'::tl/\Qbt m')/\HR G' ι' h'' w'/\VR G' w' ι' h'' v r/\Ext G ι [.am m] w G' ι' h'' w') a.defers .returning w':=by
    rintro⟨hr1,m',tl,rfl,hT'⟩;refine QhD hfit λG1 ι1 w2 rel ext=> ?_
    obtain⟨us,q1,q2⟩:=QgG (P:=Tryz.prog) (af:=Qat) (vs:=[lkN L 0]) hres rel.hr rel.env (by rw[Qb2];rfl);have hv:=QhU q2;rw[hr1]at hv;have hbv:=QBv (Qcb hv);have hao:∀b,owned (ι1.take 1) [.am (Qcm m')] b->owned ι1 (.am m'::tl) b:=λb ⟨i,k,h1,h2⟩=>by
      match i,h1 with
      |0,h1=>
        cases h1;obtain⟨x,hx⟩:=h2;exact⟨0,_,rfl,x,(Qei hx).1⟩
      |i+1,h1=>simp at h1
    have hon:∀b,owned (ι1.take 1) [.am (Qcm m')] b->owned ι [.am m] b\/w.heap.size<=b:=λb hb=>(ext.onew b (hao b hb)).imp QgV id
    refine⟨_,q1,_,bA true,G,ι1.take 1,[.am (Qcm m')],rfl,⟨rfl,Qcm m',[],rfl,Qka hT'⟩,?_,?_,?_⟩
    · exact
        { len:=by have:=rel.hr.len;simp at this |-;omega
          own:=λl l' b k k' h1 h2 _ _=>by
            have:=Qaa h1;have:=Qaa h2;simp at *;omega
          g:=λb hb=>⟨Nat.lt_of_lt_of_le (hr.g b hb).1 ext.size,λho=>(hon b ho).elim (hr.g b hb).2 λh=>by have:=(hr.g b hb).1;omega⟩
          blk:=λl k hk=>by
            match l,hk with
            |0,hk=>
              cases hk;intro b x hx;have hxe:=Qm6 hx hT';have hmx:=(Qei hx).1;subst hxe;exact Qqi (rel.hr.blk 0 _ rfl b _ hmx) rfl
            |l+1,hk=>simp at hk}
    · have hv':VR G1 w2 ι1 (.am m'::tl) _ (bA true):=hv
      rw[hbv];exact .c _ _ (.d _ _ (.bool true))
    · exact
        { size:=ext.size
          quiet:=ext.quiet
          frame:=λb hb hno=>ext.frame b hb λho=>hno (QgV ho)
          gmono:=λb h=>h
          gnew:=λb h=> .inl h
          onew:=hon
          keep:=λl k hk=>by
            match l,hk with
            |0,hk=>cases hk;exact⟨_,rfl,trivial⟩
            |l+1,hk=>simp at hk}
  cases x with
  |normal=>exact fin hq
  |ret=>exact fin hq
  |exit i=>exact hq.elim
  |goto=>exact hq.elim
  |panic=>exact hq.elim
  |outgrown=>exact hq.elim
theorem Qrv:QlV Tryz.prog:=Qru Qf6 Qmm
end Go.Ab
