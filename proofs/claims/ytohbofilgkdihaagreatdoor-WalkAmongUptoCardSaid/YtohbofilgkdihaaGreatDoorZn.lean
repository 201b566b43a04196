/-
  Merged texts, part n.
-/
import Derived.Test.YtohbofilgkdihaaGreatDoorZm
set_option linter.all false
namespace Go.Ab
open Go.Proofs
noncomputable def Qeg(t:Top)(down:List Bool)(n:Int)(fr:Bool):List Int×Int:=
 if QcT t down=true then (if 0<=n/\n<t.nodes then (Qem t down n fr,0)else ([],2))else ([],1)
theorem QoO{t:Top}{down:List Bool}{n:Int}{fr:Bool}(h0:0<=n)(h1:n<t.nodes):Mid t down n fr ((List.replicate t.nodes.toNat (-1)).set n.toNat 0):=by
 have hl:n<(List.replicate t.nodes.toNat (-1:Int)).length:=by simp;omega
 have hg:∀j,0<=j->j<t.nodes->gt ((List.replicate t.nodes.toNat (-1)).set n.toNat 0) j=if j=n then 0 else -1:=by
  intro j j0 j1;rw[Qt5 h0 hl j0];split
  ·rfl
  ·simp only[gt,List.getD_eq_getElem?_getD,List.getElem?_replicate];split<;>rfl
 refine⟨by simp;omega,by rw[hg n h0 h1,if_pos rfl],λi i0 i1=> ?_,λi i0 i1=> ?_,λx x0 x1 hx hd=> ?_⟩
 ·rw[hg i i0 i1];split<;>omega
 ·rw[hg i i0 i1];split<;>omega
 ·rw[hg x x0 x1,if_neg hx]at hd;omega
theorem Qv0{k m:Nat}:(List.replicate k (-1:Int)++List.replicate (m+1) 0).set k (-1)=List.replicate (k+1) (-1)++List.replicate m 0:=by
 rw[List.set_append_right _ _ (by simp)];rw[List.length_replicate,Nat.sub_self,List.replicate_succ (n:=m),List.set_cons_zero,List.replicate_succ' (n:=k),List.append_assoc];rfl
theorem QpR{D:List Int}{es:List (List Ab.D)}{p:Nat}{e:List Ab.D}{v:Int}(hes:D.map QaC=es)(he:es[p]? =some e):es.set p (List.take 0 e++([Ab.D.int .i64 v]++List.drop (0+[Ab.D.int .i64 v].length) e))=(D.set p v).map QaC:=by
 subst hes;obtain⟨x,hx,rfl⟩:=Qus he;rw[List.map_set];rfl
theorem Qss{D:List Int}{p:Nat}{i x:Int}(hx:D[p]? =some x)(hp:p=0+i.toNat):gt D i=x:=by
 subst hp;rw[Nat.zero_add]at hx;simp[gt,List.getD_eq_getElem?_getD,hx]
abbrev srH (nodes:Int) (ol ll:List (List D)) (es:List Int):Hp:=[.bx [.d (iD nodes),.d (.list false 1 ol),.d (.list false 7 ll)],.da true 0 1 (es.map QaC)]
abbrev srL (dl:List (List D)) (n:Int) (fr:Bool) (m:Nat):Lv:=[(1,.c (.d (.list false 1 dl))),(2,iA n),(3,bA fr),(4,.c (.ptr 0 0 0 0)),(10,.c (.arr 1 0 0 m))]
set_option maxHeartbeats 4000000 in
theorem QuX(P:Program)(hP:P=Tryz.prog)(t:Top)(down:List Bool)(n:Int)(fr:Bool):Ret P Qgo [QaU t,Qbx down,iA n,bA fr] (.tup [Qay (Qeg t down n fr).1,iA (Qeg t down n fr).2]):=by
  have hfits:=QpT P hP t down;have htail:=λa=>Qe8 P hP t a
  have hhead:=λa=>Qkh P hP t a
  have hup:=λa=>QzU P hP down a
  have htr:=λy=>Ql4 P hP t y n
  have hcost:=λa=>QtF P hP t a
  refine Qah (hP▸mixed) (hP▸Qj9) (hP▸Qlb) (nle rfl) λΛ Λo K hK=> ?_
  clear hP;have k1:QcT t down=false->K (.tup [Qay [],iA 1]):=by
    intro h;rw[Qeg,if_neg (by rw[h];decide)]at hK;exact hK
  have k2:QcT t down=true->¬(0<=n/\n<t.nodes)->K (.tup [Qay [],iA 2]):=by
    intro h h';rw[Qeg,if_pos h,if_neg h']at hK;exact hK
  have k3:QcT t down=true->(0<=n/\n<t.nodes)->K (.tup [Qay (Qem t down n fr),iA 0]):=by
    intro h h';rw[Qeg,if_pos h,if_pos h']at hK;exact hK
  clear hK;have hfb:QcT t down=true->Qao t=true/\(down.length=0\/down.length=2*t.links.length):=by
    intro h;simpa [QcT]using h
  have hk4:Qao t=true->∀D,IsDist t down n fr D->Qem t down n fr=D:=λhv D hD=>QfW hv hD
  have hst:=λ(h0:0<=n) (h1:n<t.nodes)=>QoO (t:=t) (down:=down) (n:=n) (fr:=fr) h0 h1
  have hxy:=λ(hv:Qao t=true) (a:Int) (h0:0<=a) (h1:a<2*t.links.length)=>Qge hv fr h0 h1
  have hlen:=λ(D:List Int) (h:Mid t down n fr D)=>h.len
  have hmd:=λ(D:List Int) (h:Mid t down n fr D)=>h.dist
  have hms:=λ(hv:Qao t=true) (D:List Int) (h:Mid t down n fr D) (a:Int)=>h.step hv (a:=a)
  have hml:=λ(hv:Qao t=true) (D:List Int) (h:Mid t down n fr D) (i:Int)=>h.le hv (i:=i)
  have hcs:=λ(hv:Qao t=true) (a:Int) (h0:0<=a) (h1:a<2*t.links.length)=>(Qek hv h0 h1).2.2.2
  have hn64:=λ(hv:Qao t=true)=>(Qap.1 hv).1
  have hl256:=λ(hv:Qao t=true)=>(Qap.1 hv).2.2.1
  have hxe:∀a,xOf t fr a=if fr then QbD t a else Qba t a:=λ_=>rfl
  have hye:∀a,yOf t fr a=if fr then Qba t a else QbD t a:=λ_=>rfl
  have hoa:∀a,Qhd t down n fr a=(upB down a&&Qc2 t (yOf t fr a) n):=λ_=>rfl
  have hfx:∀D a,QpU t down n fr D a↔(Qhd t down n fr a=true->0<=gt D (yOf t fr a)->0<=gt D (xOf t fr a)/\gt D (xOf t fr a)<=gt D (yOf t fr a)+QcA t a):=λ_ _=>Iff.rfl
  generalize QcT t down=fb at*;generalize Qao t=v at*;generalize Qem t down n fr=ds at*;generalize Qba t=tt at*;generalize QbD t=ht at*;generalize QcA t=ct at*;generalize Qc2 t=tb at*;generalize upB down=ub at*;generalize xOf t fr=xo at*;generalize yOf t fr=yo at*;generalize Qhd t down n fr=oa at*;generalize QpU t down n fr=fx at*;generalize Mid t down n fr=md at*;generalize IsDist t down n fr=isd at*;simp only[Qbx,Qag]at*;generalize hdl:down.map Qbq=dl at*;have hdn:Λ dl=down.length:=by rw[Λo,<-hdl];simp
  obtain⟨nodes,ov,links⟩:=t;simp only[QaU,Qag,Qai]at*;generalize hol:ov.map Qbq=ol at*;generalize hll:links.map QaD=ll at*;have hlo:Λ ol=ov.length:=by rw[Λo,<-hol];simp
  have hls:Λ ll=links.length:=by rw[Λo,<-hll];simp
  simp only[Qay,Qav,List.map_nil]at k1 k2 k3;cases fb
  · conv=>cbv
    repeat' first|refine Qaz hfits rfl rfl ?_ ?_|(intro hc;cases hc;done)|exact gxQ|refine And.intro ?_ ?_|(intro hc;(first|rw[wS (by omega) (by omega)]at hc|rw[Qab]at hc|skip);try (conv=>cbv))
    exact k1 rfl
  obtain⟨hv,hdo⟩:=hfb rfl;subst hv;simp only[forall_const]at*
  conv=>cbv
  repeat' first|refine Qaz hfits rfl rfl ?_ ?_|(intro hc;cases hc;done)|(intro(_:Unit);refine⟨?_,?_,?_,?_⟩;omega;omega;omega;omega)|exact gxQ|refine And.intro ?_ ?_|(intro hc;(first|rw[wS (by omega) (by omega)]at hc|rw[Qab]at hc|skip);try (conv=>cbv))
  · exact k2 (by omega)
  · exact k2 (by omega)
  rename_i m0 es0 hm0;subst hc hm0;refine QbM nodes.toNat (λ(s:Int×List Int)=>(11,iA s.1)::srL dl n fr nodes.toNat) (λs=>srH nodes ol ll s.2) (λk s=>s.1=k/\k<=nodes.toNat/\s.2=List.replicate k (-1)++List.replicate (nodes.toNat-k) 0) (0,List.replicate nodes.toNat 0)
    0 (λ(_:Unit)=>srL dl n fr nodes.toNat) (λ_=>srH nodes ol ll (List.replicate nodes.toNat (-1))) (λ_=>True) (by rw[srH,List.map_replicate];exact Wk.cw) ⟨rfl,by omega,by simp⟩ (λk s h=>h.2.1) ?_ ?_
  · rintro k ⟨i,D⟩ Q' ⟨hi,hk,hD⟩ norm jn ex rt
    simp only at hi hD;have hDl:D.length=nodes.toNat:=by rw[hD];simp;omega
    generalize hN:nodes.toNat=N at*;simp only[srH,srL];generalize hes:D.map QaC=es at*;have hesl:es.length=N:=by rw[<-hes,List.length_map];exact hDl
    conv=>cbv
    repeat' first|exact gxQ|refine And.intro ?_ ?_|(intro hc;(first|rw[wS (by omega) (by omega)]at hc|rw[Qab]at hc|skip);try (conv=>cbv))
    · rename_i p hp e hpe es' he' i'
      have hee:e=[iD 0]:=by
        rw[<-hes,gtm,hp,hD]at hpe;simp only[Nat.zero_add,hi,Int.toNat_natCast]at hpe;rw[apQ (by simp),List.getElem?_replicate]at hpe;simp only[List.length_replicate]at hpe;split at hpe
        · cases hpe;rfl
        · cases hpe
      have e2:es'=((List.replicate (k+1) (-1)++List.replicate (N-(k+1)) 0).map QaC):=by
        rw[he',hee,hp,<-hes,hD];simp only[Nat.zero_add,hi,Int.toNat_natCast];rw[show N-k=N-(k+1)+1 by omega,<-Qv0,List.map_set];rfl
      subst e2;refine norm _ _ (_,_) ?_ (Wk.cw);exact⟨by simp only;omega,by omega,rfl⟩
    · have e2:es=((List.replicate N (-1)).map QaC):=by
        rw[<-hes,hD,show k=N by omega,Nat.sub_self];simp
      subst e2;refine jn _ _ () trivial (Wk.cw)
  rintro _-
  have hm0:=hst (by omega) (by omega);clear hst;generalize hN:nodes.toNat=N at*;generalize hD0:List.replicate N (-1)=D0 at*;have hD0l:D0.length=N:=by rw[<-hD0];simp
  simp only[srH,srL];generalize hes:D0.map QaC=es at*;have hesl:es.length=N:=by rw[<-hes,List.length_map];exact hD0l
  conv=>cbv
  repeat' first|exact gxQ|refine And.intro ?_ ?_|(intro hc;(first|rw[wS (by omega) (by omega)]at hc|rw[Qab]at hc|skip);try (conv=>cbv))
  rename_i p hp e hpe es1;have e1:es1=(D0.set n.toNat 0).map QaC:=by rw[hc,QpR hes hpe,hp,Nat.zero_add]
  subst e1;clear hc hpe hes hesl es;generalize D0.set n.toNat 0=D1 at*;clear hD0 hD0l D0;refine QaT (msr D1+1) (λ(s:Bool×List Int)=>(12,bA s.1)::srL dl n fr N) (λs=>srH nodes ol ll s.2) (λk s=>md s.2/\(s.1=false->∀a:Int,0<=a->a<2*links.length->fx s.2 a)/\k+msr s.2<=msr D1+(if s.1 then 0 else 1)) (true,D1) (Wk.cw) ⟨hm0,by simp,by simp⟩ (λk s h=>by have:=h.2.2;split at this<;>omega) ?_;rintro k ⟨ch,D⟩ Q' ⟨hD,hfix,hkm⟩ normo exo rto;simp only at hD hfix hkm;simp only[srH,srL];cases ch with
  |false=>
    have hds:=hk4 D (hmd D hD (hfix rfl));have hDl:=hlen D hD;rw[hds]at k3;generalize hes:D.map QaC=es at*;have hesl:es.length=N:=by rw[<-hes,List.length_map];omega
    conv=>cbv
    repeat' first|(refine exo _ _ _ ?_;(conv=>cbv))|(refine rto _ _ ?_;(conv=>cbv))|exact gxQ|refine And.intro ?_ ?_|(intro hc;(first|rw[wS (by omega) (by omega)]at hc|rw[Qab]at hc|skip);try (conv=>cbv))
    rename_i ls;have e:ls=es:=by rw[hc,List.drop_zero,<-hesl,List.take_length]
    subst e;exact k3 (by omega)
  |true=>
    generalize hes:D.map QaC=es at*
    conv=>cbv
    repeat' first|exact gxQ|refine And.intro ?_ ?_|(intro hc;(first|rw[wS (by omega) (by omega)]at hc|rw[Qab]at hc|skip);try (conv=>cbv))
    subst hes;refine QaT (2*links.length) (λ(s:Int×Bool×List Int)=>(13,iA s.1)::(12,bA s.2.1)::srL dl n fr N) (λs=>srH nodes ol ll s.2.2) (λk s=>s.1=k/\k<=2*links.length/\md s.2.2/\(s.2.1=false->s.2.2=D/\∀a:Int,0<=a->a<k->fx D a)/\(s.2.1=true->msr s.2.2<msr D)) (0,false,D) (Wk.cw) ⟨rfl,by omega,hD,λ_=>⟨rfl,λa h0 h1=>by omega⟩,by simp⟩ (λk s h=>h.2.1) ?_;rintro k' ⟨a,ch,D'⟩ Q' ⟨ha,hk',hD',hf',ht'⟩ norm ex rt;simp only at ha hD' hf' ht';simp only[srH,srL];have hDl:=hlen D' hD';generalize hes:D'.map QaC=es at*;have hesl:es.length=N:=by rw[<-hes,List.length_map];omega
    by_cases hlt:k'<2*links.length
    · obtain⟨⟨x0,x1⟩,⟨y0,y1⟩,hne⟩:=hxy a (by omega) (by omega)
      have hxle:=hml D' hD' (xo a) x0 x1;have hyle:=hml D' hD' (yo a) y0 y1;have hcl:=hcs a (by omega) (by omega);have hxa:=hxe a;have hya:=hye a;have hra:=hoa a;have hrx:=hfx D' a;have hta:=htail a;have hha:=hhead a;have hua:=hup a (by omega);have hya2:=htr (yo a);have hca:=hcost a;have hms':=hms D' hD' a (by omega) (by omega);have hcnt:∀D2 ch2,md D2->(ch2=false->ch=false/\D2=D'/\fx D' a)->(ch2=true->ch=true/\D2=D'\/msr D2<msr D')->∀L' h' a',a'=a+1->Wk 0 L' h' ((13,iA a')::(12,bA ch2)::srL dl n fr N) (srH nodes ol ll D2)->Q' .normal L' h':=by
        intro D2 ch2 q1 q2 q3 L' h' a' q4 q5;refine norm L' h' (a',ch2,D2) ⟨by simp only;omega,by omega,q1,λhc2=> ?_,λhc2=> ?_⟩ q5
        · obtain⟨e1,e2,e3⟩:=q2 hc2
          obtain⟨e4,e5⟩:=hf' e1;subst e2;refine⟨e4,λb b0 b1=> ?_⟩;rcases Int.lt_or_le b k' with h|h
          · exact e5 b b0 h
          · obtain rfl:b=a:=by omega
            rw[<-e4];exact e3
        · have hmm:msr D'<=msr D:=by
            cases ch
            · rw[(hf' rfl).1];exact Nat.le_refl _
            · exact Nat.le_of_lt (ht' rfl)
          rcases q3 hc2 with ⟨e1,e2⟩|e1
          · rw[e2];exact ht' e1
          · simp only;omega
      clear norm hf' ht' hfx hoa hxe hye htail hhead hup htr hcost hms hml hcs normo exo rto hxy hmd hlen;cases fr
      · simp only[Bool.false_eq_true,if_false]at hxa hya
        rw[<-hxa]at hta;rw[<-hya]at hha;generalize xo a=X at*;generalize yo a=Y at*;generalize ct a=C at*
        conv=>cbv
        repeat' first|(refine ex _ _ _ ?_;(conv=>cbv))|(refine rt _ _ ?_;(conv=>cbv))|(intro e he;obtain⟨x,hx,rfl⟩:=Qa1 hes he;have hgY:=Qss (i:=Y) hx;have hgX:=Qss (i:=X) hx;(conv=>cbv))|(refine Qan hta rfl rfl ?_;conv=>cbv)|(refine Qan hha rfl rfl ?_;conv=>cbv)|refine Qaz hua rfl rfl ?_ ?_|refine Qaz hya2 rfl rfl ?_ ?_|(refine Qan hca rfl rfl ?_;conv=>cbv)|exact gxQ|refine And.intro ?_ ?_|(intro hc;(first|rw[wS (by omega) (by omega)]at hc|rw[Qab]at hc|skip);try (conv=>cbv))
        all_goals clear hta hha hua hya2 hca
        all_goals first
          |(refine hcnt D' ch hD' (λh=>⟨h,rfl,hrx.2 λho hy=> ?_⟩) (λh=> .inl ⟨h,rfl⟩) _ _ _ hc (by subst hes;exact Wk.cw)
            first
            |(exfalso;omega)
            |(exact⟨by omega,by omega⟩)
            |(exfalso;rw[hra]at ho;simp_all;done))
          |(rename_i es' hes' _
            have hoa:oa a=true:=by rw[hra,‹ub a=true›,‹tb Y n=true›];rfl
            have hst:=hms' hoa (by omega) (by omega);have e3:es'=(D'.set X.toNat (gt D' Y+C)).map QaC:=by
              refine hes'.trans ((QpR hes he).trans ?_)
              congr 1
              congr 1<;>omega
            subst e3;exact hcnt _ true hst.1 (by simp) (λ_=> .inr hst.2) _ _ _ hc (Wk.cw))
          |trace_state
      · simp only[if_true]at hxa hya
        rw[<-hya]at hta;rw[<-hxa]at hha;generalize xo a=X at*;generalize yo a=Y at*;generalize ct a=C at*
        conv=>cbv
        repeat' first|(refine ex _ _ _ ?_;(conv=>cbv))|(refine rt _ _ ?_;(conv=>cbv))|(intro e he;obtain⟨x,hx,rfl⟩:=Qa1 hes he;have hgY:=Qss (i:=Y) hx;have hgX:=Qss (i:=X) hx;(conv=>cbv))|(refine Qan hta rfl rfl ?_;conv=>cbv)|(refine Qan hha rfl rfl ?_;conv=>cbv)|refine Qaz hua rfl rfl ?_ ?_|refine Qaz hya2 rfl rfl ?_ ?_|(refine Qan hca rfl rfl ?_;conv=>cbv)|exact gxQ|refine And.intro ?_ ?_|(intro hc;(first|rw[wS (by omega) (by omega)]at hc|rw[Qab]at hc|skip);try (conv=>cbv))
        all_goals clear hta hha hua hya2 hca
        all_goals first
          |(refine hcnt D' ch hD' (λh=>⟨h,rfl,hrx.2 λho hy=> ?_⟩) (λh=> .inl ⟨h,rfl⟩) _ _ _ hc (by subst hes;exact Wk.cw)
            first
            |(exfalso;omega)
            |(exact⟨by omega,by omega⟩)
            |(exfalso;rw[hra]at ho;simp_all;done))
          |(rename_i es' hes' _
            have hoa:oa a=true:=by rw[hra,‹ub a=true›,‹tb Y n=true›];rfl
            have hst:=hms' hoa (by omega) (by omega);have e3:es'=(D'.set X.toNat (gt D' Y+C)).map QaC:=by
              refine hes'.trans ((QpR hes he).trans ?_)
              congr 1
              congr 1<;>omega
            subst e3;exact hcnt _ true hst.1 (by simp) (λ_=> .inr hst.2) _ _ _ hc (Wk.cw))
          |trace_state
    · conv=>cbv
      repeat' first|(refine ex _ _ _ ?_;(conv=>cbv))|(refine rt _ _ ?_;(conv=>cbv))|exact gxQ|refine And.intro ?_ ?_|(intro hc;(first|rw[wS (by omega) (by omega)]at hc|rw[Qab]at hc|skip);try (conv=>cbv))
      subst hes;refine normo _ _ (_,_) ?_ (Wk.cw);simp only;simp only[if_true,Nat.add_zero]at hkm;cases ch
      · obtain⟨h1,h2⟩:=hf' rfl
        subst h1;exact⟨hD',λ_ b b0 b1=>h2 b b0 (by omega),by simp only[Bool.false_eq_true,if_false];omega⟩
      · have:=ht' rfl
        exact⟨hD',by simp,by simp only[if_true];omega⟩
theorem QyB(P:Program)(hP:P=Tryz.prog)(t:Top)(down:List Bool)(n:Int):Ret P Qim [QaU t,Qbx down,iA n] (.tup [Qay (Qeg t down n false).1,iA (Qeg t down n false).2]):=by
 have hs:=QuX P hP t down n false;refine Qah (hP▸mixed) (hP▸QmZ) (hP▸Qn6) (nle rfl) λΛ Λo K hK=> ?_
 clear hP;generalize Qeg t down n false=r at*;obtain⟨D,e⟩:=r;simp only[Qay,Qav,Qbx,Qag]at*;generalize D.map QaC=Dl at*;generalize down.map Qbq=dl at*;obtain⟨nodes,ov,links⟩:=t;simp only[QaU,Qag,Qai]at*;generalize hol:ov.map Qbq=ol at*;generalize hll:links.map QaD=ll at*;have hlo:Λ ol=ov.length:=by rw[Λo,<-hol];simp
 have hls:Λ ll=links.length:=by rw[Λo,<-hll];simp
 conv=>cbv
 repeat' first|(refine Qan hs rfl rfl ?_;conv=>cbv)|exact gxQ|refine And.intro ?_ ?_|(intro hc;(first|rw[wS (by omega) (by omega)]at hc|rw[Qab]at hc|skip);try (conv=>cbv))
 exact hK
def onB(t:Top)(down:List Bool)(D:List Int)(a d:Int):Bool:=
 upB down a&& !decide (Qba t a=d)&&decide (0<=gt D (QbD t a))&&Qc2 t (QbD t a) d&&decide (gt D (Qba t a)=gt D (QbD t a)+QcA t a)
set_option maxHeartbeats 1000000 in
theorem QCq(P:Program)(hP:P=Tryz.prog)(t:Top)(down:List Bool)(D:List Int)(a d:Int)(hv:Qao t=true)(hd:down.length=0\/down.length=2*t.links.length)(h0:0<=a)(h1:a<2*t.links.length)(hl:(D.length:Int)=t.nodes)
 (hb:∀i,0<=i->i<t.nodes-> -1<=gt D i/\gt D i<=4194240):Ret P QlJ [QaU t,Qbx down,Qay D,iA a,iA d] (bA (onB t down D a d)):=by
 have hta:=Qe8 P hP t a;have hha:=Qkh P hP t a;have hua:=QzU P hP down a (by omega);have htr:=Ql4 P hP t (QbD t a) d;have hca:=QtF P hP t a;refine Qah (hP▸mixed) (hP▸QpW) (hP▸Qr6) (nle rfl) λΛ Λo K hK=> ?_
 clear hP;have leaf:∀b,onB t down D a d=b->K (bA b):=λb hb=>by rw[<-hb];exact hK
 have hr:onB t down D a d=(upB down a&& !decide (Qba t a=d)&&decide (0<=gt D (QbD t a))&&Qc2 t (QbD t a) d&&decide (gt D (Qba t a)=gt D (QbD t a)+QcA t a)):=rfl;clear hK;obtain⟨⟨x0,x1⟩,⟨y0,y1⟩,hne,c0,c1⟩:=Qek hv h0 h1;have hbx:=hb _ x0 x1;have hby:=hb _ y0 y1;generalize onB t down D a d=r at*;generalize Qba t a=X at*;generalize QbD t a=Y at*;generalize QcA t a=C at*;generalize Qc2 t Y d=tb at*;generalize upB down a=ub at*;simp only[Qay,Qav,Qbx,Qag]at*;generalize hes:D.map QaC=es at*;have hesn:Λ es=D.length:=by rw[Λo,<-hes];simp
 generalize hdl:down.map Qbq=dl at*;obtain⟨nodes,ov,links⟩:=t;simp only[QaU,Qag,Qai]at*;generalize hol:ov.map Qbq=ol at*;generalize hll:links.map QaD=ll at*;have hlo:Λ ol=ov.length:=by rw[Λo,<-hol];simp
 have hls:Λ ll=links.length:=by rw[Λo,<-hll];simp
 conv=>cbv
 repeat' first|(intro e he;obtain⟨x,hx,rfl⟩:=Qa1 hes he;have hgY:=Qss (i:=Y) hx;have hgX:=Qss (i:=X) hx;(conv=>cbv))|(refine Qan hta rfl rfl ?_;conv=>cbv)|(refine Qan hha rfl rfl ?_;conv=>cbv)|refine Qaz hua rfl rfl ?_ ?_|refine Qaz htr rfl rfl ?_ ?_|(refine Qan hca rfl rfl ?_;conv=>cbv)|exact gxQ|refine And.intro ?_ ?_|(intro hc;(first|rw[wS (by omega) (by omega)]at hc|rw[Qab]at hc|skip);try (conv=>cbv))
 all_goals clear hta hha hua htr hca
 ·refine leaf _ (hr.trans ?_);rw[‹ub=true›,‹tb=true›,decide_eq_false (p:=X=d) (by assumption),decide_eq_true (p:=0<=gt D Y) (by omega),decide_eq_true (p:=gt D X=gt D Y+C) (by omega)];rfl
 ·refine leaf _ (hr.trans ?_);rw[decide_eq_false (p:=gt D X=gt D Y+C) (by omega)];simp
 ·refine leaf _ (hr.trans ?_);rw[hc];simp
 ·refine leaf _ (hr.trans ?_);rw[decide_eq_false (p:=0<=gt D Y) (by omega)];simp
 ·refine leaf _ (hr.trans ?_);rw[decide_eq_true hc];simp
 ·refine leaf _ (hr.trans ?_);rw[hc];simp
def Qlr(t:Top)(down:List Bool)(D:List Int)(n d:Int):List Int:=(Qbt (2*t.links.length)).filter λa=>decide (Qba t a=n)&&onB t down D a d
set_option maxHeartbeats 1000000 in
theorem Qww(P:Program)(hP:P=Tryz.prog)(t:Top)(down:List Bool)(D:List Int)(n d:Int)(hv:Qao t=true)(hd:down.length=0\/down.length=2*t.links.length)(hl:(D.length:Int)=t.nodes)
 (hb:∀i,0<=i->i<t.nodes-> -1<=gt D i/\gt D i<=4194240):Ret P Qip [QaU t,Qbx down,Qay D,iA n,iA d] (Qay (Qlr t down D n d)):=by
 have ht:=Qe8 P hP t;have hon:=λa h0 h1=>QCq P hP t down D a d hv hd h0 h1 hl hb
 refine Qah (hP▸mixed) (hP▸Qm2) (hP▸Qn9) (nle rfl) λΛ Λo K hK=> ?_
 clear hP;have hl256:=(Qap.1 hv).2.2.1;have ho:Qlr t down D n d=(Qbt (2*t.links.length)).filter λa=>decide (Qba t a=n)&&onB t down D a d:=rfl
 rw[ho]at hK;clear ho;generalize hf:Qba t=f at*;obtain⟨g,hg⟩:∃g:Int->Bool,∀a,onB t down D a d=g a:=⟨_,λ_=>rfl⟩;simp only[hg]at hon hK;clear hg;simp only[Qay,Qav,Qbx,Qag]at*;generalize D.map QaC=es at*;generalize down.map Qbq=dl at*;obtain⟨nodes,ov,links⟩:=t;simp only[QaU,Qag,Qai]at*;generalize hol:ov.map Qbq=ol at*;generalize hll:links.map QaD=ll at*;have hlo:Λ ol=ov.length:=by rw[Λo,<-hol];simp
 have hls:Λ ll=links.length:=by rw[Λo,<-hll];simp
 generalize hv2:2*links.length=v at*
 conv=>cbv
 repeat' first|exact gxQ|refine And.intro ?_ ?_|(intro hc;(first|rw[wS (by omega) (by omega)]at hc|rw[Qab]at hc|skip);try (conv=>cbv))
 refine QaT v (λ(s:Int×Nat×Nat×Bool×List (List Ab.D))=>[(1,.c (.d (.list false 1 dl))),(2,.c (.d (.list false 1 es))),(3,iA n),(4,iA d),(5,.c (.ptr 0 0 0 0)),(11,.c (.arr 1 s.2.1 0 s.2.2.1)),(12,iA s.1)]) (λs=>[.bx [.d (.int .i64 nodes),.d (.list false 1 ol),.d (.list false 7 ll)],.da s.2.2.2.1 s.2.1 1 s.2.2.2.2])
  (λk s=>s.1=k/\k<=v/\s.2.2.1=s.2.2.2.2.length/\s.2.2.2.2=(((Qbt k).filter λa=>decide (f a=n)&&g a).map QaC)) (0,0,0,false,[]) (.trans (.nilS 11 1 rfl) (Wk.cw)) ⟨rfl,by omega,rfl,rfl⟩ (λk s h=>h.2.1) ?_
 rintro k ⟨i,ve,m,r,es'⟩ Q' ⟨hi,hk,hm,hes⟩ norm ex rt;simp only at hi hm hes;have hesl:es'.length<=k:=by
  rw[hes,List.length_map];refine Nat.le_trans (List.length_filter_le _ _) ?_;simp[Qbt]
 conv=>cbv
 repeat' first|(refine ex _ _ _ ?_;(conv=>cbv))|(refine rt _ _ ?_;(conv=>cbv))|refine Qc7 (ht _) rfl rfl ?_|refine Qaz (hon _ (by omega) (by omega)) rfl rfl ?_ ?_|(intro(_:Unit);refine⟨rfl,?_⟩;simp only[List.length_cons,List.length_nil];omega)|exact gxQ|refine And.intro ?_ ?_|(intro hc;(first|rw[wS (by omega) (by omega)]at hc|rw[Qab]at hc|skip);try (conv=>cbv))
 ·rename_i hfi hn hgi m' r' es2 hm' hr' he' i';refine norm _ _ (_,_,_,_,_) ?_ (Wk.cw);have e:es2=((Qbt (k+1)).filter λa=>decide (f a=n)&&g a).map QaC:=by
   rw[he',List.drop_zero,hm,List.take_length,hes,QcP,List.filter_append,List.map_append];rw[<-hi,List.filter_cons_of_pos (by rw[hgi,decide_eq_true (by omega)];rfl)];rfl
  exact⟨by simp only;omega,by omega,by simp only;rw[hm',he',List.drop_zero,hm,List.take_length];simp,e⟩
 ·rename_i hfi hn hgi i';refine norm _ _ (_,_,_,_,_) ?_ (Wk.cw);have e:es'=((Qbt (k+1)).filter λa=>decide (f a=n)&&g a).map QaC:=by
   rw[hes,QcP,List.filter_append,List.map_append];rw[<-hi,List.filter_cons_of_neg (by rw[hgi];simp)];simp
  exact⟨by simp only;omega,by omega,hm,e⟩
 ·rename_i hfi hn i';refine norm _ _ (_,_,_,_,_) ?_ (Wk.cw);have e:es'=((Qbt (k+1)).filter λa=>decide (f a=n)&&g a).map QaC:=by
   rw[hes,QcP,List.filter_append,List.map_append];rw[<-hi,List.filter_cons_of_neg (by rw[decide_eq_false (by omega)];simp)];simp
  exact⟨by simp only;omega,by omega,hm,e⟩
 ·rename_i ls;have e:ls=((Qbt v).filter λa=>decide (f a=n)&&g a).map QaC:=by
   rw[hc,List.drop_zero,hm,List.take_length,hes,show k=v by omega]
  subst e;exact hK
theorem Qy6{t:Top}(hv:Qao t=true){down:List Bool}{e:Int}{fr:Bool}:∀(m:Nat) (D:List Int),msr D=m->Mid t down e fr D->∃D',Mid t down e fr D'/\∀a:Int,0<=a->a<2*t.links.length->QpU t down e fr D' a:=by
 intro m;induction m using Nat.strongRecOn with
 |_ m ih=>
  intro D hm hD;by_cases h:∀a:Int,0<=a->a<2*t.links.length->QpU t down e fr D a
  ·exact⟨D,hD,h⟩
  ·simp only[Classical.not_forall]at h;obtain⟨a,a0,a1,ha⟩:=h;simp only[QpU,Classical.not_forall]at ha;obtain⟨ho,hy,hn⟩:=ha;obtain⟨s1,s2⟩:=hD.step hv a0 a1 ho hy (by omega);exact ih _ (by omega) _ rfl s1
theorem QlD{t:Top}(hv:Qao t=true)(down:List Bool){n:Int}(fr:Bool)(h0:0<=n)(h1:n<t.nodes):IsDist t down n fr (Qem t down n fr)/\∀i,0<=i->i<t.nodes-> -1<=gt (Qem t down n fr) i/\gt (Qem t down n fr) i<=4194240:=by
 obtain⟨D,hD,hf⟩:=Qy6 hv _ _ rfl (QoO (t:=t) (down:=down) (n:=n) (fr:=fr) h0 h1);have hd:=hD.dist hf;rw[QfW hv hd];exact⟨hd,λi i0 i1=>⟨hd.lo i i0 i1,hD.le hv i0 i1⟩⟩
noncomputable def Qni(t:Top)(down:List Bool)(n d:Int):List Int×Int:=
 if QcT t down=true then (if 0<=d/\d<t.nodes then (if 0<=n/\n<t.nodes then (Qlr t down (Qem t down d false) n d,0)else ([],2))else ([],2))else ([],1)
theorem Qza(P:Program)(hP:P=Tryz.prog)(t:Top)(down:List Bool)(n d:Int):Ret P Qio [QaU t,Qbx down,iA n,iA d] (.tup [Qay (Qni t down n d).1,iA (Qni t down n d).2]):=by
 have hs:=QyB P hP t down d;have hfb:QcT t down=true->Qao t=true/\(down.length=0\/down.length=2*t.links.length):=by
  intro h;simpa [QcT]using h
 have hn:=λ(hf:QcT t down=true) (h:0<=d/\d<t.nodes)=>Qww P hP t down (Qem t down d false) n d (hfb hf).1 (hfb hf).2 (QlD (hfb hf).1 down false h.1 h.2).1.len (QlD (hfb hf).1 down false h.1 h.2).2
 refine Qah (hP▸mixed) (hP▸Qm1) (hP▸Qn8) (nle rfl) λΛ Λo K hK=> ?_
 clear hP hfb;have hsr:Qeg t down d false=if QcT t down=true then (if 0<=d/\d<t.nodes then (Qem t down d false,0)else ([],2))else ([],1):=rfl
 have hnr:Qni t down n d=if QcT t down=true then (if 0<=d/\d<t.nodes then (if 0<=n/\n<t.nodes then (Qlr t down (Qem t down d false) n d,0)else ([],2))else ([],2))else ([],1):=rfl
 generalize Qeg t down d false=sr at*;generalize Qni t down n d=nr at*;generalize Qlr t down (Qem t down d false) n d=nl at*;generalize Qem t down d false=ds at*;by_cases hf:QcT t down=true
 ·rw[if_pos hf]at hsr hnr;by_cases hd:0<=d/\d<t.nodes
  ·rw[if_pos hd]at hsr hnr;have hn:=hn hf hd;subst hsr;have k1:¬(0<=n/\n<t.nodes)->K (.tup [Qay [],iA 2]):=by intro h;rw[hnr,if_neg h]at hK;exact hK
   have k2:(0<=n/\n<t.nodes)->K (.tup [Qay nl,iA 0]):=by intro h;rw[hnr,if_pos h]at hK;exact hK
   clear hK hnr;simp only[Qay,Qav,Qbx,Qag,List.map_nil]at*;generalize nl.map QaC=nl' at*;generalize ds.map QaC=ds' at*;generalize down.map Qbq=dl at*;obtain⟨nodes,ov,links⟩:=t;simp only[QaU,Qag,Qai]at*;generalize hol:ov.map Qbq=ol at*;generalize hll:links.map QaD=ll at*;have hlo:Λ ol=ov.length:=by rw[Λo,<-hol];simp
   have hls:Λ ll=links.length:=by rw[Λo,<-hll];simp
   conv=>cbv
   repeat' first|(refine Qan hs rfl rfl ?_;conv=>cbv)|(refine Qan hn rfl rfl ?_;conv=>cbv)|exact gxQ|refine And.intro ?_ ?_|(intro hc;(first|rw[wS (by omega) (by omega)]at hc|rw[Qab]at hc|skip);try (conv=>cbv))
   ·exact k1 (by omega)
   ·exact k1 (by omega)
   ·exact k2 (by omega)
  ·rw[if_neg hd]at hsr hnr;subst hsr hnr;simp only[Qay,Qav,Qbx,Qag,List.map_nil]at*;generalize down.map Qbq=dl at*;obtain⟨nodes,ov,links⟩:=t;simp only[QaU,Qag,Qai]at*;generalize hol:ov.map Qbq=ol at*;generalize hll:links.map QaD=ll at*;have hlo:Λ ol=ov.length:=by rw[Λo,<-hol];simp
   have hls:Λ ll=links.length:=by rw[Λo,<-hll];simp
   conv=>cbv
   repeat' first|(refine Qan hs rfl rfl ?_;conv=>cbv)|exact gxQ|refine And.intro ?_ ?_|(intro hc;(first|rw[wS (by omega) (by omega)]at hc|rw[Qab]at hc|skip);try (conv=>cbv))
   exact hK
 ·rw[if_neg hf]at hsr hnr;subst hsr hnr;simp only[Qay,Qav,Qbx,Qag,List.map_nil]at*;generalize down.map Qbq=dl at*;obtain⟨nodes,ov,links⟩:=t;simp only[QaU,Qag,Qai]at*;generalize hol:ov.map Qbq=ol at*;generalize hll:links.map QaD=ll at*;have hlo:Λ ol=ov.length:=by rw[Λo,<-hol];simp
  have hls:Λ ll=links.length:=by rw[Λo,<-hll];simp
  conv=>cbv
  repeat' first|(refine Qan hs rfl rfl ?_;conv=>cbv)|exact gxQ|refine And.intro ?_ ?_|(intro hc;(first|rw[wS (by omega) (by omega)]at hc|rw[Qab]at hc|skip);try (conv=>cbv))
  exact hK
noncomputable def toL(t:Top)(down:List Bool)(n:Int)(k:Nat):List Ety:=(Qbt k).map λd=>⟨(Qni t down n d).1,false,[]⟩
def QvR(t:Top)(down:List Bool)(n:Int):List Int:=(QrD t n).filter λa=> !upB down a
noncomputable def Qnx(t:Top)(down:List Bool)(n:Int):Tab×Int:=
 if QcT t down=true then (if 0<=n/\n<t.nodes then (⟨n,toL t down n t.nodes.toNat,QvR t down n⟩,0)else (⟨0,[],[]⟩,2))else (⟨0,[],[]⟩,1)
end Go.Ab
