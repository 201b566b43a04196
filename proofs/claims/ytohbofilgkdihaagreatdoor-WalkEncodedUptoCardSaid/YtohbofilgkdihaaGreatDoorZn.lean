/-
  Merged texts, part n.
-/
import Derived.Test.YtohbofilgkdihaaGreatDoorZm
set_option linter.all false
namespace Go.Ab
open Go.Proofs
noncomputable def QbU(t:Top)(down:List Bool)(n:Int)(fr:Bool):List Int×Int:=
 if QaK t down=true then (if 0<=n/\n<t.nodes then (QaM t down n fr,0)else ([],2))else ([],1)
theorem QoE{t:Top}{down:List Bool}{n:Int}{fr:Bool}(h0:0<=n)(h1:n<t.nodes):Mid t down n fr ((List.replicate t.nodes.toNat (-1)).set n.toNat 0):=by
 have hl:n<(List.replicate t.nodes.toNat (-1:Int)).length:=by simp;omega
 have hg:∀j,0<=j->j<t.nodes->gt ((List.replicate t.nodes.toNat (-1)).set n.toNat 0) j=if j=n then 0 else -1:=by
  intro j j0 j1;rw[Qlt h0 hl j0];split
  ·rfl
  ·simp only[gt,List.getD_eq_getElem?_getD,List.getElem?_replicate];split<;>rfl
 refine⟨by simp;omega,by rw[hg n h0 h1,if_pos rfl],λi i0 i1=> ?_,λi i0 i1=> ?_,λx x0 x1 hx hd=> ?_⟩
 ·rw[hg i i0 i1];split<;>omega
 ·rw[hg i i0 i1];split<;>omega
 ·rw[hg x x0 x1,if_neg hx]at hd;omega
theorem QvI{k m:Nat}:(List.replicate k (-1:Int)++List.replicate (m+1) 0).set k (-1)=List.replicate (k+1) (-1)++List.replicate m 0:=by
 rw[List.set_append_right _ _ (by simp)];rw[List.length_replicate,Nat.sub_self,List.replicate_succ (n:=m),List.set_cons_zero,List.replicate_succ' (n:=k),List.append_assoc];rfl
theorem Qpx{D:List Int}{es:List (List Ab.D)}{p:Nat}{e:List Ab.D}{v:Int}(hes:D.map Qar=es)(he:es[p]? =some e):es.set p (List.take 0 e++([Ab.D.int .i64 v]++List.drop (0+[Ab.D.int .i64 v].length) e))=(D.set p v).map Qar:=by
 subst hes;obtain⟨x,hx,rfl⟩:=QtT he;rw[List.map_set];rfl
theorem QrV{D:List Int}{p:Nat}{i x:Int}(hx:D[p]? =some x)(hp:p=0+i.toNat):gt D i=x:=by
 subst hp;rw[Nat.zero_add]at hx;simp[gt,List.getD_eq_getElem?_getD,hx]
abbrev srH (nodes:Int) (ol ll:List (List D)) (es:List Int):Hp:=[.bx [.d (iD nodes),.d (.list false 1 ol),.d (.list false 7 ll)],.da true 0 1 (es.map Qar)]
abbrev srL (dl:List (List D)) (n:Int) (fr:Bool) (m:Nat):Lv:=[(1,.c (.d (.list false 1 dl))),(2,iA n),(3,bA fr),(4,.c (.ptr 0 0 0 0)),(10,.c (.arr 1 0 0 m))]
set_option maxHeartbeats 4000000 in
theorem Quv(P:Program)(hP:P=Tryz.prog)(t:Top)(down:List Bool)(n:Int)(fr:Bool):Ret P Qgb [QaF t,Qau down,iA n,bA fr] (.tup [Qao (QbU t down n fr).1,iA (QbU t down n fr).2]):=by
  have hfits:=QhE P hP t down;have htail:=λa=>QdI P hP t a
  have hhead:=λa=>QeH P hP t a
  have hup:=λa=>QuM P hP down a
  have htr:=λy=>QlP P hP t y n
  have hcost:=λa=>QmA P hP t a
  refine Qah (hP▸mixed) (hP▸Qj2) (hP▸QkW) (nle rfl) λΛ Λo K hK=> ?_
  clear hP;have k1:QaK t down=false->K (.tup [Qao [],iA 1]):=by
    intro h;rw[QbU,if_neg (by rw[h];decide)]at hK;exact hK
  have k2:QaK t down=true->¬(0<=n/\n<t.nodes)->K (.tup [Qao [],iA 2]):=by
    intro h h';rw[QbU,if_pos h,if_neg h']at hK;exact hK
  have k3:QaK t down=true->(0<=n/\n<t.nodes)->K (.tup [Qao (QaM t down n fr),iA 0]):=by
    intro h h';rw[QbU,if_pos h,if_pos h']at hK;exact hK
  clear hK;have hfb:QaK t down=true->Qam t=true/\(down.length=0\/down.length=2*t.links.length):=by
    intro h;simpa [QaK]using h
  have hk4:Qam t=true->∀D,IsDist t down n fr D->QaM t down n fr=D:=λhv D hD=>QfI hv hD
  have hst:=λ(h0:0<=n) (h1:n<t.nodes)=>QoE (t:=t) (down:=down) (n:=n) (fr:=fr) h0 h1
  have hxy:=λ(hv:Qam t=true) (a:Int) (h0:0<=a) (h1:a<2*t.links.length)=>QfY hv fr h0 h1
  have hlen:=λ(D:List Int) (h:Mid t down n fr D)=>h.len
  have hmd:=λ(D:List Int) (h:Mid t down n fr D)=>h.dist
  have hms:=λ(hv:Qam t=true) (D:List Int) (h:Mid t down n fr D) (a:Int)=>h.step hv (a:=a)
  have hml:=λ(hv:Qam t=true) (D:List Int) (h:Mid t down n fr D) (i:Int)=>h.le hv (i:=i)
  have hcs:=λ(hv:Qam t=true) (a:Int) (h0:0<=a) (h1:a<2*t.links.length)=>(QbB hv h0 h1).2.2.2
  have hn64:=λ(hv:Qam t=true)=>(Qai.1 hv).1
  have hl256:=λ(hv:Qam t=true)=>(Qai.1 hv).2.2.1
  have hxe:∀a,xOf t fr a=if fr then QaA t a else QaE t a:=λ_=>rfl
  have hye:∀a,yOf t fr a=if fr then QaE t a else QaA t a:=λ_=>rfl
  have hoa:∀a,QgE t down n fr a=(upB down a&&QcJ t (yOf t fr a) n):=λ_=>rfl
  have hfx:∀D a,Qpz t down n fr D a↔(QgE t down n fr a=true->0<=gt D (yOf t fr a)->0<=gt D (xOf t fr a)/\gt D (xOf t fr a)<=gt D (yOf t fr a)+Qbp t a):=λ_ _=>Iff.rfl
  generalize QaK t down=fb at*;generalize Qam t=v at*;generalize QaM t down n fr=ds at*;generalize QaE t=tt at*;generalize QaA t=ht at*;generalize Qbp t=ct at*;generalize QcJ t=tb at*;generalize upB down=ub at*;generalize xOf t fr=xo at*;generalize yOf t fr=yo at*;generalize QgE t down n fr=oa at*;generalize Qpz t down n fr=fx at*;generalize Mid t down n fr=md at*;generalize IsDist t down n fr=isd at*;simp only[Qau,Qaf]at*;generalize hdl:down.map QaY=dl at*;have hdn:Λ dl=down.length:=by rw[Λo,<-hdl];simp
  obtain⟨nodes,ov,links⟩:=t;simp only[QaF,Qaf,Qak]at*;generalize hol:ov.map QaY=ol at*;generalize hll:links.map Qaz=ll at*;have hlo:Λ ol=ov.length:=by rw[Λo,<-hol];simp
  have hls:Λ ll=links.length:=by rw[Λo,<-hll];simp
  simp only[Qao,Qax,List.map_nil]at k1 k2 k3;cases fb
  · conv=>cbv
    repeat' first|refine Qaw hfits rfl rfl ?_ ?_|(intro hc;cases hc;done)|exact gxQ|refine And.intro ?_ ?_|(intro hc;(first|rw[wS (by omega) (by omega)]at hc|rw[Qab]at hc|skip);try (conv=>cbv))
    exact k1 rfl
  obtain⟨hv,hdo⟩:=hfb rfl;subst hv;simp only[forall_const]at*
  conv=>cbv
  repeat' first|refine Qaw hfits rfl rfl ?_ ?_|(intro hc;cases hc;done)|(intro(_:Unit);refine⟨?_,?_,?_,?_⟩;omega;omega;omega;omega)|exact gxQ|refine And.intro ?_ ?_|(intro hc;(first|rw[wS (by omega) (by omega)]at hc|rw[Qab]at hc|skip);try (conv=>cbv))
  · exact k2 (by omega)
  · exact k2 (by omega)
  rename_i m0 es0 hm0;subst hc hm0;refine Qbs nodes.toNat (λ(s:Int×List Int)=>(11,iA s.1)::srL dl n fr nodes.toNat) (λs=>srH nodes ol ll s.2) (λk s=>s.1=k/\k<=nodes.toNat/\s.2=List.replicate k (-1)++List.replicate (nodes.toNat-k) 0) (0,List.replicate nodes.toNat 0)
    0 (λ(_:Unit)=>srL dl n fr nodes.toNat) (λ_=>srH nodes ol ll (List.replicate nodes.toNat (-1))) (λ_=>True) (by rw[srH,List.map_replicate];exact Wk.cw) ⟨rfl,by omega,by simp⟩ (λk s h=>h.2.1) ?_ ?_
  · rintro k ⟨i,D⟩ Q' ⟨hi,hk,hD⟩ norm jn ex rt
    simp only at hi hD;have hDl:D.length=nodes.toNat:=by rw[hD];simp;omega
    generalize hN:nodes.toNat=N at*;simp only[srH,srL];generalize hes:D.map Qar=es at*;have hesl:es.length=N:=by rw[<-hes,List.length_map];exact hDl
    conv=>cbv
    repeat' first|exact gxQ|refine And.intro ?_ ?_|(intro hc;(first|rw[wS (by omega) (by omega)]at hc|rw[Qab]at hc|skip);try (conv=>cbv))
    · rename_i p hp e hpe es' he' i'
      have hee:e=[iD 0]:=by
        rw[<-hes,gtm,hp,hD]at hpe;simp only[Nat.zero_add,hi,Int.toNat_natCast]at hpe;rw[apQ (by simp),List.getElem?_replicate]at hpe;simp only[List.length_replicate]at hpe;split at hpe
        · cases hpe;rfl
        · cases hpe
      have e2:es'=((List.replicate (k+1) (-1)++List.replicate (N-(k+1)) 0).map Qar):=by
        rw[he',hee,hp,<-hes,hD];simp only[Nat.zero_add,hi,Int.toNat_natCast];rw[show N-k=N-(k+1)+1 by omega,<-QvI,List.map_set];rfl
      subst e2;refine norm _ _ (_,_) ?_ (Wk.cw);exact⟨by simp only;omega,by omega,rfl⟩
    · have e2:es=((List.replicate N (-1)).map Qar):=by
        rw[<-hes,hD,show k=N by omega,Nat.sub_self];simp
      subst e2;refine jn _ _ () trivial (Wk.cw)
  rintro _-
  have hm0:=hst (by omega) (by omega);clear hst;generalize hN:nodes.toNat=N at*;generalize hD0:List.replicate N (-1)=D0 at*;have hD0l:D0.length=N:=by rw[<-hD0];simp
  simp only[srH,srL];generalize hes:D0.map Qar=es at*;have hesl:es.length=N:=by rw[<-hes,List.length_map];exact hD0l
  conv=>cbv
  repeat' first|exact gxQ|refine And.intro ?_ ?_|(intro hc;(first|rw[wS (by omega) (by omega)]at hc|rw[Qab]at hc|skip);try (conv=>cbv))
  rename_i p hp e hpe es1;have e1:es1=(D0.set n.toNat 0).map Qar:=by rw[hc,Qpx hes hpe,hp,Nat.zero_add]
  subst e1;clear hc hpe hes hesl es;generalize D0.set n.toNat 0=D1 at*;clear hD0 hD0l D0;refine QaT (msr D1+1) (λ(s:Bool×List Int)=>(12,bA s.1)::srL dl n fr N) (λs=>srH nodes ol ll s.2) (λk s=>md s.2/\(s.1=false->∀a:Int,0<=a->a<2*links.length->fx s.2 a)/\k+msr s.2<=msr D1+(if s.1 then 0 else 1)) (true,D1) (Wk.cw) ⟨hm0,by simp,by simp⟩ (λk s h=>by have:=h.2.2;split at this<;>omega) ?_;rintro k ⟨ch,D⟩ Q' ⟨hD,hfix,hkm⟩ normo exo rto;simp only at hD hfix hkm;simp only[srH,srL];cases ch with
  |false=>
    have hds:=hk4 D (hmd D hD (hfix rfl));have hDl:=hlen D hD;rw[hds]at k3;generalize hes:D.map Qar=es at*;have hesl:es.length=N:=by rw[<-hes,List.length_map];omega
    conv=>cbv
    repeat' first|(refine exo _ _ _ ?_;(conv=>cbv))|(refine rto _ _ ?_;(conv=>cbv))|exact gxQ|refine And.intro ?_ ?_|(intro hc;(first|rw[wS (by omega) (by omega)]at hc|rw[Qab]at hc|skip);try (conv=>cbv))
    rename_i ls;have e:ls=es:=by rw[hc,List.drop_zero,<-hesl,List.take_length]
    subst e;exact k3 (by omega)
  |true=>
    generalize hes:D.map Qar=es at*
    conv=>cbv
    repeat' first|exact gxQ|refine And.intro ?_ ?_|(intro hc;(first|rw[wS (by omega) (by omega)]at hc|rw[Qab]at hc|skip);try (conv=>cbv))
    subst hes;refine QaT (2*links.length) (λ(s:Int×Bool×List Int)=>(13,iA s.1)::(12,bA s.2.1)::srL dl n fr N) (λs=>srH nodes ol ll s.2.2) (λk s=>s.1=k/\k<=2*links.length/\md s.2.2/\(s.2.1=false->s.2.2=D/\∀a:Int,0<=a->a<k->fx D a)/\(s.2.1=true->msr s.2.2<msr D)) (0,false,D) (Wk.cw) ⟨rfl,by omega,hD,λ_=>⟨rfl,λa h0 h1=>by omega⟩,by simp⟩ (λk s h=>h.2.1) ?_;rintro k' ⟨a,ch,D'⟩ Q' ⟨ha,hk',hD',hf',ht'⟩ norm ex rt;simp only at ha hD' hf' ht';simp only[srH,srL];have hDl:=hlen D' hD';generalize hes:D'.map Qar=es at*;have hesl:es.length=N:=by rw[<-hes,List.length_map];omega
    by_cases hlt:k'<2*links.length
    · obtain⟨⟨x0,x1⟩,⟨y0,y1⟩,hne⟩:=hxy a (by omega) (by omega)
      have hxle:=hml D' hD' (xo a) x0 x1;have hyle:=hml D' hD' (yo a) y0 y1;have hcl:=hcs a (by omega) (by omega);have hxa:=hxe a;have hya:=hye a;have hra:=hoa a;have hrx:=hfx D' a;have hta:=htail a;have hha:=hhead a;have hua:=hup a (by omega);have hya2:=htr (yo a);have hca:=hcost a;have hms':=hms D' hD' a (by omega) (by omega);have hcnt:∀D2 ch2,md D2->(ch2=false->ch=false/\D2=D'/\fx D' a)->(ch2=true->ch=true/\D2=D'\/msr D2<msr D')->∀L' h' a',a'=a+1->Wk 0 L' h' ((13,iA a')::(12,bA ch2)::srL dl n fr N) (srH nodes ol ll D2)->Q' .normal L' h':=by
        intro D2 ch2 q1 q2 q3 L' h' a' q4 q5;refine norm L' h' (a',ch2,D2) ⟨by simp only;omega,by omega,q1,λhc2=> ?_,λhc2=> ?_⟩ q5
        · obtain⟨e1,e2,e3⟩:=q2 hc2
          obtain⟨e4,e5⟩:=hf' e1;subst e2;refine⟨e4,λb b0 b1=> ?_⟩;rcases Int.lt_or_le b k' with h|h
          · exact e5 b b0 h
          · obtain rfl:b=a:=by omega
            rw[<-e4];exact e3
        · have hmm:msr D'<=msr D:=by
            cases ch
            · rw[(hf' rfl).1];exact Nat.le_refl _
            · exact Nat.le_of_lt (ht' rfl)
          rcases q3 hc2 with ⟨e1,e2⟩|e1
          · rw[e2];exact ht' e1
          · simp only;omega
      clear norm hf' ht' hfx hoa hxe hye htail hhead hup htr hcost hms hml hcs normo exo rto hxy hmd hlen;cases fr
      · simp only[Bool.false_eq_true,if_false]at hxa hya
        rw[<-hxa]at hta;rw[<-hya]at hha;generalize xo a=X at*;generalize yo a=Y at*;generalize ct a=C at*
        conv=>cbv
        repeat' first|(refine ex _ _ _ ?_;(conv=>cbv))|(refine rt _ _ ?_;(conv=>cbv))|(intro e he;obtain⟨x,hx,rfl⟩:=Qbc hes he;have hgY:=QrV (i:=Y) hx;have hgX:=QrV (i:=X) hx;(conv=>cbv))|(refine Qag hta rfl rfl ?_;conv=>cbv)|(refine Qag hha rfl rfl ?_;conv=>cbv)|refine Qaw hua rfl rfl ?_ ?_|refine Qaw hya2 rfl rfl ?_ ?_|(refine Qag hca rfl rfl ?_;conv=>cbv)|exact gxQ|refine And.intro ?_ ?_|(intro hc;(first|rw[wS (by omega) (by omega)]at hc|rw[Qab]at hc|skip);try (conv=>cbv))
        all_goals clear hta hha hua hya2 hca
        all_goals first
          |(refine hcnt D' ch hD' (λh=>⟨h,rfl,hrx.2 λho hy=> ?_⟩) (λh=> .inl ⟨h,rfl⟩) _ _ _ hc (by subst hes;exact Wk.cw)
            first
            |(exfalso;omega)
            |(exact⟨by omega,by omega⟩)
            |(exfalso;rw[hra]at ho;simp_all;done))
          |(rename_i es' hes' _
            have hoa:oa a=true:=by rw[hra,‹ub a=true›,‹tb Y n=true›];rfl
            have hst:=hms' hoa (by omega) (by omega);have e3:es'=(D'.set X.toNat (gt D' Y+C)).map Qar:=by
              refine hes'.trans ((Qpx hes he).trans ?_)
              congr 1
              congr 1<;>omega
            subst e3;exact hcnt _ true hst.1 (by simp) (λ_=> .inr hst.2) _ _ _ hc (Wk.cw))
          |trace_state
      · simp only[if_true]at hxa hya
        rw[<-hya]at hta;rw[<-hxa]at hha;generalize xo a=X at*;generalize yo a=Y at*;generalize ct a=C at*
        conv=>cbv
        repeat' first|(refine ex _ _ _ ?_;(conv=>cbv))|(refine rt _ _ ?_;(conv=>cbv))|(intro e he;obtain⟨x,hx,rfl⟩:=Qbc hes he;have hgY:=QrV (i:=Y) hx;have hgX:=QrV (i:=X) hx;(conv=>cbv))|(refine Qag hta rfl rfl ?_;conv=>cbv)|(refine Qag hha rfl rfl ?_;conv=>cbv)|refine Qaw hua rfl rfl ?_ ?_|refine Qaw hya2 rfl rfl ?_ ?_|(refine Qag hca rfl rfl ?_;conv=>cbv)|exact gxQ|refine And.intro ?_ ?_|(intro hc;(first|rw[wS (by omega) (by omega)]at hc|rw[Qab]at hc|skip);try (conv=>cbv))
        all_goals clear hta hha hua hya2 hca
        all_goals first
          |(refine hcnt D' ch hD' (λh=>⟨h,rfl,hrx.2 λho hy=> ?_⟩) (λh=> .inl ⟨h,rfl⟩) _ _ _ hc (by subst hes;exact Wk.cw)
            first
            |(exfalso;omega)
            |(exact⟨by omega,by omega⟩)
            |(exfalso;rw[hra]at ho;simp_all;done))
          |(rename_i es' hes' _
            have hoa:oa a=true:=by rw[hra,‹ub a=true›,‹tb Y n=true›];rfl
            have hst:=hms' hoa (by omega) (by omega);have e3:es'=(D'.set X.toNat (gt D' Y+C)).map Qar:=by
              refine hes'.trans ((Qpx hes he).trans ?_)
              congr 1
              congr 1<;>omega
            subst e3;exact hcnt _ true hst.1 (by simp) (λ_=> .inr hst.2) _ _ _ hc (Wk.cw))
          |trace_state
    · conv=>cbv
      repeat' first|(refine ex _ _ _ ?_;(conv=>cbv))|(refine rt _ _ ?_;(conv=>cbv))|exact gxQ|refine And.intro ?_ ?_|(intro hc;(first|rw[wS (by omega) (by omega)]at hc|rw[Qab]at hc|skip);try (conv=>cbv))
      subst hes;refine normo _ _ (_,_) ?_ (Wk.cw);simp only;simp only[if_true,Nat.add_zero]at hkm;cases ch
      · obtain⟨h1,h2⟩:=hf' rfl
        subst h1;exact⟨hD',λ_ b b0 b1=>h2 b b0 (by omega),by simp only[Bool.false_eq_true,if_false];omega⟩
      · have:=ht' rfl
        exact⟨hD',by simp,by simp only[if_true];omega⟩
theorem QmE(P:Program)(hP:P=Tryz.prog)(t:Top)(down:List Bool)(n:Int):Ret P Qid [QaF t,Qau down,iA n] (.tup [Qao (QbU t down n false).1,iA (QbU t down n false).2]):=by
 have hs:=Quv P hP t down n false;refine Qah (hP▸mixed) (hP▸QmU) (hP▸QnU) (nle rfl) λΛ Λo K hK=> ?_
 clear hP;generalize QbU t down n false=r at*;obtain⟨D,e⟩:=r;simp only[Qao,Qax,Qau,Qaf]at*;generalize D.map Qar=Dl at*;generalize down.map QaY=dl at*;obtain⟨nodes,ov,links⟩:=t;simp only[QaF,Qaf,Qak]at*;generalize hol:ov.map QaY=ol at*;generalize hll:links.map Qaz=ll at*;have hlo:Λ ol=ov.length:=by rw[Λo,<-hol];simp
 have hls:Λ ll=links.length:=by rw[Λo,<-hll];simp
 conv=>cbv
 repeat' first|(refine Qag hs rfl rfl ?_;conv=>cbv)|exact gxQ|refine And.intro ?_ ?_|(intro hc;(first|rw[wS (by omega) (by omega)]at hc|rw[Qab]at hc|skip);try (conv=>cbv))
 exact hK
def onB(t:Top)(down:List Bool)(D:List Int)(a d:Int):Bool:=
 upB down a&& !decide (QaE t a=d)&&decide (0<=gt D (QaA t a))&&QcJ t (QaA t a) d&&decide (gt D (QaE t a)=gt D (QaA t a)+Qbp t a)
set_option maxHeartbeats 1000000 in
theorem QAB(P:Program)(hP:P=Tryz.prog)(t:Top)(down:List Bool)(D:List Int)(a d:Int)(hv:Qam t=true)(hd:down.length=0\/down.length=2*t.links.length)(h0:0<=a)(h1:a<2*t.links.length)(hl:(D.length:Int)=t.nodes)
 (hb:∀i,0<=i->i<t.nodes-> -1<=gt D i/\gt D i<=4194240):Ret P Qly [QaF t,Qau down,Qao D,iA a,iA d] (bA (onB t down D a d)):=by
 have hta:=QdI P hP t a;have hha:=QeH P hP t a;have hua:=QuM P hP down a (by omega);have htr:=QlP P hP t (QaA t a) d;have hca:=QmA P hP t a;refine Qah (hP▸mixed) (hP▸QpB) (hP▸Qry) (nle rfl) λΛ Λo K hK=> ?_
 clear hP;have leaf:∀b,onB t down D a d=b->K (bA b):=λb hb=>by rw[<-hb];exact hK
 have hr:onB t down D a d=(upB down a&& !decide (QaE t a=d)&&decide (0<=gt D (QaA t a))&&QcJ t (QaA t a) d&&decide (gt D (QaE t a)=gt D (QaA t a)+Qbp t a)):=rfl;clear hK;obtain⟨⟨x0,x1⟩,⟨y0,y1⟩,hne,c0,c1⟩:=QbB hv h0 h1;have hbx:=hb _ x0 x1;have hby:=hb _ y0 y1;generalize onB t down D a d=r at*;generalize QaE t a=X at*;generalize QaA t a=Y at*;generalize Qbp t a=C at*;generalize QcJ t Y d=tb at*;generalize upB down a=ub at*;simp only[Qao,Qax,Qau,Qaf]at*;generalize hes:D.map Qar=es at*;have hesn:Λ es=D.length:=by rw[Λo,<-hes];simp
 generalize hdl:down.map QaY=dl at*;obtain⟨nodes,ov,links⟩:=t;simp only[QaF,Qaf,Qak]at*;generalize hol:ov.map QaY=ol at*;generalize hll:links.map Qaz=ll at*;have hlo:Λ ol=ov.length:=by rw[Λo,<-hol];simp
 have hls:Λ ll=links.length:=by rw[Λo,<-hll];simp
 conv=>cbv
 repeat' first|(intro e he;obtain⟨x,hx,rfl⟩:=Qbc hes he;have hgY:=QrV (i:=Y) hx;have hgX:=QrV (i:=X) hx;(conv=>cbv))|(refine Qag hta rfl rfl ?_;conv=>cbv)|(refine Qag hha rfl rfl ?_;conv=>cbv)|refine Qaw hua rfl rfl ?_ ?_|refine Qaw htr rfl rfl ?_ ?_|(refine Qag hca rfl rfl ?_;conv=>cbv)|exact gxQ|refine And.intro ?_ ?_|(intro hc;(first|rw[wS (by omega) (by omega)]at hc|rw[Qab]at hc|skip);try (conv=>cbv))
 all_goals clear hta hha hua htr hca
 ·refine leaf _ (hr.trans ?_);rw[‹ub=true›,‹tb=true›,decide_eq_false (p:=X=d) (by assumption),decide_eq_true (p:=0<=gt D Y) (by omega),decide_eq_true (p:=gt D X=gt D Y+C) (by omega)];rfl
 ·refine leaf _ (hr.trans ?_);rw[decide_eq_false (p:=gt D X=gt D Y+C) (by omega)];simp
 ·refine leaf _ (hr.trans ?_);rw[hc];simp
 ·refine leaf _ (hr.trans ?_);rw[decide_eq_false (p:=0<=gt D Y) (by omega)];simp
 ·refine leaf _ (hr.trans ?_);rw[decide_eq_true hc];simp
 ·refine leaf _ (hr.trans ?_);rw[hc];simp
def QcD(t:Top)(down:List Bool)(D:List Int)(n d:Int):List Int:=(QaS (2*t.links.length)).filter λa=>decide (QaE t a=n)&&onB t down D a d
set_option maxHeartbeats 1000000 in
theorem Qq4(P:Program)(hP:P=Tryz.prog)(t:Top)(down:List Bool)(D:List Int)(n d:Int)(hv:Qam t=true)(hd:down.length=0\/down.length=2*t.links.length)(hl:(D.length:Int)=t.nodes)
 (hb:∀i,0<=i->i<t.nodes-> -1<=gt D i/\gt D i<=4194240):Ret P Qig [QaF t,Qau down,Qao D,iA n,iA d] (Qao (QcD t down D n d)):=by
 have ht:=QdI P hP t;have hon:=λa h0 h1=>QAB P hP t down D a d hv hd h0 h1 hl hb
 refine Qah (hP▸mixed) (hP▸QmY) (hP▸QnY) (nle rfl) λΛ Λo K hK=> ?_
 clear hP;have hl256:=(Qai.1 hv).2.2.1;have ho:QcD t down D n d=(QaS (2*t.links.length)).filter λa=>decide (QaE t a=n)&&onB t down D a d:=rfl
 rw[ho]at hK;clear ho;generalize hf:QaE t=f at*;obtain⟨g,hg⟩:∃g:Int->Bool,∀a,onB t down D a d=g a:=⟨_,λ_=>rfl⟩;simp only[hg]at hon hK;clear hg;simp only[Qao,Qax,Qau,Qaf]at*;generalize D.map Qar=es at*;generalize down.map QaY=dl at*;obtain⟨nodes,ov,links⟩:=t;simp only[QaF,Qaf,Qak]at*;generalize hol:ov.map QaY=ol at*;generalize hll:links.map Qaz=ll at*;have hlo:Λ ol=ov.length:=by rw[Λo,<-hol];simp
 have hls:Λ ll=links.length:=by rw[Λo,<-hll];simp
 generalize hv2:2*links.length=v at*
 conv=>cbv
 repeat' first|exact gxQ|refine And.intro ?_ ?_|(intro hc;(first|rw[wS (by omega) (by omega)]at hc|rw[Qab]at hc|skip);try (conv=>cbv))
 refine QaT v (λ(s:Int×Nat×Nat×Bool×List (List Ab.D))=>[(1,.c (.d (.list false 1 dl))),(2,.c (.d (.list false 1 es))),(3,iA n),(4,iA d),(5,.c (.ptr 0 0 0 0)),(11,.c (.arr 1 s.2.1 0 s.2.2.1)),(12,iA s.1)]) (λs=>[.bx [.d (.int .i64 nodes),.d (.list false 1 ol),.d (.list false 7 ll)],.da s.2.2.2.1 s.2.1 1 s.2.2.2.2])
  (λk s=>s.1=k/\k<=v/\s.2.2.1=s.2.2.2.2.length/\s.2.2.2.2=(((QaS k).filter λa=>decide (f a=n)&&g a).map Qar)) (0,0,0,false,[]) (.trans (.nilS 11 1 rfl) (Wk.cw)) ⟨rfl,by omega,rfl,rfl⟩ (λk s h=>h.2.1) ?_
 rintro k ⟨i,ve,m,r,es'⟩ Q' ⟨hi,hk,hm,hes⟩ norm ex rt;simp only at hi hm hes;have hesl:es'.length<=k:=by
  rw[hes,List.length_map];refine Nat.le_trans (List.length_filter_le _ _) ?_;simp[QaS]
 conv=>cbv
 repeat' first|(refine ex _ _ _ ?_;(conv=>cbv))|(refine rt _ _ ?_;(conv=>cbv))|refine Qc6 (ht _) rfl rfl ?_|refine Qaw (hon _ (by omega) (by omega)) rfl rfl ?_ ?_|(intro(_:Unit);refine⟨rfl,?_⟩;simp only[List.length_cons,List.length_nil];omega)|exact gxQ|refine And.intro ?_ ?_|(intro hc;(first|rw[wS (by omega) (by omega)]at hc|rw[Qab]at hc|skip);try (conv=>cbv))
 ·rename_i hfi hn hgi m' r' es2 hm' hr' he' i';refine norm _ _ (_,_,_,_,_) ?_ (Wk.cw);have e:es2=((QaS (k+1)).filter λa=>decide (f a=n)&&g a).map Qar:=by
   rw[he',List.drop_zero,hm,List.take_length,hes,Qcl,List.filter_append,List.map_append];rw[<-hi,List.filter_cons_of_pos (by rw[hgi,decide_eq_true (by omega)];rfl)];rfl
  exact⟨by simp only;omega,by omega,by simp only;rw[hm',he',List.drop_zero,hm,List.take_length];simp,e⟩
 ·rename_i hfi hn hgi i';refine norm _ _ (_,_,_,_,_) ?_ (Wk.cw);have e:es'=((QaS (k+1)).filter λa=>decide (f a=n)&&g a).map Qar:=by
   rw[hes,Qcl,List.filter_append,List.map_append];rw[<-hi,List.filter_cons_of_neg (by rw[hgi];simp)];simp
  exact⟨by simp only;omega,by omega,hm,e⟩
 ·rename_i hfi hn i';refine norm _ _ (_,_,_,_,_) ?_ (Wk.cw);have e:es'=((QaS (k+1)).filter λa=>decide (f a=n)&&g a).map Qar:=by
   rw[hes,Qcl,List.filter_append,List.map_append];rw[<-hi,List.filter_cons_of_neg (by rw[decide_eq_false (by omega)];simp)];simp
  exact⟨by simp only;omega,by omega,hm,e⟩
 ·rename_i ls;have e:ls=((QaS v).filter λa=>decide (f a=n)&&g a).map Qar:=by
   rw[hc,List.drop_zero,hm,List.take_length,hes,show k=v by omega]
  subst e;exact hK
theorem Qys{t:Top}(hv:Qam t=true){down:List Bool}{e:Int}{fr:Bool}:∀(m:Nat) (D:List Int),msr D=m->Mid t down e fr D->∃D',Mid t down e fr D'/\∀a:Int,0<=a->a<2*t.links.length->Qpz t down e fr D' a:=by
 intro m;induction m using Nat.strongRecOn with
 |_ m ih=>
  intro D hm hD;by_cases h:∀a:Int,0<=a->a<2*t.links.length->Qpz t down e fr D a
  ·exact⟨D,hD,h⟩
  ·simp only[Classical.not_forall]at h;obtain⟨a,a0,a1,ha⟩:=h;simp only[Qpz,Classical.not_forall]at ha;obtain⟨ho,hy,hn⟩:=ha;obtain⟨s1,s2⟩:=hD.step hv a0 a1 ho hy (by omega);exact ih _ (by omega) _ rfl s1
theorem QbZ{t:Top}(hv:Qam t=true)(down:List Bool){n:Int}(fr:Bool)(h0:0<=n)(h1:n<t.nodes):IsDist t down n fr (QaM t down n fr)/\∀i,0<=i->i<t.nodes-> -1<=gt (QaM t down n fr) i/\gt (QaM t down n fr) i<=4194240:=by
 obtain⟨D,hD,hf⟩:=Qys hv _ _ rfl (QoE (t:=t) (down:=down) (n:=n) (fr:=fr) h0 h1);have hd:=hD.dist hf;rw[QfI hv hd];exact⟨hd,λi i0 i1=>⟨hd.lo i i0 i1,hD.le hv i0 i1⟩⟩
noncomputable def QhT(t:Top)(down:List Bool)(n d:Int):List Int×Int:=
 if QaK t down=true then (if 0<=d/\d<t.nodes then (if 0<=n/\n<t.nodes then (QcD t down (QaM t down d false) n d,0)else ([],2))else ([],2))else ([],1)
theorem Qt3(P:Program)(hP:P=Tryz.prog)(t:Top)(down:List Bool)(n d:Int):Ret P Qif [QaF t,Qau down,iA n,iA d] (.tup [Qao (QhT t down n d).1,iA (QhT t down n d).2]):=by
 have hs:=QmE P hP t down d;have hfb:QaK t down=true->Qam t=true/\(down.length=0\/down.length=2*t.links.length):=by
  intro h;simpa [QaK]using h
 have hn:=λ(hf:QaK t down=true) (h:0<=d/\d<t.nodes)=>Qq4 P hP t down (QaM t down d false) n d (hfb hf).1 (hfb hf).2 (QbZ (hfb hf).1 down false h.1 h.2).1.len (QbZ (hfb hf).1 down false h.1 h.2).2
 refine Qah (hP▸mixed) (hP▸QmX) (hP▸QnX) (nle rfl) λΛ Λo K hK=> ?_
 clear hP hfb;have hsr:QbU t down d false=if QaK t down=true then (if 0<=d/\d<t.nodes then (QaM t down d false,0)else ([],2))else ([],1):=rfl
 have hnr:QhT t down n d=if QaK t down=true then (if 0<=d/\d<t.nodes then (if 0<=n/\n<t.nodes then (QcD t down (QaM t down d false) n d,0)else ([],2))else ([],2))else ([],1):=rfl
 generalize QbU t down d false=sr at*;generalize QhT t down n d=nr at*;generalize QcD t down (QaM t down d false) n d=nl at*;generalize QaM t down d false=ds at*;by_cases hf:QaK t down=true
 ·rw[if_pos hf]at hsr hnr;by_cases hd:0<=d/\d<t.nodes
  ·rw[if_pos hd]at hsr hnr;have hn:=hn hf hd;subst hsr;have k1:¬(0<=n/\n<t.nodes)->K (.tup [Qao [],iA 2]):=by intro h;rw[hnr,if_neg h]at hK;exact hK
   have k2:(0<=n/\n<t.nodes)->K (.tup [Qao nl,iA 0]):=by intro h;rw[hnr,if_pos h]at hK;exact hK
   clear hK hnr;simp only[Qao,Qax,Qau,Qaf,List.map_nil]at*;generalize nl.map Qar=nl' at*;generalize ds.map Qar=ds' at*;generalize down.map QaY=dl at*;obtain⟨nodes,ov,links⟩:=t;simp only[QaF,Qaf,Qak]at*;generalize hol:ov.map QaY=ol at*;generalize hll:links.map Qaz=ll at*;have hlo:Λ ol=ov.length:=by rw[Λo,<-hol];simp
   have hls:Λ ll=links.length:=by rw[Λo,<-hll];simp
   conv=>cbv
   repeat' first|(refine Qag hs rfl rfl ?_;conv=>cbv)|(refine Qag hn rfl rfl ?_;conv=>cbv)|exact gxQ|refine And.intro ?_ ?_|(intro hc;(first|rw[wS (by omega) (by omega)]at hc|rw[Qab]at hc|skip);try (conv=>cbv))
   ·exact k1 (by omega)
   ·exact k1 (by omega)
   ·exact k2 (by omega)
  ·rw[if_neg hd]at hsr hnr;subst hsr hnr;simp only[Qao,Qax,Qau,Qaf,List.map_nil]at*;generalize down.map QaY=dl at*;obtain⟨nodes,ov,links⟩:=t;simp only[QaF,Qaf,Qak]at*;generalize hol:ov.map QaY=ol at*;generalize hll:links.map Qaz=ll at*;have hlo:Λ ol=ov.length:=by rw[Λo,<-hol];simp
   have hls:Λ ll=links.length:=by rw[Λo,<-hll];simp
   conv=>cbv
   repeat' first|(refine Qag hs rfl rfl ?_;conv=>cbv)|exact gxQ|refine And.intro ?_ ?_|(intro hc;(first|rw[wS (by omega) (by omega)]at hc|rw[Qab]at hc|skip);try (conv=>cbv))
   exact hK
 ·rw[if_neg hf]at hsr hnr;subst hsr hnr;simp only[Qao,Qax,Qau,Qaf,List.map_nil]at*;generalize down.map QaY=dl at*;obtain⟨nodes,ov,links⟩:=t;simp only[QaF,Qaf,Qak]at*;generalize hol:ov.map QaY=ol at*;generalize hll:links.map Qaz=ll at*;have hlo:Λ ol=ov.length:=by rw[Λo,<-hol];simp
  have hls:Λ ll=links.length:=by rw[Λo,<-hll];simp
  conv=>cbv
  repeat' first|(refine Qag hs rfl rfl ?_;conv=>cbv)|exact gxQ|refine And.intro ?_ ?_|(intro hc;(first|rw[wS (by omega) (by omega)]at hc|rw[Qab]at hc|skip);try (conv=>cbv))
  exact hK
noncomputable def toL(t:Top)(down:List Bool)(n:Int)(k:Nat):List Ety:=(QaS k).map λd=>⟨(QhT t down n d).1,false,[]⟩
def QiQ(t:Top)(down:List Bool)(n:Int):List Int:=(Qlg t n).filter λa=> !upB down a
noncomputable def QbT(t:Top)(down:List Bool)(n:Int):Tab×Int:=
 if QaK t down=true then (if 0<=n/\n<t.nodes then (⟨n,toL t down n t.nodes.toNat,QiQ t down n⟩,0)else (⟨0,[],[]⟩,2))else (⟨0,[],[]⟩,1)
set_option maxHeartbeats 2000000 in
theorem Qun(P:Program)(hP:P=Tryz.prog)(t:Top)(down:List Bool)(n:Int):Ret P Qc0 [QaF t,Qau down,iA n] (.tup [Qjc (QbT t down n).1,iA (QbT t down n).2]):=by
 have hfits:=QhE P hP t down;have hnext:=λd=>Qt3 P hP t down n d
 have hout:=Qxp P hP t n;have hup:=λa=>QuM P hP down a
 refine Qah (hP▸mixed) (hP▸Qfi) (hP▸Qf3) (nle rfl) λΛ Λo K hK=> ?_
 clear hP;have k1:QaK t down=false->K (.tup [Qjc ⟨0,[],[]⟩,iA 1]):=by
  intro h;rw[QbT,if_neg (by rw[h];decide)]at hK;exact hK
 have k2:QaK t down=true->¬(0<=n/\n<t.nodes)->K (.tup [Qjc ⟨0,[],[]⟩,iA 2]):=by
  intro h h';rw[QbT,if_pos h,if_neg h']at hK;exact hK
 have k3:QaK t down=true->(0<=n/\n<t.nodes)->K (.tup [Qjc ⟨n,toL t down n t.nodes.toNat,QiQ t down n⟩,iA 0]):=by
  intro h h';rw[QbT,if_pos h,if_pos h']at hK;exact hK
 clear hK;have hfb:QaK t down=true->Qam t=true/\(down.length=0\/down.length=2*t.links.length):=by
  intro h;simpa [QaK]using h
 have hn64:=λ(hv:Qam t=true)=>(Qai.1 hv).1
 have hor:Qam t=true->∀a∈Qlg t n,0<=a/\a<2*t.links.length:=by
  intro hv a ha;have h2:Qbo t=2*t.links.length:=by rw[Qbo,if_pos hv]
  simp only[Qlg,List.mem_filter,QaS,List.mem_map,List.mem_range]at ha;obtain⟨⟨k,hk,rfl⟩,_⟩:=ha;omega
 have hol':(Qlg t n).length<=512:=by
  rw[Qlg];refine Nat.le_trans (List.length_filter_le _ _) ?_;have:=(QdQ t).2.1;simp only[QaS,List.length_map,List.length_range];omega
 have hts:∀k,toL t down n (k+1)=toL t down n k++[⟨(QhT t down n k).1,false,[]⟩]:=by
  intro k;simp[toL,Qcl]
 have ht0:toL t down n 0=[]:=rfl;have htn:∀k,(toL t down n k).length=k:=by intro k;simp[toL,QaS]
 have hdl':QiQ t down n=(Qlg t n).filter λa=> !upB down a:=rfl
 generalize QaK t down=fb at*;generalize Qam t=v at*;generalize toL t down n=tol at*;generalize QiQ t down n=dol at*;generalize upB down=ub at*;generalize QhT t down n=nx at*;generalize Qlg t n=ou at*;simp only[Qau,Qaf]at*;generalize hdl:down.map QaY=dl at*;obtain⟨nodes,ov,links⟩:=t;simp only[QaF,Qaf,Qak]at*;generalize hol:ov.map QaY=ol at*;generalize hll:links.map Qaz=ll at*;have hlo:Λ ol=ov.length:=by rw[Λo,<-hol];simp
 have hls:Λ ll=links.length:=by rw[Λo,<-hll];simp
 simp only[Qjc,Qao,Qax,Qfa,List.map_nil]at*;cases fb
 ·conv=>cbv
  repeat' first|refine Qaw hfits rfl rfl ?_ ?_|(intro hc;cases hc;done)|exact gxQ|refine And.intro ?_ ?_|(intro hc;(first|rw[wS (by omega) (by omega)]at hc|rw[Qab]at hc|skip);try (conv=>cbv))
  exact k1 rfl
 obtain⟨hv,hdo⟩:=hfb rfl;subst hv;simp only[forall_const]at*
 conv=>cbv
 repeat' first|refine Qaw hfits rfl rfl ?_ ?_|(intro hc;cases hc;done)|exact gxQ|refine And.intro ?_ ?_|(intro hc;(first|rw[wS (by omega) (by omega)]at hc|rw[Qab]at hc|skip);try (conv=>cbv))
 ·exact k2 (by omega)
 ·exact k2 (by omega)
 have k3:=k3 (by omega);clear k1 k2 hfits hfb;refine Qbs nodes.toNat (λ(s:Int×Nat×Nat×Bool×List (List D))=>[(1,.c (.d (.list false 1 dl))),(2,iA n),(3,.c (.ptr 0 0 0 0)),(6,.c (.ptr 1 0 0 0)),(8,.c (.ptr 2 0 0 0)),(9,iA s.1)])
  (λs=>[.bx [.d (iD nodes),.d (.list false 1 ol),.d (.list false 7 ll)],.bx [.d (iD 0),.d (.list true 3 []),.d (.list true 1 [])],.bx [.d (iD n),.arr 3 s.2.1 0 s.2.2.1,.d (.list true 1 [])],.da s.2.2.2.1 s.2.1 3 s.2.2.2.2])
  (λk s=>s.1=k/\k<=nodes.toNat/\s.2.2.1=s.2.2.2.2.length/\s.2.2.2.2=(tol k).map Qay/\s.2.2.1=k) (0,0,0,false,[])
  0 (λ(s:Nat×Bool)=>[(1,.c (.d (.list false 1 dl))),(2,iA n),(3,.c (.ptr 0 0 0 0)),(6,.c (.ptr 1 0 0 0)),(8,.c (.ptr 2 0 0 0))])
  (λs=>[.bx [.d (iD nodes),.d (.list false 1 ol),.d (.list false 7 ll)],.bx [.d (iD 0),.d (.list true 3 []),.d (.list true 1 [])],.bx [.d (iD n),.arr 3 s.1 0 nodes.toNat,.d (.list true 1 [])],.da s.2 s.1 3 ((tol nodes.toNat).map Qay)]) (λ_=>True)
  (.trans (.nilB 2 1 3 _ rfl rfl) (Wk.cw)) ⟨rfl,by omega,rfl,by rw[ht0];rfl,rfl⟩ (λk s h=>h.2.1) ?_ ?_
 ·rintro k ⟨d,ve,m,r,es⟩ Q' ⟨hi,hk,hm,hes,hmk⟩ norm jn ex rt;simp only at hi hm hes hmk;have hnx:=hnext d;have hts:=hts k;rw[<-hi]at hts;generalize nx d=nd at*;obtain⟨nl,ne⟩:=nd;simp only at hnx hts;generalize hnl:nl.map Qar=nll at*;by_cases hlt:k<nodes.toNat
  ·conv=>cbv
   repeat' first|(refine ex _ _ _ ?_;(conv=>cbv))|(refine Qag hnx rfl rfl ?_;conv=>cbv)|(intro(_:Unit);refine⟨rfl,?_⟩;simp only[List.length_cons,List.length_nil];omega)|exact gxQ|refine And.intro ?_ ?_|(intro hc;(first|rw[wS (by omega) (by omega)]at hc|rw[Qab]at hc|skip);try (conv=>cbv))
   rename_i m' r' es2 hm' hr' he' i';refine norm _ _ (_,_,_,_,_) ?_ (Wk.cw);have e:es2=(tol (k+1)).map Qay:=by
    rw[he',List.drop_zero,hm,List.take_length,hes,hts,List.map_append];simp only[List.map_cons,List.map_nil,Qay,Qax,QaZ,hnl]
   exact⟨by simp only;omega,by omega,by simp only;rw[hm',he',List.drop_zero,hm,List.take_length];simp,e,by simp only;rw[hm'];simp;omega⟩
  ·conv=>cbv
   repeat' first|exact gxQ|refine And.intro ?_ ?_|(intro hc;(first|rw[wS (by omega) (by omega)]at hc|rw[Qab]at hc|skip);try (conv=>cbv))
   have e:k=nodes.toNat:=by omega
   subst e;subst hes hmk;refine jn _ _ (_,_) trivial (Wk.cw)
 rintro⟨ve,r⟩-
 generalize hN:nodes.toNat=N at*;generalize hTl:(tol N).map Qay=tl at*;generalize oeh:ou.map Qar=oe at*;have hon:Λ oe=ou.length:=by rw[Λo,<-oeh];simp
 conv=>cbv
 repeat' first|(refine Qag hout rfl rfl ?_;conv=>cbv)|exact gxQ|refine And.intro ?_ ?_|(intro hc;(first|rw[wS (by omega) (by omega)]at hc|rw[Qab]at hc|skip);try (conv=>cbv))
 have htl:tl.length=N:=by rw[<-hTl,List.length_map];exact htn N
 refine QaT ou.length (λ(s:Int×Nat×Nat×Bool×List (List D))=>[(1,.c (.d (.list false 1 dl))),(6,.c (.ptr 1 0 0 0)),(8,.c (.ptr 2 0 0 0)),(12,.c (.d (.list false 1 oe))),(13,iA s.1)])
  (λs=>[.bx [.d (iD nodes),.d (.list false 1 ol),.d (.list false 7 ll)],.bx [.d (iD 0),.d (.list true 3 []),.d (.list true 1 [])],.bx [.d (iD n),.arr 3 ve 0 N,.arr 4 s.2.1 0 s.2.2.1],.da r ve 3 tl,.da s.2.2.2.1 s.2.1 1 s.2.2.2.2])
  (λk s=>s.1=k/\k<=ou.length/\s.2.2.1=s.2.2.2.2.length/\s.2.2.2.2=((ou.take k).filter λa=> !ub a).map Qar) (0,0,0,false,[])
  (.trans (.nilB 2 2 1 _ rfl rfl) (Wk.cw)) ⟨rfl,by omega,rfl,rfl⟩ (λk s h=>h.2.1) ?_
 rintro k ⟨i,v2,m,r2,es⟩ Q' ⟨hi,hk,hm,hes⟩ norm ex rt;simp only at hi hm hes;have hesl:es.length<=k:=by
  rw[hes,List.length_map];refine Nat.le_trans (List.length_filter_le _ _) ?_;simp;omega
 by_cases hlt:k<ou.length
 ·obtain⟨x,hx⟩:∃x,ou[k]? =some x:=⟨_,lgE hlt⟩;have hxa:=QdS oeh hi hx;have hxr:=hor x (mgE hx);have hux:=hup x (by omega);simp only[Qar]at hxa;generalize hubx:ub x=u at*
  conv=>cbv
  repeat' first|(refine ex _ _ _ ?_;(conv=>cbv))|(refine rt _ _ ?_;(conv=>cbv))|(intro e he;cases osj (he.symm.trans hxa);(conv=>cbv))|refine Qaw hux rfl rfl ?_ ?_|(intro(_:Unit);refine⟨rfl,?_⟩;simp only[List.length_cons,List.length_nil];omega)|exact gxQ|refine And.intro ?_ ?_|(intro hc;(first|rw[wS (by omega) (by omega)]at hc|rw[Qab]at hc|skip);try (conv=>cbv))
  ·refine norm _ _ (_,_,_,_,_) ?_ (Wk.cw);have e:es=((ou.take (k+1)).filter λa=> !ub a).map Qar:=by
    rw[Qal hx,List.filter_append,List.map_append,<-hes,List.filter_cons_of_neg (by rw[hubx];simp_all)];simp
   exact⟨by simp only;omega,by omega,hm,e⟩
  ·rename_i m' r' es2 hm' hr' he' i';refine norm _ _ (_,_,_,_,_) ?_ (Wk.cw);have e:es2=((ou.take (k+1)).filter λa=> !ub a).map Qar:=by
    rw[he',List.drop_zero,hm,List.take_length,Qal hx,List.filter_append,List.map_append,<-hes,List.filter_cons_of_pos (by rw[hubx];simp_all)];rfl
   exact⟨by simp only;omega,by omega,by simp only;rw[hm',he',List.drop_zero,hm,List.take_length];simp,e⟩
 ·conv=>cbv
  repeat' first|(refine ex _ _ _ ?_;(conv=>cbv))|(refine rt _ _ ?_;(conv=>cbv))|exact gxQ|refine And.intro ?_ ?_|(intro hc;(first|rw[wS (by omega) (by omega)]at hc|rw[Qab]at hc|skip);try (conv=>cbv))
  rename_i l1 h1 l2;have e1:l1=tl:=by rw[h1,List.drop_zero,<-htl,List.take_length]
  have e2:l2=dol.map Qar:=by rw[hc,List.drop_zero,hm,List.take_length,hes,hdl',tkQ (by omega)]
  subst e1 e2;exact k3
end Go.Ab
