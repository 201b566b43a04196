/-
  Merged texts, part n.
-/
import Derived.Test.YtohbofilgkdihaaGreatDoorZm
set_option linter.all false
namespace Go.Ab
open Go.Proofs
noncomputable def Qd5(t:Top)(down:List Bool)(n:Int)(fr:Bool):List Int×Int:=
 if QcN t down=true then (if 0<=n/\n<t.nodes then (Qec t down n fr,0)else ([],2))else ([],1)
theorem Qov{t:Top}{down:List Bool}{n:Int}{fr:Bool}(h0:0<=n)(h1:n<t.nodes):Mid t down n fr ((List.replicate t.nodes.toNat (-1)).set n.toNat 0):=by
 have hl:n<(List.replicate t.nodes.toNat (-1:Int)).length:=by simp;omega
 have hg:∀j,0<=j->j<t.nodes->gt ((List.replicate t.nodes.toNat (-1)).set n.toNat 0) j=if j=n then 0 else -1:=by
  intro j j0 j1;rw[Qts h0 hl j0];split
  ·rfl
  ·simp only[gt,List.getD_eq_getElem?_getD,List.getElem?_replicate];split<;>rfl
 refine⟨by simp;omega,by rw[hg n h0 h1,if_pos rfl],fun i i0 i1=> ?_,fun i i0 i1=> ?_,fun x x0 x1 hx hd=> ?_⟩
 ·rw[hg i i0 i1];split<;>omega
 ·rw[hg i i0 i1];split<;>omega
 ·rw[hg x x0 x1,if_neg hx]at hd;omega
theorem Qvm{k m:Nat}:(List.replicate k (-1:Int)++List.replicate (m+1) 0).set k (-1)=List.replicate (k+1) (-1)++List.replicate m 0:=by
 rw[List.set_append_right _ _ (by simp)];rw[List.length_replicate,Nat.sub_self,List.replicate_succ (n:=m),List.set_cons_zero,List.replicate_succ' (n:=k),List.append_assoc];rfl
theorem Qps{D:List Int}{es:List (List Ab.D)}{p:Nat}{e:List Ab.D}{v:Int}(hes:D.map QaE=es)(he:es[p]? =some e):es.set p (List.take 0 e++([Ab.D.int .i64 v]++List.drop (0+[Ab.D.int .i64 v].length) e))=(D.set p v).map QaE:=by
 subst hes;obtain⟨x,hx,rfl⟩:=QtQ he;rw[List.map_set];rfl
theorem QrV{D:List Int}{p:Nat}{i x:Int}(hx:D[p]? =some x)(hp:p=0+i.toNat):gt D i=x:=by
 subst hp;rw[Nat.zero_add]at hx;simp[gt,List.getD_eq_getElem?_getD,hx]
abbrev srH (nodes:Int) (ol ll:List (List D)) (es:List Int):Hp:=[.bx [.d (iD nodes),.d (.list false 1 ol),.d (.list false 7 ll)],.da true 0 1 (es.map QaE)]
abbrev srL (dl:List (List D)) (n:Int) (fr:Bool) (m:Nat):Lv:=[(1,.c (.d (.list false 1 dl))),(2,iA n),(3,bA fr),(4,.c (.ptr 0 0 0 0)),(10,.c (.arr 1 0 0 m))]
set_option maxHeartbeats 4000000 in
theorem Quj(P:Program)(hP:P=Tryz.prog)(t:Top)(down:List Bool)(n:Int)(fr:Bool):Ret P Qge [QaP t,Qbu down,iA n,bA fr] (.tup [QaC (Qd5 t down n fr).1,iA (Qd5 t down n fr).2]):=by
  have hfits:=Qpu P hP t down;have htail:=fun a=>QfJ P hP t a
  have hhead:=fun a=>QpJ P hP t a
  have hup:=fun a=>Qy5 P hP down a
  have htr:=fun y=>QlL P hP t y n
  have hcost:=fun a=>Qs3 P hP t a
  refine Qah (hP▸mixed) (hP▸QjT) (hP▸QkT) (nle rfl) fun Λ Λo K hK=> ?_
  clear hP;have k1:QcN t down=false->K (.tup [QaC [],iA 1]):=by
    intro h;rw[Qd5,if_neg (by rw[h];decide)]at hK;exact hK
  have k2:QcN t down=true->¬(0<=n/\n<t.nodes)->K (.tup [QaC [],iA 2]):=by
    intro h h';rw[Qd5,if_pos h,if_neg h']at hK;exact hK
  have k3:QcN t down=true->(0<=n/\n<t.nodes)->K (.tup [QaC (Qec t down n fr),iA 0]):=by
    intro h h';rw[Qd5,if_pos h,if_pos h']at hK;exact hK
  clear hK;have hfb:QcN t down=true->Qan t=true/\(down.length=0\/down.length=2*t.links.length):=by
    intro h;simpa [QcN]using h
  have hk4:Qan t=true->∀D,IsDist t down n fr D->Qec t down n fr=D:=fun hv D hD=>QfN hv hD
  have hst:=fun(h0:0<=n) (h1:n<t.nodes)=>Qov (t:=t) (down:=down) (n:=n) (fr:=fr) h0 h1
  have hxy:=fun(hv:Qan t=true) (a:Int) (h0:0<=a) (h1:a<2*t.links.length)=>Qf3 hv fr h0 h1
  have hlen:=fun(D:List Int) (h:Mid t down n fr D)=>h.len
  have hmd:=fun(D:List Int) (h:Mid t down n fr D)=>h.dist
  have hms:=fun(hv:Qan t=true) (D:List Int) (h:Mid t down n fr D) (a:Int)=>h.step hv (a:=a)
  have hml:=fun(hv:Qan t=true) (D:List Int) (h:Mid t down n fr D) (i:Int)=>h.le hv (i:=i)
  have hcs:=fun(hv:Qan t=true) (a:Int) (h0:0<=a) (h1:a<2*t.links.length)=>(Qd9 hv h0 h1).2.2.2
  have hn64:=fun(hv:Qan t=true)=>(Qao.1 hv).1
  have hl256:=fun(hv:Qan t=true)=>(Qao.1 hv).2.2.1
  have hxe:∀a,xOf t fr a=if fr then Qcr t a else Qa6 t a:=fun _=>rfl
  have hye:∀a,yOf t fr a=if fr then Qa6 t a else Qcr t a:=fun _=>rfl
  have hoa:∀a,Qg0 t down n fr a=(upB down a&&QcW t (yOf t fr a) n):=fun _=>rfl
  have hfx:∀D a,Qpv t down n fr D a↔(Qg0 t down n fr a=true->0<=gt D (yOf t fr a)->0<=gt D (xOf t fr a)/\gt D (xOf t fr a)<=gt D (yOf t fr a)+Qcv t a):=fun _ _=>Iff.rfl
  generalize QcN t down=fb at*;generalize Qan t=v at*;generalize Qec t down n fr=ds at*;generalize Qa6 t=tt at*;generalize Qcr t=ht at*;generalize Qcv t=ct at*;generalize QcW t=tb at*;generalize upB down=ub at*;generalize xOf t fr=xo at*;generalize yOf t fr=yo at*;generalize Qg0 t down n fr=oa at*;generalize Qpv t down n fr=fx at*;generalize Mid t down n fr=md at*;generalize IsDist t down n fr=isd at*;simp only[Qbu,Qag]at*;generalize hdl:down.map Qbq=dl at*;have hdn:Λ dl=down.length:=by rw[Λo,←hdl];simp
  obtain⟨nodes,ov,links⟩:=t;simp only[QaP,Qag,Qai]at*;generalize hol:ov.map Qbq=ol at*;generalize hll:links.map QaF=ll at*;have hlo:Λ ol=ov.length:=by rw[Λo,←hol];simp
  have hls:Λ ll=links.length:=by rw[Λo,←hll];simp
  simp only[QaC,Qav,List.map_nil]at k1 k2 k3;cases fb
  · conv=>cbv
    repeat' first|refine Qaw hfits rfl rfl ?_ ?_|(intro hc;cases hc;done)|exact gu|exact trivial|refine And.intro ?_ ?_|(intro hc;first|exact absurd hc (by decide)|(exfalso;omega)|((first|rw[wS (by omega) (by omega)]at hc|rw[Qab]at hc|skip);try (conv=>cbv)))|refine CallG.old ?_
    exact k1 rfl
  obtain⟨hv,hdo⟩:=hfb rfl;subst hv;simp only[forall_const]at*
  conv=>cbv
  repeat' first|refine Qaw hfits rfl rfl ?_ ?_|(intro hc;cases hc;done)|(intro(_:Unit);refine⟨?_,?_,?_,?_⟩;omega;omega;omega;omega)|exact gu|exact trivial|refine And.intro ?_ ?_|(intro hc;first|exact absurd hc (by decide)|(exfalso;omega)|((first|rw[wS (by omega) (by omega)]at hc|rw[Qab]at hc|skip);try (conv=>cbv)))|refine CallG.old ?_
  · exact k2 (by omega)
  · exact k2 (by omega)
  rename_i m0 es0 hm0;subst hc hm0;refine QbX nodes.toNat (fun(s:Int×List Int)=>(11,iA s.1)::srL dl n fr nodes.toNat) (fun s=>srH nodes ol ll s.2) (fun k s=>s.1=k/\k<=nodes.toNat/\s.2=List.replicate k (-1)++List.replicate (nodes.toNat-k) 0) (0,List.replicate nodes.toNat 0)
    0 (fun(_:Unit)=>srL dl n fr nodes.toNat) (fun _=>srH nodes ol ll (List.replicate nodes.toNat (-1))) (fun _=>True) (by rw[srH,List.map_replicate];exact Wk.cw) ⟨rfl,by omega,by simp⟩ (fun k s h=>h.2.1) ?_ ?_
  · rintro k ⟨i,D⟩ Q' ⟨hi,hk,hD⟩ norm jn ex rt
    simp only at hi hD;have hDl:D.length=nodes.toNat:=by rw[hD];simp;omega
    generalize hN:nodes.toNat=N at*;simp only[srH,srL];generalize hes:D.map QaE=es at*;have hesl:es.length=N:=by rw[←hes,List.length_map];exact hDl
    conv=>cbv
    repeat' first|exact gu|exact trivial|refine And.intro ?_ ?_|(intro hc;first|exact absurd hc (by decide)|(exfalso;omega)|((first|rw[wS (by omega) (by omega)]at hc|rw[Qab]at hc|skip);try (conv=>cbv)))|refine CallG.old ?_
    · rename_i p hp e hpe es' he' i'
      have hee:e=[iD 0]:=by
        rw[←hes,gtm,hp,hD]at hpe;simp only[Nat.zero_add,hi,Int.toNat_natCast]at hpe;rw[List.getElem?_append_right (by simp),List.getElem?_replicate]at hpe;simp only[List.length_replicate]at hpe;split at hpe
        · cases hpe;rfl
        · cases hpe
      have e2:es'=((List.replicate (k+1) (-1)++List.replicate (N-(k+1)) 0).map QaE):=by
        rw[he',hee,hp,←hes,hD];simp only[Nat.zero_add,hi,Int.toNat_natCast];rw[show N-k=N-(k+1)+1 by omega,←Qvm,List.map_set];rfl
      subst e2;refine norm _ _ (_,_) ?_ (Wk.cw);exact⟨by simp only;omega,by omega,rfl⟩
    · have e2:es=((List.replicate N (-1)).map QaE):=by
        rw[←hes,hD,show k=N by omega,Nat.sub_self];simp
      subst e2;refine jn _ _ () trivial (Wk.cw)
  rintro _-
  have hm0:=hst (by omega) (by omega);clear hst;generalize hN:nodes.toNat=N at*;generalize hD0:List.replicate N (-1)=D0 at*;have hD0l:D0.length=N:=by rw[←hD0];simp
  simp only[srH,srL];generalize hes:D0.map QaE=es at*;have hesl:es.length=N:=by rw[←hes,List.length_map];exact hD0l
  conv=>cbv
  repeat' first|exact gu|exact trivial|refine And.intro ?_ ?_|(intro hc;first|exact absurd hc (by decide)|(exfalso;omega)|((first|rw[wS (by omega) (by omega)]at hc|rw[Qab]at hc|skip);try (conv=>cbv)))|refine CallG.old ?_
  rename_i p hp e hpe es1;have e1:es1=(D0.set n.toNat 0).map QaE:=by rw[hc,Qps hes hpe,hp,Nat.zero_add]
  subst e1;clear hc hpe hes hesl es;generalize D0.set n.toNat 0=D1 at*;clear hD0 hD0l D0;refine QaU (msr D1+1) (fun(s:Bool×List Int)=>(12,bA s.1)::srL dl n fr N) (fun s=>srH nodes ol ll s.2) (fun k s=>md s.2/\(s.1=false->∀a:Int,0<=a->a<2*links.length->fx s.2 a)/\k+msr s.2<=msr D1+(if s.1 then 0 else 1)) (true,D1) (Wk.cw) ⟨hm0,by simp,by simp⟩ (fun k s h=>by have:=h.2.2;split at this<;>omega) ?_;rintro k ⟨ch,D⟩ Q' ⟨hD,hfix,hkm⟩ normo exo rto;simp only at hD hfix hkm;simp only[srH,srL];cases ch with
  |false=>
    have hds:=hk4 D (hmd D hD (hfix rfl));have hDl:=hlen D hD;rw[hds]at k3;generalize hes:D.map QaE=es at*;have hesl:es.length=N:=by rw[←hes,List.length_map];omega
    conv=>cbv
    repeat' first|(refine exo _ _ _ ?_;(conv=>cbv))|(refine rto _ _ ?_;(conv=>cbv))|exact gu|exact trivial|refine And.intro ?_ ?_|(intro hc;first|exact absurd hc (by decide)|(exfalso;omega)|((first|rw[wS (by omega) (by omega)]at hc|rw[Qab]at hc|skip);try (conv=>cbv)))|refine CallG.old ?_
    rename_i ls;have e:ls=es:=by rw[hc,List.drop_zero,←hesl,List.take_length]
    subst e;exact k3 (by omega)
  |true=>
    generalize hes:D.map QaE=es at*
    conv=>cbv
    repeat' first|exact gu|exact trivial|refine And.intro ?_ ?_|(intro hc;first|exact absurd hc (by decide)|(exfalso;omega)|((first|rw[wS (by omega) (by omega)]at hc|rw[Qab]at hc|skip);try (conv=>cbv)))|refine CallG.old ?_
    subst hes;refine QaU (2*links.length) (fun(s:Int×Bool×List Int)=>(13,iA s.1)::(12,bA s.2.1)::srL dl n fr N) (fun s=>srH nodes ol ll s.2.2) (fun k s=>s.1=k/\k<=2*links.length/\md s.2.2/\(s.2.1=false->s.2.2=D/\∀a:Int,0<=a->a<k->fx D a)/\(s.2.1=true->msr s.2.2<msr D)) (0,false,D) (Wk.cw) ⟨rfl,by omega,hD,fun _=>⟨rfl,fun a h0 h1=>by omega⟩,by simp⟩ (fun k s h=>h.2.1) ?_;rintro k' ⟨a,ch,D'⟩ Q' ⟨ha,hk',hD',hf',ht'⟩ norm ex rt;simp only at ha hD' hf' ht';simp only[srH,srL];have hDl:=hlen D' hD';generalize hes:D'.map QaE=es at*;have hesl:es.length=N:=by rw[←hes,List.length_map];omega
    by_cases hlt:k'<2*links.length
    · obtain⟨⟨x0,x1⟩,⟨y0,y1⟩,hne⟩:=hxy a (by omega) (by omega)
      have hxle:=hml D' hD' (xo a) x0 x1;have hyle:=hml D' hD' (yo a) y0 y1;have hcl:=hcs a (by omega) (by omega);have hxa:=hxe a;have hya:=hye a;have hra:=hoa a;have hrx:=hfx D' a;have hta:=htail a;have hha:=hhead a;have hua:=hup a (by omega);have hya2:=htr (yo a);have hca:=hcost a;have hms':=hms D' hD' a (by omega) (by omega);have hcnt:∀D2 ch2,md D2->(ch2=false->ch=false/\D2=D'/\fx D' a)->(ch2=true->ch=true/\D2=D'\/msr D2<msr D')->∀L' h' a',a'=a+1->Wk 0 L' h' ((13,iA a')::(12,bA ch2)::srL dl n fr N) (srH nodes ol ll D2)->Q' .normal L' h':=by
        intro D2 ch2 q1 q2 q3 L' h' a' q4 q5;refine norm L' h' (a',ch2,D2) ⟨by simp only;omega,by omega,q1,fun hc2=> ?_,fun hc2=> ?_⟩ q5
        · obtain⟨e1,e2,e3⟩:=q2 hc2
          obtain⟨e4,e5⟩:=hf' e1;subst e2;refine⟨e4,fun b b0 b1=> ?_⟩;rcases Int.lt_or_le b k' with h|h
          · exact e5 b b0 h
          · obtain rfl:b=a:=by omega
            rw[←e4];exact e3
        · have hmm:msr D'<=msr D:=by
            cases ch
            · rw[(hf' rfl).1];exact Nat.le_refl _
            · exact Nat.le_of_lt (ht' rfl)
          rcases q3 hc2 with ⟨e1,e2⟩|e1
          · rw[e2];exact ht' e1
          · simp only;omega
      clear norm hf' ht' hfx hoa hxe hye htail hhead hup htr hcost hms hml hcs normo exo rto hxy hmd hlen;cases fr
      · simp only[Bool.false_eq_true,if_false]at hxa hya
        rw[←hxa]at hta;rw[←hya]at hha;generalize xo a=X at*;generalize yo a=Y at*;generalize ct a=C at*
        conv=>cbv
        repeat' first|(refine ex _ _ _ ?_;(conv=>cbv))|(refine rt _ _ ?_;(conv=>cbv))|(intro e he;obtain⟨x,hx,rfl⟩:=QaY hes he;have hgY:=QrV (i:=Y) hx;have hgX:=QrV (i:=X) hx;(conv=>cbv))|(refine Qam hta rfl rfl ?_;conv=>cbv)|(refine Qam hha rfl rfl ?_;conv=>cbv)|refine Qaw hua rfl rfl ?_ ?_|refine Qaw hya2 rfl rfl ?_ ?_|(refine Qam hca rfl rfl ?_;conv=>cbv)|exact gu|exact trivial|refine And.intro ?_ ?_|(intro hc;first|exact absurd hc (by decide)|(exfalso;omega)|((first|rw[wS (by omega) (by omega)]at hc|rw[Qab]at hc|skip);try (conv=>cbv)))|refine CallG.old ?_
        all_goals clear hta hha hua hya2 hca
        all_goals first
          |(refine hcnt D' ch hD' (fun h=>⟨h,rfl,hrx.2 fun ho hy=> ?_⟩) (fun h=> .inl ⟨h,rfl⟩) _ _ _ hc (by subst hes;exact Wk.cw)
            first
            |(exfalso;omega)
            |(exact⟨by omega,by omega⟩)
            |(exfalso;rw[hra]at ho;simp_all;done))
          |(rename_i es' hes' _
            have hoa:oa a=true:=by rw[hra,‹ub a=true›,‹tb Y n=true›];rfl
            have hst:=hms' hoa (by omega) (by omega);have e3:es'=(D'.set X.toNat (gt D' Y+C)).map QaE:=by
              refine hes'.trans ((Qps hes he).trans ?_)
              congr 1
              congr 1<;>omega
            subst e3;exact hcnt _ true hst.1 (by simp) (fun _=> .inr hst.2) _ _ _ hc (Wk.cw))
          |trace_state
      · simp only[if_true]at hxa hya
        rw[←hya]at hta;rw[←hxa]at hha;generalize xo a=X at*;generalize yo a=Y at*;generalize ct a=C at*
        conv=>cbv
        repeat' first|(refine ex _ _ _ ?_;(conv=>cbv))|(refine rt _ _ ?_;(conv=>cbv))|(intro e he;obtain⟨x,hx,rfl⟩:=QaY hes he;have hgY:=QrV (i:=Y) hx;have hgX:=QrV (i:=X) hx;(conv=>cbv))|(refine Qam hta rfl rfl ?_;conv=>cbv)|(refine Qam hha rfl rfl ?_;conv=>cbv)|refine Qaw hua rfl rfl ?_ ?_|refine Qaw hya2 rfl rfl ?_ ?_|(refine Qam hca rfl rfl ?_;conv=>cbv)|exact gu|exact trivial|refine And.intro ?_ ?_|(intro hc;first|exact absurd hc (by decide)|(exfalso;omega)|((first|rw[wS (by omega) (by omega)]at hc|rw[Qab]at hc|skip);try (conv=>cbv)))|refine CallG.old ?_
        all_goals clear hta hha hua hya2 hca
        all_goals first
          |(refine hcnt D' ch hD' (fun h=>⟨h,rfl,hrx.2 fun ho hy=> ?_⟩) (fun h=> .inl ⟨h,rfl⟩) _ _ _ hc (by subst hes;exact Wk.cw)
            first
            |(exfalso;omega)
            |(exact⟨by omega,by omega⟩)
            |(exfalso;rw[hra]at ho;simp_all;done))
          |(rename_i es' hes' _
            have hoa:oa a=true:=by rw[hra,‹ub a=true›,‹tb Y n=true›];rfl
            have hst:=hms' hoa (by omega) (by omega);have e3:es'=(D'.set X.toNat (gt D' Y+C)).map QaE:=by
              refine hes'.trans ((Qps hes he).trans ?_)
              congr 1
              congr 1<;>omega
            subst e3;exact hcnt _ true hst.1 (by simp) (fun _=> .inr hst.2) _ _ _ hc (Wk.cw))
          |trace_state
    · conv=>cbv
      repeat' first|(refine ex _ _ _ ?_;(conv=>cbv))|(refine rt _ _ ?_;(conv=>cbv))|exact gu|exact trivial|refine And.intro ?_ ?_|(intro hc;first|exact absurd hc (by decide)|(exfalso;omega)|((first|rw[wS (by omega) (by omega)]at hc|rw[Qab]at hc|skip);try (conv=>cbv)))|refine CallG.old ?_
      subst hes;refine normo _ _ (_,_) ?_ (Wk.cw);simp only;simp only[if_true,Nat.add_zero]at hkm;cases ch
      · obtain⟨h1,h2⟩:=hf' rfl
        subst h1;exact⟨hD',fun _ b b0 b1=>h2 b b0 (by omega),by simp only[Bool.false_eq_true,if_false];omega⟩
      · have:=ht' rfl
        exact⟨hD',by simp,by simp only[if_true];omega⟩
theorem QxP(P:Program)(hP:P=Tryz.prog)(t:Top)(down:List Bool)(n:Int):Ret P Qib [QaP t,Qbu down,iA n] (.tup [QaC (Qd5 t down n false).1,iA (Qd5 t down n false).2]):=by
 have hs:=Quj P hP t down n false;refine Qah (hP▸mixed) (hP▸QmI) (hP▸QnO) (nle rfl) fun Λ Λo K hK=> ?_
 clear hP;generalize Qd5 t down n false=r at*;obtain⟨D,e⟩:=r;simp only[QaC,Qav,Qbu,Qag]at*;generalize D.map QaE=Dl at*;generalize down.map Qbq=dl at*;obtain⟨nodes,ov,links⟩:=t;simp only[QaP,Qag,Qai]at*;generalize hol:ov.map Qbq=ol at*;generalize hll:links.map QaF=ll at*;have hlo:Λ ol=ov.length:=by rw[Λo,←hol];simp
 have hls:Λ ll=links.length:=by rw[Λo,←hll];simp
 conv=>cbv
 repeat' first|(refine Qam hs rfl rfl ?_;conv=>cbv)|exact gu|exact trivial|refine And.intro ?_ ?_|(intro hc;first|exact absurd hc (by decide)|(exfalso;omega)|((first|rw[wS (by omega) (by omega)]at hc|rw[Qab]at hc|skip);try (conv=>cbv)))|refine CallG.old ?_
 exact hK
def onB(t:Top)(down:List Bool)(D:List Int)(a d:Int):Bool:=
 upB down a&& !decide (Qa6 t a=d)&&decide (0<=gt D (Qcr t a))&&QcW t (Qcr t a) d&&decide (gt D (Qa6 t a)=gt D (Qcr t a)+Qcv t a)
set_option maxHeartbeats 1000000 in
theorem QBs(P:Program)(hP:P=Tryz.prog)(t:Top)(down:List Bool)(D:List Int)(a d:Int)(hv:Qan t=true)(hd:down.length=0\/down.length=2*t.links.length)(h0:0<=a)(h1:a<2*t.links.length)(hl:(D.length:Int)=t.nodes)
 (hb:∀i,0<=i->i<t.nodes-> -1<=gt D i/\gt D i<=4194240):Ret P Qls [QaP t,Qbu down,QaC D,iA a,iA d] (bA (onB t down D a d)):=by
 have hta:=QfJ P hP t a;have hha:=QpJ P hP t a;have hua:=Qy5 P hP down a (by omega);have htr:=QlL P hP t (Qcr t a) d;have hca:=Qs3 P hP t a;refine Qah (hP▸mixed) (hP▸Qpx) (hP▸Qrz) (nle rfl) fun Λ Λo K hK=> ?_
 clear hP;have leaf:∀b,onB t down D a d=b->K (bA b):=fun b hb=>by rw[←hb];exact hK
 have hr:onB t down D a d=(upB down a&& !decide (Qa6 t a=d)&&decide (0<=gt D (Qcr t a))&&QcW t (Qcr t a) d&&decide (gt D (Qa6 t a)=gt D (Qcr t a)+Qcv t a)):=rfl;clear hK;obtain⟨⟨x0,x1⟩,⟨y0,y1⟩,hne,c0,c1⟩:=Qd9 hv h0 h1;have hbx:=hb _ x0 x1;have hby:=hb _ y0 y1;generalize onB t down D a d=r at*;generalize Qa6 t a=X at*;generalize Qcr t a=Y at*;generalize Qcv t a=C at*;generalize QcW t Y d=tb at*;generalize upB down a=ub at*;simp only[QaC,Qav,Qbu,Qag]at*;generalize hes:D.map QaE=es at*;have hesn:Λ es=D.length:=by rw[Λo,←hes];simp
 generalize hdl:down.map Qbq=dl at*;obtain⟨nodes,ov,links⟩:=t;simp only[QaP,Qag,Qai]at*;generalize hol:ov.map Qbq=ol at*;generalize hll:links.map QaF=ll at*;have hlo:Λ ol=ov.length:=by rw[Λo,←hol];simp
 have hls:Λ ll=links.length:=by rw[Λo,←hll];simp
 conv=>cbv
 repeat' first|(intro e he;obtain⟨x,hx,rfl⟩:=QaY hes he;have hgY:=QrV (i:=Y) hx;have hgX:=QrV (i:=X) hx;(conv=>cbv))|(refine Qam hta rfl rfl ?_;conv=>cbv)|(refine Qam hha rfl rfl ?_;conv=>cbv)|refine Qaw hua rfl rfl ?_ ?_|refine Qaw htr rfl rfl ?_ ?_|(refine Qam hca rfl rfl ?_;conv=>cbv)|exact gu|exact trivial|refine And.intro ?_ ?_|(intro hc;first|exact absurd hc (by decide)|(exfalso;omega)|((first|rw[wS (by omega) (by omega)]at hc|rw[Qab]at hc|skip);try (conv=>cbv)))|refine CallG.old ?_
 all_goals clear hta hha hua htr hca
 ·refine leaf _ (hr.trans ?_);rw[‹ub=true›,‹tb=true›,decide_eq_false (p:=X=d) (by assumption),decide_eq_true (p:=0<=gt D Y) (by omega),decide_eq_true (p:=gt D X=gt D Y+C) (by omega)];rfl
 ·refine leaf _ (hr.trans ?_);rw[decide_eq_false (p:=gt D X=gt D Y+C) (by omega)];simp
 ·refine leaf _ (hr.trans ?_);rw[hc];simp
 ·refine leaf _ (hr.trans ?_);rw[decide_eq_false (p:=0<=gt D Y) (by omega)];simp
 ·refine leaf _ (hr.trans ?_);rw[decide_eq_true hc];simp
 ·refine leaf _ (hr.trans ?_);rw[hc];simp
def Qk9(t:Top)(down:List Bool)(D:List Int)(n d:Int):List Int:=(Qbp (2*t.links.length)).filter fun a=>decide (Qa6 t a=n)&&onB t down D a d
set_option maxHeartbeats 1000000 in
theorem QvU(P:Program)(hP:P=Tryz.prog)(t:Top)(down:List Bool)(D:List Int)(n d:Int)(hv:Qan t=true)(hd:down.length=0\/down.length=2*t.links.length)(hl:(D.length:Int)=t.nodes)
 (hb:∀i,0<=i->i<t.nodes-> -1<=gt D i/\gt D i<=4194240):Ret P Qie [QaP t,Qbu down,QaC D,iA n,iA d] (QaC (Qk9 t down D n d)):=by
 have ht:=QfJ P hP t;have hon:=fun a h0 h1=>QBs P hP t down D a d hv hd h0 h1 hl hb
 refine Qah (hP▸mixed) (hP▸QmL) (hP▸QnR) (nle rfl) fun Λ Λo K hK=> ?_
 clear hP;have hl256:=(Qao.1 hv).2.2.1;have ho:Qk9 t down D n d=(Qbp (2*t.links.length)).filter fun a=>decide (Qa6 t a=n)&&onB t down D a d:=rfl
 rw[ho]at hK;clear ho;generalize hf:Qa6 t=f at*;obtain⟨g,hg⟩:∃g:Int->Bool,∀a,onB t down D a d=g a:=⟨_,fun _=>rfl⟩;simp only[hg]at hon hK;clear hg;simp only[QaC,Qav,Qbu,Qag]at*;generalize D.map QaE=es at*;generalize down.map Qbq=dl at*;obtain⟨nodes,ov,links⟩:=t;simp only[QaP,Qag,Qai]at*;generalize hol:ov.map Qbq=ol at*;generalize hll:links.map QaF=ll at*;have hlo:Λ ol=ov.length:=by rw[Λo,←hol];simp
 have hls:Λ ll=links.length:=by rw[Λo,←hll];simp
 generalize hv2:2*links.length=v at*
 conv=>cbv
 repeat' first|exact gu|exact trivial|refine And.intro ?_ ?_|(intro hc;first|exact absurd hc (by decide)|(exfalso;omega)|((first|rw[wS (by omega) (by omega)]at hc|rw[Qab]at hc|skip);try (conv=>cbv)))|refine CallG.old ?_
 refine QaU v (fun(s:Int×Nat×Nat×Bool×List (List Ab.D))=>[(1,.c (.d (.list false 1 dl))),(2,.c (.d (.list false 1 es))),(3,iA n),(4,iA d),(5,.c (.ptr 0 0 0 0)),(11,.c (.arr 1 s.2.1 0 s.2.2.1)),(12,iA s.1)]) (fun s=>[.bx [.d (.int .i64 nodes),.d (.list false 1 ol),.d (.list false 7 ll)],.da s.2.2.2.1 s.2.1 1 s.2.2.2.2])
  (fun k s=>s.1=k/\k<=v/\s.2.2.1=s.2.2.2.2.length/\s.2.2.2.2=(((Qbp k).filter fun a=>decide (f a=n)&&g a).map QaE)) (0,0,0,false,[]) (.trans (.nilS 11 1 rfl) (Wk.cw)) ⟨rfl,by omega,rfl,rfl⟩ (fun k s h=>h.2.1) ?_
 rintro k ⟨i,ve,m,r,es'⟩ Q' ⟨hi,hk,hm,hes⟩ norm ex rt;simp only at hi hm hes;have hesl:es'.length<=k:=by
  rw[hes,List.length_map];refine Nat.le_trans (List.length_filter_le _ _) ?_;simp[Qbp]
 conv=>cbv
 repeat' first|(refine ex _ _ _ ?_;(conv=>cbv))|(refine rt _ _ ?_;(conv=>cbv))|refine Qc0 (ht _) rfl rfl ?_|refine Qaw (hon _ (by omega) (by omega)) rfl rfl ?_ ?_|(intro(_:Unit);refine⟨rfl,?_⟩;simp only[List.length_cons,List.length_nil];omega)|exact gu|exact trivial|refine And.intro ?_ ?_|(intro hc;first|exact absurd hc (by decide)|(exfalso;omega)|((first|rw[wS (by omega) (by omega)]at hc|rw[Qab]at hc|skip);try (conv=>cbv)))|refine CallG.old ?_
 ·rename_i hfi hn hgi m' r' es2 hm' hr' he' i';refine norm _ _ (_,_,_,_,_) ?_ (Wk.cw);have e:es2=((Qbp (k+1)).filter fun a=>decide (f a=n)&&g a).map QaE:=by
   rw[he',List.drop_zero,hm,List.take_length,hes,QcJ,List.filter_append,List.map_append];rw[←hi,List.filter_cons_of_pos (by rw[hgi,decide_eq_true (by omega)];rfl)];rfl
  exact⟨by simp only;omega,by omega,by simp only;rw[hm',he',List.drop_zero,hm,List.take_length];simp,e⟩
 ·rename_i hfi hn hgi i';refine norm _ _ (_,_,_,_,_) ?_ (Wk.cw);have e:es'=((Qbp (k+1)).filter fun a=>decide (f a=n)&&g a).map QaE:=by
   rw[hes,QcJ,List.filter_append,List.map_append];rw[←hi,List.filter_cons_of_neg (by rw[hgi];simp)];simp
  exact⟨by simp only;omega,by omega,hm,e⟩
 ·rename_i hfi hn i';refine norm _ _ (_,_,_,_,_) ?_ (Wk.cw);have e:es'=((Qbp (k+1)).filter fun a=>decide (f a=n)&&g a).map QaE:=by
   rw[hes,QcJ,List.filter_append,List.map_append];rw[←hi,List.filter_cons_of_neg (by rw[decide_eq_false (by omega)];simp)];simp
  exact⟨by simp only;omega,by omega,hm,e⟩
 ·rename_i ls;have e:ls=((Qbp v).filter fun a=>decide (f a=n)&&g a).map QaE:=by
   rw[hc,List.drop_zero,hm,List.take_length,hes,show k=v by omega]
  subst e;exact hK
theorem Qyi{t:Top}(hv:Qan t=true){down:List Bool}{e:Int}{fr:Bool}:∀(m:Nat) (D:List Int),msr D=m->Mid t down e fr D->∃D',Mid t down e fr D'/\∀a:Int,0<=a->a<2*t.links.length->Qpv t down e fr D' a:=by
 intro m;induction m using Nat.strongRecOn with
 |_ m ih=>
  intro D hm hD;by_cases h:∀a:Int,0<=a->a<2*t.links.length->Qpv t down e fr D a
  ·exact⟨D,hD,h⟩
  ·simp only[Classical.not_forall]at h;obtain⟨a,a0,a1,ha⟩:=h;simp only[Qpv,Classical.not_forall]at ha;obtain⟨ho,hy,hn⟩:=ha;obtain⟨s1,s2⟩:=hD.step hv a0 a1 ho hy (by omega);exact ih _ (by omega) _ rfl s1
theorem Qlm{t:Top}(hv:Qan t=true)(down:List Bool){n:Int}(fr:Bool)(h0:0<=n)(h1:n<t.nodes):IsDist t down n fr (Qec t down n fr)/\∀i,0<=i->i<t.nodes-> -1<=gt (Qec t down n fr) i/\gt (Qec t down n fr) i<=4194240:=by
 obtain⟨D,hD,hf⟩:=Qyi hv _ _ rfl (Qov (t:=t) (down:=down) (n:=n) (fr:=fr) h0 h1);have hd:=hD.dist hf;rw[QfN hv hd];exact⟨hd,fun i i0 i1=>⟨hd.lo i i0 i1,hD.le hv i0 i1⟩⟩
noncomputable def Qm1(t:Top)(down:List Bool)(n d:Int):List Int×Int:=
 if QcN t down=true then (if 0<=d/\d<t.nodes then (if 0<=n/\n<t.nodes then (Qk9 t down (Qec t down d false) n d,0)else ([],2))else ([],2))else ([],1)
theorem Qym(P:Program)(hP:P=Tryz.prog)(t:Top)(down:List Bool)(n d:Int):Ret P Qid [QaP t,Qbu down,iA n,iA d] (.tup [QaC (Qm1 t down n d).1,iA (Qm1 t down n d).2]):=by
 have hs:=QxP P hP t down d;have hfb:QcN t down=true->Qan t=true/\(down.length=0\/down.length=2*t.links.length):=by
  intro h;simpa [QcN]using h
 have hn:=fun(hf:QcN t down=true) (h:0<=d/\d<t.nodes)=>QvU P hP t down (Qec t down d false) n d (hfb hf).1 (hfb hf).2 (Qlm (hfb hf).1 down false h.1 h.2).1.len (Qlm (hfb hf).1 down false h.1 h.2).2
 refine Qah (hP▸mixed) (hP▸QmK) (hP▸QnQ) (nle rfl) fun Λ Λo K hK=> ?_
 clear hP hfb;have hsr:Qd5 t down d false=if QcN t down=true then (if 0<=d/\d<t.nodes then (Qec t down d false,0)else ([],2))else ([],1):=rfl
 have hnr:Qm1 t down n d=if QcN t down=true then (if 0<=d/\d<t.nodes then (if 0<=n/\n<t.nodes then (Qk9 t down (Qec t down d false) n d,0)else ([],2))else ([],2))else ([],1):=rfl
 generalize Qd5 t down d false=sr at*;generalize Qm1 t down n d=nr at*;generalize Qk9 t down (Qec t down d false) n d=nl at*;generalize Qec t down d false=ds at*;by_cases hf:QcN t down=true
 ·rw[if_pos hf]at hsr hnr;by_cases hd:0<=d/\d<t.nodes
  ·rw[if_pos hd]at hsr hnr;have hn:=hn hf hd;subst hsr;have k1:¬(0<=n/\n<t.nodes)->K (.tup [QaC [],iA 2]):=by intro h;rw[hnr,if_neg h]at hK;exact hK
   have k2:(0<=n/\n<t.nodes)->K (.tup [QaC nl,iA 0]):=by intro h;rw[hnr,if_pos h]at hK;exact hK
   clear hK hnr;simp only[QaC,Qav,Qbu,Qag,List.map_nil]at*;generalize nl.map QaE=nl' at*;generalize ds.map QaE=ds' at*;generalize down.map Qbq=dl at*;obtain⟨nodes,ov,links⟩:=t;simp only[QaP,Qag,Qai]at*;generalize hol:ov.map Qbq=ol at*;generalize hll:links.map QaF=ll at*;have hlo:Λ ol=ov.length:=by rw[Λo,←hol];simp
   have hls:Λ ll=links.length:=by rw[Λo,←hll];simp
   conv=>cbv
   repeat' first|(refine Qam hs rfl rfl ?_;conv=>cbv)|(refine Qam hn rfl rfl ?_;conv=>cbv)|exact gu|exact trivial|refine And.intro ?_ ?_|(intro hc;first|exact absurd hc (by decide)|(exfalso;omega)|((first|rw[wS (by omega) (by omega)]at hc|rw[Qab]at hc|skip);try (conv=>cbv)))|refine CallG.old ?_
   ·exact k1 (by omega)
   ·exact k1 (by omega)
   ·exact k2 (by omega)
  ·rw[if_neg hd]at hsr hnr;subst hsr hnr;simp only[QaC,Qav,Qbu,Qag,List.map_nil]at*;generalize down.map Qbq=dl at*;obtain⟨nodes,ov,links⟩:=t;simp only[QaP,Qag,Qai]at*;generalize hol:ov.map Qbq=ol at*;generalize hll:links.map QaF=ll at*;have hlo:Λ ol=ov.length:=by rw[Λo,←hol];simp
   have hls:Λ ll=links.length:=by rw[Λo,←hll];simp
   conv=>cbv
   repeat' first|(refine Qam hs rfl rfl ?_;conv=>cbv)|exact gu|exact trivial|refine And.intro ?_ ?_|(intro hc;first|exact absurd hc (by decide)|(exfalso;omega)|((first|rw[wS (by omega) (by omega)]at hc|rw[Qab]at hc|skip);try (conv=>cbv)))|refine CallG.old ?_
   exact hK
 ·rw[if_neg hf]at hsr hnr;subst hsr hnr;simp only[QaC,Qav,Qbu,Qag,List.map_nil]at*;generalize down.map Qbq=dl at*;obtain⟨nodes,ov,links⟩:=t;simp only[QaP,Qag,Qai]at*;generalize hol:ov.map Qbq=ol at*;generalize hll:links.map QaF=ll at*;have hlo:Λ ol=ov.length:=by rw[Λo,←hol];simp
  have hls:Λ ll=links.length:=by rw[Λo,←hll];simp
  conv=>cbv
  repeat' first|(refine Qam hs rfl rfl ?_;conv=>cbv)|exact gu|exact trivial|refine And.intro ?_ ?_|(intro hc;first|exact absurd hc (by decide)|(exfalso;omega)|((first|rw[wS (by omega) (by omega)]at hc|rw[Qab]at hc|skip);try (conv=>cbv)))|refine CallG.old ?_
  exact hK
noncomputable def toL(t:Top)(down:List Bool)(n:Int)(k:Nat):List Ety:=(Qbp k).map fun d=>⟨(Qm1 t down n d).1,false,[]⟩
def Qvd(t:Top)(down:List Bool)(n:Int):List Int:=(Qq7 t n).filter fun a=> !upB down a
noncomputable def Qng(t:Top)(down:List Bool)(n:Int):Tab×Int:=
 if QcN t down=true then (if 0<=n/\n<t.nodes then (⟨n,toL t down n t.nodes.toNat,Qvd t down n⟩,0)else (⟨0,[],[]⟩,2))else (⟨0,[],[]⟩,1)
end Go.Ab
