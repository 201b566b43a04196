/-
  Merged texts, part n.
-/
import Derived.Test.YtohbofilgkdihaaDoorZm
set_option linter.all false
namespace Go.Ab
open Go.Proofs
theorem Qn3(P:Program)(hP:P=Tryd.prog)(t:Top)(down:List Bool)(n:Int):Ret P Qhs [Qa2 t,QaY down,iA n] (.tup [QaT (QbG t down n false).1,iA (QbG t down n false).2]):=by
 have hs:=QsR P hP t down n false;refine Qag (hP▸mixed) (hP▸QlC) (hP▸Qmz) (nle rfl) fun Λ Λo K hK=> ?_
 clear hP;generalize QbG t down n false=r at*;obtain⟨D,e⟩:=r;simp only[QaT,QaU,QaY,Qaf]at*;generalize D.map QaA=Dl at*;generalize down.map QbA=dl at*;obtain⟨nodes,ov,links⟩:=t;simp only[Qa2,Qaf,Qak]at*;generalize hol:ov.map QbA=ol at*;generalize hll:links.map QaL=ll at*;have hlo:Λ ol=ov.length:=by rw[Λo,←hol];simp
 have hls:Λ ll=links.length:=by rw[Λo,←hll];simp
 conv=>cbv
 repeat' first|(refine Qaj hs rfl rfl ?_;conv=>cbv)|exact gu|exact trivial|refine And.intro ?_ ?_|(intro hc;first|exact absurd hc (by decide)|(exfalso;omega)|((first|rw[wS (by omega) (by omega)]at hc|rw[Qad]at hc|skip);try (conv=>cbv)))|refine CallG.old ?_
 exact hK
def onB(t:Top)(down:List Bool)(D:List Int)(a d:Int):Bool:=
 upB down a&& !decide (Qbm t a=d)&&decide (0<=gt D (Qbi t a))&&Qch t (Qbi t a) d&&decide (gt D (Qbm t a)=gt D (Qbi t a)+Qbt t a)
set_option maxHeartbeats 1000000 in
theorem Qzz(P:Program)(hP:P=Tryd.prog)(t:Top)(down:List Bool)(D:List Int)(a d:Int)(hv:Qao t=true)(hd:down.length=0\/down.length=2*t.links.length)(h0:0<=a)(h1:a<2*t.links.length)(hl:(D.length:Int)=t.nodes)
 (hb:∀i,0<=i->i<t.nodes-> -1<=gt D i/\gt D i<=4194240):Ret P Qkt [Qa2 t,QaY down,QaT D,iA a,iA d] (bA (onB t down D a d)):=by
 have hta:=QjM P hP t a;have hha:=QrW P hP t a;have hua:=Qu5 P hP down a (by omega);have htr:=QkJ P hP t (Qbi t a) d;have hca:=Qn0 P hP t a;refine Qag (hP▸mixed) (hP▸Qn9) (hP▸Qp5) (nle rfl) fun Λ Λo K hK=> ?_
 clear hP;have leaf:∀b,onB t down D a d=b->K (bA b):=fun b hb=>by rw[←hb];exact hK
 have hr:onB t down D a d=(upB down a&& !decide (Qbm t a=d)&&decide (0<=gt D (Qbi t a))&&Qch t (Qbi t a) d&&decide (gt D (Qbm t a)=gt D (Qbi t a)+Qbt t a)):=rfl;clear hK;obtain⟨⟨x0,x1⟩,⟨y0,y1⟩,hne,c0,c1⟩:=Qb5 hv h0 h1;have hbx:=hb _ x0 x1;have hby:=hb _ y0 y1;generalize onB t down D a d=r at*;generalize Qbm t a=X at*;generalize Qbi t a=Y at*;generalize Qbt t a=C at*;generalize Qch t Y d=tb at*;generalize upB down a=ub at*;simp only[QaT,QaU,QaY,Qaf]at*;generalize hes:D.map QaA=es at*;have hesn:Λ es=D.length:=by rw[Λo,←hes];simp
 generalize hdl:down.map QbA=dl at*;obtain⟨nodes,ov,links⟩:=t;simp only[Qa2,Qaf,Qak]at*;generalize hol:ov.map QbA=ol at*;generalize hll:links.map QaL=ll at*;have hlo:Λ ol=ov.length:=by rw[Λo,←hol];simp
 have hls:Λ ll=links.length:=by rw[Λo,←hll];simp
 conv=>cbv
 repeat' first|(intro e he;obtain⟨x,hx,rfl⟩:=Qbo hes he;have hgY:=Qqp (i:=Y) hx;have hgX:=Qqp (i:=X) hx;(conv=>cbv))|(refine Qaj hta rfl rfl ?_;conv=>cbv)|(refine Qaj hha rfl rfl ?_;conv=>cbv)|refine QaF hua rfl rfl ?_ ?_|refine QaF htr rfl rfl ?_ ?_|(refine Qaj hca rfl rfl ?_;conv=>cbv)|exact gu|exact trivial|refine And.intro ?_ ?_|(intro hc;first|exact absurd hc (by decide)|(exfalso;omega)|((first|rw[wS (by omega) (by omega)]at hc|rw[Qad]at hc|skip);try (conv=>cbv)))|refine CallG.old ?_
 all_goals clear hta hha hua htr hca
 ·refine leaf _ (hr.trans ?_);rw[‹ub=true›,‹tb=true›,decide_eq_false (p:=X=d) (by assumption),decide_eq_true (p:=0<=gt D Y) (by omega),decide_eq_true (p:=gt D X=gt D Y+C) (by omega)];rfl
 ·refine leaf _ (hr.trans ?_);rw[decide_eq_false (p:=gt D X=gt D Y+C) (by omega)];simp
 ·refine leaf _ (hr.trans ?_);rw[hc];simp
 ·refine leaf _ (hr.trans ?_);rw[decide_eq_false (p:=0<=gt D Y) (by omega)];simp
 ·refine leaf _ (hr.trans ?_);rw[decide_eq_true hc];simp
 ·refine leaf _ (hr.trans ?_);rw[hc];simp
def QbF(t:Top)(down:List Bool)(D:List Int)(n d:Int):List Int:=(QaK (2*t.links.length)).filter fun a=>decide (Qbm t a=n)&&onB t down D a d
set_option maxHeartbeats 1000000 in
theorem Qut(P:Program)(hP:P=Tryd.prog)(t:Top)(down:List Bool)(D:List Int)(n d:Int)(hv:Qao t=true)(hd:down.length=0\/down.length=2*t.links.length)(hl:(D.length:Int)=t.nodes)
 (hb:∀i,0<=i->i<t.nodes-> -1<=gt D i/\gt D i<=4194240):Ret P Qhv [Qa2 t,QaY down,QaT D,iA n,iA d] (QaT (QbF t down D n d)):=by
 have ht:=QjM P hP t;have hon:=fun a h0 h1=>Qzz P hP t down D a d hv hd h0 h1 hl hb
 refine Qag (hP▸mixed) (hP▸QlF) (hP▸QmC) (nle rfl) fun Λ Λo K hK=> ?_
 clear hP;have hl256:=(Qai.1 hv).2.2.1;have ho:QbF t down D n d=(QaK (2*t.links.length)).filter fun a=>decide (Qbm t a=n)&&onB t down D a d:=rfl
 rw[ho]at hK;clear ho;generalize hf:Qbm t=f at*;obtain⟨g,hg⟩:∃g:Int->Bool,∀a,onB t down D a d=g a:=⟨_,fun _=>rfl⟩;simp only[hg]at hon hK;clear hg;simp only[QaT,QaU,QaY,Qaf]at*;generalize D.map QaA=es at*;generalize down.map QbA=dl at*;obtain⟨nodes,ov,links⟩:=t;simp only[Qa2,Qaf,Qak]at*;generalize hol:ov.map QbA=ol at*;generalize hll:links.map QaL=ll at*;have hlo:Λ ol=ov.length:=by rw[Λo,←hol];simp
 have hls:Λ ll=links.length:=by rw[Λo,←hll];simp
 generalize hv2:2*links.length=v at*
 conv=>cbv
 repeat' first|exact gu|exact trivial|refine And.intro ?_ ?_|(intro hc;first|exact absurd hc (by decide)|(exfalso;omega)|((first|rw[wS (by omega) (by omega)]at hc|rw[Qad]at hc|skip);try (conv=>cbv)))|refine CallG.old ?_
 refine Qba v (fun(s:Int×Nat×Nat×Bool×List (List Ab.D))=>[(1,.c (.d (.list false 1 dl))),(2,.c (.d (.list false 1 es))),(3,iA n),(4,iA d),(5,.c (.ptr 0 0 0 0)),(11,.c (.arr 1 s.2.1 0 s.2.2.1)),(12,iA s.1)]) (fun s=>[.bx [.d (.int .i64 nodes),.d (.list false 1 ol),.d (.list false 7 ll)],.da s.2.2.2.1 s.2.1 1 s.2.2.2.2])
  (fun k s=>s.1=k/\k<=v/\s.2.2.1=s.2.2.2.2.length/\s.2.2.2.2=(((QaK k).filter fun a=>decide (f a=n)&&g a).map QaA)) (0,0,0,false,[]) (.trans (.nilS 11 1 rfl) (Wk.cw)) ⟨rfl,by omega,rfl,rfl⟩ (fun k s h=>h.2.1) ?_
 rintro k ⟨i,ve,m,r,es'⟩ Q' ⟨hi,hk,hm,hes⟩ norm ex rt;simp only at hi hm hes;have hesl:es'.length<=k:=by
  rw[hes,List.length_map];refine Nat.le_trans (List.length_filter_le _ _) ?_;simp[QaK]
 conv=>cbv
 repeat' first|(refine ex _ _ _ ?_;(conv=>cbv))|(refine rt _ _ ?_;(conv=>cbv))|refine QdX (ht _) rfl rfl ?_|refine QaF (hon _ (by omega) (by omega)) rfl rfl ?_ ?_|(intro(_:Unit);refine⟨rfl,?_⟩;simp only[List.length_cons,List.length_nil];omega)|exact gu|exact trivial|refine And.intro ?_ ?_|(intro hc;first|exact absurd hc (by decide)|(exfalso;omega)|((first|rw[wS (by omega) (by omega)]at hc|rw[Qad]at hc|skip);try (conv=>cbv)))|refine CallG.old ?_
 ·rename_i hfi hn hgi m' r' es2 hm' hr' he' i';refine norm _ _ (_,_,_,_,_) ?_ (Wk.cw);have e:es2=((QaK (k+1)).filter fun a=>decide (f a=n)&&g a).map QaA:=by
   rw[he',List.drop_zero,hm,List.take_length,hes,Qci,List.filter_append,List.map_append];rw[←hi,List.filter_cons_of_pos (by rw[hgi,decide_eq_true (by omega)];rfl)];rfl
  exact⟨by simp only;omega,by omega,by simp only;rw[hm',he',List.drop_zero,hm,List.take_length];simp,e⟩
 ·rename_i hfi hn hgi i';refine norm _ _ (_,_,_,_,_) ?_ (Wk.cw);have e:es'=((QaK (k+1)).filter fun a=>decide (f a=n)&&g a).map QaA:=by
   rw[hes,Qci,List.filter_append,List.map_append];rw[←hi,List.filter_cons_of_neg (by rw[hgi];simp)];simp
  exact⟨by simp only;omega,by omega,hm,e⟩
 ·rename_i hfi hn i';refine norm _ _ (_,_,_,_,_) ?_ (Wk.cw);have e:es'=((QaK (k+1)).filter fun a=>decide (f a=n)&&g a).map QaA:=by
   rw[hes,Qci,List.filter_append,List.map_append];rw[←hi,List.filter_cons_of_neg (by rw[decide_eq_false (by omega)];simp)];simp
  exact⟨by simp only;omega,by omega,hm,e⟩
 ·rename_i ls;have e:ls=((QaK v).filter fun a=>decide (f a=n)&&g a).map QaA:=by
   rw[hc,List.drop_zero,hm,List.take_length,hes,show k=v by omega]
  subst e;exact hK
theorem QwD{t:Top}(hv:Qao t=true){down:List Bool}{e:Int}{fr:Bool}:∀(m:Nat) (D:List Int),msr D=m->Mid t down e fr D->∃D',Mid t down e fr D'/\∀a:Int,0<=a->a<2*t.links.length->Qn7 t down e fr D' a:=by
 intro m;induction m using Nat.strongRecOn with
 |_ m ih=>
  intro D hm hD;by_cases h:∀a:Int,0<=a->a<2*t.links.length->Qn7 t down e fr D a
  ·exact⟨D,hD,h⟩
  ·simp only[Classical.not_forall]at h;obtain⟨a,a0,a1,ha⟩:=h;simp only[Qn7,Classical.not_forall]at ha;obtain⟨ho,hy,hn⟩:=ha;obtain⟨s1,s2⟩:=hD.step hv a0 a1 ho hy (by omega);exact ih _ (by omega) _ rfl s1
theorem QdY{t:Top}(hv:Qao t=true)(down:List Bool){n:Int}(fr:Bool)(h0:0<=n)(h1:n<t.nodes):IsDist t down n fr (Qat t down n fr)/\∀i,0<=i->i<t.nodes-> -1<=gt (Qat t down n fr) i/\gt (Qat t down n fr) i<=4194240:=by
 obtain⟨D,hD,hf⟩:=QwD hv _ _ rfl (Qnc (t:=t) (down:=down) (n:=n) (fr:=fr) h0 h1);have hd:=hD.dist hf;rw[Qfi hv hd];exact⟨hd,fun i i0 i1=>⟨hd.lo i i0 i1,hD.le hv i0 i1⟩⟩
noncomputable def Qg6(t:Top)(down:List Bool)(n d:Int):List Int×Int:=
 if Qa9 t down=true then (if 0<=d/\d<t.nodes then (if 0<=n/\n<t.nodes then (QbF t down (Qat t down d false) n d,0)else ([],2))else ([],2))else ([],1)
theorem Qss(P:Program)(hP:P=Tryd.prog)(t:Top)(down:List Bool)(n d:Int):Ret P Qhu [Qa2 t,QaY down,iA n,iA d] (.tup [QaT (Qg6 t down n d).1,iA (Qg6 t down n d).2]):=by
 have hs:=Qn3 P hP t down d;have hfb:Qa9 t down=true->Qao t=true/\(down.length=0\/down.length=2*t.links.length):=by
  intro h;simpa [Qa9]using h
 have hn:=fun(hf:Qa9 t down=true) (h:0<=d/\d<t.nodes)=>Qut P hP t down (Qat t down d false) n d (hfb hf).1 (hfb hf).2 (QdY (hfb hf).1 down false h.1 h.2).1.len (QdY (hfb hf).1 down false h.1 h.2).2
 refine Qag (hP▸mixed) (hP▸QlE) (hP▸QmB) (nle rfl) fun Λ Λo K hK=> ?_
 clear hP hfb;have hsr:QbG t down d false=if Qa9 t down=true then (if 0<=d/\d<t.nodes then (Qat t down d false,0)else ([],2))else ([],1):=rfl
 have hnr:Qg6 t down n d=if Qa9 t down=true then (if 0<=d/\d<t.nodes then (if 0<=n/\n<t.nodes then (QbF t down (Qat t down d false) n d,0)else ([],2))else ([],2))else ([],1):=rfl
 generalize QbG t down d false=sr at*;generalize Qg6 t down n d=nr at*;generalize QbF t down (Qat t down d false) n d=nl at*;generalize Qat t down d false=ds at*;by_cases hf:Qa9 t down=true
 ·rw[if_pos hf]at hsr hnr;by_cases hd:0<=d/\d<t.nodes
  ·rw[if_pos hd]at hsr hnr;have hn:=hn hf hd;subst hsr;have k1:¬(0<=n/\n<t.nodes)->K (.tup [QaT [],iA 2]):=by intro h;rw[hnr,if_neg h]at hK;exact hK
   have k2:(0<=n/\n<t.nodes)->K (.tup [QaT nl,iA 0]):=by intro h;rw[hnr,if_pos h]at hK;exact hK
   clear hK hnr;simp only[QaT,QaU,QaY,Qaf,List.map_nil]at*;generalize nl.map QaA=nl' at*;generalize ds.map QaA=ds' at*;generalize down.map QbA=dl at*;obtain⟨nodes,ov,links⟩:=t;simp only[Qa2,Qaf,Qak]at*;generalize hol:ov.map QbA=ol at*;generalize hll:links.map QaL=ll at*;have hlo:Λ ol=ov.length:=by rw[Λo,←hol];simp
   have hls:Λ ll=links.length:=by rw[Λo,←hll];simp
   conv=>cbv
   repeat' first|(refine Qaj hs rfl rfl ?_;conv=>cbv)|(refine Qaj hn rfl rfl ?_;conv=>cbv)|exact gu|exact trivial|refine And.intro ?_ ?_|(intro hc;first|exact absurd hc (by decide)|(exfalso;omega)|((first|rw[wS (by omega) (by omega)]at hc|rw[Qad]at hc|skip);try (conv=>cbv)))|refine CallG.old ?_
   ·exact k1 (by omega)
   ·exact k1 (by omega)
   ·exact k2 (by omega)
  ·rw[if_neg hd]at hsr hnr;subst hsr hnr;simp only[QaT,QaU,QaY,Qaf,List.map_nil]at*;generalize down.map QbA=dl at*;obtain⟨nodes,ov,links⟩:=t;simp only[Qa2,Qaf,Qak]at*;generalize hol:ov.map QbA=ol at*;generalize hll:links.map QaL=ll at*;have hlo:Λ ol=ov.length:=by rw[Λo,←hol];simp
   have hls:Λ ll=links.length:=by rw[Λo,←hll];simp
   conv=>cbv
   repeat' first|(refine Qaj hs rfl rfl ?_;conv=>cbv)|exact gu|exact trivial|refine And.intro ?_ ?_|(intro hc;first|exact absurd hc (by decide)|(exfalso;omega)|((first|rw[wS (by omega) (by omega)]at hc|rw[Qad]at hc|skip);try (conv=>cbv)))|refine CallG.old ?_
   exact hK
 ·rw[if_neg hf]at hsr hnr;subst hsr hnr;simp only[QaT,QaU,QaY,Qaf,List.map_nil]at*;generalize down.map QbA=dl at*;obtain⟨nodes,ov,links⟩:=t;simp only[Qa2,Qaf,Qak]at*;generalize hol:ov.map QbA=ol at*;generalize hll:links.map QaL=ll at*;have hlo:Λ ol=ov.length:=by rw[Λo,←hol];simp
  have hls:Λ ll=links.length:=by rw[Λo,←hll];simp
  conv=>cbv
  repeat' first|(refine Qaj hs rfl rfl ?_;conv=>cbv)|exact gu|exact trivial|refine And.intro ?_ ?_|(intro hc;first|exact absurd hc (by decide)|(exfalso;omega)|((first|rw[wS (by omega) (by omega)]at hc|rw[Qad]at hc|skip);try (conv=>cbv)))|refine CallG.old ?_
  exact hK
noncomputable def toL(t:Top)(down:List Bool)(n:Int)(k:Nat):List Ety:=(QaK k).map fun d=>⟨(Qg6 t down n d).1,false,[]⟩
def Qj5(t:Top)(down:List Bool)(n:Int):List Int:=(Qkd t n).filter fun a=> !upB down a
noncomputable def QbS(t:Top)(down:List Bool)(n:Int):Tab×Int:=
 if Qa9 t down=true then (if 0<=n/\n<t.nodes then (⟨n,toL t down n t.nodes.toNat,Qj5 t down n⟩,0)else (⟨0,[],[]⟩,2))else (⟨0,[],[]⟩,1)
set_option maxHeartbeats 2000000 in
theorem QsL(P:Program)(hP:P=Tryd.prog)(t:Top)(down:List Bool)(n:Int):Ret P QcR [Qa2 t,QaY down,iA n] (.tup [QqR (QbS t down n).1,iA (QbS t down n).2]):=by
 have hfits:=Qi2 P hP t down;have hnext:=fun d=>Qss P hP t down n d
 have hout:=QvB P hP t n;have hup:=fun a=>Qu5 P hP down a
 refine Qag (hP▸mixed) (hP▸QeU) (hP▸Qfy) (nle rfl) fun Λ Λo K hK=> ?_
 clear hP;have k1:Qa9 t down=false->K (.tup [QqR ⟨0,[],[]⟩,iA 1]):=by
  intro h;rw[QbS,if_neg (by rw[h];decide)]at hK;exact hK
 have k2:Qa9 t down=true->¬(0<=n/\n<t.nodes)->K (.tup [QqR ⟨0,[],[]⟩,iA 2]):=by
  intro h h';rw[QbS,if_pos h,if_neg h']at hK;exact hK
 have k3:Qa9 t down=true->(0<=n/\n<t.nodes)->K (.tup [QqR ⟨n,toL t down n t.nodes.toNat,Qj5 t down n⟩,iA 0]):=by
  intro h h';rw[QbS,if_pos h,if_pos h']at hK;exact hK
 clear hK;have hfb:Qa9 t down=true->Qao t=true/\(down.length=0\/down.length=2*t.links.length):=by
  intro h;simpa [Qa9]using h
 have hn64:=fun(hv:Qao t=true)=>(Qai.1 hv).1
 have hor:Qao t=true->∀a∈Qkd t n,0<=a/\a<2*t.links.length:=by
  intro hv a ha;have h2:QbC t=2*t.links.length:=by rw[QbC,if_pos hv]
  simp only[Qkd,List.mem_filter,QaK,List.mem_map,List.mem_range]at ha;obtain⟨⟨k,hk,rfl⟩,_⟩:=ha;omega
 have hol':(Qkd t n).length<=512:=by
  rw[Qkd];refine Nat.le_trans (List.length_filter_le _ _) ?_;have:=(QdF t).2.1;simp only[QaK,List.length_map,List.length_range];omega
 have hts:∀k,toL t down n (k+1)=toL t down n k++[⟨(Qg6 t down n k).1,false,[]⟩]:=by
  intro k;simp[toL,Qci]
 have ht0:toL t down n 0=[]:=rfl;have htn:∀k,(toL t down n k).length=k:=by intro k;simp[toL,QaK]
 have hdl':Qj5 t down n=(Qkd t n).filter fun a=> !upB down a:=rfl
 generalize Qa9 t down=fb at*;generalize Qao t=v at*;generalize toL t down n=tol at*;generalize Qj5 t down n=dol at*;generalize upB down=ub at*;generalize Qg6 t down n=nx at*;generalize Qkd t n=ou at*;simp only[QaY,Qaf]at*;generalize hdl:down.map QbA=dl at*;obtain⟨nodes,ov,links⟩:=t;simp only[Qa2,Qaf,Qak]at*;generalize hol:ov.map QbA=ol at*;generalize hll:links.map QaL=ll at*;have hlo:Λ ol=ov.length:=by rw[Λo,←hol];simp
 have hls:Λ ll=links.length:=by rw[Λo,←hll];simp
 simp only[QqR,QaT,QaU,Qh1,List.map_nil]at*;cases fb
 ·conv=>cbv
  repeat' first|refine QaF hfits rfl rfl ?_ ?_|(intro hc;cases hc;done)|exact gu|exact trivial|refine And.intro ?_ ?_|(intro hc;first|exact absurd hc (by decide)|(exfalso;omega)|((first|rw[wS (by omega) (by omega)]at hc|rw[Qad]at hc|skip);try (conv=>cbv)))|refine CallG.old ?_
  exact k1 rfl
 obtain⟨hv,hdo⟩:=hfb rfl;subst hv;simp only[forall_const]at*
 conv=>cbv
 repeat' first|refine QaF hfits rfl rfl ?_ ?_|(intro hc;cases hc;done)|exact gu|exact trivial|refine And.intro ?_ ?_|(intro hc;first|exact absurd hc (by decide)|(exfalso;omega)|((first|rw[wS (by omega) (by omega)]at hc|rw[Qad]at hc|skip);try (conv=>cbv)))|refine CallG.old ?_
 ·exact k2 (by omega)
 ·exact k2 (by omega)
 have k3:=k3 (by omega);clear k1 k2 hfits hfb;refine QcQ nodes.toNat (fun(s:Int×Nat×Nat×Bool×List (List D))=>[(1,.c (.d (.list false 1 dl))),(2,iA n),(3,.c (.ptr 0 0 0 0)),(6,.c (.ptr 1 0 0 0)),(8,.c (.ptr 2 0 0 0)),(9,iA s.1)])
  (fun s=>[.bx [.d (iD nodes),.d (.list false 1 ol),.d (.list false 7 ll)],.bx [.d (iD 0),.d (.list true 3 []),.d (.list true 1 [])],.bx [.d (iD n),.arr 3 s.2.1 0 s.2.2.1,.d (.list true 1 [])],.da s.2.2.2.1 s.2.1 3 s.2.2.2.2])
  (fun k s=>s.1=k/\k<=nodes.toNat/\s.2.2.1=s.2.2.2.2.length/\s.2.2.2.2=(tol k).map QaG/\s.2.2.1=k) (0,0,0,false,[])
  0 (fun(s:Nat×Bool)=>[(1,.c (.d (.list false 1 dl))),(2,iA n),(3,.c (.ptr 0 0 0 0)),(6,.c (.ptr 1 0 0 0)),(8,.c (.ptr 2 0 0 0))])
  (fun s=>[.bx [.d (iD nodes),.d (.list false 1 ol),.d (.list false 7 ll)],.bx [.d (iD 0),.d (.list true 3 []),.d (.list true 1 [])],.bx [.d (iD n),.arr 3 s.1 0 nodes.toNat,.d (.list true 1 [])],.da s.2 s.1 3 ((tol nodes.toNat).map QaG)]) (fun _=>True)
  (.trans (.nilB 2 1 3 _ rfl rfl) (Wk.cw)) ⟨rfl,by omega,rfl,by rw[ht0];rfl,rfl⟩ (fun k s h=>h.2.1) ?_ ?_
 ·rintro k ⟨d,ve,m,r,es⟩ Q' ⟨hi,hk,hm,hes,hmk⟩ norm jn ex rt;simp only at hi hm hes hmk;have hnx:=hnext d;have hts:=hts k;rw[←hi]at hts;generalize nx d=nd at*;obtain⟨nl,ne⟩:=nd;simp only at hnx hts;generalize hnl:nl.map QaA=nll at*;by_cases hlt:k<nodes.toNat
  ·conv=>cbv
   repeat' first|(refine ex _ _ _ ?_;(conv=>cbv))|(refine Qaj hnx rfl rfl ?_;conv=>cbv)|(intro(_:Unit);refine⟨rfl,?_⟩;simp only[List.length_cons,List.length_nil];omega)|exact gu|exact trivial|refine And.intro ?_ ?_|(intro hc;first|exact absurd hc (by decide)|(exfalso;omega)|((first|rw[wS (by omega) (by omega)]at hc|rw[Qad]at hc|skip);try (conv=>cbv)))|refine CallG.old ?_
   rename_i m' r' es2 hm' hr' he' i';refine norm _ _ (_,_,_,_,_) ?_ (Wk.cw);have e:es2=(tol (k+1)).map QaG:=by
    rw[he',List.drop_zero,hm,List.take_length,hes,hts,List.map_append];simp only[List.map_cons,List.map_nil,QaG,QaU,Qbn,hnl]
   exact⟨by simp only;omega,by omega,by simp only;rw[hm',he',List.drop_zero,hm,List.take_length];simp,e,by simp only;rw[hm'];simp;omega⟩
  ·conv=>cbv
   repeat' first|exact gu|exact trivial|refine And.intro ?_ ?_|(intro hc;first|exact absurd hc (by decide)|(exfalso;omega)|((first|rw[wS (by omega) (by omega)]at hc|rw[Qad]at hc|skip);try (conv=>cbv)))|refine CallG.old ?_
   have e:k=nodes.toNat:=by omega
   subst e;subst hes hmk;refine jn _ _ (_,_) trivial (Wk.cw)
 rintro⟨ve,r⟩-
 generalize hN:nodes.toNat=N at*;generalize hTl:(tol N).map QaG=tl at*;generalize oeh:ou.map QaA=oe at*;have hon:Λ oe=ou.length:=by rw[Λo,←oeh];simp
 conv=>cbv
 repeat' first|(refine Qaj hout rfl rfl ?_;conv=>cbv)|exact gu|exact trivial|refine And.intro ?_ ?_|(intro hc;first|exact absurd hc (by decide)|(exfalso;omega)|((first|rw[wS (by omega) (by omega)]at hc|rw[Qad]at hc|skip);try (conv=>cbv)))|refine CallG.old ?_
 have htl:tl.length=N:=by rw[←hTl,List.length_map];exact htn N
 refine Qba ou.length (fun(s:Int×Nat×Nat×Bool×List (List D))=>[(1,.c (.d (.list false 1 dl))),(6,.c (.ptr 1 0 0 0)),(8,.c (.ptr 2 0 0 0)),(12,.c (.d (.list false 1 oe))),(13,iA s.1)])
  (fun s=>[.bx [.d (iD nodes),.d (.list false 1 ol),.d (.list false 7 ll)],.bx [.d (iD 0),.d (.list true 3 []),.d (.list true 1 [])],.bx [.d (iD n),.arr 3 ve 0 N,.arr 4 s.2.1 0 s.2.2.1],.da r ve 3 tl,.da s.2.2.2.1 s.2.1 1 s.2.2.2.2])
  (fun k s=>s.1=k/\k<=ou.length/\s.2.2.1=s.2.2.2.2.length/\s.2.2.2.2=((ou.take k).filter fun a=> !ub a).map QaA) (0,0,0,false,[])
  (.trans (.nilB 2 2 1 _ rfl rfl) (Wk.cw)) ⟨rfl,by omega,rfl,rfl⟩ (fun k s h=>h.2.1) ?_
 rintro k ⟨i,v2,m,r2,es⟩ Q' ⟨hi,hk,hm,hes⟩ norm ex rt;simp only at hi hm hes;have hesl:es.length<=k:=by
  rw[hes,List.length_map];refine Nat.le_trans (List.length_filter_le _ _) ?_;simp;omega
 by_cases hlt:k<ou.length
 ·obtain⟨x,hx⟩:∃x,ou[k]? =some x:=⟨_,lgE hlt⟩;have hxa:=Qhi oeh hi hx;have hxr:=hor x (mgE hx);have hux:=hup x (by omega);simp only[QaA]at hxa;generalize hubx:ub x=u at*
  conv=>cbv
  repeat' first|(refine ex _ _ _ ?_;(conv=>cbv))|(refine rt _ _ ?_;(conv=>cbv))|(intro e he;cases osj (he.symm.trans hxa);(conv=>cbv))|refine QaF hux rfl rfl ?_ ?_|(intro(_:Unit);refine⟨rfl,?_⟩;simp only[List.length_cons,List.length_nil];omega)|exact gu|exact trivial|refine And.intro ?_ ?_|(intro hc;first|exact absurd hc (by decide)|(exfalso;omega)|((first|rw[wS (by omega) (by omega)]at hc|rw[Qad]at hc|skip);try (conv=>cbv)))|refine CallG.old ?_
  ·refine norm _ _ (_,_,_,_,_) ?_ (Wk.cw);have e:es=((ou.take (k+1)).filter fun a=> !ub a).map QaA:=by
    rw[Qas hx,List.filter_append,List.map_append,←hes,List.filter_cons_of_neg (by rw[hubx];simp_all)];simp
   exact⟨by simp only;omega,by omega,hm,e⟩
  ·rename_i m' r' es2 hm' hr' he' i';refine norm _ _ (_,_,_,_,_) ?_ (Wk.cw);have e:es2=((ou.take (k+1)).filter fun a=> !ub a).map QaA:=by
    rw[he',List.drop_zero,hm,List.take_length,Qas hx,List.filter_append,List.map_append,←hes,List.filter_cons_of_pos (by rw[hubx];simp_all)];rfl
   exact⟨by simp only;omega,by omega,by simp only;rw[hm',he',List.drop_zero,hm,List.take_length];simp,e⟩
 ·conv=>cbv
  repeat' first|(refine ex _ _ _ ?_;(conv=>cbv))|(refine rt _ _ ?_;(conv=>cbv))|exact gu|exact trivial|refine And.intro ?_ ?_|(intro hc;first|exact absurd hc (by decide)|(exfalso;omega)|((first|rw[wS (by omega) (by omega)]at hc|rw[Qad]at hc|skip);try (conv=>cbv)))|refine CallG.old ?_
  rename_i l1 h1 l2;have e1:l1=tl:=by rw[h1,List.drop_zero,←htl,List.take_length]
  have e2:l2=dol.map QaA:=by rw[hc,List.drop_zero,hm,List.take_length,hes,hdl',List.take_of_length_le (by omega)]
  subst e1 e2;exact k3
end Go.Ab
