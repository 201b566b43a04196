/-
  Merged texts, part t.
-/
import Derived.Test.YtohbofilgkdihaaGreatDoorZs
set_option linter.all false
namespace Go.Ab
open Go.Proofs
def Jin(J:List Rsl->(Nat->Prop)->Ar->Prop)(pre0:List Rsl)(l' b3 N3 l:Nat)(rdy:AB):List Rsl->(Nat->Prop)->Ar->Prop:=fun pre' O' m'=>
 ∃O1,J (pre0++pre') O1 m'/\(∀b,O' b↔O1 b\/b=l'\/b=b3)/\m' l'=some rdy/\m' b3=some (.cs N3 [.yl l])/\¬O1 l'/\¬O1 b3
theorem YlC.inn{P:Program}{l N:Nat}{J:List Rsl->(Nat->Prop)->Ar->Prop}(hY:YlC P l N J){pre0:List Rsl}{l' b3 N3:Nat}{rdy bsy:AB}(hP:P=Tryz.prog)(hlb:l'≠b3)
 (hr:∀(m1:Ar) (r:Rsl) (K:Ar->Prop),m1 l'=some rdy->m1 b3=some (.cs N3 [.yl l])->FnS P (8589934592+l) [Quj r] [.am (mup m1 l' bsy)] (fun q h'=>q=bA true/\∃m2,h'=[.am m2]/\m2 l'=some bsy/\K (mup m2 l' rdy))->
   FnS P (8589934592+l') [Quj r] [.am m1] fun q h'=>q= .c (.d (.bool true))/\∃m3 tl,h'= .am m3::tl/\K m3):YlC P l' (N-pre0.length) (Jin J pre0 l' b3 N3 l rdy)where
 no:=nofn P hP l'
 out pre' O' m1 r hj hN:=by
  obtain⟨O1,h1,h2,h3,h4,h5,h6⟩:=hj;have hj1:J (pre0++pre') O1 (mup m1 l' bsy):=hY.st _ _ _ _ h1 fun b hb=>Qaq fun e=>h5 (e▸hb)
  have hf:=hY.out _ O1 _ r hj1 (by rw[List.length_append];omega);have hk:=hr m1 r (fun m3=>∃O3,Jin J pre0 l' b3 N3 l rdy (pre'++[r]) O3 m3/\(∀b,m1 b≠none->¬O' b->m3 b=m1 b)/\∀b,O3 b->O' b\/m1 b=none) h3 h4 (hf.mono ?_)
  ·refine(hk.cut ?_).mono ?_
   ·rintro q h' ⟨rfl,m3,tl,rfl,-⟩;exact⟨rfl,rfl⟩
   ·rintro q h1' ⟨h2',⟨rfl,m3,tl,e,O3,hO3⟩,hl⟩
    match h1',hl with
    |[k],_=>
     simp only[List.cons_append,List.nil_append,List.cons.injEq]at e;exact⟨rfl,m3,O3,by rw[e.1],hO3⟩
  ·rintro q h' ⟨rfl,m2,O2,rfl,k1,k2,k3⟩;have hO2:∀b,mup m1 l' bsy b≠none->¬O1 b->¬O2 b:=fun b a1 a2 a3=>(k3 b a3).elim a2 a1
   have hl2:¬O2 l':=hO2 l' (by rw[Qbb];simp) h5;have hb2:¬O2 b3:=hO2 b3 (by rw[Qaq (fun e=>hlb e.symm),h4];simp) h6;have hml:m2 l'=some bsy:=by rw[k2 l' (by rw[Qbb];simp) h5,Qbb]
   have hmb:m2 b3=some (.cs N3 [.yl l]):=by rw[k2 b3 (by rw[Qaq (fun e=>hlb e.symm),h4];simp) h6,Qaq (fun e=>hlb e.symm),h4]
   refine⟨rfl,m2,rfl,hml,fun b=>O2 b\/b=l'\/b=b3,⟨O2,?_,fun b=>Iff.rfl,Qbb _ _ _,by rw[Qaq (fun e=>hlb e.symm)];exact hmb,hl2,hb2⟩,fun b a1 a2=> ?_,fun b hb=> ?_⟩
   ·rw[←List.append_assoc];exact hY.st _ _ _ _ k1 fun b hb=>Qaq fun e=>hl2 (e▸hb)
   ·have hbl:b≠l':=fun e=>a2 ((h2 b).2 (.inr (.inl e)))
    have hbo:¬O1 b:=fun e=>a2 ((h2 b).2 (.inl e))
    rw[Qaq hbl,k2 b (by rw[Qaq hbl];exact a1) hbo,Qaq hbl]
   ·rcases hb with hb|hb
    ·rcases k3 b hb with h|h
     ·exact .inl ((h2 b).2 (.inl h))
     ·by_cases e:b=l'
      ·exact .inl ((h2 b).2 (.inr (.inl e)))
      ·rw[Qaq e]at h;exact .inr h
    ·exact .inl ((h2 b).2 (.inr hb))
 st pre' O' m1 m2 hj hm:=by
  obtain⟨O1,h1,h2,h3,h4,h5,h6⟩:=hj;exact⟨O1,hY.st _ _ _ _ h1 fun b hb=>hm b ((h2 b).2 (.inl hb)),h2,by rw[hm l' ((h2 l').2 (.inr (.inl rfl)))];exact h3,by rw[hm b3 ((h2 b3).2 (.inr (.inr rfl)))];exact h4,h5,h6⟩
 ne pre' O' m1 b hj hb:=by
  obtain⟨O1,h1,h2,h3,h4,h5,h6⟩:=hj;rcases(h2 b).1 hb with h|rfl|rfl
  ·exact hY.ne _ _ _ _ h1 h
  ·rw[h3];simp
  ·rw[h4];simp
abbrev brT (g:Wlk) (n:Nat) (x:WSt) (p:List Int) (k:Nat):List Rsl:=((g.ar x).take k).flatMap fun e=>brR g n (g.to x e) (p++[e])
structure BrI (g:Wlk) (J:List Rsl->(Nat->Prop)->Ar->Prop) (n:Nat) (x:WSt) (p:List Int) (b3 N3 l:Nat) (pre:List Rsl) (O:Nat->Prop) (m:Ar) (k:Nat) (q:Ar×(Nat->Prop)×Int):Prop where
 i:q.2.2=k
 le:k<=(g.ar x).length
 j:J (pre++brT g n x p k) q.2.1 q.1
 at3:q.1 b3=some (.cs N3 [.yl l])
 new:m b3=none
 bo:¬q.2.1 b3
 fr:∀b,m b≠none->¬O b->q.1 b=m b
 own:∀b,q.2.1 b->O b\/m b=none
theorem QqE{g:Wlk}{n:Nat}{x:WSt}{p:List Int}{k:Nat}{e:Int}(he:(g.ar x)[k]? =some e):brT g n x p (k+1)=brT g n x p k++brR g n (g.to x e) (p++[e]):=by
 simp only[brT];rw[List.take_add_one,he,List.flatMap_append];simp
theorem QzF{g:Wlk}{n:Nat}{x:WSt}{p:List Int}{k:Nat}(hx:g.ar x≠[]):(brT g n x p k).length<=(brR g (n+1) x p).length:=by
 rw[QqD hx]
 conv=>rhs;rw[←List.take_append_drop k (g.ar x),List.flatMap_append,List.length_append]
 exact Nat.le_add_right _ _
theorem QxE{g:Wlk}{n:Nat}{x:WSt}{p:List Int}{k:Nat}(hx:g.ar x≠[])(hk:(g.ar x).length<=k):brT g n x p k=brR g (n+1) x p:=by
 rw[QqD hx];simp only[brT];rw[List.take_of_length_le hk]
section
variable{P:Program}{g:Wlk}{l N:Nat}{J:List Rsl->(Nat->Prop)->Ar->Prop}{n:Nat}{x:WSt}{p:List Int}{b3 N3:Nat}{pre:List Rsl}{O:Nat->Prop}{m:Ar}{kk:Nat}{m' m3 m4:Ar}{O':Nat->Prop}{i:Int}{bx1 bp1 Nx1 Np1 ab l':Nat}{ye:List (List D)}{e:Int}{rdy:AB}
theorem QeC{m m2:Ar}{b c:Nat}{x:AB}(hm:m2=mup m b x)(h:m2 c=none):m c=none:=by
 by_cases e:c=b
 ·rw[hm,e,Qbb]at h;cases h
 ·rw[hm,Qaq e]at h;exact h
theorem Qc1{m m2:Ar}{b c:Nat}{x:AB}(hm:m2=mup m b x)(hb:m b=none)(h:m c≠none):m2 c=m c:=by
 rw[hm,Qaq (fun e=>h (by rw[e];exact hb))]
theorem QzG(hY:YlC P l N J)(hI:BrI g J n x p b3 N3 l pre O m kk (m',O',i))(hbx:m' bx1=none)(hm3:m3=mup m' bx1 (.cs Nx1 [.adr ab 0]))(hbp:m3 bp1=none)(hm4:m4=mup m3 bp1 (.cs Np1 [.list false 1 ye]))(hl:m4 l'=none)
 (hpe:(p++[e]).map QaE=ye)(hpt:PT g O m n (g.to x e) ab)(hlen:p.length+(n+1)<=1000000):
  BrP g (Jin J (pre++brT g n x p kk) l' b3 N3 l rdy) n (g.to x e) (p++[e]) false ab bx1 bp1 Nx1 Np1 [] (fun b=>O' b\/b=l'\/b=b3) (mup m4 l' rdy):=by
 obtain⟨-,-,hj,h3,hnew,ho3,hfr,how⟩:=hI;simp only at hj h3 ho3 hfr how;have hne:∀b,O' b->m' b≠none:=fun b hb=>hY.ne _ _ _ _ hj hb
 have hk4:∀b,m' b≠none->mup m4 l' rdy b=m' b:=fun b hb=>by
  have h1:=Qc1 hm3 hbx hb;have h2:=Qc1 hm4 hbp (by rw[h1];exact hb);rw[Qaq (fun e=>by rw[←e,h2,h1]at hl;exact hb hl),h2,h1]
 have hl0:m' l'=none:=QeC hm3 (QeC hm4 hl);have hx4:m4 bx1=some (.cs Nx1 [.adr ab 0]):=QbW hm4 hbp (Qbl hm3);have hp4:m4 bp1=some (.cs Np1 [.list false 1 ye]):=Qbl hm4;have hbp0:m' bp1=none:=QeC hm3 hbp;refine{j:=⟨O',?_,fun b=>Iff.rfl,Qbb _ _ _,?_,fun h=>hne _ h hl0,ho3⟩,pt:=hpt.keep (fun b h1 h2=> ?_) fun b hb=> ?_,mx:= ?_,xo:= ?_,mp:= ?_,po:= ?_,nt:=fun h=>by simp at h,nf:=fun _=>rfl,len:=by simp;omega}
 ·rw[List.append_nil];exact hY.st _ _ _ _ hj fun b hb=>hk4 b (hne b hb)
 ·rw[hk4 b3 (by rw[h3];simp),h3]
 ·rw[hk4 b (by rw[hfr b h1 h2];exact h1),hfr b h1 h2]
 ·rcases hb with hb|rfl|rfl
  ·exact how b hb
  ·by_cases h0:m b=none
   ·exact .inr h0
   ·by_cases ho:O b
    ·exact .inl ho
    ·rw[hfr b h0 ho]at hl0;exact absurd hl0 h0
  ·exact .inr hnew
 ·rw[Qaq (fun e=>by rw[e,hl]at hx4;cases hx4)];exact hx4
 ·rintro(h|rfl|rfl)
  ·exact hne _ h hbx
  ·rw[hl]at hx4;cases hx4
  ·rw[hbx]at h3;cases h3
 ·rw[Qaq (fun e=>by rw[e,hl]at hp4;cases hp4),hpe];exact hp4
 ·rintro(h|rfl|rfl)
  ·exact hne _ h hbp0
  ·rw[hl]at hp4;cases hp4
  ·rw[hbp0]at h3;cases h3
theorem Qvb(hY:YlC P l N J)(hI:BrI g J n x p b3 N3 l pre O m kk (m',O',i))(hbx:m' bx1=none)(hm3:m3=mup m' bx1 (.cs Nx1 [.adr ab 0]))(hbp:m3 bp1=none)(hm4:m4=mup m3 bp1 (.cs Np1 [.list false 1 ye]))(hl:m4 l'=none)(he:(g.ar x)[kk]? =some e)
 {m5:Ar}{O5:Nat->Prop}(hj5:Jin J (pre++brT g n x p kk) l' b3 N3 l rdy ([]++brR g n (g.to x e) (p++[e])) O5 m5)(h5:∀b,mup m4 l' rdy b≠none->¬(O' b\/b=l'\/b=b3)->m5 b=mup m4 l' rdy b)(ho5:∀b,O5 b->(O' b\/b=l'\/b=b3)\/mup m4 l' rdy b=none):
  m5 l'=some rdy/\∃O6,BrI g J n x p b3 N3 l pre O m (kk+1) (mdel m5 l',O6,((kk+1:Nat):Int)):=by
 obtain⟨-,-,hj,h3,hnew,ho3,hfr,how⟩:=hI;simp only at hj h3 ho3 hfr how;have hne:∀b,O' b->m' b≠none:=fun b hb=>hY.ne _ _ _ _ hj hb
 have hk4:∀b,m' b≠none->mup m4 l' rdy b=m' b:=fun b hb=>by
  have h1:=Qc1 hm3 hbx hb;have h2:=Qc1 hm4 hbp (by rw[h1];exact hb);rw[Qaq (fun e=>by rw[←e,h2,h1]at hl;exact hb hl),h2,h1]
 have hl0:m' l'=none:=QeC hm3 (QeC hm4 hl);obtain⟨O6,k1,k2,k3,k4,k5,k6⟩:=hj5;refine⟨k3,O6,{i:=rfl,le:=Qaa he,j:= ?_,at3:= ?_,new:=hnew,bo:=k6,fr:=fun b h1 h2=> ?_,own:=fun b hb=> ?_}⟩
 ·rw[QqE he,←List.append_assoc];exact hY.st _ _ _ _ (by simpa using k1) fun b hb=>QbQ fun e=>k5 (e▸hb)
 ·simp only;rw[QbQ (fun e=>by rw[←e,h3]at hl0;cases hl0)];exact k4
 ·have h0:m' b=m b:=hfr b h1 h2;have h0n:m' b≠none:=by rw[h0];exact h1
  have hbl:b≠l':=fun e=>by rw[e]at h0n;exact h0n hl0
  have hb3':b≠b3:=fun e=>by rw[e]at h1;exact h1 hnew
  have hbo:¬O' b:=fun h=>(how b h).elim h2 h1
  simp only;rw[QbQ hbl,h5 b (by rw[hk4 b h0n];exact h0n) (fun h=>h.elim hbo fun h=>h.elim hbl hb3'),hk4 b h0n,h0]
 ·simp only at hb;rcases ho5 b ((k2 b).2 (.inl hb))with (h|h|h)|h
  ·exact how b h
  ·exact absurd (h▸hb) k5
  ·exact absurd (h▸hb) k6
  ·by_cases h0:m b=none
   ·exact .inr h0
   ·by_cases ho:O b
    ·exact .inl ho
    ·have h1:m' b≠none:=by rw[hfr b h0 ho];exact h0
     rw[hk4 b h1]at h;exact absurd h h1
end
theorem QmE:∀l:List Nat,(l.map Qgu).flatten=l.map fun b=>D.adr b 0
 |[]=>rfl
 |b::r=>by rw[List.map_cons,List.flatten_cons,QmE r];rfl
theorem QxF(P:Program)(hP:P=Tryz.prog){g:Wlk}{l N:Nat}{J:List Rsl->(Nat->Prop)->Ar->Prop}(hY:YlC P l N J){n:Nat}{x:WSt}{p:List Int}{nl:Bool}{a bx bp Nx Np:Nat}{pre:List Rsl}{O:Nat->Prop}{m:Ar}
 (hb0:BrP g J (n+1) x p nl a bx bp Nx Np pre O m)(hx:g.ar x≠[])(hN:pre.length+(brR g (n+1) x p).length<=N)
 (ih:∀(e:Int),e∈g.ar x->∀{l N:Nat} {J:List Rsl->(Nat->Prop)->Ar->Prop},YlC P l N J->∀{a bx bp Nx Np:Nat} {pre:List Rsl} {O:Nat->Prop} {m:Ar},BrP g J n (g.to x e) (p++[e]) false a bx bp Nx Np pre O m->pre.length+(brR g n (g.to x e) (p++[e])).length<=N->
   FnS P Qak [.c (.d (.yl l)),.c (.d (.adr bx 0)),.c (.d (.adr bp 0))] [.am m] fun _ h'=>YlE J pre (brR g n (g.to x e) (p++[e])) O m h'):
  FnS P Qak [.c (.d (.yl l)),.c (.d (.adr bx 0)),.c (.d (.adr bp 0))] [.am m] fun _ h'=>YlE J pre (brR g (n+1) x p) O m h':=by
 have hcn:=fun h=>Qk0 P hP h nl (p.map QaE) (by have:=hb0.len;rw[List.length_map];omega) (fun h=>hb0.nt (by simpa using h)) (fun h=>hb0.nf (by simpa using h))
 have hmk:=fun m a pl=>QtV P hP m a false pl
 have hno:=nofn P hP;have hfok:FnOk P Qak:=⟨_,hP▸Qa2,rfl,by decide⟩;have hin:=fun{pre0:List Rsl} {l' b3 N3:Nat} {rdy bsy:AB} (h:l'≠b3)=>hY.inn (pre0:=pre0) (l':=l') (b3:=b3) (N3:=N3) (rdy:=rdy) (bsy:=bsy) hP h
 refine QaI (hP▸mixed) (hP▸Qa2) (hP▸Qct) (nle rfl) fun Λ Λo K hK=> ?_
 clear hP;obtain⟨hao,Na,nx,c,ads,hat,hrow,hnxo,hal,hpt⟩:=hb0.pt;have hmx:=hb0.mx;have hmp:=hb0.mp;simp only[plD]at hat;have hend:=fun h' (h:YlE J pre (brR g (n+1) x p) O m h')=>hK (.tup []) h' h
 have hfz:=fun b (hf:m b=none)=>(fun c (hc:O c) (e:c=b)=>hY.ne pre O m c hb0.j hc (e▸hf):∀c,O c->c=b->False)
 clear hK;have hΛ:Λ ((g.ar x).map QaE)=(g.ar x).length:=by rw[Λo];simp
 have hpos:0<(g.ar x).length:=by
  cases h:g.ar x with
  |nil=>exact absurd h hx
  |cons=>simp
 generalize hpl:p.map QaE=pl at*;generalize harl:(g.ar x).map QaE=arl at*
 conv=>cbv
 repeat' first|(right;intro(_:Unit);intro(b3:Nat) (N3:Nat) (m2:Ar) hbn (_:_<=N3) hm2;have hx2:=QbW hm2 hbn hmx;have ha2:=QbW hm2 hbn hat;have hp2:=QbW hm2 hbn hmp;have hb2:=Qbl hm2;have hj2:=hY.st pre O m m2 hb0.j (fun c hc=>by rw[hm2,Qaq (fun e=>hfz b3 hbn c hc e)]);(conv=>cbv))|(refine⟨Nx,_,_,hx2,rfl,?_⟩;(conv=>cbv))|(refine⟨Na,_,_,ha2,rfl,?_⟩;(conv=>cbv))|(refine⟨Np,_,_,hp2,rfl,?_⟩;(conv=>cbv))|(refine⟨N3,_,_,hb2,rfl,?_⟩;(conv=>cbv))|exact gu|exact trivial|refine And.intro ?_ ?_|(intro hc;first|exact absurd hc (by decide)|(exfalso;omega)|((first|rw[wS (by omega) (by omega)]at hc|rw[Qab]at hc|skip);try (conv=>cbv)))|refine CallG.old ?_
 have hb3o:¬O b3:=fun h=>hfz b3 hbn b3 h rfl
 refine QaR (g.ar x).length (fun(q:Ar×(Nat->Prop)×Int)=>[(1,.c (.d (.adr bx 0))),(2,.c (.d (.adr bp 0))),(3,.c (.d (.adr b3 0))),(29,.c (.d (.list false 1 arl))),(30,iA (Λ arl)),(31,iA q.2.2)]) (fun q=>[.am q.1]) (BrI g J n x p b3 N3 l pre O m) (m2,O,0) (Wk.ca)
  {i:=rfl,le:=Nat.zero_le _,j:=by simpa [brT]using hj2,at3:=hb2,new:=hbn,bo:=hb3o,fr:=fun b h1 _=>(by rw[hm2];exact Qaq fun e=>h1 (by rw[e];exact hbn)),own:=fun b h=> .inl h} (fun k s h=>h.le) ?_
 rintro kk ⟨m',O',i⟩ Q' hI norm ex rt;have⟨hi,hk,hj,h3,hb3n,ho3,hfr,how⟩:=hI;simp only at hi hj h3 ho3 hfr how;subst hi;have hkp:∀b y,m b=some y->¬O b->m' b=some y:=fun b y h1 h2=>by rw[hfr b (by rw[h1];simp) h2];exact h1
 have gx:=hkp _ _ hmx hb0.xo;have gp:=hkp _ _ hmp hb0.po;have ga:=hkp _ _ hat hao;by_cases hlt:kk<(g.ar x).length
 ·obtain⟨e,he⟩:∃e,(g.ar x)[kk]? =some e:=⟨_,lgE hlt⟩;obtain⟨ab,hab⟩:∃ab,ads[kk]? =some ab:=⟨_,lgE (by omega)⟩;rcases hrow with ⟨rfl,hads⟩|⟨bn,Nn,cap,rfl,hbn2,hsz,hcap,hNn⟩
  ·have:ads=[]:=by simpa using hads
   rw[this]at hal;simp at hal;omega
  have gn:=hkp _ _ hbn2 (hnxo _ ⟨_,_,_,_,rfl⟩);obtain⟨ka,hka⟩:∃ka:Int,(kk:Int)=ka:=⟨_,rfl⟩;have hk0:0<=ka:=by omega
  have hkl3:ka<(g.ar x).length:=by omega
  have hk1:((kk+1:Nat):Int)=ka+1:=by omega
  have hee:=he;have hak:arl[ka.toNat]? =some (QaE e):=by rw[←hka,←harl,Int.toNat_natCast,gtm,he];rfl
  have hck:(List.map Qgu ads).flatten[kk]? =some (.adr ab 0):=by rw[QmE,gtm,hab];rfl
  have hnal2:(List.map Qgu ads).length=(g.ar x).length:=by rw[List.length_map];exact hal
  obtain⟨rb,hnew⟩:=hcn [.am m'];have hnp1:pl.length<=1000000:=by rw[←hpl,List.length_map];have:=hb0.len;omega
  generalize hnp:pl.length=np at*;obtain⟨ye,hye⟩:∃ye,ye=pl++[QaE e]:=⟨_,rfl⟩;obtain⟨n1,hn1⟩:∃n1,n1=np+1:=⟨_,rfl⟩;have hyl:n1=ye.length:=by rw[hye,hn1,List.length_append,hnp];rfl
  have hpe:(p++[e]).map QaE=ye:=by rw[List.map_append,hpl,hye];rfl
  have nrm:=fun L' h' m3 O3 hx=>norm L' h' (m3,O3,((kk+1:Nat):Int)) hx
  clear norm;simp only[hka,hk1]at nrm ⊢;generalize hcells:(List.map Qgu ads).flatten=cells at*;generalize hnal:(List.map Qgu ads).length=nal at*
  conv=>cbv
  repeat' first|(refine Qlm 1 2 1 n1 rfl hyl (by repeat' first|exact trivial|refine And.intro ?_ ?_|rfl) (by repeat' first|exact trivial|refine And.intro ?_ ?_|rfl) ?_;(conv=>cbv))|(refine Qar [0] (hmk m' ab ye) rfl rfl (by decide) (by repeat' first|exact trivial|refine And.intro ?_ ?_|rfl) rfl rfl ?_;rintro r hc' ⟨bx1,bp1,Nx1,Np1,m3,m4,rfl,rfl,hbx1,hm3,hbp1,hm4⟩;(conv=>cbv))|(refine CallG.nw (fun n=> .c (.arr n 1 0 np)) (.da rb 1 1 pl) (.inl ⟨_,_,rfl⟩) rfl (hnew _ rfl) rfl ?_;(conv=>cbv))|(intro(m:Nat) (r:Bool) (y:List (List D)) hm hr hy;refine(fun(hz:n1=m) (hz2:ye=y)=> ?_) (by first|omega|(simp only[List.length_cons,List.length_nil]at hm;omega)) (by first|(rw[hy,List.drop_zero,List.take_of_length_le (by omega)];exact hye)|(rw[hy];exact hye));subst hz;subst hz2;(conv=>cbv))|(intro(k:Nat) hk;refine(fun(hz:kk=k)=> ?_) ?_;rotate_left;omega;subst hz;(conv=>cbv))|(intro(e:List D) he;cases osj (he.symm.trans hak);(conv=>cbv))|(refine⟨Nx,_,_,gx,rfl,?_⟩;(conv=>cbv))|(refine⟨Na,_,_,ga,rfl,?_⟩;(conv=>cbv))|(refine⟨Np,_,_,gp,rfl,?_⟩;(conv=>cbv))|(refine⟨N3,_,_,h3,rfl,?_⟩;(conv=>cbv))|(refine⟨Nn,_,_,gn,hck,?_⟩;(conv=>cbv))|exact gu|exact trivial|refine And.intro ?_ ?_|(intro hc;first|exact absurd hc (by decide)|(exfalso;omega)|((first|rw[wS (by omega) (by omega)]at hc|rw[Qab]at hc|skip);try (conv=>cbv)))|refine CallG.old ?_
  clear hnew hcn hmk;have h33:m3 b3=some (.cs N3 [.yl l]):=QbW hm3 hbx1 h3;have h43:m4 b3=some (.cs N3 [.yl l]):=QbW hm4 hbp1 h33;refine⟨m4,_,_,_,rfl,rfl,rfl,hfok,hno,fun l' rdy bsy hl' hYl=> ?_⟩;have hlb:l'≠b3:=fun e=>by rw[e,h43]at hl';cases hl'
  have hr:∀(m1:Ar) (r:Rsl) (K:Ar->Prop),m1 l'=some rdy->m1 b3=some (.cs N3 [.yl l])->FnS P (8589934592+l) [Quj r] [.am (mup m1 l' bsy)] (fun q h'=>q=bA true/\∃m2,h'=[.am m2]/\m2 l'=some bsy/\K (mup m2 l' rdy))->
    FnS P (8589934592+l') [Quj r] [.am m1] fun q h'=>q= .c (.d (.bool true))/\∃m3 tl,h'= .am m3::tl/\K m3:=by
   intro m1 r K h1 h2 hf;refine hYl m1 (Quj r) K h1 rfl ?_;have h2b:mup m1 l' bsy b3=some (.cs N3 [.yl l]):=by rw[Qaq (fun e=>hlb e.symm)];exact h2
   generalize hmb:mup m1 l' bsy=m1b at*;have hnl:=hno l;clear hYl ih hin hfz hkp nrm ex rt hend;obtain⟨rn,rr,rp⟩:=r;simp only[Quj,Qax]at hf ⊢;generalize rp.map QaE=rpl at*
   conv=>cbv
   repeat' first|(left;intro(_:Unit);(conv=>cbv))|exact hnl|(refine⟨m1,_,rfl,h1,?_⟩;rw[hmb];(conv=>cbv))|(refine⟨N3,_,_,h2b,rfl,?_⟩;(conv=>cbv))|(refine Qs5 (l:=l) (by generalize l=l0;cases l0<;>rfl) [0] hf rfl rfl (by decide) (by repeat' first|exact trivial|refine And.intro ?_ ?_|rfl) rfl rfl ?_;rintro q h' ⟨rfl,m2,rfl,hm2l,hm2K⟩;(conv=>cbv))|exact⟨_,_,rfl,hm2l,hm2K⟩|exact gu|exact trivial|refine And.intro ?_ ?_|(intro hc;first|exact absurd hc (by decide)|(exfalso;omega)|((first|rw[wS (by omega) (by omega)]at hc|rw[Qab]at hc|skip);try (conv=>cbv)))|refine CallG.old ?_
  have hbr:=QzG (rdy:=rdy) hY hI hbx1 hm3 hbp1 hm4 hl' hpe (hpt kk e ab hee hab) hb0.len;have hcall:=ih e (mgE hee) (hin (pre0:=pre++brT g n x p kk) hlb hr) hbr (by
   have h1:=QzF (n:=n) (p:=p) (k:=kk+1) hx;rw[QqE hee,List.length_append]at h1;simp only[List.length_nil,List.length_append];omega)
  refine(FnS.frame hcall [0] [.am (mup m4 l' rdy),.dead,.da true 0 1 [[.int .i64 e]]] rfl (by simp) (fun i k hk=> ?_) rfl (by simp[Qef,QeK])).mono ?_
  ·match i,hk with
   |0,hk=>cases hk;rfl
   |i+1,hk=>simp at hk
  ·rintro r h' ⟨r0,hc',⟨m5,O5,rfl,hj5,h5,ho5⟩,rfl,rfl⟩;obtain⟨k3,O6,hI6⟩:=Qvb hY hI hbx1 hm3 hbp1 hm4 hl' hee hj5 h5 ho5;refine⟨m5,_,rfl,k3,?_⟩;rw[hk1]at hI6;have hnn:=fun L' h'=>nrm L' h' _ O6 hI6
   clear nrm hI hI6 hcall hbr hr hYl ih hin;generalize mdel m5 l'=m6 at*
   conv=>cbv
   repeat' first|(subst hc;refine hnn _ _ ?_;exact(Wk.ca))|exact gu|exact trivial|refine And.intro ?_ ?_|(intro hc;first|exact absurd hc (by decide)|(exfalso;omega)|((first|rw[wS (by omega) (by omega)]at hc|rw[Qab]at hc|skip);try (conv=>cbv)))|refine CallG.old ?_
 ·have hke:kk=(g.ar x).length:=by omega
  rw[QxE hx (by omega)]at hj;have hfin:=hend _ ⟨m',O',rfl,hj,hfr,how⟩;clear norm hI hin ih hmk hcn hend;obtain⟨ka,hka⟩:∃ka:Int,(kk:Int)=ka:=⟨_,rfl⟩;simp only[hka];have hkge:¬ka<Λ arl:=by omega
  conv=>cbv
  repeat' first|(refine ex 0 _ _ ?_;(conv=>cbv))|exact hfin|exact gu|exact trivial|refine And.intro ?_ ?_|(intro hc;first|exact absurd hc (by decide)|(exfalso;omega)|((first|rw[wS (by omega) (by omega)]at hc|rw[Qab]at hc|skip);try (conv=>cbv)))|refine CallG.old ?_
theorem QA8(P:Program)(hP:P=Tryz.prog){g:Wlk}:∀(n:Nat) {x:WSt} {p:List Int} {nl:Bool} {l N:Nat} {J:List Rsl->(Nat->Prop)->Ar->Prop},YlC P l N J->∀{a bx bp Nx Np:Nat} {pre:List Rsl} {O:Nat->Prop} {m:Ar},BrP g J n x p nl a bx bp Nx Np pre O m->pre.length+(brR g n x p).length<=N->
  FnS P Qak [.c (.d (.yl l)),.c (.d (.adr bx 0)),.c (.d (.adr bp 0))] [.am m] fun _ h'=>YlE J pre (brR g n x p) O m h':=by
 intro n;induction n with
 |zero=>
  intro x p nl l N J hY a bx bp Nx Np pre O m hb hN;have hx:g.ar x=[]:=by have:=hb.pt;rw[PT]at this;exact this.2.1
  exact Qs4 P hP hY hb hx (by rw[Qmh hx,List.length_singleton]at hN;omega)
 |succ n ih=>
  intro x p nl l N J hY a bx bp Nx Np pre O m hb hN;by_cases hx:g.ar x=[]
  ·exact Qs4 P hP hY hb hx (by rw[Qmh hx,List.length_singleton]at hN;omega)
  ·exact QxF P hP hY hb hx hN fun e _=>ih
def Jsq(l' Bs:Nat)(rdy:AB):List Rsl->(Nat->Prop)->Ar->Prop:=fun pre O m=>
 ∃d N,m Bs=some (.cs N [d])/\Qc7 3 m d (pre.map Qf2)/\(∀b,O b↔b=Bs\/b=l'\/InB d b)/\m l'=some rdy/\¬InB d Bs/\¬InB d l'/\l'≠Bs
structure GrS (sz:Nat) (m m4:Ar) (d d4:D) (l:List (List D)):Prop where
 row:Qc7 sz m4 d4 l
 same:∀i,m i≠none->¬InB d i->m4 i=m i
 new:∀i,InB d4 i->InB d i\/m i=none
theorem Qj2{sz:Nat}{m m':Ar}{b N cap k:Nat}{e:List D}(he:e.length=sz)(hb:m b=none)(hk:k=1)(hc:k<=cap)(hN:cap*sz<=N)(hm':m'=mup m b (.cs N [e].flatten)):GrS sz m m' (.list true sz []) (.sl b 0 sz k cap) [e]:=
 ⟨.inr ⟨b,N,cap,by rw[hk];rfl,by rw[hm',Qbb],fun x hx=>by simp at hx;rw[hx];exact he,by simpa [←hk]using hc,hN⟩,fun i hi _=>by rw[hm',Qaq fun e=>hi (by rw[e];exact hb)],fun i hi=>by rw[Qd4 hi];exact .inr hb⟩
theorem QmW{sz:Nat}{m m':Ar}{b b' n c N cap k:Nat}{e:List D}{es:List (List D)}(hs:∀x∈es,x.length=sz)(he:e.length=sz)(hn:es.length=n)(hb:mdel m b b'=none)(hk:k=n+1)(hc:k<=cap)(hN:cap*sz<=N)(hm':m'=mup (mdel m b) b' (.cs N (es++[e]).flatten)):GrS sz m m' (.sl b 0 sz n c) (.sl b' 0 sz k cap) (es++[e]):=by
 refine⟨.inr ⟨b',N,cap,by rw[hk,←hn];simp,by rw[hm',Qbb],fun x hx=> ?_,by rw[List.length_append,hn];simpa [←hk]using hc,hN⟩,fun i hi hn=>QoF hm' (fun e=>hn (by rw[e];exact⟨_,_,_,_,rfl⟩)) hb hi,fun i hi=> ?_⟩
 ·rcases List.mem_append.1 hx with hx|hx
  ·exact hs x hx
  ·simp at hx;rw[hx];exact he
 ·rw[Qd4 hi];rcases Qmw hb with e|e
  ·exact .inl (by rw[e];exact⟨_,_,_,_,rfl⟩)
  ·exact .inr e
theorem Quu{m1 m1b m4 m6:Ar}{l' Bs N N6:Nat}{bsy rdy:AB}{d d6:D}{ys:List (List D)}(hmb:mup m1 l' bsy=m1b)(h1:m1 l'=some rdy)(h2:m1 Bs=some (.cs N [d]))(hlb:l'≠Bs)(hdl:¬InB d l')(hdb:¬InB d Bs)(g:GrS 3 m1b m4 d d6 ys)(hm6:m6=mup m4 Bs (.cs N6 [d6])):
  m6 l'=some bsy/\mup m6 l' rdy l'=some rdy/\mup m6 l' rdy Bs=some (.cs N6 [d6])/\Qc7 3 (mup m6 l' rdy) d6 ys/\(∀b,m1 b≠none->b≠Bs->b≠l'->¬InB d b->mup m6 l' rdy b=m1 b)/\∀b,InB d6 b->InB d b\/m1 b=none:=by
 have hbl:m1b l'=some bsy:=by rw[←hmb,Qbb]
 have hbs:m1b Bs=some (.cs N [d]):=by rw[←hmb,Qaq (fun e=>hlb e.symm)];exact h2
 have hn:∀b,m1b b=none->m1 b=none:=fun b hb=>QeC hmb.symm hb
 have hdl6:¬InB d6 l':=fun h=>(g.new l' h).elim hdl fun h=>by rw[hbl]at h;cases h
 have hdb6:¬InB d6 Bs:=fun h=>(g.new Bs h).elim hdb fun h=>by rw[hbs]at h;cases h
 refine⟨?_,Qbb _ _ _,?_,?_,fun b hb hbB hbl' hbd=> ?_,fun b hb=>(g.new b hb).imp id (hn b)⟩
 ·rw[hm6,Qaq hlb,g.same l' (by rw[hbl];simp) hdl,hbl]
 ·rw[Qaq (fun e=>hlb e.symm),hm6,Qbb]
 ·refine g.row.frame fun i hi=> ?_
  rw[Qaq (fun e=>hdl6 (by rw[←e];exact hi)),hm6,Qaq (fun e=>hdb6 (by rw[←e];exact hi))]
 ·have h3:m1b b=m1 b:=by rw[←hmb,Qaq hbl']
  rw[Qaq hbl',hm6,Qaq hbB,g.same b (by rw[h3];exact hb) hbd,h3]
theorem QAB(P:Program)(hP:P=Tryz.prog){g:Wlk}{n:Nat}{x:WSt}{a bx bp Nx Np:Nat}{m:Ar}(hpt:PT g (fun _=>False) m n x a)(hmx:m bx=some (.cs Nx [.adr a 0]))(hmp:m bp=some (.cs Np [.list true 1 []]))(hn:n<=1000000)(hlen:(brR g n x []).length<=1000):
    FnS P Qbv [.c (.d (.list true 3 [])),.c (.fn false Qak [.d (.adr bx 0),.d (.adr bp 0)])] [.am m] fun r h'=>∃m' d,h'=[.am m']/\r= .c (.d d)/\Qc7 3 m' d ((brR g n x []).map Qf2)/\(∀b,m b≠none->m' b=m b)/\∀b,InB d b->m b=none:=by
  have hbr:=fun{l N:Nat} {J:List Rsl->(Nat->Prop)->Ar->Prop} (hY:YlC P l N J) {a bx bp Nx Np:Nat} {pre:List Rsl} {O:Nat->Prop} {m:Ar} (hb:BrP g J n x [] true a bx bp Nx Np pre O m)=>QA8 P hP n hY hb
  have hno:=nofn P hP;have hfok:FnOk P Qak:=⟨_,hP▸Qa2,rfl,by decide⟩;refine QaI (hP▸mixed) (hP▸QcM) (hP▸QcV) (nle rfl) fun Λ Λo K hK=> ?_
  clear hP;have hend:=fun m' d h1 h2 h3=>hK (.c (.d d)) [.am m'] ⟨m',d,rfl,rfl,h1,h2,h3⟩
  clear hK
  conv=>cbv
  repeat' first|(right;intro(_:Unit);intro(Bs:Nat) (Nb:Nat) (m2:Ar) hbn (_:_<=Nb) hm2;(conv=>cbv))|exact gu|exact trivial|refine And.intro ?_ ?_|(intro hc;first|exact absurd hc (by decide)|(exfalso;omega)|((first|rw[wS (by omega) (by omega)]at hc|rw[Qab]at hc|skip);try (conv=>cbv)))|refine CallG.old ?_
  refine⟨m2,_,_,_,rfl,rfl,rfl,hfok,hno,fun l' rdy bsy hl' hYl=> ?_⟩
  have hr:∀(m1:Ar) (d:D) (N:Nat) (pre:List Rsl) (r:Rsl) (K:Ar->Prop),m1 l'=some rdy->m1 Bs=some (.cs N [d])->Qc7 3 m1 d (pre.map Qf2)->l'≠Bs->¬InB d l'->¬InB d Bs->pre.length<1000->
      (∀m2 d2 N2,m2 l'=some rdy->m2 Bs=some (.cs N2 [d2])->Qc7 3 m2 d2 ((pre++[r]).map Qf2)->(∀b,m1 b≠none->b≠Bs->b≠l'->¬InB d b->m2 b=m1 b)->(∀b,InB d2 b->InB d b\/m1 b=none)->K m2)->
      FnS P (8589934592+l') [Quj r] [.am m1] fun q h'=>q= .c (.d (.bool true))/\∃m3 tl,h'= .am m3::tl/\K m3:=by
    intro m1 d N pre r K h1 h2 hrow hlb hdl hdb hpre hKm;refine hYl m1 (Quj r) K h1 rfl ?_;have h2b:mup m1 l' bsy Bs=some (.cs N [d]):=by rw[Qaq (fun e=>hlb e.symm)];exact h2
    have hrowb:Qc7 3 (mup m1 l' bsy) d (pre.map Qf2):=hrow.frame fun b hb=>Qaq fun e=>hdl (e▸hb)
    clear hYl hbr hend;obtain⟨rn,rr,rp⟩:=r;have hen:Qf2 ⟨rn,rr,rp⟩=[iD rn,iD rr,Qax rp]:=rfl;rw[List.map_append,List.map_singleton,hen]at hKm;simp only[Quj,Qax]at hKm ⊢;have hpl:(pre.map Qf2).length<1000:=by rw[List.length_map];exact hpre
    generalize rp.map QaE=rpl at*;generalize pre.map Qf2=prl at*;generalize hmb:mup m1 l' bsy=m1b at*;rcases hrowb with ⟨rfl,rfl⟩|⟨bn,Nn,cap,rfl,hbn2,hsz,hcap,hNn⟩
    · conv=>cbv
      repeat' first|(right;intro(_:Unit);refine And.intro (fun _=>⟨(fun hq=>by cases hq),nle rfl⟩) ?_;intro(b4:Nat) (N4:Nat) (cap4:Nat) (k4:Nat) (m4:Ar) hb4 hk4 hkc4 hcN4 hm4;have h4b:=QbW hm4 hb4 h2b;have hg:=Qj2 (e:=[iD rn,iD rr,.list false 1 rpl]) rfl hb4 hk4 hkc4 hcN4 hm4;(conv=>cbv))|(left;intro(_:Unit);(conv=>cbv))|(refine⟨N,_,h4b,nle rfl,?_⟩;intro m6 hm6;(conv=>cbv))|(refine⟨m1,_,rfl,h1,?_⟩;rw[hmb];(conv=>cbv))|(refine⟨N,_,_,h2b,rfl,?_⟩;(conv=>cbv))|exact gu|exact trivial|refine And.intro ?_ ?_|(intro hc;first|exact absurd hc (by decide)|(exfalso;omega)|((first|rw[wS (by omega) (by omega)]at hc|rw[Qab]at hc|skip);try (conv=>cbv)))|refine CallG.old ?_
      obtain⟨a1,a2,a3,a4,a5,a6⟩:=Quu (rdy:=rdy) hmb h1 h2 hlb hdl hdb hg hm6;exact⟨_,_,rfl,a1,hKm _ _ _ a2 a3 a4 a5 a6⟩
    · have hbB:Bs≠bn:=fun e=>hdb (e▸⟨_,_,_,_,rfl⟩)
      generalize hnal:prl.length=nal at*
      conv=>cbv
      repeat' first|(refine⟨Nn,prl,hbn2,rfl,hnal,hsz,hcap,hNn,(fun _=>⟨(fun hq=>by cases hq),(show(nal+1)*40<=140737488355328 by omega)⟩),?_⟩;intro(b4:Nat) (N4:Nat) (cap4:Nat) (k4:Nat) (m4:Ar) hb4 hk4 hkc4 hcN4 hm4;have hg:=QmW (c:=cap) (e:=[iD rn,iD rr,.list false 1 rpl]) hsz rfl hnal hb4 hk4 hkc4 hcN4 hm4;have h4b:=(hg.same Bs (by rw[h2b];simp) (fun e=>hbB (Qd4 e))).trans h2b;(conv=>cbv))|(left;intro(_:Unit);(conv=>cbv))|(refine⟨N,_,h4b,nle rfl,?_⟩;intro m6 hm6;(conv=>cbv))|(refine⟨m1,_,rfl,h1,?_⟩;rw[hmb];(conv=>cbv))|(refine⟨N,_,_,h2b,rfl,?_⟩;(conv=>cbv))|exact gu|exact trivial|refine And.intro ?_ ?_|(intro hc;first|exact absurd hc (by decide)|(exfalso;omega)|((first|rw[wS (by omega) (by omega)]at hc|rw[Qab]at hc|skip);try (conv=>cbv)))|refine CallG.old ?_
      obtain⟨a1,a2,a3,a4,a5,a6⟩:=Quu (rdy:=rdy) hmb h1 h2 hlb hdl hdb hg hm6;exact⟨_,_,rfl,a1,hKm _ _ _ a2 a3 a4 a5 a6⟩
  have hY:YlC P l' 1000 (Jsq l' Bs rdy):={
    no:=hno l'
    out:=fun pre O m1 r hj hN=>by
      obtain⟨d,Nd,q1,q2,q3,q4,q5,q6,hlb⟩:=hj;have hk:=hr m1 d Nd pre r (fun m3=>∃O3,Jsq l' Bs rdy (pre++[r]) O3 m3/\(∀b,m1 b≠none->¬O b->m3 b=m1 b)/\∀b,O3 b->O b\/m1 b=none) q4 q1 q2 hlb q6 q5 hN (fun m2 d2 N2 a2 a3 a4 a5 a6=>by
        refine⟨fun b=>b=Bs\/b=l'\/InB d2 b,⟨d2,N2,a3,a4,fun b=>Iff.rfl,a2,fun h=>(a6 _ h).elim q5 fun h=> ?_,fun h=>(a6 _ h).elim q6 fun h=> ?_,hlb⟩,fun b hb ho=>a5 b hb (fun e=>ho ((q3 b).2 (.inl e))) (fun e=>ho ((q3 b).2 (.inr (.inl e)))) fun e=>ho ((q3 b).2 (.inr (.inr e))),fun b hb=> ?_⟩
        · rw[q1]at h;cases h
        · rw[q4]at h;cases h
        · rcases hb with h|h|h
          · exact .inl ((q3 b).2 (.inl h))
          · exact .inl ((q3 b).2 (.inr (.inl h)))
          · exact(a6 b h).imp (fun h=>(q3 b).2 (.inr (.inr h))) id)
      refine(hk.cut ?_).mono ?_
      · rintro q h' ⟨rfl,m3,tl,rfl,-⟩
        exact⟨rfl,rfl⟩
      · rintro q h1' ⟨h2',⟨rfl,m3,tl,e,O3,hO3⟩,hl⟩
        match h1',hl with
        |[k],_=>
          simp only[List.cons_append,List.nil_append,List.cons.injEq]at e;exact⟨rfl,m3,O3,by rw[e.1],hO3⟩
    st:=fun pre O m1 m2 hj hm=>by
      obtain⟨d,Nd,q1,q2,q3,q4,q5,q6,hlb⟩:=hj;exact⟨d,Nd,by rw[hm Bs ((q3 Bs).2 (.inl rfl))];exact q1,q2.frame fun i hi=>hm i ((q3 i).2 (.inr (.inr hi))),q3,by rw[hm l' ((q3 l').2 (.inr (.inl rfl)))];exact q4,q5,q6,hlb⟩
    ne:=fun pre O m1 b hj hb=>by
      obtain⟨d,Nd,q1,q2,q3,q4,q5,q6,hlb⟩:=hj;rcases(q3 b).1 hb with rfl|rfl|h
      · rw[q1];simp
      · rw[q4];simp
      · exact q2.key' h}
  have hs2:m2 Bs=some (.cs Nb [.list true 3 []]):=Qbl hm2;have hlb:l'≠Bs:=fun e=>by rw[e,hs2]at hl';cases hl'
  have hk2:∀b,m b≠none->mup m2 l' rdy b=m b:=fun b hb=>by
    have h1:=Qc1 hm2 hbn hb;rw[Qaq (fun e=>by rw[←e,h1]at hl';exact hb hl'),h1]
  have hl0:m l'=none:=QeC hm2 hl';have hBr:BrP g (Jsq l' Bs rdy) n x [] true a bx bp Nx Np [] (fun b=>b=Bs\/b=l'\/InB (.list true 3 []) b) (mup m2 l' rdy):={
    j:=⟨.list true 3 [],Nb,by rw[Qaq (fun e=>hlb e.symm)];exact hs2,.inl ⟨rfl,rfl⟩,fun b=>Iff.rfl,Qbb _ _ _,fun h=>Qa5 h,fun h=>Qa5 h,hlb⟩
    pt:=hpt.keep (fun b hb _=>hk2 b hb) fun b hb=>by
      rcases hb with rfl|rfl|h
      · exact .inr hbn
      · exact .inr hl0
      · exact(Qa5 h).elim
    mx:=by rw[hk2 bx (by rw[hmx];simp)];exact hmx
    xo:=by
      rintro(rfl|rfl|h)
      · rw[hbn]at hmx;cases hmx
      · rw[hl0]at hmx;cases hmx
      · exact Qa5 h
    mp:=by rw[hk2 bp (by rw[hmp];simp)];exact hmp
    po:=by
      rintro(rfl|rfl|h)
      · rw[hbn]at hmp;cases hmp
      · rw[hl0]at hmp;cases hmp
      · exact Qa5 h
    nt:=fun _=>rfl
    nf:=fun h=>absurd rfl h
    len:=by simpa using hn}
  refine(hbr hY hBr (by simpa using hlen)).mono ?_;rintro r h' ⟨m5,O5,rfl,⟨d,Nd,q1,q2,q3,q4,q5,q6,_⟩,h5,ho5⟩;refine⟨m5,[],rfl,q4,?_⟩;have g1:mdel m5 l' Bs=some (.cs Nd [d]):=by rw[QbQ (fun e=>hlb e.symm)];exact q1
  have hfin:=hend (mdel m5 l') d (q2.frame fun i hi=>QbQ fun e=>q6 (by rw[←e];exact hi)) (fun b hb=>by
    have hbl:b≠l':=fun e=>by rw[e]at hb;exact hb hl0
    have hbB:b≠Bs:=fun e=>by rw[e]at hb;exact hb hbn
    rw[QbQ hbl,h5 b (by rw[hk2 b hb];exact hb) (by
      rintro(h|h|h)
      · exact hbB h
      · exact hbl h
      · exact Qa5 h),hk2 b hb]) (fun b hb=>by
    rcases ho5 b ((q3 b).2 (.inr (.inr hb)))with (rfl|rfl|h)|h
    · exact hbn
    · exact hl0
    · exact(Qa5 h).elim
    · by_cases h0:m b=none
      · exact h0
      · rw[hk2 b h0]at h;exact h)
  clear hBr hY hr hYl hbr hend;generalize mdel m5 l'=m6 at*
  conv=>cbv
  repeat' first|(refine⟨Nd,_,_,g1,rfl,?_⟩;(conv=>cbv))|exact hfin|exact gu|exact trivial|refine And.intro ?_ ?_|(intro hc;first|exact absurd hc (by decide)|(exfalso;omega)|((first|rw[wS (by omega) (by omega)]at hc|rw[Qab]at hc|skip);try (conv=>cbv)))|refine CallG.old ?_
section
variable{G:Nat->Prop}{ι:Io}{w:World}{m mS mR:Ar}{rest:Hp}
theorem HR.thawP(r:HR G ι (.am m::rest) w)(hS:∀b x,mS b=some x->m b=some x/\mR b=none)(hR:∀b x,mR b=some x->m b=some x):
    HR (fun b=>G b\/∃x,mS b=some x) ι (.am mR::rest) w/\Ext G ι (.am m::rest) w (fun b=>G b\/∃x,mS b=some x) ι (.am mR::rest) w/\
    ∀b x,mS b=some x->(G b\/∃x,mS b=some x)/\ABR (fun b=>G b\/∃x,mS b=some x) w b x:=by
  have hgm:∀b,G b->(G b\/∃x,mS b=some x)/\w.heap[b]? =w.heap[b]? :=fun b hb=>⟨.inl hb,rfl⟩
  have hsub:∀i k b,(Blk.am mR::rest)[i]? =some k->Qcl ι i k b->∃k',(Blk.am m::rest)[i]? =some k'/\Qcl ι i k' b:=fun i k b h1 h2=>by
    cases i with
    |zero=>
      simp only[List.getElem?_cons_zero,osi]at h1;subst h1;obtain⟨x,hx⟩:=h2;exact⟨_,rfl,x,hR b x hx⟩
    |succ i=>exact⟨k,h1,h2⟩
  have hown:∀b,owned ι (.am mR::rest) b->owned ι (.am m::rest) b:=fun b ⟨i,k,h1,h2⟩=>by
    obtain⟨k',a1,a2⟩:=hsub i k b h1 h2;exact⟨i,k',a1,a2⟩
  have hk:∀i k,(Blk.am m::rest)[i]? =some k->∃k',(Blk.am mR::rest)[i]? =some k'/\Kept ι ι w w i k k':=fun i k hk=>by
    cases i with
    |zero=>
      simp only[List.getElem?_cons_zero,osi]at hk;subst hk;exact⟨_,rfl,trivial⟩
    |succ i=>exact⟨k,hk,Kept.refl ι w _ k⟩
  have hext:Ext G ι (.am m::rest) w (fun b=>G b\/∃x,mS b=some x) ι (.am mR::rest) w:=
    { size:=Nat.le_refl _
      quiet:=⟨rfl,rfl,rfl,Nat.le_refl _⟩
      frame:=fun _ _ _=>rfl
      gmono:=fun _ h=> .inl h
      gnew:=fun b hb=>by
        rcases hb with h|⟨x,hx⟩
        · exact .inl h
        · exact .inr (.inr (Qcd (h:= .am m::rest) rfl (hS b x hx).1))
      onew:=fun b ho=> .inl (hown b ho)
      keep:=hk}
  refine⟨?_,hext,fun b x hx=>⟨.inr ⟨x,hx⟩,(r.blk 0 _ rfl b x (hS b x hx).1).mono hgm rfl⟩⟩;exact
    { len:=r.len
      own:=fun i j b k k' h1 h2 h3 h4=>by
        obtain⟨k1,a1,a2⟩:=hsub i k b h1 h3;obtain⟨k2,b1,b2⟩:=hsub j k' b h2 h4;exact r.own i j b k1 k2 a1 b1 a2 b2
      g:=fun b hb=>by
        rcases hb with hb|⟨x,hx⟩
        · exact⟨(r.g b hb).1,fun ho=>(r.g b hb).2 (hown b ho)⟩
        · obtain⟨h1,h2⟩:=hS b x hx
          refine⟨QaJ r (Qcd (h:= .am m::rest) rfl h1),fun⟨l,k,g1,g2⟩=> ?_⟩;cases l with
          |zero=>
            simp only[List.getElem?_cons_zero,osi]at g1;subst g1;obtain⟨y,hy⟩:=g2;rw[h2]at hy;cases hy
          |succ l=>
            have:=r.own 0 (l+1) b _ k rfl g1 ⟨x,h1⟩ g2;cases this
      blk:=fun l k hk=>by
        cases l with
        |zero=>
          simp only[List.getElem?_cons_zero,osi]at hk;subst hk;exact fun b x hx=>(r.blk 0 _ rfl b x (hR b x hx)).mono hgm rfl
        |succ l=>exact BR.ext hext r (show(Blk.am m::rest)[l+1]? =some k from hk) rfl fun _ _=>rfl}
end
theorem FnS.thawP{P:Program}{f:Nat}{args:List AV}{h:Hp}{R R':AV->Hp->Prop}(hf:FnS P f args h R)
 (ht:∀r h',R r h'->∃m rest d x mS mR d',h'= .am m::rest/\(∀b x,mS b=some x->m b=some x/\mR b=none)/\(∀b x,mR b=some x->m b=some x)/\r= .tup [.c (.d d),x]/\QbL x=true/\ThD mS d d'/\R' (.tup [.c (.d d'),x]) (.am mR::rest)):
  FnS P f args h R':=by
 refine⟨fun G ι w vs hr hv=>(hf.out G ι w vs hr hv).mono fun e w' ⟨v,r,G',ι',h',a1,a2,a3,a4,a5⟩=> ?_⟩;obtain⟨m,rest,d,x,mS,mR,d',rfl,hS,hR,rfl,hx,hd,hR'⟩:=ht r h' a2;obtain⟨q1,q2,q3⟩:=HR.thawP a3 hS hR;refine⟨v,_,_,ι',_,a1,hR',q1,?_,a5.trans q2⟩;have a4':=a4.ext q2 a3;cases a4' with
 |tup cs _ hn hcs=>
  refine .tup cs _ hn fun i y z hu hy=> ?_
  match i,hy with
  |0,hy=>
   cases hy;have:=hcs 0 y _ hu rfl;exact .c _ _ (.d _ _ (Qhp q3 hd (Qcg this)))
  |1,hy=>cases hy;exact hcs 1 y _ hu rfl
structure StR where
 node:Int
 p:Pkt
 ar:D
 nx:D
 rs:Int
 co:Int
 ct:Int
def Qas(s:StR):List D:=[iD s.node,iD s.p.id,iD s.p.src,iD s.p.dst,iD s.p.flow,QaA s.p.stack,iD s.p.hops,s.ar,s.nx,iD s.rs,iD s.co,iD s.ct]
abbrev StR.key (s:StR):Int×List Seg:=(s.node,s.p.stack)
def QoH(n:Int)(p:Pkt):StR:=⟨n,{p with hops:=0},.list true 1 [],.list true 1 [],0,0,0⟩
abbrev grH (t:Top) (xs:List Tab) (v n:Nat) (r:Bool) (es:List (List D)):Hp:=
 [.bx [.d (iD t.nodes),.d (Qag t.ov),.d (Qah t.links),.d (.list false 3 (xs.map Qaj)),.arr 1 v 0 n],.da r v 12 es]
def QgF(l:List StR)(n:Int)(p:Pkt):List StR:=if (n,p.stack)∈l.map StR.key then l else l++[QoH n p]
def Qld{σ:Type}[DecidableEq σ](S:List σ)(y:σ):Nat:=S.idxOf y
theorem QtI{σ:Type}[DecidableEq σ]{S:List σ}{y:σ}{k:Nat}(h1:S[k]? =some y)(h2:y∉S.take k):Qld S y=k:=by
 have e:S=S.take k++y::S.drop (k+1):=by
  conv=>lhs;rw[←List.take_append_drop k S]
  congr 1
  obtain⟨h3,h4⟩:=List.getElem?_eq_some_iff.1 h1;rw[List.drop_eq_getElem_cons h3,h4]
 rw[Qld,e,List.idxOf_append,if_neg h2,List.idxOf_cons_self,List.length_take,Nat.min_eq_left (Nat.le_of_lt (List.getElem?_eq_some_iff.1 h1).1)];omega
theorem QvI{σ:Type}[DecidableEq σ]{S r:List σ}{y:σ}(h:y∈S):Qld (S++r) y=Qld S y:=Qx8 h
theorem QvJ{σ:Type}[DecidableEq σ]{S:List σ}{y:σ}(h:y∉S):Qld (S++[y]) y=S.length:=by
 rw[Qld,List.idxOf_append,if_neg h];simp
theorem Qqw(l:List StR)(n:Int)(p:Pkt):(QgF l n p).map StR.key=Qny (l.map StR.key) (n,p.stack):=by
 rw[QgF,Qny];split
 ·rfl
 ·rw[List.map_append];rfl
theorem Qx2(P:Program)(hP:P=Tryz.prog)(t:Top)(xs:List Tab)(v:Nat)(r:Bool)(l:List StR)(n:Int)(p:Pkt)(hl:(l.length:Int)<900000000000):
  FnS P QcN [.c (.ptr 0 0 0 0),iA n,Qbt p] (grH t xs v l.length r (l.map Qas)) fun q h'=>q=iA (Qld ((QgF l n p).map StR.key) (n,p.stack))/\∃v' r' b,h'=grH t xs v' (QgF l n p).length r' ((QgF l n p).map Qas)++b:=by
 have hsm:=fun a b=>Qqi P hP a b
 refine QaI (hP▸mixed) (hP▸QgP) (hP▸Qhz) (nle rfl) fun Λ Λo K hK=> ?_
 clear hP;have k1:∀k:Nat,(l.map StR.key)[k]? =some (n,p.stack)->(n,p.stack)∉(l.map StR.key).take k->∀b,K (iA k) (grH t xs v l.length r (l.map Qas)++b):=by
  intro k h1 h2 b;have hm:=mgE h1;have e:QgF l n p=l:=by rw[QgF,if_pos hm]
  rw[e]at hK;have:=hK (iA k) (grH t xs v l.length r (l.map Qas)++b) ⟨?_,_,_,_,rfl⟩
  ·exact this
  ·rw[QtI h1 h2]
 have k2:(n,p.stack)∉l.map StR.key->∀v' r' b,K (iA l.length) (grH t xs v' (l.length+1) r' (l.map Qas++[[iD n,iD p.id,iD p.src,iD p.dst,iD p.flow,QaA p.stack,iD 0,.list true 1 [],.list true 1 [],iD 0,iD 0,iD 0]])++b):=by
  intro hm v' r' b;have e:QgF l n p=l++[QoH n p]:=by rw[QgF,if_neg hm]
  rw[e]at hK;refine hK _ _ ⟨?_,v',r',b,?_⟩
  ·rw[List.map_append];have:=QvJ hm;rw[List.length_map]at this;rw[←this];rfl
  ·rw[List.length_append,List.map_append];rfl
 clear hK;have hget:∀(k:Nat) e,(l.map Qas)[k]? =some e->∃(nd id src dst fl:Int) (st:List Seg) (hp:Int) (a x:D) (y c z:Int),e=[iD nd,iD id,iD src,iD dst,iD fl,.list false 2 (st.map Qaf),iD hp,a,x,iD y,iD c,iD z]/\(l.map StR.key)[k]? =some (nd,st):=by
  intro k e he;rw[gtm]at he;cases hs:l[k]? with
  |none=>rw[hs]at he;cases he
  |some s=>
   rw[hs]at he;cases he;exact⟨s.node,s.p.id,s.p.src,s.p.dst,s.p.flow,s.p.stack,s.p.hops,s.ar,s.nx,s.rs,s.co,s.ct,rfl,by rw[gtm,hs];rfl⟩
 have hkl:(l.map StR.key).length=l.length:=List.length_map ..;have hel:(l.map Qas).length=l.length:=List.length_map ..;obtain⟨id,src,dst,flow,st0,hops⟩:=p;simp only[grH,Qbt,Qcz,QaA,Qag,Qah]at*;generalize hxl:List.map Qaj xs=xl at*;generalize hol:t.ov.map Qbh=ol at*;generalize hll:t.links.map QaB=ll at*;generalize htn:t.nodes=nodes at*;generalize hsl:List.map Qaf st0=sl at*;have hsm:∀st:List Seg,Ret P Qfi [.c (.d (.list false 2 (st.map Qaf))),.c (.d (.list false 2 sl))] (bA (decide (st=st0))):=fun st=>by rw[←hsl];exact hsm _ _
 generalize List.map Qas l=es at*;generalize List.map StR.key l=ks at*;generalize List.length l=m at*;obtain⟨mi,hmi⟩:∃x:Int,x=m:=⟨_,rfl⟩;obtain⟨m1,hm1⟩:∃x,x=m+1:=⟨_,rfl⟩;obtain⟨ye,hye⟩:∃x,x=es++[[iD n,iD id,iD src,iD dst,iD flow,D.list false 2 sl,iD 0,.list true 1 [],.list true 1 [],iD 0,iD 0,iD 0]]:=⟨_,rfl⟩;rw[←hm1,←hye,←hmi]at k2
 conv=>cbv
 repeat' first|(intro(k:Int) hk;rw[wS (by omega) (by omega)]at hk;refine(fun(hz:mi=k)=> ?_) ?_;rotate_left;omega;subst hz;(conv=>cbv))|exact gu|exact trivial|refine And.intro ?_ ?_|(intro hc;first|exact absurd hc (by decide)|(exfalso;omega)|((first|rw[wS (by omega) (by omega)]at hc|rw[Qab]at hc|skip);try (conv=>cbv)))|refine CallG.old ?_
 refine QaR m (fun i:Int=>[(0,.c (.ptr 0 0 0 0)),(1,iA n),(5,.c (.ptr 2 0 0 0)),(7,iA i)]) (fun _=>[.bx [.d (iD nodes),.d (.list false 1 ol),.d (.list false 7 ll),.d (.list false 3 xl),.arr 1 v 0 m],.da r v 12 es,.bx [.d (iD id),.d (iD src),.d (iD dst),.d (iD flow),.d (.list false 2 sl),.d (iD 0)]]) (fun k i=>i=k/\k<=m/\(n,st0)∉ks.take k) 0 (Wk.ch) ⟨rfl,by omega,by simp⟩ (fun k s h=>h.2.1) ?_;rintro j0 i Q' ⟨hi,hk,hno⟩ norm ex rt;by_cases hlt:j0<m
 ·obtain⟨ee,hee⟩:∃e,es[j0]? =some e:=⟨_,lgE (by omega)⟩;obtain⟨nd,id',src',dst',fl',st,hp,a,x,y,c,z,rfl,hkk⟩:=hget j0 ee hee;have hsm:=hsm st;have K1:=fun(h1:nd=n) (h2:st=st0)=>k1 j0 (by rw[hkk,h1,h2]) hno
  rw[←hi]at K1;generalize List.map Qaf st=stl at*;have hnx:(nd,st)≠(n,st0)->(n,st0)∉ks.take (j0+1):=fun h hm=>by
   rw[QeB hkk]at hm;exact hm.elim hno fun e=>h e.symm
  conv=>cbv
  repeat' first|(refine ex _ _ _ ?_;(conv=>cbv))|(refine rt _ _ ?_;(conv=>cbv))|(intro(k:Nat) hk;refine(fun(hz:j0=k)=> ?_) ?_;rotate_left;omega;subst hz;(conv=>cbv))|(intro(e:List D) he;cases osj (he.symm.trans hee);(conv=>cbv))|refine Qay hsm rfl rfl ?_ ?_|exact gu|exact trivial|refine And.intro ?_ ?_|(intro hc;first|exact absurd hc (by decide)|(exfalso;omega)|((first|rw[wS (by omega) (by omega)]at hc|rw[Qab]at hc|skip);try (conv=>cbv)))|refine CallG.old ?_
  ·refine K1 (by assumption) (of_decide_eq_true (by assumption)) [_]
  ·refine norm _ _ _ ?_ (Wk.ch);exact⟨by omega,by omega,hnx fun h=>absurd (Prod.ext_iff.1 h).2 (of_decide_eq_false (by assumption))⟩
  ·refine norm _ _ _ ?_ (Wk.ch);exact⟨by omega,by omega,hnx fun h=>absurd (Prod.ext_iff.1 h).1 (by assumption)⟩
 ·have hno:(n,st0)∉ks:=by rw[List.take_of_length_le (by omega)]at hno;exact hno
  have k2:=k2 hno
  conv=>cbv
  repeat' first|(refine ex _ _ _ ?_;(conv=>cbv))|(refine rt _ _ ?_;(conv=>cbv))|(intro(m:Nat) (r:Bool) (y:List (List D)) hm hr hy;refine(fun(hz:m1=m) (hz2:ye=y)=> ?_) (by first|omega|(simp only[List.length_cons,List.length_nil]at hm;omega)) (by first|(rw[hy,List.drop_zero,List.take_of_length_le (by omega)];exact hye)|(rw[hy];exact hye));subst hz;subst hz2;(conv=>cbv))|(intro(k:Int) hk;rw[wS (by omega) (by omega)]at hk;refine(fun(hz:mi=k)=> ?_) ?_;rotate_left;omega;subst hz;(conv=>cbv))|exact gu|exact trivial|refine And.intro ?_ ?_|(intro hc;first|exact absurd hc (by decide)|(exfalso;omega)|((first|rw[wS (by omega) (by omega)]at hc|rw[Qab]at hc|skip);try (conv=>cbv)))|refine CallG.old ?_
  ·exact k2 _ _ [_,_]
def QgT(S:List WSt)(ys:List WSt):List (List D):=ys.map fun y=>[iD (Qld S y:Nat)]
theorem Qq1{S r ys:List WSt}(h:∀y∈ys,y∈S):QgT (S++r) ys=QgT S ys:=by
 rw[QgT,QgT];exact List.map_congr_left fun y hy=>by rw[QvI (h y hy)]
structure XpI (g:Wlk) (p:Pkt) (m m':Ar) (l:List StR) (i:Nat) (ys:List WSt):Prop where
 pk:∀s∈l,s.p={p with stack:=s.p.stack,hops:=0}/\s.co=0/\s.ct=0
 dn:∀j s,j<i->l[j]? =some s->s.ar=Qax (g.ar s.key)/\s.rs=g.rs s.key/\(∀y∈g.nx s.key,y∈l.map StR.key)/\Qc7 1 m' s.nx (QgT (l.map StR.key) (g.nx s.key))
 cu:∀s,l[i]? =some s->(∀y∈ys,y∈l.map StR.key)/\Qc7 1 m' s.nx (QgT (l.map StR.key) ys)
 td:∀j s,i<j->l[j]? =some s->s.nx= .list true 1 []
 fr:∀(j:Nat) s b,l[j]? =some s->InB s.nx b->m b=none
 ds:∀(j j':Nat) s s' b,l[j]? =some s->l[j']? =some s'->InB s.nx b->InB s'.nx b->j=j'
 mm:∀b,m b≠none->m' b=m b
theorem XpI.start(g:Wlk)(p:Pkt)(m:Ar)(n:Int)(q:Pkt)(hq:{q with hops:=0}={p with stack:=q.stack,hops:=0}):XpI g p m m [QoH n q] 0 []where
 pk s hs:=by
  simp at hs;subst hs;exact⟨hq,rfl,rfl⟩
 dn j s hj:=by omega
 cu s hs:=by
  simp at hs;subst hs;exact⟨fun y hy=>(by cases hy),.inl ⟨rfl,rfl⟩⟩
 td j s hj hs:=by
  rw[List.getElem?_eq_none (by simp;omega)]at hs;cases hs
 fr j s b hs hb:=by
  have:s=QoH n q:=by
   have:=mgE hs;simpa using this
  subst this;exact(Qa5 hb).elim
 ds j j' s s' b hs hs' _ _:=by
  have h1:=(List.getElem?_eq_some_iff.1 hs).1;have h2:=(List.getElem?_eq_some_iff.1 hs').1;simp at h1 h2;omega
 mm b _:=rfl
theorem XpI.row{g:Wlk}{p:Pkt}{m m':Ar}{l:List StR}{i:Nat}{ys:List WSt}(h:XpI g p m m' l i ys){j:Nat}{s:StR}{b:Nat}(hs:l[j]? =some s)(hb:InB s.nx b):m' b≠none:=by
 rcases Nat.lt_trichotomy j i with hj|hj|hj
 ·exact(h.dn j s hj hs).2.2.2.key' hb
 ·subst hj;exact(h.cu s hs).2.key' hb
 ·rw[h.td j s hj hs]at hb;exact(Qa5 hb).elim
theorem XpI.add{g:Wlk}{p:Pkt}{m m':Ar}{l:List StR}{i:Nat}{ys:List WSt}(h:XpI g p m m' l i ys)(hi:i<l.length)(n:Int)(q:Pkt)(hq:{q with hops:=0}={p with stack:=q.stack,hops:=0}):XpI g p m m' (QgF l n q) i ys:=by
 unfold QgF;split
 ·exact h
 ·have hk:(l++[QoH n q]).map StR.key=l.map StR.key++[(n,q.stack)]:=by rw[List.map_append];rfl
  have hget:∀(j:Nat) s,(l++[QoH n q])[j]? =some s->l[j]? =some s\/(j=l.length/\s=QoH n q):=by
   intro j s hs;by_cases hj:j<l.length
   ·rw[gal hj]at hs;exact .inl hs
   ·have:=(List.getElem?_eq_some_iff.1 hs).1;simp at this;obtain rfl:j=l.length:=by omega
    rw[List.getElem?_append_right (Nat.le_refl _),Nat.sub_self]at hs;exact .inr ⟨rfl,(osj hs).symm⟩
  have hnn:∀b,¬InB (QoH n q).nx b:=fun b hb=>Qa5 hb
  refine⟨fun s hs=> ?_,fun j s hj hs=> ?_,fun s hs=> ?_,fun j s hj hs=> ?_,fun j s b hs hb=> ?_,fun j j' s s' b hs hs' hb hb'=> ?_,h.mm⟩
  ·rcases List.mem_append.1 hs with hs|hs
   ·exact h.pk s hs
   ·simp at hs;subst hs;exact⟨hq,rfl,rfl⟩
  ·rcases hget j s hs with hs|⟨e,-⟩
   ·obtain⟨h1,h2,h3,h4⟩:=h.dn j s hj hs;refine⟨h1,h2,fun y hy=>by rw[hk];exact List.mem_append_left _ (h3 y hy),?_⟩;rw[hk,Qq1 h3];exact h4
   ·omega
  ·rcases hget i s hs with hs|⟨e,-⟩
   ·obtain⟨h1,h2⟩:=h.cu s hs;refine⟨fun y hy=>by rw[hk];exact List.mem_append_left _ (h1 y hy),?_⟩;rw[hk,Qq1 h1];exact h2
   ·omega
  ·rcases hget j s hs with hs|⟨_,e⟩
   ·exact h.td j s hj hs
   ·rw[e];rfl
  ·rcases hget j s hs with hs|⟨_,e⟩
   ·exact h.fr j s b hs hb
   ·rw[e]at hb;exact(hnn b hb).elim
  ·rcases hget j s hs with hs|⟨_,e⟩
   ·rcases hget j' s' hs' with hs'|⟨_,e⟩
    ·exact h.ds j j' s s' b hs hs' hb hb'
    ·rw[e]at hb';exact(hnn b hb').elim
   ·rw[e]at hb;exact(hnn b hb).elim
theorem Qdv{l:List StR}{i j:Nat}{s s' u:StR}(hu:(l.set i s')[j]? =some u)(hs:l[i]? =some s):(j=i/\u=s')\/(j≠i/\l[j]? =some u):=by
 rw[List.getElem?_set]at hu;split at hu
 ·rename_i e;split at hu
  ·exact .inl ⟨e.symm,(osj hu).symm⟩
  ·cases hu
 ·rename_i e;exact .inr ⟨fun h=>e h.symm,hu⟩
theorem Qnq{l:List StR}{i:Nat}{s s':StR}(hs:l[i]? =some s)(hk:s'.key=s.key):(l.set i s').map StR.key=l.map StR.key:=by
 rw[List.map_set,hk];refine List.ext_getElem? fun j=> ?_
 rw[List.getElem?_set];split
 ·rename_i e;subst e;rw[gtm,hs];split
  ·rfl
  ·rename_i h;exact absurd (by rw[List.length_map];exact(List.getElem?_eq_some_iff.1 hs).1) h
 ·rfl
theorem XpI.set{g:Wlk}{p:Pkt}{m m' m2:Ar}{l:List StR}{i:Nat}{ys zs:List WSt}{s:StR}(h:XpI g p m m' l i ys)(hs:l[i]? =some s)(a d:D)(rs:Int)(hr:Qc7 1 m2 d (QgT (l.map StR.key) zs))(hz:∀y∈zs,y∈l.map StR.key)
 (hsm:∀b,m' b≠none->¬InB s.nx b->m2 b=m' b)(hnw:∀b,InB d b->InB s.nx b\/m' b=none):XpI g p m m2 (l.set i {s with ar:=a,nx:=d,rs:=rs}) i zs:=by
 have hk:(l.set i {s with ar:=a,nx:=d,rs:=rs}).map StR.key=l.map StR.key:=Qnq hs rfl;have hfr:∀b,InB d b->m b=none:=fun b hb=>by
  rcases hnw b hb with e|e
  ·exact h.fr i s b hs e
  ·by_cases hm:m b=none
   ·exact hm
   ·rw[h.mm b hm]at e;exact e
 have hrow:∀(j:Nat) u L,j≠i->l[j]? =some u->Qc7 1 m' u.nx L->Qc7 1 m2 u.nx L:=fun j u L hj hu hr=>hr.frame fun b hb=>hsm b (hr.key' hb) fun e=>hj (h.ds j i u s b hu hs hb e)
 refine⟨fun u hu=> ?_,fun j u hj hu=> ?_,fun u hu=> ?_,fun j u hj hu=> ?_,fun j u b hu hb=> ?_,fun j j' u u' b hu hu' hb hb'=> ?_,fun b hb=> ?_⟩
 ·rcases List.mem_or_eq_of_mem_set hu with hu|hu
  ·exact h.pk u hu
  ·subst hu;exact h.pk s (mgE hs)
 ·rcases Qdv hu hs with ⟨e,-⟩|⟨e,hu⟩
  ·omega
  ·obtain⟨h1,h2,h3,h4⟩:=h.dn j u hj hu;rw[hk];exact⟨h1,h2,h3,hrow j u _ e hu h4⟩
 ·rcases Qdv hu hs with ⟨e,e2⟩|⟨e,hu⟩
  ·rw[hk,e2];exact⟨hz,hr⟩
  ·exact absurd rfl e
 ·rcases Qdv hu hs with ⟨e,-⟩|⟨e,hu⟩
  ·omega
  ·exact h.td j u hj hu
 ·rcases Qdv hu hs with ⟨e,e2⟩|⟨e,hu⟩
  ·rw[e2]at hb;exact hfr b hb
  ·exact h.fr j u b hu hb
 ·have one:∀(j':Nat) u' b,j'≠i->l[j']? =some u'->InB u'.nx b->¬InB d b:=fun j' u' b hj hu' hb' hb=>by
   rcases hnw b hb with e|e
   ·exact hj (h.ds j' i u' s b hu' hs hb' e)
   ·exact h.row hu' hb' e
  rcases Qdv hu hs with ⟨e,e2⟩|⟨e,hu⟩
  ·rcases Qdv hu' hs with ⟨e',-⟩|⟨e',hu'⟩
   ·rw[e,e']
   ·rw[e2]at hb;exact(one j' u' b e' hu' hb' hb).elim
  ·rcases Qdv hu' hs with ⟨e',e2⟩|⟨e',hu'⟩
   ·rw[e2]at hb';exact(one j u b e hu hb hb').elim
   ·exact h.ds j j' u u' b hu hu' hb hb'
 ·have hm':m' b≠none:=by rw[h.mm b hb];exact hb
  rw[hsm b hm' fun e=>hb (h.fr i s b hs e)];exact h.mm b hb
theorem XpI.next{g:Wlk}{p:Pkt}{m m':Ar}{l:List StR}{i:Nat}{s:StR}(hs:l[i]? =some s)(h:XpI g p m m' l i (g.nx s.key))(ha:s.ar=Qax (g.ar s.key))(hr:s.rs=g.rs s.key):XpI g p m m' l (i+1) []where
 pk:=h.pk
 dn j u hj hu:=by
  by_cases e:j=i
  ·subst e;rw[hs]at hu;cases hu;exact⟨ha,hr,h.cu s hs⟩
  ·exact h.dn j u (by omega) hu
 cu u hu:=⟨fun y hy=>(by cases hy),.inl ⟨h.td (i+1) u (by omega) hu,rfl⟩⟩
 td j u hj hu:=h.td j u (by omega) hu
 fr:=h.fr
 ds:=h.ds
 mm:=h.mm
structure StpG (P:Program) (t:Top) (xs:List Tab) (p:Pkt) (g:Wlk) (s:WSt) (x:Tab) (st:List Seg) (hp:Int):Prop where
 at_:xs[s.1.toNat]? =some x
 nn:0<=s.1
 stp:Ret P Qfj [QaQ t,QlM x,Qbt {p with stack:=s.2,hops:=0}] (.tup [QaK (g.ar s),Qbt {p with stack:=st,hops:=hp},iA (g.rs s)])
 hd:∀a∈g.ar s,Ret P Qfg [QaQ t,iA a] (iA (g.to s a).1)
 tos:∀a∈g.ar s,(g.to s a).2=st
 len:(g.ar s).length<=1000
structure XpL (g:Wlk) (p:Pkt) (m m':Ar) (l0 l:List StR) (i k:Nat) (s:WSt):Prop where
 xp:XpI g p m m' l i ((g.nx s).take k)
 at_:∃u,l[i]? =some u/\u.key=s/\u.ar=Qax (g.ar s)/\u.rs=g.rs s
 ks:l.map StR.key=((g.nx s).take k).foldl Qny (l0.map StR.key)
 len:l.length<=1+i*1000+k
theorem QuZ{l:List StR}{n:Int}{q:Pkt}{j:Nat}{u:StR}(h:l[j]? =some u):(QgF l n q)[j]? =some u:=by
 unfold QgF;split
 ·exact h
 ·rw[gal (List.getElem?_eq_some_iff.1 h).1];exact h
theorem Qqx(l:List StR)(n:Int)(q:Pkt):(QgF l n q).length<=l.length+1/\l.length<=(QgF l n q).length:=by
 unfold QgF;split
 ·omega
 ·rw[List.length_append];simp
theorem XpL.row{g:Wlk}{p:Pkt}{m m':Ar}{l0 l:List StR}{i k:Nat}{s:WSt}(h:XpL g p m m' l0 l i k s):∃nx,l[i]? =some ⟨s.1,{p with stack:=s.2,hops:=0},Qax (g.ar s),nx,g.rs s,0,0⟩:=by
 obtain⟨u,hu,h1,h2,h3⟩:=h.at_;obtain⟨q1,q2,q3⟩:=h.xp.pk u (mgE hu);refine⟨u.nx,?_⟩;rw[hu];subst h1;obtain⟨a,b,c,d,e,f,z⟩:=u;simp only at h2 h3 q1 q2 q3 ⊢;rw[h2,h3,q2,q3];exact congrArg (fun b'=>some (StR.mk a b' _ d _ 0 0)) q1
theorem XpL.step{g:Wlk}{p:Pkt}{m m1 m2:Ar}{l0 l:List StR}{i k:Nat}{s y:WSt}(h:XpL g p m m1 l0 l i k s)(hk:(g.nx s)[k]? =some y){n:Int}{q:Pkt}(hn:n=y.1)(hst:q.stack=y.2)(hq:{q with hops:=0}={p with stack:=q.stack,hops:=0}){nx d:D}
 (hu:(QgF l n q)[i]? =some ⟨s.1,{p with stack:=s.2,hops:=0},Qax (g.ar s),nx,g.rs s,0,0⟩)(hg:Grw m1 m2 nx d (QgT ((QgF l n q).map StR.key) ((g.nx s).take k)++[[iD (Qld ((QgF l n q).map StR.key) (n,q.stack):Nat)]])):
  XpL g p m m2 l0 ((QgF l n q).set i ⟨s.1,{p with stack:=s.2,hops:=0},Qax (g.ar s),d,g.rs s,0,0⟩) i (k+1) s:=by
 obtain⟨u0,hu0,_⟩:=h.at_;have hil:=(List.getElem?_eq_some_iff.1 hu0).1;have hX:=h.xp.add hil n q hq;obtain⟨c1,-⟩:=hX.cu _ hu;have e:(n,q.stack)=y:=by rw[hn,hst]
 have hyk:y∈(QgF l n q).map StR.key:=by rw[Qqw,e];exact Qqz _ _
 have hil2:=(List.getElem?_eq_some_iff.1 hu).1;refine⟨hX.set hu (Qax (g.ar s)) d (g.rs s) ?_ ?_ hg.same hg.new,⟨_,List.getElem?_set_self hil2,rfl,rfl,rfl⟩,?_,?_⟩
 ·rw[Qan hk,QgT,List.map_append,←QgT,List.map_cons,List.map_nil,←e];exact hg.row
 ·intro z hz;rw[Qan hk]at hz;rcases List.mem_append.1 hz with hz|hz
  ·exact c1 z hz
  ·simp at hz;rw[hz];exact hyk
 ·rw[Qnq hu (s':=⟨s.1,{p with stack:=s.2,hops:=0},Qax (g.ar s),d,g.rs s,0,0⟩) rfl,Qqw,h.ks,Qan hk,List.foldl_append,e];rfl
 ·rw[List.length_set];have:=(Qqx l n q).1;have:=h.len;omega
abbrev xpH (t:Top) (xs:List Tab) (p:Pkt) (m:Ar) (v:Nat) (r:Bool) (l:List StR):Hp:=
 [.am m,Qnu t,.bx [.d (iD p.id),.d (iD p.src),.d (iD p.dst),.d (iD p.flow),.d (QaA p.stack),.d (iD p.hops)]]++
 [.bx [.d (iD t.nodes),.d (Qag t.ov),.d (Qah t.links),.d (.list false 3 (xs.map Qaj)),.arr 4 v 0 l.length],.da r v 12 (l.map Qas)]
theorem QvB(P:Program)(hP:P=Tryz.prog)(t:Top)(xs:List Tab)(v:Nat)(r:Bool)(l:List StR)(n:Int)(p:Pkt)(hl:(l.length:Int)<900000000000):
  FnS P QcN [.c (.ptr 0 0 0 0),iA n,Qbt p] (grH t xs v l.length r (l.map Qas)) fun q h'=>q=iA (Qld ((QgF l n p).map StR.key) (n,p.stack))/\∃v' r',h'=grH t xs v' (QgF l n p).length r' ((QgF l n p).map Qas):=by
 refine FnS.mono ((Qx2 P hP t xs v r l n p hl).cut fun r h' hr=> ?_) fun r h' hr=> ?_
 ·obtain⟨rfl,v',ro',b,rfl⟩:=hr;exact⟨rfl,rfl⟩
 ·obtain⟨h2,⟨rfl,v',ro',b,e⟩,hl⟩:=hr;refine⟨rfl,v',ro',?_⟩;have:=congrArg (List.take 2) e;rw[List.take_append_of_le_length (by rw[hl];exact Nat.le_refl _),List.take_of_length_le (by rw[hl];exact Nat.le_refl _)]at this;rw[this];rfl
set_option maxHeartbeats 4000000 in
theorem Qqc(P:Program)(hP:P=Tryz.prog)(t:Top)(xs:List Tab)(p:Pkt)(from_:Int)(g:Wlk)(m:Ar)(I:WSt->Prop)(hI:I (from_,p.stack))(hst:∀s,I s->∃x st hp,StpG P t xs p g s x st hp)(hcl:∀s,I s->∀y∈g.nx s,I y):
  FnS P Qds [QaQ t,Qbf xs,Qbt p,iA from_] [.am m] fun r h'=>∃m' v q l ok b,r= .tup [.c (.ptr 3 0 0 0),bA ok]/\h'=xpH t xs p m' v q l++b/\(∃i,XpI g p m m' l i []/\ExpI g.nx (from_,p.stack) (l.map StR.key) i/\if ok=true then i=l.length else 20000<i):=by
 have hadd:=fun v r l n q hl=>QvB P hP t xs v r l n q hl
 refine QaI (hP▸mixed) (hP▸Qi0) (hP▸QjC) (nle rfl) fun Λ Λo K hK=> ?_
 clear hP;have hK:=fun m' v q l ok b i h1 h2 h3=>hK _ _ ⟨m',v,q,l,ok,b,rfl,rfl,i,h1,h2,h3⟩
 obtain⟨id,src,dst,flow,st0,hops⟩:=p;have hadd0:=hadd 0 false [] from_ ⟨id,src,dst,flow,st0,hops⟩ (by decide);have hE0:ExpI g.nx (from_,st0) ((QgF [] from_ ⟨id,src,dst,flow,st0,hops⟩).map StR.key) 0:=QrR _ _;have hX0:XpI g ⟨id,src,dst,flow,st0,hops⟩ m m (QgF [] from_ ⟨id,src,dst,flow,st0,hops⟩) 0 []:=XpI.start g _ m from_ _ rfl;have hl0:(QgF [] from_ ⟨id,src,dst,flow,st0,hops⟩).length=1:=rfl;simp only[xpH,grH,Qnu,QaQ,Qbf,Qbt,Qcz,QaA,Qag,Qah,List.cons_append,List.nil_append,List.map_nil,List.length_nil]at hK hadd hadd0 ⊢;generalize QgF [] from_ ⟨id,src,dst,flow,st0,hops⟩=l0 at*;generalize hxl:List.map Qaj xs=xl at*;generalize hol:t.ov.map Qbh=ol at*;generalize hll:t.links.map QaB=ll at*;generalize htn:t.nodes=nodes at*;generalize hsl:List.map Qaf st0=sl at*;obtain⟨n0,hn0⟩:∃x,x=l0.length:=⟨_,rfl⟩;obtain⟨es0,hes0⟩:∃x,x=l0.map Qas:=⟨_,rfl⟩;rw[←hn0,←hes0]at hadd0
 conv=>cbv
 repeat' first|(left;intro(_:Unit);(conv=>cbv))|(refine CallS.wk (.nilB 3 4 12 _ rfl rfl) ?_;conv=>cbv)|(refine Qar [3,4] hadd0 rfl rfl (by decide) (by repeat' first|exact trivial|refine And.intro ?_ ?_|rfl) rfl rfl ?_;rintro r hc' ⟨rfl,v',r',rfl⟩;(conv=>cbv))|exact gu|exact trivial|refine And.intro ?_ ?_|(intro hc;first|exact absurd hc (by decide)|(exfalso;omega)|((first|rw[wS (by omega) (by omega)]at hc|rw[Qab]at hc|skip);try (conv=>cbv)))|refine CallG.old ?_
 subst hn0 hes0;refine QaR 20001 (fun(q:Ar×Nat×Bool×List StR×Int)=>[(1,.c (.d (.list false 3 xl))),(4,.c (.ptr 1 0 0 0)),(10,.c (.ptr 3 0 0 0)),(11,iA q.2.2.2.2)])
  (fun(q:Ar×Nat×Bool×List StR×Int)=>[.am q.1,.bx [.d (iD nodes),.d (.list false 1 ol),.d (.list false 7 ll)],.bx [.d (iD id),.d (iD src),.d (iD dst),.d (iD flow),.d (.list false 2 sl),.d (iD hops)],.bx [.d (iD nodes),.d (.list false 1 ol),.d (.list false 7 ll),.d (.list false 3 xl),.arr 4 q.2.1 0 q.2.2.2.1.length],.da q.2.2.1 q.2.1 12 (q.2.2.2.1.map Qas)])
  (fun k (q:Ar×Nat×Bool×List StR×Int)=>q.2.2.2.2=k/\k<=20001/\XpI g ⟨id,src,dst,flow,st0,hops⟩ m q.1 q.2.2.2.1 k []/\ExpI g.nx (from_,st0) (q.2.2.2.1.map StR.key) k/\q.2.2.2.1.length<=1+k*1000)
  (m,v',r',l0,0) (Wk.ca) ⟨rfl,by omega,hX0,hE0,by show l0.length<=_;omega⟩ (fun k s h=>h.2.1) ?_
 clear hX0 hE0 hl0 hadd0;rintro j0 ⟨m1,v1,r1,l,i⟩ Q' ⟨hi,hk,hX,hE,hln⟩ norm ex rt;simp only at hi hX hE hln norm ⊢;by_cases hlt:j0<l.length
 ·by_cases hbig:20000<j0
  ·have hK:=fun b=>hK m1 v1 r1 l false b j0 hX hE (by rw[if_neg (by decide)];exact hbig)
   generalize List.map Qas l=es at*;generalize hm:l.length=n at*
   conv=>cbv
   repeat' first|(refine ex _ _ _ ?_;(conv=>cbv))|(refine rt _ _ ?_;(conv=>cbv))|exact gu|exact trivial|refine And.intro ?_ ?_|(intro hc;first|exact absurd hc (by decide)|(exfalso;omega)|((first|rw[wS (by omega) (by omega)]at hc|rw[Qab]at hc|skip);try (conv=>cbv)))|refine CallG.old ?_
   all_goals exact hK _
  ·obtain⟨u,hu⟩:∃u,l[j0]? =some u:=⟨_,lgE hlt⟩;have hIu:I u.key:=hE.mn I hI hcl _ (mgE (i:=j0) (by rw[gtm,hu];rfl));obtain⟨x,nst,nhp,hS⟩:=hst _ hIu;obtain⟨nd,q,ar0,nx0,rs0,co0,ct0⟩:=u;obtain⟨h1,h2,h3⟩:=hX.pk _ (mgE hu);obtain⟨i1,i2,i3,i4,ust,i6⟩:=q;simp only[Pkt.mk.injEq]at h1 h2 h3;obtain⟨rfl,rfl,rfl,rfl,-,rfl⟩:=h1;obtain rfl:=h2;obtain rfl:=h3;obtain⟨hat,hnn,hstp,hhd,htos,hlen⟩:=hS;simp only[StR.key]at hat hnn hstp hhd htos hlen hIu;obtain⟨l1,hl1⟩:∃l1,l1=l.set j0 ⟨nd,⟨i1,i2,i3,i4,ust,0⟩,Qax (g.ar (nd,ust)),nx0,g.rs (nd,ust),0,0⟩:=⟨_,rfl⟩;have hX1:XpI g ⟨i1,i2,i3,i4,st0,hops⟩ m m1 l1 j0 []:=by
    rw[hl1];exact hX.set hu _ _ _ (hX.cu _ hu).2 (fun y hy=>by cases hy) (fun _ _ _=>rfl) fun _ h=> .inl h
   have hk1:l1.map StR.key=l.map StR.key:=by rw[hl1];exact Qnq hu rfl
   have hlen1:l1.length=l.length:=by rw[hl1,List.length_set]
   have hu1:l1[j0]? =some ⟨nd,⟨i1,i2,i3,i4,ust,0⟩,Qax (g.ar (nd,ust)),nx0,g.rs (nd,ust),0,0⟩:=by rw[hl1,List.getElem?_set_self hlt]
   have hee:(l.map Qas)[j0]? =some (Qas ⟨nd,⟨i1,i2,i3,i4,ust,0⟩,ar0,nx0,rs0,0,0⟩):=by rw[gtm,hu];rfl
   have hes2:l1.map Qas=((l.map Qas).set j0 (Qas ⟨nd,⟨i1,i2,i3,i4,ust,0⟩,Qax (g.ar (nd,ust)),nx0,rs0,0,0⟩)).set j0 (Qas ⟨nd,⟨i1,i2,i3,i4,ust,0⟩,Qax (g.ar (nd,ust)),nx0,g.rs (nd,ust),0,0⟩):=by
    rw[List.set_set,hl1,List.map_set]
   have hee1:((l.map Qas).set j0 (Qas ⟨nd,⟨i1,i2,i3,i4,ust,0⟩,Qax (g.ar (nd,ust)),nx0,rs0,0,0⟩))[j0]? =some (Qas ⟨nd,⟨i1,i2,i3,i4,ust,0⟩,Qax (g.ar (nd,ust)),nx0,rs0,0,0⟩):=List.getElem?_set_self (by rw[List.length_map];exact hlt);have hatx:(xs.map Qaj)[nd.toNat]? =some (Qaj x):=by rw[gtm,hat];rfl
   rw[hxl]at hatx;clear hX;have hL0:XpL g ⟨i1,i2,i3,i4,st0,hops⟩ m m1 l1 l1 j0 0 (nd,ust):=⟨hX1,⟨_,hu1,rfl,rfl,rfl⟩,rfl,by omega⟩;obtain⟨es1,hes1⟩:∃y,y=(l.map Qas).set j0 (Qas ⟨nd,⟨i1,i2,i3,i4,ust,0⟩,Qax (g.ar (nd,ust)),nx0,rs0,0,0⟩):=⟨_,rfl⟩;obtain⟨es2,hes2e⟩:∃y,y=l1.map Qas:=⟨_,rfl⟩;rw[←hes1]at hes2 hee1;rw[←hes2e]at hes2;simp only[Qas,Qaj,QlM,QaQ,Qbt,QaK,QaA,Qag,Qah,Qax,Qd2]at hstp hee hee1 hes1 hes2 hatx ⊢;rw[hol,hll,htn]at hstp;generalize harl:(g.ar (nd,ust)).map QaE=arl at*;generalize hrsv:g.rs (nd,ust)=rsv at*;generalize hstl:List.map Qaf ust=stl at*;generalize hnsl:List.map Qaf nst=nsl at*;generalize List.map Qaz x.to=xe at*;generalize List.map QaE x.down=xd at*;generalize hesg:List.map Qas l=es at*;generalize x.node=xn at*;have hesl:es.length=l.length:=by rw[←hesg,List.length_map]
   have b1:j0+1<=es.length:=by omega
   have b2:j0+1<=es1.length:=by rw[hes1,List.length_set];omega
   have b3:(0:Int)<=nd:=hnn;have b4:nd<Λ xl:=by
    rw[Λo,←hxl,List.length_map];have:=(List.getElem?_eq_some_iff.1 hat).1;omega
   obtain⟨n,hn⟩:∃y,y=l.length:=⟨_,rfl⟩;rw[←hn]at hlt hln hlen1 ⊢
   conv=>cbv
   repeat' first|(refine ex _ _ _ ?_;(conv=>cbv))|(refine rt _ _ ?_;(conv=>cbv))|exact b1|exact b2|exact b3|exact b4|(left;intro(_:Unit);(conv=>cbv))|(intro(k:Nat) hk;refine(fun(hz:j0=k)=> ?_) ?_;rotate_left;omega;subst hz;(conv=>cbv))|(intro(e:List D) he;cases osj (he.symm.trans hee);(conv=>cbv))|(intro(e:List D) he;cases osj (he.symm.trans hee1);(conv=>cbv))|(intro(e:List D) he;cases osj (he.symm.trans hatx);(conv=>cbv))|(refine Qao hstp rfl rfl ?_;conv=>cbv)|(intro(x:List (List D)) (hx:x=es.set j0 [iD nd,iD i1,iD i2,iD i3,iD i4,D.list false 2 stl,iD 0,.list false 1 arl,nx0,iD rs0,iD 0,iD 0]);refine(fun(hz:es1=x)=> ?_) (hes1.trans hx.symm);subst hz;(conv=>cbv))|(intro(x:List (List D)) (hx:x=es1.set j0 [iD nd,iD i1,iD i2,iD i3,iD i4,D.list false 2 stl,iD 0,.list false 1 arl,nx0,iD rsv,iD 0,iD 0]);refine(fun(hz:es2=x)=> ?_) (hes2.trans hx.symm);subst hz;(conv=>cbv))|exact gu|exact trivial|refine And.intro ?_ ?_|(intro hc;first|exact absurd hc (by decide)|(exfalso;omega)|((first|rw[wS (by omega) (by omega)]at hc|rw[Qab]at hc|skip);try (conv=>cbv)))|refine CallG.old ?_
   refine Qbz (g.ar (nd,ust)).length (fun(q:Ar×Nat×Bool×List StR×Int)=>[(1,.c (.d (.list false 3 xl))),(4,.c (.ptr 1 0 0 0)),(10,.c (.ptr 3 0 0 0)),(11,iA i),(13,.c (.d (.list false 1 arl))),(14,.c (.ptr 6 0 0 0)),(16,iA q.2.2.2.2)])
    (fun(q:Ar×Nat×Bool×List StR×Int)=>[.am q.1,.bx [.d (iD nodes),.d (.list false 1 ol),.d (.list false 7 ll)],.bx [.d (iD i1),.d (iD i2),.d (iD i3),.d (iD i4),.d (.list false 2 sl),.d (iD hops)],.bx [.d (iD nodes),.d (.list false 1 ol),.d (.list false 7 ll),.d (.list false 3 xl),.arr 4 q.2.1 0 q.2.2.2.1.length],.da q.2.2.1 q.2.1 12 (q.2.2.2.1.map Qas),
     .bx [.d (iD nd),.d (iD i1),.d (iD i2),.d (iD i3),.d (iD i4),.d (.list false 2 stl),.d (iD 0),.d ar0,.d nx0,.d (iD rs0),.d (iD 0),.d (iD 0)],.bx [.d (iD i1),.d (iD i2),.d (iD i3),.d (iD i4),.d (.list false 2 nsl),.d (iD nhp)]])
    (fun k (q:Ar×Nat×Bool×List StR×Int)=>q.2.2.2.2=k/\k<=(g.ar (nd,ust)).length/\XpL g ⟨i1,i2,i3,i4,st0,hops⟩ m q.1 l1 q.2.2.2.1 j0 k (nd,ust)) (m1,v1,r1,l1,0) 2
    (fun(_:Ar×Nat×Bool×List StR)=>[(1,.c (.d (.list false 3 xl))),(4,.c (.ptr 1 0 0 0)),(10,.c (.ptr 3 0 0 0)),(11,iA i)])
    (fun(q:Ar×Nat×Bool×List StR)=>[.am q.1,.bx [.d (iD nodes),.d (.list false 1 ol),.d (.list false 7 ll)],.bx [.d (iD i1),.d (iD i2),.d (iD i3),.d (iD i4),.d (.list false 2 sl),.d (iD hops)],.bx [.d (iD nodes),.d (.list false 1 ol),.d (.list false 7 ll),.d (.list false 3 xl),.arr 4 q.2.1 0 q.2.2.2.length],.da q.2.2.1 q.2.1 12 (q.2.2.2.map Qas)])
    (fun(q:Ar×Nat×Bool×List StR)=>XpL g ⟨i1,i2,i3,i4,st0,hops⟩ m q.1 l1 q.2.2.2 j0 (g.ar (nd,ust)).length (nd,ust)) (by simp only[←hes2e,hlen1];exact Wk.ch) ⟨rfl,by omega,hL0⟩ (fun k s h=>h.2.1) ?_ ?_
   ·rintro k ⟨m2,v2,r2,lq,ki⟩ Q' ⟨hki,hkl,hL⟩ norm jn ex rt;simp only at hki hL norm jn ⊢;have hΛ:Λ arl=(g.ar (nd,ust)).length:=by rw[Λo,←harl,List.length_map]
    by_cases hlt2:k<(g.ar (nd,ust)).length
    ·clear jn;obtain⟨a,ha⟩:∃a,(g.ar (nd,ust))[k]? =some a:=⟨_,lgE hlt2⟩;have ham:=mgE ha;have hak:arl[ki.toNat]? =some (QaE a):=by rw[←harl,hki,Int.toNat_natCast,gtm,ha];rfl
     have hy:(g.nx (nd,ust))[k]? =some (g.to (nd,ust) a):=by rw[Wlk.nx,nxt,gtm,ha];rfl
     have hhd:=hhd a ham;have htos:=htos a ham;have hll2:=hL.len;obtain⟨nx,hnx⟩:=hL.row;have hadd:=hadd v2 r2 lq (g.to (nd,ust) a).1 ⟨i1,i2,i3,i4,nst,nhp⟩ (by omega);have hrow:=QuZ (n:=(g.to (nd,ust) a).1) (q:=⟨i1,i2,i3,i4,nst,nhp⟩) hnx;have hstep:=fun m4 d hg=>hL.step (m2:=m4) hy (n:=(g.to (nd,ust) a).1) (q:=⟨i1,i2,i3,i4,nst,nhp⟩) (nx:=nx) (d:=d) rfl htos.symm rfl hrow hg
     have hcu:=((hL.xp.add (List.getElem?_eq_some_iff.1 hnx).1 (g.to (nd,ust) a).1 ⟨i1,i2,i3,i4,nst,nhp⟩ rfl).cu _ hrow).2;have hln2:=(Qqx lq (g.to (nd,ust) a).1 ⟨i1,i2,i3,i4,nst,nhp⟩).1;have hlt3:=(List.getElem?_eq_some_iff.1 hrow).1;clear hL htos hy;simp only at hstep hcu hadd hnx;generalize QgF lq (g.to (nd,ust) a).1 ⟨i1,i2,i3,i4,nst,nhp⟩=l2 at*;generalize (g.to (nd,ust) a).1=yn at*;generalize ((Qld (l2.map StR.key) (yn,nst):Nat):Int)=ix at*;have hrl:(QgT (l2.map StR.key) ((g.nx (nd,ust)).take k)).length<=k:=by rw[QgT,List.length_map,List.length_take];omega
     generalize QgT (l2.map StR.key) ((g.nx (nd,ust)).take k)=rows at*;have hee3:(l2.map Qas)[j0]? =some (Qas ⟨nd,⟨i1,i2,i3,i4,ust,0⟩,Qax (g.ar (nd,ust)),nx,g.rs (nd,ust),0,0⟩):=by rw[gtm,hrow];rfl
     have hset:∀d,(l2.set j0 ⟨nd,⟨i1,i2,i3,i4,ust,0⟩,Qax (g.ar (nd,ust)),d,g.rs (nd,ust),0,0⟩).map Qas=(l2.map Qas).set j0 (Qas ⟨nd,⟨i1,i2,i3,i4,ust,0⟩,Qax (g.ar (nd,ust)),d,g.rs (nd,ust),0,0⟩):=fun d=>List.map_set ..
     have nrm:=fun L' h' m4 v4 r4 d (hx:XpL g ⟨i1,i2,i3,i4,st0,hops⟩ m m4 l1 (l2.set j0 ⟨nd,⟨i1,i2,i3,i4,ust,0⟩,Qax (g.ar (nd,ust)),d,g.rs (nd,ust),0,0⟩) j0 (k+1) (nd,ust))=>norm L' h' (m4,v4,r4,_,((k+1:Nat):Int)) ⟨rfl,hlt2,hx⟩
     simp only[hset,List.length_set]at nrm;clear norm;have b5:j0+1<=(l2.map Qas).length:=by rw[List.length_map];exact hlt3
     obtain⟨ki1,hki1⟩:∃y:Int,y=((k+1:Nat):Int):=⟨_,rfl⟩;rw[←hki1]at nrm;simp only[Qas,Qax,QaA,hstl,hnsl,hrsv,harl]at hee3 nrm hadd;simp only[Qax,hrsv,harl]at hstep;generalize List.map Qas l2=es3 at*;generalize List.map Qas lq=esq at*;obtain⟨nq,hnq⟩:∃y,y=lq.length:=⟨_,rfl⟩;obtain⟨n3,hn3⟩:∃y,y=l2.length:=⟨_,rfl⟩;rw[←hnq,←hn3]at hadd;rw[←hn3]at nrm hln2 hlt3;rw[←hnq]at hln2 hll2 ⊢;simp only[QaQ,Qag,Qah,hol,hll,htn]at hhd;rcases hcu with ⟨hnx0,hr0⟩|⟨bn,Nn,capn,hnx0,hmn,hsn,hcn1,hcn2⟩
     ·subst hnx0 hr0
      conv=>cbv
      repeat' first|(refine ex _ _ _ ?_;(conv=>cbv))|(refine rt _ _ ?_;(conv=>cbv))|exact b5|(intro(k:Nat) hk;refine(fun(hz:j0=k)=> ?_) ?_;rotate_left;omega;subst hz;(conv=>cbv))|(intro(e:List D) he;cases osj (he.symm.trans hak);(conv=>cbv))|(intro(e:List D) he;cases osj (he.symm.trans hee3);(conv=>cbv))|(refine Qao hhd rfl rfl ?_;conv=>cbv)|(refine Qar [3,4] hadd rfl rfl (by decide) (by repeat' first|exact trivial|refine And.intro ?_ ?_|rfl) rfl rfl ?_;rintro rz hc' ⟨rfl,v3,r3,rfl⟩;(conv=>cbv))|(right;intro(_:Unit);refine And.intro (fun _=>⟨(fun hq=>by cases hq),nle rfl⟩) ?_;intro(b4:Nat) (N4:Nat) (cap4:Nat) (k4:Nat) (m4:Ar) hb4 hk4 hkc4 hcN4 hm4;have hg:=Qj3 (e:=[iD ix]) rfl hb4 hk4 hkc4 hcN4 hm4;(conv=>cbv))|(intro(xz:List (List D)) hxz;(conv=>cbv))|(intro(k:Int) hk;rw[wS (by omega) (by omega)]at hk;refine(fun(hz:ki1=k)=> ?_) ?_;rotate_left;omega;subst hz;(conv=>cbv))|exact gu|exact trivial|refine And.intro ?_ ?_|(intro hc;first|exact absurd hc (by decide)|(exfalso;omega)|((first|rw[wS (by omega) (by omega)]at hc|rw[Qab]at hc|skip);try (conv=>cbv)))|refine CallG.old ?_
      subst hxz;refine nrm _ _ m4 v3 r3 _ (hstep m4 _ hg) ?_;exact Wk.ca
     ·subst hnx0;generalize hnal:rows.length=nal at*
      conv=>cbv
      repeat' first|(refine ex _ _ _ ?_;(conv=>cbv))|(refine rt _ _ ?_;(conv=>cbv))|exact b5|(intro(k:Nat) hk;refine(fun(hz:j0=k)=> ?_) ?_;rotate_left;omega;subst hz;(conv=>cbv))|(intro(e:List D) he;cases osj (he.symm.trans hak);(conv=>cbv))|(intro(e:List D) he;cases osj (he.symm.trans hee3);(conv=>cbv))|(refine Qao hhd rfl rfl ?_;conv=>cbv)|(refine Qar [3,4] hadd rfl rfl (by decide) (by repeat' first|exact trivial|refine And.intro ?_ ?_|rfl) rfl rfl ?_;rintro rz hc' ⟨rfl,v3,r3,rfl⟩;(conv=>cbv))|(refine⟨Nn,rows,hmn,rfl,hnal,hsn,hcn1,hcn2,(fun _=>⟨(fun hq=>by cases hq),(show(nal+1)*8<=140737488355328 by omega)⟩),?_⟩;intro(b4:Nat) (N4:Nat) (cap4:Nat) (k4:Nat) (m4:Ar) hb4 hk4 hkc4 hcN4 hm4;have hg:=QmX (c:=capn) (e:=[iD ix]) hsn rfl hnal hb4 hk4 hkc4 hcN4 hm4;(conv=>cbv))|(intro(xz:List (List D)) hxz;(conv=>cbv))|(intro(k:Int) hk;rw[wS (by omega) (by omega)]at hk;refine(fun(hz:ki1=k)=> ?_) ?_;rotate_left;omega;subst hz;(conv=>cbv))|exact gu|exact trivial|refine And.intro ?_ ?_|(intro hc;first|exact absurd hc (by decide)|(exfalso;omega)|((first|rw[wS (by omega) (by omega)]at hc|rw[Qab]at hc|skip);try (conv=>cbv)))|refine CallG.old ?_
      subst hxz;refine nrm _ _ m4 v3 r3 _ (hstep m4 _ hg) ?_;exact Wk.ca
    ·obtain rfl:k=(g.ar (nd,ust)).length:=by omega
     have jn:=fun L' h'=>jn L' h' (m2,v2,r2,lq) hL
     generalize List.map Qas lq=esq at*;generalize lq.length=nq at*;clear ex
     conv=>cbv
     repeat' first|(refine jn _ _ ?_;exact Wk.ca)|exact gu|exact trivial|refine And.intro ?_ ?_|(intro hc;first|exact absurd hc (by decide)|(exfalso;omega)|((first|rw[wS (by omega) (by omega)]at hc|rw[Qab]at hc|skip);try (conv=>cbv)))|refine CallG.old ?_
   ·rintro⟨m2,v2,r2,l2⟩ hL;simp only at hL ⊢;have hnl:(g.nx (nd,ust)).length=(g.ar (nd,ust)).length:=by rw[Wlk.nx,nxt,List.length_map]
    have hxp:=hL.xp;rw[←hnl,List.take_length]at hxp;have hks:=hL.ks;rw[←hnl,List.take_length,hk1]at hks;have hX2:XpI g ⟨i1,i2,i3,i4,st0,hops⟩ m m2 l2 (j0+1) []:=by
     obtain⟨u,hu2,q1,q2,q3⟩:=hL.at_;rw[←q1]at hxp;exact hxp.next hu2 (by rw[q1];exact q2) (by rw[q1];exact q3)
    have hE2:ExpI g.nx (from_,st0) (l2.map StR.key) (j0+1):=by
     rw[hks];exact Qtm hE (by rw[gtm,hu];rfl)
    have hl2:=hL.len;have nrm:=fun L' h'=>norm L' h' (m2,v2,r2,l2,((j0+1:Nat):Int)) ⟨rfl,by omega,hX2,hE2,by show l2.length<=_;omega⟩
    clear hX2 hE2 hxp norm;generalize List.map Qas l2=es5 at*;generalize l2.length=n5 at*;obtain⟨i5,hi5⟩:∃y:Int,y=((j0+1:Nat):Int):=⟨_,rfl⟩;rw[←hi5]at nrm
    conv=>cbv
    repeat' first|(refine ex _ _ _ ?_;(conv=>cbv))|(refine rt _ _ ?_;(conv=>cbv))|(intro(k:Int) hk;rw[wS (by omega) (by omega)]at hk;refine(fun(hz:i5=k)=> ?_) ?_;rotate_left;omega;subst hz;(conv=>cbv))|exact gu|exact trivial|refine And.intro ?_ ?_|(intro hc;first|exact absurd hc (by decide)|(exfalso;omega)|((first|rw[wS (by omega) (by omega)]at hc|rw[Qab]at hc|skip);try (conv=>cbv)))|refine CallG.old ?_
    all_goals exact nrm _ _ (Wk.ch)
 ·have hK:=fun b=>hK m1 v1 r1 l true b j0 hX hE (by rw[if_pos rfl];have:=hE.le;rw[List.length_map]at this;omega)
  generalize List.map Qas l=es at*;generalize hm:l.length=n at*
  conv=>cbv
  repeat' first|(refine ex _ _ _ ?_;(conv=>cbv))|(refine rt _ _ ?_;(conv=>cbv))|exact gu|exact trivial|refine And.intro ?_ ?_|(intro hc;first|exact absurd hc (by decide)|(exfalso;omega)|((first|rw[wS (by omega) (by omega)]at hc|rw[Qab]at hc|skip);try (conv=>cbv)))|refine CallG.old ?_
  all_goals exact hK _
def QAQ:Option (Option Int)->Int
 |none=>0
 |some none=>1
 |some (some _)=>2
structure VsI (g:Wlk) (m:Ar) (S:List WSt) (K:Kn WSt) (l:List StR):Prop where
 ks:l.map StR.key=S
 row:∀s∈l,Qc7 1 m s.nx (QgT S (g.nx s.key))/\∀y∈g.nx s.key,y∈S
 co:∀s∈l,s.co=QAQ (lkK K s.key)
 ct:∀s∈l,(∀c,lkK K s.key=some (some c)->s.ct=c)/\(lkK K s.key=none->s.ct=0)
def StR.base(s:StR):StR:={s with co:=0,ct:=0}
abbrev vsH (t:Top) (xs:List Tab) (m:Ar) (v:Nat) (r:Bool) (l:List StR):Hp:=
 [.am m,.bx [.d (iD t.nodes),.d (Qag t.ov),.d (Qah t.links),.d (.list false 3 (xs.map Qaj)),.arr 2 v 0 l.length],.da r v 12 (l.map Qas)]
structure VisO (g:Wlk) (m:Ar) (S:List WSt) (K:Kn WSt) (l:List StR) (o:Option (Kn WSt)) (q:AV) (l':List StR):Prop where
 base:l'.map StR.base=l.map StR.base
 op:∀(i:Nat) u u',l[i]? =some u->l'[i]? =some u'->lkK K u.key=some none->u'.ct=u.ct
 res:match o with
  |some K'=>q=bA true/\VsI g m S K' l'
  |none=>q=bA false
theorem Qil(P:Program)(hP:P=Tryz.prog)(t:Top)(xs:List Tab)(g:Wlk)(m:Ar)(S:List WSt)(K:Kn WSt)(l:List StR)(v:Nat)(r:Bool)(j n:Nat)(s:WSt)(h:VsI g m S K l)(hj:S[j]? =some s)(hk:lkK K s≠none):
  FnS P Qat [.c (.ptr 1 0 0 0),iA j] (vsH t xs m v r l) fun q h'=>∃l' b,h'=vsH t xs m v r l'++b/\VisO g m S K l (dfs g.nx n K s) q l':=by
 refine QaI (hP▸mixed) (hP▸Qdb) (hP▸Qdl) (nle rfl) fun Λ Λo Q hQ=> ?_
 clear hP;obtain⟨u,hu⟩:∃u,l[j]? =some u:=by
  have:=(List.getElem?_eq_some_iff.1 hj).1;rw[←h.ks,List.length_map]at this;exact⟨_,lgE this⟩
 have hus:u.key=s:=by
  have:=hj;rw[←h.ks,gtm,hu]at this;exact osj this
 have hco:=h.co u (mgE hu);rw[hus]at hco;have k1:u.co=1->∀b,Q (bA false) (vsH t xs m v r l++b):=by
  intro hc b;refine hQ _ _ ⟨l,b,rfl,rfl,fun i u u' h1 h2 _=>by rw[h1]at h2;rw[osj h2],?_⟩;have:lkK K s=some none:=by
   cases hl:lkK K s with
   |none=>exact absurd hl hk
   |some c=>
    cases c with
    |none=>rfl
    |some c=>rw[hl]at hco;simp only[QAQ]at hco;omega
  have:dfs g.nx n K s=none:=by
   cases n<;>rw[dfs,this]
  rw[this]
 have k2:u.co=2->∀b,Q (bA true) (vsH t xs m v r l++b):=by
  intro hc b;refine hQ _ _ ⟨l,b,rfl,rfl,fun i u u' h1 h2 _=>by rw[h1]at h2;rw[osj h2],?_⟩;obtain⟨c,hc⟩:∃c,lkK K s=some (some c):=by
   cases hl:lkK K s with
   |none=>exact absurd hl hk
   |some c=>
    cases c with
    |none=>rw[hl]at hco;simp only[QAQ]at hco;omega
    |some c=>exact⟨c,rfl⟩
  have:dfs g.nx n K s=some K:=by
   cases n<;>rw[dfs,hc]
  rw[this];exact⟨rfl,h⟩
 have k3:u.co=1\/u.co=2:=by
  cases hl:lkK K s with
  |none=>exact absurd hl hk
  |some c=>
   rw[hl]at hco;cases c with
   |none=>exact .inl hco
   |some c=>exact .inr hco
 clear hQ h hk hco;obtain⟨nd,⟨i1,i2,i3,i4,ust,i6⟩,ar,nx,rs,co,ct⟩:=u;have hee:(l.map Qas)[j]? =some (Qas ⟨nd,⟨i1,i2,i3,i4,ust,i6⟩,ar,nx,rs,co,ct⟩):=by rw[gtm,hu];rfl
 have hb1:j+1<=(l.map Qas).length:=(List.getElem?_eq_some_iff.1 hee).1;have hb2:(l.map Qas).length=l.length:=List.length_map ..;simp only[vsH,QaA,Qag,Qah,Qas]at k1 k2 k3 hee ⊢;generalize hxl:List.map Qaj xs=xl at*;generalize hol:t.ov.map Qbh=ol at*;generalize hll:t.links.map QaB=ll at*;generalize htn:t.nodes=nodes at*;generalize List.map Qaf ust=stl at*;generalize List.map Qas l=es at*;generalize l.length=nl at*;obtain⟨jv,hjv⟩:∃y:Int,y=j:=⟨_,rfl⟩;rw[←hjv]
 conv=>cbv
 repeat' first|exact hb1|(intro(k:Nat) hk;refine(fun(hz:j=k)=> ?_) ?_;rotate_left;omega;subst hz;(conv=>cbv))|(intro(e:List D) he;cases osj (he.symm.trans hee);(conv=>cbv))|exact gu|exact trivial|refine And.intro ?_ ?_|(intro hc;first|exact absurd hc (by decide)|(exfalso;omega)|((first|rw[wS (by omega) (by omega)]at hc|rw[Qab]at hc|skip);try (conv=>cbv)))|refine CallG.old ?_
 ·exact k2 (by omega) []
 ·exact k1 (by omega) []
theorem Qi6{l l':List StR}(h:l'.map StR.base=l.map StR.base){i:Nat}{u:StR}(hu:l[i]? =some u):∃u',l'[i]? =some u'/\u'.base=u.base:=by
 have:=congrArg (fun l=>l[i]?) h;simp only[gtm,hu,Option.map_some]at this;cases h':l'[i]? with
 |none=>rw[h']at this;cases this
 |some u'=>
  rw[h']at this;exact⟨u',rfl,osj this⟩
theorem Qmf{u u':StR}(h:u'.base=u.base):u'.key=u.key/\u'.p=u.p/\u'.ar=u.ar/\u'.nx=u.nx/\u'.rs=u.rs:=by
 obtain⟨a,b,c,d,e,f,z⟩:=u;obtain⟨a',b',c',d',e',f',z'⟩:=u';simp only[StR.base,StR.mk.injEq]at h;obtain⟨rfl,rfl,rfl,rfl,rfl,-,-⟩:=h;exact⟨rfl,rfl,rfl,rfl,rfl⟩
theorem Qmg{l:List StR}{j:Nat}{u:StR}(hu:l[j]? =some u)(co ct:Int):(l.set j {u with co:=co,ct:=ct}).map StR.base=l.map StR.base:=by
 rw[List.map_set];refine List.ext_getElem? fun i=> ?_
 rw[List.getElem?_set];split
 ·rename_i e;subst e;rw[gtm,hu,List.length_map,if_pos (List.getElem?_eq_some_iff.1 hu).1];rfl
 ·rfl
theorem VsI.set{g:Wlk}{m:Ar}{S:List WSt}{K K':Kn WSt}{l:List StR}(h:VsI g m S K l)(hS:S.Nodup){j:Nat}{u:StR}(hu:l[j]? =some u)(co ct:Int)(hK:∀x,x≠u.key->lkK K' x=lkK K x)(hco:co=QAQ (lkK K' u.key))
 (hct:(∀c,lkK K' u.key=some (some c)->ct=c)/\(lkK K' u.key=none->ct=0)):VsI g m S K' (l.set j {u with co:=co,ct:=ct}):=by
 have hmem:∀w∈l.set j {u with co:=co,ct:=ct},w={u with co:=co,ct:=ct}\/(w∈l/\w.key≠u.key):=by
  intro w hw;obtain⟨i,hi⟩:=List.getElem?_of_mem hw;rcases Qdv hi hu with ⟨-,e⟩|⟨e,hi⟩
  ·exact .inl e
  ·refine .inr ⟨mgE hi,fun hk=>e ?_⟩;have h1:S[i]? =some w.key:=by rw[←h.ks,gtm,hi];rfl
   have h2:S[j]? =some u.key:=by rw[←h.ks,gtm,hu];rfl
   rw[hk]at h1;exact(List.getElem?_inj (List.getElem?_eq_some_iff.1 h1).1 hS).1 (h1.trans h2.symm)
 have hum:=mgE hu;refine⟨by rw[Qnq hu (s':={u with co:=co,ct:=ct}) rfl];exact h.ks,fun w hw=> ?_,fun w hw=> ?_,fun w hw=> ?_⟩
 ·rcases hmem w hw with rfl|⟨hw,-⟩
  ·exact h.row u hum
  ·exact h.row w hw
 ·rcases hmem w hw with rfl|⟨hw,hne⟩
  ·exact hco
  ·rw[hK _ hne];exact h.co w hw
 ·rcases hmem w hw with rfl|⟨hw,hne⟩
  ·exact hct
  ·rw[hK _ hne];exact h.ct w hw
structure RvL (g:Wlk) (m:Ar) (S:List WSt) (K0:Kn WSt) (l0:List StR) (f:Kn WSt->WSt->Option (Kn WSt)) (Pre:Kn WSt->Prop) (s:WSt) (c0:Int) (j k:Nat) (K:Kn WSt) (l:List StR) (c:Int):Prop where
 vs:VsI g m S K l
 pre:Pre K
 opn:lkK K s=some none
 opK:∀x,lkK K0 x=some none->lkK K x=some none
 base:l.map StR.base=l0.map StR.base
 op:∀(i:Nat) u u',i≠j->l0[i]? =some u->l[i]? =some u'->lkK K0 u.key=some none->u'.ct=u.ct
 at_:∃u,l[j]? =some u/\u.key=s/\u.ct=c
 cn:0<=c/\c<=1001
 eq:Qf1 f (g.nx s) (K0++[(s,none)]) c0=Qf1 f ((g.nx s).drop k) K c
section
variable{g:Wlk}{m:Ar}{S:List WSt}{K0:Kn WSt}{l0:List StR}{f:Kn WSt->WSt->Option (Kn WSt)}{Pre:Kn WSt->Prop}{s:WSt}{c0:Int}{j k:Nat}{K:Kn WSt}{l:List StR}{c:Int}
theorem RvL.call(h:RvL g m S K0 l0 f Pre s c0 j k K l c){o:Option (Kn WSt)}{q:AV}{l':List StR}(hv:VisO g m S K l o q l'):l'.map StR.base=l0.map StR.base/\(∀(i:Nat) u u',i≠j->l0[i]? =some u->l'[i]? =some u'->lkK K0 u.key=some none->u'.ct=u.ct):=by
 refine⟨hv.base.trans h.base,fun i u u' hi hu hu' ho=> ?_⟩;obtain⟨w,hw,hb⟩:=Qi6 h.base hu;have:=(Qmf hb).1;rw[hv.op i w u' hw hu' (by rw[this];exact h.opK _ ho)];exact h.op i u w hi hu hw ho
theorem RvL.next(h:RvL g m S K0 l0 f Pre s c0 j k K l c)(hS:S.Nodup){y:WSt}(hk:(g.nx s)[k]? =some y){K':Kn WSt}(hf:f K y=some K')(hp:Pre K')(hd:DfsR g.nx K K'){q:AV}{l':List StR}(hv:VisO g m S K l (f K y) q l'){cy:Int}(hy:lkK K' y=some (some cy))(h0:0<=cy/\cy<=1001){c':Int}(hc:c'=Qi7 (c+cy)){u:StR}(hu:l'[j]? =some u):
  RvL g m S K0 l0 f Pre s c0 j (k+1) K' (l'.set j {u with ct:=c'}) c':=by
 have hcl:=h.call hv;rw[hf]at hv;obtain⟨rfl,hvs⟩:=hv.res;have hop:=hd.old _ _ h.opn;have hus:u.key=s:=by
  obtain⟨w,hw,h1,_⟩:=h.at_;obtain⟨w',hw',hb⟩:=Qi6 hv.base hw;rw[hu]at hw';cases hw';rw[(Qmf hb).1,h1]
 have hset:=hvs.set hS hu u.co c' (fun _ _=>rfl) (hvs.co u (mgE hu)) ⟨fun c hc=>(by rw[hus,hop]at hc;cases hc),fun hc=>(by rw[hus,hop]at hc;cases hc)⟩;refine⟨hset,hp,hop,fun x hx=>hd.old _ _ (h.opK x hx),(Qmg hu u.co c').trans hcl.1,fun i w w' hi hw hw' ho=> ?_,⟨_,List.getElem?_set_self (List.getElem?_eq_some_iff.1 hu).1,hus,rfl⟩,?_,?_⟩
 ·rcases Qdv hw' hu with ⟨e,-⟩|⟨-,hw'⟩
  ·exact absurd e hi
  ·exact hcl.2 i w w' hi hw hw' ho
 ·have:=h.cn;rw[hc];simp only[Qi7];split<;>omega
 ·rw[h.eq,List.drop_eq_getElem_cons (List.getElem?_eq_some_iff.1 hk).1,(List.getElem?_eq_some_iff.1 hk).2];simp only[Qf1,hf];rw[QzM,hy,hc];rfl
theorem RvL.done(h:RvL g m S K0 l0 f Pre s c0 j k K l c)(hS:S.Nodup)(hk:(g.nx s).length<=k)(hs0:lkK K0 s=none)(hl0:∃u,l0[j]? =some u/\u.key=s){u:StR}(hu:l[j]? =some u):Qf1 f (g.nx s) (K0++[(s,none)]) c0=some (K,c)/\VisO g m S K0 l0 (some (QkI K s c)) (bA true) (l.set j {u with co:=2}):=by
 obtain⟨w,hw,h1,h2⟩:=h.at_;rw[hu]at hw;cases hw;have hl:lkK (QkI K s c) s=some (some c):=by rw[Qkd,if_pos rfl,h.opn];rfl
 refine⟨by rw[h.eq,List.drop_of_length_le hk];rfl,(Qmg hu 2 u.ct).trans h.base,fun i w w' hw hw' ho=> ?_,rfl,?_⟩
 ·rcases Qdv hw' hu with ⟨e,-⟩|⟨e,hw'⟩
  ·subst e;obtain⟨w2,hw2,hk2⟩:=hl0;rw[hw]at hw2;cases hw2;rw[hk2,hs0]at ho;cases ho
  ·exact h.op i w w' e hw hw' ho
 ·refine h.vs.set hS hu 2 u.ct (fun x hx=> ?_) ?_ ⟨fun c' hc'=> ?_,fun hc'=> ?_⟩
  ·rw[Qkd,if_neg (by rw[←h1];exact hx)]
  ·rw[h1,hl];rfl
  ·rw[h1,hl]at hc';cases hc';exact h2
  ·rw[h1,hl]at hc';cases hc'
end
structure RecV (P:Program) (t:Top) (xs:List Tab) (g:Wlk) (m:Ar) (S:List WSt) (v:Nat) (r:Bool) (s:WSt) (f:Kn WSt->WSt->Option (Kn WSt)) (Pre:Kn WSt->Prop):Prop where
 call:∀y∈g.nx s,∀K l,VsI g m S K l->Pre K->FnS P Qat [.c (.ptr 1 0 0 0),iA (Qld S y:Nat)] (vsH t xs m v r l) fun q h'=>∃l',h'=vsH t xs m v r l'/\VisO g m S K l (f K y) q l'
 law:∀y∈g.nx s,∀K K',Pre K->f K y=some K'->Pre K'/\DfsR g.nx K K'/\∃c,(0<=c/\c<=1001)/\lkK K' y=some (some c)
theorem QyM{S ys:List WSt}{k:Nat}{y:WSt}(h:ys[k]? =some y):(QgT S ys).flatten[k]? =some (iD (Qld S y:Nat)):=by
 have:(QgT S ys).flatten=ys.map fun y=>iD (Qld S y:Nat):=by
  rw[QgT];clear h;induction ys with
  |nil=>rfl
  |cons a l ih=>rw[List.map_cons,List.flatten_cons,ih];rfl
 rw[this,gtm,h];rfl
set_option maxHeartbeats 4000000 in
theorem Qsi(P:Program)(hP:P=Tryz.prog)(t:Top)(xs:List Tab)(g:Wlk)(m:Ar)(S:List WSt)(K:Kn WSt)(l:List StR)(v:Nat)(r:Bool)(j:Nat)(s:WSt)(h:VsI g m S K l)(hS:S.Nodup)(hj:S[j]? =some s)(hk:lkK K s=none)(hlen:(g.nx s).length<=1000)
   {f:Kn WSt->WSt->Option (Kn WSt)}{Pre:Kn WSt->Prop}(hR:RecV P t xs g m S v r s f Pre)(hp:Pre (K++[(s,none)])):
    FnS P Qat [.c (.ptr 1 0 0 0),iA j] (vsH t xs m v r l) fun q h'=>∃l' b,h'=vsH t xs m v r l'++b/\VisO g m S K l (match Qf1 f (g.nx s) (K++[(s,none)]) (if g.nx s=[]then 1 else 0)with
      |none=>none
      |some (K',c)=>some (QkI K' s c)) q l':=by
  refine QaI (hP▸mixed) (hP▸Qdb) (hP▸Qdl) (nle rfl) fun Λ Λo Q hQ=> ?_
  clear hP;obtain⟨u,hu⟩:∃u,l[j]? =some u:=by
    have:=(List.getElem?_eq_some_iff.1 hj).1;rw[←h.ks,List.length_map]at this;exact⟨_,lgE this⟩
  have hus:u.key=s:=by
    have:=hj;rw[←h.ks,gtm,hu]at this;exact osj this
  have hum:=mgE hu;have hco:u.co=0:=by rw[h.co u hum,hus,hk];rfl
  have hct:u.ct=0:=(h.ct u hum).2 (by rw[hus];exact hk);have hlk:lkK (K++[(s,none)]) s=some none:=by rw[Qf7,hk];simp[lkK]
  have hop:∀x,lkK K x=some none->lkK (K++[(s,none)]) x=some none:=fun x hx=>by rw[Qf7,hx]
  have hother:∀x,x≠s->lkK (K++[(s,none)]) x=lkK K x:=fun x hx=>by
    rw[Qf7];cases lkK K x with
    |some c=>rfl
    |none=>simp only[lkK];rw[if_neg fun e=>hx e.symm]
  have hI:∀c0:Int,(0<=c0/\c0<=1001)->RvL g m S K l f Pre s c0 j 0 (K++[(s,none)]) (l.set j {u with co:=1,ct:=c0}) c0:=fun c0 hc0=>
    { vs:=h.set hS hu 1 c0 (fun x hx=>hother x (by rw[←hus];exact hx)) (by rw[hus,hlk];rfl) ⟨fun c hc=>(by rw[hus,hlk]at hc;cases hc),fun hc=>(by rw[hus,hlk]at hc;cases hc)⟩
      pre:=hp
      opn:=hlk
      opK:=hop
      base:=Qmg hu 1 c0
      op:=fun i w w' hi hw hw' _=>by
        rcases Qdv hw' hu with ⟨e,-⟩|⟨-,hw'⟩
        · exact absurd e hi
        · rw[hw]at hw';rw[osj hw']
      at_:=⟨_,List.getElem?_set_self (List.getElem?_eq_some_iff.1 hu).1,hus,rfl⟩
      cn:=hc0
      eq:=rfl}
  have hrow:=h.row u hum;rw[hus]at hrow;obtain⟨hrow,hin⟩:=hrow;have hbl:(l.map Qas).length=l.length:=List.length_map ..;have hjl:=(List.getElem?_eq_some_iff.1 hu).1;rcases hrow with ⟨hnx,hnil⟩|⟨bn,Nn,capn,hnx,hmn,hsn,hcn1,hcn2⟩
  · have hn0:g.nx s=[]:=by
      rw[QgT,List.map_eq_nil_iff]at hnil;exact hnil
    rw[hn0,if_pos rfl]at hQ;have hL:=hI 1 (by omega);have hd:=(hL.done hS (by rw[hn0];exact Nat.le_refl _) hk ⟨u,hu,hus⟩ (List.getElem?_set_self hjl)).2;rw[List.set_set]at hd;have hfin:=fun b=>hQ (bA true) (vsH t xs m v r (l.set j {u with co:=2,ct:=1})++b) ⟨_,b,rfl,hd⟩
    obtain⟨nd,⟨i1,i2,i3,i4,ust,i6⟩,ar,nx,rs,co,ct⟩:=u;simp only at hco hct hnx;subst hco hct hnx;clear hI hL hd h hR hQ;have hee:(l.map Qas)[j]? =some (Qas ⟨nd,⟨i1,i2,i3,i4,ust,i6⟩,ar,.list true 1 [],rs,0,0⟩):=by rw[gtm,hu];rfl
    simp only[vsH,QaA,Qag,Qah,Qas,List.map_set,List.length_set]at hfin hee ⊢;generalize hxl:List.map Qaj xs=xl at*;generalize hol:t.ov.map Qbh=ol at*;generalize hll:t.links.map QaB=ll at*;generalize htn:t.nodes=nodes at*;generalize List.map Qaf ust=stl at*;generalize List.map Qas l=es at*;generalize l.length=nl at*;have hjl:j<es.length:=by omega
    obtain⟨es1,hes1⟩:∃y,y=es.set j [iD nd,iD i1,iD i2,iD i3,iD i4,.list false 2 stl,iD i6,ar,.list true 1 [],iD rs,iD 1,iD 0]:=⟨_,rfl⟩;obtain⟨es2,hes2⟩:∃y,y=es1.set j [iD nd,iD i1,iD i2,iD i3,iD i4,.list false 2 stl,iD i6,ar,.list true 1 [],iD rs,iD 1,iD 1]:=⟨_,rfl⟩;obtain⟨es3,hes3⟩:∃y,y=es2.set j [iD nd,iD i1,iD i2,iD i3,iD i4,.list false 2 stl,iD i6,ar,.list true 1 [],iD rs,iD 2,iD 1]:=⟨_,rfl⟩;have hl1:es1.length=es.length:=by rw[hes1,List.length_set]
    have hl2:es2.length=es.length:=by rw[hes2,List.length_set,hl1]
    have he1:es1[j]? =some [iD nd,iD i1,iD i2,iD i3,iD i4,.list false 2 stl,iD i6,ar,.list true 1 [],iD rs,iD 1,iD 0]:=by rw[hes1,List.getElem?_set_self hjl]
    have he2:es2[j]? =some [iD nd,iD i1,iD i2,iD i3,iD i4,.list false 2 stl,iD i6,ar,.list true 1 [],iD rs,iD 1,iD 1]:=by rw[hes2,List.getElem?_set_self (by omega)]
    have e3:es.set j [iD nd,iD i1,iD i2,iD i3,iD i4,.list false 2 stl,iD i6,ar,.list true 1 [],iD rs,iD 2,iD 1]=es3:=by rw[hes3,hes2,hes1,List.set_set,List.set_set]
    rw[e3]at hfin;have hΛ0:Λ []=0:=by rw[Λo];rfl
    have b0:j+1<=es.length:=hjl;have b1:j+1<=es1.length:=by omega
    have b2:j+1<=es2.length:=by omega
    obtain⟨jv,hjv⟩:∃y:Int,y=j:=⟨_,rfl⟩;rw[←hjv]
    conv=>cbv
    repeat' first|exact b0|exact b1|exact b2|(intro(k:Nat) hk;refine(fun(hz:j=k)=> ?_) ?_;rotate_left;omega;subst hz;(conv=>cbv))|(intro(e:List D) he;cases osj (he.symm.trans hee);(conv=>cbv))|(intro(e:List D) he;cases osj (he.symm.trans he1);(conv=>cbv))|(intro(e:List D) he;cases osj (he.symm.trans he2);(conv=>cbv))|(intro(x:List (List D)) (hx:x=es.set j [iD nd,iD i1,iD i2,iD i3,iD i4,.list false 2 stl,iD i6,ar,.list true 1 [],iD rs,iD 1,iD 0]);refine(fun(hz:es1=x)=> ?_) (hes1.trans hx.symm);subst hz;(conv=>cbv))|(intro(x:List (List D)) (hx:x=es1.set j [iD nd,iD i1,iD i2,iD i3,iD i4,.list false 2 stl,iD i6,ar,.list true 1 [],iD rs,iD 1,iD 1]);refine(fun(hz:es2=x)=> ?_) (hes2.trans hx.symm);subst hz;(conv=>cbv))|(intro(x:List (List D)) (hx:x=es2.set j [iD nd,iD i1,iD i2,iD i3,iD i4,.list false 2 stl,iD i6,ar,.list true 1 [],iD rs,iD 2,iD 1]);refine(fun(hz:es3=x)=> ?_) (hes3.trans hx.symm);subst hz;(conv=>cbv))|exact gu|exact trivial|refine And.intro ?_ ?_|(intro hc;first|exact absurd hc (by decide)|(exfalso;omega)|((first|rw[wS (by omega) (by omega)]at hc|rw[Qab]at hc|skip);try (conv=>cbv)))|refine CallG.old ?_
    refine QaR 0 (fun(_:Unit)=>[(0,.c (.ptr 1 0 0 0)),(1,iA jv),(5,iA 0)]) (fun _=>[.am m,.bx [.d (iD nodes),.d (.list false 1 ol),.d (.list false 7 ll),.d (.list false 3 xl),.arr 2 v 0 nl],.da r v 12 es2]) (fun k _=>k<=0) () (Wk.ca) (by omega) (fun k s h=>h) ?_;rintro k-Q' hk0 norm ex rt
    conv=>cbv
    repeat' first|(refine ex _ _ _ ?_;(conv=>cbv))|(refine rt _ _ ?_;(conv=>cbv))|exact b0|exact b1|exact b2|(intro(k:Nat) hk;refine(fun(hz:j=k)=> ?_) ?_;rotate_left;omega;subst hz;(conv=>cbv))|(intro(e:List D) he;cases osj (he.symm.trans hee);(conv=>cbv))|(intro(e:List D) he;cases osj (he.symm.trans he1);(conv=>cbv))|(intro(e:List D) he;cases osj (he.symm.trans he2);(conv=>cbv))|(intro(x:List (List D)) (hx:x=es2.set j [iD nd,iD i1,iD i2,iD i3,iD i4,.list false 2 stl,iD i6,ar,.list true 1 [],iD rs,iD 2,iD 1]);refine(fun(hz:es3=x)=> ?_) (hes3.trans hx.symm);subst hz;(conv=>cbv))|exact gu|exact trivial|refine And.intro ?_ ?_|(intro hc;first|exact absurd hc (by decide)|(exfalso;omega)|((first|rw[wS (by omega) (by omega)]at hc|rw[Qab]at hc|skip);try (conv=>cbv)))|refine CallG.old ?_
    all_goals exact hfin []
  · by_cases hn0:g.nx s=[]
    · have hr0:(QgT S (g.nx s)).length=0:=by rw[hn0];rfl
      rw[hr0]at hnx;rw[hn0,if_pos rfl]at hQ;have hL:=hI 1 (by omega);have hd:=(hL.done hS (by rw[hn0];exact Nat.le_refl _) hk ⟨u,hu,hus⟩ (List.getElem?_set_self hjl)).2;rw[List.set_set]at hd;have hfin:=fun b=>hQ (bA true) (vsH t xs m v r (l.set j {u with co:=2,ct:=1})++b) ⟨_,b,rfl,hd⟩
      obtain⟨nd,⟨i1,i2,i3,i4,ust,i6⟩,ar,nx,rs,co,ct⟩:=u;simp only at hco hct hnx;subst hco hct hnx;clear hI hL hd h hR hQ;have hee:(l.map Qas)[j]? =some (Qas ⟨nd,⟨i1,i2,i3,i4,ust,i6⟩,ar,.sl bn 0 1 0 capn,rs,0,0⟩):=by rw[gtm,hu];rfl
      simp only[vsH,QaA,Qag,Qah,Qas,List.map_set,List.length_set]at hfin hee ⊢;generalize hxl:List.map Qaj xs=xl at*;generalize hol:t.ov.map Qbh=ol at*;generalize hll:t.links.map QaB=ll at*;generalize htn:t.nodes=nodes at*;generalize List.map Qaf ust=stl at*;generalize List.map Qas l=es at*;generalize l.length=nl at*;have hjl:j<es.length:=by omega
      obtain⟨es1,hes1⟩:∃y,y=es.set j [iD nd,iD i1,iD i2,iD i3,iD i4,.list false 2 stl,iD i6,ar,.sl bn 0 1 0 capn,iD rs,iD 1,iD 0]:=⟨_,rfl⟩;obtain⟨es2,hes2⟩:∃y,y=es1.set j [iD nd,iD i1,iD i2,iD i3,iD i4,.list false 2 stl,iD i6,ar,.sl bn 0 1 0 capn,iD rs,iD 1,iD 1]:=⟨_,rfl⟩;obtain⟨es3,hes3⟩:∃y,y=es2.set j [iD nd,iD i1,iD i2,iD i3,iD i4,.list false 2 stl,iD i6,ar,.sl bn 0 1 0 capn,iD rs,iD 2,iD 1]:=⟨_,rfl⟩;have hl1:es1.length=es.length:=by rw[hes1,List.length_set]
      have hl2:es2.length=es.length:=by rw[hes2,List.length_set,hl1]
      have he1:es1[j]? =some [iD nd,iD i1,iD i2,iD i3,iD i4,.list false 2 stl,iD i6,ar,.sl bn 0 1 0 capn,iD rs,iD 1,iD 0]:=by rw[hes1,List.getElem?_set_self hjl]
      have he2:es2[j]? =some [iD nd,iD i1,iD i2,iD i3,iD i4,.list false 2 stl,iD i6,ar,.sl bn 0 1 0 capn,iD rs,iD 1,iD 1]:=by rw[hes2,List.getElem?_set_self (by omega)]
      have e3:es.set j [iD nd,iD i1,iD i2,iD i3,iD i4,.list false 2 stl,iD i6,ar,.sl bn 0 1 0 capn,iD rs,iD 2,iD 1]=es3:=by rw[hes3,hes2,hes1,List.set_set,List.set_set]
      rw[e3]at hfin;have hΛ0:Λ []=0:=by rw[Λo];rfl
      have b0:j+1<=es.length:=hjl;have b1:j+1<=es1.length:=by omega
      have b2:j+1<=es2.length:=by omega
      obtain⟨jv,hjv⟩:∃y:Int,y=j:=⟨_,rfl⟩;rw[←hjv]
      conv=>cbv
      repeat' first|exact b0|exact b1|exact b2|(intro(k:Nat) hk;refine(fun(hz:j=k)=> ?_) ?_;rotate_left;omega;subst hz;(conv=>cbv))|(intro(e:List D) he;cases osj (he.symm.trans hee);(conv=>cbv))|(intro(e:List D) he;cases osj (he.symm.trans he1);(conv=>cbv))|(intro(e:List D) he;cases osj (he.symm.trans he2);(conv=>cbv))|(intro(x:List (List D)) (hx:x=es.set j [iD nd,iD i1,iD i2,iD i3,iD i4,.list false 2 stl,iD i6,ar,.sl bn 0 1 0 capn,iD rs,iD 1,iD 0]);refine(fun(hz:es1=x)=> ?_) (hes1.trans hx.symm);subst hz;(conv=>cbv))|(intro(x:List (List D)) (hx:x=es1.set j [iD nd,iD i1,iD i2,iD i3,iD i4,.list false 2 stl,iD i6,ar,.sl bn 0 1 0 capn,iD rs,iD 1,iD 1]);refine(fun(hz:es2=x)=> ?_) (hes2.trans hx.symm);subst hz;(conv=>cbv))|(intro(x:List (List D)) (hx:x=es2.set j [iD nd,iD i1,iD i2,iD i3,iD i4,.list false 2 stl,iD i6,ar,.sl bn 0 1 0 capn,iD rs,iD 2,iD 1]);refine(fun(hz:es3=x)=> ?_) (hes3.trans hx.symm);subst hz;(conv=>cbv))|exact gu|exact trivial|refine And.intro ?_ ?_|(intro hc;first|exact absurd hc (by decide)|(exfalso;omega)|((first|rw[wS (by omega) (by omega)]at hc|rw[Qab]at hc|skip);try (conv=>cbv)))|refine CallG.old ?_
      refine QaR 0 (fun(_:Unit)=>[(0,.c (.ptr 1 0 0 0)),(1,iA jv),(5,iA 0)]) (fun _=>[.am m,.bx [.d (iD nodes),.d (.list false 1 ol),.d (.list false 7 ll),.d (.list false 3 xl),.arr 2 v 0 nl],.da r v 12 es2]) (fun k _=>k<=0) () (Wk.ca) (by omega) (fun k s h=>h) ?_;rintro k-Q' hk0 norm ex rt
      conv=>cbv
      repeat' first|(refine ex _ _ _ ?_;(conv=>cbv))|(refine rt _ _ ?_;(conv=>cbv))|exact b0|exact b1|exact b2|(intro(k:Nat) hk;refine(fun(hz:j=k)=> ?_) ?_;rotate_left;omega;subst hz;(conv=>cbv))|(intro(e:List D) he;cases osj (he.symm.trans hee);(conv=>cbv))|(intro(e:List D) he;cases osj (he.symm.trans he1);(conv=>cbv))|(intro(e:List D) he;cases osj (he.symm.trans he2);(conv=>cbv))|(intro(x:List (List D)) (hx:x=es2.set j [iD nd,iD i1,iD i2,iD i3,iD i4,.list false 2 stl,iD i6,ar,.sl bn 0 1 0 capn,iD rs,iD 2,iD 1]);refine(fun(hz:es3=x)=> ?_) (hes3.trans hx.symm);subst hz;(conv=>cbv))|exact gu|exact trivial|refine And.intro ?_ ?_|(intro hc;first|exact absurd hc (by decide)|(exfalso;omega)|((first|rw[wS (by omega) (by omega)]at hc|rw[Qab]at hc|skip);try (conv=>cbv)))|refine CallG.old ?_
      all_goals exact hfin []
    · rw[if_neg hn0]at hQ
      have hL0:=hI 0 (by omega);have hkn:=hk;have hrl:(QgT S (g.nx s)).length=(g.nx s).length:=by rw[QgT,List.length_map]
      have hnr:0<(g.nx s).length:=List.length_pos_iff.2 hn0;obtain⟨nd,⟨i1,i2,i3,i4,ust,i6⟩,ar,nx,rs,co,ct⟩:=u;simp only at hco hct hnx;subst hco hct hnx;clear hI;rw[hrl]at*;generalize hrows:QgT S (g.nx s)=rows at*;generalize hnrv:(g.nx s).length=nr at*;have hee:(l.map Qas)[j]? =some (Qas ⟨nd,⟨i1,i2,i3,i4,ust,i6⟩,ar,.sl bn 0 1 nr capn,rs,0,0⟩):=by rw[gtm,hu];rfl
      have hnl:∀l':List StR,l'.map StR.base=l.map StR.base->l'.length=l.length:=fun l' h=>by simpa using congrArg List.length h
      have hu0:=hu;have hes1:((l.set j ⟨nd,⟨i1,i2,i3,i4,ust,i6⟩,ar,.sl bn 0 1 nr capn,rs,1,0⟩).map Qas)=(l.map Qas).set j (Qas ⟨nd,⟨i1,i2,i3,i4,ust,i6⟩,ar,.sl bn 0 1 nr capn,rs,1,0⟩):=List.map_set ..;have hL0:RvL g m S K l f Pre s 0 j 0 (K++[(s,none)]) (l.set j ⟨nd,⟨i1,i2,i3,i4,ust,i6⟩,ar,.sl bn 0 1 nr capn,rs,1,0⟩) 0:=hL0;generalize hl1:l.set j ⟨nd,⟨i1,i2,i3,i4,ust,i6⟩,ar,.sl bn 0 1 nr capn,rs,1,0⟩=l1 at*;have hll1:l1.length=l.length:=hnl _ hL0.base;simp only[vsH,QaA,Qag,Qah,Qas]at hQ hee hes1 ⊢;have hcall:=hR.call;simp only[vsH,Qag,Qah]at hcall;generalize hxl:List.map Qaj xs=xl at*;generalize hol:t.ov.map Qbh=ol at*;generalize hll:t.links.map QaB=ll at*;generalize htn:t.nodes=nodes at*;generalize hstl:List.map Qaf ust=stl at*;obtain⟨es,hes⟩:∃y,y=List.map Qas l:=⟨_,rfl⟩;obtain⟨es1,hes1e⟩:∃y,y=List.map Qas l1:=⟨_,rfl⟩;rw[←hes]at hee hes1 hbl ⊢;rw[←hes1e]at hes1;obtain⟨nl,hnle⟩:∃y,y=l.length:=⟨_,rfl⟩;rw[←hnle]at hjl hbl hll1 ⊢;have b0:j+1<=es.length:=by omega
      have b1:j+1<=es1.length:=by rw[hes1,List.length_set];omega
      have he1:es1[j]? =some [iD nd,iD i1,iD i2,iD i3,iD i4,.list false 2 stl,iD i6,ar,.sl bn 0 1 nr capn,iD rs,iD 1,iD 0]:=by rw[hes1,List.getElem?_set_self (by omega)]
      obtain⟨jv,hjv⟩:∃y:Int,y=j:=⟨_,rfl⟩;rw[←hjv]
      conv=>cbv
      repeat' first|exact b0|exact b1|(intro(k:Nat) hk;refine(fun(hz:j=k)=> ?_) ?_;rotate_left;omega;subst hz;(conv=>cbv))|(intro(e:List D) he;cases osj (he.symm.trans hee);(conv=>cbv))|(intro(e:List D) he;cases osj (he.symm.trans he1);(conv=>cbv))|(intro(x:List (List D)) (hx:x=es.set j [iD nd,iD i1,iD i2,iD i3,iD i4,.list false 2 stl,iD i6,ar,.sl bn 0 1 nr capn,iD rs,iD 1,iD 0]);refine(fun(hz:es1=x)=> ?_) (hes1.trans hx.symm);subst hz;(conv=>cbv))|exact gu|exact trivial|refine And.intro ?_ ?_|(intro hc;first|exact absurd hc (by decide)|(exfalso;omega)|((first|rw[wS (by omega) (by omega)]at hc|rw[Qab]at hc|skip);try (conv=>cbv)))|refine CallG.old ?_
      have hat:∀(l':List StR),l'.map StR.base=l.map StR.base->∃co ct,l'[j]? =some ⟨nd,⟨i1,i2,i3,i4,ust,i6⟩,ar,.sl bn 0 1 nr capn,rs,co,ct⟩:=fun l' hb=>by
        obtain⟨⟨nd',⟨k1,k2,k3,k4,ust',k6⟩,ar',nx',rs',co',ct'⟩,hu',hb⟩:=Qi6 hb hu0;simp only[StR.base,StR.mk.injEq,Pkt.mk.injEq]at hb;obtain⟨rfl,⟨rfl,rfl,rfl,rfl,rfl,rfl⟩,rfl,rfl,rfl,-,-⟩:=hb;exact⟨co',ct',hu'⟩
      refine Qbz nr (fun(q:List StR×Int)=>[(0,.c (.ptr 1 0 0 0)),(1,iA jv),(5,iA q.2)]) (fun(q:List StR×Int)=>[.am m,.bx [.d (iD nodes),.d (.list false 1 ol),.d (.list false 7 ll),.d (.list false 3 xl),.arr 2 v 0 nl],.da r v 12 (q.1.map Qas)])
        (fun k (q:List StR×Int)=>q.2=k/\k<=nr/\∃K' c,RvL g m S K l f Pre s 0 j k K' q.1 c) (l1,0) 0
        (fun(_:List StR)=>[(0,.c (.ptr 1 0 0 0)),(1,iA jv)]) (fun(l':List StR)=>[.am m,.bx [.d (iD nodes),.d (.list false 1 ol),.d (.list false 7 ll),.d (.list false 3 xl),.arr 2 v 0 nl],.da r v 12 (l'.map Qas)]) (fun l'=>∃K' c,RvL g m S K l f Pre s 0 j nr K' l' c) (by simp only[←hes1e];exact Wk.ca) ⟨rfl,by omega,_,_,hL0⟩ (fun k s h=>h.2.1) ?_ ?_
      · rintro kk ⟨lq,ki⟩ Q' ⟨hki,hkl,Kq,c,hL⟩ norm jn ex rt
        simp only at hki norm jn ⊢;have hllq:=hnl lq hL.base;obtain⟨coq,ctq,huq⟩:=hat lq hL.base;have hctq:ctq=c:=by
          obtain⟨w,hw,_,e⟩:=hL.at_;rw[huq]at hw;cases hw;exact e
        rw[hctq]at huq;have heq:(lq.map Qas)[j]? =some (Qas ⟨nd,⟨i1,i2,i3,i4,ust,i6⟩,ar,.sl bn 0 1 nr capn,rs,coq,c⟩):=by rw[gtm,huq];rfl
        have hlnq:(lq.map Qas).length=lq.length:=List.length_map ..;simp only[Qas,QaA,hstl]at heq;by_cases hlt:kk<nr
        · clear jn
          obtain⟨y,hy⟩:∃y,(g.nx s)[kk]? =some y:=⟨_,lgE (by omega)⟩;have hym:=mgE hy;have hcl:=hcall y hym Kq lq hL.vs hL.pre;have hlaw:=hR.law y hym Kq;have hrk:=QyM (S:=S) hy;rw[hrows]at hrk;have hyS:S[Qld S y]? =some y:=QmV (hin y hym);generalize Qld S y=jy at*;have hcl:FnS P Qat [.c (.ptr 1 0 0 0),iA jy] [.am m,.bx [.d (iD nodes),.d (.list false 1 ol),.d (.list false 7 ll),.d (.list false 3 xl),.arr 2 v 0 nl],.da r v 12 (lq.map Qas)] fun q h'=>∃l' esz,h'=[.am m,.bx [.d (iD nodes),.d (.list false 1 ol),.d (.list false 7 ll),.d (.list false 3 xl),.arr 2 v 0 nl],.da r v 12 esz]/\esz=l'.map Qas/\VisO g m S Kq lq (f Kq y) q l':=by
            rw[hllq,←hnle]at hcl;refine hcl.mono fun q h' ⟨l',e,hv⟩=>⟨l',_,?_,rfl,hv⟩
            rw[e,hnl l' (hv.base.trans hL.base),hnle]
          generalize hesq:lq.map Qas=esq at*;have b5:j+1<=esq.length:=by omega
          obtain⟨jyv,hjyv⟩:∃z:Int,z=jy:=⟨_,rfl⟩;rw[←hjyv]at hcl hrk;cases hf:f Kq y with
          |none=>
            rw[hf]at hcl;have hdn:Qf1 f (g.nx s) (K++[(s,none)]) 0=none:=by
              rw[hL.eq,List.drop_eq_getElem_cons (by rw[hnrv];exact hlt),(List.getElem?_eq_some_iff.1 hy).2];simp only[Qf1,hf]
            rw[hdn]at hQ;have hfin:∀l' esz b,esz=l'.map Qas->VisO g m S Kq lq none (bA false) l'->Q (bA false) ([.am m,.bx [.d (iD nodes),.d (.list false 1 ol),.d (.list false 7 ll),.d (.list false 3 xl),.arr 2 v 0 nl],.da r v 12 esz]++b):=fun l' esz b hez hv=>by
              obtain⟨e1,e2⟩:=hL.call hv;refine hQ _ _ ⟨l',b,by rw[hez,hnl l' e1,←hnle],e1,fun i u u' h1 h2 h3=> ?_,rfl⟩;by_cases e:i=j
              · subst e
                rw[hu0]at h1;cases h1;rw[hus,hkn]at h3;cases h3
              · exact e2 i u u' e h1 h2 h3
            clear hQ norm hL hcall hR hlaw hat hL0 hin h
            conv=>cbv
            repeat' first|(refine ex _ _ _ ?_;(conv=>cbv))|(refine rt _ _ ?_;(conv=>cbv))|exact b5|(intro(k:Nat) hk;refine(fun(hz:j=k)=> ?_) ?_;rotate_left;omega;subst hz;(conv=>cbv))|(intro(k:Nat) hk;refine(fun(hz:kk=k)=> ?_) ?_;rotate_left;omega;subst hz;(conv=>cbv))|(intro(e:List D) he;cases osj (he.symm.trans heq);(conv=>cbv))|(refine⟨Nn,rows.flatten,_,hmn,hrk,?_⟩;(conv=>cbv))|(refine Qar [0,1,2] hcl rfl rfl (by decide) (by repeat' first|exact trivial|refine And.intro ?_ ?_|rfl) rfl rfl ?_;rintro rz hc' ⟨l',esz,rfl,hez,hv⟩;have hq:rz=bA false:=hv.res;subst hq;(conv=>cbv))|exact gu|exact trivial|refine And.intro ?_ ?_|(intro hc;first|exact absurd hc (by decide)|(exfalso;omega)|((first|rw[wS (by omega) (by omega)]at hc|rw[Qab]at hc|skip);try (conv=>cbv)))|refine CallG.old ?_
            exact hfin l' esz [] hez hv
          |some K'=>
            obtain⟨hp',hd',cy,hcy,hly⟩:=hlaw K' hL.pre hf;have hrow2:∀q l',VisO g m S Kq lq (f Kq y) q l'->q=bA true/\∃co2,(l'.map Qas)[j]? =some [iD nd,iD i1,iD i2,iD i3,iD i4,.list false 2 stl,iD i6,ar,.sl bn 0 1 nr capn,iD rs,iD co2,iD c]/\(∃(n1 n2 n3 n4 n5 n6 n7 n8:Int) (d1 d2 d3:D),(l'.map Qas)[jy]? =some [iD n1,iD n2,iD n3,iD n4,iD n5,d1,iD n6,d2,d3,iD n7,iD n8,iD cy])/\∀c',c'=Qi7 (c+cy)->∀L' h',(Wk 3 L' h' [(0,.c (.ptr 1 0 0 0)),(1,iA jv),(5,iA ((kk+1:Nat):Int))] [.am m,.bx [.d (iD nodes),.d (.list false 1 ol),.d (.list false 7 ll),.d (.list false 3 xl),.arr 2 v 0 nl],.da r v 12 ((l'.map Qas).set j [iD nd,iD i1,iD i2,iD i3,iD i4,.list false 2 stl,iD i6,ar,.sl bn 0 1 nr capn,iD rs,iD co2,iD c'])]->Q' .normal L' h'):=fun q l' hv=>by
              obtain⟨e1,e2⟩:=hL.call hv;have hres:=hv.res;rw[hf]at hres;obtain⟨hq,hvs⟩:=hres;obtain⟨co2,ct2,hu2⟩:=hat l' e1;have hct2:ct2=c:=hv.op j _ _ huq hu2 (by rw[show StR.key ⟨nd,⟨i1,i2,i3,i4,ust,i6⟩,ar,.sl bn 0 1 nr capn,rs,coq,c⟩=s from hus];exact hL.opn);rw[hct2]at hu2;refine⟨hq,co2,?_,?_,fun c' hc' L' h' hw=> ?_⟩
              · rw[gtm,hu2,←hstl];rfl
              · obtain⟨w,hw⟩:∃w,l'[jy]? =some w:=by
                  have:=(List.getElem?_eq_some_iff.1 hyS).1;rw[←hvs.ks,List.length_map]at this;exact⟨_,lgE this⟩
                have hwk:w.key=y:=by
                  have:=hyS;rw[←hvs.ks,gtm,hw]at this;exact osj this
                have hwc:=(hvs.ct w (mgE hw)).1 cy (by rw[hwk];exact hly);refine⟨w.node,w.p.id,w.p.src,w.p.dst,w.p.flow,w.p.hops,w.rs,w.co,QaA w.p.stack,w.ar,w.nx,?_⟩
                · rw[gtm,hw,←hwc];rfl
              · have hn:=hL.next hS hy hf hp' hd' hv hly hcy hc' hu2
                refine norm L' h' (_,((kk+1:Nat):Int)) ⟨rfl,hlt,_,_,hn⟩ ?_;simp only[List.map_set,Qas,QaA,hstl];exact hw
            obtain⟨ki1,hki1⟩:∃z:Int,z=((kk+1:Nat):Int):=⟨_,rfl⟩;rw[←hki1]at hrow2;have hcn:=hL.cn;have c1:(0:Int)<=jyv:=by omega
            have c2:jyv<(nl:Int):=by
              have h1:=(List.getElem?_eq_some_iff.1 hyS).1;rw[←h.ks,List.length_map,←hnle]at h1;omega
            clear hQ norm hL hcall hR hlaw hat hL0 hin h
            conv=>cbv
            repeat' first|(refine ex _ _ _ ?_;(conv=>cbv))|(refine rt _ _ ?_;(conv=>cbv))|exact b5|exact b6|exact b7|exact c1|exact c2|(intro(k:Nat) hk;refine(fun(hz:j=k)=> ?_) ?_;rotate_left;omega;subst hz;(conv=>cbv))|(intro(k:Nat) hk;refine(fun(hz:jy=k)=> ?_) ?_;rotate_left;omega;subst hz;(conv=>cbv))|(intro(k:Nat) hk;refine(fun(hz:kk=k)=> ?_) ?_;rotate_left;omega;subst hz;(conv=>cbv))|(intro(e:List D) he;cases osj (he.symm.trans heq);(conv=>cbv))|(intro(e:List D) he;cases osj (he.symm.trans hj2);(conv=>cbv))|(intro(e:List D) he;cases osj (he.symm.trans hjy);(conv=>cbv))|(refine⟨Nn,rows.flatten,_,hmn,hrk,?_⟩;(conv=>cbv))|(refine Qar [0,1,2] hcl rfl rfl (by decide) (by repeat' first|exact trivial|refine And.intro ?_ ?_|rfl) rfl rfl ?_;rintro rz hc' ⟨l',esz,rfl,hez,hv⟩;obtain⟨hq,co2,hj2,⟨n1,n2,n3,n4,n5,n6,n7,n8,d1,d2,d3,hjy⟩,nrm⟩:=hrow2 rz l' hv;rw[←hez]at hj2 hjy nrm;have b6:j+1<=esz.length:=(List.getElem?_eq_some_iff.1 hj2).1;have b7:jy+1<=esz.length:=(List.getElem?_eq_some_iff.1 hjy).1;subst hq;(conv=>cbv))|(intro(xz:List (List D)) hxz;(conv=>cbv))|(intro(k:Int) hk;rw[wS (by omega) (by omega)]at hk;refine(fun(hz:ki1=k)=> ?_) ?_;rotate_left;omega;subst hz;(conv=>cbv))|exact gu|exact trivial|refine And.intro ?_ ?_|(intro hc;first|exact absurd hc (by decide)|(exfalso;omega)|((first|rw[wS (by omega) (by omega)]at hc|rw[Qab]at hc|skip);try (conv=>cbv)))|refine CallG.old ?_
            subst hxz;rename_i w1 hw1 w2 hw2;refine nrm w2 (by simp only[Qi7];split<;>omega) _ _ ?_;exact Wk.ca
        · obtain rfl:kk=nr:=by omega
          have jn:=fun L' h'=>jn L' h' lq ⟨_,_,hL⟩
          clear ex norm;generalize List.map Qas lq=esq at*;have b5:j+1<=esq.length:=by omega
          conv=>cbv
          repeat' first|exact b5|(intro(k:Nat) hk;refine(fun(hz:j=k)=> ?_) ?_;rotate_left;omega;subst hz;(conv=>cbv))|(intro(e:List D) he;cases osj (he.symm.trans heq);(conv=>cbv))|(refine jn _ _ ?_;exact Wk.ca)|exact gu|exact trivial|refine And.intro ?_ ?_|(intro hc;first|exact absurd hc (by decide)|(exfalso;omega)|((first|rw[wS (by omega) (by omega)]at hc|rw[Qab]at hc|skip);try (conv=>cbv)))|refine CallG.old ?_
      · rintro l' ⟨K',c,hL⟩
        simp only;have hll':=hnl l' hL.base;obtain⟨co',ct',hu'⟩:=hat l' hL.base;obtain⟨hd1,hd2⟩:=hL.done hS (by rw[hnrv];exact Nat.le_refl _) hkn ⟨_,hu0,hus⟩ hu';rw[hd1]at hQ;have hfin:=fun b=>hQ (bA true) _ ⟨_,b,rfl,hd2⟩
        have hee':(l'.map Qas)[j]? =some (Qas ⟨nd,⟨i1,i2,i3,i4,ust,i6⟩,ar,.sl bn 0 1 nr capn,rs,co',ct'⟩):=by rw[gtm,hu'];rfl
        have hln:(l'.map Qas).length=l'.length:=List.length_map ..;clear hd1 hd2 hQ hL hL0 hcall hR;simp only[Qas,List.map_set,List.length_set,QaA,hstl,hll',←hnle]at hfin hee';generalize List.map Qas l'=es5 at*;obtain⟨es6,hes6⟩:∃y,y=es5.set j [iD nd,iD i1,iD i2,iD i3,iD i4,.list false 2 stl,iD i6,ar,.sl bn 0 1 nr capn,iD rs,iD 2,iD ct']:=⟨_,rfl⟩;rw[←hes6]at hfin;have b5:j+1<=es5.length:=by omega
        conv=>cbv
        repeat' first|(refine ex _ _ _ ?_;(conv=>cbv))|(refine rt _ _ ?_;(conv=>cbv))|exact b5|(intro(k:Nat) hk;refine(fun(hz:j=k)=> ?_) ?_;rotate_left;omega;subst hz;(conv=>cbv))|(intro(e:List D) he;cases osj (he.symm.trans hee');(conv=>cbv))|(intro(x:List (List D)) (hx:x=es5.set j [iD nd,iD i1,iD i2,iD i3,iD i4,.list false 2 stl,iD i6,ar,.sl bn 0 1 nr capn,iD rs,iD 2,iD ct']);refine(fun(hz:es6=x)=> ?_) (hes6.trans hx.symm);subst hz;(conv=>cbv))|exact gu|exact trivial|refine And.intro ?_ ?_|(intro hc;first|exact absurd hc (by decide)|(exfalso;omega)|((first|rw[wS (by omega) (by omega)]at hc|rw[Qab]at hc|skip);try (conv=>cbv)))|refine CallG.old ?_
        all_goals exact hfin []
theorem Qnn{P:Program}{args:List AV}{g:Wlk}{t:Top}{xs:List Tab}{m:Ar}{v:Nat}{r:Bool}{S:List WSt}{K:Kn WSt}{l:List StR}{o:Option (Kn WSt)}
 (h:FnS P Qat args (vsH t xs m v r l) fun q h'=>∃l' b,h'=vsH t xs m v r l'++b/\VisO g m S K l o q l'):
  FnS P Qat args (vsH t xs m v r l) fun q h'=>∃l',h'=vsH t xs m v r l'/\VisO g m S K l o q l':=by
 refine FnS.mono (h.cut fun q h' hr=> ?_) fun q h' hr=> ?_
 ·obtain⟨l',b,rfl,hv⟩:=hr;have hq:q=bA true\/q=bA false:=by
   have:=hv.res;cases o with
   |none=>exact .inr this
   |some K'=>exact .inl this.1
  rcases hq with rfl|rfl
  ·exact⟨rfl,rfl⟩
  ·exact⟨rfl,rfl⟩
 ·obtain⟨h2,⟨l',b,e,hv⟩,hl⟩:=hr;refine⟨l',?_,hv⟩;have:=congrArg (List.take 3) e;rw[List.take_append_of_le_length (by rw[hl];exact Nat.le_refl _),List.take_of_length_le (by rw[hl];exact Nat.le_refl _)]at this;rw[this];rfl
theorem Qul(P:Program)(hP:P=Tryz.prog)(t:Top)(xs:List Tab)(g:Wlk)(m:Ar)(S:List WSt)(hS:S.Nodup)(hcl:∀s∈S,∀y∈g.nx s,y∈S)(hlen:∀s∈S,(g.nx s).length<=1000)(v:Nat)(r:Bool):∀(n:Nat) (s:WSt),s∈S->∀(K:Kn WSt) (l:List StR),VsI g m S K l->PreN g S n K->
    FnS P Qat [.c (.ptr 1 0 0 0),iA (Qld S s:Nat)] (vsH t xs m v r l) fun q h'=>∃l',h'=vsH t xs m v r l'/\VisO g m S K l (dfs g.nx n K s) q l':=by
  intro n;induction n with
  |zero=>
    intro s hs K l hI hK;by_cases hk:lkK K s=none
    · exfalso
      have h1:(K.map (·.1)++[s]).Nodup:=by
        rw[List.nodup_append];refine⟨hK.nd,by simp,fun x hx y hy e=> ?_⟩;simp at hy;rw[e,hy]at hx;exact Qfb.1 hk hx
      have h2:=h1.length_le_of_subset (l₂:=S) fun x hx=>by
        rcases List.mem_append.1 hx with hx|hx
        · exact hK.sub x hx
        · simp at hx;rw[hx];exact hs
      rw[List.length_append,List.length_map]at h2;have:=hK.fuel;simp at h2;omega
    · exact Qnn (Qil P hP t xs g m S K l v r (Qld S s) 0 s hI (QmV hs) hk)
  |succ n ih=>
    intro s hs K l hI hK;by_cases hk:lkK K s=none
    · have hR:RecV P t xs g m S v r s (dfs g.nx n) (PreN g S n):=
        { call:=fun y hy K2 l2 h2 hK2=>ih y (hcl s hs y hy) K2 l2 h2 hK2
          law:=fun y hy K2 K3 hK2 hd=>by
            obtain⟨h1,c,h2⟩:=QjH hK2.dn hd;have h3:=QgN hK2.nd hd;obtain⟨nw,hnw⟩:=h1.pre;have hlen:K2.length<=K3.length:=by
              have:=congrArg List.length hnw;simp at this;omega
            refine⟨⟨h1.dn,h3,?_,by have:=hK2.fuel;omega⟩,h1,c,?_,h2⟩
            · exact Qte (U:=(·∈S)) hcl hK2.sub (hcl s hs y hy) hd
            · obtain⟨⟨k,_,e⟩,_⟩:=h1.dn y c h2
              have:=Qs6 (n:=num g.nx k y);rw[←e]at this;exact this}
      have hpre:PreN g S n (K++[(s,none)]):=by
        refine⟨Qoa hK.dn hk,?_,fun y hy=> ?_,by have:=hK.fuel;simp;omega⟩
        · rw[List.map_append,List.nodup_append]
          refine⟨hK.nd,by simp,fun x hx y hy e=> ?_⟩;simp at hy;rw[e,hy]at hx;exact Qfb.1 hk hx
        · rw[List.map_append]at hy
          rcases List.mem_append.1 hy with hy|hy
          · exact hK.sub y hy
          · simp at hy;rw[hy];exact hs
      have h:=Qnn (Qsi P hP t xs g m S K l v r (Qld S s) s hI hS (QmV hs) hk (hlen s hs) hR hpre);have e:dfs g.nx (n+1) K s=(match Qf1 (dfs g.nx n) (g.nx s) (K++[(s,none)]) (if g.nx s=[]then 1 else 0)with
        |none=>none
        |some (K',c)=>some (QkI K' s c)):=by
        simp only[dfs,hk];cases Qf1 (dfs g.nx n) (g.nx s) (K++[(s,none)]) (if g.nx s=[]then 1 else 0)<;>rfl
      rw[e];exact h
    · exact Qnn (Qil P hP t xs g m S K l v r (Qld S s) (n+1) s hI (QmV hs) hk)
theorem Qpb{g:Wlk}{p:Pkt}{m m':Ar}{l:List StR}(h:XpI g p m m' l l.length []):VsI g m' (l.map StR.key) [] l where
 ks:=rfl
 row s hs:=by
  obtain⟨j,hj⟩:=List.getElem?_of_mem hs;obtain⟨-,-,h3,h4⟩:=h.dn j s (List.getElem?_eq_some_iff.1 hj).1 hj;exact⟨h4,h3⟩
 co s hs:=(h.pk s hs).2.1
 ct s hs:=⟨fun c hc=>(by cases hc),fun _=>(h.pk s hs).2.2⟩
theorem Qsc(g:Wlk)(S:List WSt):PreN g S S.length []where
 dn:=fun x c h=>by cases h
 nd:=by simp
 sub x hx:=by simp at hx
 fuel:=by simp
end Go.Ab
namespace Go.Ab
def Qwc(n:Nat):AV->Bool
 | .tup l=>l.all (Qef n)
 |x=>Qef n x
theorem Que(ρ:Nat->Nat):∀(l:List AV) (i:Nat),(rnAs ρ l)[i]? =(l[i]?).map (rnA ρ)
 |[],_=>by simp[rnAs,rnA.rnAs]
 |x::l,0=>by simp[rnAs,rnA.rnAs]
 |x::l,i+1=>by
  have:=Que ρ l i;simpa [rnAs,rnA.rnAs]using this
theorem Quf(ρ:Nat->Nat):∀(l:List AV),(rnAs ρ l).length=l.length
 |[]=>rfl
 |x::l=>by
  have:=Quf ρ l;simpa [rnAs,rnA.rnAs]using this
theorem VR.unrnT{G:Nat->Prop}{w:World}{ι ιc:Io}{h hc:Hp}{ρ:Nat->Nat}(am:Among ρ ιc hc ι h){v:Value}{x:AV}(hx:VR G w ι h v (rnA ρ x))(hr:Qwc hc.length x=true):VR G w ιc hc v x:=by
 cases x with
 |c x=>exact hx.unrn am hr
 |agg l=>exact hx.unrn am hr
 |tup l=>
  cases hx with
  |tup cs _ hn h1=>
   have h1:∀(i:Nat) (v:Value) (x:AV),cs[i]? =some v->(rnAs ρ l)[i]? =some x->VR G w ι h v x:=h1;refine .tup cs l (by rw[hn];exact Quf ρ l) fun i v x hv hx=> ?_
   exact(h1 i v (rnA ρ x) hv (by rw[Que,hx];rfl)).unrn am (List.all_eq_true.1 hr x (mgE hx))
theorem FnS.gct{P:Program}{f:Nat}{args:List AV}{h:Hp}{R:AV->Hp->Prop}(hf:FnS P f args h R)(Q:AV->Hp->Prop)
   (hg:∀r h',R r h'->∃(σ:List Nat) (r':AV) (hc:Hp),Q r' hc/\σ.length=hc.length/\σ.Nodup/\(∀l∈σ,l<h'.length)/\(∀(i:Nat) (k:Blk),hc[i]? =some k->h'[rho σ h'.length i]? =some (rnB (rho σ h'.length) k))/\
      r=rnA (rho σ h'.length) r'/\QcP hc.length hc=true/\Qwc hc.length r'=true/\h.length<=hc.length/\(∀i,i<h.length->rho σ h'.length i=i)/\∀k∈hc,∀m v es,k≠ .mi m v es):FnS P f args h Q:=by
  refine⟨fun G ι w vs hr hv=> ?_⟩;refine(hf.out G ι w vs hr hv).mono fun e w2 ⟨v,r,G2,ι2,h',he,hR,hr2,hvr,hx⟩=> ?_
  obtain⟨σ,r',hc,hQ,hlen,hnd,hlt,hh,hrr,hcl,hca,hle,hid,hmi⟩:=hg r h' hR;generalize hρ:rho σ h'.length=ρ at*;have rold:∀i,i<σ.length->σ[i]? =some (ρ i):=fun i hi=>by rw[←hρ];exact Qkn σ _ i hi
  have rnew:∀i,σ.length<=i->ρ i=h'.length+(i-σ.length):=fun i hi=>by rw[←hρ];exact Qnj σ _ i hi
  have rmem:∀i,i<σ.length->ρ i∈σ:=fun i hi=>mgE (rold i hi)
  have rinj:∀i j,ρ i=ρ j->i=j:=by
    intro i j e;rcases Nat.lt_or_ge i σ.length with hi|hi<;>rcases Nat.lt_or_ge j σ.length with hj|hj
    · have h1:=rold i hi
      have h2:=rold j hj;rw[e,←h2]at h1;exact(List.getElem?_inj hi hnd).1 h1
    · have:=hlt _ (rmem i hi);have:=rnew j hj;omega
    · have:=hlt _ (rmem j hj);have:=rnew i hi;omega
    · have:=rnew i hi;have:=rnew j hj;omega
  let ιc:Io:=σ.map fun l=>(ι2[l]?).getD (0,0)
  have hιc:∀i,i<σ.length->ιc[i]? =ι2[ρ i]? :=by
    intro i hi;simp only[ιc,gtm,rold i hi,Option.map_some];rw[lgE (by rw[hr2.len];exact hlt _ (rmem i hi))];rfl
  have am:Among ρ ιc hc ι2 h':=⟨hh,fun i k hk=>(hιc i (by rw[hlen];exact Qaa hk)).symm⟩;have hrc:HR G2 ιc hc w2:=HR.down am hr2 (by simp[ιc,hlen]) (fun i j _ _ e=>rinj i j e) hcl;have hvc:VR G2 w2 ιc hc v r':=VR.unrnT am (hrr▸hvr) hca;refine⟨v,r',G2,ιc,hc,he,hQ,hrc,hvc,?_⟩;exact
    { size:=hx.size
      quiet:=hx.quiet
      frame:=hx.frame
      gmono:=hx.gmono
      gnew:=hx.gnew
      onew:=fun b ho=>hx.onew b (QdL am ho)
      keep:=fun l k hk=>by
        obtain⟨k',h1,h2⟩:=hx.keep l k hk;have hl:=Qaa hk;have hkc:hc[l]? =some (hc[l]'(by omega)):=lgE _;have h3:=hh l _ hkc;rw[hid l hl,h1]at h3;cases h3;exact⟨_,hkc,h2.unrn (by rw[hιc l (by omega),hid l hl]) (hmi _ (List.getElem_mem _))⟩}
end Go.Ab
