/-
  Merged texts, part t.
-/
import Derived.Test.YtohbofilgkdihaaGreatDoorZs
set_option linter.all false
namespace Go.Ab
open Go.Proofs
def Jin(J:List Rsl->(Nat->Prop)->Ar->Prop)(pre0:List Rsl)(l' b3 N3 l:Nat)(rdy:AB):List Rsl->(Nat->Prop)->Ar->Prop:=λpre' O' m'=>
 ∃O1,J (pre0++pre') O1 m'/\(∀b,O' b↔O1 b\/b=l'\/b=b3)/\m' l'=some rdy/\m' b3=some (.cs N3 [.yl l])/\¬O1 l'/\¬O1 b3
theorem YlC.inn{P:Program}{l N:Nat}{J:List Rsl->(Nat->Prop)->Ar->Prop}(hY:YlC P l N J){pre0:List Rsl}{l' b3 N3:Nat}{rdy bsy:AB}(hP:P=Tryz.prog)(hlb:l'≠b3)
 (hr:∀(m1:Ar) (r:Rsl) (K:Ar->Prop),m1 l'=some rdy->m1 b3=some (.cs N3 [.yl l])->FnS P (8589934592+l) [Quq r] [.am (mup m1 l' bsy)] (λq h'=>q=bA true/\∃m2,h'=[.am m2]/\m2 l'=some bsy/\K (mup m2 l' rdy))->
   FnS P (8589934592+l') [Quq r] [.am m1] λq h'=>q= .c (.d (.bool true))/\∃m3 tl,h'= .am m3::tl/\K m3):YlC P l' (N-pre0.length) (Jin J pre0 l' b3 N3 l rdy)where
 no:=nofn P hP l'
 out pre' O' m1 r hj hN:=by
  obtain⟨O1,h1,h2,h3,h4,h5,h6⟩:=hj;have hj1:J (pre0++pre') O1 (mup m1 l' bsy):=hY.st _ _ _ _ h1 λb hb=>Qaq λe=>h5 (e▸hb)
  have hf:=hY.out _ O1 _ r hj1 (by rw[List.length_append];omega);have hk:=hr m1 r (λm3=>∃O3,Jin J pre0 l' b3 N3 l rdy (pre'++[r]) O3 m3/\(∀b,m1 b≠none->¬O' b->m3 b=m1 b)/\∀b,O3 b->O' b\/m1 b=none) h3 h4 (hf.mono ?_)
  ·refine(hk.cut ?_).mono ?_
   ·rintro q h' ⟨rfl,m3,tl,rfl,-⟩;exact⟨rfl,rfl⟩
   ·rintro q h1' ⟨h2',⟨rfl,m3,tl,e,O3,hO3⟩,hl⟩
    match h1',hl with
    |[k],_=>
     simp only[List.cons_append,List.nil_append,List.cons.injEq]at e;exact⟨rfl,m3,O3,by rw[e.1],hO3⟩
  ·rintro q h' ⟨rfl,m2,O2,rfl,k1,k2,k3⟩;have hO2:∀b,mup m1 l' bsy b≠none->¬O1 b->¬O2 b:=λb a1 a2 a3=>(k3 b a3).elim a2 a1
   have hl2:¬O2 l':=hO2 l' (by rw[Qbg];simp) h5;have hb2:¬O2 b3:=hO2 b3 (by rw[Qaq (λe=>hlb e.symm),h4];simp) h6;have hml:m2 l'=some bsy:=by rw[k2 l' (by rw[Qbg];simp) h5,Qbg]
   have hmb:m2 b3=some (.cs N3 [.yl l]):=by rw[k2 b3 (by rw[Qaq (λe=>hlb e.symm),h4];simp) h6,Qaq (λe=>hlb e.symm),h4]
   refine⟨rfl,m2,rfl,hml,λb=>O2 b\/b=l'\/b=b3,⟨O2,?_,λb=>Iff.rfl,Qbg _ _ _,by rw[Qaq (λe=>hlb e.symm)];exact hmb,hl2,hb2⟩,λb a1 a2=> ?_,λb hb=> ?_⟩
   ·rw[<-List.append_assoc];exact hY.st _ _ _ _ k1 λb hb=>Qaq λe=>hl2 (e▸hb)
   ·have hbl:b≠l':=λe=>a2 ((h2 b).2 (.inr (.inl e)))
    have hbo:¬O1 b:=λe=>a2 ((h2 b).2 (.inl e))
    rw[Qaq hbl,k2 b (by rw[Qaq hbl];exact a1) hbo,Qaq hbl]
   ·rcases hb with hb|hb
    ·rcases k3 b hb with h|h
     ·exact .inl ((h2 b).2 (.inl h))
     ·by_cases e:b=l'
      ·exact .inl ((h2 b).2 (.inr (.inl e)))
      ·rw[Qaq e]at h;exact .inr h
    ·exact .inl ((h2 b).2 (.inr hb))
 st pre' O' m1 m2 hj hm:=by
  obtain⟨O1,h1,h2,h3,h4,h5,h6⟩:=hj;exact⟨O1,hY.st _ _ _ _ h1 λb hb=>hm b ((h2 b).2 (.inl hb)),h2,by rw[hm l' ((h2 l').2 (.inr (.inl rfl)))];exact h3,by rw[hm b3 ((h2 b3).2 (.inr (.inr rfl)))];exact h4,h5,h6⟩
 ne pre' O' m1 b hj hb:=by
  obtain⟨O1,h1,h2,h3,h4,h5,h6⟩:=hj;rcases(h2 b).1 hb with h|rfl|rfl
  ·exact hY.ne _ _ _ _ h1 h
  ·rw[h3];simp
  ·rw[h4];simp
abbrev brT (g:Wlk) (n:Nat) (x:WSt) (p:List Int) (k:Nat):List Rsl:=((g.ar x).take k).flatMap λe=>brR g n (g.to x e) (p++[e])
structure BrI (g:Wlk) (J:List Rsl->(Nat->Prop)->Ar->Prop) (n:Nat) (x:WSt) (p:List Int) (b3 N3 l:Nat) (pre:List Rsl) (O:Nat->Prop) (m:Ar) (k:Nat) (q:Ar×(Nat->Prop)×Int):Prop where
 i:q.2.2=k
 le:k<=(g.ar x).length
 j:J (pre++brT g n x p k) q.2.1 q.1
 at3:q.1 b3=some (.cs N3 [.yl l])
 new:m b3=none
 bo:¬q.2.1 b3
 fr:∀b,m b≠none->¬O b->q.1 b=m b
 own:∀b,q.2.1 b->O b\/m b=none
theorem Qqw{g:Wlk}{n:Nat}{x:WSt}{p:List Int}{k:Nat}{e:Int}(he:(g.ar x)[k]? =some e):brT g n x p (k+1)=brT g n x p k++brR g n (g.to x e) (p++[e]):=by
 simp only[brT];rw[List.take_add_one,he,List.flatMap_append];simp
theorem QzT{g:Wlk}{n:Nat}{x:WSt}{p:List Int}{k:Nat}(hx:g.ar x≠[]):(brT g n x p k).length<=(brR g (n+1) x p).length:=by
 rw[Qqv hx]
 conv=>rhs;rw[<-List.take_append_drop k (g.ar x),List.flatMap_append,List.length_append]
 exact Nat.le_add_right _ _
theorem QxR{g:Wlk}{n:Nat}{x:WSt}{p:List Int}{k:Nat}(hx:g.ar x≠[])(hk:(g.ar x).length<=k):brT g n x p k=brR g (n+1) x p:=by
 rw[Qqv hx];simp only[brT];rw[tkQ hk]
section
variable{P:Program}{g:Wlk}{l N:Nat}{J:List Rsl->(Nat->Prop)->Ar->Prop}{n:Nat}{x:WSt}{p:List Int}{b3 N3:Nat}{pre:List Rsl}{O:Nat->Prop}{m:Ar}{kk:Nat}{m' m3 m4:Ar}{O':Nat->Prop}{i:Int}{bx1 bp1 Nx1 Np1 ab l':Nat}{ye:List (List D)}{e:Int}{rdy:AB}
theorem QeK{m m2:Ar}{b c:Nat}{x:AB}(hm:m2=mup m b x)(h:m2 c=none):m c=none:=by
 by_cases e:c=b
 ·rw[hm,e,Qbg]at h;cases h
 ·rw[hm,Qaq e]at h;exact h
theorem Qda{m m2:Ar}{b c:Nat}{x:AB}(hm:m2=mup m b x)(hb:m b=none)(h:m c≠none):m2 c=m c:=by
 rw[hm,Qaq (λe=>h (by rw[e];exact hb))]
theorem QzU(hY:YlC P l N J)(hI:BrI g J n x p b3 N3 l pre O m kk (m',O',i))(hbx:m' bx1=none)(hm3:m3=mup m' bx1 (.cs Nx1 [.adr ab 0]))(hbp:m3 bp1=none)(hm4:m4=mup m3 bp1 (.cs Np1 [.list false 1 ye]))(hl:m4 l'=none)
 (hpe:(p++[e]).map Qar=ye)(hpt:PT g O m n (g.to x e) ab)(hlen:p.length+(n+1)<=1000000):
  BrP g (Jin J (pre++brT g n x p kk) l' b3 N3 l rdy) n (g.to x e) (p++[e]) false ab bx1 bp1 Nx1 Np1 [] (λb=>O' b\/b=l'\/b=b3) (mup m4 l' rdy):=by
 obtain⟨-,-,hj,h3,hnew,ho3,hfr,how⟩:=hI;simp only at hj h3 ho3 hfr how;have hne:∀b,O' b->m' b≠none:=λb hb=>hY.ne _ _ _ _ hj hb
 have hk4:∀b,m' b≠none->mup m4 l' rdy b=m' b:=λb hb=>by
  have h1:=Qda hm3 hbx hb;have h2:=Qda hm4 hbp (by rw[h1];exact hb);rw[Qaq (λe=>by rw[<-e,h2,h1]at hl;exact hb hl),h2,h1]
 have hl0:m' l'=none:=QeK hm3 (QeK hm4 hl);have hx4:m4 bx1=some (.cs Nx1 [.adr ab 0]):=Qb1 hm4 hbp (Qbq hm3);have hp4:m4 bp1=some (.cs Np1 [.list false 1 ye]):=Qbq hm4;have hbp0:m' bp1=none:=QeK hm3 hbp;refine{j:=⟨O',?_,λb=>Iff.rfl,Qbg _ _ _,?_,λh=>hne _ h hl0,ho3⟩,pt:=hpt.keep (λb h1 h2=> ?_) λb hb=> ?_,mx:= ?_,xo:= ?_,mp:= ?_,po:= ?_,nt:=λh=>by simp at h,nf:=λ_=>rfl,len:=by simp;omega}
 ·rw[List.append_nil];exact hY.st _ _ _ _ hj λb hb=>hk4 b (hne b hb)
 ·rw[hk4 b3 (by rw[h3];simp),h3]
 ·rw[hk4 b (by rw[hfr b h1 h2];exact h1),hfr b h1 h2]
 ·rcases hb with hb|rfl|rfl
  ·exact how b hb
  ·by_cases h0:m b=none
   ·exact .inr h0
   ·by_cases ho:O b
    ·exact .inl ho
    ·rw[hfr b h0 ho]at hl0;exact absurd hl0 h0
  ·exact .inr hnew
 ·rw[Qaq (λe=>by rw[e,hl]at hx4;cases hx4)];exact hx4
 ·rintro(h|rfl|rfl)
  ·exact hne _ h hbx
  ·rw[hl]at hx4;cases hx4
  ·rw[hbx]at h3;cases h3
 ·rw[Qaq (λe=>by rw[e,hl]at hp4;cases hp4),hpe];exact hp4
 ·rintro(h|rfl|rfl)
  ·exact hne _ h hbp0
  ·rw[hl]at hp4;cases hp4
  ·rw[hbp0]at h3;cases h3
theorem Qvm(hY:YlC P l N J)(hI:BrI g J n x p b3 N3 l pre O m kk (m',O',i))(hbx:m' bx1=none)(hm3:m3=mup m' bx1 (.cs Nx1 [.adr ab 0]))(hbp:m3 bp1=none)(hm4:m4=mup m3 bp1 (.cs Np1 [.list false 1 ye]))(hl:m4 l'=none)(he:(g.ar x)[kk]? =some e)
 {m5:Ar}{O5:Nat->Prop}(hj5:Jin J (pre++brT g n x p kk) l' b3 N3 l rdy ([]++brR g n (g.to x e) (p++[e])) O5 m5)(h5:∀b,mup m4 l' rdy b≠none->¬(O' b\/b=l'\/b=b3)->m5 b=mup m4 l' rdy b)(ho5:∀b,O5 b->(O' b\/b=l'\/b=b3)\/mup m4 l' rdy b=none):
  m5 l'=some rdy/\∃O6,BrI g J n x p b3 N3 l pre O m (kk+1) (mdel m5 l',O6,((kk+1:Nat):Int)):=by
 obtain⟨-,-,hj,h3,hnew,ho3,hfr,how⟩:=hI;simp only at hj h3 ho3 hfr how;have hne:∀b,O' b->m' b≠none:=λb hb=>hY.ne _ _ _ _ hj hb
 have hk4:∀b,m' b≠none->mup m4 l' rdy b=m' b:=λb hb=>by
  have h1:=Qda hm3 hbx hb;have h2:=Qda hm4 hbp (by rw[h1];exact hb);rw[Qaq (λe=>by rw[<-e,h2,h1]at hl;exact hb hl),h2,h1]
 have hl0:m' l'=none:=QeK hm3 (QeK hm4 hl);obtain⟨O6,k1,k2,k3,k4,k5,k6⟩:=hj5;refine⟨k3,O6,{i:=rfl,le:=Qaa he,j:= ?_,at3:= ?_,new:=hnew,bo:=k6,fr:=λb h1 h2=> ?_,own:=λb hb=> ?_}⟩
 ·rw[Qqw he,<-List.append_assoc];exact hY.st _ _ _ _ (by simpa using k1) λb hb=>QbR λe=>k5 (e▸hb)
 ·simp only;rw[QbR (λe=>by rw[<-e,h3]at hl0;cases hl0)];exact k4
 ·have h0:m' b=m b:=hfr b h1 h2;have h0n:m' b≠none:=by rw[h0];exact h1
  have hbl:b≠l':=λe=>by rw[e]at h0n;exact h0n hl0
  have hb3':b≠b3:=λe=>by rw[e]at h1;exact h1 hnew
  have hbo:¬O' b:=λh=>(how b h).elim h2 h1
  simp only;rw[QbR hbl,h5 b (by rw[hk4 b h0n];exact h0n) (λh=>h.elim hbo λh=>h.elim hbl hb3'),hk4 b h0n,h0]
 ·simp only at hb;rcases ho5 b ((k2 b).2 (.inl hb))with (h|h|h)|h
  ·exact how b h
  ·exact absurd (h▸hb) k5
  ·exact absurd (h▸hb) k6
  ·by_cases h0:m b=none
   ·exact .inr h0
   ·by_cases ho:O b
    ·exact .inl ho
    ·have h1:m' b≠none:=by rw[hfr b h0 ho];exact h0
     rw[hk4 b h1]at h;exact absurd h h1
end
theorem QmL:∀l:List Nat,(l.map Qgw).flatten=l.map λb=>D.adr b 0
 |[]=>rfl
 |b::r=>by rw[List.map_cons,List.flatten_cons,QmL r];rfl
theorem QxS(P:Program)(hP:P=Tryz.prog){g:Wlk}{l N:Nat}{J:List Rsl->(Nat->Prop)->Ar->Prop}(hY:YlC P l N J){n:Nat}{x:WSt}{p:List Int}{nl:Bool}{a bx bp Nx Np:Nat}{pre:List Rsl}{O:Nat->Prop}{m:Ar}
 (hb0:BrP g J (n+1) x p nl a bx bp Nx Np pre O m)(hx:g.ar x≠[])(hN:pre.length+(brR g (n+1) x p).length<=N)
 (ih:∀(e:Int),e∈g.ar x->∀{l N:Nat} {J:List Rsl->(Nat->Prop)->Ar->Prop},YlC P l N J->∀{a bx bp Nx Np:Nat} {pre:List Rsl} {O:Nat->Prop} {m:Ar},BrP g J n (g.to x e) (p++[e]) false a bx bp Nx Np pre O m->pre.length+(brR g n (g.to x e) (p++[e])).length<=N->
   FnS P Qan [.c (.d (.yl l)),.c (.d (.adr bx 0)),.c (.d (.adr bp 0))] [.am m] λ_ h'=>YlE J pre (brR g n (g.to x e) (p++[e])) O m h'):
  FnS P Qan [.c (.d (.yl l)),.c (.d (.adr bx 0)),.c (.d (.adr bp 0))] [.am m] λ_ h'=>YlE J pre (brR g (n+1) x p) O m h':=by
 have hcn:=λh=>Qk1 P hP h nl (p.map Qar) (by have:=hb0.len;rw[List.length_map];omega) (λh=>hb0.nt (by simpa using h)) (λh=>hb0.nf (by simpa using h))
 have hmk:=λm a pl=>QtV P hP m a false pl
 have hno:=nofn P hP;have hfok:FnOk P Qan:=⟨_,hP▸Qa6,rfl,by decide⟩;have hin:=λ{pre0:List Rsl} {l' b3 N3:Nat} {rdy bsy:AB} (h:l'≠b3)=>hY.inn (pre0:=pre0) (l':=l') (b3:=b3) (N3:=N3) (rdy:=rdy) (bsy:=bsy) hP h
 refine QaW (hP▸mixed) (hP▸Qa6) (hP▸QcA) (nle rfl) λΛ Λo K hK=> ?_
 clear hP;obtain⟨hao,Na,nx,c,ads,hat,hrow,hnxo,hal,hpt⟩:=hb0.pt;have hmx:=hb0.mx;have hmp:=hb0.mp;simp only[plD]at hat;have hend:=λh' (h:YlE J pre (brR g (n+1) x p) O m h')=>hK (.tup []) h' h
 have hfz:=λb (hf:m b=none)=>(λc (hc:O c) (e:c=b)=>hY.ne pre O m c hb0.j hc (e▸hf):∀c,O c->c=b->False)
 clear hK;have hΛ:Λ ((g.ar x).map Qar)=(g.ar x).length:=by rw[Λo];simp
 have hpos:0<(g.ar x).length:=by
  cases h:g.ar x with
  |nil=>exact absurd h hx
  |cons=>simp
 generalize hpl:p.map Qar=pl at*;generalize harl:(g.ar x).map Qar=arl at*
 conv=>cbv
 repeat' first|(right;intro(_:Unit);intro(b3:Nat) (N3:Nat) (m2:Ar) hbn (_:_<=N3) hm2;have hx2:=Qb1 hm2 hbn hmx;have ha2:=Qb1 hm2 hbn hat;have hp2:=Qb1 hm2 hbn hmp;have hb2:=Qbq hm2;have hj2:=hY.st pre O m m2 hb0.j (λc hc=>by rw[hm2,Qaq (λe=>hfz b3 hbn c hc e)]);(conv=>cbv))|(refine⟨Nx,_,_,hx2,rfl,?_⟩;(conv=>cbv))|(refine⟨Na,_,_,ha2,rfl,?_⟩;(conv=>cbv))|(refine⟨Np,_,_,hp2,rfl,?_⟩;(conv=>cbv))|(refine⟨N3,_,_,hb2,rfl,?_⟩;(conv=>cbv))|exact gxQ|refine And.intro ?_ ?_|(intro hc;(first|rw[wS (by omega) (by omega)]at hc|rw[Qab]at hc|skip);try (conv=>cbv))|refine CallG.old ?_
 have hb3o:¬O b3:=λh=>hfz b3 hbn b3 h rfl
 refine QaT (g.ar x).length (λ(q:Ar×(Nat->Prop)×Int)=>[(1,.c (.d (.adr bx 0))),(2,.c (.d (.adr bp 0))),(3,.c (.d (.adr b3 0))),(29,.c (.d (.list false 1 arl))),(30,iA (Λ arl)),(31,iA q.2.2)]) (λq=>[.am q.1]) (BrI g J n x p b3 N3 l pre O m) (m2,O,0) (Wk.ca)
  {i:=rfl,le:=Nat.zero_le _,j:=by simpa [brT]using hj2,at3:=hb2,new:=hbn,bo:=hb3o,fr:=λb h1 _=>(by rw[hm2];exact Qaq λe=>h1 (by rw[e];exact hbn)),own:=λb h=> .inl h} (λk s h=>h.le) ?_
 rintro kk ⟨m',O',i⟩ Q' hI norm ex rt;have⟨hi,hk,hj,h3,hb3n,ho3,hfr,how⟩:=hI;simp only at hi hj h3 ho3 hfr how;subst hi;have hkp:∀b y,m b=some y->¬O b->m' b=some y:=λb y h1 h2=>by rw[hfr b (by rw[h1];simp) h2];exact h1
 have gx:=hkp _ _ hmx hb0.xo;have gp:=hkp _ _ hmp hb0.po;have ga:=hkp _ _ hat hao;by_cases hlt:kk<(g.ar x).length
 ·obtain⟨e,he⟩:∃e,(g.ar x)[kk]? =some e:=⟨_,lgE hlt⟩;obtain⟨ab,hab⟩:∃ab,ads[kk]? =some ab:=⟨_,lgE (by omega)⟩;rcases hrow with ⟨rfl,hads⟩|⟨bn,Nn,cap,rfl,hbn2,hsz,hcap,hNn⟩
  ·have:ads=[]:=by simpa using hads
   rw[this]at hal;simp at hal;omega
  have gn:=hkp _ _ hbn2 (hnxo _ ⟨_,_,_,_,rfl⟩);obtain⟨ka,hka⟩:∃ka:Int,(kk:Int)=ka:=⟨_,rfl⟩;have hk0:0<=ka:=by omega
  have hkl3:ka<(g.ar x).length:=by omega
  have hk1:((kk+1:Nat):Int)=ka+1:=by omega
  have hee:=he;have hak:arl[ka.toNat]? =some (Qar e):=by rw[<-hka,<-harl,Int.toNat_natCast,gtm,he];rfl
  have hck:(List.map Qgw ads).flatten[kk]? =some (.adr ab 0):=by rw[QmL,gtm,hab];rfl
  have hnal2:(List.map Qgw ads).length=(g.ar x).length:=by rw[List.length_map];exact hal
  obtain⟨rb,hnew⟩:=hcn [.am m'];have hnp1:pl.length<=1000000:=by rw[<-hpl,List.length_map];have:=hb0.len;omega
  generalize hnp:pl.length=np at*;obtain⟨ye,hye⟩:∃ye,ye=pl++[Qar e]:=⟨_,rfl⟩;obtain⟨n1,hn1⟩:∃n1,n1=np+1:=⟨_,rfl⟩;have hyl:n1=ye.length:=by rw[hye,hn1,List.length_append,hnp];rfl
  have hpe:(p++[e]).map Qar=ye:=by rw[List.map_append,hpl,hye];rfl
  have nrm:=λL' h' m3 O3 hx=>norm L' h' (m3,O3,((kk+1:Nat):Int)) hx
  clear norm;simp only[hka,hk1]at nrm |-;generalize hcells:(List.map Qgw ads).flatten=cells at*;generalize hnal:(List.map Qgw ads).length=nal at*
  conv=>cbv
  repeat' first|(refine Qln 1 2 1 n1 rfl hyl (by repeat' first|exact trivial|refine And.intro ?_ ?_|rfl) (by repeat' first|exact trivial|refine And.intro ?_ ?_|rfl) ?_;(conv=>cbv))|(refine Qpo [0] (hmk m' ab ye) rfl rfl (by decide) (by repeat' first|exact trivial|refine And.intro ?_ ?_|rfl) rfl rfl ?_;rintro r hc' ⟨bx1,bp1,Nx1,Np1,m3,m4,rfl,rfl,hbx1,hm3,hbp1,hm4⟩;(conv=>cbv))|(refine CallG.nw (λn=> .c (.arr n 1 0 np)) (.da rb 1 1 pl) (.inl ⟨_,_,rfl⟩) rfl (hnew _ rfl) rfl ?_;(conv=>cbv))|(intro(m:Nat) (r:Bool) (y:List (List D)) hm hr hy;refine(λ(hz:n1=m) (hz2:ye=y)=> ?_) (by first|omega|(simp only[List.length_cons,List.length_nil]at hm;omega)) (by first|(rw[hy,List.drop_zero,tkQ (by omega)];exact hye)|(rw[hy];exact hye));subst hz;subst hz2;(conv=>cbv))|(intro(k:Nat) hk;refine(λ(hz:kk=k)=> ?_) ?_;rotate_left;omega;subst hz;(conv=>cbv))|(intro(e:List D) he;cases osj (he.symm.trans hak);(conv=>cbv))|(refine⟨Nx,_,_,gx,rfl,?_⟩;(conv=>cbv))|(refine⟨Na,_,_,ga,rfl,?_⟩;(conv=>cbv))|(refine⟨Np,_,_,gp,rfl,?_⟩;(conv=>cbv))|(refine⟨N3,_,_,h3,rfl,?_⟩;(conv=>cbv))|(refine⟨Nn,_,_,gn,hck,?_⟩;(conv=>cbv))|exact gxQ|refine And.intro ?_ ?_|(intro hc;(first|rw[wS (by omega) (by omega)]at hc|rw[Qab]at hc|skip);try (conv=>cbv))|refine CallG.old ?_
  clear hnew hcn hmk;have h33:m3 b3=some (.cs N3 [.yl l]):=Qb1 hm3 hbx1 h3;have h43:m4 b3=some (.cs N3 [.yl l]):=Qb1 hm4 hbp1 h33;refine⟨m4,_,_,_,rfl,rfl,rfl,hfok,hno,λl' rdy bsy hl' hYl=> ?_⟩;have hlb:l'≠b3:=λe=>by rw[e,h43]at hl';cases hl'
  have hr:∀(m1:Ar) (r:Rsl) (K:Ar->Prop),m1 l'=some rdy->m1 b3=some (.cs N3 [.yl l])->FnS P (8589934592+l) [Quq r] [.am (mup m1 l' bsy)] (λq h'=>q=bA true/\∃m2,h'=[.am m2]/\m2 l'=some bsy/\K (mup m2 l' rdy))->
    FnS P (8589934592+l') [Quq r] [.am m1] λq h'=>q= .c (.d (.bool true))/\∃m3 tl,h'= .am m3::tl/\K m3:=by
   intro m1 r K h1 h2 hf;refine hYl m1 (Quq r) K h1 rfl ?_;have h2b:mup m1 l' bsy b3=some (.cs N3 [.yl l]):=by rw[Qaq (λe=>hlb e.symm)];exact h2
   generalize hmb:mup m1 l' bsy=m1b at*;have hnl:=hno l;clear hYl ih hin hfz hkp nrm ex rt hend;obtain⟨rn,rr,rp⟩:=r;simp only[Quq,Qax]at hf |-;generalize rp.map Qar=rpl at*
   conv=>cbv
   repeat' first|(left;intro(_:Unit);(conv=>cbv))|exact hnl|(refine⟨m1,_,rfl,h1,?_⟩;rw[hmb];(conv=>cbv))|(refine⟨N3,_,_,h2b,rfl,?_⟩;(conv=>cbv))|(refine Qs6 (l:=l) (by generalize l=l0;cases l0<;>rfl) [0] hf rfl rfl (by decide) (by repeat' first|exact trivial|refine And.intro ?_ ?_|rfl) rfl rfl ?_;rintro q h' ⟨rfl,m2,rfl,hm2l,hm2K⟩;(conv=>cbv))|exact⟨_,_,rfl,hm2l,hm2K⟩|exact gxQ|refine And.intro ?_ ?_|(intro hc;(first|rw[wS (by omega) (by omega)]at hc|rw[Qab]at hc|skip);try (conv=>cbv))|refine CallG.old ?_
  have hbr:=QzU (rdy:=rdy) hY hI hbx1 hm3 hbp1 hm4 hl' hpe (hpt kk e ab hee hab) hb0.len;have hcall:=ih e (mgE hee) (hin (pre0:=pre++brT g n x p kk) hlb hr) hbr (by
   have h1:=QzT (n:=n) (p:=p) (k:=kk+1) hx;rw[Qqw hee,List.length_append]at h1;simp only[List.length_nil,List.length_append];omega)
  refine(FnS.frame hcall [0] [.am (mup m4 l' rdy),.dead,.da true 0 1 [[.int .i64 e]]] rfl (by simp) (λi k hk=> ?_) rfl (by simp[Qdn,QeU])).mono ?_
  ·match i,hk with
   |0,hk=>cases hk;rfl
   |i+1,hk=>simp at hk
  ·rintro r h' ⟨r0,hc',⟨m5,O5,rfl,hj5,h5,ho5⟩,rfl,rfl⟩;obtain⟨k3,O6,hI6⟩:=Qvm hY hI hbx1 hm3 hbp1 hm4 hl' hee hj5 h5 ho5;refine⟨m5,_,rfl,k3,?_⟩;rw[hk1]at hI6;have hnn:=λL' h'=>nrm L' h' _ O6 hI6
   clear nrm hI hI6 hcall hbr hr hYl ih hin;generalize mdel m5 l'=m6 at*
   conv=>cbv
   repeat' first|(subst hc;refine hnn _ _ ?_;exact(Wk.ca))|exact gxQ|refine And.intro ?_ ?_|(intro hc;(first|rw[wS (by omega) (by omega)]at hc|rw[Qab]at hc|skip);try (conv=>cbv))|refine CallG.old ?_
 ·have hke:kk=(g.ar x).length:=by omega
  rw[QxR hx (by omega)]at hj;have hfin:=hend _ ⟨m',O',rfl,hj,hfr,how⟩;clear norm hI hin ih hmk hcn hend;obtain⟨ka,hka⟩:∃ka:Int,(kk:Int)=ka:=⟨_,rfl⟩;simp only[hka];have hkge:¬ka<Λ arl:=by omega
  conv=>cbv
  repeat' first|(refine ex 0 _ _ ?_;(conv=>cbv))|exact hfin|exact gxQ|refine And.intro ?_ ?_|(intro hc;(first|rw[wS (by omega) (by omega)]at hc|rw[Qab]at hc|skip);try (conv=>cbv))|refine CallG.old ?_
theorem QBq(P:Program)(hP:P=Tryz.prog){g:Wlk}:∀(n:Nat) {x:WSt} {p:List Int} {nl:Bool} {l N:Nat} {J:List Rsl->(Nat->Prop)->Ar->Prop},YlC P l N J->∀{a bx bp Nx Np:Nat} {pre:List Rsl} {O:Nat->Prop} {m:Ar},BrP g J n x p nl a bx bp Nx Np pre O m->pre.length+(brR g n x p).length<=N->
  FnS P Qan [.c (.d (.yl l)),.c (.d (.adr bx 0)),.c (.d (.adr bp 0))] [.am m] λ_ h'=>YlE J pre (brR g n x p) O m h':=by
 intro n;induction n with
 |zero=>
  intro x p nl l N J hY a bx bp Nx Np pre O m hb hN;have hx:g.ar x=[]:=by have:=hb.pt;rw[PT]at this;exact this.2.1
  exact Qs5 P hP hY hb hx (by rw[Qml hx,List.length_singleton]at hN;omega)
 |succ n ih=>
  intro x p nl l N J hY a bx bp Nx Np pre O m hb hN;by_cases hx:g.ar x=[]
  ·exact Qs5 P hP hY hb hx (by rw[Qml hx,List.length_singleton]at hN;omega)
  ·exact QxS P hP hY hb hx hN λe _=>ih
def Jsq(l' Bs:Nat)(rdy:AB):List Rsl->(Nat->Prop)->Ar->Prop:=λpre O m=>
 ∃d N,m Bs=some (.cs N [d])/\Qdg 3 m d (pre.map Qfg)/\(∀b,O b↔b=Bs\/b=l'\/InB d b)/\m l'=some rdy/\¬InB d Bs/\¬InB d l'/\l'≠Bs
structure GrS (sz:Nat) (m m4:Ar) (d d4:D) (l:List (List D)):Prop where
 row:Qdg sz m4 d4 l
 same:∀i,m i≠none->¬InB d i->m4 i=m i
 new:∀i,InB d4 i->InB d i\/m i=none
theorem Qj7{sz:Nat}{m m':Ar}{b N cap k:Nat}{e:List D}(he:e.length=sz)(hb:m b=none)(hk:k=1)(hc:k<=cap)(hN:cap*sz<=N)(hm':m'=mup m b (.cs N [e].flatten)):GrS sz m m' (.list true sz []) (.sl b 0 sz k cap) [e]:=
 ⟨.inr ⟨b,N,cap,by rw[hk];rfl,by rw[hm',Qbg],λx hx=>by simp at hx;rw[hx];exact he,by simpa [<-hk]using hc,hN⟩,λi hi _=>by rw[hm',Qaq λe=>hi (by rw[e];exact hb)],λi hi=>by rw[Qeg hi];exact .inr hb⟩
theorem Qm3{sz:Nat}{m m':Ar}{b b' n c N cap k:Nat}{e:List D}{es:List (List D)}(hs:∀x∈es,x.length=sz)(he:e.length=sz)(hn:es.length=n)(hb:mdel m b b'=none)(hk:k=n+1)(hc:k<=cap)(hN:cap*sz<=N)(hm':m'=mup (mdel m b) b' (.cs N (es++[e]).flatten)):GrS sz m m' (.sl b 0 sz n c) (.sl b' 0 sz k cap) (es++[e]):=by
 refine⟨.inr ⟨b',N,cap,by rw[hk,<-hn];simp,by rw[hm',Qbg],λx hx=> ?_,by rw[List.length_append,hn];simpa [<-hk]using hc,hN⟩,λi hi hn=>QoF hm' (λe=>hn (by rw[e];exact⟨_,_,_,_,rfl⟩)) hb hi,λi hi=> ?_⟩
 ·rcases List.mem_append.1 hx with hx|hx
  ·exact hs x hx
  ·simp at hx;rw[hx];exact he
 ·rw[Qeg hi];rcases QmB hb with e|e
  ·exact .inl (by rw[e];exact⟨_,_,_,_,rfl⟩)
  ·exact .inr e
theorem QuA{m1 m1b m4 m6:Ar}{l' Bs N N6:Nat}{bsy rdy:AB}{d d6:D}{ys:List (List D)}(hmb:mup m1 l' bsy=m1b)(h1:m1 l'=some rdy)(h2:m1 Bs=some (.cs N [d]))(hlb:l'≠Bs)(hdl:¬InB d l')(hdb:¬InB d Bs)(g:GrS 3 m1b m4 d d6 ys)(hm6:m6=mup m4 Bs (.cs N6 [d6])):
  m6 l'=some bsy/\mup m6 l' rdy l'=some rdy/\mup m6 l' rdy Bs=some (.cs N6 [d6])/\Qdg 3 (mup m6 l' rdy) d6 ys/\(∀b,m1 b≠none->b≠Bs->b≠l'->¬InB d b->mup m6 l' rdy b=m1 b)/\∀b,InB d6 b->InB d b\/m1 b=none:=by
 have hbl:m1b l'=some bsy:=by rw[<-hmb,Qbg]
 have hbs:m1b Bs=some (.cs N [d]):=by rw[<-hmb,Qaq (λe=>hlb e.symm)];exact h2
 have hn:∀b,m1b b=none->m1 b=none:=λb hb=>QeK hmb.symm hb
 have hdl6:¬InB d6 l':=λh=>(g.new l' h).elim hdl λh=>by rw[hbl]at h;cases h
 have hdb6:¬InB d6 Bs:=λh=>(g.new Bs h).elim hdb λh=>by rw[hbs]at h;cases h
 refine⟨?_,Qbg _ _ _,?_,?_,λb hb hbB hbl' hbd=> ?_,λb hb=>(g.new b hb).imp id (hn b)⟩
 ·rw[hm6,Qaq hlb,g.same l' (by rw[hbl];simp) hdl,hbl]
 ·rw[Qaq (λe=>hlb e.symm),hm6,Qbg]
 ·refine g.row.frame λi hi=> ?_
  rw[Qaq (λe=>hdl6 (by rw[<-e];exact hi)),hm6,Qaq (λe=>hdb6 (by rw[<-e];exact hi))]
 ·have h3:m1b b=m1 b:=by rw[<-hmb,Qaq hbl']
  rw[Qaq hbl',hm6,Qaq hbB,g.same b (by rw[h3];exact hb) hbd,h3]
theorem QAS(P:Program)(hP:P=Tryz.prog){g:Wlk}{n:Nat}{x:WSt}{a bx bp Nx Np:Nat}{m:Ar}(hpt:PT g (λ_=>False) m n x a)(hmx:m bx=some (.cs Nx [.adr a 0]))(hmp:m bp=some (.cs Np [.list true 1 []]))(hn:n<=1000000)(hlen:(brR g n x []).length<=1000):
    FnS P Qbx [.c (.d (.list true 3 [])),.c (.fn false Qan [.d (.adr bx 0),.d (.adr bp 0)])] [.am m] λr h'=>∃m' d,h'=[.am m']/\r= .c (.d d)/\Qdg 3 m' d ((brR g n x []).map Qfg)/\(∀b,m b≠none->m' b=m b)/\∀b,InB d b->m b=none:=by
  have hbr:=λ{l N:Nat} {J:List Rsl->(Nat->Prop)->Ar->Prop} (hY:YlC P l N J) {a bx bp Nx Np:Nat} {pre:List Rsl} {O:Nat->Prop} {m:Ar} (hb:BrP g J n x [] true a bx bp Nx Np pre O m)=>QBq P hP n hY hb
  have hno:=nofn P hP;have hfok:FnOk P Qan:=⟨_,hP▸Qa6,rfl,by decide⟩;refine QaW (hP▸mixed) (hP▸QcV) (hP▸Qc3) (nle rfl) λΛ Λo K hK=> ?_
  clear hP;have hend:=λm' d h1 h2 h3=>hK (.c (.d d)) [.am m'] ⟨m',d,rfl,rfl,h1,h2,h3⟩
  clear hK
  conv=>cbv
  repeat' first|(right;intro(_:Unit);intro(Bs:Nat) (Nb:Nat) (m2:Ar) hbn (_:_<=Nb) hm2;(conv=>cbv))|exact gxQ|refine And.intro ?_ ?_|(intro hc;(first|rw[wS (by omega) (by omega)]at hc|rw[Qab]at hc|skip);try (conv=>cbv))|refine CallG.old ?_
  refine⟨m2,_,_,_,rfl,rfl,rfl,hfok,hno,λl' rdy bsy hl' hYl=> ?_⟩
  have hr:∀(m1:Ar) (d:D) (N:Nat) (pre:List Rsl) (r:Rsl) (K:Ar->Prop),m1 l'=some rdy->m1 Bs=some (.cs N [d])->Qdg 3 m1 d (pre.map Qfg)->l'≠Bs->¬InB d l'->¬InB d Bs->pre.length<1000->
      (∀m2 d2 N2,m2 l'=some rdy->m2 Bs=some (.cs N2 [d2])->Qdg 3 m2 d2 ((pre++[r]).map Qfg)->(∀b,m1 b≠none->b≠Bs->b≠l'->¬InB d b->m2 b=m1 b)->(∀b,InB d2 b->InB d b\/m1 b=none)->K m2)->
      FnS P (8589934592+l') [Quq r] [.am m1] λq h'=>q= .c (.d (.bool true))/\∃m3 tl,h'= .am m3::tl/\K m3:=by
    intro m1 d N pre r K h1 h2 hrow hlb hdl hdb hpre hKm;refine hYl m1 (Quq r) K h1 rfl ?_;have h2b:mup m1 l' bsy Bs=some (.cs N [d]):=by rw[Qaq (λe=>hlb e.symm)];exact h2
    have hrowb:Qdg 3 (mup m1 l' bsy) d (pre.map Qfg):=hrow.frame λb hb=>Qaq λe=>hdl (e▸hb)
    clear hYl hbr hend;obtain⟨rn,rr,rp⟩:=r;have hen:Qfg ⟨rn,rr,rp⟩=[iD rn,iD rr,Qax rp]:=rfl;rw[List.map_append,List.map_singleton,hen]at hKm;simp only[Quq,Qax]at hKm |-;have hpl:(pre.map Qfg).length<1000:=by rw[List.length_map];exact hpre
    generalize rp.map Qar=rpl at*;generalize pre.map Qfg=prl at*;generalize hmb:mup m1 l' bsy=m1b at*;rcases hrowb with ⟨rfl,rfl⟩|⟨bn,Nn,cap,rfl,hbn2,hsz,hcap,hNn⟩
    · conv=>cbv
      repeat' first|(right;intro(_:Unit);refine And.intro (λ_=>⟨(λhq=>by cases hq),nle rfl⟩) ?_;intro(b4:Nat) (N4:Nat) (cap4:Nat) (k4:Nat) (m4:Ar) hb4 hk4 hkc4 hcN4 hm4;have h4b:=Qb1 hm4 hb4 h2b;have hg:=Qj7 (e:=[iD rn,iD rr,.list false 1 rpl]) rfl hb4 hk4 hkc4 hcN4 hm4;(conv=>cbv))|(left;intro(_:Unit);(conv=>cbv))|(refine⟨N,_,h4b,nle rfl,?_⟩;intro m6 hm6;(conv=>cbv))|(refine⟨m1,_,rfl,h1,?_⟩;rw[hmb];(conv=>cbv))|(refine⟨N,_,_,h2b,rfl,?_⟩;(conv=>cbv))|exact gxQ|refine And.intro ?_ ?_|(intro hc;(first|rw[wS (by omega) (by omega)]at hc|rw[Qab]at hc|skip);try (conv=>cbv))|refine CallG.old ?_
      obtain⟨a1,a2,a3,a4,a5,a6⟩:=QuA (rdy:=rdy) hmb h1 h2 hlb hdl hdb hg hm6;exact⟨_,_,rfl,a1,hKm _ _ _ a2 a3 a4 a5 a6⟩
    · have hbB:Bs≠bn:=λe=>hdb (e▸⟨_,_,_,_,rfl⟩)
      generalize hnal:prl.length=nal at*
      conv=>cbv
      repeat' first|(refine⟨Nn,prl,hbn2,rfl,hnal,hsz,hcap,hNn,(λ_=>⟨(λhq=>by cases hq),(show(nal+1)*40<=140737488355328 by omega)⟩),?_⟩;intro(b4:Nat) (N4:Nat) (cap4:Nat) (k4:Nat) (m4:Ar) hb4 hk4 hkc4 hcN4 hm4;have hg:=Qm3 (c:=cap) (e:=[iD rn,iD rr,.list false 1 rpl]) hsz rfl hnal hb4 hk4 hkc4 hcN4 hm4;have h4b:=(hg.same Bs (by rw[h2b];simp) (λe=>hbB (Qeg e))).trans h2b;(conv=>cbv))|(left;intro(_:Unit);(conv=>cbv))|(refine⟨N,_,h4b,nle rfl,?_⟩;intro m6 hm6;(conv=>cbv))|(refine⟨m1,_,rfl,h1,?_⟩;rw[hmb];(conv=>cbv))|(refine⟨N,_,_,h2b,rfl,?_⟩;(conv=>cbv))|exact gxQ|refine And.intro ?_ ?_|(intro hc;(first|rw[wS (by omega) (by omega)]at hc|rw[Qab]at hc|skip);try (conv=>cbv))|refine CallG.old ?_
      obtain⟨a1,a2,a3,a4,a5,a6⟩:=QuA (rdy:=rdy) hmb h1 h2 hlb hdl hdb hg hm6;exact⟨_,_,rfl,a1,hKm _ _ _ a2 a3 a4 a5 a6⟩
  have hY:YlC P l' 1000 (Jsq l' Bs rdy):={
    no:=hno l'
    out:=λpre O m1 r hj hN=>by
      obtain⟨d,Nd,q1,q2,q3,q4,q5,q6,hlb⟩:=hj;have hk:=hr m1 d Nd pre r (λm3=>∃O3,Jsq l' Bs rdy (pre++[r]) O3 m3/\(∀b,m1 b≠none->¬O b->m3 b=m1 b)/\∀b,O3 b->O b\/m1 b=none) q4 q1 q2 hlb q6 q5 hN (λm2 d2 N2 a2 a3 a4 a5 a6=>by
        refine⟨λb=>b=Bs\/b=l'\/InB d2 b,⟨d2,N2,a3,a4,λb=>Iff.rfl,a2,λh=>(a6 _ h).elim q5 λh=> ?_,λh=>(a6 _ h).elim q6 λh=> ?_,hlb⟩,λb hb ho=>a5 b hb (λe=>ho ((q3 b).2 (.inl e))) (λe=>ho ((q3 b).2 (.inr (.inl e)))) λe=>ho ((q3 b).2 (.inr (.inr e))),λb hb=> ?_⟩
        · rw[q1]at h;cases h
        · rw[q4]at h;cases h
        · rcases hb with h|h|h
          · exact .inl ((q3 b).2 (.inl h))
          · exact .inl ((q3 b).2 (.inr (.inl h)))
          · exact(a6 b h).imp (λh=>(q3 b).2 (.inr (.inr h))) id)
      refine(hk.cut ?_).mono ?_
      · rintro q h' ⟨rfl,m3,tl,rfl,-⟩
        exact⟨rfl,rfl⟩
      · rintro q h1' ⟨h2',⟨rfl,m3,tl,e,O3,hO3⟩,hl⟩
        match h1',hl with
        |[k],_=>
          simp only[List.cons_append,List.nil_append,List.cons.injEq]at e;exact⟨rfl,m3,O3,by rw[e.1],hO3⟩
    st:=λpre O m1 m2 hj hm=>by
      obtain⟨d,Nd,q1,q2,q3,q4,q5,q6,hlb⟩:=hj;exact⟨d,Nd,by rw[hm Bs ((q3 Bs).2 (.inl rfl))];exact q1,q2.frame λi hi=>hm i ((q3 i).2 (.inr (.inr hi))),q3,by rw[hm l' ((q3 l').2 (.inr (.inl rfl)))];exact q4,q5,q6,hlb⟩
    ne:=λpre O m1 b hj hb=>by
      obtain⟨d,Nd,q1,q2,q3,q4,q5,q6,hlb⟩:=hj;rcases(q3 b).1 hb with rfl|rfl|h
      · rw[q1];simp
      · rw[q4];simp
      · exact q2.key' h}
  have hs2:m2 Bs=some (.cs Nb [.list true 3 []]):=Qbq hm2;have hlb:l'≠Bs:=λe=>by rw[e,hs2]at hl';cases hl'
  have hk2:∀b,m b≠none->mup m2 l' rdy b=m b:=λb hb=>by
    have h1:=Qda hm2 hbn hb;rw[Qaq (λe=>by rw[<-e,h1]at hl';exact hb hl'),h1]
  have hl0:m l'=none:=QeK hm2 hl';have hBr:BrP g (Jsq l' Bs rdy) n x [] true a bx bp Nx Np [] (λb=>b=Bs\/b=l'\/InB (.list true 3 []) b) (mup m2 l' rdy):={
    j:=⟨.list true 3 [],Nb,by rw[Qaq (λe=>hlb e.symm)];exact hs2,.inl ⟨rfl,rfl⟩,λb=>Iff.rfl,Qbg _ _ _,λh=>Qa9 h,λh=>Qa9 h,hlb⟩
    pt:=hpt.keep (λb hb _=>hk2 b hb) λb hb=>by
      rcases hb with rfl|rfl|h
      · exact .inr hbn
      · exact .inr hl0
      · exact(Qa9 h).elim
    mx:=by rw[hk2 bx (by rw[hmx];simp)];exact hmx
    xo:=by
      rintro(rfl|rfl|h)
      · rw[hbn]at hmx;cases hmx
      · rw[hl0]at hmx;cases hmx
      · exact Qa9 h
    mp:=by rw[hk2 bp (by rw[hmp];simp)];exact hmp
    po:=by
      rintro(rfl|rfl|h)
      · rw[hbn]at hmp;cases hmp
      · rw[hl0]at hmp;cases hmp
      · exact Qa9 h
    nt:=λ_=>rfl
    nf:=λh=>absurd rfl h
    len:=by simpa using hn}
  refine(hbr hY hBr (by simpa using hlen)).mono ?_;rintro r h' ⟨m5,O5,rfl,⟨d,Nd,q1,q2,q3,q4,q5,q6,_⟩,h5,ho5⟩;refine⟨m5,[],rfl,q4,?_⟩;have g1:mdel m5 l' Bs=some (.cs Nd [d]):=by rw[QbR (λe=>hlb e.symm)];exact q1
  have hfin:=hend (mdel m5 l') d (q2.frame λi hi=>QbR λe=>q6 (by rw[<-e];exact hi)) (λb hb=>by
    have hbl:b≠l':=λe=>by rw[e]at hb;exact hb hl0
    have hbB:b≠Bs:=λe=>by rw[e]at hb;exact hb hbn
    rw[QbR hbl,h5 b (by rw[hk2 b hb];exact hb) (by
      rintro(h|h|h)
      · exact hbB h
      · exact hbl h
      · exact Qa9 h),hk2 b hb]) (λb hb=>by
    rcases ho5 b ((q3 b).2 (.inr (.inr hb)))with (rfl|rfl|h)|h
    · exact hbn
    · exact hl0
    · exact(Qa9 h).elim
    · by_cases h0:m b=none
      · exact h0
      · rw[hk2 b h0]at h;exact h)
  clear hBr hY hr hYl hbr hend;generalize mdel m5 l'=m6 at*
  conv=>cbv
  repeat' first|(refine⟨Nd,_,_,g1,rfl,?_⟩;(conv=>cbv))|exact hfin|exact gxQ|refine And.intro ?_ ?_|(intro hc;(first|rw[wS (by omega) (by omega)]at hc|rw[Qab]at hc|skip);try (conv=>cbv))|refine CallG.old ?_
section
variable{G:Nat->Prop}{ι:Io}{w:World}{m mS mR:Ar}{rest:Hp}
theorem HR.thawP(r:HR G ι (.am m::rest) w)(hS:∀b x,mS b=some x->m b=some x/\mR b=none)(hR:∀b x,mR b=some x->m b=some x):
    HR (λb=>G b\/∃x,mS b=some x) ι (.am mR::rest) w/\Ext G ι (.am m::rest) w (λb=>G b\/∃x,mS b=some x) ι (.am mR::rest) w/\
    ∀b x,mS b=some x->(G b\/∃x,mS b=some x)/\ABR (λb=>G b\/∃x,mS b=some x) w b x:=by
  have hgm:∀b,G b->(G b\/∃x,mS b=some x)/\w.heap[b]? =w.heap[b]? :=λb hb=>⟨.inl hb,rfl⟩
  have hsub:∀i k b,(Blk.am mR::rest)[i]? =some k->Qcp ι i k b->∃k',(Blk.am m::rest)[i]? =some k'/\Qcp ι i k' b:=λi k b h1 h2=>by
    cases i with
    |zero=>
      simp only[List.getElem?_cons_zero,osi]at h1;subst h1;obtain⟨x,hx⟩:=h2;exact⟨_,rfl,x,hR b x hx⟩
    |succ i=>exact⟨k,h1,h2⟩
  have hown:∀b,owned ι (.am mR::rest) b->owned ι (.am m::rest) b:=λb ⟨i,k,h1,h2⟩=>by
    obtain⟨k',a1,a2⟩:=hsub i k b h1 h2;exact⟨i,k',a1,a2⟩
  have hk:∀i k,(Blk.am m::rest)[i]? =some k->∃k',(Blk.am mR::rest)[i]? =some k'/\Kept ι ι w w i k k':=λi k hk=>by
    cases i with
    |zero=>
      simp only[List.getElem?_cons_zero,osi]at hk;subst hk;exact⟨_,rfl,trivial⟩
    |succ i=>exact⟨k,hk,Kept.refl ι w _ k⟩
  have hext:Ext G ι (.am m::rest) w (λb=>G b\/∃x,mS b=some x) ι (.am mR::rest) w:=
    { size:=Nat.le_refl _
      quiet:=⟨rfl,rfl,rfl,Nat.le_refl _⟩
      frame:=λ_ _ _=>rfl
      gmono:=λ_ h=> .inl h
      gnew:=λb hb=>by
        rcases hb with h|⟨x,hx⟩
        · exact .inl h
        · exact .inr (.inr (Qci (h:= .am m::rest) rfl (hS b x hx).1))
      onew:=λb ho=> .inl (hown b ho)
      keep:=hk}
  refine⟨?_,hext,λb x hx=>⟨.inr ⟨x,hx⟩,(r.blk 0 _ rfl b x (hS b x hx).1).mono hgm rfl⟩⟩;exact
    { len:=r.len
      own:=λi j b k k' h1 h2 h3 h4=>by
        obtain⟨k1,a1,a2⟩:=hsub i k b h1 h3;obtain⟨k2,b1,b2⟩:=hsub j k' b h2 h4;exact r.own i j b k1 k2 a1 b1 a2 b2
      g:=λb hb=>by
        rcases hb with hb|⟨x,hx⟩
        · exact⟨(r.g b hb).1,λho=>(r.g b hb).2 (hown b ho)⟩
        · obtain⟨h1,h2⟩:=hS b x hx
          refine⟨QaJ r (Qci (h:= .am m::rest) rfl h1),λ⟨l,k,g1,g2⟩=> ?_⟩;cases l with
          |zero=>
            simp only[List.getElem?_cons_zero,osi]at g1;subst g1;obtain⟨y,hy⟩:=g2;rw[h2]at hy;cases hy
          |succ l=>
            have:=r.own 0 (l+1) b _ k rfl g1 ⟨x,h1⟩ g2;cases this
      blk:=λl k hk=>by
        cases l with
        |zero=>
          simp only[List.getElem?_cons_zero,osi]at hk;subst hk;exact λb x hx=>(r.blk 0 _ rfl b x (hR b x hx)).mono hgm rfl
        |succ l=>exact BR.ext hext r (show(Blk.am m::rest)[l+1]? =some k from hk) rfl λ_ _=>rfl}
end
theorem FnS.thawP{P:Program}{f:Nat}{args:List AV}{h:Hp}{R R':AV->Hp->Prop}(hf:FnS P f args h R)
 (ht:∀r h',R r h'->∃m rest d x mS mR d',h'= .am m::rest/\(∀b x,mS b=some x->m b=some x/\mR b=none)/\(∀b x,mR b=some x->m b=some x)/\r= .tup [.c (.d d),x]/\QcE x=true/\ThD mS d d'/\R' (.tup [.c (.d d'),x]) (.am mR::rest)):
  FnS P f args h R':=by
 refine⟨λG ι w vs hr hv=>(hf.out G ι w vs hr hv).mono λe w' ⟨v,r,G',ι',h',a1,a2,a3,a4,a5⟩=> ?_⟩;obtain⟨m,rest,d,x,mS,mR,d',rfl,hS,hR,rfl,hx,hd,hR'⟩:=ht r h' a2;obtain⟨q1,q2,q3⟩:=HR.thawP a3 hS hR;refine⟨v,_,_,ι',_,a1,hR',q1,?_,a5.trans q2⟩;have a4':=a4.ext q2 a3;cases a4' with
 |tup cs _ hn hcs=>
  refine .tup cs _ hn λi y z hu hy=> ?_
  match i,hy with
  |0,hy=>
   cases hy;have:=hcs 0 y _ hu rfl;exact .c _ _ (.d _ _ (QoU q3 hd (Qcb this)))
  |1,hy=>cases hy;exact hcs 1 y _ hu rfl
structure StR where
 node:Int
 p:Pkt
 ar:D
 nx:D
 rs:Int
 co:Int
 ct:Int
abbrev StR.key (s:StR):Int×List Seg:=(s.node,s.p.stack)
def QpX(n:Int)(p:Pkt):StR:=⟨n,{p with hops:=0},.list true 1 [],.list true 1 [],0,0,0⟩
def QsF(l:List StR)(n:Int)(p:Pkt):List StR:=if (n,p.stack)∈l.map StR.key then l else l++[QpX n p]
def QA7{σ:Type}[DecidableEq σ](S:List σ)(y:σ):Nat:=S.idxOf y
theorem QvV{σ:Type}[DecidableEq σ]{S r:List σ}{y:σ}(h:y∈S):QA7 (S++r) y=QA7 S y:=Qyg h
theorem Qqq(l:List StR)(n:Int)(p:Pkt):(QsF l n p).map StR.key=QzG (l.map StR.key) (n,p.stack):=by
 rw[QsF,QzG];split
 ·rfl
 ·rw[List.map_append];rfl
def Qtx(S:List WSt)(ys:List WSt):List (List D):=ys.map λy=>[iD (QA7 S y:Nat)]
theorem QqU{S r ys:List WSt}(h:∀y∈ys,y∈S):Qtx (S++r) ys=Qtx S ys:=by
 rw[Qtx,Qtx];exact List.map_congr_left λy hy=>by rw[QvV (h y hy)]
structure XpI (g:Wlk) (p:Pkt) (m m':Ar) (l:List StR) (i:Nat) (ys:List WSt):Prop where
 pk:∀s∈l,s.p={p with stack:=s.p.stack,hops:=0}/\s.co=0/\s.ct=0
 dn:∀j s,j<i->l[j]? =some s->s.ar=Qax (g.ar s.key)/\s.rs=g.rs s.key/\(∀y∈g.nx s.key,y∈l.map StR.key)/\Qdg 1 m' s.nx (Qtx (l.map StR.key) (g.nx s.key))
 cu:∀s,l[i]? =some s->(∀y∈ys,y∈l.map StR.key)/\Qdg 1 m' s.nx (Qtx (l.map StR.key) ys)
 td:∀j s,i<j->l[j]? =some s->s.nx= .list true 1 []
 fr:∀(j:Nat) s b,l[j]? =some s->InB s.nx b->m b=none
 ds:∀(j j':Nat) s s' b,l[j]? =some s->l[j']? =some s'->InB s.nx b->InB s'.nx b->j=j'
 mm:∀b,m b≠none->m' b=m b
theorem XpI.start(g:Wlk)(p:Pkt)(m:Ar)(n:Int)(q:Pkt)(hq:{q with hops:=0}={p with stack:=q.stack,hops:=0}):XpI g p m m [QpX n q] 0 []where
 pk s hs:=by
  simp at hs;subst hs;exact⟨hq,rfl,rfl⟩
 dn j s hj:=by omega
 cu s hs:=by
  simp at hs;subst hs;exact⟨λy hy=>(by cases hy),.inl ⟨rfl,rfl⟩⟩
 td j s hj hs:=by
  rw[List.getElem?_eq_none (by simp;omega)]at hs;cases hs
 fr j s b hs hb:=by
  have:s=QpX n q:=by
   have:=mgE hs;simpa using this
  subst this;exact(Qa9 hb).elim
 ds j j' s s' b hs hs' _ _:=by
  have h1:=(List.getElem?_eq_some_iff.1 hs).1;have h2:=(List.getElem?_eq_some_iff.1 hs').1;simp at h1 h2;omega
 mm b _:=rfl
theorem XpI.row{g:Wlk}{p:Pkt}{m m':Ar}{l:List StR}{i:Nat}{ys:List WSt}(h:XpI g p m m' l i ys){j:Nat}{s:StR}{b:Nat}(hs:l[j]? =some s)(hb:InB s.nx b):m' b≠none:=by
 rcases Nat.lt_trichotomy j i with hj|hj|hj
 ·exact(h.dn j s hj hs).2.2.2.key' hb
 ·subst hj;exact(h.cu s hs).2.key' hb
 ·rw[h.td j s hj hs]at hb;exact(Qa9 hb).elim
theorem XpI.add{g:Wlk}{p:Pkt}{m m':Ar}{l:List StR}{i:Nat}{ys:List WSt}(h:XpI g p m m' l i ys)(hi:i<l.length)(n:Int)(q:Pkt)(hq:{q with hops:=0}={p with stack:=q.stack,hops:=0}):XpI g p m m' (QsF l n q) i ys:=by
 unfold QsF;split
 ·exact h
 ·have hk:(l++[QpX n q]).map StR.key=l.map StR.key++[(n,q.stack)]:=by rw[List.map_append];rfl
  have hget:∀(j:Nat) s,(l++[QpX n q])[j]? =some s->l[j]? =some s\/(j=l.length/\s=QpX n q):=by
   intro j s hs;by_cases hj:j<l.length
   ·rw[gal hj]at hs;exact .inl hs
   ·have:=(List.getElem?_eq_some_iff.1 hs).1;simp at this;obtain rfl:j=l.length:=by omega
    rw[apQ (Nat.le_refl _),Nat.sub_self]at hs;exact .inr ⟨rfl,(osj hs).symm⟩
  have hnn:∀b,¬InB (QpX n q).nx b:=λb hb=>Qa9 hb
  refine⟨λs hs=> ?_,λj s hj hs=> ?_,λs hs=> ?_,λj s hj hs=> ?_,λj s b hs hb=> ?_,λj j' s s' b hs hs' hb hb'=> ?_,h.mm⟩
  ·rcases List.mem_append.1 hs with hs|hs
   ·exact h.pk s hs
   ·simp at hs;subst hs;exact⟨hq,rfl,rfl⟩
  ·rcases hget j s hs with hs|⟨e,-⟩
   ·obtain⟨h1,h2,h3,h4⟩:=h.dn j s hj hs;refine⟨h1,h2,λy hy=>by rw[hk];exact List.mem_append_left _ (h3 y hy),?_⟩;rw[hk,QqU h3];exact h4
   ·omega
  ·rcases hget i s hs with hs|⟨e,-⟩
   ·obtain⟨h1,h2⟩:=h.cu s hs;refine⟨λy hy=>by rw[hk];exact List.mem_append_left _ (h1 y hy),?_⟩;rw[hk,QqU h1];exact h2
   ·omega
  ·rcases hget j s hs with hs|⟨_,e⟩
   ·exact h.td j s hj hs
   ·rw[e];rfl
  ·rcases hget j s hs with hs|⟨_,e⟩
   ·exact h.fr j s b hs hb
   ·rw[e]at hb;exact(hnn b hb).elim
  ·rcases hget j s hs with hs|⟨_,e⟩
   ·rcases hget j' s' hs' with hs'|⟨_,e⟩
    ·exact h.ds j j' s s' b hs hs' hb hb'
    ·rw[e]at hb';exact(hnn b hb').elim
   ·rw[e]at hb;exact(hnn b hb).elim
theorem Qd9{l:List StR}{i j:Nat}{s s' u:StR}(hu:(l.set i s')[j]? =some u)(hs:l[i]? =some s):(j=i/\u=s')\/(j≠i/\l[j]? =some u):=by
 rw[List.getElem?_set]at hu;split at hu
 ·rename_i e;split at hu
  ·exact .inl ⟨e.symm,(osj hu).symm⟩
  ·cases hu
 ·rename_i e;exact .inr ⟨λh=>e h.symm,hu⟩
theorem Qqe{l:List StR}{i:Nat}{s s':StR}(hs:l[i]? =some s)(hk:s'.key=s.key):(l.set i s').map StR.key=l.map StR.key:=by
 rw[List.map_set,hk];refine List.ext_getElem? λj=> ?_
 rw[List.getElem?_set];split
 ·rename_i e;subst e;rw[gtm,hs];split
  ·rfl
  ·rename_i h;exact absurd (by rw[List.length_map];exact(List.getElem?_eq_some_iff.1 hs).1) h
 ·rfl
theorem XpI.set{g:Wlk}{p:Pkt}{m m' m2:Ar}{l:List StR}{i:Nat}{ys zs:List WSt}{s:StR}(h:XpI g p m m' l i ys)(hs:l[i]? =some s)(a d:D)(rs:Int)(hr:Qdg 1 m2 d (Qtx (l.map StR.key) zs))(hz:∀y∈zs,y∈l.map StR.key)
 (hsm:∀b,m' b≠none->¬InB s.nx b->m2 b=m' b)(hnw:∀b,InB d b->InB s.nx b\/m' b=none):XpI g p m m2 (l.set i {s with ar:=a,nx:=d,rs:=rs}) i zs:=by
 have hk:(l.set i {s with ar:=a,nx:=d,rs:=rs}).map StR.key=l.map StR.key:=Qqe hs rfl;have hfr:∀b,InB d b->m b=none:=λb hb=>by
  rcases hnw b hb with e|e
  ·exact h.fr i s b hs e
  ·by_cases hm:m b=none
   ·exact hm
   ·rw[h.mm b hm]at e;exact e
 have hrow:∀(j:Nat) u L,j≠i->l[j]? =some u->Qdg 1 m' u.nx L->Qdg 1 m2 u.nx L:=λj u L hj hu hr=>hr.frame λb hb=>hsm b (hr.key' hb) λe=>hj (h.ds j i u s b hu hs hb e)
 refine⟨λu hu=> ?_,λj u hj hu=> ?_,λu hu=> ?_,λj u hj hu=> ?_,λj u b hu hb=> ?_,λj j' u u' b hu hu' hb hb'=> ?_,λb hb=> ?_⟩
 ·rcases List.mem_or_eq_of_mem_set hu with hu|hu
  ·exact h.pk u hu
  ·subst hu;exact h.pk s (mgE hs)
 ·rcases Qd9 hu hs with ⟨e,-⟩|⟨e,hu⟩
  ·omega
  ·obtain⟨h1,h2,h3,h4⟩:=h.dn j u hj hu;rw[hk];exact⟨h1,h2,h3,hrow j u _ e hu h4⟩
 ·rcases Qd9 hu hs with ⟨e,e2⟩|⟨e,hu⟩
  ·rw[hk,e2];exact⟨hz,hr⟩
  ·exact absurd rfl e
 ·rcases Qd9 hu hs with ⟨e,-⟩|⟨e,hu⟩
  ·omega
  ·exact h.td j u hj hu
 ·rcases Qd9 hu hs with ⟨e,e2⟩|⟨e,hu⟩
  ·rw[e2]at hb;exact hfr b hb
  ·exact h.fr j u b hu hb
 ·have one:∀(j':Nat) u' b,j'≠i->l[j']? =some u'->InB u'.nx b->¬InB d b:=λj' u' b hj hu' hb' hb=>by
   rcases hnw b hb with e|e
   ·exact hj (h.ds j' i u' s b hu' hs hb' e)
   ·exact h.row hu' hb' e
  rcases Qd9 hu hs with ⟨e,e2⟩|⟨e,hu⟩
  ·rcases Qd9 hu' hs with ⟨e',-⟩|⟨e',hu'⟩
   ·rw[e,e']
   ·rw[e2]at hb;exact(one j' u' b e' hu' hb' hb).elim
  ·rcases Qd9 hu' hs with ⟨e',e2⟩|⟨e',hu'⟩
   ·rw[e2]at hb';exact(one j u b e hu hb hb').elim
   ·exact h.ds j j' u u' b hu hu' hb hb'
 ·have hm':m' b≠none:=by rw[h.mm b hb];exact hb
  rw[hsm b hm' λe=>hb (h.fr i s b hs e)];exact h.mm b hb
theorem XpI.next{g:Wlk}{p:Pkt}{m m':Ar}{l:List StR}{i:Nat}{s:StR}(hs:l[i]? =some s)(h:XpI g p m m' l i (g.nx s.key))(ha:s.ar=Qax (g.ar s.key))(hr:s.rs=g.rs s.key):XpI g p m m' l (i+1) []where
 pk:=h.pk
 dn j u hj hu:=by
  by_cases e:j=i
  ·subst e;rw[hs]at hu;cases hu;exact⟨ha,hr,h.cu s hs⟩
  ·exact h.dn j u (by omega) hu
 cu u hu:=⟨λy hy=>(by cases hy),.inl ⟨h.td (i+1) u (by omega) hu,rfl⟩⟩
 td j u hj hu:=h.td j u (by omega) hu
 fr:=h.fr
 ds:=h.ds
 mm:=h.mm
structure StpG (P:Program) (t:Top) (xs:List Tab) (p:Pkt) (g:Wlk) (s:WSt) (x:Tab) (st:List Seg) (hp:Int):Prop where
 at_:xs[s.1.toNat]? =some x
 nn:0<=s.1
 stp:Ret P Qft [QaF t,Qjc x,Qcr {p with stack:=s.2,hops:=0}] (.tup [Qao (g.ar s),Qcr {p with stack:=st,hops:=hp},iA (g.rs s)])
 hd:∀a∈g.ar s,Ret P Qfp [QaF t,iA a] (iA (g.to s a).1)
 tos:∀a∈g.ar s,(g.to s a).2=st
 len:(g.ar s).length<=1000
structure XpL (g:Wlk) (p:Pkt) (m m':Ar) (l0 l:List StR) (i k:Nat) (s:WSt):Prop where
 xp:XpI g p m m' l i ((g.nx s).take k)
 at_:∃u,l[i]? =some u/\u.key=s/\u.ar=Qax (g.ar s)/\u.rs=g.rs s
 ks:l.map StR.key=((g.nx s).take k).foldl QzG (l0.map StR.key)
 len:l.length<=1+i*1000+k
theorem Qva(l:List StR)(n:Int)(q:Pkt):(QsF l n q).length<=l.length+1/\l.length<=(QsF l n q).length:=by
 unfold QsF;split
 ·omega
 ·rw[List.length_append];simp
theorem XpL.row{g:Wlk}{p:Pkt}{m m':Ar}{l0 l:List StR}{i k:Nat}{s:WSt}(h:XpL g p m m' l0 l i k s):∃nx,l[i]? =some ⟨s.1,{p with stack:=s.2,hops:=0},Qax (g.ar s),nx,g.rs s,0,0⟩:=by
 obtain⟨u,hu,h1,h2,h3⟩:=h.at_;obtain⟨q1,q2,q3⟩:=h.xp.pk u (mgE hu);refine⟨u.nx,?_⟩;rw[hu];subst h1;obtain⟨a,b,c,d,e,f,z⟩:=u;simp only at h2 h3 q1 q2 q3 |-;rw[h2,h3,q2,q3];exact congrArg (λb'=>some (StR.mk a b' _ d _ 0 0)) q1
theorem XpL.step{g:Wlk}{p:Pkt}{m m1 m2:Ar}{l0 l:List StR}{i k:Nat}{s y:WSt}(h:XpL g p m m1 l0 l i k s)(hk:(g.nx s)[k]? =some y){n:Int}{q:Pkt}(hn:n=y.1)(hst:q.stack=y.2)(hq:{q with hops:=0}={p with stack:=q.stack,hops:=0}){nx d:D}
 (hu:(QsF l n q)[i]? =some ⟨s.1,{p with stack:=s.2,hops:=0},Qax (g.ar s),nx,g.rs s,0,0⟩)(hg:Grw m1 m2 nx d (Qtx ((QsF l n q).map StR.key) ((g.nx s).take k)++[[iD (QA7 ((QsF l n q).map StR.key) (n,q.stack):Nat)]])):
  XpL g p m m2 l0 ((QsF l n q).set i ⟨s.1,{p with stack:=s.2,hops:=0},Qax (g.ar s),d,g.rs s,0,0⟩) i (k+1) s:=by
 obtain⟨u0,hu0,_⟩:=h.at_;have hil:=(List.getElem?_eq_some_iff.1 hu0).1;have hX:=h.xp.add hil n q hq;obtain⟨c1,-⟩:=hX.cu _ hu;have e:(n,q.stack)=y:=by rw[hn,hst]
 have hyk:y∈(QsF l n q).map StR.key:=by rw[Qqq,e];exact Qvb _ _
 have hil2:=(List.getElem?_eq_some_iff.1 hu).1;refine⟨hX.set hu (Qax (g.ar s)) d (g.rs s) ?_ ?_ hg.same hg.new,⟨_,List.getElem?_set_self hil2,rfl,rfl,rfl⟩,?_,?_⟩
 ·rw[Qal hk,Qtx,List.map_append,<-Qtx,List.map_cons,List.map_nil,<-e];exact hg.row
 ·intro z hz;rw[Qal hk]at hz;rcases List.mem_append.1 hz with hz|hz
  ·exact c1 z hz
  ·simp at hz;rw[hz];exact hyk
 ·rw[Qqe hu (s':=⟨s.1,{p with stack:=s.2,hops:=0},Qax (g.ar s),d,g.rs s,0,0⟩) rfl,Qqq,h.ks,Qal hk,List.foldl_append,e];rfl
 ·rw[List.length_set];have:=(Qva l n q).1;have:=h.len;omega
def QCh:Option (Option Int)->Int
 |none=>0
 |some none=>1
 |some (some _)=>2
structure VsI (g:Wlk) (m:Ar) (S:List WSt) (K:Kn WSt) (l:List StR):Prop where
 ks:l.map StR.key=S
 row:∀s∈l,Qdg 1 m s.nx (Qtx S (g.nx s.key))/\∀y∈g.nx s.key,y∈S
 co:∀s∈l,s.co=QCh (lkK K s.key)
 ct:∀s∈l,(∀c,lkK K s.key=some (some c)->s.ct=c)/\(lkK K s.key=none->s.ct=0)
def StR.base(s:StR):StR:={s with co:=0,ct:=0}
structure VisO (g:Wlk) (m:Ar) (S:List WSt) (K:Kn WSt) (l:List StR) (o:Option (Kn WSt)) (q:AV) (l':List StR):Prop where
 base:l'.map StR.base=l.map StR.base
 op:∀(i:Nat) u u',l[i]? =some u->l'[i]? =some u'->lkK K u.key=some none->u'.ct=u.ct
 res:match o with
  |some K'=>q=bA true/\VsI g m S K' l'
  |none=>q=bA false
theorem Qqs{l l':List StR}(h:l'.map StR.base=l.map StR.base){i:Nat}{u:StR}(hu:l[i]? =some u):∃u',l'[i]? =some u'/\u'.base=u.base:=by
 have:=congrArg (λl=>l[i]?) h;simp only[gtm,hu,Option.map_some]at this;cases h':l'[i]? with
 |none=>rw[h']at this;cases this
 |some u'=>
  rw[h']at this;exact⟨u',rfl,osj this⟩
theorem Qqt{u u':StR}(h:u'.base=u.base):u'.key=u.key/\u'.p=u.p/\u'.ar=u.ar/\u'.nx=u.nx/\u'.rs=u.rs:=by
 obtain⟨a,b,c,d,e,f,z⟩:=u;obtain⟨a',b',c',d',e',f',z'⟩:=u';simp only[StR.base,StR.mk.injEq]at h;obtain⟨rfl,rfl,rfl,rfl,rfl,-,-⟩:=h;exact⟨rfl,rfl,rfl,rfl,rfl⟩
theorem Qqu{l:List StR}{j:Nat}{u:StR}(hu:l[j]? =some u)(co ct:Int):(l.set j {u with co:=co,ct:=ct}).map StR.base=l.map StR.base:=by
 rw[List.map_set];refine List.ext_getElem? λi=> ?_
 rw[List.getElem?_set];split
 ·rename_i e;subst e;rw[gtm,hu,List.length_map,if_pos (List.getElem?_eq_some_iff.1 hu).1];rfl
 ·rfl
theorem VsI.set{g:Wlk}{m:Ar}{S:List WSt}{K K':Kn WSt}{l:List StR}(h:VsI g m S K l)(hS:S.Nodup){j:Nat}{u:StR}(hu:l[j]? =some u)(co ct:Int)(hK:∀x,x≠u.key->lkK K' x=lkK K x)(hco:co=QCh (lkK K' u.key))
 (hct:(∀c,lkK K' u.key=some (some c)->ct=c)/\(lkK K' u.key=none->ct=0)):VsI g m S K' (l.set j {u with co:=co,ct:=ct}):=by
 have hmem:∀w∈l.set j {u with co:=co,ct:=ct},w={u with co:=co,ct:=ct}\/(w∈l/\w.key≠u.key):=by
  intro w hw;obtain⟨i,hi⟩:=List.getElem?_of_mem hw;rcases Qd9 hi hu with ⟨-,e⟩|⟨e,hi⟩
  ·exact .inl e
  ·refine .inr ⟨mgE hi,λhk=>e ?_⟩;have h1:S[i]? =some w.key:=by rw[<-h.ks,gtm,hi];rfl
   have h2:S[j]? =some u.key:=by rw[<-h.ks,gtm,hu];rfl
   rw[hk]at h1;exact(List.getElem?_inj (List.getElem?_eq_some_iff.1 h1).1 hS).1 (h1.trans h2.symm)
 have hum:=mgE hu;refine⟨by rw[Qqe hu (s':={u with co:=co,ct:=ct}) rfl];exact h.ks,λw hw=> ?_,λw hw=> ?_,λw hw=> ?_⟩
 ·rcases hmem w hw with rfl|⟨hw,-⟩
  ·exact h.row u hum
  ·exact h.row w hw
 ·rcases hmem w hw with rfl|⟨hw,hne⟩
  ·exact hco
  ·rw[hK _ hne];exact h.co w hw
 ·rcases hmem w hw with rfl|⟨hw,hne⟩
  ·exact hct
  ·rw[hK _ hne];exact h.ct w hw
structure RvL (g:Wlk) (m:Ar) (S:List WSt) (K0:Kn WSt) (l0:List StR) (f:Kn WSt->WSt->Option (Kn WSt)) (Pre:Kn WSt->Prop) (s:WSt) (c0:Int) (j k:Nat) (K:Kn WSt) (l:List StR) (c:Int):Prop where
 vs:VsI g m S K l
 pre:Pre K
 opn:lkK K s=some none
 opK:∀x,lkK K0 x=some none->lkK K x=some none
 base:l.map StR.base=l0.map StR.base
 op:∀(i:Nat) u u',i≠j->l0[i]? =some u->l[i]? =some u'->lkK K0 u.key=some none->u'.ct=u.ct
 at_:∃u,l[j]? =some u/\u.key=s/\u.ct=c
 cn:0<=c/\c<=1001
 eq:QgK f (g.nx s) (K0++[(s,none)]) c0=QgK f ((g.nx s).drop k) K c
section
variable{g:Wlk}{m:Ar}{S:List WSt}{K0:Kn WSt}{l0:List StR}{f:Kn WSt->WSt->Option (Kn WSt)}{Pre:Kn WSt->Prop}{s:WSt}{c0:Int}{j k:Nat}{K:Kn WSt}{l:List StR}{c:Int}
theorem RvL.call(h:RvL g m S K0 l0 f Pre s c0 j k K l c){o:Option (Kn WSt)}{q:AV}{l':List StR}(hv:VisO g m S K l o q l'):l'.map StR.base=l0.map StR.base/\(∀(i:Nat) u u',i≠j->l0[i]? =some u->l'[i]? =some u'->lkK K0 u.key=some none->u'.ct=u.ct):=by
 refine⟨hv.base.trans h.base,λi u u' hi hu hu' ho=> ?_⟩;obtain⟨w,hw,hb⟩:=Qqs h.base hu;have:=(Qqt hb).1;rw[hv.op i w u' hw hu' (by rw[this];exact h.opK _ ho)];exact h.op i u w hi hu hw ho
theorem RvL.next(h:RvL g m S K0 l0 f Pre s c0 j k K l c)(hS:S.Nodup){y:WSt}(hk:(g.nx s)[k]? =some y){K':Kn WSt}(hf:f K y=some K')(hp:Pre K')(hd:DfsR g.nx K K'){q:AV}{l':List StR}(hv:VisO g m S K l (f K y) q l'){cy:Int}(hy:lkK K' y=some (some cy))(h0:0<=cy/\cy<=1001){c':Int}(hc:c'=QjG (c+cy)){u:StR}(hu:l'[j]? =some u):
  RvL g m S K0 l0 f Pre s c0 j (k+1) K' (l'.set j {u with ct:=c'}) c':=by
 have hcl:=h.call hv;rw[hf]at hv;obtain⟨rfl,hvs⟩:=hv.res;have hop:=hd.old _ _ h.opn;have hus:u.key=s:=by
  obtain⟨w,hw,h1,_⟩:=h.at_;obtain⟨w',hw',hb⟩:=Qqs hv.base hw;rw[hu]at hw';cases hw';rw[(Qqt hb).1,h1]
 have hset:=hvs.set hS hu u.co c' (λ_ _=>rfl) (hvs.co u (mgE hu)) ⟨λc hc=>(by rw[hus,hop]at hc;cases hc),λhc=>(by rw[hus,hop]at hc;cases hc)⟩;refine⟨hset,hp,hop,λx hx=>hd.old _ _ (h.opK x hx),(Qqu hu u.co c').trans hcl.1,λi w w' hi hw hw' ho=> ?_,⟨_,List.getElem?_set_self (List.getElem?_eq_some_iff.1 hu).1,hus,rfl⟩,?_,?_⟩
 ·rcases Qd9 hw' hu with ⟨e,-⟩|⟨-,hw'⟩
  ·exact absurd e hi
  ·exact hcl.2 i w w' hi hw hw' ho
 ·have:=h.cn;rw[hc];simp only[QjG];split<;>omega
 ·rw[h.eq,List.drop_eq_getElem_cons (List.getElem?_eq_some_iff.1 hk).1,(List.getElem?_eq_some_iff.1 hk).2];simp only[QgK,hf];rw[Qzq,hy,hc];rfl
theorem RvL.done(h:RvL g m S K0 l0 f Pre s c0 j k K l c)(hS:S.Nodup)(hk:(g.nx s).length<=k)(hs0:lkK K0 s=none)(hl0:∃u,l0[j]? =some u/\u.key=s){u:StR}(hu:l[j]? =some u):QgK f (g.nx s) (K0++[(s,none)]) c0=some (K,c)/\VisO g m S K0 l0 (some (QlL K s c)) (bA true) (l.set j {u with co:=2}):=by
 obtain⟨w,hw,h1,h2⟩:=h.at_;rw[hu]at hw;cases hw;have hl:lkK (QlL K s c) s=some (some c):=by rw[QgX,if_pos rfl,h.opn];rfl
 refine⟨by rw[h.eq,List.drop_of_length_le hk];rfl,(Qqu hu 2 u.ct).trans h.base,λi w w' hw hw' ho=> ?_,rfl,?_⟩
 ·rcases Qd9 hw' hu with ⟨e,-⟩|⟨e,hw'⟩
  ·subst e;obtain⟨w2,hw2,hk2⟩:=hl0;rw[hw]at hw2;cases hw2;rw[hk2,hs0]at ho;cases ho
  ·exact h.op i w w' e hw hw' ho
 ·refine h.vs.set hS hu 2 u.ct (λx hx=> ?_) ?_ ⟨λc' hc'=> ?_,λhc'=> ?_⟩
  ·rw[QgX,if_neg (by rw[<-h1];exact hx)]
  ·rw[h1,hl];rfl
  ·rw[h1,hl]at hc';cases hc';exact h2
  ·rw[h1,hl]at hc';cases hc'
end
end Go.Ab
namespace Go.Ab
def Qwo(n:Nat):AV->Bool
 | .tup l=>l.all (Qdn n)
 |x=>Qdn n x
theorem Quj(Z:Nat->Nat):∀(l:List AV) (i:Nat),(rnAs Z l)[i]? =(l[i]?).map (rnA Z)
 |[],_=>by simp[rnAs,rnA.rnAs]
 |x::l,0=>by simp[rnAs,rnA.rnAs]
 |x::l,i+1=>by
  have:=Quj Z l i;simpa [rnAs,rnA.rnAs]using this
theorem Quk(Z:Nat->Nat):∀(l:List AV),(rnAs Z l).length=l.length
 |[]=>rfl
 |x::l=>by
  have:=Quk Z l;simpa [rnAs,rnA.rnAs]using this
theorem VR.unrnT{G:Nat->Prop}{w:World}{ι ιc:Io}{h hc:Hp}{Z:Nat->Nat}(am:Among Z ιc hc ι h){v:Value}{x:AV}(hx:VR G w ι h v (rnA Z x))(hr:Qwo hc.length x=true):VR G w ιc hc v x:=by
 cases x with
 |c x=>exact hx.unrn am hr
 |agg l=>exact hx.unrn am hr
 |tup l=>
  cases hx with
  |tup cs _ hn h1=>
   have h1:∀(i:Nat) (v:Value) (x:AV),cs[i]? =some v->(rnAs Z l)[i]? =some x->VR G w ι h v x:=h1;refine .tup cs l (by rw[hn];exact Quk Z l) λi v x hv hx=> ?_
   exact(h1 i v (rnA Z x) hv (by rw[Quj,hx];rfl)).unrn am (List.all_eq_true.1 hr x (mgE hx))
theorem FnS.gct{P:Program}{f:Nat}{args:List AV}{h:Hp}{R:AV->Hp->Prop}(hf:FnS P f args h R)(Q:AV->Hp->Prop)
   (hg:∀r h',R r h'->∃(σ:List Nat) (r':AV) (hc:Hp),Q r' hc/\σ.length=hc.length/\σ.Nodup/\(∀l∈σ,l<h'.length)/\(∀(i:Nat) (k:Blk),hc[i]? =some k->h'[rho σ h'.length i]? =some (rnB (rho σ h'.length) k))/\
      r=rnA (rho σ h'.length) r'/\QcG hc.length hc=true/\Qwo hc.length r'=true/\h.length<=hc.length/\(∀i,i<h.length->rho σ h'.length i=i)/\∀k∈hc,∀m v es,k≠ .mi m v es):FnS P f args h Q:=by
  refine⟨λG ι w vs hr hv=> ?_⟩;refine(hf.out G ι w vs hr hv).mono λe w2 ⟨v,r,G2,ι2,h',he,hR,hr2,hvr,hx⟩=> ?_
  obtain⟨σ,r',hc,hQ,hlen,hnd,hlt,hh,hrr,hcl,hca,hle,hid,hmi⟩:=hg r h' hR;generalize hZ:rho σ h'.length=Z at*;have rold:∀i,i<σ.length->σ[i]? =some (Z i):=λi hi=>by rw[<-hZ];exact Qkr σ _ i hi
  have rnew:∀i,σ.length<=i->Z i=h'.length+(i-σ.length):=λi hi=>by rw[<-hZ];exact Qnm σ _ i hi
  have rmem:∀i,i<σ.length->Z i∈σ:=λi hi=>mgE (rold i hi)
  have rinj:∀i j,Z i=Z j->i=j:=by
    intro i j e;rcases Nat.lt_or_ge i σ.length with hi|hi<;>rcases Nat.lt_or_ge j σ.length with hj|hj
    · have h1:=rold i hi
      have h2:=rold j hj;rw[e,<-h2]at h1;exact(List.getElem?_inj hi hnd).1 h1
    · have:=hlt _ (rmem i hi);have:=rnew j hj;omega
    · have:=hlt _ (rmem j hj);have:=rnew i hi;omega
    · have:=rnew i hi;have:=rnew j hj;omega
  let ιc:Io:=σ.map λl=>(ι2[l]?).getD (0,0)
  have hιc:∀i,i<σ.length->ιc[i]? =ι2[Z i]? :=by
    intro i hi;simp only[ιc,gtm,rold i hi,Option.map_some];rw[lgE (by rw[hr2.len];exact hlt _ (rmem i hi))];rfl
  have am:Among Z ιc hc ι2 h':=⟨hh,λi k hk=>(hιc i (by rw[hlen];exact Qaa hk)).symm⟩;have hrc:HR G2 ιc hc w2:=HR.down am hr2 (by simp[ιc,hlen]) (λi j _ _ e=>rinj i j e) hcl;have hvc:VR G2 w2 ιc hc v r':=VR.unrnT am (hrr▸hvr) hca;refine⟨v,r',G2,ιc,hc,he,hQ,hrc,hvc,?_⟩;exact
    { size:=hx.size
      quiet:=hx.quiet
      frame:=hx.frame
      gmono:=hx.gmono
      gnew:=hx.gnew
      onew:=λb ho=>hx.onew b (QdY am ho)
      keep:=λl k hk=>by
        obtain⟨k',h1,h2⟩:=hx.keep l k hk;have hl:=Qaa hk;have hkc:hc[l]? =some (hc[l]'(by omega)):=lgE _;have h3:=hh l _ hkc;rw[hid l hl,h1]at h3;cases h3;exact⟨_,hkc,h2.unrn (by rw[hιc l (by omega),hid l hl]) (hmi _ (List.getElem_mem _))⟩}
open Go.Proofs
structure GOK (P:Program) (t:Top) (xs:List Tab) (p:Pkt) (g:Wlk) (U:List WSt):Prop where
 len:U.length<=1000
 st:∀s∈U,∃x st hp,StpG P t xs p g s x st hp
 cl:∀s∈U,∀y∈g.nx s,y∈U
theorem GOK.nx{P:Program}{t:Top}{xs:List Tab}{p:Pkt}{g:Wlk}{U:List WSt}(h:GOK P t xs p g U):∀s∈U,(g.nx s).length<=1000:=by
 intro s hs;obtain⟨x,st,hp,e⟩:=h.st s hs;rw[Wlk.nx,nxt,List.length_map];exact e.len
theorem Qdg.thaw{sz:Nat}{m:Ar}{d:D}{l:List (List D)}(h:Qdg sz m d l)(hl:l.length<=9223372036854775807):ThD m d (.list false sz l):=by
 rcases h with ⟨rfl,rfl⟩|⟨b,N,cap,rfl,hm,hs,hc,hN⟩
 ·exact .fg _
 ·refine .row b 0 sz l.length cap N l.flatten l (λi j=>l.flatten.getD (i*sz+j) default) hm rfl hc hl (λi e he=>hs e (mgE he)) (λi e j x he hx=> ?_) λi e j x he hx=> ?_
  ·rw[Nat.zero_add,List.getD_eq_getElem?_getD,Qcn hs he hx];rfl
  ·simp only[List.getD_eq_getElem?_getD,Qcn hs he hx,Option.getD_some];exact .same _
abbrev Qu9 (P:Program) (f:Nat) (args:List AV) (R:AV->Prop):Prop:=FnS P f args [] λr _=>QcE r=true/\R r
theorem Qz4{σ:Type}{nx:σ->List σ}{U:List σ}(hU:∀x∈U,∀y∈nx x,y∈U){n:Nat}{x:σ}(hx:x∈U)(h:Dep nx n x):Dep nx U.length x:=by
 have key:∀n x,x∈U->Dep nx n x->(∀k,n=k+1->¬Dep nx k x)->∃l:List σ,l.Nodup/\(∀y∈l,y∈U/\Dep nx n y)/\l.length=n+1:=by
  intro n;induction n with
  |zero=>intro x hx h _;exact⟨[x],by simp,λy hy=>by simp at hy;rw[hy];exact⟨hx,h⟩,rfl⟩
  |succ n ih=>
   intro x hx h hn;have hn:=hn n rfl;obtain⟨y,hy,hy2⟩:∃y∈nx x,∀k,n=k+1->¬Dep nx k y:=by
    cases n with
    |zero=>
     cases he:nx x with
     |nil=>exact absurd he hn
     |cons y r=>exact⟨y,by simp,λk hk=>by omega⟩
    |succ k=>
     refine Classical.byContradiction λhc=>hn λy hy=>Classical.byContradiction λhd=>hc ⟨y,hy,λk' hk=> ?_⟩
     obtain rfl:k'=k:=by omega
     exact hd
   obtain⟨l,h1,h2,h3⟩:=ih y (hU x hx y hy) (h y hy) hy2;refine⟨x::l,?_,λz hz=> ?_,by simp[h3]⟩
   ·rw[List.nodup_cons];exact⟨λhm=>hn (h2 x hm).2,h1⟩
   ·rcases List.mem_cons.1 hz with rfl|hz
    ·exact⟨hx,h⟩
    ·exact⟨(h2 z hz).1,Qlr (h2 z hz).2⟩
 have min:∀n,Dep nx n x->∃k,k<=n/\Dep nx k x/\∀j,k=j+1->¬Dep nx j x:=by
  intro n;induction n with
  |zero=>intro h;exact⟨0,Nat.le_refl _,h,λj hj=>by omega⟩
  |succ n ih=>
   intro h;by_cases hd:Dep nx n x
   ·obtain⟨k,h1,h2⟩:=ih hd;exact⟨k,by omega,h2⟩
   ·exact⟨n+1,Nat.le_refl _,h,λj hj=>by
     obtain rfl:n=j:=by omega
     exact hd⟩
 obtain⟨k,-,h1,h2⟩:=min n h;obtain⟨l,g1,g2,g3⟩:=key k x hx h1 h2;have:=g1.length_le_of_subset λy hy=>(g2 y hy).1
 exact Qoa (by omega) h1
theorem QrF(P:Program)(hP:P=Tryz.prog){g:Wlk}{n:Nat}{x:WSt}{a bx bp Nx Np:Nat}{m:Ar}(hpt:PT g (λ_=>False) m n x a)(hmx:m bx=some (.cs Nx [.adr a 0]))(hmp:m bp=some (.cs Np [.list true 1 []]))(hn:n<=1000000)(hlen:(brR g n x []).length<=1000):
  FnS P QbI [.c (.fn false Qan [.d (.adr bx 0),.d (.adr bp 0)])] [.am m] λr h'=>∃m' d,h'=[.am m']/\r= .c (.d d)/\Qdg 3 m' d ((brR g n x []).map Qfg)/\(∀b,m b≠none->m' b=m b)/\∀b,InB d b->m b=none:=by
 have hsq:=QAS P hP hpt hmx hmp hn hlen;refine QaW (hP▸mixed) (hP▸Qdj) (hP▸Qdl) (nle rfl) λΛ Λo K hK=> ?_
 clear hP;have hend:=λm' d h1 h2 h3=>hK (.c (.d d)) [.am m'] ⟨m',d,rfl,rfl,h1,h2,h3⟩
 clear hK;generalize (brR g n x []).map Qfg=rl at*
 conv=>cbv
 repeat' first|(refine QaH [0] hsq ?_;rintro r hc' ⟨m',d,rfl,rfl,q1,q2,q3⟩;have hfin:=hend m' d q1 q2 q3;(conv=>cbv))|exact hfin|exact gxQ|refine And.intro ?_ ?_|(intro hc;(first|rw[wS (by omega) (by omega)]at hc|rw[Qab]at hc|skip);try (conv=>cbv))|refine CallG.old ?_
def Qpf(g:Wlk)(n:Nat)(s:WSt)(e:Int):List Rsl×Int:=
 if e=0 then (match dfs g.nx n [] s with
  |none=>([],16)
  |some _=>if 1000<num g.nx n s then ([],6)else (brR g n s [],0))else ([],e)
theorem QlM{g:Wlk}{m:Ar}{K:Kn WSt}{al:List Nat}{S:Nat->Prop}{d:D}{s:WSt}{a:Nat}{c:Int}(hI:PI g m K al S d)(hnd:(K.map (·.1)).Nodup)(ha:Qny K al s a)(hc:lkK K s=some (some c)):∃N nx,m a=some (.cs N (plD g s nx false c)):=by
 obtain⟨j,h1,h2⟩:=ha;rw[gtm,omi]at h1;obtain⟨⟨y,c'⟩,h3,rfl⟩:=h1;have:=Qle hnd h3;rw[hc]at this;cases this;obtain⟨-,N,nx,ads,h4,-⟩:=hI.pl j _ c a h3 h2;exact⟨N,nx,h4⟩
theorem Qwf{g:Wlk}{n k:Nat}{s:WSt}(hn:Dep g.nx n s)(hk:Dep g.nx k s):num g.nx n s=num g.nx k s:=by
 have h1:=Qjy (ar:=g.ar) (to:=g.to) n s [];have h2:=Qjy (ar:=g.ar) (to:=g.to) k s [];rcases Nat.le_total n k with h|h
 ·rw[Qw7 g.ar g.to [] h hn,h1]at h2;exact h2
 ·rw[Qw7 g.ar g.to [] h hk,h2]at h1;exact h1.symm
theorem QuY(P:Program)(hP:P=Tryz.prog)(t:Top)(xs:List Tab)(p:Pkt)(from_:Int)(g:Wlk)(U:List WSt)(m:Ar)(hT:Qbt m)(hU:QaO t xs from_=0->UOK P t xs p g U/\(from_,p.stack)∈U):
  FnS P Qdq [QaF t,Qcy xs,Qcr p,iA from_] [.am m] λr h'=>∃m' tl,h'= .am m'::tl/\Qbt m'/\r= .tup [.c (.d (Qzw (Qpf g U.length (from_,p.stack) (QaO t xs from_)).1)),iA (Qpf g U.length (from_,p.stack) (QaO t xs from_)).2]:=by
 have hsr:=Qh0 P hP t xs p from_ g U m hT hU;have hmk:=λm a=>QtV P hP m a true []
 have hcol:=λ{n:Nat} {x:WSt} {a bx bp Nx Np:Nat} {m:Ar}=>QrF P hP (g:=g) (n:=n) (x:=x) (a:=a) (bx:=bx) (bp:=bp) (Nx:=Nx) (Np:=Np) (m:=m)
 refine FnS.thawP (R:=λr h'=>∃m' tl d,h'= .am m'::tl/\r= .tup [.c (.d d),iA (Qpf g U.length (from_,p.stack) (QaO t xs from_)).2]/\Qdg 3 m' d ((Qpf g U.length (from_,p.stack) (QaO t xs from_)).1.map Qfg)/\Qbt m'/\¬InB d 0/\(Qpf g U.length (from_,p.stack) (QaO t xs from_)).1.length<=1000) ?_ ?_
 ·refine QaW (hP▸mixed) (hP▸QpD) (hP▸QrA) (nle rfl) λΛ Λo Q hQ=> ?_
  clear hP;have fin:=λm' tl d (h1:Qdg 3 m' d ((Qpf g U.length (from_,p.stack) (QaO t xs from_)).1.map Qfg)) h2 h3 h4=>hQ (.tup [.c (.d d),iA (Qpf g U.length (from_,p.stack) (QaO t xs from_)).2]) (.am m'::tl) ⟨m',tl,d,rfl,rfl,h1,h2,h3,h4⟩
  clear hQ;by_cases h0:QaO t xs from_=0
  ·obtain⟨hUK,hsU⟩:=hU h0;rw[h0]at hsr fin;simp only[QiF,if_true]at hsr;cases hd:dfs g.nx U.length [] (from_,p.stack)with
   |some K=>
    rw[hd]at hsr;simp only[Qpf,hd,if_true]at fin;have hlaw:=QmD (nx:=g.nx) (K:=[]) (λx c h=>by cases h) hd;have hnd:=QjJ (nx:=g.nx) (K:=[]) (by simp) hd;have hUl:=hUK.len;obtain⟨hres,c,hc⟩:=hlaw;obtain⟨n0,hdep0,hcn⟩:=(hres.dn _ _ hc).1;have hdep:Dep g.nx U.length (from_,p.stack):=Qz4 hUK.cl hsU hdep0;rw[Qwf hdep0 hdep]at hcn;have hlen:(brR g U.length (from_,p.stack) []).length=num g.nx U.length (from_,p.stack):=by rw[brR,List.length_map];exact Qjy g.ar g.to U.length (from_,p.stack) []
    have htab:¬New m (.list true 1 []) 0:=λe=>by
     rcases e with e|e
     ·rw[Qbt]at hT;rw[hT]at e;cases e
     ·exact Qa9 e
    clear hU hUK;by_cases hnum:1000<num g.nx U.length (from_,p.stack)
    ·rw[if_pos hnum]at fin;have hc1:c=1001:=by rw[hcn,QjG,if_neg (by omega)]
     have fin:=λm' tl hT hb=>fin m' tl (.list true 3 []) (.inl ⟨rfl,rfl⟩) hT hb (by simp)
     generalize num g.nx U.length (from_,p.stack)=nm at*;clear hmk hcol hlen hdep hdep0 hres hd hsU;have hpl:=λ{m':Ar} {al:List Nat} {S:Nat->Prop} {d:D} {a:Nat} (hI:PI g m' K al S d) (ha:Qny K al (from_,p.stack) a)=>QlM hI hnd ha hc
     clear hc;generalize (from_,p.stack)=st at*;simp only[plD]at hpl;obtain⟨id,src,dst,flow,st0,hops⟩:=p;simp only[QaF,Qcy,Qcr,QaZ,Qaf,Qak]at hsr |-;generalize hxl:List.map Qav xs=xl at*;generalize hol:t.ov.map QaY=ol at*;generalize hll:t.links.map Qaz=ll at*;generalize htn:t.nodes=nodes at*;generalize List.map Qaj st0=sl at*
     conv=>cbv
     repeat' first|(left;intro(_:Unit);(conv=>cbv))|(refine QaH [0] hsr ?_;rintro r hc' ⟨m',tl,rfl,d3,al3,S3,a,rfl,p3,hab,f3⟩;obtain⟨Na,nx,ha⟩:=hpl p3 hab;have hfin:=λtl=>fin m' tl ((f3.same _ htab).trans hT) (λh=>Qa9 h);(conv=>cbv))|(refine⟨Na,_,_,ha,rfl,?_⟩;(conv=>cbv))|exact hfin _|exact gxQ|refine And.intro ?_ ?_|(intro hc;(first|rw[wS (by omega) (by omega)]at hc|rw[Qab]at hc|skip);try (conv=>cbv))
    ·rw[if_neg hnum]at fin;have hc1:c=num g.nx U.length (from_,p.stack):=by rw[hcn,QjG,if_pos (by omega)]
     have hcle:c<=1000:=by omega
     have hdn:∀y∈K.map (·.1),∃c,lkK K y=some (some c):=λy hy=>by
      cases hk:lkK K y with
      |none=>exact absurd hy (QhP.1 hk)
      |some c'=>
       obtain⟨c2,e⟩:=hres.new y c' hk rfl;exact⟨c2,by rw[e]⟩
     have hpl:=λ{m':Ar} {al:List Nat} {S:Nat->Prop} {d:D} {a:Nat} (hI:PI g m' K al S d) (ha:Qny K al (from_,p.stack) a)=>And.intro (QlM hI hnd ha hc) (QBP hI hdn hnd U.length _ a hdep ha)
     have fin:=λm' tl d h1 h2 h3=>fin m' tl d h1 h2 h3 (by simp only;omega)
     simp only at fin;have hlen2:(brR g U.length (from_,p.stack) []).length<=1000:=by omega
     clear hcn hc1 hdep hdep0 hres hd hsU hc hdn;clear hlen;generalize hst:(from_,p.stack)=st at*;simp only[plD]at hpl;obtain⟨id,src,dst,flow,st0,hops⟩:=p;simp only[QaF,Qcy,Qcr,QaZ,Qaf,Qak]at hsr |-;clear hst;generalize hxl:List.map Qav xs=xl at*;generalize hol:t.ov.map QaY=ol at*;generalize hll:t.links.map Qaz=ll at*;generalize htn:t.nodes=nodes at*;generalize List.map Qaj st0=sl at*
     conv=>cbv
     repeat' first|(left;intro(_:Unit);(conv=>cbv))|(refine QaH [0] hsr ?_;rintro r hc' ⟨m',tl,rfl,d3,al3,S3,a,rfl,p3,hab,f3⟩;obtain⟨⟨Na,nx,ha⟩,hpt⟩:=hpl p3 hab;have hT3:Qbt m':=((f3.same _ htab).trans hT);(conv=>cbv))|(refine⟨Na,_,_,ha,rfl,?_⟩;(conv=>cbv))|(refine Qpo [0] (hmk m' a) rfl rfl (by decide) (by repeat' first|exact trivial|refine And.intro ?_ ?_|rfl) rfl rfl ?_;rintro r hc' ⟨bx1,bp1,Nx1,Np1,m3,m4,rfl,rfl,hbx1,hm3,hbp1,hm4⟩;have hx4:=Qb1 hm4 hbp1 (Qbq hm3);have hp4:=Qbq hm4;have hT4:Qbt m4:=Qb1 hm4 hbp1 (Qb1 hm3 hbx1 hT3);have hcl:=hcol (hpt.keep (λb hb _=>(Qda hm4 hbp1 (by rw[Qda hm3 hbx1 hb];exact hb)).trans (Qda hm3 hbx1 hb)) (λb hb=> .inl hb)) hx4 hp4 (by omega) hlen2;(conv=>cbv))|(refine QaH [0] hcl ?_;rintro r hc' ⟨m6,d6,rfl,rfl,q1,q2,q3⟩;have hfin:=λtl=>fin m6 tl d6 q1 ((q2 _ (by rw[hT4];simp)).trans hT4) (λhb=>by have:=q3 _ hb;rw[hT4]at this;cases this);(conv=>cbv))|exact hfin _|exact gxQ|refine And.intro ?_ ?_|(intro hc;(first|rw[wS (by omega) (by omega)]at hc|rw[Qab]at hc|skip);try (conv=>cbv))
   |none=>
    rw[hd]at hsr;simp only[Qpf,hd,if_true]at fin;have fin:=λm' tl hT hb=>fin m' tl (.list true 3 []) (.inl ⟨rfl,rfl⟩) hT hb (by simp)
    have htab:¬New m (.list true 1 []) 0:=λe=>by
     rcases e with e|e
     ·rw[Qbt]at hT;rw[hT]at e;cases e
     ·exact Qa9 e
    clear hmk hcol hU;generalize (from_,p.stack)=st at*;obtain⟨id,src,dst,flow,st0,hops⟩:=p;simp only[QaF,Qcy,Qcr,QaZ,Qaf,Qak]at hsr |-;generalize hxl:List.map Qav xs=xl at*;generalize hol:t.ov.map QaY=ol at*;generalize hll:t.links.map Qaz=ll at*;generalize htn:t.nodes=nodes at*;generalize List.map Qaj st0=sl at*
    conv=>cbv
    repeat' first|(left;intro(_:Unit);(conv=>cbv))|(refine QaH [0] hsr ?_;rintro r hc' ⟨m',tl,rfl,rfl,d3,f3⟩;have hfin:=λtl=>fin m' tl ((f3.same _ htab).trans hT) (λh=>Qa9 h);(conv=>cbv))|exact hfin _|exact gxQ|refine And.intro ?_ ?_|(intro hc;(first|rw[wS (by omega) (by omega)]at hc|rw[Qab]at hc|skip);try (conv=>cbv))
  ·simp only[QiF,if_neg h0]at hsr;simp only[Qpf,if_neg h0]at fin;have fin:=λtl=>fin m tl (.list true 3 []) (.inl ⟨rfl,rfl⟩) hT (λh=>Qa9 h) (by simp)
   generalize QaO t xs from_=e at*;clear hmk hcol hU;obtain⟨id,src,dst,flow,st0,hops⟩:=p;simp only[QaF,Qcy,Qcr,QaZ,Qaf,Qak]at hsr |-;generalize hxl:List.map Qav xs=xl at*;generalize hol:t.ov.map QaY=ol at*;generalize hll:t.links.map Qaz=ll at*;generalize htn:t.nodes=nodes at*;generalize List.map Qaj st0=sl at*
   conv=>cbv
   repeat' first|(left;intro(_:Unit);(conv=>cbv))|(refine QaH [0] hsr ?_;rintro r hc' ⟨m',tl,rfl,rfl,rfl⟩;(conv=>cbv))|exact fin _|exact gxQ|refine And.intro ?_ ?_|(intro hc;(first|rw[wS (by omega) (by omega)]at hc|rw[Qab]at hc|skip);try (conv=>cbv))
 ·rintro r h' ⟨m',tl,d,rfl,rfl,hrow,hT',hnb,hle⟩;rcases hrow with ⟨rfl,hl⟩|hrow
  ·refine⟨m',tl,_,_,am0,m',_,rfl,λb x h=>(by cases h),λb x h=>h,rfl,rfl,.fg _,m',tl,rfl,hT',?_⟩;rw[Qzw,hl];rfl
  ·have hrow':=hrow;obtain⟨b,N,cap,rfl,hb,h3⟩:=hrow;refine⟨m',tl,_,_,λc=>if c=b then m' b else none,mdel m' b,_,rfl,λc x h=> ?_,λc x h=> ?_,rfl,rfl,Qdg.thaw (l:=(Qpf g U.length (from_,p.stack) (QaO t xs from_)).1.map Qfg) (.inr ⟨b,N,cap,rfl,by simpa using hb,h3⟩) (by rw[List.length_map];omega),mdel m' b,tl,rfl,?_,rfl⟩
   ·simp only at h;split at h
    ·rename_i e;subst e;exact⟨h,QhQ _ _⟩
    ·cases h
   ·by_cases e:c=b
    ·rw[e,QhQ]at h;cases h
    ·rw[QbR e]at h;exact h
   ·rw[Qbt,QbR λe=>hnb ⟨_,_,_,_,by rw[<-e]⟩];exact hT'
def QcY(xs:List Tab)(n:Int):Tab:=xs.getD n.toNat ⟨0,[],[]⟩
def gA(t:Top)(xs:List Tab)(p:Pkt)(s:WSt):Ans:=Qhk t (QcY xs s.1) {p with stack:=s.2,hops:=0}
def gW(t:Top)(xs:List Tab)(p:Pkt):Wlk:=⟨λs=>(gA t xs p s).1,λs=>(gA t xs p s).2.2,λs a=>(QaA t a,(gA t xs p s).2.1.stack)⟩
structure StI (t:Top) (s:WSt):Prop where
 nn:0<=s.1
 lt:s.1<t.nodes
 len:s.2.length<=40
 ins:InS s.2
structure TbI (xs:List Tab):Prop where
 ar:∀x∈xs,∀e∈x.to,e.arcs.length<=1000/\e.push.length<=1000
structure AnI (a:Ans):Prop where
 ar:a.1.length<=1000
 st:InS a.2.1.stack
section
variable{t:Top}{x:Tab}{p:Pkt}
structure EtI (x:Tab):Prop where
 et:∀e∈x.to,e.arcs.length<=1000/\InS e.push
theorem EtI.ent(h:EtI x)(n:Int):(ent x n).arcs.length<=1000/\InS (ent x n).push:=by
 unfold Go.Ab.ent;rw[List.getD_eq_getElem?_getD];cases hg:x.to[n.toNat]? with
 |none=>exact⟨by simp[default],λs hs=>by simp[default]at hs⟩
 |some e=>exact h.et e (mgE hg)
theorem Qll(r:Int)(h:InS p.stack):AnI ([],p,r):=⟨by simp,h⟩
theorem Qjr{l:List Seg}{ar:List Int}(h1:ar.length<=1000)(h2:InS l):AnI (QdA p l ar):=⟨h1,h2⟩
theorem QnJ{l:List Seg}{e:Ety}(he:e.arcs.length<=1000/\InS e.push)(hp:InS p.stack)(hl:InS l):AnI (Qc8 p l e):=by
 unfold Qc8;split
 ·split
  ·exact Qll _ hp
  ·refine Qjr he.1 λs hs=> ?_
   rcases List.mem_append.1 hs with hs|hs
   ·exact he.2 s hs
   ·exact hl s (List.mem_of_mem_drop hs)
 ·exact Qjr he.1 hl
theorem QnK(hx:EtI x)(hp:InS p.stack):AnI (QdZ t x p):=by
 unfold QdZ;split
 ·exact⟨by simp,λs hs=>by simp at hs⟩
 ·split
  ·exact Qll _ hp
  ·split
   ·exact QnJ (hx.ent _) hp λs hs=>by simp at hs
   ·exact Qll _ hp
theorem QsS(hx:EtI x)(hp:InS p.stack){l:List Seg}(hl:InS l):AnI (QdE t x p l):=by
 cases l with
 |nil=>exact QnK hx hp
 |cons s r=>
  have hr:InS r:=λy hy=>hl y (by simp[hy])
  simp only[QdE]
  repeat' split
  all_goals first
   |exact Qll _ hp
   |exact QnK hx hp
   |exact QnJ (hx.ent _) hp hl
   |exact Qjr (by simp) hr
theorem Qvg(hx:EtI x)(hp:InS p.stack):AnI (Qhk t x p):=by
 unfold Qhk;split
 ·split
  ·exact Qll _ hp
  ·exact QsS hx hp λs hs=>hp s (List.dropWhile_subset _ hs)
 ·exact Qll _ hp
end
theorem QAR{t:Top}(hv:Qam t=true){s:Seg}(h:Qsi t s=true):In64 s.kind/\In64 s.num:=by
 have v:=Qai.1 hv;have h:=QfE.1 h;unfold In64;omega
theorem Qmy{t:Top}{xs:List Tab}(h:Qf4 t xs=true){n:Int}(h0:0<=n)(h1:n<t.nodes):xs[n.toNat]? =some (QcY xs n)/\QcY xs n∈xs/\(QcY xs n).node=n/\Qhq t (QcY xs n)=true:=by
 obtain⟨-,h2,h3⟩:=Qbk.1 h;have hl:n.toNat<xs.length:=by omega
 have e:xs[n.toNat]? =some (QcY xs n):=by rw[QcY,List.getD_eq_getElem?_getD,lgE hl];rfl
 obtain⟨q1,q2⟩:=h3 _ _ e;exact⟨e,mgE e,by omega,q2⟩
theorem QAd{t:Top}{x:Tab}(h:Qhq t x=true)(hs:∀e∈x.to,e.arcs.length<=1000):EtI x:=by
 obtain⟨v,-,-,-,h5⟩:=QbV.1 h;refine⟨λe he=>⟨hs e he,λs hs'=> ?_⟩⟩;obtain⟨i,hi⟩:=List.getElem?_of_mem he;exact QAR v ((Qed.1 (h5 i e hi)).2.2.2.2 s hs')
section
variable{P:Program}(hP:P=Tryz.prog){t:Top}{xs:List Tab}{p:Pkt}(hc:Qf4 t xs=true)(hx:TbI xs)
theorem QAF{x:Tab}{p q:Pkt}{a:Ans}(h:Bnd t x q a)(hq:q.id=p.id/\q.src=p.src/\q.dst=p.dst/\q.flow=p.flow):a.2.1={p with stack:=a.2.1.stack,hops:=a.2.1.hops}:=by
 obtain⟨a1,⟨i,s,d,f,st,hp⟩,r⟩:=a;have h1:=h.id;have h2:=h.src;have h3:=h.dst;have h4:=h.flow;simp only at h1 h2 h3 h4;rw[hq.1]at h1;rw[hq.2.1]at h2;rw[hq.2.2.1]at h3;rw[hq.2.2.2]at h4;subst h1 h2 h3 h4;rfl
include hc hx in
theorem Qjb{s:WSt}(hs:StI t s):AnI (gA t xs p s)/\(∀a∈(gA t xs p s).1,0<=a/\a<2*t.links.length)/\(∀a∈(gA t xs p s).1,StI t ((gW t xs p).to s a)):=by
 obtain⟨e1,e2,e3,e4⟩:=Qmy hc hs.nn hs.lt;have hv:=(Qbk.1 hc).1;have hani:=Qvg (t:=t) (p:={p with stack:=s.2,hops:=0}) (QAd e4 λe he=>(hx.ar _ e2 e he).1) hs.ins;have hb:=Qmk t (QcY xs s.1) {p with stack:=s.2,hops:=0};have hra:∀a∈(gA t xs p s).1,0<=a/\a<2*t.links.length:=λa ha=>by
  have h0:(gA t xs p s).2.2=0:=hb.some.2 (by
   show 0<(gA t xs p s).1.length;cases h:(gA t xs p s).1 with
   |nil=>rw[h]at ha;cases ha
   |cons=>simp)
  have h1:=(hb.yes h0).1 a ha;rw[e3]at h1;rw[QaE]at h1;split at h1
  ·rename_i h2;have:=QdQ t;omega
  ·have:=hs.nn;omega
 refine⟨hani,hra,λa ha=> ?_⟩;have h0:(gA t xs p s).2.2=0:=hb.some.2 (by
  show 0<(gA t xs p s).1.length;cases h:(gA t xs p s).1 with
  |nil=>rw[h]at ha;cases ha
  |cons=>simp)
 obtain⟨r0,r1⟩:=hra a ha;have hhd:QaA t a=QA5 t true a:=by
  rw[QaA,Qbo,if_pos hv,if_pos ⟨r0,r1⟩];rfl
 obtain⟨q1,q2⟩:=QrK hv true r0 r1;exact⟨by show 0<=QaA t a;rw[hhd];exact q1,by show QaA t a<t.nodes;rw[hhd];exact q2,by have:=(hb.yes h0).2.1;show(gA t xs p s).2.1.stack.length<=40;exact Nat.le_trans this (by omega),hani.st⟩
include hP hc hx in
theorem Qxx{s:WSt}(hs:StI t s):StpW P t xs p (gW t xs p) s (QcY xs s.1) (gA t xs p s).2.1.stack (gA t xs p s).2.1.hops/\StpG P t xs p (gW t xs p) s (QcY xs s.1) (gA t xs p s).2.1.stack (gA t xs p s).2.1.hops:=by
 obtain⟨e1,e2,e3,e4⟩:=Qmy hc hs.nn hs.lt;have hv:=Qai.1 (Qbk.1 hc).1;obtain⟨k1,k2,k3⟩:=Qjb hc hx hs (p:=p);have hf:Fit (QcY xs s.1) {p with stack:=s.2,hops:=0}:=⟨λe he=>hx.ar _ e2 e he,by have:=hs.len;show s.2.length<=1000;omega⟩;have hb:=Qmk t (QcY xs s.1) {p with stack:=s.2,hops:=0};have hpk:=QAF (p:=p) hb ⟨rfl,rfl,rfl,rfl⟩;have h1:=QuD P hP t (QcY xs s.1) _ hf;have h2:=Qwz P hP t (QcY xs s.1) _ hf;unfold Qf2 Qrn at h1 h2;rw[hpk]at h1 h2;have hh:∀a∈(gA t xs p s).1,Qou t a=QaA t a:=λa ha=>by
  obtain⟨r0,r1⟩:=k2 a ha;rw[QaA,Qbo,if_pos (Qbk.1 hc).1,if_pos ⟨r0,r1⟩];rfl
 exact⟨⟨e1,hs.nn,h1,λa ha=>by
   have:=QqR P hP t a (k2 a ha).1 (k2 a ha).2 hv.2.2.1;rw[hh a ha]at this;exact this,λa _=>rfl,k1.ar⟩,⟨e1,hs.nn,h2,λa _=>QeH P hP t a,λa _=>rfl,k1.ar⟩⟩
include hP hc hx in
theorem QBM{s0:WSt}{U:List WSt}(h0:StI t s0)(hE:Expl (gW t xs p).nx s0 U)(hl:U.length<=1000):UOK P t xs p (gW t xs p) U/\GOK P t xs p (gW t xs p) U:=by
 have hall:∀x∈U,StI t x:=hE.mn (StI t) h0 λx hx' y hy=>by
  rw[Wlk.nx,nxt,List.mem_map]at hy;obtain⟨a,ha,rfl⟩:=hy;exact(Qjb hc hx hx').2.2 a ha
 have hv:=Qai.1 (Qbk.1 hc).1;refine⟨⟨hl,λs hs=>⟨?_,by have:=(hall s hs).len;omega,(hall s hs).ins⟩,λs hs=>⟨_,_,_,(Qxx hP hc hx (hall s hs)).1⟩,hE.cl⟩,⟨hl,λs hs=>⟨_,_,_,(Qxx hP hc hx (hall s hs)).2⟩,hE.cl⟩⟩;have h1:=(hall s hs).nn;have h2:=(hall s hs).lt;unfold In64;omega
end
section
variable{P:Program}(hP:P=Tryz.prog){t:Top}{xs:List Tab}{p:Pkt}(hc:Qf4 t xs=true)(hx:TbI xs)
include hP hc hx
theorem Qy7{s:WSt}(hs:StI t s):StpW P t xs p (gW t xs p) s (QcY xs s.1) (gA t xs p s).2.1.stack (gA t xs p s).2.1.hops:=by
 obtain⟨e1,e2,e3,e4⟩:=Qmy hc hs.nn hs.lt;have hv:=Qai.1 (Qbk.1 hc).1;obtain⟨k1,k2,k3⟩:=Qjb hc hx hs (p:=p);have hf:Fit (QcY xs s.1) {p with stack:=s.2,hops:=0}:=⟨λe he=>hx.ar _ e2 e he,by have:=hs.len;show s.2.length<=1000;omega⟩;have hb:=Qmk t (QcY xs s.1) {p with stack:=s.2,hops:=0};have hpk:=QAF (p:=p) hb ⟨rfl,rfl,rfl,rfl⟩;have h1:=QuD P hP t (QcY xs s.1) _ hf;unfold Qf2 Qrn at h1;rw[hpk]at h1;have hh:∀a∈(gA t xs p s).1,Qou t a=QaA t a:=λa ha=>by
  obtain⟨r0,r1⟩:=k2 a ha;rw[QaA,Qbo,if_pos (Qbk.1 hc).1,if_pos ⟨r0,r1⟩];rfl
 exact⟨e1,hs.nn,h1,λa ha=>by
   have:=QqR P hP t a (k2 a ha).1 (k2 a ha).2 hv.2.2.1;rw[hh a ha]at this;exact this,λa _=>rfl,k1.ar⟩
theorem QuL{s0:WSt}{U:List WSt}(h0:StI t s0)(hE:Expl (gW t xs p).nx s0 U)(hl:U.length<=1000):UOK P t xs p (gW t xs p) U:=by
 have hall:∀x∈U,StI t x:=hE.mn (StI t) h0 λx hx' y hy=>by
  rw[Wlk.nx,nxt,List.mem_map]at hy;obtain⟨a,ha,rfl⟩:=hy;exact(Qjb hc hx hx').2.2 a ha
 have hv:=Qai.1 (Qbk.1 hc).1;refine⟨hl,λs hs=>⟨?_,by have:=(hall s hs).len;omega,(hall s hs).ins⟩,λs hs=>⟨_,_,_,Qy7 hP hc hx (hall s hs)⟩,hE.cl⟩;have h1:=(hall s hs).nn;have h2:=(hall s hs).lt;unfold In64;omega
end
structure C24 where
 (t:Top) (xs:List Tab) (p:Pkt) (fr:Int)
structure Sm24 (c:C24):Prop where
 tb:TbI c.xs
 st:c.p.stack.length<=40
 ex:Qf4 c.t c.xs=true->0<=c.fr->c.fr<c.t.nodes->∃U,U.length<=300/\Expl (gW c.t c.xs c.p).nx (c.fr,c.p.stack) U
def QlV(P:Program):Prop:=∀m,Qbt m->FnS P QcC [] [.am m] λr h'=>r=bA true/\∃m' tl,h'= .am m'::tl/\Qbt m'
theorem Sm24.ok{P:Program}(hP:P=Tryz.prog){c:C24}(h:Sm24 c)(hi:InS c.p.stack):∃U,(QaO c.t c.xs c.fr=0->UOK P c.t c.xs c.p (gW c.t c.xs c.p) U/\GOK P c.t c.xs c.p (gW c.t c.xs c.p) U/\Expl (gW c.t c.xs c.p).nx (c.fr,c.p.stack) U):=by
 by_cases h0:QaO c.t c.xs c.fr=0
 ·unfold QaO at h0;split at h0
  ·rename_i hc;split at h0
   ·rename_i hr;obtain⟨U,h1,h2⟩:=h.ex hc hr.1 hr.2;obtain⟨k1,k2⟩:=QBM hP hc h.tb (s0:=(c.fr,c.p.stack)) ⟨hr.1,hr.2,h.st,hi⟩ h2 (by omega);exact⟨U,λ_=>⟨k1,k2,h2⟩⟩
   ·cases h0
  ·cases h0
 ·exact⟨[],λh=>absurd h h0⟩
def Qph(g:Wlk)(x:WSt):Bool:= !(decide ((g.ar x).length=0)&&decide (g.rs x≠ -1))
def Qw6(g:Wlk)(U:List WSt)(s:WSt)(e:Int):Bool×Int:=
 if e=0 then (match dfs g.nx U.length [] s with
  |none=>(false,16)
  |some _=>(U.all (Qph g),0))else (false,e)
theorem Qvf{α:Type}{l l':List α}{f:α->Bool}(h:∀x,x∈l↔x∈l'):l.all f=l'.all f:=by
 rw[Bool.eq_iff_iff,List.all_eq_true,List.all_eq_true];exact⟨λhf x hx=>hf x ((h x).2 hx),λhf x hx=>hf x ((h x).1 hx)⟩
structure PlR (g:Wlk) (m:Ar) (ks:List WSt) (bn:Nat) (cap:Nat):Prop where
 at_:∃N xs,m bn=some (.cs N xs)/\∀(k:Nat) (x:WSt),ks[k]? =some x->∃a Na nx c,xs[k]? =some (.adr a 0)/\m a=some (.cs Na (plD g x nx false c))
theorem Qxr{g:Wlk}{m:Ar}{K:Kn WSt}{al:List Nat}{S:Nat->Prop}{d:D}(hI:PI g m K al S d)(hd:∀y∈K.map (·.1),∃c,lkK K y=some (some c))(hnd:(K.map (·.1)).Nodup)(hne:K≠[]):∃bn cap,d= .sl bn 0 1 (K.map (·.1)).length cap/\PlR g m (K.map (·.1)) bn cap:=by
 have hl:al.length=(K.map (·.1)).length:=by rw[List.length_map];exact hI.len
 rcases hI.row with ⟨-,h⟩|⟨bn,N,cap,h1,h2,h3⟩
 ·have:al=[]:=by simpa using h
  rw[this]at hl;cases K with
  |nil=>exact absurd rfl hne
  |cons=>simp at hl
 ·refine⟨bn,cap,by rw[h1,List.length_map,hl],⟨N,_,h2,λk x hx=> ?_⟩⟩;obtain⟨a,ha⟩:∃a,al[k]? =some a:=⟨_,lgE (by have:=Qaa hx;omega)⟩;obtain⟨c,hc⟩:=hd x (mgE hx);have hx':=hx;rw[gtm,omi]at hx';obtain⟨⟨y,c'⟩,h4,rfl⟩:=hx';have h5:=Qle hnd h4;rw[hc]at h5;cases h5;obtain⟨-,Na,nx,ads,h6,-⟩:=hI.pl k _ c a h4 ha;exact⟨a,Na,nx,c,by rw[QmL,gtm,ha];rfl,h6⟩
theorem Qzl(P:Program)(hP:P=Tryz.prog)(t:Top)(xs:List Tab)(p:Pkt)(from_:Int)(g:Wlk)(U:List WSt)(m:Ar)(hT:Qbt m)(hU:QaO t xs from_=0->UOK P t xs p g U/\Expl g.nx (from_,p.stack) U):
  FnS P Qc1 [QaF t,Qcy xs,Qcr p,iA from_] [.am m] λr h'=>∃m' tl,h'= .am m'::tl/\Qbt m'/\r= .tup [bA (Qw6 g U (from_,p.stack) (QaO t xs from_)).1,iA (Qw6 g U (from_,p.stack) (QaO t xs from_)).2]:=by
 have hsr:=Qh0 P hP t xs p from_ g U m hT λh=>⟨(hU h).1,(hU h).2.st⟩
 refine QaW (hP▸mixed) (hP▸Qj6) (hP▸Qk0) (nle rfl) λΛ Λo Q hQ=> ?_
 clear hP;have fin:=λm' tl (h1:Qbt m')=>hQ (.tup [bA (Qw6 g U (from_,p.stack) (QaO t xs from_)).1,iA (Qw6 g U (from_,p.stack) (QaO t xs from_)).2]) (.am m'::tl) ⟨m',tl,rfl,h1,rfl⟩
 clear hQ;have htab:¬New m (.list true 1 []) 0:=λe=>by
  rcases e with e|e
  ·rw[Qbt]at hT;rw[hT]at e;cases e
  ·exact Qa9 e
 by_cases h0:QaO t xs from_=0
 ·obtain⟨hUK,hE⟩:=hU h0;rw[h0]at hsr fin;simp only[QiF,if_true]at hsr;cases hd:dfs g.nx U.length [] (from_,p.stack)with
  |some K=>
   rw[hd]at hsr;simp only[Qw6,hd,if_true]at fin;obtain⟨hnd,hmem,-,hdn,r0,hr0⟩:=QlK hE hd;rw[<-Qvf hmem]at fin;have hpl:=λ{m':Ar} {al:List Nat} {S:Nat->Prop} {d:D} (hI:PI g m' K al S d)=>Qxr hI hdn hnd λe=>by rw[e]at hr0;cases hr0
   have hKl:(K.map (·.1)).length<=1000:=by
    have:=hnd.length_le_of_subset λx hx=>(hmem x).1 hx
    have:=hUK.len;omega
   have hgl:∀x∈K.map (·.1),(g.ar x).length<=1000:=λx hx=>by
    obtain⟨_,_,_,h⟩:=hUK.st x ((hmem x).1 hx);exact h.len
   clear hdn hnd hr0 hmem hE hUK hd hU;generalize K.map (·.1)=ks at*;generalize (from_,p.stack)=st at*;obtain⟨id,src,dst,flow,st0,hops⟩:=p;simp only[QaF,Qcy,Qcr,QaZ,Qaf,Qak]at hsr |-;generalize hxl:List.map Qav xs=xl at*;generalize hol:t.ov.map QaY=ol at*;generalize hll:t.links.map Qaz=ll at*;generalize htn:t.nodes=nodes at*;generalize List.map Qaj st0=sl at*;have hno:ks.all (Qph g)=false->∀m' tl,Qbt m'->Q (.tup [bA false,iA 0]) (.am m'::tl):=λh m' tl hT=>by have:=fin m' tl hT;rw[h]at this;exact this
   have hyes:ks.all (Qph g)=true->∀m' tl,Qbt m'->Q (.tup [bA true,iA 0]) (.am m'::tl):=λh m' tl hT=>by have:=fin m' tl hT;rw[h]at this;exact this
   clear fin;obtain⟨cn,hcn⟩:∃z:Int,z=(ks.length:Int):=⟨_,rfl⟩
   conv=>cbv
   repeat' first|(left;intro(_:Unit);(conv=>cbv))|(refine QaH [0] hsr ?_;rintro r hc' ⟨m',tl,rfl,d3,al3,S3,a,rfl,p3,hab,f3⟩;have hT3:Qbt m':=((f3.same _ htab).trans hT);obtain⟨bn,cap,rfl,hpr⟩:=hpl p3;generalize hn:ks.length=n at *;(conv=>cbv))|(intro(c:Int) hc;refine(λ(hz:cn=c)=> ?_) (by rw[hc,Qab];omega);subst hz;(conv=>cbv))|exact gxQ|refine And.intro ?_ ?_|(intro hc;(first|rw[wS (by omega) (by omega)]at hc|rw[Qab]at hc|skip);try (conv=>cbv))
   obtain⟨Nr,rx,hrow,hrat⟩:=hpr.at_;refine QaT n (λ(i:Int)=>[(27,.c (.d (.sl bn 0 1 n cap))),(28,iA cn),(29,iA i)]) (λ_=>[.am m']) (λk i=>i=k/\k<=n/\∀(j:Nat) (x:WSt),j<k->ks[j]? =some x->Qph g x=true) 0
    (Wk.ca) ⟨rfl,by omega,λj x h=>by omega⟩ (λk s h=>h.2.1) ?_
   rintro kk i Q' ⟨hi,hk,hall⟩ norm ex rt;by_cases hlt:kk<n
   ·obtain⟨x,hx⟩:∃x,ks[kk]? =some x:=⟨_,lgE (by omega)⟩;obtain⟨a1,Na,nx,c,hxa,hpa⟩:=hrat kk x hx;have hgx:=hgl x (mgE hx);simp only[plD]at hpa;have hbad:Qph g x=false->∃b,Q'=b:=λ_=>⟨_,rfl⟩
    have hE1:(g.ar x).length=0->g.rs x≠ -1->Qph g x=false:=λh1 h2=>by simp[Qph,h1,h2]
    have hE2:¬(g.ar x).length=0->Qph g x=true:=λh1=>by simp[Qph,h1]
    have hE3:g.rs x= -1->Qph g x=true:=λh1=>by simp[Qph,h1]
    have hfl:Qph g x=false->ks.all (Qph g)=false:=λh=>by
     rw[Bool.eq_false_iff];intro h2;rw[List.all_eq_true.1 h2 x (mgE hx)]at h;cases h
    have hal:Λ ((g.ar x).map Qar)=(g.ar x).length:=by rw[Λo];simp
    have hnrm:Qph g x=true->∀j y,j<kk+1->ks[j]? =some y->Qph g y=true:=λh j y hj hy=>by
     rcases Nat.lt_or_ge j kk with h2|h2
     ·exact hall j y h2 hy
     ·obtain rfl:j=kk:=by omega
      rw[hx]at hy;cases hy;exact h
    have hno':=λh=>hno (hfl h) m' [] hT3
    clear hbad hfl hno hyes hrat hpl hsr;generalize (g.ar x).map Qar=arl at*;generalize g.rs x=rs at*;obtain⟨i1,hi1⟩:∃z:Int,z=((kk+1:Nat):Int):=⟨_,rfl⟩
    conv=>cbv
    repeat' first|(intro(k:Nat) hk;refine(λ(hz:kk=k)=> ?_) ?_;rotate_left;omega;subst hz;(conv=>cbv))|(refine⟨Nr,_,_,hrow,hxa,?_⟩;(conv=>cbv))|(refine⟨Na,_,_,hpa,rfl,?_⟩;(conv=>cbv))|(refine rt _ _ ?_;(conv=>cbv))|(intro(k:Int) hk;rw[wS (by omega) (by omega)]at hk;refine(λ(hz:i1=k)=> ?_) ?_;rotate_left;omega;subst hz;(conv=>cbv))|exact hno' (hE1 (by omega) (by omega))|exact gxQ|refine And.intro ?_ ?_|(intro hc;(first|rw[wS (by omega) (by omega)]at hc|rw[Qab]at hc|skip);try (conv=>cbv))
    all_goals (first|(refine norm _ _ _ ⟨hi1,by omega,hnrm (hE2 (by omega))⟩ (Wk.ca))|(refine norm _ _ _ ⟨hi1,by omega,hnrm (hE3 (by omega))⟩ (Wk.ca)))
   ·obtain rfl:n=kk:=by omega
    have hyy:=hyes (List.all_eq_true.2 λx hx=>by
     obtain⟨j,hj⟩:=List.getElem?_of_mem hx;exact hall j x (by have:=Qaa hj;omega) hj) m' [] hT3
    clear hno hyes hpl hsr hrat norm
    conv=>cbv
    repeat' first|(refine ex 0 _ _ ?_;(conv=>cbv))|exact hyy|exact gxQ|refine And.intro ?_ ?_|(intro hc;(first|rw[wS (by omega) (by omega)]at hc|rw[Qab]at hc|skip);try (conv=>cbv))
  |none=>
   rw[hd]at hsr;simp only[Qw6,hd,if_true]at fin;clear hU hE;generalize (from_,p.stack)=st at*;obtain⟨id,src,dst,flow,st0,hops⟩:=p;simp only[QaF,Qcy,Qcr,QaZ,Qaf,Qak]at hsr |-;generalize hxl:List.map Qav xs=xl at*;generalize hol:t.ov.map QaY=ol at*;generalize hll:t.links.map Qaz=ll at*;generalize htn:t.nodes=nodes at*;generalize List.map Qaj st0=sl at*
   conv=>cbv
   repeat' first|(left;intro(_:Unit);(conv=>cbv))|(refine QaH [0] hsr ?_;rintro r hc' ⟨m',tl,rfl,rfl,d3,f3⟩;have hfin:=λtl=>fin m' tl ((f3.same _ htab).trans hT);(conv=>cbv))|exact hfin _|exact gxQ|refine And.intro ?_ ?_|(intro hc;(first|rw[wS (by omega) (by omega)]at hc|rw[Qab]at hc|skip);try (conv=>cbv))
 ·simp only[QiF,if_neg h0]at hsr;simp only[Qw6,if_neg h0]at fin;have fin:=λtl=>fin m tl hT
  generalize QaO t xs from_=e at*;clear hU;obtain⟨id,src,dst,flow,st0,hops⟩:=p;simp only[QaF,Qcy,Qcr,QaZ,Qaf,Qak]at hsr |-;generalize hxl:List.map Qav xs=xl at*;generalize hol:t.ov.map QaY=ol at*;generalize hll:t.links.map Qaz=ll at*;generalize htn:t.nodes=nodes at*;generalize List.map Qaj st0=sl at*
  conv=>cbv
  repeat' first|(left;intro(_:Unit);(conv=>cbv))|(refine QaH [0] hsr ?_;rintro r hc' ⟨m',tl,rfl,rfl,rfl⟩;(conv=>cbv))|exact fin _|exact gxQ|refine And.intro ?_ ?_|(intro hc;(first|rw[wS (by omega) (by omega)]at hc|rw[Qab]at hc|skip);try (conv=>cbv))
theorem Expl.mem{σ:Type}{nx:σ->List σ}{s:σ}{S S':List σ}(h:Expl nx s S)(h':Expl nx s S')(x:σ):x∈S↔x∈S':=
 ⟨λhx=>h.mn (·∈S') h'.st h'.cl x hx,λhx=>h'.mn (·∈S) h.st h.cl x hx⟩
def QBK(g:Wlk)(U:List WSt)(n:Nat):List Int:=((List.range n).map λ(a:Nat)=>(a:Int)).filter λa=>U.any λx=>decide (a∈g.ar x)
def Qxj(t:Top)(g:Wlk)(U:List WSt)(s:WSt)(e:Int):List Int×Int:=
 if e=0 then (match dfs g.nx U.length [] s with
  |none=>([],16)
  |some _=>(QBK g U (Qbo t).toNat,0))else ([],e)
theorem Qrh:∀{a b:List Int},a.Pairwise (·<·)->b.Pairwise (·<·)->(∀x,x∈a↔x∈b)->a=b
 |[],[],_,_,_=>rfl
 |[],y::b,_,_,h=>absurd ((h y).2 (by simp)) (by simp)
 |x::a,[],_,_,h=>absurd ((h x).1 (by simp)) (by simp)
 |x::a,y::b,ha,hb,h=>by
  have ha:=List.pairwise_cons.1 ha;have hb:=List.pairwise_cons.1 hb;have e:x=y:=by
   rcases List.mem_cons.1 ((h x).1 (by simp))with e|e
   ·exact e
   ·rcases List.mem_cons.1 ((h y).2 (by simp))with e2|e2
    ·exact e2.symm
    ·have:=hb.1 x e;have:=ha.1 y e2;omega
  subst e;rw[Qrh ha.2 hb.2 λz=>⟨λhz=> ?_,λhz=> ?_⟩]
  ·rcases List.mem_cons.1 ((h z).1 (List.mem_cons_of_mem _ hz))with e|e
   ·have:=ha.1 z hz;omega
   ·exact e
  ·rcases List.mem_cons.1 ((h z).2 (List.mem_cons_of_mem _ hz))with e|e
   ·have:=hb.1 z hz;omega
   ·exact e
def QbC:List Int->List Int
 |[]=>[]
 |[x]=>[x]
 |x::y::l=>if x=y then QbC (y::l)else x::QbC (y::l)
theorem Qkh:∀(l:List Int) (z:Int),z∈QbC l↔z∈l
 |[],z=>by simp[QbC]
 |[x],z=>by simp[QbC]
 |x::y::l,z=>by
  rw[QbC];have ih:=Qkh (y::l) z;split
  ·rename_i e;rw[ih,e];simp
  ·rw[List.mem_cons,ih,List.mem_cons (a:=z) (b:=x)]
theorem QhY:∀(l:List Int),l.Pairwise (·<=·)->(QbC l).Pairwise (·<·)
 |[],_=>by simp[QbC]
 |[x],_=>by simp[QbC]
 |x::y::l,h=>by
  have h1:=List.pairwise_cons.1 h;have h2:=List.pairwise_cons.1 h1.2;rw[QbC];split
  ·exact QhY _ h1.2
  ·rename_i hne;refine List.pairwise_cons.2 ⟨λz hz=> ?_,QhY _ h1.2⟩;have hxy:=h1.1 y (by simp);rcases List.mem_cons.1 ((Qkh _ z).1 hz)with e|e
   ·omega
   ·have:=h2.1 z e;omega
end Go.Ab
