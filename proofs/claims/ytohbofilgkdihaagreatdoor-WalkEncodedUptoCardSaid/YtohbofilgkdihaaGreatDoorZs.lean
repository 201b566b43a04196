/-
  Merged texts, part s.
-/
import Derived.Test.YtohbofilgkdihaaGreatDoorZr
set_option linter.all false
namespace Go.Ab
theorem FnS.cut{P:Program}{f:Nat}{args:List AV}{h:Hp}{R:AV->Hp->Prop}(hf:FnS P f args h R)(hc:∀r h',R r h'->Qdn h.length r=true/\QcG h.length (h'.take h.length)=true):
  FnS P f args h λr h1=>∃h2,R r (h1++h2)/\h1.length=h.length:=by
 refine⟨λG ι w vs hr hv=> ?_⟩;refine(hf.out G ι w vs hr hv).mono λe w2 ⟨v,r,G2,ι2,hc2,he,hR,hr2,hvr,hx⟩=> ?_
 have hl2:h.length<=hc2.length:=by
  rcases Nat.lt_or_ge hc2.length h.length with hb|hb
  ·obtain⟨k',h1,_⟩:=hx.keep hc2.length _ (lgE hb);have:=Qaa h1;omega
  ·exact hb
 obtain⟨c1,c2⟩:=hc r hc2 hR;have hlt:(hc2.take h.length).length=h.length:=by rw[List.length_take];omega
 let a:Act:=⟨#[v],[]⟩;have hfit:Fits 1 G ι h w (lkL [(0,r)]) hc2 a w2:=⟨G2,ι2,⟨hr2,rfl,λi=>by
  cases i with
  |zero=>exact hvr
  |succ i=>exact .c _ _ (.u _)⟩,hx,Marks.nil _ _ _ _ _⟩
 obtain⟨G3,ι3,st⟩:=Wk.cut_fits (m:=h.length) (L':=[(0,r)]) (h':=hc2.take h.length) ⟨hc2.drop h.length,(List.take_append_drop _ _).symm⟩ (by omega) (by rw[hlt];exact c2)
  (by rw[hlt];exact⟨⟨rfl,c1⟩,trivial⟩) (Nat.le_refl _) hfit
 have hv0:=st.rel.env 0;exact⟨v,r,G3,ι3,hc2.take h.length,he,⟨hc2.drop h.length,by rw[List.take_append_drop];exact hR,hlt⟩,st.rel.hr,hv0,st.ext⟩
theorem FnS.cut2{P:Program}{f:Nat}{args:List AV}{h:Hp}{R:AV->Hp->Prop}(hf:FnS P f args h R)(hc:∀r h',R r h'->∃x y,r= .tup [x,y]/\Qdn h.length x=true/\Qdn h.length y=true/\QcG h.length (h'.take h.length)=true):
  FnS P f args h λr h1=>∃h2,R r (h1++h2)/\h1.length=h.length:=by
 refine⟨λG ι w vs hr hv=> ?_⟩;refine(hf.out G ι w vs hr hv).mono λe w2 ⟨v,r,G2,ι2,hc2,he,hR,hr2,hvr,hx⟩=> ?_
 have hl2:h.length<=hc2.length:=by
  rcases Nat.lt_or_ge hc2.length h.length with hb|hb
  ·obtain⟨k',h1,_⟩:=hx.keep hc2.length _ (lgE hb);have:=Qaa h1;omega
  ·exact hb
 obtain⟨x,y,rfl,c1,c2,c3⟩:=hc r hc2 hR;have hlt:(hc2.take h.length).length=h.length:=by rw[List.length_take];omega
 cases hvr with
 |tup cs _ hn hcs=>
  have hn2:cs.size=2:=hn;let a:Act:=⟨#[cs[0],cs[1]],[]⟩;have hfit:Fits 2 G ι h w (lkL [(0,x),(1,y)]) hc2 a w2:=⟨G2,ι2,⟨hr2,rfl,λi=>by
   match i with
   |0=>exact hcs 0 _ _ (agQ (by omega)) rfl
   |1=>exact hcs 1 _ _ (agQ (by omega)) rfl
   |i+2=>exact .c _ _ (.u _)⟩,hx,Marks.nil _ _ _ _ _⟩
  obtain⟨G3,ι3,st⟩:=Wk.cut_fits (m:=h.length) (L':=[(0,x),(1,y)]) (h':=hc2.take h.length) ⟨hc2.drop h.length,(List.take_append_drop _ _).symm⟩ (by omega) (by rw[hlt];exact c3)
   (by rw[hlt];exact⟨⟨rfl,c1⟩,⟨rfl,c2⟩,trivial⟩) (Nat.le_refl _) hfit
  have hv0:=st.rel.env 0;have hv1:=st.rel.env 1;refine⟨.tuple cs,_,G3,ι3,hc2.take h.length,he,⟨hc2.drop h.length,by rw[List.take_append_drop];exact hR,hlt⟩,st.rel.hr,.tup cs _ hn λi v z hv hz=> ?_,st.ext⟩
  match i,hz with
  |0,hz=>cases hz;rw[agQ (by omega)]at hv;cases hv;exact hv0
  |1,hz=>cases hz;rw[agQ (by omega)]at hv;cases hv;exact hv1
  |i+2,hz=>cases hz
theorem Kept.unrn{ι ι2 ιc:Io}{w w2:World}{l:Nat}{k kc:Blk}{Z:Nat->Nat}(hk:Kept ι ι2 w w2 l k (rnB Z kc))(hi:ιc[l]? =ι2[l]?)(hm:∀m v es,kc≠ .mi m v es):Kept ι ιc w w2 l k kc:=by
 cases kc with
 |dead=>cases k<;>trivial
 |am m'=>
  cases k with
  |am m=>trivial
  |_=>simp[rnB,Kept]at hk
 |bx cs'=>
  cases k with
  |bx cs=>exact⟨by have:=hk.1;rw[Qdo]at this;exact this,by rw[hi];exact hk.2⟩
  |_=>simp[rnB,Kept]at hk
 |da r' v' sz' es'=>
  cases k with
  |da r v sz es=>
   rcases hk with hk|⟨a1,a2,a3,a4,a5,a6⟩
   ·exact .inl hk
   ·exact .inr ⟨a1,a2,a3,a4,by rw[hi];exact a5,a6⟩
  |_=>simp[rnB,Kept]at hk
 |mp v' es'=>
  cases k with
  |mp v es=>exact⟨by rw[hi];exact hk.1,hk.2⟩
  |_=>simp[rnB,Kept]at hk
 |mi m v es=>exact absurd rfl (hm m v es)
theorem FnS.gc{P:Program}{f:Nat}{args:List AV}{h:Hp}{R:AV->Hp->Prop}(hf:FnS P f args h R)(Q:AV->Hp->Prop)
   (hg:∀r h',R r h'->∃(σ:List Nat) (r':AV) (hc:Hp),Q r' hc/\σ.length=hc.length/\σ.Nodup/\(∀l∈σ,l<h'.length)/\(∀(i:Nat) (k:Blk),hc[i]? =some k->h'[rho σ h'.length i]? =some (rnB (rho σ h'.length) k))/\
      r=rnA (rho σ h'.length) r'/\QcG hc.length hc=true/\Qdn hc.length r'=true/\h.length<=hc.length/\(∀i,i<h.length->rho σ h'.length i=i)/\∀k∈hc,∀m v es,k≠ .mi m v es):FnS P f args h Q:=by
  refine⟨λG ι w vs hr hv=> ?_⟩;refine(hf.out G ι w vs hr hv).mono λe w2 ⟨v,r,G2,ι2,h',he,hR,hr2,hvr,hx⟩=> ?_
  obtain⟨σ,r',hc,hQ,hlen,hnd,hlt,hh,hrr,hcl,hca,hle,hid,hmi⟩:=hg r h' hR;generalize hZ:rho σ h'.length=Z at*;have rold:∀i,i<σ.length->σ[i]? =some (Z i):=λi hi=>by rw[<-hZ];exact Qkr σ _ i hi
  have rnew:∀i,σ.length<=i->Z i=h'.length+(i-σ.length):=λi hi=>by rw[<-hZ];exact Qnm σ _ i hi
  have rmem:∀i,i<σ.length->Z i∈σ:=λi hi=>mgE (rold i hi)
  have rinj:∀i j,Z i=Z j->i=j:=by
    intro i j e;rcases Nat.lt_or_ge i σ.length with hi|hi<;>rcases Nat.lt_or_ge j σ.length with hj|hj
    · have h1:=rold i hi
      have h2:=rold j hj;rw[e,<-h2]at h1;exact(List.getElem?_inj hi hnd).1 h1
    · have:=hlt _ (rmem i hi);have:=rnew j hj;omega
    · have:=hlt _ (rmem j hj);have:=rnew i hi;omega
    · have:=rnew i hi;have:=rnew j hj;omega
  let ιc:Io:=σ.map λl=>(ι2[l]?).getD (0,0)
  have hιc:∀i,i<σ.length->ιc[i]? =ι2[Z i]? :=by
    intro i hi;simp only[ιc,gtm,rold i hi,Option.map_some];rw[lgE (by rw[hr2.len];exact hlt _ (rmem i hi))];rfl
  have am:Among Z ιc hc ι2 h':=⟨hh,λi k hk=>(hιc i (by rw[hlen];exact Qaa hk)).symm⟩;have hrc:HR G2 ιc hc w2:=HR.down am hr2 (by simp[ιc,hlen]) (λi j _ _ e=>rinj i j e) hcl;have hvc:VR G2 w2 ιc hc v r':=VR.unrn am (hrr▸hvr) hca;refine⟨v,r',G2,ιc,hc,he,hQ,hrc,hvc,?_⟩;exact
    { size:=hx.size
      quiet:=hx.quiet
      frame:=hx.frame
      gmono:=hx.gmono
      gnew:=hx.gnew
      onew:=λb ho=>hx.onew b (QdY am ho)
      keep:=λl k hk=>by
        obtain⟨k',h1,h2⟩:=hx.keep l k hk;have hl:=Qaa hk;have hkc:hc[l]? =some (hc[l]'(by omega)):=lgE _;have h3:=hh l _ hkc;rw[hid l hl,h1]at h3;cases h3;exact⟨_,hkc,h2.unrn (by rw[hιc l (by omega),hid l hl]) (hmi _ (List.getElem_mem _))⟩}
open Go.Proofs
def New(m:Ar)(d:D)(b:Nat):Prop:=m b=none\/InB d b
structure Fr (m:Ar) (d:D) (m':Ar) (d':D):Prop where
 same:∀i,¬New m d i->m' i=m i
 row:∀i,InB d' i->New m d i
theorem Fr.new{m m':Ar}{d d':D}(h:Fr m d m' d'){i:Nat}(hi:New m' d' i):New m d i:=by
 refine Classical.byContradiction λhn=> ?_
 rcases hi with hi|hi
 ·rw[h.same i hn]at hi;exact hn (.inl hi)
 ·exact hn (h.row i hi)
theorem Fr.refl(m:Ar)(d:D):Fr m d m d:=⟨λ_ _=>rfl,λ_ h=> .inr h⟩
theorem Fr.trans{m m1 m2:Ar}{d d1 d2:D}(h:Fr m d m1 d1)(k:Fr m1 d1 m2 d2):Fr m d m2 d2:=
 ⟨λi hi=>(k.same i λe=>hi (h.new e)).trans (h.same i hi),λi hi=>h.new (k.row i hi)⟩
theorem Fr.write{m m1 m2:Ar}{d d1:D}(h:Fr m d m1 d1)(hw:∀i,¬New m d i->m2 i=m1 i):Fr m d m2 d1:=
 ⟨λi hi=>(hw i hi).trans (h.same i hi),h.row⟩
theorem QoO{m m':Ar}{b N cap k:Nat}{e:List D}(he:e.length=1)(hk:k=1)(hc:k<=cap)(hN:cap*1<=N)(hm':m'=mup m b (.cs N [e].flatten)):Qdg 1 m' (.sl b 0 1 k cap) [e]:=by
 refine .inr ⟨b,N,cap,by rw[hk];rfl,by rw[hm',Qbg],λx hx=> ?_,by simpa [<-hk]using hc,hN⟩;simp at hx;rw[hx];exact he
theorem Qeg{b o z n c i:Nat}(h:InB (.sl b o z n c) i):i=b:=by
 obtain⟨_,_,_,_,e⟩:=h;cases e;rfl
theorem Qa9{z i:Nat}{l:List (List D)}(h:InB (.list true z l) i):False:=by
 obtain⟨_,_,_,_,e⟩:=h;cases e
theorem Qre{m m':Ar}{b b' N cap k:Nat}{e:List D}{es:List (List D)}(hs:∀x∈es,x.length=1)(he:e.length=1)(hk:k=es.length+1)(hc:k<=cap)(hN:cap*1<=N)(hm':m'=mup (mdel m b) b' (.cs N (es++[e]).flatten)):Qdg 1 m' (.sl b' 0 1 k cap) (es++[e]):=by
 refine .inr ⟨b',N,cap,by rw[hk];simp,by rw[hm',Qbg],λx hx=> ?_,by rw[List.length_append];simpa [<-hk]using hc,hN⟩;rcases List.mem_append.1 hx with hx|hx
 ·exact hs x hx
 ·simp at hx;rw[hx];exact he
theorem QoF{m m':Ar}{b b' i:Nat}{x:AB}(hm':m'=mup (mdel m b) b' x)(h1:i≠b)(h2:mdel m b b'=none)(h3:m i≠none):m' i=m i:=by
 have:i≠b':=λe=>by rw[<-e,QbR h1]at h2;exact h3 h2
 rw[hm',Qaq this,QbR h1]
theorem QmB{m:Ar}{b i:Nat}(h:mdel m b i=none):i=b\/m i=none:=by
 by_cases e:i=b
 ·exact .inl e
 ·rw[QbR e]at h;exact .inr h
theorem QCz{P:Program}{f:Nat}{args:List AV}{h:Hp}{R:AV->Hp->Prop}(n:Nat)(hl:h.length=n)(hf:FnS P f args h λr h'=>∃h0 tl,h'=h0++tl/\h0.length=n/\Qdn n r=true/\QcG n h0=true/\R r h0):FnS P f args h R:=by
 subst hl;refine(hf.cut λr h' hr=> ?_).mono λr h1 ⟨h2,hr,hl⟩=> ?_
 ·obtain⟨h0,tl,rfl,h1,h2,h3,_⟩:=hr;refine⟨h2,?_⟩;rw[<-h1,List.take_left,h1];exact h3
 ·obtain⟨h0,tl,he,h3,_,_,hR⟩:=hr;have:h1=h0:=(List.append_inj he (by omega)).1;rw[this];exact hR
def QCf(g:Wlk)(t:Top)(xs:List Tab)(m:Ar)(d:D)(al:List Nat)(S:Nat->Prop)(s:WSt)(K':Kn WSt)(r:AV)(h':Hp):Prop:=
 ∃m' d' v' al' S' a,r= .c (.d (.adr a 0))/\h'=HS t xs m' d' v' (msE K' al') false/\PI g m' K' al' S' d'/\Qny K' al' s a/\Fr m d m' d'/\(∃q,al'=al++q)/\(∀b∈al',b∈al\/New m d b)/\(∀i,S' i->S i\/New m d i)/\∀i,S i->S' i
def QCo(t:Top)(xs:List Tab)(m:Ar)(d:D)(al:List Nat)(r:AV)(h':Hp):Prop:=
 ∃m' d' v' es' a N ys n,r= .c (.d (.adr a 0))/\h'=HS t xs m' d' v' es' true/\m' a=some (.cs N ys)/\ys.length=6/\ys[5]? =some (iD n)/\(a∈al\/New m d a)/\Fr m d m' d'
def QxG(g:Wlk)(t:Top)(xs:List Tab)(m:Ar)(d:D)(al:List Nat)(S:Nat->Prop)(s:WSt)(o:Option (Kn WSt))(r:AV)(h':Hp):Prop:=
 match o with
 |some K'=>QCf g t xs m d al S s K' r h'
 |none=>QCo t xs m d al r h'
theorem QuW{P:Program}{args:List AV}{g:Wlk}{t:Top}{xs:List Tab}{m:Ar}{d:D}{v:Nat}{es:List (DV×DV)}{al:List Nat}{S:Nat->Prop}{s:WSt}{o:Option (Kn WSt)}
 (hf:FnS P QaL args (HS t xs m d v es false) λr h'=>∃h0 tl,h'=h0++tl/\QxG g t xs m d al S s o r h0):FnS P QaL args (HS t xs m d v es false) (QxG g t xs m d al S s o):=by
 refine QCz 8 rfl (hf.mono λr h' ⟨h0,tl,e,hR⟩=>⟨h0,tl,e,?_⟩);have hR':=hR;cases o with
 |some K'=>
  obtain⟨m',d',v',al',S',a,rfl,rfl,_⟩:=hR;exact⟨rfl,rfl,rfl,hR'⟩
 |none=>
  obtain⟨m',d',v',es',a,N,ys,n,rfl,rfl,_⟩:=hR;exact⟨rfl,rfl,rfl,hR'⟩
theorem Qd2(P:Program)(hP:P=Tryz.prog)(t:Top)(xs:List Tab)(p:Pkt)(g:Wlk)(m:Ar)(d:D)(v:Nat)(K:Kn WSt)(al:List Nat)(S:Nat->Prop)(s:WSt)(hp:Int)(hT:Qbt m)(hs:NmOK s)(hI:PI g m K al S d)
 (hnd:(K.map (·.1)).Nodup)(c:Option Int)(hk:lkK K s=some c):
  FnS P QaL ([iA s.1,Qcr {p with stack:=s.2,hops:=hp}]++Qhv) (HS t xs m d v (msE K al) false) (QxG g t xs m d al S s (match c with
   |some _=>some K
   |none=>none)):=by
 refine QuW ((Qql P hP t xs p g m d v K al S s hp hT hs hI hnd c hk).mono λr h' ⟨a,tl,h1,h2,h3⟩=>⟨_,tl,h2,?_⟩);cases c with
 |some k=>exact⟨m,d,v,al,S,a,h1,rfl,hI,h3,.refl _ _,⟨[],by simp⟩,λb hb=> .inl hb,λi hi=> .inl hi,λi hi=>hi⟩
 |none=>
  obtain⟨j,e1,e2⟩:=h3;rw[gtm,omi]at e1;obtain⟨⟨x,c⟩,e3,e4⟩:=e1;simp only at e4;subst e4;have:c=none:=by
   have:=Qle hnd e3;rw[hk]at this;exact(osj this).symm
  subst this;obtain⟨⟨N,ys,n,q1,q2,q3,q4⟩,_⟩:=hI.op j x a e3 e2;exact⟨m,d,v,_,a,N,ys,n,h1,rfl,q1,q2,q4,.inl (mgE e2),.refl _ _⟩
theorem Qbq{m m':Ar}{b:Nat}{x:AB}(h:m'=mup m b x):m' b=some x:=by rw[h];exact Qbg _ _ _
theorem Qki{m m':Ar}{b i:Nat}{x:AB}(h:m'=mup m b x)(hi:i≠b):m' i=m i:=by rw[h];exact Qaq hi
@[irreducible] def Stp (p:Prop):Prop:=p
theorem stp{p:Prop}(h:p):Stp p:=by unfold Stp;exact h
theorem unstp{p:Prop}(h:Stp p):p:=by unfold Stp at h;exact h
structure StpW (P:Program) (t:Top) (xs:List Tab) (p:Pkt) (g:Wlk) (s:WSt) (x:Tab) (st:List Seg) (hp:Int):Prop where
 at_:xs[s.1.toNat]? =some x
 nn:0<=s.1
 stp:Ret P Qd6 [QaF t,Qjc x,Qcr {p with stack:=s.2,hops:=0}] (.tup [Qao (g.ar s),Qcr {p with stack:=st,hops:=hp},iA (g.rs s)])
 hd:∀a∈g.ar s,Ret P QdU [QaF t,iA a] (iA (g.to s a).1)
 tos:∀a∈g.ar s,(g.to s a).2=st
 len:(g.ar s).length<=1000
structure Reg (g:Wlk) (m:Ar) (d:D) (K:Kn WSt) (al:List Nat) (S:Nat->Prop) (s:WSt) (bx N0:Nat) (x0:List D) (m2:Ar) (d2:D):Prop where
 pi:PI g m2 (K++[(s,none)]) (al++[bx]) S d2
 fr:Fr m d m2 d2
 at_:m2 bx=some (.cs N0 x0)
 new:m bx=none
theorem Qug{g:Wlk}{m m1 m2:Ar}{d:D}{K:Kn WSt}{al:List Nat}{S:Nat->Prop}{s:WSt}{bx N0 bd Nd cap k:Nat}{x0:List D}{e:List D}(hI:PI g m K al S d)(hd:d= .list true 1 [])(hal:al.map Qgw=[])(hbx:m bx=none)(hm1:m1=mup m bx (.cs N0 x0))
 (hx:x0.length=6/\x0[4]? =some (.bool true)/\∃n,x0[5]? =some (iD n))(he:e=Qgw bx)(hb:m1 bd=none)(hk:k=1)(hc:k<=cap)(hN:cap*1<=Nd)(hm2:m2=mup m1 bd (.cs Nd [e].flatten)):
  Reg g m d K al S s bx N0 x0 m2 (.sl bd 0 1 k cap):=by
 subst he;have hne:bx≠bd:=λe=>by rw[<-e,hm1,Qbg]at hb;cases hb
 have hbm:m bd=none:=by rw[hm1,Qaq (λe=>hne e.symm)]at hb;exact hb
 have h0:al=[]:=by simpa using hal
 have hat:m2 bx=some (.cs N0 x0):=by rw[hm2,Qaq hne,hm1,Qbg]
 have hsame:∀i,m i≠none->m2 i=m i:=λi hi=>by
  rw[hm2,Qaq (λe=>hi (by rw[e];exact hbm)),hm1,Qaq (λe=>hi (by rw[e];exact hbx))]
 obtain⟨hx1,hx2,n,hx3⟩:=hx;refine⟨hI.new hbx ⟨N0,x0,n,hat,hx1,hx2,hx3⟩ (λi hi=> ?_) ?_ λi hi=> ?_,⟨λi hi=>hsame i λe=>hi (.inl e),λi hi=> ?_⟩,hat,hbx⟩
 ·rcases hi with hi|hi
  ·exact hsame i (hI.sm i hi)
  ·exact hsame i (hI.inm i hi)
 ·rw[h0];exact QoO rfl hk hc hN hm2
 ·rw[Qeg hi];exact⟨λe=>hne e.symm,.inr hbm⟩
 ·rw[Qeg hi];exact .inl hbm
theorem Qwq{g:Wlk}{m m1 m2:Ar}{d:D}{K:Kn WSt}{al:List Nat}{S:Nat->Prop}{s:WSt}{bx N0 b0 c0 bd Nd cap k nal:Nat}{x0:List D}{e:List D}(hI:PI g m K al S d)(hd:d= .sl b0 0 1 nal c0)(hnal:(al.map Qgw).length=nal)(hs:∀x∈al.map Qgw,x.length=1)(hmd:m b0≠none)(hbx:m bx=none)(hm1:m1=mup m bx (.cs N0 x0))
 (hx:x0.length=6/\x0[4]? =some (.bool true)/\∃n,x0[5]? =some (iD n))(he:e=Qgw bx)(hb:mdel m1 b0 bd=none)(hk:k=nal+1)(hc:k<=cap)(hN:cap*1<=Nd)(hm2:m2=mup (mdel m1 b0) bd (.cs Nd (al.map Qgw++[e]).flatten)):
  Reg g m d K al S s bx N0 x0 m2 (.sl bd 0 1 k cap):=by
 subst he;have hb0:b0≠bx:=λe=>hmd (by rw[e];exact hbx)
 have hin:∀i,i=b0->InB d i:=λi e=>by subst e;exact⟨_,_,_,_,hd⟩
 have hb':bd=b0\/m bd=none:=by
  rcases QmB hb with e|e
  ·exact .inl e
  ·by_cases e2:bd=bx
   ·rw[e2,hm1,Qbg]at e;cases e
   ·rw[hm1,Qaq e2]at e;exact .inr e
 have hne:bx≠bd:=λe=>by
  rw[<-e,QbR (λe=>hb0 e.symm),hm1,Qbg]at hb;cases hb
 have hat:m2 bx=some (.cs N0 x0):=by rw[hm2,Qaq hne,QbR (λe=>hb0 e.symm),hm1,Qbg]
 have hsame:∀i,m i≠none->i≠b0->m2 i=m i:=λi hi h0=>by
  have h1:i≠bx:=λe=>hi (by rw[e];exact hbx)
  have h2:i≠bd:=λe=>by
   rcases hb' with e2|e2
   ·exact h0 (e.trans e2)
   ·exact hi (by rw[e];exact e2)
  rw[hm2,Qaq h2,QbR h0,hm1,Qaq h1]
 obtain⟨hx1,hx2,n,hx3⟩:=hx;have hnew:∀i,InB (.sl bd 0 1 k cap) i->New m d i:=λi hi=>by
  rw[Qeg hi];rcases hb' with e|e
  ·exact .inr (hin _ e)
  ·exact .inl e
 refine⟨hI.new hbx ⟨N0,x0,n,hat,hx1,hx2,hx3⟩ (λi hi=> ?_) ?_ λi hi=> ?_,⟨λi hi=>hsame i (λe=>hi (.inl e)) λe=>hi (.inr (hin i e)),hnew⟩,hat,hbx⟩
 ·rcases hi with hi|hi
  ·exact hsame i (hI.sm i hi) λe=>(hI.rowS i (hin i e)).1 hi
  ·exact hsame i (hI.inm i hi) λe=>(hI.rowS i (hin i e)).2 hi
 ·rw[List.map_append];exact Qre hs rfl (by rw[hnal,hk]) hc hN hm2
 ·refine⟨λe=>hne (e.symm.trans (Qeg hi)),?_⟩;rcases hnew i hi with e|e
  ·exact .inr e
  ·exact .inl e
def Qee:AC->Option AC
 | .loop c=>some c
 | .seq a b=>match Qee a with
  |some c=>some c
  |none=>Qee b
 | .cond _ a b=>match Qee a with
  |some c=>some c
  |none=>Qee b
 | .block _ c=>Qee c
 |_=>none
def QzS:AF->AC
 |⟨_,_,b⟩=>b
def QwK:AC:=(Qee (QzS Qe0)).getD .skip
section
variable(P:Program)(t:Top)(xs:List Tab)(p:Pkt)(g:Wlk)(m:Ar)(d:D)(K:Kn WSt)(al:List Nat)(S:Nat->Prop)(s:WSt)(bx N0:Nat)(f:Kn WSt->WSt->Option (Kn WSt))(Pre:Kn WSt->Prop)
structure LpG (k:Nat) (m2:Ar) (d2:D) (K2:Kn WSt) (al2:List Nat) (S2:Nat->Prop) (nx:D) (ads:List Nat) (cnt:Int):Prop where
 pi:PI g m2 K2 al2 S2 d2
 ox:∃jx:Nat,K2[jx]? =some (s,none)/\al2[jx]? =some bx
 at_:m2 bx=some (.cs N0 (plD g s nx true cnt))
 row:Qdg 1 m2 nx (ads.map Qgw)
 sep:∀i,InB nx i->i∉al2/\¬New m2 d2 i/\¬S2 i
 ads:QlU K2 al2 ((g.nx s).take k) ads
 fr:Fr m d m2 d2
 nw:(∃q,al2=al++q)/\(∀b∈al2,b∈al\/New m d b)/\(∀i,S2 i->S i\/New m d i)/\∀i,S i->S2 i
 nn:∀i,InB nx i->New m d i
 xn:New m d bx
 cn:0<=cnt/\cnt<=1001
 pre:Pre K2
 fin:QgK f ((g.nx s).drop k) K2 cnt=QgK f (g.nx s) (K++[(s,none)]) (if g.nx s=[]then 1 else 0)
def LpB(m2:Ar)(d2:D):Prop:=QgK f (g.nx s) (K++[(s,none)]) (if g.nx s=[]then 1 else 0)=none/\Fr m d m2 d2/\New m d bx/\∃ys n,m2 bx=some (.cs N0 ys)/\ys.length=6/\ys[5]? =some (iD n)
def LpI(k:Nat)(q:Int×Ar×D×Nat×List (DV×DV)×Bool):Prop:=
 q.1=k/\k<=(g.ar s).length/\((q.2.2.2.2.2=false/\∃K2 al2 S2 nx ads cnt,q.2.2.2.2.1=msE K2 al2/\LpG g m d K al S s bx N0 f Pre k q.2.1 q.2.2.1 K2 al2 S2 nx ads cnt)\/(q.2.2.2.2.2=true/\LpB g m d K s bx N0 f q.2.1 q.2.2.1))
end
structure RecR (P:Program) (t:Top) (xs:List Tab) (p:Pkt) (g:Wlk) (s:WSt) (nst:List Seg) (nhp:Int) (f:Kn WSt->WSt->Option (Kn WSt)) (Pre:Kn WSt->Prop):Prop where
 hd:∀a∈g.ar s,Ret P QdU [QaF t,iA a] (iA (g.to s a).1)
 to_:∀a∈g.ar s,(g.to s a).2=nst
 len:(g.ar s).length<=1000
 nd:∀K2,Pre K2->(K2.map (·.1)).Nodup/\K2.length<=1000
 call:∀y∈g.nx s,∀m2 d2 v2 K2 al2 S2,Qbt m2->PI g m2 K2 al2 S2 d2->Pre K2->¬New m2 d2 0->FnS P QaL ([iA y.1,Qcr {p with stack:=y.2,hops:=nhp}]++Qhv) (HS t xs m2 d2 v2 (msE K2 al2) false) (QxG g t xs m2 d2 al2 S2 y (f K2 y))
 law:∀y∈g.nx s,∀K2 K3,Pre K2->f K2 y=some K3->Pre K3/\DfsR g.nx K2 K3/\(K3.map (·.1)).Nodup/\∃c,0<=c/\c<=1001/\lkK K3 y=some (some c)
structure Grw (m3 m4:Ar) (nx nx':D) (l:List (List D)):Prop where
 row:Qdg 1 m4 nx' l
 same:∀i,m3 i≠none->¬InB nx i->m4 i=m3 i
 new:∀i,InB nx' i->InB nx i\/m3 i=none
theorem Qos{m m':Ar}{b N cap k:Nat}{e:List D}(he:e.length=1)(hb:m b=none)(hk:k=1)(hc:k<=cap)(hN:cap*1<=N)(hm':m'=mup m b (.cs N [e].flatten)):Grw m m' (.list true 1 []) (.sl b 0 1 k cap) [e]:=
 ⟨QoO he hk hc hN hm',λi hi _=>by rw[hm',Qaq λe=>hi (by rw[e];exact hb)],λi hi=>by rw[Qeg hi];exact .inr hb⟩
theorem QqS{m m':Ar}{b b' n c N cap k:Nat}{e:List D}{es:List (List D)}(hs:∀x∈es,x.length=1)(he:e.length=1)(hn:es.length=n)(hb:mdel m b b'=none)(hk:k=n+1)(hc:k<=cap)(hN:cap*1<=N)(hm':m'=mup (mdel m b) b' (.cs N (es++[e]).flatten)):Grw m m' (.sl b 0 1 n c) (.sl b' 0 1 k cap) (es++[e]):=by
 refine⟨Qre hs he (by rw[hn];exact hk) hc hN hm',λi hi hn=>QoF hm' (λe=>hn (by rw[e];exact⟨_,_,_,_,rfl⟩)) hb hi,λi hi=> ?_⟩;rw[Qeg hi];rcases QmB hb with e|e
 ·exact .inl (by rw[e];exact⟨_,_,_,_,rfl⟩)
 ·exact .inr e
section
variable{g:Wlk}{m:Ar}{d:D}{K:Kn WSt}{al:List Nat}{S:Nat->Prop}{s:WSt}{bx N0:Nat}{f:Kn WSt->WSt->Option (Kn WSt)}{Pre:Kn WSt->Prop}
variable{k:Nat}{m2:Ar}{d2:D}{K2:Kn WSt}{al2:List Nat}{S2:Nat->Prop}{nx:D}{ads:List Nat}{cnt:Int}
theorem LpG.old(h:LpG g m d K al S s bx N0 f Pre k m2 d2 K2 al2 S2 nx ads cnt):¬New m2 d2 bx/\bx∈al2:=by
 obtain⟨jx,h1,h2⟩:=h.ox;have hb:=mgE h2;refine⟨?_,hb⟩;rintro(e|e)
 ·exact h.pi.inm bx hb e
 ·exact(h.pi.rowS bx e).2 hb
theorem QtR(h:LpG g m d K al S s bx N0 f Pre k m2 d2 K2 al2 S2 nx ads cnt)(hnd:(K2.map (·.1)).Nodup){y:WSt}(hk:(g.nx s)[k]? =some y){K3:Kn WSt}(hf:f K2 y=some K3)(hp3:Pre K3)(hdf:DfsR g.nx K2 K3)(hnd3:(K3.map (·.1)).Nodup)
   {c:Int}(hc0:0<=c/\c<=1001)(hck:lkK K3 y=some (some c)){m3:Ar}{d3:D}{al3:List Nat}{S3:Nat->Prop}{a:Nat}(p3:PI g m3 K3 al3 S3 d3)(ha:Qny K3 al3 y a)(f3:Fr m2 d2 m3 d3)(hq:∃q,al3=al2++q)(hb3:∀b∈al3,b∈al2\/New m2 d2 b)(hs3:∀i,S3 i->S2 i\/New m2 d2 i)(hss:∀i,S2 i->S3 i)
   {m4 m5 m6:Ar}{nx':D}{x5:List D}{cnt':Int}(hg:Grw m3 m4 nx nx' ((ads++[a]).map Qgw))(hm5:m5=mup m4 bx (.cs N0 x5))(hx5:x5.length=6/\x5[4]? =some (.bool true)/\∃n,x5[5]? =some (iD n))(hm6:m6=mup m5 bx (.cs N0 (plD g s nx' true cnt')))(hcnt:cnt'=QjG (cnt+c)):
    LpG g m d K al S s bx N0 f Pre (k+1) m6 d3 K3 al3 S3 nx' (ads++[a]) cnt':=by
  obtain⟨ob,obm⟩:=h.old;obtain⟨jx,h1,h2⟩:=h.ox;have hlk:lkK K2 s=some none:=Qle hnd h1;have hlk3:=hdf.old _ _ hlk;obtain⟨nw,hnw⟩:=hdf.pre;have h1':K3[jx]? =some (s,none):=by
    have:(K3.map (·.1))[jx]? =some s:=by
      rw[hnw,gal (by have:=Qaa h1;simpa using this),gtm,h1];rfl
    rw[gtm,omi]at this;obtain⟨⟨x,c'⟩,e1,e2⟩:=this;simp only at e2;subst e2;have:=Qle hnd3 e1;rw[hlk3]at this;rw[e1,<-osj this]
  have h2':al3[jx]? =some bx:=by
    obtain⟨q,e⟩:=hq;rw[e,gal (Qaa h2)];exact h2
  have hbx3:=mgE h2';have sep3:∀i,InB nx i->i∉al3/\¬New m3 d3 i/\¬S3 i:=by
    intro i hi;obtain⟨s1,s2,s3⟩:=h.sep i hi;refine⟨λe=> ?_,λe=>s2 (f3.new e),λe=> ?_⟩
    · rcases hb3 i e with e|e
      · exact s1 e
      · exact s2 e
    · rcases hs3 i e with e|e
      · exact s3 e
      · exact s2 e
  have hne:∀i,InB nx' i->i≠bx:=by
    intro i hi e;rcases hg.new i hi with e2|e2
    · exact(sep3 i e2).1 (by rw[e];exact hbx3)
    · rw[e]at e2;exact p3.inm bx hbx3 e2
  have same4:∀i,S3 i\/i∈al3\/InB d3 i->m4 i=m3 i:=by
    intro i hi;refine hg.same i ?_ λe=> ?_
    · rcases hi with hi|hi|hi
      · exact p3.sm i hi
      · exact p3.inm i hi
      · exact p3.row.key' hi
    · obtain⟨s1,s2,s3⟩:=sep3 i e
      rcases hi with hi|hi|hi
      · exact s3 hi
      · exact s1 hi
      · exact s2 (.inr hi)
  have p4:=p3.frame same4;obtain⟨x1,x2,n,x3⟩:=hx5;have p5:=p4.write h1' h2' hm5 x1 x2 x3;have p6:=p5.write h1' h2' hm6 rfl rfl (n:=cnt') rfl;have hm64:∀i,i≠bx->m6 i=m4 i:=λi hi=>by rw[hm6,Qaq hi,hm5,Qaq hi]
  have ft:=h.fr.trans f3;refine
    { pi:=p6
      ox:=⟨jx,h1',h2'⟩
      at_:=by rw[hm6,Qbg]
      row:=hg.row.frame λi hi=>hm64 i (hne i hi)
      sep:=λi hi=> ?_
      ads:= ?_
      fr:=ft.write λi hi=> ?_
      nw:= ?_
      nn:=λi hi=> ?_
      xn:=h.xn
      cn:=by rw[hcnt];have:=h.cn;simp only[QjG];split<;>omega
      pre:=hp3
      fin:= ?_}
  · have hnn:m6 i≠none:=by rw[hm64 i (hne i hi)];exact hg.row.key' hi
    rcases hg.new i hi with e|e
    · obtain⟨s1,s2,s3⟩:=sep3 i e
      exact⟨s1,λe=>e.elim hnn λe=>s2 (.inr e),s3⟩
    · exact⟨λe2=>p3.inm i e2 e,λe2=>e2.elim hnn λe2=>p3.row.key' e2 e,λe2=>p3.sm i e2 e⟩
  · have:(g.nx s).take (k+1)=(g.nx s).take k++[y]:=by rw[List.take_add_one,hk];rfl
    rw[this];exact(h.ads.up ⟨nw,hnw⟩ hq).snoc ha
  · have h3:m3 i≠none/\¬InB nx i:=⟨λe=>hi (ft.new (.inl e)),λe=>hi (h.nn i e)⟩
    rw[hm64 i (λe=>hi (by rw[e];exact h.xn)),hg.same i h3.1 h3.2]
  · obtain⟨⟨q1,e1⟩,n2,n3,n4⟩:=h.nw
    obtain⟨q2,e2⟩:=hq;refine⟨⟨q1++q2,by rw[e2,e1,List.append_assoc]⟩,λb hb=> ?_,λi hi=> ?_,λi hi=>hss i (n4 i hi)⟩
    · rcases hb3 b hb with e|e
      · exact n2 b e
      · exact .inr (h.fr.new e)
    · rcases hs3 i hi with e|e
      · exact n3 i e
      · exact .inr (h.fr.new e)
  · rcases hg.new i hi with e|e
    · exact h.nn i e
    · exact ft.new (.inl e)
  · have hd:(g.nx s).drop k=y::(g.nx s).drop (k+1):=by
      obtain⟨hlt,rfl⟩:=List.getElem?_eq_some_iff.1 hk;exact List.drop_eq_getElem_cons hlt
    rw[<-h.fin,hd,QgK,hf];simp only;rw[hcnt]
    congr 1
    rw[Qzq,hck];rfl
theorem QtS(h:LpG g m d K al S s bx N0 f Pre k m2 d2 K2 al2 S2 nx ads cnt)(hnd:(K2.map (·.1)).Nodup){y:WSt}{K3:Kn WSt}(hdf:DfsR g.nx K2 K3)(hnd3:(K3.map (·.1)).Nodup)
 {c:Int}(hck:lkK K3 y=some (some c)){m3:Ar}{d3:D}{al3:List Nat}{S3:Nat->Prop}{a:Nat}(p3:PI g m3 K3 al3 S3 d3)(ha:Qny K3 al3 y a)(f3:Fr m2 d2 m3 d3)(hq:∃q,al3=al2++q)(hb3:∀b∈al3,b∈al2\/New m2 d2 b)(hs3:∀i,S3 i->S2 i\/New m2 d2 i)
 {m4 m5:Ar}{nx':D}{x5:List D}{l:List (List D)}(hg:Grw m3 m4 nx nx' l)(hm5:m5=mup m4 bx (.cs N0 x5)):∃N ys,m5 a=some (.cs N ys)/\ys[5]? =some (iD c):=by
 obtain⟨ob,obm⟩:=h.old;obtain⟨jx,h1,h2⟩:=h.ox;obtain⟨j,e1,e2⟩:=ha;rw[gtm,omi]at e1;obtain⟨⟨x,c'⟩,e3,e4⟩:=e1;simp only at e4;subst e4;have:=Qle hnd3 e3;rw[hck]at this;obtain rfl:=osj this;have hpl:=p3.pl j x c a e3 e2;obtain⟨N,nx2,ads2,q1,_⟩:=hpl.ex;have hne:a≠bx:=by
  rintro rfl;have hlk3:=hdf.old _ _ (Qle hnd h1);have h2':al3[jx]? =some a:=by
   obtain⟨q,e⟩:=hq;rw[e,gal (Qaa h2)];exact h2
  have:j=jx:=(List.getElem?_inj (Qaa e2) p3.nd).1 (e2.trans h2'.symm);subst this;obtain⟨nw,hnw⟩:=hdf.pre;have hx:(K3.map (·.1))[j]? =some s:=by
   rw[hnw,gal (by have:=Qaa h1;simpa using this),gtm,h1];rfl
  rw[gtm,e3]at hx;have:x=s:=osj hx;subst this;rw[hck]at hlk3;cases hlk3
 have hnn:¬InB nx a:=λe=>by
  obtain⟨s1,s2,s3⟩:=h.sep a e;rcases hs3 a hpl.at_ with e2|e2
  ·exact s3 e2
  ·exact s2 e2
 refine⟨N,plD g x nx2 false c,?_,rfl⟩;rw[hm5,Qaq hne,hg.same a (by rw[q1];simp) hnn,q1]
theorem Qxl(h:LpG g m d K al S s bx N0 f Pre k m2 d2 K2 al2 S2 nx ads cnt){y:WSt}(hk:(g.nx s)[k]? =some y)(hf:f K2 y=none){m3:Ar}{d3:D}(f3:Fr m2 d2 m3 d3)
 {m4 m5 m6:Ar}{nx':D}{x5 x6:List D}{l:List (List D)}(hg:Grw m3 m4 nx nx' l)(hm5:m5=mup m4 bx (.cs N0 x5))(hm6:m6=mup m5 bx (.cs N0 x6))(hx6:x6.length=6/\∃n,x6[5]? =some (iD n)):LpB g m d K s bx N0 f m6 d3:=by
 have ft:=h.fr.trans f3;obtain⟨x1,n,x2⟩:=hx6;refine⟨?_,ft.write λi hi=> ?_,h.xn,x6,n,by rw[hm6,Qbg],x1,x2⟩
 ·have hd:(g.nx s).drop k=y::(g.nx s).drop (k+1):=by
   obtain⟨hlt,rfl⟩:=List.getElem?_eq_some_iff.1 hk;exact List.drop_eq_getElem_cons hlt
  rw[<-h.fin,hd,QgK,hf]
 ·have hx:i≠bx:=λe=>hi (by rw[e];exact h.xn)
  have h3:m3 i≠none/\¬InB nx i:=⟨λe=>hi (ft.new (.inl e)),λe=>hi (h.nn i e)⟩;rw[hm6,Qaq hx,hm5,Qaq hx,hg.same i h3.1 h3.2]
theorem Qkg(h:LpG g m d K al S s bx N0 f Pre k m2 d2 K2 al2 S2 nx ads cnt){m3:Ar}{d3:D}(f3:Fr m2 d2 m3 d3){a N:Nat}{ys:List D}{n:Int}(ha:a∈al2\/New m2 d2 a)(h1:m3 a=some (.cs N ys))(h2:ys[5]? =some (iD n))
 {m4 m5:Ar}{nx':D}{x5:List D}{l:List (List D)}(hg:Grw m3 m4 nx nx' l)(hm5:m5=mup m4 bx (.cs N0 x5))(hx5:x5[5]? =some (iD cnt)):∃N ys n,m5 a=some (.cs N ys)/\ys[5]? =some (iD n):=by
 by_cases e:a=bx
 ·exact⟨N0,x5,cnt,by rw[e,hm5,Qbg],hx5⟩
 ·have hnn:¬InB nx a:=λe=>by
   obtain⟨s1,s2,s3⟩:=h.sep a e;rcases ha with e2|e2
   ·exact s1 e2
   ·exact s2 e2
  exact⟨N,ys,n,by rw[hm5,Qaq e,hg.same a (by rw[h1];simp) hnn,h1],h2⟩
end
abbrev LpQ:=Int×Ar×D×Nat×List (DV×DV)×Bool
abbrev lpL (bx:Nat) (arl:List (List D)) (n i:Int):Lv:=[(3,.c (.ptr 6 0 0 0)),(5,.c (.ptr 1 0 0 0)),(7,.c (.ptr 7 0 0 0)),(13,.c (.d (.adr bx 0))),(14,.c (.ptr 10 0 0 0)),(75,.c (.d (.list false 1 arl))),(76,iA n),(77,iA i)]
abbrev lpH (bx:Nat) (ost:List Seg) (p:Pkt) (nst:List Seg) (nhp:Int):Hp:=[.bx [.d (iD p.id),.d (iD p.src),.d (iD p.dst),.d (iD p.flow),.d (QaZ ost),.d (iD 0)],.da true 0 1 [[.adr bx 0]],.bx [.d (iD p.id),.d (iD p.src),.d (iD p.dst),.d (iD p.flow),.d (QaZ nst),.d (iD nhp)]]
theorem QsC(P:Program)(hP:P=Tryz.prog)(t:Top)(xs:List Tab)(p:Pkt)(g:Wlk)(m:Ar)(d:D)(K:Kn WSt)(al:List Nat)(S:Nat->Prop)(s:WSt)(bx N0:Nat)(f:Kn WSt->WSt->Option (Kn WSt))(Pre:Kn WSt->Prop)(nst:List Seg)(nhp:Int)(hR:RecR P t xs p g s nst nhp f Pre)
 (hT:Qbt m)(hTn:¬New m d 0)(Λ:Len)(Λo:∀l,Λ l=(l.length:Int))(m0:Ar)(d0:D)(v0:Nat)(es0:List (DV×DV))(ost:List Seg)(h0:LpI g m d K al S s bx N0 f Pre 0 (0,m0,d0,v0,es0,false))(L:Lv)(h:Hp)(Q:Post)
 (wk:Wk 8 L h (lpL bx ((g.ar s).map Qar) (Λ ((g.ar s).map Qar)) 0) (HS t xs m0 d0 v0 es0 false++lpH bx ost p nst nhp))
 (hQ:∀m' d' v' es' lo,LpI g m d K al S s bx N0 f Pre (g.ar s).length ((g.ar s).length,m',d',v',es',lo)->Q (.exit 0) [(13,.c (.d (.adr bx 0)))] (HS t xs m' d' v' es' lo)):LoopI 8 (vcC P Λ 8 QwK) L h Q:=by
 have hok:FnOk P QaL:=⟨_,hP▸Qcj,rfl,by decide⟩;refine Qbs (g.ar s).length (λ(q:LpQ)=>lpL bx ((g.ar s).map Qar) (Λ ((g.ar s).map Qar)) q.1) (λ(q:LpQ)=>HS t xs q.2.1 q.2.2.1 q.2.2.2.1 q.2.2.2.2.1 q.2.2.2.2.2++lpH bx ost p nst nhp) (LpI g m d K al S s bx N0 f Pre) (0,m0,d0,v0,es0,false)
  0 (λ(_:LpQ)=>[(13,.c (.d (.adr bx 0)))]) (λ(q:LpQ)=>HS t xs q.2.1 q.2.2.1 q.2.2.2.1 q.2.2.2.2.1 q.2.2.2.2.2) (λ(q:LpQ)=>LpI g m d K al S s bx N0 f Pre (g.ar s).length ((g.ar s).length,q.2.1,q.2.2.1,q.2.2.2.1,q.2.2.2.2.1,q.2.2.2.2.2)) wk h0 (λk s h=>h.2.1) ?_ ?_
 ·clear h0 hQ wk;rintro k ⟨i,m2,d2,v2,es2,lo⟩ Q' ⟨hi,hkl,hc⟩ norm jn ex rt;simp only at hi hc;subst hi;have hΛ:Λ ((g.ar s).map Qar)=(g.ar s).length:=by rw[Λo];simp
  rcases hc with ⟨rfl,K2,al2,S2,nx,ads,cnt,rfl,hG⟩|⟨rfl,hB⟩
  ·by_cases hlt:k<(g.ar s).length
   ·obtain⟨a,ha⟩:∃a,(g.ar s)[k]? =some a:=⟨_,lgE hlt⟩;have ham:=mgE ha;have hy:(g.nx s)[k]? =some (g.to s a):=by rw[Wlk.nx,nxt,gtm,ha];rfl
    have hyn:(g.to s a).2=nst:=hR.to_ a ham;have htb:¬New m2 d2 0:=λe=>hTn (hG.fr.new e)
    have hT2:Qbt m2:=(hG.fr.same _ hTn).trans hT;obtain⟨hnd,hkl2⟩:=hR.nd K2 hG.pre;have hcall:=hR.call _ (mgE hy) m2 d2 v2 K2 al2 S2 hT2 hG.pi hG.pre htb;have hlaw:=hR.law _ (mgE hy) K2;have hhd:=hR.hd a ham;have hadl:ads.length=k:=by rw[hG.ads.1,List.length_take];have:=Qaa hy;omega
    have harl:=hR.len;clear hR;generalize hyv:g.to s a=y at*;obtain⟨yn,yst⟩:=y;simp only at hyn hhd hcall;subst hyn;cases hf:f K2 (yn,yst)with
    |none=>
     rw[hf]at hcall;clear hlaw jn;obtain⟨hob,hobm⟩:=hG.old;have hat:=hG.at_;obtain⟨cn0,cn1⟩:=hG.cn;have nrm:=λL' h' m6 d3 v3 es3 (hx:LpB g m d K s bx N0 f m6 d3)=>norm L' h' (((k+1:Nat):Int),m6,d3,v3,es3,true) ⟨rfl,hlt,.inr ⟨rfl,hx⟩⟩
     clear norm;obtain⟨ka,hka⟩:∃ka:Int,(k:Int)=ka:=⟨_,rfl⟩;have hk0:0<=ka:=by omega
     have hkl3:ka<(g.ar s).length:=by omega
     have hk1:((k+1:Nat):Int)=ka+1:=by omega
     obtain⟨id,src,dst,flow,st0,hops⟩:=p;have hak:((g.ar s).map Qar)[ka.toNat]? =some (Qar a):=by rw[<-hka,Int.toNat_natCast,gtm,ha];rfl
     rcases hG.row with ⟨hnx,hads⟩|⟨bn,Nn,capn,hnx,hmn,hsn,hcn1,hcn2⟩
     ·subst hnx;obtain rfl:ads=[]:=by simpa using hads
      simp only[hka,hk1,HS,QoW,lpH,lpL,QaF,Qcr,Qaf,Qak,QaZ,Qao,Qhv,List.cons_append,List.nil_append]at nrm hcall hhd hΛ |-;generalize hgar:(g.ar s).map Qar=arl at*;generalize msE K2 al2=es at*;generalize hxl:List.map Qav xs=xl at*;generalize hol:t.ov.map QaY=ol at*;generalize hll:t.links.map Qaz=ll at*;generalize htn:t.nodes=nodes at*;generalize hnsl:List.map Qaj yst=nsl at*;generalize List.map Qaj ost=osl at*;simp only[plD]at hat
      conv=>cbv
      repeat' first|(intro(e:List D) he;cases osj (he.symm.trans hak);(conv=>cbv))|(refine Qag hhd rfl rfl ?_;conv=>cbv)|(refine QeA [0,1,2,3,4,5,6,7] hcall rfl rfl (by decide) (by repeat' first|exact trivial|refine And.intro ?_ ?_|rfl) rfl rfl ?_;rintro r hc' hv;obtain⟨m3,d3,v3,es3,b,Nb,yb,nb,rfl,rfl,hyb,hyl,hyb5,hab,f3⟩:=hv;have hm3:=(f3.same bx hob).trans hat;simp only[HS,QoW,Qaf,Qak,hxl,hol,hll,htn];(conv=>cbv))|exact hok|(refine⟨N0,_,hx5,nle rfl,?_⟩;intro m6 hm6;(conv=>cbv))|(refine⟨N0,_,_,hx5,rfl,?_⟩;(conv=>cbv))|(refine⟨N0,_,hm4x,nle rfl,?_⟩;intro m5 hm5;have hx5:=Qbq hm5;obtain⟨Ny,yv,ny,hyr,hy5⟩:=Qkg hG f3 hab hyb hyb5 hg hm5 rfl;(conv=>cbv))|(refine⟨N0,_,_,hm3,rfl,?_⟩;(conv=>cbv))|(refine⟨Ny,yv,_,hyr,hy5,?_⟩;(conv=>cbv))|(right;intro(_:Unit);refine And.intro (λ_=>⟨(λhq=>by cases hq),nle rfl⟩) ?_;intro(b4:Nat) (N4:Nat) (cap4:Nat) (k4:Nat) (m4:Ar) hb4 hk4 hkc4 hcN4 hm4;have hg:=Qos (e:=Qgw b) rfl hb4 hk4 hkc4 hcN4 hm4;have hm4x:=(hg.same bx (by rw[hm3];simp) (λe=>Qa9 e)).trans hm3;(conv=>cbv))|exact gxQ|refine And.intro ?_ ?_|(intro hc;(first|rw[wS (by omega) (by omega)]at hc|rw[Qab]at hc|skip);try (conv=>cbv))
      rename_i w1 hw1 w2 hw2 i2;have hG':=Qxl hG hy hf f3 hg hm5 hm6 ⟨rfl,w2,rfl⟩;subst hc;refine nrm _ _ m6 d3 v3 es3 hG' ?_;exact(Wk.ca)
     ·subst hnx;simp only[hka,hk1,HS,QoW,lpH,lpL,QaF,Qcr,Qaf,Qak,QaZ,Qao,Qhv,List.cons_append,List.nil_append]at nrm hcall hhd hΛ |-;generalize hgar:(g.ar s).map Qar=arl at*;generalize msE K2 al2=es at*;generalize hxl:List.map Qav xs=xl at*;generalize hol:t.ov.map QaY=ol at*;generalize hll:t.links.map Qaz=ll at*;generalize htn:t.nodes=nodes at*;generalize hnsl:List.map Qaj yst=nsl at*;generalize List.map Qaj ost=osl at*;have hnb:∀i,InB (.sl bn 0 1 (List.map Qgw ads).length capn) i->i=bn:=λi hi=>Qeg hi
      have hbs:=hG.sep bn ⟨_,_,_,_,rfl⟩;have hbx:bx≠bn:=λe=>hbs.1 (by rw[<-e];exact hobm)
      generalize hnal:(List.map Qgw ads).length=nal at*;have hnal2:nal<=1000:=by rw[List.length_map]at hnal;omega
      simp only[plD]at hat
      conv=>cbv
      repeat' first|(intro(e:List D) he;cases osj (he.symm.trans hak);(conv=>cbv))|(refine Qag hhd rfl rfl ?_;conv=>cbv)|(refine QeA [0,1,2,3,4,5,6,7] hcall rfl rfl (by decide) (by repeat' first|exact trivial|refine And.intro ?_ ?_|rfl) rfl rfl ?_;rintro r hc' hv;obtain⟨m3,d3,v3,es3,b,Nb,yb,nb,rfl,rfl,hyb,hyl,hyb5,hab,f3⟩:=hv;have hm3:=(f3.same bx hob).trans hat;have hmn3:=(f3.same bn hbs.2.1).trans hmn;simp only[HS,QoW,Qaf,Qak,hxl,hol,hll,htn];(conv=>cbv))|exact hok|(refine⟨N0,_,hx5,nle rfl,?_⟩;intro m6 hm6;(conv=>cbv))|(refine⟨N0,_,_,hx5,rfl,?_⟩;(conv=>cbv))|(refine⟨N0,_,hm4x,nle rfl,?_⟩;intro m5 hm5;have hx5:=Qbq hm5;obtain⟨Ny,yv,ny,hyr,hy5⟩:=Qkg hG f3 hab hyb hyb5 hg hm5 rfl;(conv=>cbv))|(refine⟨N0,_,_,hm3,rfl,?_⟩;(conv=>cbv))|(refine⟨Ny,yv,_,hyr,hy5,?_⟩;(conv=>cbv))|(refine⟨Nn,List.map Qgw ads,hmn3,rfl,hnal,hsn,hcn1,hcn2,(λ_=>⟨(λhq=>by cases hq),(show(nal+1)*8<=140737488355328 by omega)⟩),?_⟩;intro(b4:Nat) (N4:Nat) (cap4:Nat) (k4:Nat) (m4:Ar) hb4 hk4 hkc4 hcN4 hm4;have hg:=QqS (c:=capn) (e:=Qgw b) hsn rfl hnal hb4 hk4 hkc4 hcN4 hm4;have hm4x:=(hg.same bx (by rw[hm3];simp) (λe=>hbx (Qeg e))).trans hm3;(conv=>cbv))|exact gxQ|refine And.intro ?_ ?_|(intro hc;(first|rw[wS (by omega) (by omega)]at hc|rw[Qab]at hc|skip);try (conv=>cbv))
      rename_i w1 hw1 w2 hw2 i2;have hG':=Qxl hG hy hf f3 hg hm5 hm6 ⟨rfl,w2,rfl⟩;subst hc;refine nrm _ _ m6 d3 v3 es3 hG' ?_;exact(Wk.ca)
    |some K3=>
     rw[hf]at hcall;obtain⟨hp3,hdf,hnd3,c,hc0,hc1,hck⟩:=hlaw K3 hG.pre hf;clear hlaw jn;obtain⟨hob,hobm⟩:=hG.old;have hat:=hG.at_;obtain⟨cn0,cn1⟩:=hG.cn;have nrm:=λL' h' m6 d3 v3 al3 S3 nx' ads' cnt' (hx:LpG g m d K al S s bx N0 f Pre (k+1) m6 d3 K3 al3 S3 nx' ads' cnt')=>norm L' h' (((k+1:Nat):Int),m6,d3,v3,msE K3 al3,false) ⟨rfl,hlt,.inl ⟨rfl,K3,al3,S3,nx',ads',cnt',rfl,hx⟩⟩
     clear norm;obtain⟨ka,hka⟩:∃ka:Int,(k:Int)=ka:=⟨_,rfl⟩;have hk0:0<=ka:=by omega
     have hkl3:ka<(g.ar s).length:=by omega
     have hk1:((k+1:Nat):Int)=ka+1:=by omega
     obtain⟨id,src,dst,flow,st0,hops⟩:=p;have hak:((g.ar s).map Qar)[ka.toNat]? =some (Qar a):=by rw[<-hka,Int.toNat_natCast,gtm,ha];rfl
     rcases hG.row with ⟨hnx,hads⟩|⟨bn,Nn,capn,hnx,hmn,hsn,hcn1,hcn2⟩
     ·subst hnx;obtain rfl:ads=[]:=by simpa using hads
      simp only[hka,hk1,HS,QoW,lpH,lpL,QaF,Qcr,Qaf,Qak,QaZ,Qao,Qhv,List.cons_append,List.nil_append]at nrm hcall hhd hΛ |-;generalize hgar:(g.ar s).map Qar=arl at*;generalize msE K2 al2=es at*;generalize hxl:List.map Qav xs=xl at*;generalize hol:t.ov.map QaY=ol at*;generalize hll:t.links.map Qaz=ll at*;generalize htn:t.nodes=nodes at*;generalize hnsl:List.map Qaj yst=nsl at*;generalize List.map Qaj ost=osl at*;simp only[plD]at hat
      conv=>cbv
      repeat' first|(intro(e:List D) he;cases osj (he.symm.trans hak);(conv=>cbv))|(refine Qag hhd rfl rfl ?_;conv=>cbv)|(refine QeA [0,1,2,3,4,5,6,7] hcall rfl rfl (by decide) (by repeat' first|exact trivial|refine And.intro ?_ ?_|rfl) rfl rfl ?_;rintro r hc' hv;obtain⟨m3,d3,v3,al3,S3,b,rfl,rfl,p3,hab,f3,hq,hb3,hs3,hss⟩:=hv;have hm3:=(f3.same bx hob).trans hat;simp only[HS,QoW,Qaf,Qak,hxl,hol,hll,htn];generalize hes3:msE K3 al3=es3;(conv=>cbv))|exact hok|(refine⟨N0,_,hx5,nle rfl,?_⟩;intro m6 hm6;(conv=>cbv))|(refine⟨N0,_,_,hx5,rfl,?_⟩;(conv=>cbv))|(refine⟨N0,_,hm4x,nle rfl,?_⟩;intro m5 hm5;have hx5:=Qbq hm5;obtain⟨Ny,yv,hyr,hy5⟩:=QtS hG hnd hdf hnd3 hck p3 hab f3 hq hb3 hs3 hg hm5;(conv=>cbv))|(refine⟨N0,_,_,hm3,rfl,?_⟩;(conv=>cbv))|(refine⟨Ny,yv,_,hyr,hy5,?_⟩;(conv=>cbv))|(right;intro(_:Unit);refine And.intro (λ_=>⟨(λhq=>by cases hq),nle rfl⟩) ?_;intro(b4:Nat) (N4:Nat) (cap4:Nat) (k4:Nat) (m4:Ar) hb4 hk4 hkc4 hcN4 hm4;have hg:=Qos (e:=Qgw b) rfl hb4 hk4 hkc4 hcN4 hm4;have hm4x:=(hg.same bx (by rw[hm3];simp) (λe=>Qa9 e)).trans hm3;(conv=>cbv))|exact gxQ|refine And.intro ?_ ?_|(intro hc;(first|rw[wS (by omega) (by omega)]at hc|rw[Qab]at hc|skip);try (conv=>cbv))
      rename_i w1 hw1 w2 hw2 i2;have hG':=QtR hG hnd hy hf hp3 hdf hnd3 ⟨hc0,hc1⟩ hck p3 hab f3 hq hb3 hs3 hss hg hm5 ⟨rfl,rfl,cnt,rfl⟩ (cnt':=w2) hm6 (by simp only[QjG];split<;>omega);subst hc;have nr:=λL' h'=>nrm L' h' m6 d3 v3 al3 S3 _ _ _ hG'
      simp only[hes3]at nr;refine nr _ _ ?_;exact(Wk.ca)
     ·subst hnx;simp only[hka,hk1,HS,QoW,lpH,lpL,QaF,Qcr,Qaf,Qak,QaZ,Qao,Qhv,List.cons_append,List.nil_append]at nrm hcall hhd hΛ |-;generalize hgar:(g.ar s).map Qar=arl at*;generalize msE K2 al2=es at*;generalize hxl:List.map Qav xs=xl at*;generalize hol:t.ov.map QaY=ol at*;generalize hll:t.links.map Qaz=ll at*;generalize htn:t.nodes=nodes at*;generalize hnsl:List.map Qaj yst=nsl at*;generalize List.map Qaj ost=osl at*;have hnb:∀i,InB (.sl bn 0 1 (List.map Qgw ads).length capn) i->i=bn:=λi hi=>Qeg hi
      have hbs:=hG.sep bn ⟨_,_,_,_,rfl⟩;have hbx:bx≠bn:=λe=>hbs.1 (by rw[<-e];exact hobm)
      generalize hnal:(List.map Qgw ads).length=nal at*;have hnal2:nal<=1000:=by rw[List.length_map]at hnal;omega
      simp only[plD]at hat
      conv=>cbv
      repeat' first|(intro(e:List D) he;cases osj (he.symm.trans hak);(conv=>cbv))|(refine Qag hhd rfl rfl ?_;conv=>cbv)|(refine QeA [0,1,2,3,4,5,6,7] hcall rfl rfl (by decide) (by repeat' first|exact trivial|refine And.intro ?_ ?_|rfl) rfl rfl ?_;rintro r hc' hv;obtain⟨m3,d3,v3,al3,S3,b,rfl,rfl,p3,hab,f3,hq,hb3,hs3,hss⟩:=hv;have hm3:=(f3.same bx hob).trans hat;have hmn3:=(f3.same bn hbs.2.1).trans hmn;simp only[HS,QoW,Qaf,Qak,hxl,hol,hll,htn];generalize hes3:msE K3 al3=es3;(conv=>cbv))|exact hok|(refine⟨N0,_,hx5,nle rfl,?_⟩;intro m6 hm6;(conv=>cbv))|(refine⟨N0,_,_,hx5,rfl,?_⟩;(conv=>cbv))|(refine⟨N0,_,hm4x,nle rfl,?_⟩;intro m5 hm5;have hx5:=Qbq hm5;obtain⟨Ny,yv,hyr,hy5⟩:=QtS hG hnd hdf hnd3 hck p3 hab f3 hq hb3 hs3 hg hm5;(conv=>cbv))|(refine⟨N0,_,_,hm3,rfl,?_⟩;(conv=>cbv))|(refine⟨Ny,yv,_,hyr,hy5,?_⟩;(conv=>cbv))|(refine⟨Nn,List.map Qgw ads,hmn3,rfl,hnal,hsn,hcn1,hcn2,(λ_=>⟨(λhq=>by cases hq),(show(nal+1)*8<=140737488355328 by omega)⟩),?_⟩;intro(b4:Nat) (N4:Nat) (cap4:Nat) (k4:Nat) (m4:Ar) hb4 hk4 hkc4 hcN4 hm4;have hg:=QqS (c:=capn) (e:=Qgw b) hsn rfl hnal hb4 hk4 hkc4 hcN4 hm4;have hm4x:=(hg.same bx (by rw[hm3];simp) (λe=>hbx (Qeg e))).trans hm3;(conv=>cbv))|exact gxQ|refine And.intro ?_ ?_|(intro hc;(first|rw[wS (by omega) (by omega)]at hc|rw[Qab]at hc|skip);try (conv=>cbv))
      rename_i w1 hw1 w2 hw2 i2;have hG':=QtR hG hnd hy hf hp3 hdf hnd3 ⟨hc0,hc1⟩ hck p3 hab f3 hq hb3 hs3 hss (by rw[List.map_append];exact hg) hm5 ⟨rfl,rfl,cnt,rfl⟩ (cnt':=w2) hm6 (by simp only[QjG];split<;>omega);subst hc;have nr:=λL' h'=>nrm L' h' m6 d3 v3 al3 S3 _ _ _ hG'
      simp only[hes3]at nr;refine nr _ _ ?_;exact(Wk.ca)
   ·have e:k=(g.ar s).length:=by omega
    have hj:=λL' h'=>jn L' h' ((k:Int),m2,d2,v2,msE K2 al2,false) (by
     subst e;exact⟨rfl,Nat.le_refl _,.inl ⟨rfl,K2,al2,S2,nx,ads,cnt,rfl,hG⟩⟩)
    clear jn norm hR;simp only[HS,QoW,lpH,lpL,Qaf,Qak,QaZ]at*;obtain⟨ka,hka⟩:∃ka:Int,(k:Int)=ka:=⟨_,rfl⟩;have hk0:0<=ka:=by omega
    simp only[hka]at hj |-;generalize hgar:g.ar s=ar at*;generalize List.map Qar ar=arl at*;generalize msE K2 al2=es at*;generalize List.map Qav xs=xl at*;generalize t.ov.map QaY=ol at*;generalize t.links.map Qaz=ll at*;generalize List.map Qaj nst=nsl at*;generalize List.map Qaj ost=osl at*
    conv=>cbv
    repeat' first|exact gxQ|refine And.intro ?_ ?_|(intro hc;(first|rw[wS (by omega) (by omega)]at hc|rw[Qab]at hc|skip);try (conv=>cbv))
    refine hj _ _ ?_;exact(Wk.ca)
  ·have hj:=λL' h'=>jn L' h' ((k:Int),m2,d2,v2,es2,true) ⟨rfl,Nat.le_refl _,.inr ⟨rfl,hB⟩⟩
   clear jn norm hR;simp only[HS,QoW,lpH,lpL,Qaf,Qak,QaZ]at*;generalize hgar:g.ar s=ar at*;obtain⟨ka,hka⟩:∃ka:Int,(k:Int)=ka:=⟨_,rfl⟩;have hk0:0<=ka:=by omega
   simp only[hka]at hj |-;generalize harl:List.map Qar ar=arl at*;generalize List.map Qav xs=xl at*;generalize t.ov.map QaY=ol at*;generalize t.links.map Qaz=ll at*;generalize List.map Qaj nst=nsl at*;generalize List.map Qaj ost=osl at*
   conv=>cbv
   repeat' first|(intro e he;obtain⟨x,hx,rfl⟩:=Qbc harl he;(conv=>cbv))|exact gxQ|refine And.intro ?_ ?_|(intro hc;(first|rw[wS (by omega) (by omega)]at hc|rw[Qab]at hc|skip);try (conv=>cbv))
   all_goals refine hj _ _ ?_
   all_goals exact(Wk.ca)
 ·rintro⟨i,m',d',v',es',lo⟩ he;exact hQ _ _ _ _ _ he
theorem QhR(m:Ar)(b:Nat)(x y:AB):mup (mup m b x) b y=mup m b y:=by
 funext i
 by_cases h:i=b
 ·rw[h,Qbg,Qbg]
 ·rw[Qaq h,Qaq h,Qaq h]
section
variable{g:Wlk}{m:Ar}{d:D}{K:Kn WSt}{al:List Nat}{S:Nat->Prop}{s:WSt}{bx N0:Nat}{f:Kn WSt->WSt->Option (Kn WSt)}{Pre:Kn WSt->Prop}
theorem Qi9{x0:List D}{m2 m4:Ar}{d2:D}{c0:Int}(h:Reg g m d K al S s bx N0 x0 m2 d2)(hl:al.length=K.length)(hpre:Pre (K++[(s,none)]))(hm:m4=mup m2 bx (.cs N0 (plD g s (.list true 1 []) true c0)))(hc:c0=if g.nx s=[]then 1 else 0):
    LpG g m d K al S s bx N0 f Pre 0 m4 d2 (K++[(s,none)]) (al++[bx]) S (.list true 1 []) [] c0:=by
  have h1:(K++[((s,none):WSt×Option Int)])[K.length]? =some (s,none):=by simp
  have h2:(al++[bx])[K.length]? =some bx:=by rw[<-hl];simp
  refine
    { pi:=h.pi.write h1 h2 hm rfl rfl (n:=c0) rfl
      ox:=⟨K.length,h1,h2⟩
      at_:=by rw[hm,Qbg]
      row:= .inl ⟨rfl,rfl⟩
      sep:=λi hi=>(Qa9 hi).elim
      ads:=⟨rfl,λi y a h=>by simp at h⟩
      fr:=h.fr.write λi hi=>by rw[hm,Qaq λe=>hi (by rw[e];exact .inl h.new)]
      nw:=⟨⟨_,rfl⟩,λb hb=> ?_,λi hi=> .inl hi,λi hi=>hi⟩
      nn:=λi hi=>(Qa9 hi).elim
      xn:= .inl h.new
      cn:=by rw[hc];split<;>omega
      pre:=hpre
      fin:=by rw[hc,List.drop_zero]}
  rcases List.mem_append.1 hb with hb|hb
  · exact .inl hb
  · simp at hb;rw[hb];exact .inr (.inl h.new)
theorem QqZ{m' m6:Ar}{d':D}{K2:Kn WSt}{al2:List Nat}{S2:Nat->Prop}{nx:D}{ads:List Nat}{cnt:Int}(t:Top)(xs:List Tab)(v:Nat)(h:LpG g m d K al S s bx N0 f Pre (g.ar s).length m' d' K2 al2 S2 nx ads cnt)(hnd:(K2.map (·.1)).Nodup)(hm6:m6=mup m' bx (.cs N0 (plD g s nx false cnt))):
  QCf g t xs m d al S s (QlL K2 s cnt) (.c (.d (.adr bx 0))) (HS t xs m6 d' v (msE K2 al2) false)/\QgK f (g.nx s) (K++[(s,none)]) (if g.nx s=[]then 1 else 0)=some (K2,cnt):=by
 have hl:(g.nx s).length=(g.ar s).length:=by rw[Wlk.nx,nxt,List.length_map]
 obtain⟨jx,h1,h2⟩:=h.ox;obtain⟨n1,n2,n3,n4⟩:=h.nw;refine⟨⟨m6,d',v,al2,_,bx,rfl,by rw[msE,msE,Qyv],h.pi.done hnd h1 h2 hm6 h.row (λi hi=>⟨(h.sep i hi).1,λe=>(h.sep i hi).2.1 (.inr e)⟩) ?_,⟨jx,?_,h2⟩,h.fr.write λi hi=> ?_,n1,n2,λi hi=> ?_,λi hi=> .inl (n4 i hi)⟩,?_⟩
 ·have:=h.ads;rw[tkQ (by omega)]at this;exact this
 ·rw[QhK,gtm,h1];rfl
 ·rw[hm6,Qaq λe=>hi (by rw[e];exact h.xn)]
 ·rcases hi with hi|hi|hi
  ·exact n3 i hi
  ·rw[hi];exact .inr h.xn
  ·exact .inr (h.nn i hi)
 ·have:=h.fin;rw[List.drop_eq_nil_of_le (by omega)]at this;exact this.symm
end
theorem QuX(P:Program)(hP:P=Tryz.prog)(t:Top)(xs:List Tab)(p:Pkt)(g:Wlk)(m:Ar)(d:D)(v:Nat)(K:Kn WSt)(al:List Nat)(S:Nat->Prop)(s:WSt)(hp:Int)(hT:Qbt m)(hs:NmOK s)(hI:PI g m K al S d)
 (hTn:¬New m d 0)(hlen:al.length<=1000)(hk:lkK K s=none)(hnd:(K.map (·.1)).Nodup){x:Tab}{nst:List Seg}{nhp:Int}(hst:StpW P t xs p g s x nst nhp)
 {f:Kn WSt->WSt->Option (Kn WSt)}{Pre:Kn WSt->Prop}(hR:RecR P t xs p g s nst nhp f Pre)(hpre:Pre (K++[(s,none)])):
  FnS P QaL ([iA s.1,Qcr {p with stack:=s.2,hops:=hp}]++Qhv) (HS t xs m d v (msE K al) false) λr h'=>∃h0 tl,h'=h0++tl/\QxG g t xs m d al S s (match QgK f (g.nx s) (K++[(s,none)]) (if g.nx s=[]then 1 else 0)with
   |none=>none
   |some (K',c)=>some (QlL K' s c)) r h0:=by
 have hno:∀i v,sfind (QvW s) (msS K al) 0≠some (i,v):=by
  intro i v h;obtain⟨c,b,h1,_⟩:=Qq1 h;rw[Qle hnd h1]at hk;cases hk
 have hnm:=QtZ P hP m hT s.1 s.2 hs.n hs.l hs.i;obtain⟨e1,e2,hstep,-,-,harl⟩:=hst;have hloop:=λbx N0 Λ Λo m0 d0 v0 es0=>QsC P hP t xs p g m d K al S s bx N0 f Pre nst nhp hR hT hTn Λ Λo m0 d0 v0 es0 s.2
 have hRn:=hR.nd;clear hR;refine QaW (hP▸mixed) (hP▸Qcj) (hP▸Qfe) (nle rfl) λΛ Λo Q hQ=> ?_
 clear hP;have hfin:=λr h0 (h:QxG g t xs m d al S s (match QgK f (g.nx s) (K++[(s,none)]) (if g.nx s=[]then 1 else 0)with
   |none=>none
   |some (K',c)=>some (QlL K' s c)) r h0)=>hQ r h0 ⟨h0,[],by simp,h⟩
 clear hQ;generalize hdo:QgK f (g.nx s) (K++[(s,none)]) (if g.nx s=[]then 1 else 0)=o at hfin;obtain⟨n,st⟩:=s;obtain⟨id,src,dst,flow,st0,hops⟩:=p;simp only at*;have hxl:(List.map Qav xs)[n.toNat]? =some (Qav x):=by rw[gtm,e1];rfl
 have hxn:n<(xs.length:Int):=by have:=Qaa e1;omega
 generalize hgar:g.ar (n,st)=ar at*;generalize hgrs:g.rs (n,st)=rs at*;obtain⟨nodes,ov,links⟩:=t;obtain⟨xnode,xto,xdown⟩:=x;simp only[HS,QoW,lpH,lpL,List.cons_append,List.nil_append,msE,Qcr,Qjc,QaF,Qhv,QcI,QaZ,Qaf,Qak,Qfa,Qax,Qao,QvW,Qav]at*;generalize hkey:nameS n (List.map pr2 st)=key at*;generalize hesh:msS K al=ms at*;generalize hese:ms.map QiR=es at*;generalize List.map Qaj st=sl at*;generalize List.map Qaj nst=nsl at*;generalize hxlh:xs.map Qav=xl at*;have hΛx:Λ xl=xs.length:=by rw[Λo,<-hxlh];simp
 generalize hol:ov.map QaY=ol at*;generalize hll:links.map Qaz=ll at*;generalize List.map Qay xto=tol at*;generalize List.map Qar xdown=dol at*;generalize harlh:List.map Qar ar=arl at*;have hΛa:Λ arl=ar.length:=by rw[Λo,<-harlh];simp
 have hes1:∀bx es',(ms++[(key,DV.s (.adr bx 0))]).map QiR=es'->es'=msE (K++[((n,st),none)]) (al++[bx]):=λbx es' h=>by rw[<-h,<-hesh,msE,Qv9 hI.len,<-hkey]
 rcases hI.row with ⟨hd,hal⟩|⟨bd,Nd,capd,hd,hmd,hsd,hc1,hc2⟩
 ·rw[hd]
  conv=>cbv
  repeat' first|(left;intro(_:Unit);(conv=>cbv))|(refine QaH [0] hnm ?_;rintro r hc' ⟨rfl,rfl⟩;(conv=>cbv))|(refine Qnw hese (λh0=>unstp ?_) (λi v hv=>absurd hv (hno i v)))|exact gxQ|refine And.intro ?_ ?_|(intro hc;(first|rw[wS (by omega) (by omega)]at hc|rw[Qab]at hc|skip);try (conv=>cbv))
  refine stp ?_
  conv=>cbv
  repeat' first|(right;intro(_:Unit);refine unstp ?_)|exact gxQ|refine And.intro ?_ ?_|(intro hc;(first|rw[wS (by omega) (by omega)]at hc|rw[Qab]at hc|skip);try (conv=>cbv))
  refine stp ?_;intro(bx:Nat) (N0:Nat) (m1:Ar) hbx hN0 hm1
  conv=>cbv
  repeat' first|(refine Qrq hese (λh0 es' he'=> ?_) (λi3 v3 hv3=>absurd hv3 (hno i3 v3));have hesn:=hes1 bx es' he';(conv=>cbv))|(right;intro(_:Unit);refine And.intro (λ_=>⟨(λhq=>by cases hq),nle rfl⟩) (unstp ?_))|exact gxQ|refine And.intro ?_ ?_|(intro hc;(first|rw[wS (by omega) (by omega)]at hc|rw[Qab]at hc|skip);try (conv=>cbv))
  refine stp ?_;intro(bd2:Nat) (Nd2:Nat) (capd2:Nat) (kd2:Nat) (m2:Ar) hb2 hk2 hkc2 hcN2 hm2;have hR:=Qug (s:=(n,st)) hI hd hal hbx hm1 ⟨rfl,rfl,0,rfl⟩ rfl hb2 hk2 hkc2 hcN2 hm2;clear hm1 hm2 hb2 hk2 hkc2 hcN2;have hx2:=hR.at_
  conv=>cbv
  repeat' first|(left;intro(_:Unit);(conv=>cbv))|(intro(e:List D) he;cases osj (he.symm.trans hxl);(conv=>cbv))|(refine Qag hstep rfl rfl ?_;conv=>cbv)|(refine⟨N0,_,hx3,nle rfl,?_⟩;intro m4 hm4;have hx4:=Qbq hm4;(conv=>cbv))|(refine⟨N0,_,hx2,nle rfl,?_⟩;intro m3 hm3;have hx3:=Qbq hm3;(conv=>cbv))|(refine⟨N0,_,_,hx4,rfl,?_⟩;(conv=>cbv))|(refine⟨N0,_,hx4,nle rfl,?_⟩;intro m5 hm5;have hx5:=Qbq hm5;(conv=>cbv))|(refine⟨N0,_,_,hx5,rfl,?_⟩;(conv=>cbv))|exact gxQ|refine And.intro ?_ ?_|(intro hc;(first|rw[wS (by omega) (by omega)]at hc|rw[Qab]at hc|skip);try (conv=>cbv))
  ·have h0:ar=[]:=lzQ (by omega);have hnx:g.nx (n,st)=[]:=by rw[Wlk.nx,nxt,hgar,h0];rfl
   have hst:=Qi9 (Pre:=Pre) (f:=f) (m4:=m5) (c0:=1) hR hI.len hpre (by rw[hm5,hm4,hm3,QhR,QhR];simp only[plD,hgrs,hgar,harlh];rfl) (by rw[if_pos hnx]);refine hloop bx N0 Λ Λo m5 (.sl bd2 0 1 kd2 capd2) (v+1) es' ⟨rfl,Nat.zero_le _,.inl ⟨rfl,_,_,_,_,_,_,hesn,hst⟩⟩ _ _ _ (Wk.ca) ?_
   ·intro m' d' v' es2 lo ⟨_,_,hL⟩;rcases hL with ⟨hlo,K2,al2,S2,nx,ads,cnt,hes2,hG⟩|⟨hlo,hB⟩
    ·simp only at hlo hes2 hG;subst hlo hgar;have hat:=hG.at_;simp only[plD]at hat
     conv=>cbv
     repeat' first|(refine⟨N0,_,hat,nle rfl,?_⟩;intro m6 hm6;(conv=>cbv))|exact gxQ|refine And.intro ?_ ?_|(intro hc;(first|rw[wS (by omega) (by omega)]at hc|rw[Qab]at hc|skip);try (conv=>cbv))
     obtain⟨hv,he⟩:=QqZ ⟨nodes,ov,links⟩ xs v' hG (hRn K2 hG.pre).1 (m6:=m6) hm6;obtain rfl:some (K2,cnt)=o:=he.symm.trans hdo;subst hes2 hxlh hol hll;exact hfin _ _ hv
    ·simp only at hlo hB;subst hlo;obtain⟨he,hfr,hnw,ys,cn,hat,hyl,hy5⟩:=hB
     conv=>cbv
     repeat' first|(refine⟨N0,_,hat,(by rw[hyl];exact nle rfl),?_⟩;intro m6 hm6;(conv=>cbv))|exact gxQ|refine And.intro ?_ ?_|(intro hc;(first|rw[wS (by omega) (by omega)]at hc|rw[Qab]at hc|skip);try (conv=>cbv))
     obtain rfl:none=o:=he.symm.trans hdo;subst hxlh hol hll;refine hfin _ _ ⟨m6,d',v',es2,bx,N0,_,cn,rfl,rfl,Qbq hm6,?_,?_,.inr hnw,hfr.write λi hi=>Qki hm6 λe=>hi (by rw[e];exact hnw)⟩
     ·simp[hyl]
     ·rw[<-hy5]
      match ys,hyl with
      |[y0,y1,y2,y3,y4,y5],_=>rfl
  ·have hnx:g.nx (n,st)≠[]:=by
    rw[Wlk.nx,nxt,hgar];intro e;have:ar.length=0:=by simpa using congrArg List.length e
    omega
   have hst:=Qi9 (Pre:=Pre) (f:=f) (m4:=m4) (c0:=0) hR hI.len hpre (by rw[hm4,hm3,QhR];simp only[plD,hgrs,hgar,harlh];rfl) (by rw[if_neg hnx]);refine hloop bx N0 Λ Λo m4 (.sl bd2 0 1 kd2 capd2) (v+1) es' ⟨rfl,Nat.zero_le _,.inl ⟨rfl,_,_,_,_,_,_,hesn,hst⟩⟩ _ _ _ (Wk.ca) ?_
   ·intro m' d' v' es2 lo ⟨_,_,hL⟩;rcases hL with ⟨hlo,K2,al2,S2,nx,ads,cnt,hes2,hG⟩|⟨hlo,hB⟩
    ·simp only at hlo hes2 hG;subst hlo hgar;have hat:=hG.at_;simp only[plD]at hat
     conv=>cbv
     repeat' first|(refine⟨N0,_,hat,nle rfl,?_⟩;intro m6 hm6;(conv=>cbv))|exact gxQ|refine And.intro ?_ ?_|(intro hc;(first|rw[wS (by omega) (by omega)]at hc|rw[Qab]at hc|skip);try (conv=>cbv))
     obtain⟨hv,he⟩:=QqZ ⟨nodes,ov,links⟩ xs v' hG (hRn K2 hG.pre).1 (m6:=m6) hm6;obtain rfl:some (K2,cnt)=o:=he.symm.trans hdo;subst hes2 hxlh hol hll;exact hfin _ _ hv
    ·simp only at hlo hB;subst hlo;obtain⟨he,hfr,hnw,ys,cn,hat,hyl,hy5⟩:=hB
     conv=>cbv
     repeat' first|(refine⟨N0,_,hat,(by rw[hyl];exact nle rfl),?_⟩;intro m6 hm6;(conv=>cbv))|exact gxQ|refine And.intro ?_ ?_|(intro hc;(first|rw[wS (by omega) (by omega)]at hc|rw[Qab]at hc|skip);try (conv=>cbv))
     obtain rfl:none=o:=he.symm.trans hdo;subst hxlh hol hll;refine hfin _ _ ⟨m6,d',v',es2,bx,N0,_,cn,rfl,rfl,Qbq hm6,?_,?_,.inr hnw,hfr.write λi hi=>Qki hm6 λe=>hi (by rw[e];exact hnw)⟩
     ·simp[hyl]
     ·rw[<-hy5]
      match ys,hyl with
      |[y0,y1,y2,y3,y4,y5],_=>rfl
 ·generalize hnal:(List.map Qgw al).length=nal at*;rw[hd]
  conv=>cbv
  repeat' first|(left;intro(_:Unit);(conv=>cbv))|(refine QaH [0] hnm ?_;rintro r hc' ⟨rfl,rfl⟩;(conv=>cbv))|(refine Qnw hese (λh0=>unstp ?_) (λi v hv=>absurd hv (hno i v)))|exact gxQ|refine And.intro ?_ ?_|(intro hc;(first|rw[wS (by omega) (by omega)]at hc|rw[Qab]at hc|skip);try (conv=>cbv))
  refine stp ?_
  conv=>cbv
  repeat' first|(right;intro(_:Unit);refine unstp ?_)|exact gxQ|refine And.intro ?_ ?_|(intro hc;(first|rw[wS (by omega) (by omega)]at hc|rw[Qab]at hc|skip);try (conv=>cbv))
  refine stp ?_;intro(bx:Nat) (N0:Nat) (m1:Ar) hbx hN0 hm1;have hbd:bd≠bx:=λe=>by rw[e,hbx]at hmd;cases hmd
  have hmd1:=(Qki hm1 hbd).trans hmd
  conv=>cbv
  repeat' first|(refine Qrq hese (λh0 es' he'=> ?_) (λi3 v3 hv3=>absurd hv3 (hno i3 v3));have hesn:=hes1 bx es' he';(conv=>cbv))|(refine⟨Nd,List.map Qgw al,hmd1,rfl,hnal,hsd,hc1,hc2,(λ_=>⟨(λhq=>by cases hq),?_⟩),unstp ?_⟩)|exact gxQ|refine And.intro ?_ ?_|(intro hc;(first|rw[wS (by omega) (by omega)]at hc|rw[Qab]at hc|skip);try (conv=>cbv))
  ·rw[List.length_map]at hnal;show(nal+1)*8<=140737488355328;omega
  refine stp ?_;intro(bd2:Nat) (Nd2:Nat) (capd2:Nat) (kd2:Nat) (m2:Ar) hb2 hk2 hkc2 hcN2 hm2;have hR:=Qwq (s:=(n,st)) hI hd hnal hsd (by rw[hmd];simp) hbx hm1 ⟨rfl,rfl,0,rfl⟩ rfl hb2 hk2 hkc2 hcN2 hm2;clear hm1 hm2 hb2 hk2 hkc2 hcN2;have hx2:=hR.at_
  conv=>cbv
  repeat' first|(left;intro(_:Unit);(conv=>cbv))|(intro(e:List D) he;cases osj (he.symm.trans hxl);(conv=>cbv))|(refine Qag hstep rfl rfl ?_;conv=>cbv)|(refine⟨N0,_,hx3,nle rfl,?_⟩;intro m4 hm4;have hx4:=Qbq hm4;(conv=>cbv))|(refine⟨N0,_,hx2,nle rfl,?_⟩;intro m3 hm3;have hx3:=Qbq hm3;(conv=>cbv))|(refine⟨N0,_,_,hx4,rfl,?_⟩;(conv=>cbv))|(refine⟨N0,_,hx4,nle rfl,?_⟩;intro m5 hm5;have hx5:=Qbq hm5;(conv=>cbv))|(refine⟨N0,_,_,hx5,rfl,?_⟩;(conv=>cbv))|exact gxQ|refine And.intro ?_ ?_|(intro hc;(first|rw[wS (by omega) (by omega)]at hc|rw[Qab]at hc|skip);try (conv=>cbv))
  ·have h0:ar=[]:=lzQ (by omega);have hnx:g.nx (n,st)=[]:=by rw[Wlk.nx,nxt,hgar,h0];rfl
   have hst:=Qi9 (Pre:=Pre) (f:=f) (m4:=m5) (c0:=1) hR hI.len hpre (by rw[hm5,hm4,hm3,QhR,QhR];simp only[plD,hgrs,hgar,harlh];rfl) (by rw[if_pos hnx]);refine hloop bx N0 Λ Λo m5 (.sl bd2 0 1 kd2 capd2) (v+1) es' ⟨rfl,Nat.zero_le _,.inl ⟨rfl,_,_,_,_,_,_,hesn,hst⟩⟩ _ _ _ (Wk.ca) ?_
   ·intro m' d' v' es2 lo ⟨_,_,hL⟩;rcases hL with ⟨hlo,K2,al2,S2,nx,ads,cnt,hes2,hG⟩|⟨hlo,hB⟩
    ·simp only at hlo hes2 hG;subst hlo hgar;have hat:=hG.at_;simp only[plD]at hat
     conv=>cbv
     repeat' first|(refine⟨N0,_,hat,nle rfl,?_⟩;intro m6 hm6;(conv=>cbv))|exact gxQ|refine And.intro ?_ ?_|(intro hc;(first|rw[wS (by omega) (by omega)]at hc|rw[Qab]at hc|skip);try (conv=>cbv))
     obtain⟨hv,he⟩:=QqZ ⟨nodes,ov,links⟩ xs v' hG (hRn K2 hG.pre).1 (m6:=m6) hm6;obtain rfl:some (K2,cnt)=o:=he.symm.trans hdo;subst hes2 hxlh hol hll;exact hfin _ _ hv
    ·simp only at hlo hB;subst hlo;obtain⟨he,hfr,hnw,ys,cn,hat,hyl,hy5⟩:=hB
     conv=>cbv
     repeat' first|(refine⟨N0,_,hat,(by rw[hyl];exact nle rfl),?_⟩;intro m6 hm6;(conv=>cbv))|exact gxQ|refine And.intro ?_ ?_|(intro hc;(first|rw[wS (by omega) (by omega)]at hc|rw[Qab]at hc|skip);try (conv=>cbv))
     obtain rfl:none=o:=he.symm.trans hdo;subst hxlh hol hll;refine hfin _ _ ⟨m6,d',v',es2,bx,N0,_,cn,rfl,rfl,Qbq hm6,?_,?_,.inr hnw,hfr.write λi hi=>Qki hm6 λe=>hi (by rw[e];exact hnw)⟩
     ·simp[hyl]
     ·rw[<-hy5]
      match ys,hyl with
      |[y0,y1,y2,y3,y4,y5],_=>rfl
  ·have hnx:g.nx (n,st)≠[]:=by
    rw[Wlk.nx,nxt,hgar];intro e;have:ar.length=0:=by simpa using congrArg List.length e
    omega
   have hst:=Qi9 (Pre:=Pre) (f:=f) (m4:=m4) (c0:=0) hR hI.len hpre (by rw[hm4,hm3,QhR];simp only[plD,hgrs,hgar,harlh];rfl) (by rw[if_neg hnx]);refine hloop bx N0 Λ Λo m4 (.sl bd2 0 1 kd2 capd2) (v+1) es' ⟨rfl,Nat.zero_le _,.inl ⟨rfl,_,_,_,_,_,_,hesn,hst⟩⟩ _ _ _ (Wk.ca) ?_
   ·intro m' d' v' es2 lo ⟨_,_,hL⟩;rcases hL with ⟨hlo,K2,al2,S2,nx,ads,cnt,hes2,hG⟩|⟨hlo,hB⟩
    ·simp only at hlo hes2 hG;subst hlo hgar;have hat:=hG.at_;simp only[plD]at hat
     conv=>cbv
     repeat' first|(refine⟨N0,_,hat,nle rfl,?_⟩;intro m6 hm6;(conv=>cbv))|exact gxQ|refine And.intro ?_ ?_|(intro hc;(first|rw[wS (by omega) (by omega)]at hc|rw[Qab]at hc|skip);try (conv=>cbv))
     obtain⟨hv,he⟩:=QqZ ⟨nodes,ov,links⟩ xs v' hG (hRn K2 hG.pre).1 (m6:=m6) hm6;obtain rfl:some (K2,cnt)=o:=he.symm.trans hdo;subst hes2 hxlh hol hll;exact hfin _ _ hv
    ·simp only at hlo hB;subst hlo;obtain⟨he,hfr,hnw,ys,cn,hat,hyl,hy5⟩:=hB
     conv=>cbv
     repeat' first|(refine⟨N0,_,hat,(by rw[hyl];exact nle rfl),?_⟩;intro m6 hm6;(conv=>cbv))|exact gxQ|refine And.intro ?_ ?_|(intro hc;(first|rw[wS (by omega) (by omega)]at hc|rw[Qab]at hc|skip);try (conv=>cbv))
     obtain rfl:none=o:=he.symm.trans hdo;subst hxlh hol hll;refine hfin _ _ ⟨m6,d',v',es2,bx,N0,_,cn,rfl,rfl,Qbq hm6,?_,?_,.inr hnw,hfr.write λi hi=>Qki hm6 λe=>hi (by rw[e];exact hnw)⟩
     ·simp[hyl]
     ·rw[<-hy5]
      match ys,hyl with
      |[y0,y1,y2,y3,y4,y5],_=>rfl
structure UOK (P:Program) (t:Top) (xs:List Tab) (p:Pkt) (g:Wlk) (U:List WSt):Prop where
 len:U.length<=1000
 nm:∀s∈U,NmOK s
 st:∀s∈U,∃x nst nhp,StpW P t xs p g s x nst nhp
 cl:∀s∈U,∀y∈g.nx s,y∈U
structure PreN (g:Wlk) (U:List WSt) (n:Nat) (K:Kn WSt):Prop where
 dn:Done g.nx K
 nd:(K.map (·.1)).Nodup
 sub:∀x∈K.map (·.1),x∈U
 fuel:U.length<=K.length+n
theorem PreN.len{g:Wlk}{U:List WSt}{n:Nat}{K:Kn WSt}(h:PreN g U n K):K.length<=U.length:=by
 have:=h.nd.length_le_of_subset h.sub;simpa using this
theorem QxU{n:Nat}:0<=QjG n/\QjG n<=1001:=by
 simp only[QjG];split<;>omega
theorem Qtf{nx:WSt->List WSt}{K:Kn WSt}{s:WSt}(h:Done nx K)(hs:lkK K s=none):Done nx (K++[(s,none)]):=by
 intro x c hx;rw[Qfk]at hx;cases hk:lkK K x with
 |none=>
  rw[hk]at hx;simp only[lkK]at hx;split at hx<;>cases hx
 |some c1=>
  rw[hk]at hx;cases hx;obtain⟨h1,h2⟩:=h x c hk;refine⟨h1,λy hy=> ?_⟩;obtain⟨c',e⟩:=h2 y hy;exact⟨c',by rw[Qfk,e]⟩
theorem QwW(P:Program)(hP:P=Tryz.prog)(t:Top)(xs:List Tab)(p:Pkt)(g:Wlk)(U:List WSt)(hU:UOK P t xs p g U):∀(n:Nat) (s:WSt),s∈U->∀(hp:Int) (m:Ar) (d:D) (v:Nat) (K:Kn WSt) (al:List Nat) (S:Nat->Prop),Qbt m->¬New m d 0->PI g m K al S d->PreN g U n K->
    FnS P QaL ([iA s.1,Qcr {p with stack:=s.2,hops:=hp}]++Qhv) (HS t xs m d v (msE K al) false) (QxG g t xs m d al S s (dfs g.nx n K s)):=by
  intro n;induction n with
  |zero=>
    intro s hs hp m d v K al S hT hTn hI hK;cases hk:lkK K s with
    |some c=>
      cases c with
      |some k=>
        have e:dfs g.nx 0 K s=some K:=by simp only[dfs,hk]
        rw[e];exact Qd2 P hP t xs p g m d v K al S s hp hT (hU.nm s hs) hI hK.nd (some k) hk
      |none=>
        have e:dfs g.nx 0 K s=none:=by simp only[dfs,hk]
        rw[e];exact Qd2 P hP t xs p g m d v K al S s hp hT (hU.nm s hs) hI hK.nd none hk
    |none=>
      exfalso;have h1:(K.map (·.1)++[s]).Nodup:=by
        rw[List.nodup_append];refine⟨hK.nd,by simp,λx hx y hy e=> ?_⟩;simp at hy;rw[e,hy]at hx;exact QhP.1 hk hx
      have h2:=h1.length_le_of_subset (l₂:=U) λx hx=>by
        rcases List.mem_append.1 hx with hx|hx
        · exact hK.sub x hx
        · simp at hx;rw[hx];exact hs
      rw[List.length_append,List.length_map]at h2;have:=hK.fuel;simp at h2;omega
  |succ n ih=>
    intro s hs hp m d v K al S hT hTn hI hK;cases hk:lkK K s with
    |some c=>
      cases c with
      |some k=>
        have e:dfs g.nx (n+1) K s=some K:=by simp only[dfs,hk]
        rw[e];exact Qd2 P hP t xs p g m d v K al S s hp hT (hU.nm s hs) hI hK.nd (some k) hk
      |none=>
        have e:dfs g.nx (n+1) K s=none:=by simp only[dfs,hk]
        rw[e];exact Qd2 P hP t xs p g m d v K al S s hp hT (hU.nm s hs) hI hK.nd none hk
    |none=>
      obtain⟨x,nst,nhp,hst⟩:=hU.st s hs;have hl:=hK.len;have hR:RecR P t xs p g s nst nhp (dfs g.nx n) (PreN g U n):=
        { hd:=hst.hd
          to_:=hst.tos
          len:=hst.len
          nd:=λK2 h2=>⟨h2.nd,by have:=h2.len;have:=hU.len;omega⟩
          call:=λy hy m2 d2 v2 K2 al2 S2 hT2 hI2 hK2 hTn2=>ih y (hU.cl s hs y hy) nhp m2 d2 v2 K2 al2 S2 hT2 hTn2 hI2 hK2
          law:=λy hy K2 K3 hK2 hd=>by
            obtain⟨h1,c,h2⟩:=QmD hK2.dn hd;have h3:=QjJ hK2.nd hd;obtain⟨nw,hnw⟩:=h1.pre;have hlen:K2.length<=K3.length:=by
              have:=congrArg List.length hnw;simp at this;omega
            refine⟨⟨h1.dn,h3,?_,by have:=hK2.fuel;omega⟩,h1,h3,c,?_⟩
            · exact Qxa (U:=(·∈U)) hU.cl hK2.sub (hU.cl s hs y hy) hd
            · obtain⟨⟨k,_,e⟩,_⟩:=h1.dn y c h2
              have:=QxU (n:=num g.nx k y);rw[<-e]at this;exact⟨this.1,this.2,h2⟩}
      have hpre:PreN g U n (K++[(s,none)]):=by
        refine⟨Qtf hK.dn hk,?_,λy hy=> ?_,by have:=hK.fuel;simp;omega⟩
        · rw[List.map_append,List.nodup_append]
          refine⟨hK.nd,by simp,λx hx y hy e=> ?_⟩;simp at hy;rw[e,hy]at hx;exact QhP.1 hk hx
        · rw[List.map_append]at hy
          rcases List.mem_append.1 hy with hy|hy
          · exact hK.sub y hy
          · simp at hy;rw[hy];exact hs
      have h:=QuW (QuX P hP t xs p g m d v K al S s hp hT (hU.nm s hs) hI hTn (by rw[hI.len];have:=hU.len;omega) hk hK.nd hst hR hpre);have e:dfs g.nx (n+1) K s=(match QgK (dfs g.nx n) (g.nx s) (K++[(s,none)]) (if g.nx s=[]then 1 else 0)with
        |none=>none
        |some (K',c)=>some (QlL K' s c)):=by
        simp only[dfs,hk];generalize QgK (dfs g.nx n) (g.nx s) (K++[(s,none)]) (if g.nx s=[]then 1 else 0)=r;cases r<;>rfl
      rw[e];exact h
theorem QAE(g:Wlk)(m:Ar):PI g m [] [] (λ_=>False) (.list true 1 [])where
 len:=rfl
 nd:=by simp
 row:= .inl ⟨rfl,rfl⟩
 rowS b hb:=(Qa9 hb).elim
 inm b hb:=by cases hb
 sm b hb:=hb.elim
 pl j s k b h:=by simp at h
 op j s b h:=by simp at h
def QiF(g:Wlk)(m:Ar)(s:WSt)(n:Nat)(e:Int)(r:AV)(m':Ar):Prop:=
 if e=0 then (match dfs g.nx n [] s with
  |some K=>∃d al S a,r= .tup [.c (.d (.adr a 0)),.c (.d d),iA 0]/\PI g m' K al S d/\Qny K al s a/\Fr m (.list true 1 []) m' d
  |none=>r= .tup [.c (.d .nilp),.c (.d (.list true 1 [])),iA 16]/\∃d,Fr m (.list true 1 []) m' d)
 else r= .tup [.c (.d .nilp),.c (.d (.list true 1 [])),iA e]/\m'=m
theorem Qh0(P:Program)(hP:P=Tryz.prog)(t:Top)(xs:List Tab)(p:Pkt)(from_:Int)(g:Wlk)(U:List WSt)(m:Ar)(hT:Qbt m)(hU:QaO t xs from_=0->UOK P t xs p g U/\(from_,p.stack)∈U):
  FnS P QeP [QaF t,Qcy xs,Qcr p,iA from_] [.am m] λr h'=>∃m' tl,h'= .am m'::tl/\QiF g m (from_,p.stack) U.length (QaO t xs from_) r m':=by
 have hck:=QuZ P hP t xs from_;have hok:FnOk P QaL:=⟨_,hP▸Qcj,rfl,by decide⟩;have hvis:=λ(h:QaO t xs from_=0)=>QwW P hP t xs p g U (hU h).1 U.length (from_,p.stack) (hU h).2 p.hops m (.list true 1 []) 0 [] [] (λ_=>False) hT (λe=>by
  rcases e with e|e
  ·rw[Qbt]at hT;rw[hT]at e;cases e
  ·exact Qa9 e) (QAE g m) ⟨λx c h=>(by cases h),by simp,by simp,by simp⟩
 refine QaW (hP▸mixed) (hP▸Qlb) (hP▸Qmu) (nle rfl) λΛ Λo Q hQ=> ?_
 clear hP hU;have fin:∀r m' tl,QiF g m (from_,p.stack) U.length (QaO t xs from_) r m'->Q r (.am m'::tl):=λr m' tl h=>hQ r _ ⟨m',tl,rfl,h⟩
 clear hQ;by_cases h0:QaO t xs from_=0
 ·have hvis:=hvis h0;rw[h0]at hck fin;simp only[QiF,if_true]at fin;cases hd:dfs g.nx U.length [] (from_,p.stack)with
  |some K=>
   rw[hd]at hvis fin;simp only at fin;have fin:=λm' tl d al S a (h1:PI g m' K al S d) (h2:Qny K al (from_,p.stack) a) (h3:Fr m (.list true 1 []) m' d)=>fin (.tup [.c (.d (.adr a 0)),.c (.d d),iA 0]) m' tl ⟨d,al,S,a,rfl,h1,h2,h3⟩
   generalize hst:(from_,p.stack)=st at*;obtain⟨id,src,dst,flow,st0,hops⟩:=p;simp only[<-hst,HS,QoW,msE,msS,QaF,Qcy,Qcr,Qhv,QaZ,Qaf,Qak,List.zip_nil_left,List.map_nil,List.cons_append,List.nil_append]at hvis hck |-;generalize hxl:List.map Qav xs=xl at*;generalize hol:t.ov.map QaY=ol at*;generalize hll:t.links.map Qaz=ll at*;generalize htn:t.nodes=nodes at*;generalize List.map Qaj st0=sl at*
   conv=>cbv
   repeat' first|(left;intro(_:Unit);(conv=>cbv))|(refine Qag hck rfl rfl ?_;conv=>cbv)|exact hok|(refine QeA [0,1,2,4,5,6,7,8] hvis rfl rfl (by decide) (by repeat' first|exact trivial|refine And.intro ?_ ?_|rfl) rfl rfl ?_;rintro r hc' hv;obtain⟨m3,d3,v3,al3,S3,b,rfl,rfl,p3,hab,f3,-⟩:=hv;simp only[HS,QoW,Qaf,Qak,hxl,hol,hll,htn];generalize msE K al3=es3;(conv=>cbv))|exact gxQ|refine And.intro ?_ ?_|(intro hc;(first|rw[wS (by omega) (by omega)]at hc|rw[Qab]at hc|skip);try (conv=>cbv))
   exact fin _ _ _ _ _ _ p3 (by rw[<-hst];exact hab) f3
  |none=>
   rw[hd]at hvis fin;simp only at fin;have fin:=λm' tl d (h1:Fr m (.list true 1 []) m' d)=>fin (.tup [.c (.d .nilp),.c (.d (.list true 1 [])),iA 16]) m' tl ⟨rfl,d,h1⟩
   generalize hst:(from_,p.stack)=st at*;obtain⟨id,src,dst,flow,st0,hops⟩:=p;simp only[<-hst,HS,QoW,msE,msS,QaF,Qcy,Qcr,Qhv,QaZ,Qaf,Qak,List.zip_nil_left,List.map_nil,List.cons_append,List.nil_append]at hvis hck |-;generalize hxl:List.map Qav xs=xl at*;generalize hol:t.ov.map QaY=ol at*;generalize hll:t.links.map Qaz=ll at*;generalize htn:t.nodes=nodes at*;generalize List.map Qaj st0=sl at*
   conv=>cbv
   repeat' first|(left;intro(_:Unit);(conv=>cbv))|(refine Qag hck rfl rfl ?_;conv=>cbv)|exact hok|(refine QeA [0,1,2,4,5,6,7,8] hvis rfl rfl (by decide) (by repeat' first|exact trivial|refine And.intro ?_ ?_|rfl) rfl rfl ?_;rintro r hc' hv;obtain⟨m3,d3,v3,es3,b,N3,y3,n3,rfl,rfl,-,-,-,-,f3⟩:=hv;simp only[HS,QoW,Qaf,Qak,hxl,hol,hll,htn];(conv=>cbv))|exact gxQ|refine And.intro ?_ ?_|(intro hc;(first|rw[wS (by omega) (by omega)]at hc|rw[Qab]at hc|skip);try (conv=>cbv))
   exact fin _ _ _ f3
 ·simp only[QiF,if_neg h0]at fin;have fin:=λtl=>fin (.tup [.c (.d .nilp),.c (.d (.list true 1 [])),iA (QaO t xs from_)]) m tl ⟨rfl,rfl⟩
  clear hvis;generalize QaO t xs from_=e at*;obtain⟨id,src,dst,flow,st0,hops⟩:=p;simp only[QaF,Qcy,Qcr,QaZ,Qaf,Qak]at hck |-;generalize hxl:List.map Qav xs=xl at*;generalize hol:t.ov.map QaY=ol at*;generalize hll:t.links.map Qaz=ll at*;generalize htn:t.nodes=nodes at*;generalize List.map Qaj st0=sl at*
  conv=>cbv
  repeat' first|(left;intro(_:Unit);(conv=>cbv))|(refine Qag hck rfl rfl ?_;conv=>cbv)|exact gxQ|refine And.intro ?_ ?_|(intro hc;(first|rw[wS (by omega) (by omega)]at hc|rw[Qab]at hc|skip);try (conv=>cbv))
  exact fin _
abbrev Quq (r:Rsl):AV:= .agg [.d (iD r.node),.d (iD r.rs),.d (Qax r.path)]
def QCH(g:Wlk)(q:WSt×List Int):Rsl:=⟨q.1.1,g.rs q.1,q.2⟩
def brR(g:Wlk)(n:Nat)(x:WSt)(p:List Int):List Rsl:=(brs g.ar g.to n x p).map (QCH g)
def PT(g:Wlk)(O:Nat->Prop)(m:Ar):Nat->WSt->Nat->Prop
 |0,x,a=>¬O a/\g.ar x=[]/\∃(N:Nat) (nx:D) (c:Int),m a=some (.cs N (plD g x nx false c))
 |n+1,x,a=>¬O a/\∃(N:Nat) (nx:D) (c:Int) (ads:List Nat),m a=some (.cs N (plD g x nx false c))/\Qdg 1 m nx (ads.map Qgw)/\(∀b,InB nx b->¬O b)/\ads.length=(g.ar x).length/\
   ∀(i:Nat) (e:Int) (b:Nat),(g.ar x)[i]? =some e->ads[i]? =some b->PT g O m n (g.to x e) b
theorem PT.keep{g:Wlk}{O O':Nat->Prop}{m m':Ar}(hm:∀b,m b≠none->¬O b->m' b=m b)(hO:∀b,O' b->O b\/m b=none):∀{n:Nat} {x:WSt} {a:Nat},PT g O m n x a->PT g O' m' n x a:=by
 have hn:∀b,m b≠none->¬O b->¬O' b:=λb h1 h2 h3=>(hO b h3).elim h2 h1
 intro n;induction n with
 |zero=>
  intro x a ⟨h1,h2,N,nx,c,h3⟩;have ha:m a≠none:=by rw[h3];simp
  exact⟨hn a ha h1,h2,N,nx,c,by rw[hm a ha h1];exact h3⟩
 |succ n ih=>
  intro x a ⟨h1,N,nx,c,ads,h3,h4,h5,h6,h7⟩;have ha:m a≠none:=by rw[h3];simp
  exact⟨hn a ha h1,N,nx,c,ads,by rw[hm a ha h1];exact h3,h4.frame λb hb=>hm b (h4.key' hb) (h5 b hb),λb hb=>hn b (h4.key' hb) (h5 b hb),h6,λi e b he hb=>ih (h7 i e b he hb)⟩
theorem PT.ne{g:Wlk}{O:Nat->Prop}{m:Ar}{n:Nat}{x:WSt}{a:Nat}(h:PT g O m n x a):m a≠none:=by
 cases n with
 |zero=>obtain⟨-,-,N,nx,c,h⟩:=h;rw[h];simp
 |succ n=>obtain⟨-,N,nx,c,ads,h,-⟩:=h;rw[h];simp
theorem QBP{g:Wlk}{m:Ar}{K:Kn WSt}{al:List Nat}{S:Nat->Prop}{d:D}(hI:PI g m K al S d)(hd:∀y∈K.map (·.1),∃c,lkK K y=some (some c))(hnd:(K.map (·.1)).Nodup):∀(n:Nat) (x:WSt) (a:Nat),Dep g.nx n x->Qny K al x a->PT g (λ_=>False) m n x a:=by
 have key:∀(x:WSt) (a:Nat),Qny K al x a->∃k,PlOK g m K al S x k a:=by
  intro x a ⟨j,h1,h2⟩;obtain⟨c,hc⟩:=hd x (mgE h1);rw[gtm,omi]at h1;obtain⟨⟨y,c'⟩,h3,rfl⟩:=h1;have:=Qle hnd h3;rw[hc]at this;cases this;exact⟨c,hI.pl j _ c a h3 h2⟩
 intro n;induction n with
 |zero=>
  intro x a hx ha;obtain⟨k,-,N,nx,ads,h1,-⟩:=key x a ha;exact⟨λh=>h,by rw[Dep,Wlk.nx,nxt,List.map_eq_nil_iff]at hx;exact hx,N,nx,k,h1⟩
 |succ n ih=>
  intro x a hx ha;obtain⟨k,-,N,nx,ads,h1,h2,-,h4,h5⟩:=key x a ha;refine⟨λh=>h,N,nx,k,ads,h1,h2,λ_ _ h=>h,by rw[h4,Wlk.nx,nxt,List.length_map],λi e b he hb=> ?_⟩;have hy:(g.nx x)[i]? =some (g.to x e):=by rw[Wlk.nx,nxt,gtm,he];rfl
  exact ih _ b (hx _ (mgE hy)) (h5 i _ b hy hb)
structure YlC (P:Program) (l N:Nat) (J:List Rsl->(Nat->Prop)->Ar->Prop):Prop where
 no:NoFn P l
 out:∀pre O m r,J pre O m->pre.length<N->FnS P (8589934592+l) [Quq r] [.am m] λq h'=>q=bA true/\∃m' O',h'=[.am m']/\J (pre++[r]) O' m'/\(∀b,m b≠none->¬O b->m' b=m b)/\∀b,O' b->O b\/m b=none
 st:∀pre O m m',J pre O m->(∀b,O b->m' b=m b)->J pre O m'
 ne:∀pre O m b,J pre O m->O b->m b≠none
def YlE(J:List Rsl->(Nat->Prop)->Ar->Prop)(pre rs:List Rsl)(O:Nat->Prop)(m:Ar)(h':Hp):Prop:=
 ∃m' O',h'=[.am m']/\J (pre++rs) O' m'/\(∀b,m b≠none->¬O b->m' b=m b)/\∀b,O' b->O b\/m b=none
theorem Qml{g:Wlk}{n:Nat}{x:WSt}{p:List Int}(h:g.ar x=[]):brR g n x p=[⟨x.1,g.rs x,p⟩]:=by
 cases n with
 |zero=>rfl
 |succ n=>rw[brR,brs,if_pos h];rfl
theorem Qqv{g:Wlk}{n:Nat}{x:WSt}{p:List Int}(h:g.ar x≠[]):brR g (n+1) x p=(g.ar x).flatMap λe=>brR g n (g.to x e) (p++[e]):=by
 rw[brR,brs,if_neg h,List.map_flatMap];rfl
set_option maxRecDepth 100000
def Qby:CFn Tryz.prog Tryz.f57:=by refine⟨?a,?h⟩;case h=>conv=>lhs;cbv
def QcQ:AF:=Qby.1
abbrev Qbx:Nat:=57
theorem QcV:Tryz.prog.funcs[Qbx]? =some Tryz.f57:=Tryz.func57
theorem Qc3:QaC Tryz.prog Tryz.f57=some QcQ:=Qby.2
def QcH:CFn Tryz.prog Tryz.f58:=by refine⟨?a,?h⟩;case h=>conv=>lhs;cbv
def Qeb:AF:=QcH.1
abbrev Qan:Nat:=58
theorem Qa6:Tryz.prog.funcs[Qan]? =some Tryz.f58:=Tryz.func58
theorem QcA:QaC Tryz.prog Tryz.f58=some Qeb:=QcH.2
theorem QtV(P:Program)(hP:P=Tryz.prog)(m:Ar)(a:Nat)(nl:Bool)(pl:List (List D)):
  FnS P Qdc [.c (.d (.adr a 0)),.c (.d (.list nl 1 pl))] [.am m] λr h'=>∃bx bp Nx Np m1 m',r= .c (.fn false Qan [.d (.adr bx 0),.d (.adr bp 0)])/\h'=[.am m']/\m bx=none/\m1=mup m bx (.cs Nx [.adr a 0])/\m1 bp=none/\m'=mup m1 bp (.cs Np [.list nl 1 pl]):=by
 refine QaW (hP▸mixed) (hP▸Qfb) (hP▸Qfd) (nle rfl) λΛ Λo K hK=> ?_
 clear hP;have fin:=λbx bp Nx Np m1 m' h1 h2 h3 h4=>hK (.c (.fn false Qan [.d (.adr bx 0),.d (.adr bp 0)])) [.am m'] ⟨bx,bp,Nx,Np,m1,m',rfl,rfl,h1,h2,h3,h4⟩
 clear hK
 conv=>cbv
 repeat' first|(right;intro(_:Unit);intro(b:Nat) (N:Nat) (m2:Ar) hb (_:_<=N) hm2;(conv=>cbv))|exact gxQ|refine And.intro ?_ ?_|(intro hc;(first|rw[wS (by omega) (by omega)]at hc|rw[Qab]at hc|skip);try (conv=>cbv))|refine CallG.old ?_
 all_goals exact fin _ _ _ _ _ _ (by assumption) (by assumption) hb hm2
def QA5(t:Top)(fr:Bool)(a:Int):Int:=if fr then Qou t a else Qf1 t a
theorem QrK{t:Top}(hv:Qam t=true)(fr:Bool){a:Int}(h0:0<=a)(h1:a<2*t.links.length):0<=QA5 t fr a/\QA5 t fr a<t.nodes:=by
 have hk:=Qeo.1 ((Qai.1 hv).2.2.2 _ (List.getElem_mem (l:=t.links) (n:=(a/2).toNat) (by omega)));have hl:Qfc t a=t.links[(a/2).toNat]'(by omega):=by rw[Qfc,lgE (by omega)];rfl
 rw[<-hl]at hk;unfold QA5 Qou Qf1;split<;>split<;>omega
theorem QdR(l:List Int)(a:Nat)(v:Int)(c:Nat):at' (l.set a v) c=if a=c/\a<l.length then v else at' l c:=by
 simp only[at',List.getD_eq_getElem?_getD,List.getElem?_set];by_cases h1:a=c
 ·subst h1;by_cases h2:a<l.length
  ·simp[h2]
  ·simp[h2]
 ·simp[h1]
structure HW (n:Nat) (K L O:List Int):Prop where
 kl:K.length=n
 ll:L.length=n
 rg:∀p,p<O.length->0<=at' O p/\at' O p<n/\at' L (at' O p).toNat=p+1
 un:∀i:Nat,i<n->at' L i=0\/∃p,p<O.length/\at' O p=i
theorem HW.inj{n:Nat}{K L O:List Int}(h:HW n K L O){p q:Nat}(hp:p<O.length)(hq:q<O.length)(he:at' O p=at' O q):p=q:=by
 have h1:=(h.rg p hp).2.2;have h2:=(h.rg q hq).2.2;rw[he]at h1;omega
theorem HW.swap{n:Nat}{K L O:List Int}(h:HW n K L O){p q:Nat}(hp:p<O.length)(hq:q<O.length):
  HW n K ((L.set (at' O q).toNat (p+1)).set (at' O p).toNat (q+1)) (swp O p q):=by
 have hi:=h.rg p hp;have hj:=h.rg q hq;have hl:=h.ll;refine⟨h.kl,by simp[h.ll],λc hc=> ?_,λi hi'=> ?_⟩
 ·rw[QeW]at hc;have hx:=h.rg c hc;rw[QkD hp hq];by_cases h1:c=q
  ·rw[if_pos h1,QdR,if_pos ⟨rfl,by simp only[List.length_set];omega⟩];exact⟨hi.1,hi.2.1,by omega⟩
  ·rw[if_neg h1];by_cases h2:c=p
   ·have hne:at' O p≠at' O q:=λe=>h1 (h2.trans (h.inj hp hq e))
    rw[if_pos h2,QdR,if_neg (by omega),QdR,if_pos ⟨rfl,by omega⟩];exact⟨hj.1,hj.2.1,by omega⟩
   ·have n1:at' O c≠at' O q:=λe=>h1 (h.inj hc hq e)
    have n2:at' O c≠at' O p:=λe=>h2 (h.inj hc hp e)
    rw[if_neg h2,QdR,if_neg (by omega),QdR,if_neg (by omega)];exact hx
 ·by_cases h1:at' O p=i
  ·exact .inr ⟨q,by rw[QeW];exact hq,by rw[QkD hp hq,if_pos rfl];exact h1⟩
  ·by_cases h2:at' O q=i
   ·by_cases h3:p=q
    ·subst h3;exact absurd h2 h1
    ·exact .inr ⟨p,by rw[QeW];exact hp,by rw[QkD hp hq,if_neg h3,if_pos rfl];exact h2⟩
   ·rcases h.un i hi' with h3|⟨c,hc,h3⟩
    ·left;rw[QdR,if_neg (by omega),QdR,if_neg (by omega)];exact h3
    ·right;refine⟨c,by rw[QeW];exact hc,?_⟩;rw[QkD hp hq,if_neg (λe=>h2 (by rw[<-e];exact h3)),if_neg (λe=>h1 (by rw[<-e];exact h3))];exact h3
structure HQ (n m:Nat) (tl:List (List D)) (K:List Int) (ps es:List (List D)) (O:List Int):Prop where
 pl:∃L:List Int,ps=L.map Qar/\HW n K L O
 oe:es=O.map Qar++tl
 len:O.length=m
theorem QtJ{K:List Int}{i:Nat}{v:Int}{a:Int}(h0:0<=a)(h:a≠i):at' (K.set i v) a.toNat=at' K a.toNat:=by
 rw[QdR,if_neg (by omega)]
theorem Qkd{K:List Int}{i:Nat}{v:Int}{a b:Int}(ha:0<=a)(hb:0<=b)(hai:a≠i)(hbi:b≠i):leK (K.set i v) a b↔leK K a b:=by
 have h1:=QtJ (K:=K) (v:=v) ha hai;have h2:=QtJ (K:=K) (v:=v) hb hbi;simp only[at']at h1 h2;simp only[leK,ltK,h1,h2]
theorem Qpi{O:List Int}{m p:Nat}(h:p<m):at' (O.take m) p=at' O p:=by
 simp only[at',List.getD_eq_getElem?_getD,List.getElem?_take,if_pos h]
theorem HW.key{n:Nat}{K L O:List Int}(h:HW n K L O)(i:Nat)(v:Int):HW n (K.set i v) L O:=⟨by simp[h.kl],h.ll,h.rg,h.un⟩
theorem Pre.key{n:Nat}{K L O:List Int}(hw:HW n K L O)(h:HO K O){p:Nat}(hp:p<O.length){i:Nat}(hi:at' O p=i)(v:Int):Pre (K.set i v) O p:=by
 have ne:∀c,c<O.length->c≠p->at' O c≠i:=λc hc hcp e=>hcp (hw.inj hc hp (e.trans hi.symm))
 refine⟨λc c0 cl cp cpp=> ?_,λc p0 c0 cl cpp=> ?_⟩
 ·exact(Qkd (hw.rg _ (by omega)).1 (hw.rg _ cl).1 (ne _ (by omega) cpp) (ne _ cl cp)).2 (h c c0 cl)
 ·refine(Qkd (hw.rg _ (by omega)).1 (hw.rg _ cl).1 (ne _ (by omega) (by omega)) (ne _ cl (by omega))).2 ?_;have h1:=h p p0 hp;have h2:=h c c0 cl;rw[cpp]at h2;exact QgW h1 h2
theorem HW.add{n:Nat}{K L O:List Int}(h:HW n K L O){i:Nat}(hi:i<n)(h0:at' L i=0):HW n K (L.set i ((O.length:Int)+1)) (O++[(i:Int)]):=by
 have hll:=h.ll;have ha:∀c,c<O.length->at' (O++[(i:Int)]) c=at' O c:=λc hc=>by
  simp only[at',List.getD_eq_getElem?_getD,gal hc]
 have hb:at' (O++[(i:Int)]) O.length=i:=by simp[at',List.getD_eq_getElem?_getD]
 refine⟨h.kl,by simp[h.ll],λp hp=> ?_,λj hj=> ?_⟩
 ·simp only[List.length_append,List.length_cons,List.length_nil]at hp;by_cases h1:p=O.length
  ·subst h1;rw[hb,QdR,if_pos ⟨rfl,by omega⟩];exact⟨by omega,by omega,rfl⟩
  ·rw[ha p (by omega)];have h2:=h.rg p (by omega);have h3:at' O p≠i:=λe=>by
    rw[e]at h2;have e2:((i:Int)).toNat=i:=rfl;rw[e2,h0]at h2;omega
   rw[QdR,if_neg (by omega)];exact h2
 ·by_cases h1:j=i
  ·subst h1;exact .inr ⟨O.length,by simp,hb⟩
  ·rw[QdR,if_neg (by omega)];rcases h.un j hj with h2|⟨p,hp,h2⟩
   ·exact .inl h2
   ·exact .inr ⟨p,by simp;omega,by rw[ha p hp];exact h2⟩
theorem Pre.add{n:Nat}{K L O:List Int}(hw:HW n K L O)(h:HO K O){i:Nat}(h0:at' L i=0)(v:Int):Pre (K.set i v) (O++[(i:Int)]) O.length:=by
 have ha:∀c,c<O.length->at' (O++[(i:Int)]) c=at' O c:=λc hc=>by
  simp only[at',List.getD_eq_getElem?_getD,gal hc]
 have ne:∀c,c<O.length->at' O c≠i:=λc hc e=>by
  have h2:=hw.rg c hc;rw[e]at h2;have e2:((i:Int)).toNat=i:=rfl;rw[e2,h0]at h2;omega
 refine⟨λc c0 cl cp cpp=> ?_,λc p0 c0 cl cpp=> ?_⟩
 ·simp only[List.length_append,List.length_cons,List.length_nil]at cl;rw[ha _ (by omega),ha _ (by omega)];exact(Qkd (hw.rg _ (by omega)).1 (hw.rg _ (by omega)).1 (ne _ (by omega)) (ne _ (by omega))).2 (h c c0 (by omega))
 ·simp only[List.length_append,List.length_cons,List.length_nil]at cl;omega
theorem HW.cut{n:Nat}{K L O:List Int}(h:HW n K L O){m:Nat}(hm:O.length=m+1){i:Nat}(hi:at' O m=i):HW n (K.set i 0) (L.set i 0) (O.take m):=by
 have hll:=h.ll;have hl:(O.take m).length=m:=by simp[hm]
 refine⟨by simp[h.kl],by simp[h.ll],λp hp=> ?_,λj hj=> ?_⟩
 ·rw[hl]at hp;rw[Qpi hp];have h2:=h.rg p (by omega);have h3:at' O p≠i:=λe=>by
   have:=h.inj (p:=p) (q:=m) (by omega) (by omega) (e.trans hi.symm);omega
  rw[QdR,if_neg (by omega)];exact h2
 ·by_cases h1:j=i
  ·subst h1;left;rw[QdR,if_pos ⟨rfl,by omega⟩]
  ·rw[QdR,if_neg (by omega)];rcases h.un j hj with h2|⟨p,hp,h2⟩
   ·exact .inl h2
   ·refine .inr ⟨p,?_,?_⟩
    ·rw[hl];have:p≠m:=λe=>by rw[e,hi]at h2;omega
     omega
    ·have:p≠m:=λe=>by rw[e,hi]at h2;omega
     rw[Qpi (by omega)];exact h2
theorem Pre.cut{n:Nat}{K L O:List Int}(hw:HW n K L O)(h:HO K O){m p:Nat}(hm:O.length=m+1)(hp:p<=m){i:Nat}(hi:at' O p=i):Pre (K.set i 0) ((swp O p m).take m) p:=by
 have hs:=QkD (O:=O) (p:=p) (q:=m) (by omega) (by omega);have hl:((swp O p m).take m).length=m:=by simp[QeW,hm]
 have ne:∀c,c<O.length->c≠p->at' O c≠i:=λc hc hcp e=>hcp (hw.inj hc (by omega) (e.trans hi.symm))
 have same:∀c,c<m->c≠p->at' ((swp O p m).take m) c=at' O c:=λc hc hcp=>by rw[Qpi hc,hs,if_neg (by omega),if_neg hcp]
 refine⟨λc c0 cl cp cpp=> ?_,λc p0 c0 cl cpp=> ?_⟩
 ·rw[hl]at cl;rw[same _ (by omega) cpp,same _ cl cp];exact(Qkd (hw.rg _ (by omega)).1 (hw.rg _ (by omega)).1 (ne _ (by omega) cpp) (ne _ (by omega) cp)).2 (h c c0 (by omega))
 ·rw[hl]at cl;rw[same _ (by omega) (by omega),same _ cl (by omega)];refine(Qkd (hw.rg _ (by omega)).1 (hw.rg _ (by omega)).1 (ne _ (by omega) (by omega)) (ne _ (by omega) (by omega))).2 ?_;have h1:=h p p0 (by omega);have h2:=h c c0 (by omega);rw[cpp]at h2;exact QgW h1 h2
theorem HQ.cut{n m M:Nat}{tl:List (List D)}{K:List Int}{ps es:List (List D)}{O:List Int}(h:HQ n M tl K ps es O)(hM:M=m+1){i:Nat}(hi:at' O m=i):
  ∃tl',HQ n m tl' (K.set i 0) (ps.set i [iD 0]) es (O.take m):=by
 obtain⟨⟨L,rfl,hw⟩,rfl,hl⟩:=h;refine⟨(O.drop m).map Qar++tl,⟨_,?_,hw.cut (by omega) hi⟩,?_,?_⟩
 ·rw[List.map_set];rfl
 ·rw[<-List.append_assoc,<-List.map_append,List.take_append_drop]
 ·simp;omega
structure DI (t:Top) (down:List Bool) (e:Int) (fr:Bool) (D K:List Int) (H:Int->Prop) (last:Int) (pend:Int->Prop):Prop where
 len:(D.length:Int)=t.nodes
 kl:(K.length:Int)=t.nodes
 lo:∀i,0<=i->i<t.nodes-> -1<=gt D i
 hi:∀i,0<=i->i<t.nodes->gt D i<=65535*Qw9 D
 l0:0<=last
 held:∀x,H x->0<=x/\x<t.nodes/\gt D x= -1/\last<=gt K x
 past:∀x,0<=x->x<t.nodes->gt D x<=last
 root:gt D e=0\/(H e/\gt K e=0/\last=0/\∀x,H x->x=e)
 fix:∀a:Int,0<=a->a<2*t.links.length->QgE t down e fr a=true->0<=gt D (yOf t fr a)->pend a\/(0<=gt D (xOf t fr a)/\gt D (xOf t fr a)<=gt D (yOf t fr a)+Qbp t a)\/(H (xOf t fr a)/\gt K (xOf t fr a)<=gt D (yOf t fr a)+Qbp t a)
 td:∀x,0<=x->x<t.nodes->x≠e->0<=gt D x->∃a:Int,0<=a/\a<2*t.links.length/\QgE t down e fr a=true/\xOf t fr a=x/\0<=gt D (yOf t fr a)/\gt D x=gt D (yOf t fr a)+Qbp t a
 th:∀x,H x->x≠e->∃a:Int,0<=a/\a<2*t.links.length/\QgE t down e fr a=true/\xOf t fr a=x/\0<=gt D (yOf t fr a)/\gt K x=gt D (yOf t fr a)+Qbp t a
theorem DI.dist{t:Top}{down:List Bool}{e:Int}{fr:Bool}{D K:List Int}{H:Int->Prop}{last:Int}{pend:Int->Prop}(h:DI t down e fr D K H last pend)(hH:∀x,¬H x)(hp:∀a,¬pend a):IsDist t down e fr D where
 len:=h.len
 zero:=h.root.elim id λr=>absurd r.1 (hH e)
 lo:=h.lo
 fix a a0 a1:=λho hy=>by
  rcases h.fix a a0 a1 ho hy with h1|h1|h1
  ·exact absurd h1 (hp a)
  ·exact h1
  ·exact absurd h1.1 (hH _)
 tight:=h.td
theorem Qye{D:List Int}{n:Int}{v:Int}(h0:0<=n)(h1:n<D.length)(j:Int)(j0:0<=j):gt (D.set n.toNat v) j=if j=n then v else gt D j:=Qlt h0 h1 j0
theorem DI.skip{t:Top}{down:List Bool}{e:Int}{fr:Bool}{D K:List Int}{H:Int->Prop}{last:Int}{pend pend':Int->Prop}(h:DI t down e fr D K H last pend)
 (hp:∀a:Int,0<=a->a<2*t.links.length->QgE t down e fr a=true->0<=gt D (yOf t fr a)->pend a->pend' a\/(0<=gt D (xOf t fr a)/\gt D (xOf t fr a)<=gt D (yOf t fr a)+Qbp t a)\/(H (xOf t fr a)/\gt K (xOf t fr a)<=gt D (yOf t fr a)+Qbp t a)):DI t down e fr D K H last pend':=
 {h with fix:=λa a0 a1 ho hy=>(h.fix a a0 a1 ho hy).elim (hp a a0 a1 ho hy) .inr}
theorem DI.set{t:Top}(hv:Qam t=true){down:List Bool}{e:Int}{fr:Bool}{D K:List Int}{H:Int->Prop}{last:Int}{pend:Int->Prop}(h:DI t down e fr D K H last pend)(he:gt D e=0){a0:Int}(h0:0<=a0)(h1:a0<2*t.links.length)(ho:QgE t down e fr a0=true)
 (hy:gt D (yOf t fr a0)=last)(hx:gt D (xOf t fr a0)= -1)(hle:H (xOf t fr a0)->last+Qbp t a0<=gt K (xOf t fr a0)):
  DI t down e fr D (K.set (xOf t fr a0).toNat (last+Qbp t a0)) (λx=>H x\/x=xOf t fr a0) last (λa=>pend a/\a≠a0):=by
 have hf:=QfY hv fr h0 h1;have hc:=QbB hv h0 h1;have hl0:=h.l0;have hk:=Qye (D:=K) (n:=xOf t fr a0) (v:=last+Qbp t a0) hf.1.1 (by rw[h.kl];exact hf.1.2);refine{h with kl:=by rw[List.length_set];exact h.kl,held:=λx hx'=> ?_,root:= .inl he,fix:=λa b0 b1 hoa hya=> ?_,th:=λx hx' hxe=> ?_}
 ·rcases hx' with hh|hh
  ·have:=h.held x hh;rw[hk x this.1];refine⟨this.1,this.2.1,this.2.2.1,?_⟩;split
   ·omega
   ·exact this.2.2.2
  ·subst hh;rw[hk _ hf.1.1,if_pos rfl];exact⟨hf.1.1,hf.1.2,hx,by omega⟩
 ·have hfa:=QfY hv fr b0 b1;rw[hk _ hfa.1.1];by_cases e1:a=a0
  ·subst e1;exact .inr (.inr ⟨.inr rfl,by rw[if_pos rfl];omega⟩)
  ·rcases h.fix a b0 b1 hoa hya with h2|h2|h2
   ·exact .inl ⟨h2,e1⟩
   ·exact .inr (.inl h2)
   ·refine .inr (.inr ⟨.inl h2.1,?_⟩);split
    ·rename_i e2;have:=hle (e2▸h2.1);rw[e2]at h2;omega
    ·exact h2.2
 ·by_cases e1:x=xOf t fr a0
  ·subst e1;exact⟨a0,h0,h1,ho,rfl,by omega,by rw[hk _ hf.1.1,if_pos rfl,hy]⟩
  ·have hh:=hx'.resolve_right e1;rw[hk _ (h.held x hh).1,if_neg e1];exact h.th x hh hxe
def QS(n:Nat)(K O:List Int)(h:Hp):Prop:=∃vo M ro ks tl ps es,M=O.length/\h=hpH vo n M ro ks ps es/\ks=K.map Qar/\HQ n M tl K ps es O/\HO K O
theorem QS.place{n:Nat}{K O:List Int}{h:Hp}(q:QS n K O h){p:Nat}(hp:p<O.length):0<=at' O p/\at' O p<n:=by
 obtain⟨vo,M,ro,ks,tl,ps,es,rfl,h1,h2,h3,h4⟩:=q;obtain⟨L,hL,hw⟩:=h3.pl;have:=hw.rg p hp;exact⟨this.1,this.2.1⟩
theorem QS.mem{n:Nat}{K O:List Int}{h:Hp}(q:QS n K O h){x:Int}(hx:x∈O):0<=x/\x<n/\∃p,p<O.length/\at' O p=x:=by
 obtain⟨p,hp,rfl⟩:=List.getElem_of_mem hx;have e:at' O p=O[p]:=by simp[at',List.getD_eq_getElem?_getD,hp]
 have:=q.place hp;rw[e]at this;exact⟨this.1,this.2,p,hp,e⟩
theorem QS.least{n:Nat}{K O:List Int}{h:Hp}(q:QS n K O h){x:Int}(hx:x∈O):gt K (at' O 0)<=gt K x:=by
 obtain⟨x0,x1,p,hp,e⟩:=q.mem hx;have q0:=q.place (p:=0) (by omega);obtain⟨vo,M,ro,ks,tl,ps,es,rfl,h1,h2,h3,h4⟩:=q;obtain⟨L,hL,hw⟩:=h3.pl;have:=h4.root p hp;rw[e]at this;have kl:=hw.kl;have gk:∀y:Int,0<=y->y<n->gt K y=at' K y.toNat:=λy y0 y1=>by
  have:y.toNat<K.length:=by omega
  simp[gt,at',List.getD_eq_getElem?_getD,this]
 rw[gk _ q0.1 q0.2,gk _ x0 x1];exact Qyo this
theorem pigeon:∀(n m:Nat) (f:Nat->Nat),(∀p,p<m->f p<n)->(∀p q,p<m->q<m->f p=f q->p=q)->m<=n:=by
 intro n;induction n with
 |zero=>
  intro m f h _;rcases Nat.eq_zero_or_pos m with h0|h0
  ·omega
  ·have:=h 0 h0;omega
 |succ n ih=>
  intro m f h hi;cases m with
  |zero=>omega
  |succ m=>
   have:=ih m (λp=>if f p=n then f m else f p) (λp hp=>by
    have h1:=h p (by omega);have h2:=h m (by omega);split
    ·rename_i e;have:f m≠n:=λe2=>by have:=hi p m (by omega) (by omega) (by omega);omega
     omega
    ·omega) (λp q hp hq e=>by
    split at e<;>split at e
    ·exact hi p q (by omega) (by omega) (by omega)
    ·have:=hi m q (by omega) (by omega) e;omega
    ·have:=hi p m (by omega) (by omega) e;omega
    ·exact hi p q (by omega) (by omega) e)
   omega
theorem QS.len{n:Nat}{K O:List Int}{h:Hp}(q:QS n K O h):O.length<=n:=by
 obtain⟨vo,M,ro,ks,tl,ps,es,rfl,h1,h2,h3,h4⟩:=q;obtain⟨L,hL,hw⟩:=h3.pl;refine pigeon n O.length (λp=>(at' O p).toNat) (λp hp=> ?_) λp q hp hq e=> ?_
 ·have:=hw.rg p hp;omega
 ·have a:=hw.rg p hp;have b:=hw.rg q hq;exact hw.inj hp hq (by omega)
theorem Qyp(A:List Int){k:Nat}(h:k<A.length):(A.map Qar)[k]? =some [iD (A.getD k 0)]:=by
 rw[gtm,lgE h];simp[List.getD_eq_getElem?_getD,h,Qar]
theorem Qmv(P:Program)(hP:P=Tryz.prog)(ll:List (List D))(hl:ll.length<=1000000)(h0:ll≠[]):FnS P QaG [.c (.d (.list false 1 ll))] [] λr h'=>∃n,n=ll.length/\r= .c (.arr 0 1 0 n)/\h'=[.da true 1 1 ll]:=by
 refine QpA (hP▸mixed) (hP▸Qbz) (hP▸QbF) (nle rfl) λΛ Λo=> ?_
 clear hP;generalize hK:(λ(r:AV) (h':Hp)=>∃n,n=ll.length/\r= .c (.arr 0 1 0 n)/\h'=[.da true 1 1 ll])=K;have k1:∀n rl es,es=ll->rl=true->n=ll.length->K (.c (.arr 0 1 0 n)) [Blk.da rl 1 1 es]:=by
  intro n rl es h1 h3 h2;rw[<-hK];subst h1 h3;exact⟨n,h2,rfl,rfl⟩
 clear hK;have lln:=Λo ll
 conv=>cbv
 repeat' first|exact gxQ|refine And.intro ?_ ?_|(intro hc;(first|rw[wS (by omega) (by omega)]at hc|rw[Qab]at hc|skip);try (conv=>cbv))
 ·refine k1 _ _ _ ?_ ?_ ?_
  ·rw[hc];simp
  ·rename_i h1;rw[h1];rfl
  ·rename_i h1 _;rw[h1];simp
 ·exact absurd (by assumption) h0
section
variable{G:Nat->Prop}{ι:Io}{h:Hp}{w:World}
theorem Qwc{sz:Nat}(hr:HR G ι h w):
    HR G (ι++[(0,0)]) (h++[.da false 1 sz []]) w/\VR G w (ι++[(0,0)]) (h++[.da false 1 sz []]) (.slice none 0 0) (.c (.arr h.length 1 0 0))/\
      Ext G ι h w G (ι++[(0,0)]) (h++[.da false 1 sz []]) w:=by
  have hi:∀l k,h[l]? =some k->(ι++[(0,0)])[l]? =ι[l]? :=λl k hk=>gal (by rw[hr.len];exact Qaa hk)
  have hon:∀l k b,(h++[.da false 1 sz []])[l]? =some k->Qcp (ι++[(0,0)]) l k b->h[l]? =some k/\Qcp ι l k b:=by
    intro l k b h2 h3;rcases Qbb h2 with d|⟨d,d'⟩
    · exact⟨d,Qcf (by rw[hr.len];exact Qaa d) h3⟩
    · subst d';cases h3.1
  have howned:∀b,owned (ι++[(0,0)]) (h++[.da false 1 sz []]) b->owned ι h b:=by
    intro b ⟨l',blk,h2,h3⟩;exact⟨l',blk,hon l' blk b h2 h3⟩
  have hext:Ext G ι h w G (ι++[(0,0)]) (h++[.da false 1 sz []]) w:=
    { size:=Nat.le_refl _
      quiet:=⟨rfl,rfl,rfl,Nat.le_refl _⟩
      frame:=λ_ _ _=>rfl
      gmono:=λ_ h=>h
      gnew:=λ_ h=> .inl h
      onew:=λb ho=> .inl (howned b ho)
      keep:=λl' k' hk'=>⟨k',QaB hk',Kept.frame (hi l' k' hk') λ_ _=>rfl⟩}
  refine⟨{ len:=by simp[hr.len]
           own:=λl1 l2 b k1 k2 c1 c2 d1 d2=>hr.own l1 l2 b k1 k2 (hon _ _ _ c1 d1).1 (hon _ _ _ c2 d2).1 (hon _ _ _ c1 d1).2 (hon _ _ _ c2 d2).2
           g:=λb hb=>⟨(hr.g b hb).1,λho=>(hr.g b hb).2 (howned b ho)⟩
           blk:= ?_},?_,hext⟩
  · intro l' k' hk'
    rcases Qbb hk' with e|⟨_,e⟩
    · exact BR.ext hext hr e (hi l' _ e) λ_ _=>rfl
    · subst e;simp[BR]
  · exact .c _ _ (.arr _ _ _ _ _ (.da false 1 sz []) (by simp) (by simp[Blk.allows]) (λ_ _ he=>by cases he) λ_ _ _=>⟨rfl,rfl,rfl⟩)
end
theorem FnS.nilR1{P:Program}{f:Nat}{args:List AV}{sz:Nat}{h:Hp}{Q0:Hp->Prop}(hf:FnS P f args h λr h'=>r= .c (.d (.list true sz []))/\Q0 h'):
  FnS P f args h λr h'=>∃h1,Q0 h1/\r= .c (.arr h1.length 1 0 0)/\h'=h1++[.da false 1 sz []]:=by
 refine⟨λG ι w vs hr hv=>(hf.out G ι w vs hr hv).mono λe w' ⟨v,r,G',ι',h',a1,a2,a3,a4,a5⟩=> ?_⟩;obtain⟨rfl,h2⟩:=a2;obtain⟨q1,q2,q3⟩:=Qwc (sz:=sz) a3;rw[Qg5 (Qcb a4)]at a1;exact⟨_,_,G',_,_,a1,⟨h',h2,rfl,rfl⟩,q1,q2,a5.trans q3⟩
theorem Qmw(P:Program)(hP:P=Tryz.prog):FnS P QaG [.c (.d (.list true 1 []))] [] λr h'=>r= .c (.d (.list true 1 []))/\h'=[]:=by
 refine QaW (hP▸mixed) (hP▸Qbz) (hP▸QbF) (nle rfl) λΛ Λo K hK=> ?_
 clear hP;have k0:K (.c (.d (.list true 1 []))) []:=hK _ _ ⟨rfl,rfl⟩;clear hK;have lln:=Λo []
 conv=>cbv
 repeat' first|exact gxQ|refine And.intro ?_ ?_|(intro hc;(first|rw[wS (by omega) (by omega)]at hc|rw[Qab]at hc|skip);try (conv=>cbv))
 all_goals exact k0
theorem Qk1(P:Program)(hP:P=Tryz.prog)(h:Hp)(nl:Bool)(ll:List (List D))(hl:ll.length<=1000000)(hn:ll=[]->nl=true)(hn':ll≠[]->nl=false):
  ∃rb,∀xs,xs=[.c (.d (.list nl 1 ll))]->QBe P h QaG xs (λn=> .c (.arr n 1 0 ll.length)) (.da rb 1 1 ll):=by
 by_cases h0:ll=[]
 ·subst h0;rw[hn rfl];refine⟨false,?_⟩;rintro xs rfl h' _;have hc:=(Qmw P hP).frame [] h' rfl (by simp) (by simp) rfl (by simp[Qdn,QeU]);have hd:FnS P QaG [.c (.d (.list true 1 []))] h' λr h''=>r= .c (.d (.list true 1 []))/\h''=h':=hc.mono (by
   rintro r h'' ⟨r0,hc,⟨rfl,rfl⟩,rfl,rfl⟩;exact⟨rfl,by simp[QgM,QcP,rnH]⟩)
  refine(FnS.nilR1 (Q0:=λh1=>h1=h') hd).mono ?_;rintro r h'' ⟨h1,rfl,rfl,rfl⟩;exact⟨rfl,rfl⟩
 ·rw[hn' h0];refine⟨true,?_⟩;rintro xs rfl h' _;refine((Qmv P hP ll hl h0).frame [] h' rfl (by simp) (by simp) rfl (by simp[Qdn,QeU])).mono ?_;rintro r h'' ⟨r0,hc,⟨n,rfl,rfl,rfl⟩,rfl,rfl⟩;exact⟨by simp[rnA,rnC,rho],by simp[QgM,QcP,rnH,rnB]⟩
set_option maxRecDepth 100000 in
theorem nofn(P:Program)(hP:P=Tryz.prog)(l:Nat):NoFn P l:=by
 subst hP;have:Tryz.prog.funcs.size<=8589934592:=nle (by kernel_rfl);exact⟨Array.getElem?_eq_none (by omega)⟩
theorem Qb1{m m2:Ar}{b c:Nat}{x y:AB}(hm:m2=mup m b x)(hb:m b=none)(h:m c=some y):m2 c=some y:=by
 rw[hm,Qaq (λe=>by rw[e,hb]at h;cases h)];exact h
theorem Qvn{P:Program}{h:Hp}{f l:Nat}{args:List AV}{K:AV->Hp->Prop}(hf:f=8589934592+l)(hk:FnS P (8589934592+l) args h K):CallV P h f args K:=by
 rw[hf];exact .fn hk
theorem Qs6{P:Program}{h:Hp}{f l:Nat}{args':List AV}{K:AV->Hp->Prop}{args:List AV}{hc:Hp}{R:AV->Hp->Prop}(hfl:f=8589934592+l)(σ:List Nat)(hf:FnS P (8589934592+l) args hc R)(ha:args'=rnAs (rho σ h.length) args)(hlen:σ.length=hc.length)(hnd:σ.Nodup)
 (hh:Qzr h (rho σ h.length) 0 hc)(hcl:QcG hc.length hc=true)(hca:args.all (Qdn hc.length)=true)(k:∀r hc',R r hc'->K (rnA (rho σ h.length) r) (QgM h σ hc')):CallV P h f args' K:=by
 subst hfl;exact QeA σ hf ha hlen hnd hh hcl hca k
structure BrP (g:Wlk) (J:List Rsl->(Nat->Prop)->Ar->Prop) (n:Nat) (x:WSt) (p:List Int) (nl:Bool) (a bx bp Nx Np:Nat) (pre:List Rsl) (O:Nat->Prop) (m:Ar):Prop where
 j:J pre O m
 pt:PT g O m n x a
 mx:m bx=some (.cs Nx [.adr a 0])
 xo:¬O bx
 mp:m bp=some (.cs Np [.list nl 1 (p.map Qar)])
 po:¬O bp
 nt:p=[]->nl=true
 nf:p≠[]->nl=false
 len:p.length+n<=1000000
theorem Qs5(P:Program)(hP:P=Tryz.prog){g:Wlk}{l N:Nat}{J:List Rsl->(Nat->Prop)->Ar->Prop}(hY:YlC P l N J){n:Nat}{x:WSt}{p:List Int}{nl:Bool}{a bx bp Nx Np:Nat}{pre:List Rsl}{O:Nat->Prop}{m:Ar}
 (hb0:BrP g J n x p nl a bx bp Nx Np pre O m)(hx:g.ar x=[])(hN:pre.length<N):
  FnS P Qan [.c (.d (.yl l)),.c (.d (.adr bx 0)),.c (.d (.adr bp 0))] [.am m] λ_ h'=>YlE J pre (brR g n x p) O m h':=by
 have hcl:=QgP P hP (p.map Qar) (by have:=hb0.len;rw[List.length_map];omega);refine QaW (hP▸mixed) (hP▸Qa6) (hP▸QcA) (nle rfl) λΛ Λo K hK=> ?_
 clear hP;have hno:=hY.no;have hat:∃Na nx c,m a=some (.cs Na (plD g x nx false c)):=by
  have:=hb0.pt;cases n with
  |zero=>obtain⟨-,-,Na,nx,c,h⟩:=this;exact⟨Na,nx,c,h⟩
  |succ n=>obtain⟨-,Na,nx,c,-,h,-⟩:=this;exact⟨Na,nx,c,h⟩
 obtain⟨Na,nx,c,hat⟩:=hat;have hmx:=hb0.mx;have hmp:=hb0.mp;simp only[plD,hx,List.map_nil]at hat;have hout:=λ(m1:Ar) (h1:J pre O m1)=>hY.out pre O m1 ⟨x.1,g.rs x,p⟩ h1 hN
 simp only[Quq,Qax]at hout;have hend:=λh' (h:YlE J pre (brR g n x p) O m h')=>hK (.tup []) h' h
 have hfz:=λb (hf:m b=none)=>(λc (hc:O c) (e:c=b)=>hY.ne pre O m c hb0.j hc (e▸hf):∀c,O c->c=b->False)
 clear hK;have hl0:Λ []=0:=Λo [];generalize hpl:p.map Qar=pl at*
 conv=>cbv
 repeat' first|(refine Qag hcl rfl rfl ?_;conv=>cbv)|(right;intro(_:Unit);intro(b:Nat) (N3:Nat) (m2:Ar) hbn (_:_<=N3) hm2;have hx2:=Qb1 hm2 hbn hmx;have ha2:=Qb1 hm2 hbn hat;have hp2:=Qb1 hm2 hbn hmp;have hb2:=Qbq hm2;have hj2:=hY.st pre O m m2 hb0.j (λc hc=>by rw[hm2,Qaq (λe=>hfz b hbn c hc e)]);(conv=>cbv))|(refine⟨Nx,_,_,hx2,rfl,?_⟩;(conv=>cbv))|(refine⟨Na,_,_,ha2,rfl,?_⟩;(conv=>cbv))|(refine⟨Np,_,_,hp2,rfl,?_⟩;(conv=>cbv))|(refine⟨N3,_,_,hb2,rfl,?_⟩;(conv=>cbv))|exact hno|(refine Qvn (l:=l) (by generalize l=l0;cases l0<;>rfl) (FnS.mono (hout _ hj2) ?_);rintro r h' ⟨rfl,m',O',rfl,hj',hk',ho'⟩;(conv=>cbv))|exact gxQ|refine And.intro ?_ ?_|(intro hc;(first|rw[wS (by omega) (by omega)]at hc|rw[Qab]at hc|skip);try (conv=>cbv))|refine CallG.old ?_
 refine hend _ ⟨m',O',rfl,by rw[Qml hx];exact hj',λc hc ho=> ?_,λc hc=> ?_⟩
 ·have hcb:c≠b:=λe=>hc (e▸hbn)
  have:m2 c=m c:=by rw[hm2,Qaq hcb]
  rw[hk' c (by rw[this];exact hc) ho,this]
 ·by_cases hcb:c=b
  ·exact .inr (hcb▸hbn)
  ·have:m2 c=m c:=by rw[hm2,Qaq hcb]
   rw[<-this];exact ho' c hc
end Go.Ab
