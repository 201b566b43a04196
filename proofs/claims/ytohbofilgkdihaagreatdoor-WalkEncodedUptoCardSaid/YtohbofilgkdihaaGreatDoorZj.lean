/-
  Merged texts, part j.
-/
import Derived.Test.YtohbofilgkdihaaGreatDoorZi
set_option linter.all false
namespace Go.Ab
def QdN:Hp->Nat
 |[]=>0
 | .dead::r=>QdN r+1
 |_::r=>QdN r
theorem Qn9:∀{h:Hp} {l:Nat} {r:Bool} {v sz:Nat} {es:List (List D)},h[l]? =some (.da r v sz es)->QdN h<QdN (h.set l .dead)
 |[],_,_,_,_,_,hl=>by simp at hl
 |k::h,0,r,v,sz,es,hl=>by
  simp only[List.getElem?_cons_zero,osi]at hl;subst hl;simp[QdN]
 |k::h,l+1,r,v,sz,es,hl=>by
  simp only[List.getElem?_cons_succ]at hl;have:=Qn9 hl;cases k<;>simp only[List.set_cons_succ,QdN]<;>omega
theorem Qqz:∀{h:Hp} {l:Nat} {v:Nat} {es:List (DV×DV)},h[l]? =some (.mp v es)->QdN h<QdN (h.set l .dead)
 |[],_,_,_,hl=>by simp at hl
 |k::h,0,v,es,hl=>by
  simp only[List.getElem?_cons_zero,osi]at hl;subst hl;simp[QdN]
 |k::h,l+1,v,es,hl=>by
  simp only[List.getElem?_cons_succ]at hl;have:=Qqz hl;cases k<;>simp only[List.set_cons_succ,QdN]<;>omega
theorem Qop{h h1:Hp}{x:CV}{d:D}(hx:frz h x=some (d,h1)):(h1=h/\∀h2,frz h2 x=some (d,h2))\/QdN h<QdN h1:=by
 cases x with
 |d y=>simp only[frz,osi,pmi]at hx;obtain⟨rfl,rfl⟩:=hx;exact .inl ⟨rfl,λ_=>rfl⟩
 |cl nl sz l=>simp only[frz,osi,pmi]at hx;obtain⟨rfl,rfl⟩:=hx;exact .inl ⟨rfl,λ_=>rfl⟩
 |arr l v i n=>
  simp only[frz]at hx;split at hx
  ·rename_i hl;split at hx
   ·cases hx;exact .inr (Qn9 hl)
   ·cases hx
  ·cases hx
 |rp cs=>simp only[frz,osi,pmi]at hx;obtain⟨rfl,rfl⟩:=hx;exact .inl ⟨rfl,λ_=>rfl⟩
 |mp l=>
  simp only[frz]at hx;split at hx
  ·rename_i hl;split at hx
   ·cases hx;exact .inr (Qqz hl)
   ·cases hx
  ·cases hx
 |_=>simp[frz]at hx
theorem QhI:∀{cs:List CV} {h h1:Hp} {ds:List D},frzs h cs=some (ds,h1)->(h1=h/\∀h2,frzs h2 cs=some (ds,h2))\/QdN h<QdN h1
 |[],h,h1,ds,hx=>by simp only[frzs,osi,pmi]at hx;obtain⟨rfl,rfl⟩:=hx;exact .inl ⟨rfl,λ_=>rfl⟩
 |x::r,h,h1,ds,hx=>by
  simp only[frzs]at hx;split at hx
  ·rename_i d ha h1';split at hx
   ·rename_i ds2 hb h2';cases hx;rcases Qop h1' with ⟨rfl,g1⟩|g1
    ·rcases QhI h2' with ⟨rfl,g2⟩|g2
     ·exact .inl ⟨rfl,λh2=>by simp only[frzs,g1 h2,g2 h2]⟩
     ·exact .inr g2
    ·rcases QhI h2' with ⟨rfl,g2⟩|g2
     ·exact .inr g1
     ·exact .inr (Nat.lt_trans g1 g2)
   ·cases hx
  ·cases hx
theorem QrR{h h1:Hp}{x:CV}{d:D}(hx:Qtu h x=some (d,h1)):(h1=h/\∀h2,Qtu h2 x=some (d,h2))\/QdN h<QdN h1:=by
 unfold Qtu at hx |-;split at hx
 ·cases hx;exact .inl ⟨rfl,λ_=>rfl⟩
 ·exact Qop hx
theorem QgA:∀{cs:List CV} {h h1:Hp} {ds:List D},QgT h cs=some (ds,h1)->(h1=h/\∀h2,QgT h2 cs=some (ds,h2))\/QdN h<QdN h1
 |[],h,h1,ds,hx=>by simp only[QgT,osi,pmi]at hx;obtain⟨rfl,rfl⟩:=hx;exact .inl ⟨rfl,λ_=>rfl⟩
 |x::r,h,h1,ds,hx=>by
  simp only[QgT]at hx;split at hx
  ·rename_i d ha h1';split at hx
   ·rename_i ds2 hb h2';cases hx;rcases QrR h1' with ⟨rfl,g1⟩|g1
    ·rcases QgA h2' with ⟨rfl,g2⟩|g2
     ·exact .inl ⟨rfl,λh2=>by simp only[QgT,g1 h2,g2 h2]⟩
     ·exact .inr g2
    ·rcases QgA h2' with ⟨rfl,g2⟩|g2
     ·exact .inr g1
     ·exact .inr (Nat.lt_trans g1 g2)
   ·cases hx
  ·cases hx
theorem QpK{cs:List CV}{h h1:Hp}{ds:List D}(hx:Qlc h cs=some (ds,h1)):(h1=h/\∀h2,Qlc h2 cs=some (ds,h2))\/QdN h<QdN h1:=by
 unfold Qlc at hx |-;split at hx
 ·rcases QgA hx with ⟨g1,g2⟩|g
  ·exact .inl ⟨g1,g2⟩
  ·exact .inr g
 ·rcases QhI hx with ⟨g1,g2⟩|g
  ·exact .inl ⟨g1,g2⟩
  ·exact .inr g
theorem QeC{e:Env}:∀{ps:List (Nat×X)} {h h1:Hp} {as:List (Nat×List D)},QbP h e ps=some (as,h1)->(h1=h/\∀h2,QbP h2 e ps=some (as,h2))\/QdN h<QdN h1
 |[],h,h1,as,hx=>by simp only[QbP,osi,pmi]at hx;obtain⟨rfl,rfl⟩:=hx;exact .inl ⟨rfl,λ_=>rfl⟩
 |(i,x)::r,h,h1,as,hx=>by
  simp only[QbP]at hx;split at hx
  ·rename_i cs hcs;split at hx
   ·rename_i ds ha g1';split at hx
    ·rename_i as2 hb g2';cases hx;rcases QpK g1' with ⟨rfl,g1⟩|g1
     ·rcases QeC g2' with ⟨rfl,g2⟩|g2
      ·exact .inl ⟨rfl,λh2=>by simp only[QbP,hcs,g1 h2,g2 h2]⟩
      ·exact .inr g2
     ·rcases QeC g2' with ⟨rfl,g2⟩|g2
      ·exact .inr g1
      ·exact .inr (Nat.lt_trans g1 g2)
    ·cases hx
   ·cases hx
  ·cases hx
def QCk(e:Env)(op:AOp):List Nat:=(Qbf op).flatMap λx=>rfA (ev e x)
theorem Qr6{e:Env}{op:AOp}{h h':Hp}(hh:∀l∈QCk e op,h'[l]? =h[l]?):∀x∈Qbf op,QaU h h' (ev e x):=
 λx hx=>Qwr λl hl=>hh l (List.mem_flatMap.2 ⟨x,hx,hl⟩)
def QA1:Hp->List Nat
 | .am _::_=>[0]
 |_=>[]
theorem QxL{h:Hp}{l:Nat}(hl:l∈QA1 h):l<h.length:=by
 unfold QA1 at hl;split at hl
 ·simp at hl;subst hl;simp
 ·cases hl
def tOf(e:Env)(h:Hp)(op:AOp):List Nat:=QCk e op++(match op with
 | .st x _ _=>match ev e x with
  | .c (.ptr l _ _ _)=>match h[l]? with
   |some k=>rfB k
   |none=>[]
  |_=>[]
 | .ld x _=>match ev e x with
  | .c (.d (.adr _ _))=>QA1 h
  |_=>[]
 |_=>[])
theorem QdH{e:Env}{h0 h h':Hp}{op:AOp}(hh:∀l∈tOf e h0 op,h'[l]? =h[l]?):∀x∈Qbf op,QaU h h' (ev e x):=
 Qr6 λl hl=>hh l (List.mem_append_left _ hl)
def QiE(e:Env)(n:Nat):AOp->Option (Option Nat×Bool)
 | .box _=>some (some n,true)
 | .bsl _ _ _ _=>some (some n,true)
 | .mks _ _ _ _ _=>some (some n,true)
 | .mo .mkm _=>some (some n,true)
 | .app _ _ _ x _=>match ev e x with
  | .c (.arr l _ _ _)=>some (some l,false)
  | .c (.d (.list true _ _))=>some (some n,true)
  |_=>none
 | .st x _ _=>match ev e x with
  | .c (.ptr l _ _ _)=>some (some l,false)
  |_=>none
 |op=>match cls op with
  |0=>some (none,false)
  |_=>none
theorem Qqx{x:AV}{cs:List CV}(h:cells x=some cs):rfCs cs=rfA x:=by
 cases x with
 |c x=>
  have:cs=[x]:=by cases x<;>simp_all [cells]
  subst this;show rfC x++[]=_;simp[rfA]
 |agg l=>simp only[cells,osi]at h;subst h;rfl
 |tup l=>simp[cells]at h
theorem Qvd{e:Env}{h h':Hp}{op:AOp}{v:AV}{w:Nat}(hw:QiE e h.length op=some (some w,true))(hs:astep e h op=some (v,h'))(h1:cls op=1->∃k,h'=h++[k]):
  w=h.length/\∃f k,AlF f/\v=f h.length/\h'=h++[k]/\(∀l∈rfB k,l∈tOf e h op)/\∀h2,(∀l∈tOf e h op,h2[l]? =h[l]?)->astep e h2 op=some (f h2.length,h2++[k]):=by
 cases op
 case box x=>
  simp only[QiE,osi,pmi,and_true]at hw;simp only[astep]at hs;split at hs
  ·rename_i cs hcs;split at hs
   ·rename_i hok;cases hs;refine⟨hw.symm,_,_,.inr (.inl rfl),rfl,rfl,λl hl=> ?_,λh2 hag=> ?_⟩
    ·have:l∈rfA (ev e x):=by rw[<-Qqx hcs];exact hl
     exact List.mem_append_left _ (List.mem_flatMap.2 ⟨x,by simp[Qbf],this⟩)
    ·have hag':=QdH hag x (by simp[Qbf]);simp only[astep,hcs];rw[QeB (Qgs hag' hcs),if_pos hok]
   ·cases hs
  ·cases hs
 case bsl sz z n ps=>
  simp only[QiE,osi,pmi,and_true]at hw;obtain⟨k,hk⟩:=h1 rfl;simp only[astep]at hs;split at hs
  ·rename_i as ha hel;split at hs
   ·rename_i es hes;split at hs
    ·rename_i hlim;simp only[osi,pmi]at hs;obtain⟨rfl,rfl⟩:=hs;obtain⟨hh1,hh2⟩:=List.append_inj' hk (by simp);subst hh1;simp only[List.cons.injEq,and_true]at hh2;subst hh2;have hall:∀h2,QbP h2 e ps=some (as,h2):=by
      rcases QeC hel with ⟨_,g⟩|g
      ·exact g
      ·omega
     refine⟨hw.symm,λm=> .c (.arr m 0 0 n),_,.inl ⟨n,0,rfl⟩,rfl,rfl,λl hl=>by simp[rfB]at hl,λh2 _=> ?_⟩;simp only[astep,hall h2,hes,if_pos hlim]
    ·cases hs
   ·cases hs
  ·cases hs
 case mks sz bytes z l c=>
  simp only[QiE,osi,pmi,and_true]at hw;simp only[astep]at hs;split at hs
  ·rename_i k1 n k2 m hl hc;split at hs
   ·rename_i hlim;cases hs;refine⟨hw.symm,λq=> .c (.arr q 0 0 n.toNat),_,.inl ⟨_,0,rfl⟩,rfl,rfl,λl hl=>by simp[rfB]at hl,λh2 _=> ?_⟩;simp only[astep,hl,hc,if_pos hlim]
   ·cases hs
  ·cases hs
 case mo o xs=>
  cases o
  case mkm=>
   simp only[QiE,osi,pmi,and_true]at hw;simp only[astep]at hs;cases hxs:evs e xs with
   |nil=>
    rw[hxs]at hs;simp only[mstep,osi,pmi]at hs;obtain⟨rfl,rfl⟩:=hs;refine⟨hw.symm,λq=> .c (.mp q),_,.inr (.inr rfl),rfl,rfl,λl hl=>by simp[rfB]at hl,λh2 _=> ?_⟩;simp only[astep,hxs,mstep]
   |cons a r=>rw[hxs]at hs;simp[mstep]at hs
  all_goals (simp[QiE,cls]at hw)
 case app sz bytes z x y=>
  simp only[QiE]at hw;simp only[astep]at hs;split at hs
  ·rename_i sz' ys hy;split at hs
   ·rename_i hsz;have hvy:∀h2,(∀l∈tOf e h (.app sz bytes z x y),h2[l]? =h[l]?)->view h2 (ev e y)=view h (ev e y):=λh2 hag=>Qeu (QdH hag y (by simp[Qbf]))
    split at hw
    ·simp at hw
    ·rename_i s2 l2 hx;simp only[osi,pmi,and_true]at hw;simp only[hx,appv]at hs;split at hs
     ·rename_i hlim;cases hs;refine⟨hw.symm,λq=> .c (.arr q 0 0 ys.length),_,.inl ⟨_,0,rfl⟩,rfl,rfl,λl hl=>by simp[rfB]at hl,λh2 hag=> ?_⟩;simp only[astep,hvy h2 hag,hy,if_pos hsz,hx,appv,if_pos hlim]
     ·cases hs
    ·cases hw
   ·cases hs
  ·cases hs
 case st x y n=>
  simp only[QiE]at hw;split at hw<;>simp at hw
 all_goals (simp[QiE,cls]at hw)
theorem QwS{e:Env}{h h':Hp}{op:AOp}{v:AV}{w:Nat}(hw:QiE e h.length op=some (some w,false))(hs:astep e h op=some (v,h')):
  ∃k,h'=h.set w k/\(∀l∈rfB k,l∈tOf e h op)/\∀h2,(∀l∈tOf e h op,h2[l]? =h[l]?)->astep e h2 op=some (v,h2.set w k):=by
 cases op
 case app sz bytes z x y=>
  simp only[QiE]at hw;simp only[astep]at hs;split at hs
  ·rename_i sz' ys hy;split at hs
   ·rename_i hsz;have hvy:∀h2,(∀l∈tOf e h (.app sz bytes z x y),h2[l]? =h[l]?)->view h2 (ev e y)=view h (ev e y):=λh2 hag=>Qeu (QdH hag y (by simp[Qbf]))
    split at hw
    ·rename_i l v0 i n hx;simp only[osi,pmi,and_true]at hw;subst hw;have hmem:l∈tOf e h (.app sz bytes z x y):=List.mem_append_left _ (List.mem_flatMap.2 ⟨x,by simp[Qbf],by rw[hx];simp[rfA,rfC]⟩);simp only[hx,appv]at hs;split at hs
     ·rename_i r v' s3 es hl;split at hs
      ·rename_i hlim;cases hs;refine⟨_,rfl,λl hl=>by simp[rfB]at hl,λh2 hag=> ?_⟩;simp only[astep,hvy h2 hag,hy,if_pos hsz,hx,appv,hag l hmem,hl,if_pos hlim]
      ·cases hs
     ·cases hs
    ·simp at hw
    ·cases hw
   ·cases hs
  ·cases hs
 case mo o xs=>cases o<;>simp[QiE,cls]at hw
 case st x y n=>
  simp only[QiE]at hw;split at hw
  ·rename_i l ver i j hx;simp only[osi,pmi,and_true]at hw;subst hw;have hmem:l∈tOf e h (.st x y n):=List.mem_append_left _ (List.mem_flatMap.2 ⟨x,by simp[Qbf],by rw[hx];simp[rfA,rfC]⟩);simp only[astep]at hs;split at hs
   ·rename_i cs hcs;split at hs
    ·rename_i hok;have hcy:∀h2,(∀l∈tOf e h (.st x y n),h2[l]? =h[l]?)->QaQ h2 cs=QaQ h cs:=λh2 hag=>QeB (Qgs (QdH hag y (by simp[Qbf])) hcs)
     have hold:∀k,h[l]? =some k->∀q∈rfB k,q∈tOf e h (.st x y n):=λk hk q hq=>by
      refine List.mem_append_right _ ?_;simp only[hx,hk];exact hq
     have hnew:∀q∈rfCs cs,q∈tOf e h (.st x y n):=λq hq=>by
      rw[Qqx hcs]at hq;exact List.mem_append_left _ (List.mem_flatMap.2 ⟨y,by simp[Qbf],hq⟩)
     rw[hx]at hs;cases hl:h[l]? with
     |none=>simp only[wr,wrd,hl]at hs;simp at hs
     |some k=>
      cases k with
      |bx bs=>
       by_cases hc:i=0/\j+cs.length<=bs.length
       ·have hw1:wr h (.c (.ptr l ver i j)) cs=some (h.set l (.bx (bs.take j++(cs++bs.drop (j+cs.length))))):=by simp only[wr,hl,if_pos hc]
        rw[hw1]at hs;simp only[osi,pmi]at hs;obtain⟨rfl,rfl⟩:=hs;refine⟨_,rfl,λq hq=> ?_,λh2 hag=> ?_⟩
        ·obtain⟨c,hc1,hc2⟩:=Qc2.1 hq;have hb:∀c∈bs,q∈rfC c->q∈tOf e h (.st x y n):=λc h1 h2=>hold _ hl q (Qc2.2 ⟨c,h1,h2⟩)
         rcases List.mem_append.1 hc1 with h1|h1
         ·exact hb c (List.mem_of_mem_take h1) hc2
         ·rcases List.mem_append.1 h1 with h1|h1
          ·exact hnew q (Qc2.2 ⟨c,h1,hc2⟩)
          ·exact hb c (List.mem_of_mem_drop h1) hc2
        ·have hw2:wr h2 (.c (.ptr l ver i j)) cs=some (h2.set l (.bx (bs.take j++(cs++bs.drop (j+cs.length))))):=by simp only[wr,hag l hmem,hl,if_pos hc]
         simp only[astep,hcs,hcy h2 hag,if_pos hok,hx,hw2]
       ·simp only[wr,wrd,hl,if_neg hc]at hs;simp at hs
      |da r v' sz es=>
       have hw1:wr h (.c (.ptr l ver i j)) cs=none:=by simp only[wr,hl]
       rw[hw1]at hs;simp only[omi,pmi]at hs;obtain⟨h1,hs1,rfl,rfl⟩:=hs;simp only[wrd,hl]at hs1;split at hs1
       ·rename_i hv;split at hs1
        ·rename_i el ds he hds;split at hs1
         ·rename_i hj;cases hs1;refine⟨_,rfl,λq hq=>by simp[rfB]at hq,λh2 hag=> ?_⟩;have hw2:wr h2 (.c (.ptr l ver i j)) cs=none:=by simp only[wr,hag l hmem,hl]
          simp only[astep,hcs,hcy h2 hag,if_pos hok,hx,hw2,wrd,hag l hmem,hl,if_pos hv,he,hds,if_pos hj,Option.map_some]
         ·cases hs1
        ·cases hs1
       ·cases hs1
      |mp v es=>simp only[wr,wrd,hl]at hs;simp at hs
      |mi a b c=>simp only[wr,wrd,hl]at hs;simp at hs
      |dead=>simp only[wr,wrd,hl]at hs;simp at hs
      |am m=>simp only[wr,wrd,hl]at hs;simp at hs
    ·cases hs
   ·cases hs
  ·cases hw
 all_goals (simp[QiE,cls]at hw)
theorem Qwd{e:Env}{h h':Hp}{op:AOp}{v:AV}{b:Bool}(hw:QiE e h.length op=some (none,b))(hs:astep e h op=some (v,h')):
  h'=h/\∀h2,(∀l∈tOf e h op,h2[l]? =h[l]?)->astep e h2 op=some (v,h2):=by
 have hc:cls op=0:=by
  cases op
  case app sz bytes z x y=>
   simp only[QiE]at hw;split at hw<;>simp at hw
  case st x y n=>
   simp only[QiE]at hw;split at hw<;>simp at hw
  case mo o xs=>cases o<;>first|rfl|simp[QiE,cls]at hw
  all_goals first|rfl|simp[QiE,cls]at hw
 have key:∀h2,(∀l∈tOf e h op,h2[l]? =h[l]?)->h'=h/\astep e h2 op=some (v,h2):=λh2 hag=>QcS hc (QdH hag) (λx n hop=>by
  subst hop;by_cases hia:Qld (ev e x)
  ·right;obtain⟨b,o,he⟩:∃b o,ev e x= .c (.d (.adr b o)):=by
    revert hia;generalize ev e x=xv;intro hia;unfold Qld at hia;split at hia
    ·exact⟨_,_,rfl⟩
    ·exact hia.elim
   have hm:∃m r,h= .am m::r:=by
    cases n<;>simp only[astep,he,rd,Qw5]at hs<;>(cases h with
     |nil=>simp at hs
     |cons k r=>cases k<;>first|exact⟨_,_,rfl⟩|(simp at hs))
   obtain⟨m,r,rfl⟩:=hm;refine Qde.of0 (hag 0 ?_);simp[tOf,he,QA1]
  ·exact .inl hia) hs
 exact⟨(key h λ_ _=>rfl).1,λh2 hag=>(key h2 hag).2⟩
structure Ft where
 (i:Nat) (T:List Nat) (w:Option Nat) (al:Bool)
def Qzs:List Nat->Nat->Bool
 |[],_=>false
 |x::r,n=>match Nat.beq x n with
  |true=>true
  |false=>Qzs r n
theorem QqT{l:List Nat}{n:Nat}:Qzs l n=true↔n∈l:=by
 induction l with
 |nil=>simp[Qzs]
 |cons x r ih=>
  simp only[Qzs,List.mem_cons];split
  ·rename_i h;have:=Nat.eq_of_beq_eq_true h;simp[this]
  ·rename_i h;rw[ih];constructor
   ·exact .inr
   ·rintro(h'|h')
    ·subst h';simp at h
    ·exact h'
def okW:Option Nat->List Nat->Bool
 |none,_=>true
 |some l,T=>match Qzs T l with
  |true=>false
  |false=>true
theorem Qne{w:Option Nat}{T:List Nat}(h:okW w T=true):∀l,w=some l->l∉T:=by
 intro l hl hm;subst hl;simp only[okW]at h;rw[QqT.2 hm]at h;cases h
def neW:Option Nat->Option Nat->Bool
 |some a,some b=>match Nat.beq a b with
  |true=>false
  |false=>true
 |_,_=>true
theorem Qwb{a b:Option Nat}(h:neW a b=true):∀l,a=some l->b≠some l:=by
 intro l hl hb;subst hl hb;simp[neW]at h
def QA3(pre T:List Nat)(w:Option Nat)(vr:List Nat)(f:Ft):Bool:=
 match Qzs pre f.i with
 |true=>true
 |false=>match okW f.w T with
  |false=>false
  |true=>match okW w f.T with
   |false=>false
   |true=>match neW f.w w with
    |false=>false
    |true=>match f.al with
     |true=>okW f.w vr
     |false=>true
def Qvr(pre T:List Nat)(w:Option Nat)(vr:List Nat):List Ft->Bool
 |[]=>true
 |f::r=>match QA3 pre T w vr f with
  |true=>Qvr pre T w vr r
  |false=>false
theorem Qqy{pre T:List Nat}{w:Option Nat}{vr:List Nat}:∀{F:List Ft},Qvr pre T w vr F=true->∀f∈F,QA3 pre T w vr f=true
 |[],_,f,hf=>by cases hf
 |g::r,h,f,hf=>by
  simp only[Qvr]at h;split at h
  ·rename_i hg;rcases List.mem_cons.1 hf with rfl|hf
   ·exact hg
   ·exact Qqy h f hf
  ·cases h
theorem Qs7{pre T:List Nat}{w:Option Nat}{vr:List Nat}{f:Ft}(h:QA3 pre T w vr f=true):f.i∈pre\/((∀l,f.w=some l->l∉T/\w≠some l)/\(∀l,w=some l->l∉f.T)/\(f.al=true->∀l,f.w=some l->l∉vr)):=by
 simp only[QA3]at h;split at h
 ·rename_i hp;exact .inl (QqT.1 hp)
 ·split at h
  ·cases h
  ·rename_i h1;split at h
   ·cases h
   ·rename_i h2;split at h
    ·cases h
    ·rename_i h3;refine .inr ⟨λl hl=>⟨Qne h1 l hl,Qwb h3 l hl⟩,Qne h2,λha l hl=> ?_⟩;rw[ha]at h;exact Qne h l hl
def QBe(P:Program)(h:Hp)(f:Nat)(args:List AV)(fF:Nat->AV)(k:Blk):Prop:=∀h',(∀x∈args,QaU h h' x)->FnS P f args h' λr h''=>r=fF h'.length/\h''=h'++[k]
inductive CallG (P:Program) (pre:List Nat) (i:Nat) (F:List Ft) (L:Lv) (h:Hp) (f:Nat) (xs:List X) (T:List Nat) (K:List Ft->Lv->AV->Hp->Prop):Prop
 |old (hc:CallS P 0 true L h f xs λL' v h'=>match Qvr pre T none (rfA v) F with
   |true=>K (F++[⟨i,T,none,false⟩]) L' v h'
   |false=>False)
 |nw (fF:Nat->AV) (b:Blk) (ha:AlF fF) (hb:rfB b=[]) (hn:QBe P h f (QgQ L xs) fF b) (hc:Qvr pre T (some h.length) (rfA (fF h.length)) F=true) (k:K (F++[⟨i,T,some h.length,true⟩]) L (fF h.length) (h++[b]))
def vcG(P:Program)(Λ:Len)(m:Nat)(pre:List Nat)(i:Nat)(F:List Ft)(o:AO)(L:Lv)(h:Hp)(K:List Ft->Lv->AV->Hp->Prop):Prop:=
 match o.op with
 | .call f xs=>CallG P pre i F L h f xs (tOf (lkN L) h (.call f xs)) K
 |_=>match QiE (lkN L) h.length o.op with
 |some (w,al)=>QxA P Λ 0 true o.op L h λL' v h'=>match Qvr pre (tOf (lkN L) h o.op) w (rfA v) F with
  |true=>K (F++[⟨i,tOf (lkN L) h o.op,w,al⟩]) L' v h'
  |false=>False
 |none=>False
def Qo7:List (List Nat)->Nat->List Nat
 |[],_=>[]
 |x::_,0=>x
 |_::r,n+1=>Qo7 r n
def QsK(P:Program)(Λ:Len)(m:Nat)(pre:List (List Nat)):Nat->List Ft->List AO->Lv->Hp->(Lv->Hp->Prop)->Prop
 |_,_,[],L,h,K=>K L h
 |i,F,o::r,L,h,K=>match o.g with
  |none=>vcG P Λ m (Qo7 pre i) i F o L h λF' L' v h'=>QsK P Λ m pre (i+1) F' r (QdL L' o.dst v) h' K
  |some (s,want)=>match lkN L s with
   | .c (.d (.bool b))=>(match b,want with
    |true,true=>vcG P Λ m (Qo7 pre i) i F o L h λF' L' v h'=>QsK P Λ m pre (i+1) F' r (QdL L' o.dst v) h' K
    |false,false=>vcG P Λ m (Qo7 pre i) i F o L h λF' L' v h'=>QsK P Λ m pre (i+1) F' r (QdL L' o.dst v) h' K
    |true,false=>QsK P Λ m pre (i+1) F r (QdL L o.dst (.tup [])) h K
    |false,true=>QsK P Λ m pre (i+1) F r (QdL L o.dst (.tup [])) h K)
   | .tup []=>QsK P Λ m pre (i+1) F r (QdL L o.dst (.tup [])) h K
   |_=>False
theorem QuU{P:Program}{Λ:Len}{m:Nat}{pre:List (List Nat)}{i:Nat}{F:List Ft}{o:AO}{r:List AO}{L:Lv}{h:Hp}{K:Lv->Hp->Prop}(hv:QsK P Λ m pre i F (o::r) L h K):
  (gv (lkL L) o.g=some true/\vcG P Λ m (Qo7 pre i) i F o L h λF' L' v h'=>QsK P Λ m pre (i+1) F' r (QdL L' o.dst v) h' K)\/(gv (lkL L) o.g=some false/\QsK P Λ m pre (i+1) F r (QdL L o.dst (.tup [])) h K):=by
 simp only[QsK]at hv;split at hv
 ·rename_i hg;exact .inl ⟨by simp[hg,gv],hv⟩
 ·rename_i s want hg;split at hv
  ·rename_i b hb;rw[Qb2]at hb;have hgv:gv (lkL L) o.g=some (b==want):=by simp[hg,gv,lk,hb]
   split at hv
   ·exact .inl ⟨hgv,hv⟩
   ·exact .inl ⟨hgv,hv⟩
   ·exact .inr ⟨hgv,hv⟩
   ·exact .inr ⟨hgv,hv⟩
  ·rename_i hb;rw[Qb2]at hb;exact .inr ⟨by simp[hg,gv,lk,hb],hv⟩
  ·exact hv.elim
def Qus(P:Program)(m:Nat)(pre:List (List Nat)):Nat->List Ft->List AO->Lv->Hp->(Lv->Hp->Prop)->Prop
 |_,_,[],L,h,K=>K L h
 |i,F,o::r,L,h,K=>(gv (lkL L) o.g=some true/\∃w al,QiE (lkL L) h.length o.op=some (w,al)/\Did P 0 true o.op L h λL' v h'=>Qvr (Qo7 pre i) (tOf (lkL L) h o.op) w (rfA v) F=true/\
   Qus P m pre (i+1) (F++[⟨i,tOf (lkL L) h o.op,w,al⟩]) r (QdL L' o.dst v) h' K)\/(gv (lkL L) o.g=some true/\∃f xs fF b,o.op= .call f xs/\AlF fF/\rfB b=[]/\QBe P h f (evs (lkL L) xs) fF b/\Qvr (Qo7 pre i) (tOf (lkL L) h o.op) (some h.length) (rfA (fF h.length)) F=true/\
   Qus P m pre (i+1) (F++[⟨i,tOf (lkL L) h o.op,some h.length,true⟩]) r (QdL L o.dst (fF h.length)) (h++[b]) K)\/(gv (lkL L) o.g=some false/\Qus P m pre (i+1) F r (QdL L o.dst (.tup [])) h K)
theorem QuV{P:Program}{Λ:Len}(hΛ:∀l,Λ l=(l.length:Int)){m:Nat}{pre:List (List Nat)}{K:Lv->Hp->Prop}:∀{ops:List AO} {i:Nat} {F:List Ft} {L:Lv} {h:Hp},QsK P Λ m pre i F ops L h K->Qus P m pre i F ops L h K:=by
 intro ops;induction ops with
 |nil=>intro i F L h hv;exact hv
 |cons o r ih=>
  intro i F L h hv;have eN:lkN L=lkL L:=funext λn=>Qb2 L n
  rcases QuU hv with ⟨h1,h2⟩|⟨h1,h2⟩
  ·unfold vcG at h2;rw[eN]at h2;split at h2
   ·rename_i f xs hop;cases h2 with
    |old hc=>
     refine .inl ⟨h1,none,false,by rw[hop];rfl,.call f xs hop (hc.mono λL' v h' hk=> ?_)⟩;split at hk
     ·rename_i hc;exact⟨by rw[hop];exact hc,by rw[hop];exact ih hk⟩
     ·exact hk.elim
    |nw fF b ha hb hn hc hk=>
     rw[QcU]at hn;exact .inr (.inl ⟨h1,f,xs,fF,b,hop,ha,hb,hn,by rw[hop];exact hc,by rw[hop];exact ih hk⟩)
   ·split at h2
    ·rename_i w al hw;refine .inl ⟨h1,w,al,hw,(QlR hΛ h2).mono λL' v h' hk=> ?_⟩;split at hk
     ·rename_i hc;exact⟨hc,ih hk⟩
     ·exact hk.elim
    ·exact h2.elim
  ·exact .inr (.inr ⟨h1,ih h2⟩)
theorem Qus.mono{P:Program}{m:Nat}{pre:List (List Nat)}{K K':Lv->Hp->Prop}(hK:∀L h,K L h->K' L h):∀{ops:List AO} {i:Nat} {F:List Ft} {L:Lv} {h:Hp},Qus P m pre i F ops L h K->Qus P m pre i F ops L h K':=by
 intro ops;induction ops with
 |nil=>intro i F L h hr;exact hK _ _ hr
 |cons o r ih=>
  intro i F L h hr;rcases hr with ⟨h1,w,al,h2,h3⟩|⟨h1,f,xs,fF,b,c1,c2,c3,c4,c5,c6⟩|⟨h1,h2⟩
  ·exact .inl ⟨h1,w,al,h2,h3.mono λL' v h' hr=>⟨hr.1,ih hr.2⟩⟩
  ·exact .inr (.inl ⟨h1,f,xs,fF,b,c1,c2,c3,c4,c5,ih c6⟩)
  ·exact .inr (.inr ⟨h1,ih h2⟩)
def FOk(ops:Array Oper)(f:Ft)(q:Tr)(i:Nat):Prop:=
 Qvl ops i f.i=true\/((∀l,f.w=some l->l∉q.T/\q.t.tgt≠some l)/\(∀l,q.t.tgt=some l->l∉f.T)/\(f.al=true->∀l,f.w=some l->l∉rfA q.v/\l∉q.t.rf))
theorem QsM.congr{P:Program}{aops:List AO}{tr tr':Nat->Tr}:∀{l:List Nat} {e:Env} {h:Hp} {e':Env} {h':Hp},(∀i∈l,tr i=tr' i)->QsM P aops tr l e h e' h'->QsM P aops tr' l e h e' h'
 |[],_,_,_,_,_,hr=>hr
 |i::r,_,_,_,_,hc,⟨o,e1,h1,ho,hs,hr⟩=>⟨o,e1,h1,ho,by rw[<-hc i (by simp)];exact hs,hr.congr λj hj=>hc j (by simp[hj])⟩
section
variable{P:Program}{ro:Option Nat}{N:Nat}{G0:Nat->Prop}{ι0:Io}{h0:Hp}{w0:World}
theorem Qrk{ops:Array Oper}{o:Oper}{ao:AO}{e:Env}{h h':Hp}{v:AV}{a:Act}{w:World}(hc:QiP P ops N o=some ao)
 (hs:astep e h ao.op=some (v,h')\/(∃f xs,ao.op= .call f xs/\Qjd P h f (evs e xs) v/\h'=h))(hf:Fits N G0 ι0 h0 w0 e h a w):(∃a' w',Fits N G0 ι0 h0 w0 (Qcx e ao.dst v) h' a' w')/\∀l∈rfA v,l<h'.length:=by
 obtain⟨G,ι,st⟩:=hf;obtain⟨hd,hdN,hop,hg⟩:=Qbu hc;rcases hs with hs|⟨f,xs,h1,h2,rfl⟩
 ·rw[hop]at hs;obtain⟨v',w',G',ι',_,k1,k2,k3⟩:=QfR st.rel hs;rw[hd];exact⟨⟨_,w',G',ι',st.step hdN k1 k2 k3⟩,k2.lt⟩
 ·rw[hop]at h1;obtain⟨c,hoo⟩:=QcT h1;obtain⟨_,q2⟩:=Qc5 (a:=a) (w:=w) hoo h1;obtain⟨t1,t2⟩:=Qbe st.rel q2;obtain⟨fn,hfn⟩:=Qc7 hoo h1;obtain⟨en,w',fr,⟨v',r,G',ι',h',k0,k1,k2,k3,k4⟩,_⟩:=((h2.fn).out G ι w _ st.rel.hr ⟨t1,t2⟩).calls hfn [];obtain⟨rfl,rfl⟩:=k1;rw[hd];exact⟨⟨_,w',G',ι',st.step hdN k2 k3 k4⟩,k3.lt⟩
theorem Qux{ops:Array Oper}{o:Oper}{ao:AO}{e:Env}{h:Hp}{a:Act}{w:World}(hc:QiP P ops N o=some ao)(hf:Fits N G0 ι0 h0 w0 e h a w):∃a' w',Fits N G0 ι0 h0 w0 (Qcx e ao.dst (.tup [])) h a' w':=by
 obtain⟨G,ι,st⟩:=hf;obtain⟨hd,hdN,hop,hg⟩:=Qbu hc;rw[hd];exact⟨_,w,G,ι,st.step (v:=undef) hdN st.rel.hr (.tup #[] [] rfl (by simp)) (Ext.refl _ _ _ _)⟩
theorem QfN{o:AO}{e e':Env}(he:∀n∈Qa1 o,e' n=e n):gv e' o.g=gv e o.g:=by
 cases hgo:o.g with
 |none=>rfl
 |some p=>
  obtain⟨s,q⟩:=p;have:e' s=e s:=he s (by simp[Qa1,hgo]);simp only[gv,lk,this]
theorem QmI{o:AO}{e e':Env}(he:∀n∈Qa1 o,e' n=e n):∀x∈Qbf o.op,ev e' x=ev e x:=
 λx hx=>Qgy λn hn=>he n (by simp only[Qa1,List.mem_append,List.mem_flatMap];exact .inr ⟨x,hx,hn⟩)
theorem QqA{h:Hp}{k:Blk}{m:Nat}:(h++List.replicate (m+1) Blk.dead).set h.length k=(h++[k])++List.replicate m Blk.dead:=by
 rw[List.set_append_right _ _ (Nat.le_refl _),Nat.sub_self,List.replicate_succ];simp
def QhA(o:AO):Bool:=(Qbf o.op).all λ
 | .k v=>(rfA v).isEmpty
 | .t _=>true
theorem QwA{m:Nat}{ops:Array Oper}{aops:List AO}{pre:List (List Nat)}(hcomp:Qa2 P ops N ops.toList=some aops)(hpre:∀i j,j∈Qo7 pre i->Qvl ops i j=true)(hcon:aops.all QhA=true):
  ∀(aos:List AO) (k:Nat) (F:List Ft) (L:Lv) (h:Hp) (K:Lv->Hp->Prop),(∀i,i<aos.length->aos[i]? =aops[k+i]?)->Qus P m pre k F aos L h K->(∃a w,Fits N G0 ι0 h0 w0 (lkL L) h a w)->
  ∃mm tr L' h',QsM P aops tr (List.range' k aos.length) (lkL L) (h++List.replicate mm .dead) (lkL L') h'/\K L' h'/\(∀i∈List.range' k aos.length,∀f∈F,FOk ops f (tr i) i)/\
   (∀i∈List.range' k aos.length,∀l b,(tr i).t= .al l b->h.length<=l/\l<h.length+mm/\∀x∈rfB b,x<l)/\TC ops tr (List.range' k aos.length):=by
 intro aos;induction aos with
 |nil=>
  intro k F L h K _ hv _;refine⟨0,λ_=>⟨.tup [],.no,[]⟩,L,h,⟨rfl,by simp⟩,hv,by simp,by simp,⟨by simp,by simp⟩⟩
 |cons o aos ih=>
  intro k F L h K hk hv hfit;have hok:aops[k]? =some o:=by have:=hk 0 (by simp);simpa using this.symm
  obtain⟨oo,hoo⟩:∃oo,ops.toList[k]? =some oo:=⟨_,lgE (by have:=Qaa hok;have:=(QaD hcomp).1;omega)⟩;have hao:=(QaD hcomp).2 k oo o hoo hok;have hk':∀i,i<aos.length->aos[i]? =aops[k+1+i]? :=λi hi=>by
   have:=hk (i+1) (by simp;omega);simp only[List.getElem?_cons_succ]at this;rw[this];congr 1;omega
  obtain⟨a,w,hf⟩:=hfit;have hlt:∀l∈tOf (lkL L) h o.op,l<h.length:=by
   intro l hl;obtain⟨G,ι,st⟩:=hf;rcases List.mem_append.1 hl with hl|hl
   ·obtain⟨x,hx,hxl⟩:=List.mem_flatMap.1 hl;cases x with
    |t n=>exact(st.rel.env n).lt l hxl
    |k v=>
     rw[List.all_eq_true]at hcon;have hc:=hcon o (mgE hok);simp only[QhA,List.all_eq_true]at hc;have:=hc _ hx;simp only[List.isEmpty_iff]at this;simp only[ev,this]at hxl;cases hxl
   ·split at hl
    ·split at hl
     ·split at hl
      ·rename_i kb hkb;exact(st.rel.hr.blk _ kb hkb).lt l hl
      ·cases hl
     ·cases hl
    ·split at hl
     ·exact QxL hl
     ·cases hl
    ·cases hl
  have fin:∀(q:Tr) (h1:Hp) (F':List Ft) (mm mm':Nat) (L1:Lv),(∀i,lkL L1 i=Qcx (lkL L) o.dst q.v i)->S3 P o q (lkL L) (h++List.replicate mm .dead) (Qcx (lkL L) o.dst q.v) (h1++List.replicate mm' .dead)->
    (h1.length+mm'=h.length+mm)->h.length<=h1.length->(∀f∈F,FOk ops f q k)->(∀l b,q.t= .al l b->h.length<=l/\l<h1.length/\(⟨k,q.T,some l,true⟩:Ft)∈F'/\∀x∈rfB b,x<l)->(∀l∈rfA q.v,l<h1.length)->(∀l∈q.t.rf,l<h1.length)->(∀f∈F,f∈F')->
    (∃f∈F',f.i=k/\f.w=q.t.tgt/\f.T=q.T)\/(q.t= .no/\q.T=[])->
    (∃tr L' h',QsM P aops tr (List.range' (k+1) aos.length) (lkL L1) (h1++List.replicate mm' .dead) (lkL L') h'/\K L' h'/\(∀i∈List.range' (k+1) aos.length,∀f∈F',FOk ops f (tr i) i)/\
     (∀i∈List.range' (k+1) aos.length,∀l b,(tr i).t= .al l b->h1.length<=l/\l<h1.length+mm'/\∀x∈rfB b,x<l)/\TC ops tr (List.range' (k+1) aos.length))->
    ∃mm tr L' h',QsM P aops tr (List.range' k (o::aos).length) (lkL L) (h++List.replicate mm .dead) (lkL L') h'/\K L' h'/\(∀i∈List.range' k (o::aos).length,∀f∈F,FOk ops f (tr i) i)/\
     (∀i∈List.range' k (o::aos).length,∀l b,(tr i).t= .al l b->h.length<=l/\l<h.length+mm/\∀x∈rfB b,x<l)/\TC ops tr (List.range' k (o::aos).length):=by
   intro q h1 F' mm mm' L1 hL hS hlen hle hF hal hv1 hrf hsub hrec ⟨tr,L',h',r1,r2,r3,r4,r5⟩;have hrange:List.range' k (o::aos).length=k::List.range' (k+1) aos.length:=by simp[List.range'_succ]
   rw[hrange];have hgt:∀i∈List.range' (k+1) aos.length,k<i:=λi hi=>by have:=List.mem_range'_1.1 hi;omega
   have htr:∀i∈List.range' (k+1) aos.length,(if i=k then q else tr i)=tr i:=λi hi=>by rw[if_neg (by have:=hgt i hi;omega)]
   refine⟨mm,λi=>if i=k then q else tr i,L',h',?_,r2,?_,?_,?_,?_⟩
   ·refine⟨o,_,_,hok,by simp only[if_true];exact hS,?_⟩;rw[show Qcx (lkL L) o.dst q.v=lkL L1 from (funext hL).symm];exact r1.congr λi hi=>(htr i hi).symm
   ·intro i hi f hf;rcases List.mem_cons.1 hi with rfl|hi
    ·simp only[if_true];exact hF f hf
    ·simp only[htr i hi];exact r3 i hi f (hsub f hf)
   ·intro i hi l b hq;rcases List.mem_cons.1 hi with rfl|hi
    ·simp only[if_true]at hq;obtain⟨g1,g2,_,g4⟩:=hal l b hq;exact⟨g1,by omega,g4⟩
    ·simp only[htr i hi]at hq;obtain⟨g1,g2,g3⟩:=r4 i hi l b hq;exact⟨by omega,by omega,g3⟩
   ·intro i hi j hj hji hb;rcases List.mem_cons.1 hi with rfl|hi
    ·rcases List.mem_cons.1 hj with rfl|hj
     ·omega
     ·have:=hgt j hj;omega
    ·simp only[htr i hi];rcases List.mem_cons.1 hj with rfl|hj
     ·simp only[if_true];rcases hrec with ⟨f,hf',f1,f2,f3⟩|⟨f1,f2⟩
      ·rcases r3 i hi f hf' with h|⟨h1,h2,_⟩
       ·rw[f1,hb]at h;cases h
       ·exact⟨λl hl=>h1 l (by rw[f2];exact hl),λl hl=>by rw[<-f3];exact h2 l hl⟩
      ·exact⟨(λl hl=>by rw[f1]at hl;cases hl),λl _=>by rw[f2];simp⟩
     ·simp only[htr j hj];exact r5.dis i hi j hj hji hb
   ·intro i hi j hj hji hb l b hq;rcases List.mem_cons.1 hj with rfl|hj
    ·simp only[if_true]at hq;rcases List.mem_cons.1 hi with rfl|hi
     ·exact absurd rfl hji
     ·simp only[htr i hi];obtain⟨_,_,g3,_⟩:=hal l b hq;rcases r3 i hi _ g3 with h|⟨_,_,h3⟩
      ·simp only at h;rw[hb]at h;cases h
      ·exact h3 rfl l rfl
    ·simp only[htr j hj]at hq;rcases List.mem_cons.1 hi with rfl|hi
     ·simp only[if_true];have:=(r4 j hj l b hq).1;exact⟨λh=>by have:=hv1 l h;omega,λh=>by have:=hrf l h;omega⟩
     ·simp only[htr i hi];exact r5.new i hi j hj hji hb l b hq
  have rec1:∀(w:Option Nat) (v:AV) (q:Tr) (h1:Hp) (L1:Lv),q.v=v->q.T=tOf (lkL L) h o.op->q.t.tgt=w->(∀l∈q.t.rf,l∈q.T)->Qvr (Qo7 pre k) (tOf (lkL L) h o.op) w (rfA v) F=true->∀f∈F,FOk ops f q k:=by
   intro w v q h1 L1 e1 e2 e3 e4 hchk f hf';rcases Qs7 (Qqy hchk f hf')with h|⟨c1,c2,c3⟩
   ·exact .inl (hpre k f.i h)
   ·refine .inr ⟨λl hl=>⟨by rw[e2];exact(c1 l hl).1,by rw[e3];exact(c1 l hl).2⟩,λl hl=>c2 l (by rw[<-e3];exact hl),λha l hl=>⟨by rw[e1];exact c3 ha l hl,λhm=>(c1 l hl).1 (by rw[<-e2];exact e4 l hm)⟩⟩
  rcases hv with ⟨hgv,w,al,hw,hv⟩|⟨hgv,fc,xs,fF,bk,ho,hfo,hbk,hns,hchk,hk1⟩|⟨hgv,hv⟩
  ··
    have rec1:=rec1 w;cases hv with
    |wk hd=>cases hd
    |step v h1 hs hcl hk1=>
     ·obtain⟨hchk,hk1⟩:=hk1;obtain⟨hfit1,hvl⟩:=Qrk hao (.inl hs) hf;obtain⟨mm',tr,L',h',r1,r2,r3,r4,r5⟩:=ih (k+1) _ (QdL L o.dst v) h1 K hk' hk1 (by rw[QaX];exact hfit1);have hst:∀(e':Env) (hx:∀n∈Qa1 o,e' n=lkL L n) (h2:Hp),astep e' h2 o.op=astep (lkL L) h2 o.op:=λe' hx h2=>Qey (QmI hx)
      cases w with
      |none=>
       obtain⟨he,hall⟩:=Qwd hw hs;obtain rfl:h=h1:=he.symm;refine fin ⟨v,.no,tOf (lkL L) h o.op⟩ h _ mm' mm' (QdL L o.dst v) (λi=>by rw[QaX]) ⟨λe' h2 hx hh=> .inr ⟨by rw[QfN hx];exact hgv,.inl ?_⟩,rfl,rfl,λl k hq=>by cases hq⟩ rfl (Nat.le_refl _)
        (rec1 v _ h L rfl rfl rfl (λl hl=>by cases hl) hchk) (λl b hq=>by cases hq) hvl (λl hl=>by cases hl) (λf hf=>List.mem_append_left _ hf) (.inl ⟨_,List.mem_append_right _ (List.mem_singleton.2 rfl),rfl,rfl,rfl⟩) ⟨tr,L',h',r1,r2,r3,r4,r5⟩
       rw[hst e' hx h2];exact hall h2 λl hl=>by rw[hh l hl,gal (hlt l hl)]
      |some l=>
       cases al with
       |false=>
        obtain⟨b,rfl,hb,hall⟩:=QwS hw hs;have hll:l<h.length:=by
         rcases Nat.lt_or_ge l h.length with hx|hx
         ·exact hx
         ·exfalso;have hmem:l∈tOf (lkL L) h o.op:=by
           cases hop:o.op
           case app sz bytes z x y=>
            rw[hop]at hw;simp only[QiE]at hw;split at hw
            ·rename_i l0 v0 i0 n0 hxv;simp only[osi,pmi,and_true]at hw;subst hw;exact List.mem_append_left _ (List.mem_flatMap.2 ⟨x,by simp[Qbf],by rw[hxv];simp[rfA,rfC]⟩)
            ·simp at hw
            ·cases hw
           case st x y n=>
            rw[hop]at hw;simp only[QiE]at hw;split at hw
            ·rename_i l0 v0 i0 n0 hxv;simp only[osi,pmi,and_true]at hw;subst hw;exact List.mem_append_left _ (List.mem_flatMap.2 ⟨x,by simp[Qbf],by rw[hxv];simp[rfA,rfC]⟩)
            ·cases hw
           case mo oo xs=>rw[hop]at hw;cases oo<;>simp[QiE,cls]at hw
           all_goals (rw[hop]at hw;simp[QiE,cls]at hw)
          have:=hlt l hmem;omega
        refine fin ⟨v,.up l b,tOf (lkL L) h o.op⟩ (h.set l b) _ mm' mm' (QdL L o.dst v) (λi=>by rw[QaX]) ⟨λe' h2 hx hh=> .inr ⟨by rw[QfN hx];exact hgv,?_⟩,rfl,by simp only[Wt.ap];rw[List.set_append_left _ _ hll],λl k hq=>by cases hq⟩ (by simp) (by simp)
         (rec1 v _ h L rfl rfl rfl (λl hl=>hb l hl) hchk) (λl b hq=>by cases hq) hvl (λl hl=>by have:=hlt l (hb l hl);simp;omega) (λf hf=>List.mem_append_left _ hf) (.inl ⟨_,List.mem_append_right _ (List.mem_singleton.2 rfl),rfl,rfl,rfl⟩) ⟨tr,L',h',r1,r2,r3,r4,r5⟩
        show astep e' h2 o.op=some (v,h2.set l b);rw[hst e' hx h2];exact hall h2 λl hl=>by rw[hh l hl,gal (hlt l hl)]
       |true=>
        obtain⟨rfl,f,b,hfo,rfl,rfl,hbr,hall⟩:=Qvd hw hs λhc=>hcl rfl hc
        have hbl:∀x∈rfB b,x<h.length:=λx hx=>hlt x (hbr x hx)
        refine fin ⟨f h.length,.al h.length b,tOf (lkL L) h o.op⟩ (h++[b]) _ (mm'+1) mm' (QdL L o.dst (f h.length)) (λi=>by rw[QaX]) ⟨λe' h2 hx hh=> .inr ⟨by rw[QfN hx];exact hgv,f,hfo,rfl,.inl ?_⟩,rfl,by simp only[Wt.ap];rw[QqA],λl k hq=>by cases hq;rw[apQ (Nat.le_refl _)];simp⟩ (by simp;omega) (by simp)
         (rec1 _ _ h L rfl rfl rfl (λl hl=>hbr l hl) hchk) (λl c hq=>by cases hq;exact⟨Nat.le_refl _,by simp,List.mem_append_right _ (List.mem_singleton.2 rfl),hbl⟩) hvl (λl hl=>by have:=hbl l hl;simp;omega) (λf hf=>List.mem_append_left _ hf) (.inl ⟨_,List.mem_append_right _ (List.mem_singleton.2 rfl),rfl,rfl,rfl⟩) ⟨tr,L',h',r1,r2,r3,r4,r5⟩
        rw[hst e' hx h2];exact hall h2 λl hl=>by rw[hh l hl,gal (hlt l hl)]
    |call f xs ho hc=>
     cases hc with
     |ro h0=>exact absurd h0 (Nat.lt_irrefl _)
     |pure hp hk1=>
      rename_i r;rw[QcU]at hp
      ·obtain⟨hchk,hk1⟩:=hk1;have hw':w=none:=by rw[ho]at hw;simp only[QiE,cls,osi,pmi]at hw;exact hw.1.symm
       subst hw';obtain⟨hfit1,hvl⟩:=Qrk hao (.inr ⟨f,xs,ho,hp,rfl⟩) hf;obtain⟨mm',tr,L',h',r1,r2,r3,r4,r5⟩:=ih (k+1) _ (QdL L o.dst r) h K hk' hk1 (by rw[QaX];exact hfit1);refine fin ⟨r,.no,tOf (lkL L) h o.op⟩ h _ mm' mm' (QdL L o.dst r) (λi=>by rw[QaX]) ⟨λe' h2 hx hh=> .inr ⟨by rw[QfN hx];exact hgv,.inr ⟨f,xs,ho,?_⟩⟩,rfl,rfl,λl k hq=>by cases hq⟩ rfl (Nat.le_refl _)
        (rec1 r _ h L rfl rfl rfl (λl hl=>by cases hl) hchk) (λl b hq=>by cases hq) hvl (λl hl=>by cases hl) (λf hf=>List.mem_append_left _ hf) (.inl ⟨_,List.mem_append_right _ (List.mem_singleton.2 rfl),rfl,rfl,rfl⟩) ⟨tr,L',h',r1,r2,r3,r4,r5⟩
       have hev:=QmI hx;rw[ho]at hev hh;rw[Qdv (xs:=xs) (e:=e') (e':=lkL L) hev];refine hp.agree λy hy=> ?_
       obtain⟨i,hi⟩:=List.mem_iff_getElem?.1 hy;obtain⟨x,hx1,rfl⟩:=(QmJ (e:=lkL L) (xs:=xs)).2 i y hi;refine QdH (h0:=h) (op:= .call f xs) (λl hl=> ?_) x (mgE hx1);rw[hh l hl,gal (hlt l (by rw[ho];exact hl))]
    |callv x xs b f caps ho hd=>cases hd
    |yl x xs l ho hd=>cases hd
    |ivk rows x xs b t caps g k pv rv ho hd=>cases hd
    |ar K0 hd=>cases hd
    |nil ne x nl sz l ho hd=>cases hd
    |len x sz l ho hd=>cases hd
    |lenA x l v i n ho hd=>cases hd
  ·have rec1:=rec1 (some h.length);have hbl:∀x∈rfB bk,x<h.length:=λx hx=>by rw[hbk]at hx;cases hx
   have hbr:∀x∈rfB bk,x∈tOf (lkL L) h o.op:=λx hx=>by rw[hbk]at hx;cases hx
   have hfit1:∃a' w',Fits N G0 ι0 h0 w0 (Qcx (lkL L) o.dst (fF h.length)) (h++[bk]) a' w':=by
    obtain⟨G,ι,st⟩:=hf;obtain⟨hd,hdN,hop,hg⟩:=Qbu hao;rw[hop]at ho;obtain⟨c,hoo⟩:=QcT ho;obtain⟨_,q2⟩:=Qc5 (a:=a) (w:=w) hoo ho;obtain⟨fd,hfd⟩:=Qc7 hoo ho;obtain⟨t1,t2⟩:=Qbe st.rel q2;obtain⟨en,w',fr,⟨v',r,G',ι',h',j0,j1,j2,j3,j4⟩,_⟩:=((hns h λx _=>Qjp h x).out G ι w _ st.rel.hr ⟨t1,t2⟩).calls hfd [];obtain⟨rfl,rfl⟩:=j1;rw[hd];exact⟨_,w',G',ι',st.step hdN j2 j3 j4⟩
   have hvl:∀l∈rfA (fF h.length),l<(h++[bk]).length:=by
    intro l hl;have:l=h.length:=by
     rcases hfo with ⟨q,qv,rfl⟩|rfl|rfl<;>simpa [rfA,rfC]using hl
    subst this;simp
   obtain⟨mm',tr,L',h',r1,r2,r3,r4,r5⟩:=ih (k+1) _ (QdL L o.dst (fF h.length)) (h++[bk]) K hk' hk1 (by rw[QaX];exact hfit1);refine fin ⟨fF h.length,.al h.length bk,tOf (lkL L) h o.op⟩ (h++[bk]) _ (mm'+1) mm' (QdL L o.dst (fF h.length)) (λi=>by rw[QaX]) ⟨λe' h2 hx hh=> .inr ⟨by rw[QfN hx];exact hgv,fF,hfo,rfl,.inr ⟨fc,xs,ho,?_⟩⟩,rfl,by simp only[Wt.ap];rw[QqA],λl k hq=>by cases hq;rw[apQ (Nat.le_refl _)];simp⟩ (by simp;omega) (by simp)
    (rec1 _ _ h L rfl rfl rfl (λl hl=>hbr l hl) hchk) (λl c hq=>by cases hq;exact⟨Nat.le_refl _,by simp,List.mem_append_right _ (List.mem_singleton.2 rfl),hbl⟩) hvl (λl hl=>by have:=hbl l hl;simp;omega) (λf hf=>List.mem_append_left _ hf) (.inl ⟨_,List.mem_append_right _ (List.mem_singleton.2 rfl),rfl,rfl,rfl⟩) ⟨tr,L',h',r1,r2,r3,r4,r5⟩
   have hev:=QmI hx;rw[ho]at hev hh;rw[Qdv (xs:=xs) (e:=e') (e':=lkL L) hev];refine hns h2 λy hy=> ?_
   obtain⟨i,hi⟩:=List.mem_iff_getElem?.1 hy;obtain⟨x,hx1,rfl⟩:=(QmJ (e:=lkL L) (xs:=xs)).2 i y hi;refine QdH (h0:=h) (op:= .call fc xs) (λl hl=> ?_) x (mgE hx1);rw[hh l hl,gal (hlt l (by rw[ho];exact hl))]
  ·obtain⟨mm',tr,L',h',r1,r2,r3,r4,r5⟩:=ih (k+1) F (QdL L o.dst (.tup [])) h K hk' hv (by rw[QaX];exact Qux hao hf);exact fin ⟨.tup [],.no,[]⟩ h F mm' mm' (QdL L o.dst (.tup [])) (λi=>by rw[QaX]) ⟨λe' h2 hx _=> .inl ⟨by rw[QfN hx];exact hgv,rfl,rfl⟩,rfl,rfl,λl k hq=>by cases hq⟩ rfl (Nat.le_refl _)
    (λf _=> .inr ⟨λl _=>⟨by simp,by simp[Wt.tgt]⟩,(λl hl=>by cases hl),λ_ l _=>⟨by simp[rfA,rfA.rfAs],by simp[Wt.rf]⟩⟩) (λl b hq=>by cases hq) (λl hl=>by simp[rfA,rfA.rfAs]at hl) (λl hl=>by cases hl) (λf hf=>hf) (.inr ⟨rfl,rfl⟩) ⟨tr,L',h',r1,r2,r3,r4,r5⟩
theorem Fits.len0{e:Env}{h:Hp}{a:Act}{w:World}(hf:Fits N G0 ι0 h0 w0 e h a w):h0.length<=h.length:=by
 obtain⟨G,ι,st⟩:=hf;rcases Nat.lt_or_ge h.length h0.length with hlt|hge
 ·obtain⟨k',h1,_⟩:=st.ext.keep h.length _ (lgE hlt);have:=Qaa h1;omega
 ·exact hge
theorem QoQ{m:Nat}{ops:Array Oper}{aops:List AO}{pre:List (List Nat)}(hcomp:Qa2 P ops N ops.toList=some aops)(hpre:∀i j,j∈Qo7 pre i->Qvl ops i j=true)(hcon:aops.all QhA=true)
 {aos:List AO}{k:Nat}{L:Lv}{h:Hp}{K:Lv->Hp->Prop}(hk:∀i,i<aos.length->aos[i]? =aops[k+i]?)(hv:Qus P m pre k [] aos L h K){a:Act}{w:World}(hf:Fits N G0 ι0 h0 w0 (lkL L) h a w):
  QAZ P h0.length ops aops (List.range' k aos.length) (lkL L) h λe h=>∃L',e=lkL L'/\K L' h:=by
 obtain⟨mm,tr,L',h',r1,r2,_,r4,r5⟩:=QwA hcomp hpre hcon aos k [] L h K hk hv ⟨a,w,hf⟩;have hl0:=hf.len0;obtain⟨G,ι,st⟩:=hf;refine⟨mm,tr,_,h',r1,r5,λi hi l b hq=> ?_,L',rfl,r2⟩;obtain⟨g1,g2,g3⟩:=r4 i hi l b hq;refine⟨⟨λn hm=> ?_,λj kb hj hm=> ?_⟩,by omega,λhm=>by have:=g3 l hm;omega,λx hx=> ?_⟩
 ·have:=(st.rel.env n).lt l hm;omega
 ·rcases Nat.lt_or_ge j h.length with hjl|hjl
  ·rw[gal hjl]at hj;have:=(st.rel.hr.blk j kb hj).lt l hm;omega
  ·rw[apQ hjl]at hj;have:=mgE hj;rw[List.mem_replicate]at this;rw[this.2]at hm;cases hm
 ·have:=g3 x hx;simp only[List.length_append,List.length_replicate];omega
end
def QB5(f:Nat)(ops:List Oper):Bool:=(ops.any λo=>match o.op with
  | .call c=>(match c.callee with
   | .value (.func g)=>g==f
   |_=>false)
  |_=>false)&&ops.any λo=>match o.op with
  | .store .. =>true
  |_=>false
def QoR(f:Nat):Code->Bool
 | .region _ ops _=>QB5 f ops.toList
 | .seq a b=>QoR f a||QoR f b
 | .cond _ a b=>QoR f a||QoR f b
 | .block _ c=>QoR f c
 | .loop c=>QoR f c
 | .scope c=>QoR f c
 |_=>false
def QB4(P:Program)(f:Nat):Bool:=match P.funcs[f]? with
 |some fn=>(match fn.body with
  |some c=>QoR f c
  |none=>false)
 |none=>false
def Qtj(os:List AO):List Nat:=os.filterMap (·.dst)
def QAt(ds:List Nat)(o:AO):Bool:=hfree o.op||(match o.op with
 | .ld (.t s) _=> !ds.contains s
 |_=>false)
def QAu(o:AO):List Nat:=match o.op with
 | .ld (.t s) _=>[s]
 |_=>[]
def QqW(o:AO):Bool:=hfree o.op||(match o.op with
 | .call .. =>false
 | .callv .. =>false
 | .ivk .. =>false
 | .ld (.k _) _=>false
 |_=>Qb4 o)
def Qfj(o:AO):List Nat:=match hfree o.op with
 |true=>[]
 |false=>(Qbf o.op).flatMap Qsn
def QvS:AOp->Bool
 | .ld _ _=>true
 |_=>false
def QBH(o:AO):List (Nat×Bool):=(Qfj o).map λs=>(s,QvS o.op)
section
variable{P:Program}{ro:Option Nat}{N:Nat}{G0:Nat->Prop}{ι0:Io}{h0:Hp}{w0:World}
theorem Qe6.slot{aops:List AO}{n:Nat}:∀{l:List Nat} {e:Env} {h:Hp} {e':Env} {h':Hp},(∀j∈l,∀o,aops[j]? =some o->o.dst≠some n)->Qe6 P aops l e h e' h'->e' n=e n:=by
 intro l;induction l with
 |nil=>intro e h e' h' _ hr;obtain⟨rfl,rfl⟩:=hr;rfl
 |cons i l ih=>
  intro e h e' h' hd hr;obtain⟨o,e1,h1,ho,hs,hr⟩:=hr;rw[ih (λj hj=>hd j (by simp[hj])) hr];obtain⟨v,_,rfl⟩:=hs.1.eff;exact Qbl (hd i (by simp) o ho)
theorem Qe6.append{aops:List AO}{l2:List Nat}{e2:Env}{h2:Hp}{e3:Env}{h3:Hp}:∀{l1:List Nat} {e:Env} {h:Hp},Qe6 P aops l1 e h e2 h2->Qe6 P aops l2 e2 h2 e3 h3->Qe6 P aops (l1++l2) e h e3 h3:=by
 intro l1;induction l1 with
 |nil=>intro e h h1 h4;obtain⟨rfl,rfl⟩:=h1;exact h4
 |cons i l1 ih=>
  intro e h h1 h4;obtain⟨o,e1,h1',ho,hs,hr⟩:=h1;exact⟨o,e1,h1',ho,hs,ih hr h4⟩
theorem Qe6.late{aops:List AO}{d:Option Nat}{v:AV}{hx h2:Hp}{eL:Env}{ds:List Nat}:∀{l:List Nat} {e:Env} {e':Env},(∀j∈l,∀o,aops[j]? =some o->cls o.op=0/\(QAt ds o=true\/h2=hx)/\(∀x,d=some x->x∉Qa1 o)/\(∀x,o.dst=some x->d≠some x)/\
      ∀s∈QAu o,s∉ds->QaU hx h2 (eL s)/\¬Qld (eL s))->(∀s,s∉ds->e s=eL s)->(∀j∈l,∀o,aops[j]? =some o->∀x,o.dst=some x->x∈ds)->Qe6 P aops l e hx e' hx->Qe6 P aops l (Qcx e d v) h2 (Qcx e' d v) h2:=by
  intro l;induction l with
  |nil=>intro e e' _ _ _ hr;obtain⟨rfl,_⟩:=hr;exact⟨rfl,rfl⟩
  |cons i l ih=>
    intro e e' hl he hds hr;obtain⟨o,e1,h1,ho,hs,hr⟩:=hr;obtain⟨q1,q2,q3,q4,q5⟩:=hl i (by simp) o ho;obtain⟨va,ea,rfl⟩:=hs.1.eff;have:=ea.same q1;subst this;have ea2:Eff P o e h2 va h2:=by
      rcases q2 with q2|q2
      rotate_left
      · rw[q2];exact ea
      simp only[QAt,Bool.or_eq_true]at q2;rcases q2 with q2|q2
      · exact(ea.hfree q2).2 h2
      · split at q2
        · rename_i s k hop
          have hsd:s∉ds:=by simpa using q2
          have hag:=q5 s (by simp[QAu,hop]) hsd;rcases ea with ⟨h0,h1,_⟩|⟨h0,h1|⟨f,xs,h2',_⟩⟩
          · exact .inl ⟨h0,h1,rfl⟩
          · refine .inr ⟨h0,.inl (QcS q1 (λx hx=> ?_) (λx n ho=> ?_) h1).2⟩
            · rw[hop]at hx
              simp only[Qbf,List.mem_singleton]at hx;subst hx;show QaU _ _ (e s);rw[he s hsd];exact hag.1
            · rw[hop]at ho
              cases ho;left;show ¬Qld (e s);rw[he s hsd];exact hag.2
          · rw[hop]at h2';cases h2'
        · cases q2
    have ea3:Eff P o (Qcx e d v) h2 va h2:=ea2.congr λn hn=>(Qbl λhd=>q3 n hd hn).symm
    have hc:Qcx (Qcx e d v) o.dst va=Qcx (Qcx e o.dst va) d v:=Qg8 λx hx hox=>q4 x hox hx
    refine⟨o,Qcx (Qcx e o.dst va) d v,h2,ho,⟨by rw[<-hc];exact ea3.step,λhc=>by omega⟩,ih (λj hj=>hl j (by simp[hj])) (λs hs=> ?_) (λj hj=>hds j (by simp[hj])) hr⟩;rw[Qbl λhd=>hs (hds i (by simp) o ho s hd)];exact he s hs
theorem Qe6.late2{aops:List AO}{d:Option Nat}{v:AV}{hx h2:Hp}:∀{l:List Nat} {e:Env} {e':Env},(∀j∈l,∀o,aops[j]? =some o->cls o.op=0/\(QqW o=true\/h2=hx)/\(∀x,d=some x->x∉Qa1 o)/\(∀x,o.dst=some x->d≠some x)/\
      ∀s∈Qfj o,QaU hx h2 (e' s)/\(QvS o.op=true->¬Qld (e' s)))->l.Pairwise (·<·)->(∀i∈l,∀o,aops[i]? =some o->∀s∈Qfj o,∀j∈l,i<=j->∀o',aops[j]? =some o'->o'.dst≠some s)->Qe6 P aops l e hx e' hx->Qe6 P aops l (Qcx e d v) h2 (Qcx e' d v) h2:=by
  intro l;induction l with
  |nil=>intro e e' _ _ _ hr;obtain⟨rfl,_⟩:=hr;exact⟨rfl,rfl⟩
  |cons i l ih=>
    intro e e' hl hsrt hord hr;have hr0:=hr;obtain⟨o,e1,h1,ho,hs,hr⟩:=hr;obtain⟨q1,q2,q3,q4,q5⟩:=hl i (by simp) o ho;obtain⟨va,ea,rfl⟩:=hs.1.eff;have:=ea.same q1;subst this;have hsl:∀s∈Qfj o,e' s=e s:=λs hs=>Qe6.slot (λj hj o' ho'=>hord i (by simp) o ho s hs j hj (by
      rcases List.mem_cons.1 hj with rfl|hj
      · exact Nat.le_refl _
      · exact Nat.le_of_lt ((List.pairwise_cons.1 hsrt).1 j hj)) o' ho') hr0
    have ea2:Eff P o e h2 va h2:=by
      rcases q2 with q2|q2
      rotate_left
      · rw[q2];exact ea
      cases hh:hfree o.op with
      |true=>exact(ea.hfree hh).2 h2
      |false=>
        simp only[QqW,hh,Bool.false_or]at q2;rcases ea with ⟨h0,h1,_⟩|⟨h0,h1|⟨f,xs,h2',_⟩⟩
        · exact .inl ⟨h0,h1,rfl⟩
        · have hk:Qb4 o=true:=by
            split at q2
            · cases q2
            · cases q2
            · cases q2
            · cases q2
            · exact q2
          simp only[Qb4,List.all_eq_true]at hk;refine .inr ⟨h0,.inl (QcS q1 (λx hx=> ?_) (λx n ho=> ?_) h1).2⟩
          · cases x with
            |t s=>
              have hs:s∈Qfj o:=by
                simp only[Qfj,hh,List.mem_flatMap];exact⟨_,hx,by simp[Qsn]⟩
              show QaU _ _ (e s);rw[<-hsl s hs];exact(q5 s hs).1
            |k v=>exact QjV (hk _ hx)
          · left
            cases x with
            |t s=>
              have hs:s∈Qfj o:=by
                simp only[Qfj,hh,List.mem_flatMap];exact⟨.t s,by rw[ho];simp[Qbf],by simp[Qsn]⟩
              show ¬Qld (e s);rw[<-hsl s hs];exact(q5 s hs).2 (by rw[ho];rfl)
            |k v=>rw[ho]at q2;cases q2
        · rw[h2']at q2;cases q2
    have ea3:Eff P o (Qcx e d v) h2 va h2:=ea2.congr λn hn=>(Qbl λhd=>q3 n hd hn).symm
    have hc:Qcx (Qcx e d v) o.dst va=Qcx (Qcx e o.dst va) d v:=Qg8 λx hx hox=>q4 x hox hx
    exact⟨o,Qcx (Qcx e o.dst va) d v,h2,ho,⟨by rw[<-hc];exact ea3.step,λhc=>by omega⟩,ih (λj hj=>hl j (by simp[hj])) (List.pairwise_cons.1 hsrt).2 (λi2 hi2 o2 ho2 s hs j hj=>hord i2 (by simp[hi2]) o2 ho2 s hs j (by simp[hj])) hr⟩
end
end Go.Ab
