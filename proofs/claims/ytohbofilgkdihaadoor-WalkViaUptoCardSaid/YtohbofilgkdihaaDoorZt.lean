/-
  Merged texts, part t.
-/
import Derived.Test.YtohbofilgkdihaaDoorZs
set_option linter.all false
namespace Go.Ab
open Go.Proofs
def QrX(S:List WSt)(ys:List WSt):List (List D):=ys.map fun y=>[iD (Qy3 S y:Nat)]
theorem Qpu{S r ys:List WSt}(h:∀y∈ys,y∈S):QrX (S++r) ys=QrX S ys:=by
 rw[QrX,QrX];exact List.map_congr_left fun y hy=>by rw[Quc (h y hy)]
structure XpI (g:Wlk) (p:Pkt) (m m':Ar) (l:List StR) (i:Nat) (ys:List WSt):Prop where
 pk:∀s∈l,s.p={p with stack:=s.p.stack,hops:=0}/\s.co=0/\s.ct=0
 dn:∀j s,j<i->l[j]? =some s->s.ar=QaU (g.ar s.key)/\s.rs=g.rs s.key/\(∀y∈g.nx s.key,y∈l.map StR.key)/\Qc8 1 m' s.nx (QrX (l.map StR.key) (g.nx s.key))
 cu:∀s,l[i]? =some s->(∀y∈ys,y∈l.map StR.key)/\Qc8 1 m' s.nx (QrX (l.map StR.key) ys)
 td:∀j s,i<j->l[j]? =some s->s.nx= .list true 1 []
 fr:∀(j:Nat) s b,l[j]? =some s->InB s.nx b->m b=none
 ds:∀(j j':Nat) s s' b,l[j]? =some s->l[j']? =some s'->InB s.nx b->InB s'.nx b->j=j'
 mm:∀b,m b≠none->m' b=m b
theorem XpI.start(g:Wlk)(p:Pkt)(m:Ar)(n:Int)(q:Pkt)(hq:{q with hops:=0}={p with stack:=q.stack,hops:=0}):XpI g p m m [Qou n q] 0 []where
 pk s hs:=by
  simp at hs;subst hs;exact⟨hq,rfl,rfl⟩
 dn j s hj:=by omega
 cu s hs:=by
  simp at hs;subst hs;exact⟨fun y hy=>(by cases hy),.inl ⟨rfl,rfl⟩⟩
 td j s hj hs:=by
  rw[List.getElem?_eq_none (by simp;omega)]at hs;cases hs
 fr j s b hs hb:=by
  have:s=Qou n q:=by
   have:=mgE hs;simpa using this
  subst this;exact(Qa3 hb).elim
 ds j j' s s' b hs hs' _ _:=by
  have h1:=(List.getElem?_eq_some_iff.1 hs).1;have h2:=(List.getElem?_eq_some_iff.1 hs').1;simp at h1 h2;omega
 mm b _:=rfl
theorem XpI.row{g:Wlk}{p:Pkt}{m m':Ar}{l:List StR}{i:Nat}{ys:List WSt}(h:XpI g p m m' l i ys){j:Nat}{s:StR}{b:Nat}(hs:l[j]? =some s)(hb:InB s.nx b):m' b≠none:=by
 rcases Nat.lt_trichotomy j i with hj|hj|hj
 ·exact(h.dn j s hj hs).2.2.2.key' hb
 ·subst hj;exact(h.cu s hs).2.key' hb
 ·rw[h.td j s hj hs]at hb;exact(Qa3 hb).elim
theorem XpI.add{g:Wlk}{p:Pkt}{m m':Ar}{l:List StR}{i:Nat}{ys:List WSt}(h:XpI g p m m' l i ys)(hi:i<l.length)(n:Int)(q:Pkt)(hq:{q with hops:=0}={p with stack:=q.stack,hops:=0}):XpI g p m m' (Qq8 l n q) i ys:=by
 unfold Qq8;split
 ·exact h
 ·have hk:(l++[Qou n q]).map StR.key=l.map StR.key++[(n,q.stack)]:=by rw[List.map_append];rfl
  have hget:∀(j:Nat) s,(l++[Qou n q])[j]? =some s->l[j]? =some s\/(j=l.length/\s=Qou n q):=by
   intro j s hs;by_cases hj:j<l.length
   ·rw[gal hj]at hs;exact .inl hs
   ·have:=(List.getElem?_eq_some_iff.1 hs).1;simp at this;obtain rfl:j=l.length:=by omega
    rw[List.getElem?_append_right (Nat.le_refl _),Nat.sub_self]at hs;exact .inr ⟨rfl,(osj hs).symm⟩
  have hnn:∀b,¬InB (Qou n q).nx b:=fun b hb=>Qa3 hb
  refine⟨fun s hs=> ?_,fun j s hj hs=> ?_,fun s hs=> ?_,fun j s hj hs=> ?_,fun j s b hs hb=> ?_,fun j j' s s' b hs hs' hb hb'=> ?_,h.mm⟩
  ·rcases List.mem_append.1 hs with hs|hs
   ·exact h.pk s hs
   ·simp at hs;subst hs;exact⟨hq,rfl,rfl⟩
  ·rcases hget j s hs with hs|⟨e,-⟩
   ·obtain⟨h1,h2,h3,h4⟩:=h.dn j s hj hs;refine⟨h1,h2,fun y hy=>by rw[hk];exact List.mem_append_left _ (h3 y hy),?_⟩;rw[hk,Qpu h3];exact h4
   ·omega
  ·rcases hget i s hs with hs|⟨e,-⟩
   ·obtain⟨h1,h2⟩:=h.cu s hs;refine⟨fun y hy=>by rw[hk];exact List.mem_append_left _ (h1 y hy),?_⟩;rw[hk,Qpu h1];exact h2
   ·omega
  ·rcases hget j s hs with hs|⟨_,e⟩
   ·exact h.td j s hj hs
   ·rw[e];rfl
  ·rcases hget j s hs with hs|⟨_,e⟩
   ·exact h.fr j s b hs hb
   ·rw[e]at hb;exact(hnn b hb).elim
  ·rcases hget j s hs with hs|⟨_,e⟩
   ·rcases hget j' s' hs' with hs'|⟨_,e⟩
    ·exact h.ds j j' s s' b hs hs' hb hb'
    ·rw[e]at hb';exact(hnn b hb').elim
   ·rw[e]at hb;exact(hnn b hb).elim
theorem QdT{l:List StR}{i j:Nat}{s s' u:StR}(hu:(l.set i s')[j]? =some u)(hs:l[i]? =some s):(j=i/\u=s')\/(j≠i/\l[j]? =some u):=by
 rw[List.getElem?_set]at hu;split at hu
 ·rename_i e;split at hu
  ·exact .inl ⟨e.symm,(osj hu).symm⟩
  ·cases hu
 ·rename_i e;exact .inr ⟨fun h=>e h.symm,hu⟩
theorem QoK{l:List StR}{i:Nat}{s s':StR}(hs:l[i]? =some s)(hk:s'.key=s.key):(l.set i s').map StR.key=l.map StR.key:=by
 rw[List.map_set,hk];refine List.ext_getElem? fun j=> ?_
 rw[List.getElem?_set];split
 ·rename_i e;subst e;rw[gtm,hs];split
  ·rfl
  ·rename_i h;exact absurd (by rw[List.length_map];exact(List.getElem?_eq_some_iff.1 hs).1) h
 ·rfl
theorem XpI.set{g:Wlk}{p:Pkt}{m m' m2:Ar}{l:List StR}{i:Nat}{ys zs:List WSt}{s:StR}(h:XpI g p m m' l i ys)(hs:l[i]? =some s)(a d:D)(rs:Int)(hr:Qc8 1 m2 d (QrX (l.map StR.key) zs))(hz:∀y∈zs,y∈l.map StR.key)
 (hsm:∀b,m' b≠none->¬InB s.nx b->m2 b=m' b)(hnw:∀b,InB d b->InB s.nx b\/m' b=none):XpI g p m m2 (l.set i {s with ar:=a,nx:=d,rs:=rs}) i zs:=by
 have hk:(l.set i {s with ar:=a,nx:=d,rs:=rs}).map StR.key=l.map StR.key:=QoK hs rfl;have hfr:∀b,InB d b->m b=none:=fun b hb=>by
  rcases hnw b hb with e|e
  ·exact h.fr i s b hs e
  ·by_cases hm:m b=none
   ·exact hm
   ·rw[h.mm b hm]at e;exact e
 have hrow:∀(j:Nat) u L,j≠i->l[j]? =some u->Qc8 1 m' u.nx L->Qc8 1 m2 u.nx L:=fun j u L hj hu hr=>hr.frame fun b hb=>hsm b (hr.key' hb) fun e=>hj (h.ds j i u s b hu hs hb e)
 refine⟨fun u hu=> ?_,fun j u hj hu=> ?_,fun u hu=> ?_,fun j u hj hu=> ?_,fun j u b hu hb=> ?_,fun j j' u u' b hu hu' hb hb'=> ?_,fun b hb=> ?_⟩
 ·rcases List.mem_or_eq_of_mem_set hu with hu|hu
  ·exact h.pk u hu
  ·subst hu;exact h.pk s (mgE hs)
 ·rcases QdT hu hs with ⟨e,-⟩|⟨e,hu⟩
  ·omega
  ·obtain⟨h1,h2,h3,h4⟩:=h.dn j u hj hu;rw[hk];exact⟨h1,h2,h3,hrow j u _ e hu h4⟩
 ·rcases QdT hu hs with ⟨e,e2⟩|⟨e,hu⟩
  ·rw[hk,e2];exact⟨hz,hr⟩
  ·exact absurd rfl e
 ·rcases QdT hu hs with ⟨e,-⟩|⟨e,hu⟩
  ·omega
  ·exact h.td j u hj hu
 ·rcases QdT hu hs with ⟨e,e2⟩|⟨e,hu⟩
  ·rw[e2]at hb;exact hfr b hb
  ·exact h.fr j u b hu hb
 ·have one:∀(j':Nat) u' b,j'≠i->l[j']? =some u'->InB u'.nx b->¬InB d b:=fun j' u' b hj hu' hb' hb=>by
   rcases hnw b hb with e|e
   ·exact hj (h.ds j' i u' s b hu' hs hb' e)
   ·exact h.row hu' hb' e
  rcases QdT hu hs with ⟨e,e2⟩|⟨e,hu⟩
  ·rcases QdT hu' hs with ⟨e',-⟩|⟨e',hu'⟩
   ·rw[e,e']
   ·rw[e2]at hb;exact(one j' u' b e' hu' hb' hb).elim
  ·rcases QdT hu' hs with ⟨e',e2⟩|⟨e',hu'⟩
   ·rw[e2]at hb';exact(one j u b e hu hb hb').elim
   ·exact h.ds j j' u u' b hu hu' hb hb'
 ·have hm':m' b≠none:=by rw[h.mm b hb];exact hb
  rw[hsm b hm' fun e=>hb (h.fr i s b hs e)];exact h.mm b hb
theorem XpI.next{g:Wlk}{p:Pkt}{m m':Ar}{l:List StR}{i:Nat}{s:StR}(hs:l[i]? =some s)(h:XpI g p m m' l i (g.nx s.key))(ha:s.ar=QaU (g.ar s.key))(hr:s.rs=g.rs s.key):XpI g p m m' l (i+1) []where
 pk:=h.pk
 dn j u hj hu:=by
  by_cases e:j=i
  ·subst e;rw[hs]at hu;cases hu;exact⟨ha,hr,h.cu s hs⟩
  ·exact h.dn j u (by omega) hu
 cu u hu:=⟨fun y hy=>(by cases hy),.inl ⟨h.td (i+1) u (by omega) hu,rfl⟩⟩
 td j u hj hu:=h.td j u (by omega) hu
 fr:=h.fr
 ds:=h.ds
 mm:=h.mm
structure XpL (g:Wlk) (p:Pkt) (m m':Ar) (l0 l:List StR) (i k:Nat) (s:WSt):Prop where
 xp:XpI g p m m' l i ((g.nx s).take k)
 at_:∃u,l[i]? =some u/\u.key=s/\u.ar=QaU (g.ar s)/\u.rs=g.rs s
 ks:l.map StR.key=((g.nx s).take k).foldl QxK (l0.map StR.key)
 len:l.length<=1+i*1000+k
theorem Qts(l:List StR)(n:Int)(q:Pkt):(Qq8 l n q).length<=l.length+1/\l.length<=(Qq8 l n q).length:=by
 unfold Qq8;split
 ·omega
 ·rw[List.length_append];simp
theorem XpL.row{g:Wlk}{p:Pkt}{m m':Ar}{l0 l:List StR}{i k:Nat}{s:WSt}(h:XpL g p m m' l0 l i k s):∃nx,l[i]? =some ⟨s.1,{p with stack:=s.2,hops:=0},QaU (g.ar s),nx,g.rs s,0,0⟩:=by
 obtain⟨u,hu,h1,h2,h3⟩:=h.at_;obtain⟨q1,q2,q3⟩:=h.xp.pk u (mgE hu);refine⟨u.nx,?_⟩;rw[hu];subst h1;obtain⟨a,b,c,d,e,f,z⟩:=u;simp only at h2 h3 q1 q2 q3 ⊢;rw[h2,h3,q2,q3];exact congrArg (fun b'=>some (StR.mk a b' _ d _ 0 0)) q1
theorem XpL.step{g:Wlk}{p:Pkt}{m m1 m2:Ar}{l0 l:List StR}{i k:Nat}{s y:WSt}(h:XpL g p m m1 l0 l i k s)(hk:(g.nx s)[k]? =some y){n:Int}{q:Pkt}(hn:n=y.1)(hst:q.stack=y.2)(hq:{q with hops:=0}={p with stack:=q.stack,hops:=0}){nx d:D}
 (hu:(Qq8 l n q)[i]? =some ⟨s.1,{p with stack:=s.2,hops:=0},QaU (g.ar s),nx,g.rs s,0,0⟩)(hg:Grw m1 m2 nx d (QrX ((Qq8 l n q).map StR.key) ((g.nx s).take k)++[[iD (Qy3 ((Qq8 l n q).map StR.key) (n,q.stack):Nat)]])):
  XpL g p m m2 l0 ((Qq8 l n q).set i ⟨s.1,{p with stack:=s.2,hops:=0},QaU (g.ar s),d,g.rs s,0,0⟩) i (k+1) s:=by
 obtain⟨u0,hu0,_⟩:=h.at_;have hil:=(List.getElem?_eq_some_iff.1 hu0).1;have hX:=h.xp.add hil n q hq;obtain⟨c1,-⟩:=hX.cu _ hu;have e:(n,q.stack)=y:=by rw[hn,hst]
 have hyk:y∈(Qq8 l n q).map StR.key:=by rw[QoZ,e];exact Qtt _ _
 have hil2:=(List.getElem?_eq_some_iff.1 hu).1;refine⟨hX.set hu (QaU (g.ar s)) d (g.rs s) ?_ ?_ hg.same hg.new,⟨_,List.getElem?_set_self hil2,rfl,rfl,rfl⟩,?_,?_⟩
 ·rw[Qas hk,QrX,List.map_append,←QrX,List.map_cons,List.map_nil,←e];exact hg.row
 ·intro z hz;rw[Qas hk]at hz;rcases List.mem_append.1 hz with hz|hz
  ·exact c1 z hz
  ·simp at hz;rw[hz];exact hyk
 ·rw[QoK hu (s':=⟨s.1,{p with stack:=s.2,hops:=0},QaU (g.ar s),d,g.rs s,0,0⟩) rfl,QoZ,h.ks,Qas hk,List.foldl_append,e];rfl
 ·rw[List.length_set];have:=(Qts l n q).1;have:=h.len;omega
def Qz8:Option (Option Int)->Int
 |none=>0
 |some none=>1
 |some (some _)=>2
structure VsI (g:Wlk) (m:Ar) (S:List WSt) (K:Kn WSt) (l:List StR):Prop where
 ks:l.map StR.key=S
 row:∀s∈l,Qc8 1 m s.nx (QrX S (g.nx s.key))/\∀y∈g.nx s.key,y∈S
 co:∀s∈l,s.co=Qz8 (lkK K s.key)
 ct:∀s∈l,(∀c,lkK K s.key=some (some c)->s.ct=c)/\(lkK K s.key=none->s.ct=0)
def StR.base(s:StR):StR:={s with co:=0,ct:=0}
structure VisO (g:Wlk) (m:Ar) (S:List WSt) (K:Kn WSt) (l:List StR) (o:Option (Kn WSt)) (q:AV) (l':List StR):Prop where
 base:l'.map StR.base=l.map StR.base
 op:∀(i:Nat) u u',l[i]? =some u->l'[i]? =some u'->lkK K u.key=some none->u'.ct=u.ct
 res:match o with
  |some K'=>q=bA true/\VsI g m S K' l'
  |none=>q=bA false
theorem Qo1{l l':List StR}(h:l'.map StR.base=l.map StR.base){i:Nat}{u:StR}(hu:l[i]? =some u):∃u',l'[i]? =some u'/\u'.base=u.base:=by
 have:=congrArg (fun l=>l[i]?) h;simp only[gtm,hu,Option.map_some]at this;cases h':l'[i]? with
 |none=>rw[h']at this;cases this
 |some u'=>
  rw[h']at this;exact⟨u',rfl,osj this⟩
theorem Qo2{u u':StR}(h:u'.base=u.base):u'.key=u.key/\u'.p=u.p/\u'.ar=u.ar/\u'.nx=u.nx/\u'.rs=u.rs:=by
 obtain⟨a,b,c,d,e,f,z⟩:=u;obtain⟨a',b',c',d',e',f',z'⟩:=u';simp only[StR.base,StR.mk.injEq]at h;obtain⟨rfl,rfl,rfl,rfl,rfl,-,-⟩:=h;exact⟨rfl,rfl,rfl,rfl,rfl⟩
theorem Qo3{l:List StR}{j:Nat}{u:StR}(hu:l[j]? =some u)(co ct:Int):(l.set j {u with co:=co,ct:=ct}).map StR.base=l.map StR.base:=by
 rw[List.map_set];refine List.ext_getElem? fun i=> ?_
 rw[List.getElem?_set];split
 ·rename_i e;subst e;rw[gtm,hu,List.length_map,if_pos (List.getElem?_eq_some_iff.1 hu).1];rfl
 ·rfl
theorem VsI.set{g:Wlk}{m:Ar}{S:List WSt}{K K':Kn WSt}{l:List StR}(h:VsI g m S K l)(hS:S.Nodup){j:Nat}{u:StR}(hu:l[j]? =some u)(co ct:Int)(hK:∀x,x≠u.key->lkK K' x=lkK K x)(hco:co=Qz8 (lkK K' u.key))
 (hct:(∀c,lkK K' u.key=some (some c)->ct=c)/\(lkK K' u.key=none->ct=0)):VsI g m S K' (l.set j {u with co:=co,ct:=ct}):=by
 have hmem:∀w∈l.set j {u with co:=co,ct:=ct},w={u with co:=co,ct:=ct}\/(w∈l/\w.key≠u.key):=by
  intro w hw;obtain⟨i,hi⟩:=List.getElem?_of_mem hw;rcases QdT hi hu with ⟨-,e⟩|⟨e,hi⟩
  ·exact .inl e
  ·refine .inr ⟨mgE hi,fun hk=>e ?_⟩;have h1:S[i]? =some w.key:=by rw[←h.ks,gtm,hi];rfl
   have h2:S[j]? =some u.key:=by rw[←h.ks,gtm,hu];rfl
   rw[hk]at h1;exact(List.getElem?_inj (List.getElem?_eq_some_iff.1 h1).1 hS).1 (h1.trans h2.symm)
 have hum:=mgE hu;refine⟨by rw[QoK hu (s':={u with co:=co,ct:=ct}) rfl];exact h.ks,fun w hw=> ?_,fun w hw=> ?_,fun w hw=> ?_⟩
 ·rcases hmem w hw with rfl|⟨hw,-⟩
  ·exact h.row u hum
  ·exact h.row w hw
 ·rcases hmem w hw with rfl|⟨hw,hne⟩
  ·exact hco
  ·rw[hK _ hne];exact h.co w hw
 ·rcases hmem w hw with rfl|⟨hw,hne⟩
  ·exact hct
  ·rw[hK _ hne];exact h.ct w hw
structure RvL (g:Wlk) (m:Ar) (S:List WSt) (K0:Kn WSt) (l0:List StR) (f:Kn WSt->WSt->Option (Kn WSt)) (Pre:Kn WSt->Prop) (s:WSt) (c0:Int) (j k:Nat) (K:Kn WSt) (l:List StR) (c:Int):Prop where
 vs:VsI g m S K l
 pre:Pre K
 opn:lkK K s=some none
 opK:∀x,lkK K0 x=some none->lkK K x=some none
 base:l.map StR.base=l0.map StR.base
 op:∀(i:Nat) u u',i≠j->l0[i]? =some u->l[i]? =some u'->lkK K0 u.key=some none->u'.ct=u.ct
 at_:∃u,l[j]? =some u/\u.key=s/\u.ct=c
 cn:0<=c/\c<=1001
 eq:Qgd f (g.nx s) (K0++[(s,none)]) c0=Qgd f ((g.nx s).drop k) K c
section
variable{g:Wlk}{m:Ar}{S:List WSt}{K0:Kn WSt}{l0:List StR}{f:Kn WSt->WSt->Option (Kn WSt)}{Pre:Kn WSt->Prop}{s:WSt}{c0:Int}{j k:Nat}{K:Kn WSt}{l:List StR}{c:Int}
theorem RvL.call(h:RvL g m S K0 l0 f Pre s c0 j k K l c){o:Option (Kn WSt)}{q:AV}{l':List StR}(hv:VisO g m S K l o q l'):l'.map StR.base=l0.map StR.base/\(∀(i:Nat) u u',i≠j->l0[i]? =some u->l'[i]? =some u'->lkK K0 u.key=some none->u'.ct=u.ct):=by
 refine⟨hv.base.trans h.base,fun i u u' hi hu hu' ho=> ?_⟩;obtain⟨w,hw,hb⟩:=Qo1 h.base hu;have:=(Qo2 hb).1;rw[hv.op i w u' hw hu' (by rw[this];exact h.opK _ ho)];exact h.op i u w hi hu hw ho
theorem RvL.next(h:RvL g m S K0 l0 f Pre s c0 j k K l c)(hS:S.Nodup){y:WSt}(hk:(g.nx s)[k]? =some y){K':Kn WSt}(hf:f K y=some K')(hp:Pre K')(hd:DfsR g.nx K K'){q:AV}{l':List StR}(hv:VisO g m S K l (f K y) q l'){cy:Int}(hy:lkK K' y=some (some cy))(h0:0<=cy/\cy<=1001){c':Int}(hc:c'=QiN (c+cy)){u:StR}(hu:l'[j]? =some u):
  RvL g m S K0 l0 f Pre s c0 j (k+1) K' (l'.set j {u with ct:=c'}) c':=by
 have hcl:=h.call hv;rw[hf]at hv;obtain⟨rfl,hvs⟩:=hv.res;have hop:=hd.old _ _ h.opn;have hus:u.key=s:=by
  obtain⟨w,hw,h1,_⟩:=h.at_;obtain⟨w',hw',hb⟩:=Qo1 hv.base hw;rw[hu]at hw';cases hw';rw[(Qo2 hb).1,h1]
 have hset:=hvs.set hS hu u.co c' (fun _ _=>rfl) (hvs.co u (mgE hu)) ⟨fun c hc=>(by rw[hus,hop]at hc;cases hc),fun hc=>(by rw[hus,hop]at hc;cases hc)⟩;refine⟨hset,hp,hop,fun x hx=>hd.old _ _ (h.opK x hx),(Qo3 hu u.co c').trans hcl.1,fun i w w' hi hw hw' ho=> ?_,⟨_,List.getElem?_set_self (List.getElem?_eq_some_iff.1 hu).1,hus,rfl⟩,?_,?_⟩
 ·rcases QdT hw' hu with ⟨e,-⟩|⟨-,hw'⟩
  ·exact absurd e hi
  ·exact hcl.2 i w w' hi hw hw' ho
 ·have:=h.cn;rw[hc];simp only[QiN];split<;>omega
 ·rw[h.eq,List.drop_eq_getElem_cons (List.getElem?_eq_some_iff.1 hk).1,(List.getElem?_eq_some_iff.1 hk).2];simp only[Qgd,hf];rw[Qxw,hy,hc];rfl
theorem RvL.done(h:RvL g m S K0 l0 f Pre s c0 j k K l c)(hS:S.Nodup)(hk:(g.nx s).length<=k)(hs0:lkK K0 s=none)(hl0:∃u,l0[j]? =some u/\u.key=s){u:StR}(hu:l[j]? =some u):Qgd f (g.nx s) (K0++[(s,none)]) c0=some (K,c)/\VisO g m S K0 l0 (some (QkH K s c)) (bA true) (l.set j {u with co:=2}):=by
 obtain⟨w,hw,h1,h2⟩:=h.at_;rw[hu]at hw;cases hw;have hl:lkK (QkH K s c) s=some (some c):=by rw[Qgn,if_pos rfl,h.opn];rfl
 refine⟨by rw[h.eq,List.drop_of_length_le hk];rfl,(Qo3 hu 2 u.ct).trans h.base,fun i w w' hw hw' ho=> ?_,rfl,?_⟩
 ·rcases QdT hw' hu with ⟨e,-⟩|⟨e,hw'⟩
  ·subst e;obtain⟨w2,hw2,hk2⟩:=hl0;rw[hw]at hw2;cases hw2;rw[hk2,hs0]at ho;cases ho
  ·exact h.op i w w' e hw hw' ho
 ·refine h.vs.set hS hu 2 u.ct (fun x hx=> ?_) ?_ ⟨fun c' hc'=> ?_,fun hc'=> ?_⟩
  ·rw[Qgn,if_neg (by rw[←h1];exact hx)]
  ·rw[h1,hl];rfl
  ·rw[h1,hl]at hc';cases hc';exact h2
  ·rw[h1,hl]at hc';cases hc'
end
end Go.Ab
namespace Go.Ab
def QuE(n:Nat):AV->Bool
 | .tup l=>l.all (QeO n)
 |x=>QeO n x
theorem QsH(ρ:Nat->Nat):∀(l:List AV) (i:Nat),(rnAs ρ l)[i]? =(l[i]?).map (rnA ρ)
 |[],_=>by simp[rnAs,rnA.rnAs]
 |x::l,0=>by simp[rnAs,rnA.rnAs]
 |x::l,i+1=>by
  have:=QsH ρ l i;simpa [rnAs,rnA.rnAs]using this
theorem QsI(ρ:Nat->Nat):∀(l:List AV),(rnAs ρ l).length=l.length
 |[]=>rfl
 |x::l=>by
  have:=QsI ρ l;simpa [rnAs,rnA.rnAs]using this
theorem VR.unrnT{G:Nat->Prop}{w:World}{ι ιc:Io}{h hc:Hp}{ρ:Nat->Nat}(am:Among ρ ιc hc ι h){v:Value}{x:AV}(hx:VR G w ι h v (rnA ρ x))(hr:QuE hc.length x=true):VR G w ιc hc v x:=by
 cases x with
 |c x=>exact hx.unrn am hr
 |agg l=>exact hx.unrn am hr
 |tup l=>
  cases hx with
  |tup cs _ hn h1=>
   have h1:∀(i:Nat) (v:Value) (x:AV),cs[i]? =some v->(rnAs ρ l)[i]? =some x->VR G w ι h v x:=h1;refine .tup cs l (by rw[hn];exact QsI ρ l) fun i v x hv hx=> ?_
   exact(h1 i v (rnA ρ x) hv (by rw[QsH,hx];rfl)).unrn am (List.all_eq_true.1 hr x (mgE hx))
theorem FnS.gct{P:Program}{f:Nat}{args:List AV}{h:Hp}{R:AV->Hp->Prop}(hf:FnS P f args h R)(Q:AV->Hp->Prop)
   (hg:∀r h',R r h'->∃(σ:List Nat) (r':AV) (hc:Hp),Q r' hc/\σ.length=hc.length/\σ.Nodup/\(∀l∈σ,l<h'.length)/\(∀(i:Nat) (k:Blk),hc[i]? =some k->h'[rho σ h'.length i]? =some (rnB (rho σ h'.length) k))/\
      r=rnA (rho σ h'.length) r'/\Qc3 hc.length hc=true/\QuE hc.length r'=true/\h.length<=hc.length/\(∀i,i<h.length->rho σ h'.length i=i)/\∀k∈hc,∀m v es,k≠ .mi m v es):FnS P f args h Q:=by
  refine⟨fun G ι w vs hr hv=> ?_⟩;refine(hf.out G ι w vs hr hv).mono fun e w2 ⟨v,r,G2,ι2,h',he,hR,hr2,hvr,hx⟩=> ?_
  obtain⟨σ,r',hc,hQ,hlen,hnd,hlt,hh,hrr,hcl,hca,hle,hid,hmi⟩:=hg r h' hR;generalize hρ:rho σ h'.length=ρ at*;have rold:∀i,i<σ.length->σ[i]? =some (ρ i):=fun i hi=>by rw[←hρ];exact Qjz σ _ i hi
  have rnew:∀i,σ.length<=i->ρ i=h'.length+(i-σ.length):=fun i hi=>by rw[←hρ];exact Ql3 σ _ i hi
  have rmem:∀i,i<σ.length->ρ i∈σ:=fun i hi=>mgE (rold i hi)
  have rinj:∀i j,ρ i=ρ j->i=j:=by
    intro i j e;rcases Nat.lt_or_ge i σ.length with hi|hi<;>rcases Nat.lt_or_ge j σ.length with hj|hj
    · have h1:=rold i hi
      have h2:=rold j hj;rw[e,←h2]at h1;exact(List.getElem?_inj hi hnd).1 h1
    · have:=hlt _ (rmem i hi);have:=rnew j hj;omega
    · have:=hlt _ (rmem j hj);have:=rnew i hi;omega
    · have:=rnew i hi;have:=rnew j hj;omega
  let ιc:Io:=σ.map fun l=>(ι2[l]?).getD (0,0)
  have hιc:∀i,i<σ.length->ιc[i]? =ι2[ρ i]? :=by
    intro i hi;simp only[ιc,gtm,rold i hi,Option.map_some];rw[lgE (by rw[hr2.len];exact hlt _ (rmem i hi))];rfl
  have am:Among ρ ιc hc ι2 h':=⟨hh,fun i k hk=>(hιc i (by rw[hlen];exact Qaa hk)).symm⟩;have hrc:HR G2 ιc hc w2:=HR.down am hr2 (by simp[ιc,hlen]) (fun i j _ _ e=>rinj i j e) hcl;have hvc:VR G2 w2 ιc hc v r':=VR.unrnT am (hrr▸hvr) hca;refine⟨v,r',G2,ιc,hc,he,hQ,hrc,hvc,?_⟩;exact
    { size:=hx.size
      quiet:=hx.quiet
      frame:=hx.frame
      gmono:=hx.gmono
      gnew:=hx.gnew
      onew:=fun b ho=>hx.onew b (QdL am ho)
      keep:=fun l k hk=>by
        obtain⟨k',h1,h2⟩:=hx.keep l k hk;have hl:=Qaa hk;have hkc:hc[l]? =some (hc[l]'(by omega)):=lgE _;have h3:=hh l _ hkc;rw[hid l hl,h1]at h3;cases h3;exact⟨_,hkc,h2.unrn (by rw[hιc l (by omega),hid l hl]) (hmi _ (List.getElem_mem _))⟩}
open Go.Proofs
theorem Qc8.thaw{sz:Nat}{m:Ar}{d:D}{l:List (List D)}(h:Qc8 sz m d l)(hl:l.length<=9223372036854775807):ThD m d (.list false sz l):=by
 rcases h with ⟨rfl,rfl⟩|⟨b,N,cap,rfl,hm,hs,hc,hN⟩
 ·exact .fg _
 ·refine .row b 0 sz l.length cap N l.flatten l (fun i j=>l.flatten.getD (i*sz+j) default) hm rfl hc hl (fun i e he=>hs e (mgE he)) (fun i e j x he hx=> ?_) fun i e j x he hx=> ?_
  ·rw[Nat.zero_add,List.getD_eq_getElem?_getD,Qck hs he hx];rfl
  ·simp only[List.getD_eq_getElem?_getD,Qck hs he hx,Option.getD_some];exact .same _
theorem Qx6{σ:Type}{nx:σ->List σ}{U:List σ}(hU:∀x∈U,∀y∈nx x,y∈U){n:Nat}{x:σ}(hx:x∈U)(h:Dep nx n x):Dep nx U.length x:=by
 have key:∀n x,x∈U->Dep nx n x->(∀k,n=k+1->¬Dep nx k x)->∃l:List σ,l.Nodup/\(∀y∈l,y∈U/\Dep nx n y)/\l.length=n+1:=by
  intro n;induction n with
  |zero=>intro x hx h _;exact⟨[x],by simp,fun y hy=>by simp at hy;rw[hy];exact⟨hx,h⟩,rfl⟩
  |succ n ih=>
   intro x hx h hn;have hn:=hn n rfl;obtain⟨y,hy,hy2⟩:∃y∈nx x,∀k,n=k+1->¬Dep nx k y:=by
    cases n with
    |zero=>
     cases he:nx x with
     |nil=>exact absurd he hn
     |cons y r=>exact⟨y,by simp,fun k hk=>by omega⟩
    |succ k=>
     refine Classical.byContradiction fun hc=>hn fun y hy=>Classical.byContradiction fun hd=>hc ⟨y,hy,fun k' hk=> ?_⟩
     obtain rfl:k'=k:=by omega
     exact hd
   obtain⟨l,h1,h2,h3⟩:=ih y (hU x hx y hy) (h y hy) hy2;refine⟨x::l,?_,fun z hz=> ?_,by simp[h3]⟩
   ·rw[List.nodup_cons];exact⟨fun hm=>hn (h2 x hm).2,h1⟩
   ·rcases List.mem_cons.1 hz with rfl|hz
    ·exact⟨hx,h⟩
    ·exact⟨(h2 z hz).1,Qkn (h2 z hz).2⟩
 have min:∀n,Dep nx n x->∃k,k<=n/\Dep nx k x/\∀j,k=j+1->¬Dep nx j x:=by
  intro n;induction n with
  |zero=>intro h;exact⟨0,Nat.le_refl _,h,fun j hj=>by omega⟩
  |succ n ih=>
   intro h;by_cases hd:Dep nx n x
   ·obtain⟨k,h1,h2⟩:=ih hd;exact⟨k,by omega,h2⟩
   ·exact⟨n+1,Nat.le_refl _,h,fun j hj=>by
     obtain rfl:n=j:=by omega
     exact hd⟩
 obtain⟨k,-,h1,h2⟩:=min n h;obtain⟨l,g1,g2,g3⟩:=key k x hx h1 h2;have:=g1.length_le_of_subset fun y hy=>(g2 y hy).1
 exact QiQ (by omega) h1
theorem Qqb(P:Program)(hP:P=Tryd.prog){g:Wlk}{n:Nat}{x:WSt}{a bx bp Nx Np:Nat}{m:Ar}(hpt:PT g (fun _=>False) m n x a)(hmx:m bx=some (.cs Nx [.adr a 0]))(hmp:m bp=some (.cs Np [.list true 1 []]))(hn:n<=1000000)(hlen:(brR g n x []).length<=1000):
  FnS P QbH [.c (.fn false Qah [.d (.adr bx 0),.d (.adr bp 0)])] [.am m] fun r h'=>∃m' d,h'=[.am m']/\r= .c (.d d)/\Qc8 3 m' d ((brR g n x []).map QeM)/\(∀b,m b≠none->m' b=m b)/\∀b,InB d b->m b=none:=by
 have hsq:=QyQ P hP hpt hmx hmp hn hlen;refine QaO (hP▸mixed) (hP▸Qda) (hP▸Qde) (nle rfl) fun Λ Λo K hK=> ?_
 clear hP;have hend:=fun m' d h1 h2 h3=>hK (.c (.d d)) [.am m'] ⟨m',d,rfl,rfl,h1,h2,h3⟩
 clear hK;generalize (brR g n x []).map QeM=rl at*
 conv=>cbv
 repeat' first|(refine QaI [0] hsq rfl rfl (by decide) (by repeat' first|exact trivial|refine And.intro ?_ ?_|rfl) rfl rfl ?_;rintro r hc' ⟨m',d,rfl,rfl,q1,q2,q3⟩;have hfin:=hend m' d q1 q2 q3;(conv=>cbv))|exact hfin|exact gu|exact trivial|refine And.intro ?_ ?_|(intro hc;first|exact absurd hc (by decide)|(exfalso;omega)|((first|rw[wS (by omega) (by omega)]at hc|rw[Qad]at hc|skip);try (conv=>cbv)))|refine CallG.old ?_
def QjV(g:Wlk)(n:Nat)(s:WSt)(e:Int):List Rsl×Int:=
 if e=0 then (match dfs g.nx n [] s with
  |none=>([],16)
  |some _=>if 1000<num g.nx n s then ([],6)else (brR g n s [],0))else ([],e)
theorem QkI{g:Wlk}{m:Ar}{K:Kn WSt}{al:List Nat}{S:Nat->Prop}{d:D}{s:WSt}{a:Nat}{c:Int}(hI:PI g m K al S d)(hnd:(K.map (·.1)).Nodup)(ha:Qme K al s a)(hc:lkK K s=some (some c)):∃N nx,m a=some (.cs N (plD g s nx false c)):=by
 obtain⟨j,h1,h2⟩:=ha;rw[gtm,omi]at h1;obtain⟨⟨y,c'⟩,h3,rfl⟩:=h1;have:=Qkc hnd h3;rw[hc]at this;cases this;obtain⟨-,N,nx,ads,h4,-⟩:=hI.pl j _ c a h3 h2;exact⟨N,nx,h4⟩
theorem Quv{g:Wlk}{n k:Nat}{s:WSt}(hn:Dep g.nx n s)(hk:Dep g.nx k s):num g.nx n s=num g.nx k s:=by
 have h1:=QiE (ar:=g.ar) (to:=g.to) n s [];have h2:=QiE (ar:=g.ar) (to:=g.to) k s [];rcases Nat.le_total n k with h|h
 ·rw[Qvl g.ar g.to [] h hn,h1]at h2;exact h2
 ·rw[Qvl g.ar g.to [] h hk,h2]at h1;exact h1.symm
theorem Qth(P:Program)(hP:P=Tryd.prog)(t:Top)(xs:List Tab)(p:Pkt)(from_:Int)(g:Wlk)(U:List WSt)(m:Ar)(hT:Qbs m)(hU:QaH t xs from_=0->UOK P t xs p g U/\(from_,p.stack)∈U):
  FnS P Qdi [Qa2 t,Qcu xs,Qdj p,iA from_] [.am m] fun r h'=>∃m' tl,h'= .am m'::tl/\Qbs m'/\r= .tup [.c (.d (QxB (QjV g U.length (from_,p.stack) (QaH t xs from_)).1)),iA (QjV g U.length (from_,p.stack) (QaH t xs from_)).2]:=by
 have hsr:=Qhd P hP t xs p from_ g U m hT hU;have hmk:=fun m a=>Qsk P hP m a true []
 have hcol:=fun{n:Nat} {x:WSt} {a bx bp Nx Np:Nat} {m:Ar}=>Qqb P hP (g:=g) (n:=n) (x:=x) (a:=a) (bx:=bx) (bp:=bp) (Nx:=Nx) (Np:=Np) (m:=m)
 refine FnS.thawP (R:=fun r h'=>∃m' tl d,h'= .am m'::tl/\r= .tup [.c (.d d),iA (QjV g U.length (from_,p.stack) (QaH t xs from_)).2]/\Qc8 3 m' d ((QjV g U.length (from_,p.stack) (QaH t xs from_)).1.map QeM)/\Qbs m'/\¬InB d 0/\(QjV g U.length (from_,p.stack) (QaH t xs from_)).1.length<=1000) ?_ ?_
 ·refine QaO (hP▸mixed) (hP▸Qob) (hP▸Qp7) (nle rfl) fun Λ Λo Q hQ=> ?_
  clear hP;have fin:=fun m' tl d (h1:Qc8 3 m' d ((QjV g U.length (from_,p.stack) (QaH t xs from_)).1.map QeM)) h2 h3 h4=>hQ (.tup [.c (.d d),iA (QjV g U.length (from_,p.stack) (QaH t xs from_)).2]) (.am m'::tl) ⟨m',tl,d,rfl,rfl,h1,h2,h3,h4⟩
  clear hQ;by_cases h0:QaH t xs from_=0
  ·obtain⟨hUK,hsU⟩:=hU h0;rw[h0]at hsr fin;simp only[QhQ,if_true]at hsr;cases hd:dfs g.nx U.length [] (from_,p.stack)with
   |some K=>
    rw[hd]at hsr;simp only[QjV,hd,if_true]at fin;have hlaw:=Qlm (nx:=g.nx) (K:=[]) (fun x c h=>by cases h) hd;have hnd:=QiR (nx:=g.nx) (K:=[]) (by simp) hd;have hUl:=hUK.len;obtain⟨hres,c,hc⟩:=hlaw;obtain⟨n0,hdep0,hcn⟩:=(hres.dn _ _ hc).1;have hdep:Dep g.nx U.length (from_,p.stack):=Qx6 hUK.cl hsU hdep0;rw[Quv hdep0 hdep]at hcn;have hlen:(brR g U.length (from_,p.stack) []).length=num g.nx U.length (from_,p.stack):=by rw[brR,List.length_map];exact QiE g.ar g.to U.length (from_,p.stack) []
    have htab:¬New m (.list true 1 []) 0:=fun e=>by
     rcases e with e|e
     ·rw[Qbs]at hT;rw[hT]at e;cases e
     ·exact Qa3 e
    clear hU hUK;by_cases hnum:1000<num g.nx U.length (from_,p.stack)
    ·rw[if_pos hnum]at fin;have hc1:c=1001:=by rw[hcn,QiN,if_neg (by omega)]
     have fin:=fun m' tl hT hb=>fin m' tl (.list true 3 []) (.inl ⟨rfl,rfl⟩) hT hb (by simp)
     generalize num g.nx U.length (from_,p.stack)=nm at*;clear hmk hcol hlen hdep hdep0 hres hd hsU;have hpl:=fun{m':Ar} {al:List Nat} {S:Nat->Prop} {d:D} {a:Nat} (hI:PI g m' K al S d) (ha:Qme K al (from_,p.stack) a)=>QkI hI hnd ha hc
     clear hc;generalize (from_,p.stack)=st at*;simp only[plD]at hpl;obtain⟨id,src,dst,flow,st0,hops⟩:=p;simp only[Qa2,Qcu,Qdj,Qbn,Qaf,Qak]at hsr ⊢;generalize hxl:List.map Qar xs=xl at*;generalize hol:t.ov.map QbA=ol at*;generalize hll:t.links.map QaL=ll at*;generalize htn:t.nodes=nodes at*;generalize List.map Qal st0=sl at*
     conv=>cbv
     repeat' first|(left;intro(_:Unit);(conv=>cbv))|(refine QaI [0] hsr rfl rfl (by decide) (by repeat' first|exact trivial|refine And.intro ?_ ?_|rfl) rfl rfl ?_;rintro r hc' ⟨m',tl,rfl,d3,al3,S3,a,rfl,p3,hab,f3⟩;obtain⟨Na,nx,ha⟩:=hpl p3 hab;have hfin:=fun tl=>fin m' tl ((f3.same _ htab).trans hT) (fun h=>Qa3 h);(conv=>cbv))|(refine⟨Na,_,_,ha,rfl,?_⟩;(conv=>cbv))|exact hfin _|exact gu|exact trivial|refine And.intro ?_ ?_|(intro hc;first|exact absurd hc (by decide)|(exfalso;omega)|((first|rw[wS (by omega) (by omega)]at hc|rw[Qad]at hc|skip);try (conv=>cbv)))|refine CallG.old ?_
    ·rw[if_neg hnum]at fin;have hc1:c=num g.nx U.length (from_,p.stack):=by rw[hcn,QiN,if_pos (by omega)]
     have hcle:c<=1000:=by omega
     have hdn:∀y∈K.map (·.1),∃c,lkK K y=some (some c):=fun y hy=>by
      cases hk:lkK K y with
      |none=>exact absurd hy (Qg3.1 hk)
      |some c'=>
       obtain⟨c2,e⟩:=hres.new y c' hk rfl;exact⟨c2,by rw[e]⟩
     have hpl:=fun{m':Ar} {al:List Nat} {S:Nat->Prop} {d:D} {a:Nat} (hI:PI g m' K al S d) (ha:Qme K al (from_,p.stack) a)=>And.intro (QkI hI hnd ha hc) (QzD hI hdn hnd U.length _ a hdep ha)
     have fin:=fun m' tl d h1 h2 h3=>fin m' tl d h1 h2 h3 (by simp only;omega)
     simp only at fin;have hlen2:(brR g U.length (from_,p.stack) []).length<=1000:=by omega
     clear hcn hc1 hdep hdep0 hres hd hsU hc hdn;clear hlen;generalize hst:(from_,p.stack)=st at*;simp only[plD]at hpl;obtain⟨id,src,dst,flow,st0,hops⟩:=p;simp only[Qa2,Qcu,Qdj,Qbn,Qaf,Qak]at hsr ⊢;clear hst;generalize hxl:List.map Qar xs=xl at*;generalize hol:t.ov.map QbA=ol at*;generalize hll:t.links.map QaL=ll at*;generalize htn:t.nodes=nodes at*;generalize List.map Qal st0=sl at*
     conv=>cbv
     repeat' first|(left;intro(_:Unit);(conv=>cbv))|(refine QaI [0] hsr rfl rfl (by decide) (by repeat' first|exact trivial|refine And.intro ?_ ?_|rfl) rfl rfl ?_;rintro r hc' ⟨m',tl,rfl,d3,al3,S3,a,rfl,p3,hab,f3⟩;obtain⟨⟨Na,nx,ha⟩,hpt⟩:=hpl p3 hab;have hT3:Qbs m':=((f3.same _ htab).trans hT);(conv=>cbv))|(refine⟨Na,_,_,ha,rfl,?_⟩;(conv=>cbv))|(refine QaI [0] (hmk m' a) rfl rfl (by decide) (by repeat' first|exact trivial|refine And.intro ?_ ?_|rfl) rfl rfl ?_;rintro r hc' ⟨bx1,bp1,Nx1,Np1,m3,m4,rfl,rfl,hbx1,hm3,hbp1,hm4⟩;have hx4:=QbY hm4 hbp1 (Qbk hm3);have hp4:=Qbk hm4;have hT4:Qbs m4:=QbY hm4 hbp1 (QbY hm3 hbx1 hT3);have hcl:=hcol (hpt.keep (fun b hb _=>(Qc0 hm4 hbp1 (by rw[Qc0 hm3 hbx1 hb];exact hb)).trans (Qc0 hm3 hbx1 hb)) (fun b hb=> .inl hb)) hx4 hp4 (by omega) hlen2;(conv=>cbv))|(refine QaI [0] hcl rfl rfl (by decide) (by repeat' first|exact trivial|refine And.intro ?_ ?_|rfl) rfl rfl ?_;rintro r hc' ⟨m6,d6,rfl,rfl,q1,q2,q3⟩;have hfin:=fun tl=>fin m6 tl d6 q1 ((q2 _ (by rw[hT4];simp)).trans hT4) (fun hb=>by have:=q3 _ hb;rw[hT4]at this;cases this);(conv=>cbv))|exact hfin _|exact gu|exact trivial|refine And.intro ?_ ?_|(intro hc;first|exact absurd hc (by decide)|(exfalso;omega)|((first|rw[wS (by omega) (by omega)]at hc|rw[Qad]at hc|skip);try (conv=>cbv)))|refine CallG.old ?_
   |none=>
    rw[hd]at hsr;simp only[QjV,hd,if_true]at fin;have fin:=fun m' tl hT hb=>fin m' tl (.list true 3 []) (.inl ⟨rfl,rfl⟩) hT hb (by simp)
    have htab:¬New m (.list true 1 []) 0:=fun e=>by
     rcases e with e|e
     ·rw[Qbs]at hT;rw[hT]at e;cases e
     ·exact Qa3 e
    clear hmk hcol hU;generalize (from_,p.stack)=st at*;obtain⟨id,src,dst,flow,st0,hops⟩:=p;simp only[Qa2,Qcu,Qdj,Qbn,Qaf,Qak]at hsr ⊢;generalize hxl:List.map Qar xs=xl at*;generalize hol:t.ov.map QbA=ol at*;generalize hll:t.links.map QaL=ll at*;generalize htn:t.nodes=nodes at*;generalize List.map Qal st0=sl at*
    conv=>cbv
    repeat' first|(left;intro(_:Unit);(conv=>cbv))|(refine QaI [0] hsr rfl rfl (by decide) (by repeat' first|exact trivial|refine And.intro ?_ ?_|rfl) rfl rfl ?_;rintro r hc' ⟨m',tl,rfl,rfl,d3,f3⟩;have hfin:=fun tl=>fin m' tl ((f3.same _ htab).trans hT) (fun h=>Qa3 h);(conv=>cbv))|exact hfin _|exact gu|exact trivial|refine And.intro ?_ ?_|(intro hc;first|exact absurd hc (by decide)|(exfalso;omega)|((first|rw[wS (by omega) (by omega)]at hc|rw[Qad]at hc|skip);try (conv=>cbv)))|refine CallG.old ?_
  ·simp only[QhQ,if_neg h0]at hsr;simp only[QjV,if_neg h0]at fin;have fin:=fun tl=>fin m tl (.list true 3 []) (.inl ⟨rfl,rfl⟩) hT (fun h=>Qa3 h) (by simp)
   generalize QaH t xs from_=e at*;clear hmk hcol hU;obtain⟨id,src,dst,flow,st0,hops⟩:=p;simp only[Qa2,Qcu,Qdj,Qbn,Qaf,Qak]at hsr ⊢;generalize hxl:List.map Qar xs=xl at*;generalize hol:t.ov.map QbA=ol at*;generalize hll:t.links.map QaL=ll at*;generalize htn:t.nodes=nodes at*;generalize List.map Qal st0=sl at*
   conv=>cbv
   repeat' first|(left;intro(_:Unit);(conv=>cbv))|(refine QaI [0] hsr rfl rfl (by decide) (by repeat' first|exact trivial|refine And.intro ?_ ?_|rfl) rfl rfl ?_;rintro r hc' ⟨m',tl,rfl,rfl,rfl⟩;(conv=>cbv))|exact fin _|exact gu|exact trivial|refine And.intro ?_ ?_|(intro hc;first|exact absurd hc (by decide)|(exfalso;omega)|((first|rw[wS (by omega) (by omega)]at hc|rw[Qad]at hc|skip);try (conv=>cbv)))|refine CallG.old ?_
 ·rintro r h' ⟨m',tl,d,rfl,rfl,hrow,hT',hnb,hle⟩;rcases hrow with ⟨rfl,hl⟩|hrow
  ·refine⟨m',tl,_,_,am0,m',_,rfl,fun b x h=>(by cases h),fun b x h=>h,rfl,rfl,.fg _,m',tl,rfl,hT',?_⟩;rw[QxB,hl];rfl
  ·have hrow':=hrow;obtain⟨b,N,cap,rfl,hb,h3⟩:=hrow;refine⟨m',tl,_,_,fun c=>if c=b then m' b else none,mdel m' b,_,rfl,fun c x h=> ?_,fun c x h=> ?_,rfl,rfl,Qc8.thaw (l:=(QjV g U.length (from_,p.stack) (QaH t xs from_)).1.map QeM) (.inr ⟨b,N,cap,rfl,by simpa using hb,h3⟩) (by rw[List.length_map];omega),mdel m' b,tl,rfl,?_,rfl⟩
   ·simp only at h;split at h
    ·rename_i e;subst e;exact⟨h,Qg4 _ _⟩
    ·cases h
   ·by_cases e:c=b
    ·rw[e,Qg4]at h;cases h
    ·rw[QbQ e]at h;exact h
   ·rw[Qbs,QbQ fun e=>hnb ⟨_,_,_,_,by rw[←e]⟩];exact hT'
def Qed(xs:List Tab)(n:Int):Tab:=xs.getD n.toNat ⟨0,[],[]⟩
def gA(t:Top)(xs:List Tab)(p:Pkt)(s:WSt):Ans:=Qga t (Qed xs s.1) {p with stack:=s.2,hops:=0}
def gW(t:Top)(xs:List Tab)(p:Pkt):Wlk:=⟨fun s=>(gA t xs p s).1,fun s=>(gA t xs p s).2.2,fun s a=>(Qbi t a,(gA t xs p s).2.1.stack)⟩
structure StI (t:Top) (s:WSt):Prop where
 nn:0<=s.1
 lt:s.1<t.nodes
 len:s.2.length<=40
 ins:InS s.2
structure TbI (xs:List Tab):Prop where
 ar:∀x∈xs,∀e∈x.to,e.arcs.length<=1000/\e.push.length<=1000
structure AnI (a:Ans):Prop where
 ar:a.1.length<=1000
 st:InS a.2.1.stack
section
variable{t:Top}{x:Tab}{p:Pkt}
structure EtI (x:Tab):Prop where
 et:∀e∈x.to,e.arcs.length<=1000/\InS e.push
theorem EtI.ent(h:EtI x)(n:Int):(ent x n).arcs.length<=1000/\InS (ent x n).push:=by
 unfold Go.Ab.ent;rw[List.getD_eq_getElem?_getD];cases hg:x.to[n.toNat]? with
 |none=>exact⟨by simp[default],fun s hs=>by simp[default]at hs⟩
 |some e=>exact h.et e (mgE hg)
theorem Qki(r:Int)(h:InS p.stack):AnI ([],p,r):=⟨by simp,h⟩
theorem Qix{l:List Seg}{ar:List Int}(h1:ar.length<=1000)(h2:InS l):AnI (Qds p l ar):=⟨h1,h2⟩
theorem Qmo{l:List Seg}{e:Ety}(he:e.arcs.length<=1000/\InS e.push)(hp:InS p.stack)(hl:InS l):AnI (QcY p l e):=by
 unfold QcY;split
 ·split
  ·exact Qki _ hp
  ·refine Qix he.1 fun s hs=> ?_
   rcases List.mem_append.1 hs with hs|hs
   ·exact he.2 s hs
   ·exact hl s (List.mem_of_mem_drop hs)
 ·exact Qix he.1 hl
theorem Qmp(hx:EtI x)(hp:InS p.stack):AnI (Qdv t x p):=by
 unfold Qdv;split
 ·exact⟨by simp,fun s hs=>by simp at hs⟩
 ·split
  ·exact Qki _ hp
  ·split
   ·exact Qmo (hx.ent _) hp fun s hs=>by simp at hs
   ·exact Qki _ hp
theorem Qrk(hx:EtI x)(hp:InS p.stack){l:List Seg}(hl:InS l):AnI (Qea t x p l):=by
 cases l with
 |nil=>exact Qmp hx hp
 |cons s r=>
  have hr:InS r:=fun y hy=>hl y (by simp[hy])
  simp only[Qea]
  repeat' split
  all_goals first
   |exact Qki _ hp
   |exact Qmp hx hp
   |exact Qmo (hx.ent _) hp hl
   |exact Qix (by simp) hr
theorem Qty(hx:EtI x)(hp:InS p.stack):AnI (Qga t x p):=by
 unfold Qga;split
 ·split
  ·exact Qki _ hp
  ·exact Qrk hx hp fun s hs=>hp s (List.dropWhile_subset _ hs)
 ·exact Qki _ hp
end
theorem QyP{t:Top}(hv:Qao t=true){s:Seg}(h:Qtp t s=true):In64 s.kind/\In64 s.num:=by
 have v:=Qai.1 hv;have h:=QjE.1 h;unfold In64;omega
theorem Qo9{t:Top}{xs:List Tab}(h:Qgh t xs=true){n:Int}(h0:0<=n)(h1:n<t.nodes):xs[n.toNat]? =some (Qed xs n)/\Qed xs n∈xs/\(Qed xs n).node=n/\Qke t (Qed xs n)=true:=by
 obtain⟨-,h2,h3⟩:=QbW.1 h;have hl:n.toNat<xs.length:=by omega
 have e:xs[n.toNat]? =some (Qed xs n):=by rw[Qed,List.getD_eq_getElem?_getD,lgE hl];rfl
 obtain⟨q1,q2⟩:=h3 _ _ e;exact⟨e,mgE e,by omega,q2⟩
theorem Qyd{t:Top}{x:Tab}(h:Qke t x=true)(hs:∀e∈x.to,e.arcs.length<=1000):EtI x:=by
 obtain⟨v,-,-,-,h5⟩:=Qc7.1 h;refine⟨fun e he=>⟨hs e he,fun s hs'=> ?_⟩⟩;obtain⟨i,hi⟩:=List.getElem?_of_mem he;exact QyP v ((QdZ.1 (h5 i e hi)).2.2.2.2 s hs')
section
variable{P:Program}(hP:P=Tryd.prog){t:Top}{xs:List Tab}{p:Pkt}(hc:Qgh t xs=true)(hx:TbI xs)
theorem QzA{x:Tab}{p q:Pkt}{a:Ans}(h:Bnd t x q a)(hq:q.id=p.id/\q.src=p.src/\q.dst=p.dst/\q.flow=p.flow):a.2.1={p with stack:=a.2.1.stack,hops:=a.2.1.hops}:=by
 obtain⟨a1,⟨i,s,d,f,st,hp⟩,r⟩:=a;have h1:=h.id;have h2:=h.src;have h3:=h.dst;have h4:=h.flow;simp only at h1 h2 h3 h4;rw[hq.1]at h1;rw[hq.2.1]at h2;rw[hq.2.2.1]at h3;rw[hq.2.2.2]at h4;subst h1 h2 h3 h4;rfl
include hc hx in
theorem QpQ{s:WSt}(hs:StI t s):AnI (gA t xs p s)/\(∀a∈(gA t xs p s).1,0<=a/\a<2*t.links.length)/\(∀a∈(gA t xs p s).1,StI t ((gW t xs p).to s a)):=by
 obtain⟨e1,e2,e3,e4⟩:=Qo9 hc hs.nn hs.lt;have hv:=(QbW.1 hc).1;have hani:=Qty (t:=t) (p:={p with stack:=s.2,hops:=0}) (Qyd e4 fun e he=>(hx.ar _ e2 e he).1) hs.ins;have hb:=Qo4 t (Qed xs s.1) {p with stack:=s.2,hops:=0};have hra:∀a∈(gA t xs p s).1,0<=a/\a<2*t.links.length:=fun a ha=>by
  have h0:(gA t xs p s).2.2=0:=hb.some.2 (by
   show 0<(gA t xs p s).1.length;cases h:(gA t xs p s).1 with
   |nil=>rw[h]at ha;cases ha
   |cons=>simp)
  have h1:=(hb.yes h0).1 a ha;rw[e3]at h1;rw[Qbm]at h1;split at h1
  ·rename_i h2;have:=QdF t;omega
  ·have:=hs.nn;omega
 refine⟨hani,hra,fun a ha=> ?_⟩;have h0:(gA t xs p s).2.2=0:=hb.some.2 (by
  show 0<(gA t xs p s).1.length;cases h:(gA t xs p s).1 with
  |nil=>rw[h]at ha;cases ha
  |cons=>simp)
 obtain⟨r0,r1⟩:=hra a ha;have hhd:Qbi t a=Qy1 t true a:=by
  rw[Qbi,QbC,if_pos hv,if_pos ⟨r0,r1⟩];rfl
 obtain⟨q1,q2⟩:=Qqf hv true r0 r1;exact⟨by show 0<=Qbi t a;rw[hhd];exact q1,by show Qbi t a<t.nodes;rw[hhd];exact q2,by have:=(hb.yes h0).2.1;show(gA t xs p s).2.1.stack.length<=40;exact Nat.le_trans this (by omega),hani.st⟩
end
section
variable{P:Program}(hP:P=Tryd.prog){t:Top}{xs:List Tab}{p:Pkt}(hc:Qgh t xs=true)(hx:TbI xs)
include hP hc hx
theorem Qxb{s:WSt}(hs:StI t s):StpW P t xs p (gW t xs p) s (Qed xs s.1) (gA t xs p s).2.1.stack (gA t xs p s).2.1.hops:=by
 obtain⟨e1,e2,e3,e4⟩:=Qo9 hc hs.nn hs.lt;have hv:=Qai.1 (QbW.1 hc).1;obtain⟨k1,k2,k3⟩:=QpQ hc hx hs (p:=p);have hf:Fit (Qed xs s.1) {p with stack:=s.2,hops:=0}:=⟨fun e he=>hx.ar _ e2 e he,by have:=hs.len;show s.2.length<=1000;omega⟩;have hb:=Qo4 t (Qed xs s.1) {p with stack:=s.2,hops:=0};have hpk:=QzA (p:=p) hb ⟨rfl,rfl,rfl,rfl⟩;have h1:=Qxc P hP t (Qed xs s.1) _ hf;unfold Qk6 QvL at h1;rw[hpk]at h1;have hh:∀a∈(gA t xs p s).1,Qom t a=Qbi t a:=fun a ha=>by
  obtain⟨r0,r1⟩:=k2 a ha;rw[Qbi,QbC,if_pos (QbW.1 hc).1,if_pos ⟨r0,r1⟩];rfl
 exact⟨e1,hs.nn,h1,fun a ha=>by
   have:=Qt7 P hP t a (k2 a ha).1 (k2 a ha).2 hv.2.2.1;rw[hh a ha]at this;exact this,fun a _=>rfl,k1.ar⟩
theorem Qs5{s0:WSt}{U:List WSt}(h0:StI t s0)(hE:Expl (gW t xs p).nx s0 U)(hl:U.length<=1000):UOK P t xs p (gW t xs p) U:=by
 have hall:∀x∈U,StI t x:=hE.mn (StI t) h0 fun x hx' y hy=>by
  rw[Wlk.nx,nxt,List.mem_map]at hy;obtain⟨a,ha,rfl⟩:=hy;exact(QpQ hc hx hx').2.2 a ha
 have hv:=Qai.1 (QbW.1 hc).1;refine⟨hl,fun s hs=>⟨?_,by have:=(hall s hs).len;omega,(hall s hs).ins⟩,fun s hs=>⟨_,_,_,Qxb hP hc hx (hall s hs)⟩,hE.cl⟩;have h1:=(hall s hs).nn;have h2:=(hall s hs).lt;unfold In64;omega
end
def QnI(P:Program):Prop:=∀m,Qbs m->FnS P Qcy [] [.am m] fun r h'=>r=bA true/\∃m' tl,h'= .am m'::tl/\Qbs m'
def QnR(g:Wlk)(x:WSt):Bool:= !(decide ((g.ar x).length=0)&&decide (g.rs x≠ -1))
def Qvk(g:Wlk)(U:List WSt)(s:WSt)(e:Int):Bool×Int:=
 if e=0 then (match dfs g.nx U.length [] s with
  |none=>(false,16)
  |some _=>(U.all (QnR g),0))else (false,e)
theorem Qtx{α:Type}{l l':List α}{f:α->Bool}(h:∀x,x∈l↔x∈l'):l.all f=l'.all f:=by
 rw[Bool.eq_iff_iff,List.all_eq_true,List.all_eq_true];exact⟨fun hf x hx=>hf x ((h x).2 hx),fun hf x hx=>hf x ((h x).1 hx)⟩
structure PlR (g:Wlk) (m:Ar) (ks:List WSt) (bn:Nat) (cap:Nat):Prop where
 at_:∃N xs,m bn=some (.cs N xs)/\∀(k:Nat) (x:WSt),ks[k]? =some x->∃a Na nx c,xs[k]? =some (.adr a 0)/\m a=some (.cs Na (plD g x nx false c))
theorem QvD{g:Wlk}{m:Ar}{K:Kn WSt}{al:List Nat}{S:Nat->Prop}{d:D}(hI:PI g m K al S d)(hd:∀y∈K.map (·.1),∃c,lkK K y=some (some c))(hnd:(K.map (·.1)).Nodup)(hne:K≠[]):∃bn cap,d= .sl bn 0 1 (K.map (·.1)).length cap/\PlR g m (K.map (·.1)) bn cap:=by
 have hl:al.length=(K.map (·.1)).length:=by rw[List.length_map];exact hI.len
 rcases hI.row with ⟨-,h⟩|⟨bn,N,cap,h1,h2,h3⟩
 ·have:al=[]:=by simpa using h
  rw[this]at hl;cases K with
  |nil=>exact absurd rfl hne
  |cons=>simp at hl
 ·refine⟨bn,cap,by rw[h1,List.length_map,hl],⟨N,_,h2,fun k x hx=> ?_⟩⟩;obtain⟨a,ha⟩:∃a,al[k]? =some a:=⟨_,lgE (by have:=Qaa hx;omega)⟩;obtain⟨c,hc⟩:=hd x (mgE hx);have hx':=hx;rw[gtm,omi]at hx';obtain⟨⟨y,c'⟩,h4,rfl⟩:=hx';have h5:=Qkc hnd h4;rw[hc]at h5;cases h5;obtain⟨-,Na,nx,ads,h6,-⟩:=hI.pl k _ c a h4 ha;exact⟨a,Na,nx,c,by rw[Qlt,gtm,ha];rfl,h6⟩
theorem Qxr(P:Program)(hP:P=Tryd.prog)(t:Top)(xs:List Tab)(p:Pkt)(from_:Int)(g:Wlk)(U:List WSt)(m:Ar)(hT:Qbs m)(hU:QaH t xs from_=0->UOK P t xs p g U/\Expl g.nx (from_,p.stack) U):
  FnS P QcS [Qa2 t,Qcu xs,Qdj p,iA from_] [.am m] fun r h'=>∃m' tl,h'= .am m'::tl/\Qbs m'/\r= .tup [bA (Qvk g U (from_,p.stack) (QaH t xs from_)).1,iA (Qvk g U (from_,p.stack) (QaH t xs from_)).2]:=by
 have hsr:=Qhd P hP t xs p from_ g U m hT fun h=>⟨(hU h).1,(hU h).2.st⟩
 refine QaO (hP▸mixed) (hP▸Qjc) (hP▸Qj2) (nle rfl) fun Λ Λo Q hQ=> ?_
 clear hP;have fin:=fun m' tl (h1:Qbs m')=>hQ (.tup [bA (Qvk g U (from_,p.stack) (QaH t xs from_)).1,iA (Qvk g U (from_,p.stack) (QaH t xs from_)).2]) (.am m'::tl) ⟨m',tl,rfl,h1,rfl⟩
 clear hQ;have htab:¬New m (.list true 1 []) 0:=fun e=>by
  rcases e with e|e
  ·rw[Qbs]at hT;rw[hT]at e;cases e
  ·exact Qa3 e
 by_cases h0:QaH t xs from_=0
 ·obtain⟨hUK,hE⟩:=hU h0;rw[h0]at hsr fin;simp only[QhQ,if_true]at hsr;cases hd:dfs g.nx U.length [] (from_,p.stack)with
  |some K=>
   rw[hd]at hsr;simp only[Qvk,hd,if_true]at fin;obtain⟨hnd,hmem,-,hdn,r0,hr0⟩:=QkG hE hd;rw[←Qtx hmem]at fin;have hpl:=fun{m':Ar} {al:List Nat} {S:Nat->Prop} {d:D} (hI:PI g m' K al S d)=>QvD hI hdn hnd fun e=>by rw[e]at hr0;cases hr0
   have hKl:(K.map (·.1)).length<=1000:=by
    have:=hnd.length_le_of_subset fun x hx=>(hmem x).1 hx
    have:=hUK.len;omega
   have hgl:∀x∈K.map (·.1),(g.ar x).length<=1000:=fun x hx=>by
    obtain⟨_,_,_,h⟩:=hUK.st x ((hmem x).1 hx);exact h.len
   clear hdn hnd hr0 hmem hE hUK hd hU;generalize K.map (·.1)=ks at*;generalize (from_,p.stack)=st at*;obtain⟨id,src,dst,flow,st0,hops⟩:=p;simp only[Qa2,Qcu,Qdj,Qbn,Qaf,Qak]at hsr ⊢;generalize hxl:List.map Qar xs=xl at*;generalize hol:t.ov.map QbA=ol at*;generalize hll:t.links.map QaL=ll at*;generalize htn:t.nodes=nodes at*;generalize List.map Qal st0=sl at*;have hno:ks.all (QnR g)=false->∀m' tl,Qbs m'->Q (.tup [bA false,iA 0]) (.am m'::tl):=fun h m' tl hT=>by have:=fin m' tl hT;rw[h]at this;exact this
   have hyes:ks.all (QnR g)=true->∀m' tl,Qbs m'->Q (.tup [bA true,iA 0]) (.am m'::tl):=fun h m' tl hT=>by have:=fin m' tl hT;rw[h]at this;exact this
   clear fin;obtain⟨cn,hcn⟩:∃z:Int,z=(ks.length:Int):=⟨_,rfl⟩
   conv=>cbv
   repeat' first|(left;intro(_:Unit);(conv=>cbv))|(refine QaI [0] hsr rfl rfl (by decide) (by repeat' first|exact trivial|refine And.intro ?_ ?_|rfl) rfl rfl ?_;rintro r hc' ⟨m',tl,rfl,d3,al3,S3,a,rfl,p3,hab,f3⟩;have hT3:Qbs m':=((f3.same _ htab).trans hT);obtain⟨bn,cap,rfl,hpr⟩:=hpl p3;generalize hn:ks.length=n at *;(conv=>cbv))|(intro(c:Int) hc;refine(fun(hz:cn=c)=> ?_) (by rw[hc,Qad];omega);subst hz;(conv=>cbv))|exact gu|exact trivial|refine And.intro ?_ ?_|(intro hc;first|exact absurd hc (by decide)|(exfalso;omega)|((first|rw[wS (by omega) (by omega)]at hc|rw[Qad]at hc|skip);try (conv=>cbv)))|refine CallG.old ?_
   obtain⟨Nr,rx,hrow,hrat⟩:=hpr.at_;refine Qba n (fun(i:Int)=>[(27,.c (.d (.sl bn 0 1 n cap))),(28,iA cn),(29,iA i)]) (fun _=>[.am m']) (fun k i=>i=k/\k<=n/\∀(j:Nat) (x:WSt),j<k->ks[j]? =some x->QnR g x=true) 0
    (Wk.ca) ⟨rfl,by omega,fun j x h=>by omega⟩ (fun k s h=>h.2.1) ?_
   rintro kk i Q' ⟨hi,hk,hall⟩ norm ex rt;by_cases hlt:kk<n
   ·obtain⟨x,hx⟩:∃x,ks[kk]? =some x:=⟨_,lgE (by omega)⟩;obtain⟨a1,Na,nx,c,hxa,hpa⟩:=hrat kk x hx;have hgx:=hgl x (mgE hx);simp only[plD]at hpa;have hbad:QnR g x=false->∃b,Q'=b:=fun _=>⟨_,rfl⟩
    have hE1:(g.ar x).length=0->g.rs x≠ -1->QnR g x=false:=fun h1 h2=>by simp[QnR,h1,h2]
    have hE2:¬(g.ar x).length=0->QnR g x=true:=fun h1=>by simp[QnR,h1]
    have hE3:g.rs x= -1->QnR g x=true:=fun h1=>by simp[QnR,h1]
    have hfl:QnR g x=false->ks.all (QnR g)=false:=fun h=>by
     rw[Bool.eq_false_iff];intro h2;rw[List.all_eq_true.1 h2 x (mgE hx)]at h;cases h
    have hal:Λ ((g.ar x).map QaA)=(g.ar x).length:=by rw[Λo];simp
    have hnrm:QnR g x=true->∀j y,j<kk+1->ks[j]? =some y->QnR g y=true:=fun h j y hj hy=>by
     rcases Nat.lt_or_ge j kk with h2|h2
     ·exact hall j y h2 hy
     ·obtain rfl:j=kk:=by omega
      rw[hx]at hy;cases hy;exact h
    have hno':=fun h=>hno (hfl h) m' [] hT3
    clear hbad hfl hno hyes hrat hpl hsr;generalize (g.ar x).map QaA=arl at*;generalize g.rs x=rs at*;obtain⟨i1,hi1⟩:∃z:Int,z=((kk+1:Nat):Int):=⟨_,rfl⟩
    conv=>cbv
    repeat' first|(intro(k:Nat) hk;refine(fun(hz:kk=k)=> ?_) ?_;rotate_left;omega;subst hz;(conv=>cbv))|(refine⟨Nr,_,_,hrow,hxa,?_⟩;(conv=>cbv))|(refine⟨Na,_,_,hpa,rfl,?_⟩;(conv=>cbv))|(refine rt _ _ ?_;(conv=>cbv))|(intro(k:Int) hk;rw[wS (by omega) (by omega)]at hk;refine(fun(hz:i1=k)=> ?_) ?_;rotate_left;omega;subst hz;(conv=>cbv))|exact hno' (hE1 (by omega) (by omega))|exact gu|exact trivial|refine And.intro ?_ ?_|(intro hc;first|exact absurd hc (by decide)|(exfalso;omega)|((first|rw[wS (by omega) (by omega)]at hc|rw[Qad]at hc|skip);try (conv=>cbv)))|refine CallG.old ?_
    all_goals (first|(refine norm _ _ _ ⟨hi1,by omega,hnrm (hE2 (by omega))⟩ (Wk.ca))|(refine norm _ _ _ ⟨hi1,by omega,hnrm (hE3 (by omega))⟩ (Wk.ca)))
   ·obtain rfl:n=kk:=by omega
    have hyy:=hyes (List.all_eq_true.2 fun x hx=>by
     obtain⟨j,hj⟩:=List.getElem?_of_mem hx;exact hall j x (by have:=Qaa hj;omega) hj) m' [] hT3
    clear hno hyes hpl hsr hrat norm
    conv=>cbv
    repeat' first|(refine ex 0 _ _ ?_;(conv=>cbv))|exact hyy|exact gu|exact trivial|refine And.intro ?_ ?_|(intro hc;first|exact absurd hc (by decide)|(exfalso;omega)|((first|rw[wS (by omega) (by omega)]at hc|rw[Qad]at hc|skip);try (conv=>cbv)))|refine CallG.old ?_
  |none=>
   rw[hd]at hsr;simp only[Qvk,hd,if_true]at fin;clear hU hE;generalize (from_,p.stack)=st at*;obtain⟨id,src,dst,flow,st0,hops⟩:=p;simp only[Qa2,Qcu,Qdj,Qbn,Qaf,Qak]at hsr ⊢;generalize hxl:List.map Qar xs=xl at*;generalize hol:t.ov.map QbA=ol at*;generalize hll:t.links.map QaL=ll at*;generalize htn:t.nodes=nodes at*;generalize List.map Qal st0=sl at*
   conv=>cbv
   repeat' first|(left;intro(_:Unit);(conv=>cbv))|(refine QaI [0] hsr rfl rfl (by decide) (by repeat' first|exact trivial|refine And.intro ?_ ?_|rfl) rfl rfl ?_;rintro r hc' ⟨m',tl,rfl,rfl,d3,f3⟩;have hfin:=fun tl=>fin m' tl ((f3.same _ htab).trans hT);(conv=>cbv))|exact hfin _|exact gu|exact trivial|refine And.intro ?_ ?_|(intro hc;first|exact absurd hc (by decide)|(exfalso;omega)|((first|rw[wS (by omega) (by omega)]at hc|rw[Qad]at hc|skip);try (conv=>cbv)))|refine CallG.old ?_
 ·simp only[QhQ,if_neg h0]at hsr;simp only[Qvk,if_neg h0]at fin;have fin:=fun tl=>fin m tl hT
  generalize QaH t xs from_=e at*;clear hU;obtain⟨id,src,dst,flow,st0,hops⟩:=p;simp only[Qa2,Qcu,Qdj,Qbn,Qaf,Qak]at hsr ⊢;generalize hxl:List.map Qar xs=xl at*;generalize hol:t.ov.map QbA=ol at*;generalize hll:t.links.map QaL=ll at*;generalize htn:t.nodes=nodes at*;generalize List.map Qal st0=sl at*
  conv=>cbv
  repeat' first|(left;intro(_:Unit);(conv=>cbv))|(refine QaI [0] hsr rfl rfl (by decide) (by repeat' first|exact trivial|refine And.intro ?_ ?_|rfl) rfl rfl ?_;rintro r hc' ⟨m',tl,rfl,rfl,rfl⟩;(conv=>cbv))|exact fin _|exact gu|exact trivial|refine And.intro ?_ ?_|(intro hc;first|exact absurd hc (by decide)|(exfalso;omega)|((first|rw[wS (by omega) (by omega)]at hc|rw[Qad]at hc|skip);try (conv=>cbv)))|refine CallG.old ?_
theorem Expl.mem{σ:Type}{nx:σ->List σ}{s:σ}{S S':List σ}(h:Expl nx s S)(h':Expl nx s S')(x:σ):x∈S↔x∈S':=
 ⟨fun hx=>h.mn (·∈S') h'.st h'.cl x hx,fun hx=>h'.mn (·∈S) h.st h.cl x hx⟩
def Qzx(g:Wlk)(U:List WSt)(n:Nat):List Int:=((List.range n).map fun(a:Nat)=>(a:Int)).filter fun a=>U.any fun x=>decide (a∈g.ar x)
def Qvw(t:Top)(g:Wlk)(U:List WSt)(s:WSt)(e:Int):List Int×Int:=
 if e=0 then (match dfs g.nx U.length [] s with
  |none=>([],16)
  |some _=>(Qzx g U (QbC t).toNat,0))else ([],e)
theorem QpO:∀{a b:List Int},a.Pairwise (·<·)->b.Pairwise (·<·)->(∀x,x∈a↔x∈b)->a=b
 |[],[],_,_,_=>rfl
 |[],y::b,_,_,h=>absurd ((h y).2 (by simp)) (by simp)
 |x::a,[],_,_,h=>absurd ((h x).1 (by simp)) (by simp)
 |x::a,y::b,ha,hb,h=>by
  have ha:=List.pairwise_cons.1 ha;have hb:=List.pairwise_cons.1 hb;have e:x=y:=by
   rcases List.mem_cons.1 ((h x).1 (by simp))with e|e
   ·exact e
   ·rcases List.mem_cons.1 ((h y).2 (by simp))with e2|e2
    ·exact e2.symm
    ·have:=hb.1 x e;have:=ha.1 y e2;omega
  subst e;rw[QpO ha.2 hb.2 fun z=>⟨fun hz=> ?_,fun hz=> ?_⟩]
  ·rcases List.mem_cons.1 ((h z).1 (List.mem_cons_of_mem _ hz))with e|e
   ·have:=ha.1 z hz;omega
   ·exact e
  ·rcases List.mem_cons.1 ((h z).2 (List.mem_cons_of_mem _ hz))with e|e
   ·have:=hb.1 z hz;omega
   ·exact e
def Qby:List Int->List Int
 |[]=>[]
 |[x]=>[x]
 |x::y::l=>if x=y then Qby (y::l)else x::Qby (y::l)
theorem Qjn:∀(l:List Int) (z:Int),z∈Qby l↔z∈l
 |[],z=>by simp[Qby]
 |[x],z=>by simp[Qby]
 |x::y::l,z=>by
  rw[Qby];have ih:=Qjn (y::l) z;split
  ·rename_i e;rw[ih,e];simp
  ·rw[List.mem_cons,ih,List.mem_cons (a:=z) (b:=x)]
theorem Qha:∀(l:List Int),l.Pairwise (·<=·)->(Qby l).Pairwise (·<·)
 |[],_=>by simp[Qby]
 |[x],_=>by simp[Qby]
 |x::y::l,h=>by
  have h1:=List.pairwise_cons.1 h;have h2:=List.pairwise_cons.1 h1.2;rw[Qby];split
  ·exact Qha _ h1.2
  ·rename_i hne;refine List.pairwise_cons.2 ⟨fun z hz=> ?_,Qha _ h1.2⟩;have hxy:=h1.1 y (by simp);rcases List.mem_cons.1 ((Qjn _ z).1 hz)with e|e
   ·omega
   ·have:=h2.1 z e;omega
end Go.Ab
