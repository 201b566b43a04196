/-
  Merged texts, part s.
-/
import Derived.Test.YtohbofilgkdihaaDoorZr
set_option linter.all false
namespace Go.Ab
open Go.Proofs
def Qd0:AC->Option AC
 | .loop c=>some c
 | .seq a b=>match Qd0 a with
  |some c=>some c
  |none=>Qd0 b
 | .cond _ a b=>match Qd0 a with
  |some c=>some c
  |none=>Qd0 b
 | .block _ c=>Qd0 c
 |_=>none
def QxV:AF->AC
 |⟨_,_,b⟩=>b
def QuV:AC:=(Qd0 (QxV QeE)).getD .skip
section
variable(P:Program)(t:Top)(xs:List Tab)(p:Pkt)(g:Wlk)(m:Ar)(d:D)(K:Kn WSt)(al:List Nat)(S:Nat->Prop)(s:WSt)(bx N0:Nat)(f:Kn WSt->WSt->Option (Kn WSt))(Pre:Kn WSt->Prop)
structure LpG (k:Nat) (m2:Ar) (d2:D) (K2:Kn WSt) (al2:List Nat) (S2:Nat->Prop) (nx:D) (ads:List Nat) (cnt:Int):Prop where
 pi:PI g m2 K2 al2 S2 d2
 ox:∃jx:Nat,K2[jx]? =some (s,none)/\al2[jx]? =some bx
 at_:m2 bx=some (.cs N0 (plD g s nx true cnt))
 row:Qc8 1 m2 nx (ads.map QfY)
 sep:∀i,InB nx i->i∉al2/\¬New m2 d2 i/\¬S2 i
 ads:QkN K2 al2 ((g.nx s).take k) ads
 fr:Fr m d m2 d2
 nw:(∃q,al2=al++q)/\(∀b∈al2,b∈al\/New m d b)/\(∀i,S2 i->S i\/New m d i)/\∀i,S i->S2 i
 nn:∀i,InB nx i->New m d i
 xn:New m d bx
 cn:0<=cnt/\cnt<=1001
 pre:Pre K2
 fin:Qgd f ((g.nx s).drop k) K2 cnt=Qgd f (g.nx s) (K++[(s,none)]) (if g.nx s=[]then 1 else 0)
def LpB(m2:Ar)(d2:D):Prop:=Qgd f (g.nx s) (K++[(s,none)]) (if g.nx s=[]then 1 else 0)=none/\Fr m d m2 d2/\New m d bx/\∃ys n,m2 bx=some (.cs N0 ys)/\ys.length=6/\ys[5]? =some (iD n)
def LpI(k:Nat)(q:Int×Ar×D×Nat×List (DV×DV)×Bool):Prop:=
 q.1=k/\k<=(g.ar s).length/\((q.2.2.2.2.2=false/\∃K2 al2 S2 nx ads cnt,q.2.2.2.2.1=msE K2 al2/\LpG g m d K al S s bx N0 f Pre k q.2.1 q.2.2.1 K2 al2 S2 nx ads cnt)\/(q.2.2.2.2.2=true/\LpB g m d K s bx N0 f q.2.1 q.2.2.1))
end
structure RecR (P:Program) (t:Top) (xs:List Tab) (p:Pkt) (g:Wlk) (s:WSt) (nst:List Seg) (nhp:Int) (f:Kn WSt->WSt->Option (Kn WSt)) (Pre:Kn WSt->Prop):Prop where
 hd:∀a∈g.ar s,Ret P QdI [Qa2 t,iA a] (iA (g.to s a).1)
 to_:∀a∈g.ar s,(g.to s a).2=nst
 len:(g.ar s).length<=1000
 nd:∀K2,Pre K2->(K2.map (·.1)).Nodup/\K2.length<=1000
 call:∀y∈g.nx s,∀m2 d2 v2 K2 al2 S2,Qbs m2->PI g m2 K2 al2 S2 d2->Pre K2->¬New m2 d2 0->FnS P Qaz ([iA y.1,Qdj {p with stack:=y.2,hops:=nhp}]++QgK) (HS t xs m2 d2 v2 (msE K2 al2) false) (QvS g t xs m2 d2 al2 S2 y (f K2 y))
 law:∀y∈g.nx s,∀K2 K3,Pre K2->f K2 y=some K3->Pre K3/\DfsR g.nx K2 K3/\(K3.map (·.1)).Nodup/\∃c,0<=c/\c<=1001/\lkK K3 y=some (some c)
structure Grw (m3 m4:Ar) (nx nx':D) (l:List (List D)):Prop where
 row:Qc8 1 m4 nx' l
 same:∀i,m3 i≠none->¬InB nx i->m4 i=m3 i
 new:∀i,InB nx' i->InB nx i\/m3 i=none
theorem Qm1{m m':Ar}{b N cap k:Nat}{e:List D}(he:e.length=1)(hb:m b=none)(hk:k=1)(hc:k<=cap)(hN:cap*1<=N)(hm':m'=mup m b (.cs N [e].flatten)):Grw m m' (.list true 1 []) (.sl b 0 1 k cap) [e]:=
 ⟨Qnn he hk hc hN hm',fun i hi _=>by rw[hm',Qan fun e=>hi (by rw[e];exact hb)],fun i hi=>by rw[Qd1 hi];exact .inr hb⟩
theorem Qps{m m':Ar}{b b' n c N cap k:Nat}{e:List D}{es:List (List D)}(hs:∀x∈es,x.length=1)(he:e.length=1)(hn:es.length=n)(hb:mdel m b b'=none)(hk:k=n+1)(hc:k<=cap)(hN:cap*1<=N)(hm':m'=mup (mdel m b) b' (.cs N (es++[e]).flatten)):Grw m m' (.sl b 0 1 n c) (.sl b' 0 1 k cap) (es++[e]):=by
 refine⟨QpM hs he (by rw[hn];exact hk) hc hN hm',fun i hi hn=>Qnd hm' (fun e=>hn (by rw[e];exact⟨_,_,_,_,rfl⟩)) hb hi,fun i hi=> ?_⟩;rw[Qd1 hi];rcases Qlk hb with e|e
 ·exact .inl (by rw[e];exact⟨_,_,_,_,rfl⟩)
 ·exact .inr e
section
variable{g:Wlk}{m:Ar}{d:D}{K:Kn WSt}{al:List Nat}{S:Nat->Prop}{s:WSt}{bx N0:Nat}{f:Kn WSt->WSt->Option (Kn WSt)}{Pre:Kn WSt->Prop}
variable{k:Nat}{m2:Ar}{d2:D}{K2:Kn WSt}{al2:List Nat}{S2:Nat->Prop}{nx:D}{ads:List Nat}{cnt:Int}
theorem LpG.old(h:LpG g m d K al S s bx N0 f Pre k m2 d2 K2 al2 S2 nx ads cnt):¬New m2 d2 bx/\bx∈al2:=by
 obtain⟨jx,h1,h2⟩:=h.ox;have hb:=mgE h2;refine⟨?_,hb⟩;rintro(e|e)
 ·exact h.pi.inm bx hb e
 ·exact(h.pi.rowS bx e).2 hb
theorem Qsg(h:LpG g m d K al S s bx N0 f Pre k m2 d2 K2 al2 S2 nx ads cnt)(hnd:(K2.map (·.1)).Nodup){y:WSt}(hk:(g.nx s)[k]? =some y){K3:Kn WSt}(hf:f K2 y=some K3)(hp3:Pre K3)(hdf:DfsR g.nx K2 K3)(hnd3:(K3.map (·.1)).Nodup)
   {c:Int}(hc0:0<=c/\c<=1001)(hck:lkK K3 y=some (some c)){m3:Ar}{d3:D}{al3:List Nat}{S3:Nat->Prop}{a:Nat}(p3:PI g m3 K3 al3 S3 d3)(ha:Qme K3 al3 y a)(f3:Fr m2 d2 m3 d3)(hq:∃q,al3=al2++q)(hb3:∀b∈al3,b∈al2\/New m2 d2 b)(hs3:∀i,S3 i->S2 i\/New m2 d2 i)(hss:∀i,S2 i->S3 i)
   {m4 m5 m6:Ar}{nx':D}{x5:List D}{cnt':Int}(hg:Grw m3 m4 nx nx' ((ads++[a]).map QfY))(hm5:m5=mup m4 bx (.cs N0 x5))(hx5:x5.length=6/\x5[4]? =some (.bool true)/\∃n,x5[5]? =some (iD n))(hm6:m6=mup m5 bx (.cs N0 (plD g s nx' true cnt')))(hcnt:cnt'=QiN (cnt+c)):
    LpG g m d K al S s bx N0 f Pre (k+1) m6 d3 K3 al3 S3 nx' (ads++[a]) cnt':=by
  obtain⟨ob,obm⟩:=h.old;obtain⟨jx,h1,h2⟩:=h.ox;have hlk:lkK K2 s=some none:=Qkc hnd h1;have hlk3:=hdf.old _ _ hlk;obtain⟨nw,hnw⟩:=hdf.pre;have h1':K3[jx]? =some (s,none):=by
    have:(K3.map (·.1))[jx]? =some s:=by
      rw[hnw,gal (by have:=Qaa h1;simpa using this),gtm,h1];rfl
    rw[gtm,omi]at this;obtain⟨⟨x,c'⟩,e1,e2⟩:=this;simp only at e2;subst e2;have:=Qkc hnd3 e1;rw[hlk3]at this;rw[e1,←osj this]
  have h2':al3[jx]? =some bx:=by
    obtain⟨q,e⟩:=hq;rw[e,gal (Qaa h2)];exact h2
  have hbx3:=mgE h2';have sep3:∀i,InB nx i->i∉al3/\¬New m3 d3 i/\¬S3 i:=by
    intro i hi;obtain⟨s1,s2,s3⟩:=h.sep i hi;refine⟨fun e=> ?_,fun e=>s2 (f3.new e),fun e=> ?_⟩
    · rcases hb3 i e with e|e
      · exact s1 e
      · exact s2 e
    · rcases hs3 i e with e|e
      · exact s3 e
      · exact s2 e
  have hne:∀i,InB nx' i->i≠bx:=by
    intro i hi e;rcases hg.new i hi with e2|e2
    · exact(sep3 i e2).1 (by rw[e];exact hbx3)
    · rw[e]at e2;exact p3.inm bx hbx3 e2
  have same4:∀i,S3 i\/i∈al3\/InB d3 i->m4 i=m3 i:=by
    intro i hi;refine hg.same i ?_ fun e=> ?_
    · rcases hi with hi|hi|hi
      · exact p3.sm i hi
      · exact p3.inm i hi
      · exact p3.row.key' hi
    · obtain⟨s1,s2,s3⟩:=sep3 i e
      rcases hi with hi|hi|hi
      · exact s3 hi
      · exact s1 hi
      · exact s2 (.inr hi)
  have p4:=p3.frame same4;obtain⟨x1,x2,n,x3⟩:=hx5;have p5:=p4.write h1' h2' hm5 x1 x2 x3;have p6:=p5.write h1' h2' hm6 rfl rfl (n:=cnt') rfl;have hm64:∀i,i≠bx->m6 i=m4 i:=fun i hi=>by rw[hm6,Qan hi,hm5,Qan hi]
  have ft:=h.fr.trans f3;refine
    { pi:=p6
      ox:=⟨jx,h1',h2'⟩
      at_:=by rw[hm6,Qbb]
      row:=hg.row.frame fun i hi=>hm64 i (hne i hi)
      sep:=fun i hi=> ?_
      ads:= ?_
      fr:=ft.write fun i hi=> ?_
      nw:= ?_
      nn:=fun i hi=> ?_
      xn:=h.xn
      cn:=by rw[hcnt];have:=h.cn;simp only[QiN];split<;>omega
      pre:=hp3
      fin:= ?_}
  · have hnn:m6 i≠none:=by rw[hm64 i (hne i hi)];exact hg.row.key' hi
    rcases hg.new i hi with e|e
    · obtain⟨s1,s2,s3⟩:=sep3 i e
      exact⟨s1,fun e=>e.elim hnn fun e=>s2 (.inr e),s3⟩
    · exact⟨fun e2=>p3.inm i e2 e,fun e2=>e2.elim hnn fun e2=>p3.row.key' e2 e,fun e2=>p3.sm i e2 e⟩
  · have:(g.nx s).take (k+1)=(g.nx s).take k++[y]:=by rw[List.take_add_one,hk];rfl
    rw[this];exact(h.ads.up ⟨nw,hnw⟩ hq).snoc ha
  · have h3:m3 i≠none/\¬InB nx i:=⟨fun e=>hi (ft.new (.inl e)),fun e=>hi (h.nn i e)⟩
    rw[hm64 i (fun e=>hi (by rw[e];exact h.xn)),hg.same i h3.1 h3.2]
  · obtain⟨⟨q1,e1⟩,n2,n3,n4⟩:=h.nw
    obtain⟨q2,e2⟩:=hq;refine⟨⟨q1++q2,by rw[e2,e1,List.append_assoc]⟩,fun b hb=> ?_,fun i hi=> ?_,fun i hi=>hss i (n4 i hi)⟩
    · rcases hb3 b hb with e|e
      · exact n2 b e
      · exact .inr (h.fr.new e)
    · rcases hs3 i hi with e|e
      · exact n3 i e
      · exact .inr (h.fr.new e)
  · rcases hg.new i hi with e|e
    · exact h.nn i e
    · exact ft.new (.inl e)
  · have hd:(g.nx s).drop k=y::(g.nx s).drop (k+1):=by
      obtain⟨hlt,rfl⟩:=List.getElem?_eq_some_iff.1 hk;exact List.drop_eq_getElem_cons hlt
    rw[←h.fin,hd,Qgd,hf];simp only;rw[hcnt]
    congr 1
    rw[Qxw,hck];rfl
theorem Qsh(h:LpG g m d K al S s bx N0 f Pre k m2 d2 K2 al2 S2 nx ads cnt)(hnd:(K2.map (·.1)).Nodup){y:WSt}{K3:Kn WSt}(hdf:DfsR g.nx K2 K3)(hnd3:(K3.map (·.1)).Nodup)
 {c:Int}(hck:lkK K3 y=some (some c)){m3:Ar}{d3:D}{al3:List Nat}{S3:Nat->Prop}{a:Nat}(p3:PI g m3 K3 al3 S3 d3)(ha:Qme K3 al3 y a)(f3:Fr m2 d2 m3 d3)(hq:∃q,al3=al2++q)(hb3:∀b∈al3,b∈al2\/New m2 d2 b)(hs3:∀i,S3 i->S2 i\/New m2 d2 i)
 {m4 m5:Ar}{nx':D}{x5:List D}{l:List (List D)}(hg:Grw m3 m4 nx nx' l)(hm5:m5=mup m4 bx (.cs N0 x5)):∃N ys,m5 a=some (.cs N ys)/\ys[5]? =some (iD c):=by
 obtain⟨ob,obm⟩:=h.old;obtain⟨jx,h1,h2⟩:=h.ox;obtain⟨j,e1,e2⟩:=ha;rw[gtm,omi]at e1;obtain⟨⟨x,c'⟩,e3,e4⟩:=e1;simp only at e4;subst e4;have:=Qkc hnd3 e3;rw[hck]at this;obtain rfl:=osj this;have hpl:=p3.pl j x c a e3 e2;obtain⟨N,nx2,ads2,q1,_⟩:=hpl.ex;have hne:a≠bx:=by
  rintro rfl;have hlk3:=hdf.old _ _ (Qkc hnd h1);have h2':al3[jx]? =some a:=by
   obtain⟨q,e⟩:=hq;rw[e,gal (Qaa h2)];exact h2
  have:j=jx:=(List.getElem?_inj (Qaa e2) p3.nd).1 (e2.trans h2'.symm);subst this;obtain⟨nw,hnw⟩:=hdf.pre;have hx:(K3.map (·.1))[j]? =some s:=by
   rw[hnw,gal (by have:=Qaa h1;simpa using this),gtm,h1];rfl
  rw[gtm,e3]at hx;have:x=s:=osj hx;subst this;rw[hck]at hlk3;cases hlk3
 have hnn:¬InB nx a:=fun e=>by
  obtain⟨s1,s2,s3⟩:=h.sep a e;rcases hs3 a hpl.at_ with e2|e2
  ·exact s3 e2
  ·exact s2 e2
 refine⟨N,plD g x nx2 false c,?_,rfl⟩;rw[hm5,Qan hne,hg.same a (by rw[q1];simp) hnn,q1]
theorem Qvx(h:LpG g m d K al S s bx N0 f Pre k m2 d2 K2 al2 S2 nx ads cnt){y:WSt}(hk:(g.nx s)[k]? =some y)(hf:f K2 y=none){m3:Ar}{d3:D}(f3:Fr m2 d2 m3 d3)
 {m4 m5 m6:Ar}{nx':D}{x5 x6:List D}{l:List (List D)}(hg:Grw m3 m4 nx nx' l)(hm5:m5=mup m4 bx (.cs N0 x5))(hm6:m6=mup m5 bx (.cs N0 x6))(hx6:x6.length=6/\∃n,x6[5]? =some (iD n)):LpB g m d K s bx N0 f m6 d3:=by
 have ft:=h.fr.trans f3;obtain⟨x1,n,x2⟩:=hx6;refine⟨?_,ft.write fun i hi=> ?_,h.xn,x6,n,by rw[hm6,Qbb],x1,x2⟩
 ·have hd:(g.nx s).drop k=y::(g.nx s).drop (k+1):=by
   obtain⟨hlt,rfl⟩:=List.getElem?_eq_some_iff.1 hk;exact List.drop_eq_getElem_cons hlt
  rw[←h.fin,hd,Qgd,hf]
 ·have hx:i≠bx:=fun e=>hi (by rw[e];exact h.xn)
  have h3:m3 i≠none/\¬InB nx i:=⟨fun e=>hi (ft.new (.inl e)),fun e=>hi (h.nn i e)⟩;rw[hm6,Qan hx,hm5,Qan hx,hg.same i h3.1 h3.2]
theorem Qjm(h:LpG g m d K al S s bx N0 f Pre k m2 d2 K2 al2 S2 nx ads cnt){m3:Ar}{d3:D}(f3:Fr m2 d2 m3 d3){a N:Nat}{ys:List D}{n:Int}(ha:a∈al2\/New m2 d2 a)(h1:m3 a=some (.cs N ys))(h2:ys[5]? =some (iD n))
 {m4 m5:Ar}{nx':D}{x5:List D}{l:List (List D)}(hg:Grw m3 m4 nx nx' l)(hm5:m5=mup m4 bx (.cs N0 x5))(hx5:x5[5]? =some (iD cnt)):∃N ys n,m5 a=some (.cs N ys)/\ys[5]? =some (iD n):=by
 by_cases e:a=bx
 ·exact⟨N0,x5,cnt,by rw[e,hm5,Qbb],hx5⟩
 ·have hnn:¬InB nx a:=fun e=>by
   obtain⟨s1,s2,s3⟩:=h.sep a e;rcases ha with e2|e2
   ·exact s1 e2
   ·exact s2 e2
  exact⟨N,ys,n,by rw[hm5,Qan e,hg.same a (by rw[h1];simp) hnn,h1],h2⟩
end
abbrev LpQ:=Int×Ar×D×Nat×List (DV×DV)×Bool
abbrev lpL (bx:Nat) (arl:List (List D)) (n i:Int):Lv:=[(3,.c (.ptr 6 0 0 0)),(5,.c (.ptr 1 0 0 0)),(7,.c (.ptr 7 0 0 0)),(13,.c (.d (.adr bx 0))),(14,.c (.ptr 10 0 0 0)),(75,.c (.d (.list false 1 arl))),(76,iA n),(77,iA i)]
abbrev lpH (bx:Nat) (ost:List Seg) (p:Pkt) (nst:List Seg) (nhp:Int):Hp:=[.bx [.d (iD p.id),.d (iD p.src),.d (iD p.dst),.d (iD p.flow),.d (Qbn ost),.d (iD 0)],.da true 0 1 [[.adr bx 0]],.bx [.d (iD p.id),.d (iD p.src),.d (iD p.dst),.d (iD p.flow),.d (Qbn nst),.d (iD nhp)]]
theorem Qq5(P:Program)(hP:P=Tryd.prog)(t:Top)(xs:List Tab)(p:Pkt)(g:Wlk)(m:Ar)(d:D)(K:Kn WSt)(al:List Nat)(S:Nat->Prop)(s:WSt)(bx N0:Nat)(f:Kn WSt->WSt->Option (Kn WSt))(Pre:Kn WSt->Prop)(nst:List Seg)(nhp:Int)(hR:RecR P t xs p g s nst nhp f Pre)
 (hT:Qbs m)(hTn:¬New m d 0)(Λ:Len)(Λo:∀l,Λ l=(l.length:Int))(m0:Ar)(d0:D)(v0:Nat)(es0:List (DV×DV))(ost:List Seg)(h0:LpI g m d K al S s bx N0 f Pre 0 (0,m0,d0,v0,es0,false))(L:Lv)(h:Hp)(Q:Post)
 (wk:Wk 8 L h (lpL bx ((g.ar s).map QaA) (Λ ((g.ar s).map QaA)) 0) (HS t xs m0 d0 v0 es0 false++lpH bx ost p nst nhp))
 (hQ:∀m' d' v' es' lo,LpI g m d K al S s bx N0 f Pre (g.ar s).length ((g.ar s).length,m',d',v',es',lo)->Q (.exit 0) [(13,.c (.d (.adr bx 0)))] (HS t xs m' d' v' es' lo)):LoopI 8 (vcC P Λ 8 QuV) L h Q:=by
 have hok:FnOk P Qaz:=⟨_,hP▸Qcg,rfl,by decide⟩;refine QcQ (g.ar s).length (fun(q:LpQ)=>lpL bx ((g.ar s).map QaA) (Λ ((g.ar s).map QaA)) q.1) (fun(q:LpQ)=>HS t xs q.2.1 q.2.2.1 q.2.2.2.1 q.2.2.2.2.1 q.2.2.2.2.2++lpH bx ost p nst nhp) (LpI g m d K al S s bx N0 f Pre) (0,m0,d0,v0,es0,false)
  0 (fun(_:LpQ)=>[(13,.c (.d (.adr bx 0)))]) (fun(q:LpQ)=>HS t xs q.2.1 q.2.2.1 q.2.2.2.1 q.2.2.2.2.1 q.2.2.2.2.2) (fun(q:LpQ)=>LpI g m d K al S s bx N0 f Pre (g.ar s).length ((g.ar s).length,q.2.1,q.2.2.1,q.2.2.2.1,q.2.2.2.2.1,q.2.2.2.2.2)) wk h0 (fun k s h=>h.2.1) ?_ ?_
 ·clear h0 hQ wk;rintro k ⟨i,m2,d2,v2,es2,lo⟩ Q' ⟨hi,hkl,hc⟩ norm jn ex rt;simp only at hi hc;subst hi;have hΛ:Λ ((g.ar s).map QaA)=(g.ar s).length:=by rw[Λo];simp
  rcases hc with ⟨rfl,K2,al2,S2,nx,ads,cnt,rfl,hG⟩|⟨rfl,hB⟩
  ·by_cases hlt:k<(g.ar s).length
   ·obtain⟨a,ha⟩:∃a,(g.ar s)[k]? =some a:=⟨_,lgE hlt⟩;have ham:=mgE ha;have hy:(g.nx s)[k]? =some (g.to s a):=by rw[Wlk.nx,nxt,gtm,ha];rfl
    have hyn:(g.to s a).2=nst:=hR.to_ a ham;have htb:¬New m2 d2 0:=fun e=>hTn (hG.fr.new e)
    have hT2:Qbs m2:=(hG.fr.same _ hTn).trans hT;obtain⟨hnd,hkl2⟩:=hR.nd K2 hG.pre;have hcall:=hR.call _ (mgE hy) m2 d2 v2 K2 al2 S2 hT2 hG.pi hG.pre htb;have hlaw:=hR.law _ (mgE hy) K2;have hhd:=hR.hd a ham;have hadl:ads.length=k:=by rw[hG.ads.1,List.length_take];have:=Qaa hy;omega
    have harl:=hR.len;clear hR;generalize hyv:g.to s a=y at*;obtain⟨yn,yst⟩:=y;simp only at hyn hhd hcall;subst hyn;cases hf:f K2 (yn,yst)with
    |none=>
     rw[hf]at hcall;clear hlaw jn;obtain⟨hob,hobm⟩:=hG.old;have hat:=hG.at_;obtain⟨cn0,cn1⟩:=hG.cn;have nrm:=fun L' h' m6 d3 v3 es3 (hx:LpB g m d K s bx N0 f m6 d3)=>norm L' h' (((k+1:Nat):Int),m6,d3,v3,es3,true) ⟨rfl,hlt,.inr ⟨rfl,hx⟩⟩
     clear norm;obtain⟨ka,hka⟩:∃ka:Int,(k:Int)=ka:=⟨_,rfl⟩;have hk0:0<=ka:=by omega
     have hkl3:ka<(g.ar s).length:=by omega
     have hk1:((k+1:Nat):Int)=ka+1:=by omega
     obtain⟨id,src,dst,flow,st0,hops⟩:=p;have hak:((g.ar s).map QaA)[ka.toNat]? =some (QaA a):=by rw[←hka,Int.toNat_natCast,gtm,ha];rfl
     rcases hG.row with ⟨hnx,hads⟩|⟨bn,Nn,capn,hnx,hmn,hsn,hcn1,hcn2⟩
     ·subst hnx;obtain rfl:ads=[]:=by simpa using hads
      simp only[hka,hk1,HS,Qnt,lpH,lpL,Qa2,Qdj,Qaf,Qak,Qbn,QaT,QgK,List.cons_append,List.nil_append]at nrm hcall hhd hΛ ⊢;generalize hgar:(g.ar s).map QaA=arl at*;generalize msE K2 al2=es at*;generalize hxl:List.map Qar xs=xl at*;generalize hol:t.ov.map QbA=ol at*;generalize hll:t.links.map QaL=ll at*;generalize htn:t.nodes=nodes at*;generalize hnsl:List.map Qal yst=nsl at*;generalize List.map Qal ost=osl at*;simp only[plD]at hat
      conv=>cbv
      repeat' first|(intro(e:List D) he;cases osj (he.symm.trans hak);(conv=>cbv))|(refine Qaj hhd rfl rfl ?_;conv=>cbv)|(refine Qel [0,1,2,3,4,5,6,7] hcall rfl rfl (by decide) (by repeat' first|exact trivial|refine And.intro ?_ ?_|rfl) rfl rfl ?_;rintro r hc' hv;obtain⟨m3,d3,v3,es3,b,Nb,yb,nb,rfl,rfl,hyb,hyl,hyb5,hab,f3⟩:=hv;have hm3:=(f3.same bx hob).trans hat;simp only[HS,Qnt,Qaf,Qak,hxl,hol,hll,htn];(conv=>cbv))|exact hok|(refine⟨N0,_,hx5,nle rfl,?_⟩;intro m6 hm6;(conv=>cbv))|(refine⟨N0,_,_,hx5,rfl,?_⟩;(conv=>cbv))|(refine⟨N0,_,hm4x,nle rfl,?_⟩;intro m5 hm5;have hx5:=Qbk hm5;obtain⟨Ny,yv,ny,hyr,hy5⟩:=Qjm hG f3 hab hyb hyb5 hg hm5 rfl;(conv=>cbv))|(refine⟨N0,_,_,hm3,rfl,?_⟩;(conv=>cbv))|(refine⟨Ny,yv,_,hyr,hy5,?_⟩;(conv=>cbv))|(right;intro(_:Unit);refine And.intro (fun _=>⟨(fun hq=>by cases hq),nle rfl⟩) ?_;intro(b4:Nat) (N4:Nat) (cap4:Nat) (k4:Nat) (m4:Ar) hb4 hk4 hkc4 hcN4 hm4;have hg:=Qm1 (e:=QfY b) rfl hb4 hk4 hkc4 hcN4 hm4;have hm4x:=(hg.same bx (by rw[hm3];simp) (fun e=>Qa3 e)).trans hm3;(conv=>cbv))|exact gu|exact trivial|refine And.intro ?_ ?_|(intro hc;first|exact absurd hc (by decide)|(exfalso;omega)|((first|rw[wS (by omega) (by omega)]at hc|rw[Qad]at hc|skip);try (conv=>cbv)))|refine CallG.old ?_
      rename_i w1 hw1 w2 hw2 i2;have hG':=Qvx hG hy hf f3 hg hm5 hm6 ⟨rfl,w2,rfl⟩;subst hc;refine nrm _ _ m6 d3 v3 es3 hG' ?_;exact(Wk.ca)
     ·subst hnx;simp only[hka,hk1,HS,Qnt,lpH,lpL,Qa2,Qdj,Qaf,Qak,Qbn,QaT,QgK,List.cons_append,List.nil_append]at nrm hcall hhd hΛ ⊢;generalize hgar:(g.ar s).map QaA=arl at*;generalize msE K2 al2=es at*;generalize hxl:List.map Qar xs=xl at*;generalize hol:t.ov.map QbA=ol at*;generalize hll:t.links.map QaL=ll at*;generalize htn:t.nodes=nodes at*;generalize hnsl:List.map Qal yst=nsl at*;generalize List.map Qal ost=osl at*;have hnb:∀i,InB (.sl bn 0 1 (List.map QfY ads).length capn) i->i=bn:=fun i hi=>Qd1 hi
      have hbs:=hG.sep bn ⟨_,_,_,_,rfl⟩;have hbx:bx≠bn:=fun e=>hbs.1 (by rw[←e];exact hobm)
      generalize hnal:(List.map QfY ads).length=nal at*;have hnal2:nal<=1000:=by rw[List.length_map]at hnal;omega
      simp only[plD]at hat
      conv=>cbv
      repeat' first|(intro(e:List D) he;cases osj (he.symm.trans hak);(conv=>cbv))|(refine Qaj hhd rfl rfl ?_;conv=>cbv)|(refine Qel [0,1,2,3,4,5,6,7] hcall rfl rfl (by decide) (by repeat' first|exact trivial|refine And.intro ?_ ?_|rfl) rfl rfl ?_;rintro r hc' hv;obtain⟨m3,d3,v3,es3,b,Nb,yb,nb,rfl,rfl,hyb,hyl,hyb5,hab,f3⟩:=hv;have hm3:=(f3.same bx hob).trans hat;have hmn3:=(f3.same bn hbs.2.1).trans hmn;simp only[HS,Qnt,Qaf,Qak,hxl,hol,hll,htn];(conv=>cbv))|exact hok|(refine⟨N0,_,hx5,nle rfl,?_⟩;intro m6 hm6;(conv=>cbv))|(refine⟨N0,_,_,hx5,rfl,?_⟩;(conv=>cbv))|(refine⟨N0,_,hm4x,nle rfl,?_⟩;intro m5 hm5;have hx5:=Qbk hm5;obtain⟨Ny,yv,ny,hyr,hy5⟩:=Qjm hG f3 hab hyb hyb5 hg hm5 rfl;(conv=>cbv))|(refine⟨N0,_,_,hm3,rfl,?_⟩;(conv=>cbv))|(refine⟨Ny,yv,_,hyr,hy5,?_⟩;(conv=>cbv))|(refine⟨Nn,List.map QfY ads,hmn3,rfl,hnal,hsn,hcn1,hcn2,(fun _=>⟨(fun hq=>by cases hq),(show(nal+1)*8<=140737488355328 by omega)⟩),?_⟩;intro(b4:Nat) (N4:Nat) (cap4:Nat) (k4:Nat) (m4:Ar) hb4 hk4 hkc4 hcN4 hm4;have hg:=Qps (c:=capn) (e:=QfY b) hsn rfl hnal hb4 hk4 hkc4 hcN4 hm4;have hm4x:=(hg.same bx (by rw[hm3];simp) (fun e=>hbx (Qd1 e))).trans hm3;(conv=>cbv))|exact gu|exact trivial|refine And.intro ?_ ?_|(intro hc;first|exact absurd hc (by decide)|(exfalso;omega)|((first|rw[wS (by omega) (by omega)]at hc|rw[Qad]at hc|skip);try (conv=>cbv)))|refine CallG.old ?_
      rename_i w1 hw1 w2 hw2 i2;have hG':=Qvx hG hy hf f3 hg hm5 hm6 ⟨rfl,w2,rfl⟩;subst hc;refine nrm _ _ m6 d3 v3 es3 hG' ?_;exact(Wk.ca)
    |some K3=>
     rw[hf]at hcall;obtain⟨hp3,hdf,hnd3,c,hc0,hc1,hck⟩:=hlaw K3 hG.pre hf;clear hlaw jn;obtain⟨hob,hobm⟩:=hG.old;have hat:=hG.at_;obtain⟨cn0,cn1⟩:=hG.cn;have nrm:=fun L' h' m6 d3 v3 al3 S3 nx' ads' cnt' (hx:LpG g m d K al S s bx N0 f Pre (k+1) m6 d3 K3 al3 S3 nx' ads' cnt')=>norm L' h' (((k+1:Nat):Int),m6,d3,v3,msE K3 al3,false) ⟨rfl,hlt,.inl ⟨rfl,K3,al3,S3,nx',ads',cnt',rfl,hx⟩⟩
     clear norm;obtain⟨ka,hka⟩:∃ka:Int,(k:Int)=ka:=⟨_,rfl⟩;have hk0:0<=ka:=by omega
     have hkl3:ka<(g.ar s).length:=by omega
     have hk1:((k+1:Nat):Int)=ka+1:=by omega
     obtain⟨id,src,dst,flow,st0,hops⟩:=p;have hak:((g.ar s).map QaA)[ka.toNat]? =some (QaA a):=by rw[←hka,Int.toNat_natCast,gtm,ha];rfl
     rcases hG.row with ⟨hnx,hads⟩|⟨bn,Nn,capn,hnx,hmn,hsn,hcn1,hcn2⟩
     ·subst hnx;obtain rfl:ads=[]:=by simpa using hads
      simp only[hka,hk1,HS,Qnt,lpH,lpL,Qa2,Qdj,Qaf,Qak,Qbn,QaT,QgK,List.cons_append,List.nil_append]at nrm hcall hhd hΛ ⊢;generalize hgar:(g.ar s).map QaA=arl at*;generalize msE K2 al2=es at*;generalize hxl:List.map Qar xs=xl at*;generalize hol:t.ov.map QbA=ol at*;generalize hll:t.links.map QaL=ll at*;generalize htn:t.nodes=nodes at*;generalize hnsl:List.map Qal yst=nsl at*;generalize List.map Qal ost=osl at*;simp only[plD]at hat
      conv=>cbv
      repeat' first|(intro(e:List D) he;cases osj (he.symm.trans hak);(conv=>cbv))|(refine Qaj hhd rfl rfl ?_;conv=>cbv)|(refine Qel [0,1,2,3,4,5,6,7] hcall rfl rfl (by decide) (by repeat' first|exact trivial|refine And.intro ?_ ?_|rfl) rfl rfl ?_;rintro r hc' hv;obtain⟨m3,d3,v3,al3,S3,b,rfl,rfl,p3,hab,f3,hq,hb3,hs3,hss⟩:=hv;have hm3:=(f3.same bx hob).trans hat;simp only[HS,Qnt,Qaf,Qak,hxl,hol,hll,htn];generalize hes3:msE K3 al3=es3;(conv=>cbv))|exact hok|(refine⟨N0,_,hx5,nle rfl,?_⟩;intro m6 hm6;(conv=>cbv))|(refine⟨N0,_,_,hx5,rfl,?_⟩;(conv=>cbv))|(refine⟨N0,_,hm4x,nle rfl,?_⟩;intro m5 hm5;have hx5:=Qbk hm5;obtain⟨Ny,yv,hyr,hy5⟩:=Qsh hG hnd hdf hnd3 hck p3 hab f3 hq hb3 hs3 hg hm5;(conv=>cbv))|(refine⟨N0,_,_,hm3,rfl,?_⟩;(conv=>cbv))|(refine⟨Ny,yv,_,hyr,hy5,?_⟩;(conv=>cbv))|(right;intro(_:Unit);refine And.intro (fun _=>⟨(fun hq=>by cases hq),nle rfl⟩) ?_;intro(b4:Nat) (N4:Nat) (cap4:Nat) (k4:Nat) (m4:Ar) hb4 hk4 hkc4 hcN4 hm4;have hg:=Qm1 (e:=QfY b) rfl hb4 hk4 hkc4 hcN4 hm4;have hm4x:=(hg.same bx (by rw[hm3];simp) (fun e=>Qa3 e)).trans hm3;(conv=>cbv))|exact gu|exact trivial|refine And.intro ?_ ?_|(intro hc;first|exact absurd hc (by decide)|(exfalso;omega)|((first|rw[wS (by omega) (by omega)]at hc|rw[Qad]at hc|skip);try (conv=>cbv)))|refine CallG.old ?_
      rename_i w1 hw1 w2 hw2 i2;have hG':=Qsg hG hnd hy hf hp3 hdf hnd3 ⟨hc0,hc1⟩ hck p3 hab f3 hq hb3 hs3 hss hg hm5 ⟨rfl,rfl,cnt,rfl⟩ (cnt':=w2) hm6 (by simp only[QiN];split<;>omega);subst hc;have nr:=fun L' h'=>nrm L' h' m6 d3 v3 al3 S3 _ _ _ hG'
      simp only[hes3]at nr;refine nr _ _ ?_;exact(Wk.ca)
     ·subst hnx;simp only[hka,hk1,HS,Qnt,lpH,lpL,Qa2,Qdj,Qaf,Qak,Qbn,QaT,QgK,List.cons_append,List.nil_append]at nrm hcall hhd hΛ ⊢;generalize hgar:(g.ar s).map QaA=arl at*;generalize msE K2 al2=es at*;generalize hxl:List.map Qar xs=xl at*;generalize hol:t.ov.map QbA=ol at*;generalize hll:t.links.map QaL=ll at*;generalize htn:t.nodes=nodes at*;generalize hnsl:List.map Qal yst=nsl at*;generalize List.map Qal ost=osl at*;have hnb:∀i,InB (.sl bn 0 1 (List.map QfY ads).length capn) i->i=bn:=fun i hi=>Qd1 hi
      have hbs:=hG.sep bn ⟨_,_,_,_,rfl⟩;have hbx:bx≠bn:=fun e=>hbs.1 (by rw[←e];exact hobm)
      generalize hnal:(List.map QfY ads).length=nal at*;have hnal2:nal<=1000:=by rw[List.length_map]at hnal;omega
      simp only[plD]at hat
      conv=>cbv
      repeat' first|(intro(e:List D) he;cases osj (he.symm.trans hak);(conv=>cbv))|(refine Qaj hhd rfl rfl ?_;conv=>cbv)|(refine Qel [0,1,2,3,4,5,6,7] hcall rfl rfl (by decide) (by repeat' first|exact trivial|refine And.intro ?_ ?_|rfl) rfl rfl ?_;rintro r hc' hv;obtain⟨m3,d3,v3,al3,S3,b,rfl,rfl,p3,hab,f3,hq,hb3,hs3,hss⟩:=hv;have hm3:=(f3.same bx hob).trans hat;have hmn3:=(f3.same bn hbs.2.1).trans hmn;simp only[HS,Qnt,Qaf,Qak,hxl,hol,hll,htn];generalize hes3:msE K3 al3=es3;(conv=>cbv))|exact hok|(refine⟨N0,_,hx5,nle rfl,?_⟩;intro m6 hm6;(conv=>cbv))|(refine⟨N0,_,_,hx5,rfl,?_⟩;(conv=>cbv))|(refine⟨N0,_,hm4x,nle rfl,?_⟩;intro m5 hm5;have hx5:=Qbk hm5;obtain⟨Ny,yv,hyr,hy5⟩:=Qsh hG hnd hdf hnd3 hck p3 hab f3 hq hb3 hs3 hg hm5;(conv=>cbv))|(refine⟨N0,_,_,hm3,rfl,?_⟩;(conv=>cbv))|(refine⟨Ny,yv,_,hyr,hy5,?_⟩;(conv=>cbv))|(refine⟨Nn,List.map QfY ads,hmn3,rfl,hnal,hsn,hcn1,hcn2,(fun _=>⟨(fun hq=>by cases hq),(show(nal+1)*8<=140737488355328 by omega)⟩),?_⟩;intro(b4:Nat) (N4:Nat) (cap4:Nat) (k4:Nat) (m4:Ar) hb4 hk4 hkc4 hcN4 hm4;have hg:=Qps (c:=capn) (e:=QfY b) hsn rfl hnal hb4 hk4 hkc4 hcN4 hm4;have hm4x:=(hg.same bx (by rw[hm3];simp) (fun e=>hbx (Qd1 e))).trans hm3;(conv=>cbv))|exact gu|exact trivial|refine And.intro ?_ ?_|(intro hc;first|exact absurd hc (by decide)|(exfalso;omega)|((first|rw[wS (by omega) (by omega)]at hc|rw[Qad]at hc|skip);try (conv=>cbv)))|refine CallG.old ?_
      rename_i w1 hw1 w2 hw2 i2;have hG':=Qsg hG hnd hy hf hp3 hdf hnd3 ⟨hc0,hc1⟩ hck p3 hab f3 hq hb3 hs3 hss (by rw[List.map_append];exact hg) hm5 ⟨rfl,rfl,cnt,rfl⟩ (cnt':=w2) hm6 (by simp only[QiN];split<;>omega);subst hc;have nr:=fun L' h'=>nrm L' h' m6 d3 v3 al3 S3 _ _ _ hG'
      simp only[hes3]at nr;refine nr _ _ ?_;exact(Wk.ca)
   ·have e:k=(g.ar s).length:=by omega
    have hj:=fun L' h'=>jn L' h' ((k:Int),m2,d2,v2,msE K2 al2,false) (by
     subst e;exact⟨rfl,Nat.le_refl _,.inl ⟨rfl,K2,al2,S2,nx,ads,cnt,rfl,hG⟩⟩)
    clear jn norm hR;simp only[HS,Qnt,lpH,lpL,Qaf,Qak,Qbn]at*;obtain⟨ka,hka⟩:∃ka:Int,(k:Int)=ka:=⟨_,rfl⟩;have hk0:0<=ka:=by omega
    simp only[hka]at hj ⊢;generalize hgar:g.ar s=ar at*;generalize List.map QaA ar=arl at*;generalize msE K2 al2=es at*;generalize List.map Qar xs=xl at*;generalize t.ov.map QbA=ol at*;generalize t.links.map QaL=ll at*;generalize List.map Qal nst=nsl at*;generalize List.map Qal ost=osl at*
    conv=>cbv
    repeat' first|exact gu|exact trivial|refine And.intro ?_ ?_|(intro hc;first|exact absurd hc (by decide)|(exfalso;omega)|((first|rw[wS (by omega) (by omega)]at hc|rw[Qad]at hc|skip);try (conv=>cbv)))|refine CallG.old ?_
    refine hj _ _ ?_;exact(Wk.ca)
  ·have hj:=fun L' h'=>jn L' h' ((k:Int),m2,d2,v2,es2,true) ⟨rfl,Nat.le_refl _,.inr ⟨rfl,hB⟩⟩
   clear jn norm hR;simp only[HS,Qnt,lpH,lpL,Qaf,Qak,Qbn]at*;generalize hgar:g.ar s=ar at*;obtain⟨ka,hka⟩:∃ka:Int,(k:Int)=ka:=⟨_,rfl⟩;have hk0:0<=ka:=by omega
   simp only[hka]at hj ⊢;generalize harl:List.map QaA ar=arl at*;generalize List.map Qar xs=xl at*;generalize t.ov.map QbA=ol at*;generalize t.links.map QaL=ll at*;generalize List.map Qal nst=nsl at*;generalize List.map Qal ost=osl at*
   conv=>cbv
   repeat' first|(intro e he;obtain⟨x,hx,rfl⟩:=Qbo harl he;(conv=>cbv))|exact gu|exact trivial|refine And.intro ?_ ?_|(intro hc;first|exact absurd hc (by decide)|(exfalso;omega)|((first|rw[wS (by omega) (by omega)]at hc|rw[Qad]at hc|skip);try (conv=>cbv)))|refine CallG.old ?_
   all_goals refine hj _ _ ?_
   all_goals exact(Wk.ca)
 ·rintro⟨i,m',d',v',es',lo⟩ he;exact hQ _ _ _ _ _ he
theorem Qg5(m:Ar)(b:Nat)(x y:AB):mup (mup m b x) b y=mup m b y:=by
 funext i
 by_cases h:i=b
 ·rw[h,Qbb,Qbb]
 ·rw[Qan h,Qan h,Qan h]
section
variable{g:Wlk}{m:Ar}{d:D}{K:Kn WSt}{al:List Nat}{S:Nat->Prop}{s:WSt}{bx N0:Nat}{f:Kn WSt->WSt->Option (Kn WSt)}{Pre:Kn WSt->Prop}
theorem Qii{x0:List D}{m2 m4:Ar}{d2:D}{c0:Int}(h:Reg g m d K al S s bx N0 x0 m2 d2)(hl:al.length=K.length)(hpre:Pre (K++[(s,none)]))(hm:m4=mup m2 bx (.cs N0 (plD g s (.list true 1 []) true c0)))(hc:c0=if g.nx s=[]then 1 else 0):
    LpG g m d K al S s bx N0 f Pre 0 m4 d2 (K++[(s,none)]) (al++[bx]) S (.list true 1 []) [] c0:=by
  have h1:(K++[((s,none):WSt×Option Int)])[K.length]? =some (s,none):=by simp
  have h2:(al++[bx])[K.length]? =some bx:=by rw[←hl];simp
  refine
    { pi:=h.pi.write h1 h2 hm rfl rfl (n:=c0) rfl
      ox:=⟨K.length,h1,h2⟩
      at_:=by rw[hm,Qbb]
      row:= .inl ⟨rfl,rfl⟩
      sep:=fun i hi=>(Qa3 hi).elim
      ads:=⟨rfl,fun i y a h=>by simp at h⟩
      fr:=h.fr.write fun i hi=>by rw[hm,Qan fun e=>hi (by rw[e];exact .inl h.new)]
      nw:=⟨⟨_,rfl⟩,fun b hb=> ?_,fun i hi=> .inl hi,fun i hi=>hi⟩
      nn:=fun i hi=>(Qa3 hi).elim
      xn:= .inl h.new
      cn:=by rw[hc];split<;>omega
      pre:=hpre
      fin:=by rw[hc,List.drop_zero]}
  rcases List.mem_append.1 hb with hb|hb
  · exact .inl hb
  · simp at hb;rw[hb];exact .inr (.inl h.new)
theorem Qpz{m' m6:Ar}{d':D}{K2:Kn WSt}{al2:List Nat}{S2:Nat->Prop}{nx:D}{ads:List Nat}{cnt:Int}(t:Top)(xs:List Tab)(v:Nat)(h:LpG g m d K al S s bx N0 f Pre (g.ar s).length m' d' K2 al2 S2 nx ads cnt)(hnd:(K2.map (·.1)).Nodup)(hm6:m6=mup m' bx (.cs N0 (plD g s nx false cnt))):
  Qz6 g t xs m d al S s (QkH K2 s cnt) (.c (.d (.adr bx 0))) (HS t xs m6 d' v (msE K2 al2) false)/\Qgd f (g.nx s) (K++[(s,none)]) (if g.nx s=[]then 1 else 0)=some (K2,cnt):=by
 have hl:(g.nx s).length=(g.ar s).length:=by rw[Wlk.nx,nxt,List.length_map]
 obtain⟨jx,h1,h2⟩:=h.ox;obtain⟨n1,n2,n3,n4⟩:=h.nw;refine⟨⟨m6,d',v,al2,_,bx,rfl,by rw[msE,msE,QwG],h.pi.done hnd h1 h2 hm6 h.row (fun i hi=>⟨(h.sep i hi).1,fun e=>(h.sep i hi).2.1 (.inr e)⟩) ?_,⟨jx,?_,h2⟩,h.fr.write fun i hi=> ?_,n1,n2,fun i hi=> ?_,fun i hi=> .inl (n4 i hi)⟩,?_⟩
 ·have:=h.ads;rw[List.take_of_length_le (by omega)]at this;exact this
 ·rw[QgY,gtm,h1];rfl
 ·rw[hm6,Qan fun e=>hi (by rw[e];exact h.xn)]
 ·rcases hi with hi|hi|hi
  ·exact n3 i hi
  ·rw[hi];exact .inr h.xn
  ·exact .inr (h.nn i hi)
 ·have:=h.fin;rw[List.drop_eq_nil_of_le (by omega)]at this;exact this.symm
end
theorem Qtg(P:Program)(hP:P=Tryd.prog)(t:Top)(xs:List Tab)(p:Pkt)(g:Wlk)(m:Ar)(d:D)(v:Nat)(K:Kn WSt)(al:List Nat)(S:Nat->Prop)(s:WSt)(hp:Int)(hT:Qbs m)(hs:NmOK s)(hI:PI g m K al S d)
 (hTn:¬New m d 0)(hlen:al.length<=1000)(hk:lkK K s=none)(hnd:(K.map (·.1)).Nodup){x:Tab}{nst:List Seg}{nhp:Int}(hst:StpW P t xs p g s x nst nhp)
 {f:Kn WSt->WSt->Option (Kn WSt)}{Pre:Kn WSt->Prop}(hR:RecR P t xs p g s nst nhp f Pre)(hpre:Pre (K++[(s,none)])):
  FnS P Qaz ([iA s.1,Qdj {p with stack:=s.2,hops:=hp}]++QgK) (HS t xs m d v (msE K al) false) fun r h'=>∃h0 tl,h'=h0++tl/\QvS g t xs m d al S s (match Qgd f (g.nx s) (K++[(s,none)]) (if g.nx s=[]then 1 else 0)with
   |none=>none
   |some (K',c)=>some (QkH K' s c)) r h0:=by
 have hno:∀i v,sfind (Qud s) (msS K al) 0≠some (i,v):=by
  intro i v h;obtain⟨c,b,h1,_⟩:=QpB h;rw[Qkc hnd h1]at hk;cases hk
 have hnm:=Qso P hP m hT s.1 s.2 hs.n hs.l hs.i;obtain⟨e1,e2,hstep,-,-,harl⟩:=hst;have hloop:=fun bx N0 Λ Λo m0 d0 v0 es0=>Qq5 P hP t xs p g m d K al S s bx N0 f Pre nst nhp hR hT hTn Λ Λo m0 d0 v0 es0 s.2
 have hRn:=hR.nd;clear hR;refine QaO (hP▸mixed) (hP▸Qcg) (hP▸QeR) (nle rfl) fun Λ Λo Q hQ=> ?_
 clear hP;have hfin:=fun r h0 (h:QvS g t xs m d al S s (match Qgd f (g.nx s) (K++[(s,none)]) (if g.nx s=[]then 1 else 0)with
   |none=>none
   |some (K',c)=>some (QkH K' s c)) r h0)=>hQ r h0 ⟨h0,[],by simp,h⟩
 clear hQ;generalize hdo:Qgd f (g.nx s) (K++[(s,none)]) (if g.nx s=[]then 1 else 0)=o at hfin;obtain⟨n,st⟩:=s;obtain⟨id,src,dst,flow,st0,hops⟩:=p;simp only at*;have hxl:(List.map Qar xs)[n.toNat]? =some (Qar x):=by rw[gtm,e1];rfl
 have hxn:n<(xs.length:Int):=by have:=Qaa e1;omega
 generalize hgar:g.ar (n,st)=ar at*;generalize hgrs:g.rs (n,st)=rs at*;obtain⟨nodes,ov,links⟩:=t;obtain⟨xnode,xto,xdown⟩:=x;simp only[HS,Qnt,lpH,lpL,List.cons_append,List.nil_append,msE,Qdj,QqR,Qa2,QgK,Qf9,Qbn,Qaf,Qak,Qh1,QaU,QaT,Qud,Qar]at*;generalize hkey:nameS n (List.map pr2 st)=key at*;generalize hesh:msS K al=ms at*;generalize hese:ms.map Qh0=es at*;generalize List.map Qal st=sl at*;generalize List.map Qal nst=nsl at*;generalize hxlh:xs.map Qar=xl at*;have hΛx:Λ xl=xs.length:=by rw[Λo,←hxlh];simp
 generalize hol:ov.map QbA=ol at*;generalize hll:links.map QaL=ll at*;generalize List.map QaG xto=tol at*;generalize List.map QaA xdown=dol at*;generalize harlh:List.map QaA ar=arl at*;have hΛa:Λ arl=ar.length:=by rw[Λo,←harlh];simp
 have hes1:∀bx es',(ms++[(key,DV.s (.adr bx 0))]).map Qh0=es'->es'=msE (K++[((n,st),none)]) (al++[bx]):=fun bx es' h=>by rw[←h,←hesh,msE,Qup hI.len,←hkey]
 rcases hI.row with ⟨hd,hal⟩|⟨bd,Nd,capd,hd,hmd,hsd,hc1,hc2⟩
 ·rw[hd]
  conv=>cbv
  repeat' first|(left;intro(_:Unit);(conv=>cbv))|(refine QaI [0] hnm rfl rfl (by decide) ⟨rfl,trivial⟩ rfl rfl ?_;rintro r hc' ⟨rfl,rfl⟩;(conv=>cbv))|(refine Qmc hese (fun h0=>unstp ?_) (fun i v hv=>absurd hv (hno i v)))|exact gu|exact trivial|refine And.intro ?_ ?_|(intro hc;first|exact absurd hc (by decide)|(exfalso;omega)|((first|rw[wS (by omega) (by omega)]at hc|rw[Qad]at hc|skip);try (conv=>cbv)))|refine CallG.old ?_
  refine stp ?_
  conv=>cbv
  repeat' first|(right;intro(_:Unit);refine unstp ?_)|exact gu|exact trivial|refine And.intro ?_ ?_|(intro hc;first|exact absurd hc (by decide)|(exfalso;omega)|((first|rw[wS (by omega) (by omega)]at hc|rw[Qad]at hc|skip);try (conv=>cbv)))|refine CallG.old ?_
  refine stp ?_;intro(bx:Nat) (N0:Nat) (m1:Ar) hbx hN0 hm1
  conv=>cbv
  repeat' first|(refine QpX hese (fun h0 es' he'=> ?_) (fun i3 v3 hv3=>absurd hv3 (hno i3 v3));have hesn:=hes1 bx es' he';(conv=>cbv))|(right;intro(_:Unit);refine And.intro (fun _=>⟨(fun hq=>by cases hq),nle rfl⟩) (unstp ?_))|exact gu|exact trivial|refine And.intro ?_ ?_|(intro hc;first|exact absurd hc (by decide)|(exfalso;omega)|((first|rw[wS (by omega) (by omega)]at hc|rw[Qad]at hc|skip);try (conv=>cbv)))|refine CallG.old ?_
  refine stp ?_;intro(bd2:Nat) (Nd2:Nat) (capd2:Nat) (kd2:Nat) (m2:Ar) hb2 hk2 hkc2 hcN2 hm2;have hR:=QsE (s:=(n,st)) hI hd hal hbx hm1 ⟨rfl,rfl,0,rfl⟩ rfl hb2 hk2 hkc2 hcN2 hm2;clear hm1 hm2 hb2 hk2 hkc2 hcN2;have hx2:=hR.at_
  conv=>cbv
  repeat' first|(left;intro(_:Unit);(conv=>cbv))|(intro(e:List D) he;cases osj (he.symm.trans hxl);(conv=>cbv))|(refine Qaj hstep rfl rfl ?_;conv=>cbv)|(refine⟨N0,_,hx3,nle rfl,?_⟩;intro m4 hm4;have hx4:=Qbk hm4;(conv=>cbv))|(refine⟨N0,_,hx2,nle rfl,?_⟩;intro m3 hm3;have hx3:=Qbk hm3;(conv=>cbv))|(refine⟨N0,_,_,hx4,rfl,?_⟩;(conv=>cbv))|(refine⟨N0,_,hx4,nle rfl,?_⟩;intro m5 hm5;have hx5:=Qbk hm5;(conv=>cbv))|(refine⟨N0,_,_,hx5,rfl,?_⟩;(conv=>cbv))|exact gu|exact trivial|refine And.intro ?_ ?_|(intro hc;first|exact absurd hc (by decide)|(exfalso;omega)|((first|rw[wS (by omega) (by omega)]at hc|rw[Qad]at hc|skip);try (conv=>cbv)))|refine CallG.old ?_
  ·have h0:ar=[]:=List.eq_nil_of_length_eq_zero (by omega);have hnx:g.nx (n,st)=[]:=by rw[Wlk.nx,nxt,hgar,h0];rfl
   have hst:=Qii (Pre:=Pre) (f:=f) (m4:=m5) (c0:=1) hR hI.len hpre (by rw[hm5,hm4,hm3,Qg5,Qg5];simp only[plD,hgrs,hgar,harlh];rfl) (by rw[if_pos hnx]);refine hloop bx N0 Λ Λo m5 (.sl bd2 0 1 kd2 capd2) (v+1) es' ⟨rfl,Nat.zero_le _,.inl ⟨rfl,_,_,_,_,_,_,hesn,hst⟩⟩ _ _ _ (Wk.ca) ?_
   ·intro m' d' v' es2 lo ⟨_,_,hL⟩;rcases hL with ⟨hlo,K2,al2,S2,nx,ads,cnt,hes2,hG⟩|⟨hlo,hB⟩
    ·simp only at hlo hes2 hG;subst hlo hgar;have hat:=hG.at_;simp only[plD]at hat
     conv=>cbv
     repeat' first|(refine⟨N0,_,hat,nle rfl,?_⟩;intro m6 hm6;(conv=>cbv))|exact gu|exact trivial|refine And.intro ?_ ?_|(intro hc;first|exact absurd hc (by decide)|(exfalso;omega)|((first|rw[wS (by omega) (by omega)]at hc|rw[Qad]at hc|skip);try (conv=>cbv)))|refine CallG.old ?_
     obtain⟨hv,he⟩:=Qpz ⟨nodes,ov,links⟩ xs v' hG (hRn K2 hG.pre).1 (m6:=m6) hm6;obtain rfl:some (K2,cnt)=o:=he.symm.trans hdo;subst hes2 hxlh hol hll;exact hfin _ _ hv
    ·simp only at hlo hB;subst hlo;obtain⟨he,hfr,hnw,ys,cn,hat,hyl,hy5⟩:=hB
     conv=>cbv
     repeat' first|(refine⟨N0,_,hat,(by rw[hyl];exact nle rfl),?_⟩;intro m6 hm6;(conv=>cbv))|exact gu|exact trivial|refine And.intro ?_ ?_|(intro hc;first|exact absurd hc (by decide)|(exfalso;omega)|((first|rw[wS (by omega) (by omega)]at hc|rw[Qad]at hc|skip);try (conv=>cbv)))|refine CallG.old ?_
     obtain rfl:none=o:=he.symm.trans hdo;subst hxlh hol hll;refine hfin _ _ ⟨m6,d',v',es2,bx,N0,_,cn,rfl,rfl,Qbk hm6,?_,?_,.inr hnw,hfr.write fun i hi=>Qjo hm6 fun e=>hi (by rw[e];exact hnw)⟩
     ·simp[hyl]
     ·rw[←hy5]
      match ys,hyl with
      |[y0,y1,y2,y3,y4,y5],_=>rfl
  ·have hnx:g.nx (n,st)≠[]:=by
    rw[Wlk.nx,nxt,hgar];intro e;have:ar.length=0:=by simpa using congrArg List.length e
    omega
   have hst:=Qii (Pre:=Pre) (f:=f) (m4:=m4) (c0:=0) hR hI.len hpre (by rw[hm4,hm3,Qg5];simp only[plD,hgrs,hgar,harlh];rfl) (by rw[if_neg hnx]);refine hloop bx N0 Λ Λo m4 (.sl bd2 0 1 kd2 capd2) (v+1) es' ⟨rfl,Nat.zero_le _,.inl ⟨rfl,_,_,_,_,_,_,hesn,hst⟩⟩ _ _ _ (Wk.ca) ?_
   ·intro m' d' v' es2 lo ⟨_,_,hL⟩;rcases hL with ⟨hlo,K2,al2,S2,nx,ads,cnt,hes2,hG⟩|⟨hlo,hB⟩
    ·simp only at hlo hes2 hG;subst hlo hgar;have hat:=hG.at_;simp only[plD]at hat
     conv=>cbv
     repeat' first|(refine⟨N0,_,hat,nle rfl,?_⟩;intro m6 hm6;(conv=>cbv))|exact gu|exact trivial|refine And.intro ?_ ?_|(intro hc;first|exact absurd hc (by decide)|(exfalso;omega)|((first|rw[wS (by omega) (by omega)]at hc|rw[Qad]at hc|skip);try (conv=>cbv)))|refine CallG.old ?_
     obtain⟨hv,he⟩:=Qpz ⟨nodes,ov,links⟩ xs v' hG (hRn K2 hG.pre).1 (m6:=m6) hm6;obtain rfl:some (K2,cnt)=o:=he.symm.trans hdo;subst hes2 hxlh hol hll;exact hfin _ _ hv
    ·simp only at hlo hB;subst hlo;obtain⟨he,hfr,hnw,ys,cn,hat,hyl,hy5⟩:=hB
     conv=>cbv
     repeat' first|(refine⟨N0,_,hat,(by rw[hyl];exact nle rfl),?_⟩;intro m6 hm6;(conv=>cbv))|exact gu|exact trivial|refine And.intro ?_ ?_|(intro hc;first|exact absurd hc (by decide)|(exfalso;omega)|((first|rw[wS (by omega) (by omega)]at hc|rw[Qad]at hc|skip);try (conv=>cbv)))|refine CallG.old ?_
     obtain rfl:none=o:=he.symm.trans hdo;subst hxlh hol hll;refine hfin _ _ ⟨m6,d',v',es2,bx,N0,_,cn,rfl,rfl,Qbk hm6,?_,?_,.inr hnw,hfr.write fun i hi=>Qjo hm6 fun e=>hi (by rw[e];exact hnw)⟩
     ·simp[hyl]
     ·rw[←hy5]
      match ys,hyl with
      |[y0,y1,y2,y3,y4,y5],_=>rfl
 ·generalize hnal:(List.map QfY al).length=nal at*;rw[hd]
  conv=>cbv
  repeat' first|(left;intro(_:Unit);(conv=>cbv))|(refine QaI [0] hnm rfl rfl (by decide) ⟨rfl,trivial⟩ rfl rfl ?_;rintro r hc' ⟨rfl,rfl⟩;(conv=>cbv))|(refine Qmc hese (fun h0=>unstp ?_) (fun i v hv=>absurd hv (hno i v)))|exact gu|exact trivial|refine And.intro ?_ ?_|(intro hc;first|exact absurd hc (by decide)|(exfalso;omega)|((first|rw[wS (by omega) (by omega)]at hc|rw[Qad]at hc|skip);try (conv=>cbv)))|refine CallG.old ?_
  refine stp ?_
  conv=>cbv
  repeat' first|(right;intro(_:Unit);refine unstp ?_)|exact gu|exact trivial|refine And.intro ?_ ?_|(intro hc;first|exact absurd hc (by decide)|(exfalso;omega)|((first|rw[wS (by omega) (by omega)]at hc|rw[Qad]at hc|skip);try (conv=>cbv)))|refine CallG.old ?_
  refine stp ?_;intro(bx:Nat) (N0:Nat) (m1:Ar) hbx hN0 hm1;have hbd:bd≠bx:=fun e=>by rw[e,hbx]at hmd;cases hmd
  have hmd1:=(Qjo hm1 hbd).trans hmd
  conv=>cbv
  repeat' first|(refine QpX hese (fun h0 es' he'=> ?_) (fun i3 v3 hv3=>absurd hv3 (hno i3 v3));have hesn:=hes1 bx es' he';(conv=>cbv))|(refine⟨Nd,List.map QfY al,hmd1,rfl,hnal,hsd,hc1,hc2,(fun _=>⟨(fun hq=>by cases hq),?_⟩),unstp ?_⟩)|exact gu|exact trivial|refine And.intro ?_ ?_|(intro hc;first|exact absurd hc (by decide)|(exfalso;omega)|((first|rw[wS (by omega) (by omega)]at hc|rw[Qad]at hc|skip);try (conv=>cbv)))|refine CallG.old ?_
  ·rw[List.length_map]at hnal;show(nal+1)*8<=140737488355328;omega
  refine stp ?_;intro(bd2:Nat) (Nd2:Nat) (capd2:Nat) (kd2:Nat) (m2:Ar) hb2 hk2 hkc2 hcN2 hm2;have hR:=QuG (s:=(n,st)) hI hd hnal hsd (by rw[hmd];simp) hbx hm1 ⟨rfl,rfl,0,rfl⟩ rfl hb2 hk2 hkc2 hcN2 hm2;clear hm1 hm2 hb2 hk2 hkc2 hcN2;have hx2:=hR.at_
  conv=>cbv
  repeat' first|(left;intro(_:Unit);(conv=>cbv))|(intro(e:List D) he;cases osj (he.symm.trans hxl);(conv=>cbv))|(refine Qaj hstep rfl rfl ?_;conv=>cbv)|(refine⟨N0,_,hx3,nle rfl,?_⟩;intro m4 hm4;have hx4:=Qbk hm4;(conv=>cbv))|(refine⟨N0,_,hx2,nle rfl,?_⟩;intro m3 hm3;have hx3:=Qbk hm3;(conv=>cbv))|(refine⟨N0,_,_,hx4,rfl,?_⟩;(conv=>cbv))|(refine⟨N0,_,hx4,nle rfl,?_⟩;intro m5 hm5;have hx5:=Qbk hm5;(conv=>cbv))|(refine⟨N0,_,_,hx5,rfl,?_⟩;(conv=>cbv))|exact gu|exact trivial|refine And.intro ?_ ?_|(intro hc;first|exact absurd hc (by decide)|(exfalso;omega)|((first|rw[wS (by omega) (by omega)]at hc|rw[Qad]at hc|skip);try (conv=>cbv)))|refine CallG.old ?_
  ·have h0:ar=[]:=List.eq_nil_of_length_eq_zero (by omega);have hnx:g.nx (n,st)=[]:=by rw[Wlk.nx,nxt,hgar,h0];rfl
   have hst:=Qii (Pre:=Pre) (f:=f) (m4:=m5) (c0:=1) hR hI.len hpre (by rw[hm5,hm4,hm3,Qg5,Qg5];simp only[plD,hgrs,hgar,harlh];rfl) (by rw[if_pos hnx]);refine hloop bx N0 Λ Λo m5 (.sl bd2 0 1 kd2 capd2) (v+1) es' ⟨rfl,Nat.zero_le _,.inl ⟨rfl,_,_,_,_,_,_,hesn,hst⟩⟩ _ _ _ (Wk.ca) ?_
   ·intro m' d' v' es2 lo ⟨_,_,hL⟩;rcases hL with ⟨hlo,K2,al2,S2,nx,ads,cnt,hes2,hG⟩|⟨hlo,hB⟩
    ·simp only at hlo hes2 hG;subst hlo hgar;have hat:=hG.at_;simp only[plD]at hat
     conv=>cbv
     repeat' first|(refine⟨N0,_,hat,nle rfl,?_⟩;intro m6 hm6;(conv=>cbv))|exact gu|exact trivial|refine And.intro ?_ ?_|(intro hc;first|exact absurd hc (by decide)|(exfalso;omega)|((first|rw[wS (by omega) (by omega)]at hc|rw[Qad]at hc|skip);try (conv=>cbv)))|refine CallG.old ?_
     obtain⟨hv,he⟩:=Qpz ⟨nodes,ov,links⟩ xs v' hG (hRn K2 hG.pre).1 (m6:=m6) hm6;obtain rfl:some (K2,cnt)=o:=he.symm.trans hdo;subst hes2 hxlh hol hll;exact hfin _ _ hv
    ·simp only at hlo hB;subst hlo;obtain⟨he,hfr,hnw,ys,cn,hat,hyl,hy5⟩:=hB
     conv=>cbv
     repeat' first|(refine⟨N0,_,hat,(by rw[hyl];exact nle rfl),?_⟩;intro m6 hm6;(conv=>cbv))|exact gu|exact trivial|refine And.intro ?_ ?_|(intro hc;first|exact absurd hc (by decide)|(exfalso;omega)|((first|rw[wS (by omega) (by omega)]at hc|rw[Qad]at hc|skip);try (conv=>cbv)))|refine CallG.old ?_
     obtain rfl:none=o:=he.symm.trans hdo;subst hxlh hol hll;refine hfin _ _ ⟨m6,d',v',es2,bx,N0,_,cn,rfl,rfl,Qbk hm6,?_,?_,.inr hnw,hfr.write fun i hi=>Qjo hm6 fun e=>hi (by rw[e];exact hnw)⟩
     ·simp[hyl]
     ·rw[←hy5]
      match ys,hyl with
      |[y0,y1,y2,y3,y4,y5],_=>rfl
  ·have hnx:g.nx (n,st)≠[]:=by
    rw[Wlk.nx,nxt,hgar];intro e;have:ar.length=0:=by simpa using congrArg List.length e
    omega
   have hst:=Qii (Pre:=Pre) (f:=f) (m4:=m4) (c0:=0) hR hI.len hpre (by rw[hm4,hm3,Qg5];simp only[plD,hgrs,hgar,harlh];rfl) (by rw[if_neg hnx]);refine hloop bx N0 Λ Λo m4 (.sl bd2 0 1 kd2 capd2) (v+1) es' ⟨rfl,Nat.zero_le _,.inl ⟨rfl,_,_,_,_,_,_,hesn,hst⟩⟩ _ _ _ (Wk.ca) ?_
   ·intro m' d' v' es2 lo ⟨_,_,hL⟩;rcases hL with ⟨hlo,K2,al2,S2,nx,ads,cnt,hes2,hG⟩|⟨hlo,hB⟩
    ·simp only at hlo hes2 hG;subst hlo hgar;have hat:=hG.at_;simp only[plD]at hat
     conv=>cbv
     repeat' first|(refine⟨N0,_,hat,nle rfl,?_⟩;intro m6 hm6;(conv=>cbv))|exact gu|exact trivial|refine And.intro ?_ ?_|(intro hc;first|exact absurd hc (by decide)|(exfalso;omega)|((first|rw[wS (by omega) (by omega)]at hc|rw[Qad]at hc|skip);try (conv=>cbv)))|refine CallG.old ?_
     obtain⟨hv,he⟩:=Qpz ⟨nodes,ov,links⟩ xs v' hG (hRn K2 hG.pre).1 (m6:=m6) hm6;obtain rfl:some (K2,cnt)=o:=he.symm.trans hdo;subst hes2 hxlh hol hll;exact hfin _ _ hv
    ·simp only at hlo hB;subst hlo;obtain⟨he,hfr,hnw,ys,cn,hat,hyl,hy5⟩:=hB
     conv=>cbv
     repeat' first|(refine⟨N0,_,hat,(by rw[hyl];exact nle rfl),?_⟩;intro m6 hm6;(conv=>cbv))|exact gu|exact trivial|refine And.intro ?_ ?_|(intro hc;first|exact absurd hc (by decide)|(exfalso;omega)|((first|rw[wS (by omega) (by omega)]at hc|rw[Qad]at hc|skip);try (conv=>cbv)))|refine CallG.old ?_
     obtain rfl:none=o:=he.symm.trans hdo;subst hxlh hol hll;refine hfin _ _ ⟨m6,d',v',es2,bx,N0,_,cn,rfl,rfl,Qbk hm6,?_,?_,.inr hnw,hfr.write fun i hi=>Qjo hm6 fun e=>hi (by rw[e];exact hnw)⟩
     ·simp[hyl]
     ·rw[←hy5]
      match ys,hyl with
      |[y0,y1,y2,y3,y4,y5],_=>rfl
structure UOK (P:Program) (t:Top) (xs:List Tab) (p:Pkt) (g:Wlk) (U:List WSt):Prop where
 len:U.length<=1000
 nm:∀s∈U,NmOK s
 st:∀s∈U,∃x nst nhp,StpW P t xs p g s x nst nhp
 cl:∀s∈U,∀y∈g.nx s,y∈U
structure PreN (g:Wlk) (U:List WSt) (n:Nat) (K:Kn WSt):Prop where
 dn:Done g.nx K
 nd:(K.map (·.1)).Nodup
 sub:∀x∈K.map (·.1),x∈U
 fuel:U.length<=K.length+n
theorem PreN.len{g:Wlk}{U:List WSt}{n:Nat}{K:Kn WSt}(h:PreN g U n K):K.length<=U.length:=by
 have:=h.nd.length_le_of_subset h.sub;simpa using this
theorem Qv6{n:Nat}:0<=QiN n/\QiN n<=1001:=by
 simp only[QiN];split<;>omega
theorem QrE{nx:WSt->List WSt}{K:Kn WSt}{s:WSt}(h:Done nx K)(hs:lkK K s=none):Done nx (K++[(s,none)]):=by
 intro x c hx;rw[QeW]at hx;cases hk:lkK K x with
 |none=>
  rw[hk]at hx;simp only[lkK]at hx;split at hx<;>cases hx
 |some c1=>
  rw[hk]at hx;cases hx;obtain⟨h1,h2⟩:=h x c hk;refine⟨h1,fun y hy=> ?_⟩;obtain⟨c',e⟩:=h2 y hy;exact⟨c',by rw[QeW,e]⟩
theorem Qva(P:Program)(hP:P=Tryd.prog)(t:Top)(xs:List Tab)(p:Pkt)(g:Wlk)(U:List WSt)(hU:UOK P t xs p g U):∀(n:Nat) (s:WSt),s∈U->∀(hp:Int) (m:Ar) (d:D) (v:Nat) (K:Kn WSt) (al:List Nat) (S:Nat->Prop),Qbs m->¬New m d 0->PI g m K al S d->PreN g U n K->
    FnS P Qaz ([iA s.1,Qdj {p with stack:=s.2,hops:=hp}]++QgK) (HS t xs m d v (msE K al) false) (QvS g t xs m d al S s (dfs g.nx n K s)):=by
  intro n;induction n with
  |zero=>
    intro s hs hp m d v K al S hT hTn hI hK;cases hk:lkK K s with
    |some c=>
      cases c with
      |some k=>
        have e:dfs g.nx 0 K s=some K:=by simp only[dfs,hk]
        rw[e];exact QdO P hP t xs p g m d v K al S s hp hT (hU.nm s hs) hI hK.nd (some k) hk
      |none=>
        have e:dfs g.nx 0 K s=none:=by simp only[dfs,hk]
        rw[e];exact QdO P hP t xs p g m d v K al S s hp hT (hU.nm s hs) hI hK.nd none hk
    |none=>
      exfalso;have h1:(K.map (·.1)++[s]).Nodup:=by
        rw[List.nodup_append];refine⟨hK.nd,by simp,fun x hx y hy e=> ?_⟩;simp at hy;rw[e,hy]at hx;exact Qg3.1 hk hx
      have h2:=h1.length_le_of_subset (l₂:=U) fun x hx=>by
        rcases List.mem_append.1 hx with hx|hx
        · exact hK.sub x hx
        · simp at hx;rw[hx];exact hs
      rw[List.length_append,List.length_map]at h2;have:=hK.fuel;simp at h2;omega
  |succ n ih=>
    intro s hs hp m d v K al S hT hTn hI hK;cases hk:lkK K s with
    |some c=>
      cases c with
      |some k=>
        have e:dfs g.nx (n+1) K s=some K:=by simp only[dfs,hk]
        rw[e];exact QdO P hP t xs p g m d v K al S s hp hT (hU.nm s hs) hI hK.nd (some k) hk
      |none=>
        have e:dfs g.nx (n+1) K s=none:=by simp only[dfs,hk]
        rw[e];exact QdO P hP t xs p g m d v K al S s hp hT (hU.nm s hs) hI hK.nd none hk
    |none=>
      obtain⟨x,nst,nhp,hst⟩:=hU.st s hs;have hl:=hK.len;have hR:RecR P t xs p g s nst nhp (dfs g.nx n) (PreN g U n):=
        { hd:=hst.hd
          to_:=hst.tos
          len:=hst.len
          nd:=fun K2 h2=>⟨h2.nd,by have:=h2.len;have:=hU.len;omega⟩
          call:=fun y hy m2 d2 v2 K2 al2 S2 hT2 hI2 hK2 hTn2=>ih y (hU.cl s hs y hy) nhp m2 d2 v2 K2 al2 S2 hT2 hTn2 hI2 hK2
          law:=fun y hy K2 K3 hK2 hd=>by
            obtain⟨h1,c,h2⟩:=Qlm hK2.dn hd;have h3:=QiR hK2.nd hd;obtain⟨nw,hnw⟩:=h1.pre;have hlen:K2.length<=K3.length:=by
              have:=congrArg List.length hnw;simp at this;omega
            refine⟨⟨h1.dn,h3,?_,by have:=hK2.fuel;omega⟩,h1,h3,c,?_⟩
            · exact Qvo (U:=(·∈U)) hU.cl hK2.sub (hU.cl s hs y hy) hd
            · obtain⟨⟨k,_,e⟩,_⟩:=h1.dn y c h2
              have:=Qv6 (n:=num g.nx k y);rw[←e]at this;exact⟨this.1,this.2,h2⟩}
      have hpre:PreN g U n (K++[(s,none)]):=by
        refine⟨QrE hK.dn hk,?_,fun y hy=> ?_,by have:=hK.fuel;simp;omega⟩
        · rw[List.map_append,List.nodup_append]
          refine⟨hK.nd,by simp,fun x hx y hy e=> ?_⟩;simp at hy;rw[e,hy]at hx;exact Qg3.1 hk hx
        · rw[List.map_append]at hy
          rcases List.mem_append.1 hy with hy|hy
          · exact hK.sub y hy
          · simp at hy;rw[hy];exact hs
      have h:=Qtf (Qtg P hP t xs p g m d v K al S s hp hT (hU.nm s hs) hI hTn (by rw[hI.len];have:=hU.len;omega) hk hK.nd hst hR hpre);have e:dfs g.nx (n+1) K s=(match Qgd (dfs g.nx n) (g.nx s) (K++[(s,none)]) (if g.nx s=[]then 1 else 0)with
        |none=>none
        |some (K',c)=>some (QkH K' s c)):=by
        simp only[dfs,hk];generalize Qgd (dfs g.nx n) (g.nx s) (K++[(s,none)]) (if g.nx s=[]then 1 else 0)=r;cases r<;>rfl
      rw[e];exact h
theorem Qyz(g:Wlk)(m:Ar):PI g m [] [] (fun _=>False) (.list true 1 [])where
 len:=rfl
 nd:=by simp
 row:= .inl ⟨rfl,rfl⟩
 rowS b hb:=(Qa3 hb).elim
 inm b hb:=by cases hb
 sm b hb:=hb.elim
 pl j s k b h:=by simp at h
 op j s b h:=by simp at h
def QhQ(g:Wlk)(m:Ar)(s:WSt)(n:Nat)(e:Int)(r:AV)(m':Ar):Prop:=
 if e=0 then (match dfs g.nx n [] s with
  |some K=>∃d al S a,r= .tup [.c (.d (.adr a 0)),.c (.d d),iA 0]/\PI g m' K al S d/\Qme K al s a/\Fr m (.list true 1 []) m' d
  |none=>r= .tup [.c (.d .nilp),.c (.d (.list true 1 [])),iA 16]/\∃d,Fr m (.list true 1 []) m' d)
 else r= .tup [.c (.d .nilp),.c (.d (.list true 1 [])),iA e]/\m'=m
theorem Qhd(P:Program)(hP:P=Tryd.prog)(t:Top)(xs:List Tab)(p:Pkt)(from_:Int)(g:Wlk)(U:List WSt)(m:Ar)(hT:Qbs m)(hU:QaH t xs from_=0->UOK P t xs p g U/\(from_,p.stack)∈U):
  FnS P Qev [Qa2 t,Qcu xs,Qdj p,iA from_] [.am m] fun r h'=>∃m' tl,h'= .am m'::tl/\QhQ g m (from_,p.stack) U.length (QaH t xs from_) r m':=by
 have hck:=Qti P hP t xs from_;have hok:FnOk P Qaz:=⟨_,hP▸Qcg,rfl,by decide⟩;have hvis:=fun(h:QaH t xs from_=0)=>Qva P hP t xs p g U (hU h).1 U.length (from_,p.stack) (hU h).2 p.hops m (.list true 1 []) 0 [] [] (fun _=>False) hT (fun e=>by
  rcases e with e|e
  ·rw[Qbs]at hT;rw[hT]at e;cases e
  ·exact Qa3 e) (Qyz g m) ⟨fun x c h=>(by cases h),by simp,by simp,by simp⟩
 refine QaO (hP▸mixed) (hP▸Qj9) (hP▸Qlf) (nle rfl) fun Λ Λo Q hQ=> ?_
 clear hP hU;have fin:∀r m' tl,QhQ g m (from_,p.stack) U.length (QaH t xs from_) r m'->Q r (.am m'::tl):=fun r m' tl h=>hQ r _ ⟨m',tl,rfl,h⟩
 clear hQ;by_cases h0:QaH t xs from_=0
 ·have hvis:=hvis h0;rw[h0]at hck fin;simp only[QhQ,if_true]at fin;cases hd:dfs g.nx U.length [] (from_,p.stack)with
  |some K=>
   rw[hd]at hvis fin;simp only at fin;have fin:=fun m' tl d al S a (h1:PI g m' K al S d) (h2:Qme K al (from_,p.stack) a) (h3:Fr m (.list true 1 []) m' d)=>fin (.tup [.c (.d (.adr a 0)),.c (.d d),iA 0]) m' tl ⟨d,al,S,a,rfl,h1,h2,h3⟩
   generalize hst:(from_,p.stack)=st at*;obtain⟨id,src,dst,flow,st0,hops⟩:=p;simp only[←hst,HS,Qnt,msE,msS,Qa2,Qcu,Qdj,QgK,Qbn,Qaf,Qak,List.zip_nil_left,List.map_nil,List.cons_append,List.nil_append]at hvis hck ⊢;generalize hxl:List.map Qar xs=xl at*;generalize hol:t.ov.map QbA=ol at*;generalize hll:t.links.map QaL=ll at*;generalize htn:t.nodes=nodes at*;generalize List.map Qal st0=sl at*
   conv=>cbv
   repeat' first|(left;intro(_:Unit);(conv=>cbv))|(refine Qaj hck rfl rfl ?_;conv=>cbv)|exact hok|(refine Qel [0,1,2,4,5,6,7,8] hvis rfl rfl (by decide) (by repeat' first|exact trivial|refine And.intro ?_ ?_|rfl) rfl rfl ?_;rintro r hc' hv;obtain⟨m3,d3,v3,al3,S3,b,rfl,rfl,p3,hab,f3,-⟩:=hv;simp only[HS,Qnt,Qaf,Qak,hxl,hol,hll,htn];generalize msE K al3=es3;(conv=>cbv))|exact gu|exact trivial|refine And.intro ?_ ?_|(intro hc;first|exact absurd hc (by decide)|(exfalso;omega)|((first|rw[wS (by omega) (by omega)]at hc|rw[Qad]at hc|skip);try (conv=>cbv)))|refine CallG.old ?_
   exact fin _ _ _ _ _ _ p3 (by rw[←hst];exact hab) f3
  |none=>
   rw[hd]at hvis fin;simp only at fin;have fin:=fun m' tl d (h1:Fr m (.list true 1 []) m' d)=>fin (.tup [.c (.d .nilp),.c (.d (.list true 1 [])),iA 16]) m' tl ⟨rfl,d,h1⟩
   generalize hst:(from_,p.stack)=st at*;obtain⟨id,src,dst,flow,st0,hops⟩:=p;simp only[←hst,HS,Qnt,msE,msS,Qa2,Qcu,Qdj,QgK,Qbn,Qaf,Qak,List.zip_nil_left,List.map_nil,List.cons_append,List.nil_append]at hvis hck ⊢;generalize hxl:List.map Qar xs=xl at*;generalize hol:t.ov.map QbA=ol at*;generalize hll:t.links.map QaL=ll at*;generalize htn:t.nodes=nodes at*;generalize List.map Qal st0=sl at*
   conv=>cbv
   repeat' first|(left;intro(_:Unit);(conv=>cbv))|(refine Qaj hck rfl rfl ?_;conv=>cbv)|exact hok|(refine Qel [0,1,2,4,5,6,7,8] hvis rfl rfl (by decide) (by repeat' first|exact trivial|refine And.intro ?_ ?_|rfl) rfl rfl ?_;rintro r hc' hv;obtain⟨m3,d3,v3,es3,b,N3,y3,n3,rfl,rfl,-,-,-,-,f3⟩:=hv;simp only[HS,Qnt,Qaf,Qak,hxl,hol,hll,htn];(conv=>cbv))|exact gu|exact trivial|refine And.intro ?_ ?_|(intro hc;first|exact absurd hc (by decide)|(exfalso;omega)|((first|rw[wS (by omega) (by omega)]at hc|rw[Qad]at hc|skip);try (conv=>cbv)))|refine CallG.old ?_
   exact fin _ _ _ f3
 ·simp only[QhQ,if_neg h0]at fin;have fin:=fun tl=>fin (.tup [.c (.d .nilp),.c (.d (.list true 1 [])),iA (QaH t xs from_)]) m tl ⟨rfl,rfl⟩
  clear hvis;generalize QaH t xs from_=e at*;obtain⟨id,src,dst,flow,st0,hops⟩:=p;simp only[Qa2,Qcu,Qdj,Qbn,Qaf,Qak]at hck ⊢;generalize hxl:List.map Qar xs=xl at*;generalize hol:t.ov.map QbA=ol at*;generalize hll:t.links.map QaL=ll at*;generalize htn:t.nodes=nodes at*;generalize List.map Qal st0=sl at*
  conv=>cbv
  repeat' first|(left;intro(_:Unit);(conv=>cbv))|(refine Qaj hck rfl rfl ?_;conv=>cbv)|exact gu|exact trivial|refine And.intro ?_ ?_|(intro hc;first|exact absurd hc (by decide)|(exfalso;omega)|((first|rw[wS (by omega) (by omega)]at hc|rw[Qad]at hc|skip);try (conv=>cbv)))|refine CallG.old ?_
  exact fin _
abbrev QsM (r:Rsl):AV:= .agg [.d (iD r.node),.d (iD r.rs),.d (QaU r.path)]
def QAd(g:Wlk)(q:WSt×List Int):Rsl:=⟨q.1.1,g.rs q.1,q.2⟩
def brR(g:Wlk)(n:Nat)(x:WSt)(p:List Int):List Rsl:=(brs g.ar g.to n x p).map (QAd g)
def PT(g:Wlk)(O:Nat->Prop)(m:Ar):Nat->WSt->Nat->Prop
 |0,x,a=>¬O a/\g.ar x=[]/\∃(N:Nat) (nx:D) (c:Int),m a=some (.cs N (plD g x nx false c))
 |n+1,x,a=>¬O a/\∃(N:Nat) (nx:D) (c:Int) (ads:List Nat),m a=some (.cs N (plD g x nx false c))/\Qc8 1 m nx (ads.map QfY)/\(∀b,InB nx b->¬O b)/\ads.length=(g.ar x).length/\
   ∀(i:Nat) (e:Int) (b:Nat),(g.ar x)[i]? =some e->ads[i]? =some b->PT g O m n (g.to x e) b
theorem PT.keep{g:Wlk}{O O':Nat->Prop}{m m':Ar}(hm:∀b,m b≠none->¬O b->m' b=m b)(hO:∀b,O' b->O b\/m b=none):∀{n:Nat} {x:WSt} {a:Nat},PT g O m n x a->PT g O' m' n x a:=by
 have hn:∀b,m b≠none->¬O b->¬O' b:=fun b h1 h2 h3=>(hO b h3).elim h2 h1
 intro n;induction n with
 |zero=>
  intro x a ⟨h1,h2,N,nx,c,h3⟩;have ha:m a≠none:=by rw[h3];simp
  exact⟨hn a ha h1,h2,N,nx,c,by rw[hm a ha h1];exact h3⟩
 |succ n ih=>
  intro x a ⟨h1,N,nx,c,ads,h3,h4,h5,h6,h7⟩;have ha:m a≠none:=by rw[h3];simp
  exact⟨hn a ha h1,N,nx,c,ads,by rw[hm a ha h1];exact h3,h4.frame fun b hb=>hm b (h4.key' hb) (h5 b hb),fun b hb=>hn b (h4.key' hb) (h5 b hb),h6,fun i e b he hb=>ih (h7 i e b he hb)⟩
theorem PT.ne{g:Wlk}{O:Nat->Prop}{m:Ar}{n:Nat}{x:WSt}{a:Nat}(h:PT g O m n x a):m a≠none:=by
 cases n with
 |zero=>obtain⟨-,-,N,nx,c,h⟩:=h;rw[h];simp
 |succ n=>obtain⟨-,N,nx,c,ads,h,-⟩:=h;rw[h];simp
theorem QzD{g:Wlk}{m:Ar}{K:Kn WSt}{al:List Nat}{S:Nat->Prop}{d:D}(hI:PI g m K al S d)(hd:∀y∈K.map (·.1),∃c,lkK K y=some (some c))(hnd:(K.map (·.1)).Nodup):∀(n:Nat) (x:WSt) (a:Nat),Dep g.nx n x->Qme K al x a->PT g (fun _=>False) m n x a:=by
 have key:∀(x:WSt) (a:Nat),Qme K al x a->∃k,PlOK g m K al S x k a:=by
  intro x a ⟨j,h1,h2⟩;obtain⟨c,hc⟩:=hd x (mgE h1);rw[gtm,omi]at h1;obtain⟨⟨y,c'⟩,h3,rfl⟩:=h1;have:=Qkc hnd h3;rw[hc]at this;cases this;exact⟨c,hI.pl j _ c a h3 h2⟩
 intro n;induction n with
 |zero=>
  intro x a hx ha;obtain⟨k,-,N,nx,ads,h1,-⟩:=key x a ha;exact⟨fun h=>h,by rw[Dep,Wlk.nx,nxt,List.map_eq_nil_iff]at hx;exact hx,N,nx,k,h1⟩
 |succ n ih=>
  intro x a hx ha;obtain⟨k,-,N,nx,ads,h1,h2,-,h4,h5⟩:=key x a ha;refine⟨fun h=>h,N,nx,k,ads,h1,h2,fun _ _ h=>h,by rw[h4,Wlk.nx,nxt,List.length_map],fun i e b he hb=> ?_⟩;have hy:(g.nx x)[i]? =some (g.to x e):=by rw[Wlk.nx,nxt,gtm,he];rfl
  exact ih _ b (hx _ (mgE hy)) (h5 i _ b hy hb)
structure YlC (P:Program) (l N:Nat) (J:List Rsl->(Nat->Prop)->Ar->Prop):Prop where
 no:NoFn P l
 out:∀pre O m r,J pre O m->pre.length<N->FnS P (8589934592+l) [QsM r] [.am m] fun q h'=>q=bA true/\∃m' O',h'=[.am m']/\J (pre++[r]) O' m'/\(∀b,m b≠none->¬O b->m' b=m b)/\∀b,O' b->O b\/m b=none
 st:∀pre O m m',J pre O m->(∀b,O b->m' b=m b)->J pre O m'
 ne:∀pre O m b,J pre O m->O b->m b≠none
def YlE(J:List Rsl->(Nat->Prop)->Ar->Prop)(pre rs:List Rsl)(O:Nat->Prop)(m:Ar)(h':Hp):Prop:=
 ∃m' O',h'=[.am m']/\J (pre++rs) O' m'/\(∀b,m b≠none->¬O b->m' b=m b)/\∀b,O' b->O b\/m b=none
theorem Qlb{g:Wlk}{n:Nat}{x:WSt}{p:List Int}(h:g.ar x=[]):brR g n x p=[⟨x.1,g.rs x,p⟩]:=by
 cases n with
 |zero=>rfl
 |succ n=>rw[brR,brs,if_pos h];rfl
theorem Qo5{g:Wlk}{n:Nat}{x:WSt}{p:List Int}(h:g.ar x≠[]):brR g (n+1) x p=(g.ar x).flatMap fun e=>brR g n (g.to x e) (p++[e]):=by
 rw[brR,brs,if_neg h,List.map_flatMap];rfl
theorem Qsk(P:Program)(hP:P=Tryd.prog)(m:Ar)(a:Nat)(nl:Bool)(pl:List (List D)):
  FnS P Qc2 [.c (.d (.adr a 0)),.c (.d (.list nl 1 pl))] [.am m] fun r h'=>∃bx bp Nx Np m1 m',r= .c (.fn false Qah [.d (.adr bx 0),.d (.adr bp 0)])/\h'=[.am m']/\m bx=none/\m1=mup m bx (.cs Nx [.adr a 0])/\m1 bp=none/\m'=mup m1 bp (.cs Np [.list nl 1 pl]):=by
 refine QaO (hP▸mixed) (hP▸QeN) (hP▸QeQ) (nle rfl) fun Λ Λo K hK=> ?_
 clear hP;have fin:=fun bx bp Nx Np m1 m' h1 h2 h3 h4=>hK (.c (.fn false Qah [.d (.adr bx 0),.d (.adr bp 0)])) [.am m'] ⟨bx,bp,Nx,Np,m1,m',rfl,rfl,h1,h2,h3,h4⟩
 clear hK
 conv=>cbv
 repeat' first|(right;intro(_:Unit);intro(b:Nat) (N:Nat) (m2:Ar) hb (_:_<=N) hm2;(conv=>cbv))|exact gu|exact trivial|refine And.intro ?_ ?_|(intro hc;first|exact absurd hc (by decide)|(exfalso;omega)|((first|rw[wS (by omega) (by omega)]at hc|rw[Qad]at hc|skip);try (conv=>cbv)))|refine CallG.old ?_
 all_goals exact fin _ _ _ _ _ _ (by assumption) (by assumption) hb hm2
def Qy1(t:Top)(fr:Bool)(a:Int):Int:=if fr then Qom t a else Qgb t a
theorem Qqf{t:Top}(hv:Qao t=true)(fr:Bool){a:Int}(h0:0<=a)(h1:a<2*t.links.length):0<=Qy1 t fr a/\Qy1 t fr a<t.nodes:=by
 have hk:=Qd9.1 ((Qai.1 hv).2.2.2 _ (List.getElem_mem (l:=t.links) (n:=(a/2).toNat) (by omega)));have hl:QeP t a=t.links[(a/2).toNat]'(by omega):=by rw[QeP,lgE (by omega)];rfl
 rw[←hl]at hk;unfold Qy1 Qom Qgb;split<;>split<;>omega
theorem QdG(l:List Int)(a:Nat)(v:Int)(c:Nat):at' (l.set a v) c=if a=c/\a<l.length then v else at' l c:=by
 simp only[at',List.getD_eq_getElem?_getD,List.getElem?_set];by_cases h1:a=c
 ·subst h1;by_cases h2:a<l.length
  ·simp[h2]
  ·simp[h2]
 ·simp[h1]
structure HW (n:Nat) (K L O:List Int):Prop where
 kl:K.length=n
 ll:L.length=n
 rg:∀p,p<O.length->0<=at' O p/\at' O p<n/\at' L (at' O p).toNat=p+1
 un:∀i:Nat,i<n->at' L i=0\/∃p,p<O.length/\at' O p=i
theorem HW.inj{n:Nat}{K L O:List Int}(h:HW n K L O){p q:Nat}(hp:p<O.length)(hq:q<O.length)(he:at' O p=at' O q):p=q:=by
 have h1:=(h.rg p hp).2.2;have h2:=(h.rg q hq).2.2;rw[he]at h1;omega
theorem HW.swap{n:Nat}{K L O:List Int}(h:HW n K L O){p q:Nat}(hp:p<O.length)(hq:q<O.length):
  HW n K ((L.set (at' O q).toNat (p+1)).set (at' O p).toNat (q+1)) (swp O p q):=by
 have hi:=h.rg p hp;have hj:=h.rg q hq;have hl:=h.ll;refine⟨h.kl,by simp[h.ll],fun c hc=> ?_,fun i hi'=> ?_⟩
 ·rw[QeB]at hc;have hx:=h.rg c hc;rw[QjL hp hq];by_cases h1:c=q
  ·rw[if_pos h1,QdG,if_pos ⟨rfl,by simp only[List.length_set];omega⟩];exact⟨hi.1,hi.2.1,by omega⟩
  ·rw[if_neg h1];by_cases h2:c=p
   ·have hne:at' O p≠at' O q:=fun e=>h1 (h2.trans (h.inj hp hq e))
    rw[if_pos h2,QdG,if_neg (by omega),QdG,if_pos ⟨rfl,by omega⟩];exact⟨hj.1,hj.2.1,by omega⟩
   ·have n1:at' O c≠at' O q:=fun e=>h1 (h.inj hc hq e)
    have n2:at' O c≠at' O p:=fun e=>h2 (h.inj hc hp e)
    rw[if_neg h2,QdG,if_neg (by omega),QdG,if_neg (by omega)];exact hx
 ·by_cases h1:at' O p=i
  ·exact .inr ⟨q,by rw[QeB];exact hq,by rw[QjL hp hq,if_pos rfl];exact h1⟩
  ·by_cases h2:at' O q=i
   ·by_cases h3:p=q
    ·subst h3;exact absurd h2 h1
    ·exact .inr ⟨p,by rw[QeB];exact hp,by rw[QjL hp hq,if_neg h3,if_pos rfl];exact h2⟩
   ·rcases h.un i hi' with h3|⟨c,hc,h3⟩
    ·left;rw[QdG,if_neg (by omega),QdG,if_neg (by omega)];exact h3
    ·right;refine⟨c,by rw[QeB];exact hc,?_⟩;rw[QjL hp hq,if_neg (fun e=>h2 (by rw[←e];exact h3)),if_neg (fun e=>h1 (by rw[←e];exact h3))];exact h3
structure HQ (n m:Nat) (tl:List (List D)) (K:List Int) (ps es:List (List D)) (O:List Int):Prop where
 pl:∃L:List Int,ps=L.map QaA/\HW n K L O
 oe:es=O.map QaA++tl
 len:O.length=m
theorem Qr9{K:List Int}{i:Nat}{v:Int}{a:Int}(h0:0<=a)(h:a≠i):at' (K.set i v) a.toNat=at' K a.toNat:=by
 rw[QdG,if_neg (by omega)]
theorem Qjj{K:List Int}{i:Nat}{v:Int}{a b:Int}(ha:0<=a)(hb:0<=b)(hai:a≠i)(hbi:b≠i):leK (K.set i v) a b↔leK K a b:=by
 have h1:=Qr9 (K:=K) (v:=v) ha hai;have h2:=Qr9 (K:=K) (v:=v) hb hbi;simp only[at']at h1 h2;simp only[leK,ltK,h1,h2]
theorem QnS{O:List Int}{m p:Nat}(h:p<m):at' (O.take m) p=at' O p:=by
 simp only[at',List.getD_eq_getElem?_getD,List.getElem?_take,if_pos h]
theorem HW.key{n:Nat}{K L O:List Int}(h:HW n K L O)(i:Nat)(v:Int):HW n (K.set i v) L O:=⟨by simp[h.kl],h.ll,h.rg,h.un⟩
theorem Pre.key{n:Nat}{K L O:List Int}(hw:HW n K L O)(h:HO K O){p:Nat}(hp:p<O.length){i:Nat}(hi:at' O p=i)(v:Int):Pre (K.set i v) O p:=by
 have ne:∀c,c<O.length->c≠p->at' O c≠i:=fun c hc hcp e=>hcp (hw.inj hc hp (e.trans hi.symm))
 refine⟨fun c c0 cl cp cpp=> ?_,fun c p0 c0 cl cpp=> ?_⟩
 ·exact(Qjj (hw.rg _ (by omega)).1 (hw.rg _ cl).1 (ne _ (by omega) cpp) (ne _ cl cp)).2 (h c c0 cl)
 ·refine(Qjj (hw.rg _ (by omega)).1 (hw.rg _ cl).1 (ne _ (by omega) (by omega)) (ne _ cl (by omega))).2 ?_;have h1:=h p p0 hp;have h2:=h c c0 cl;rw[cpp]at h2;exact Qgm h1 h2
theorem HW.add{n:Nat}{K L O:List Int}(h:HW n K L O){i:Nat}(hi:i<n)(h0:at' L i=0):HW n K (L.set i ((O.length:Int)+1)) (O++[(i:Int)]):=by
 have hll:=h.ll;have ha:∀c,c<O.length->at' (O++[(i:Int)]) c=at' O c:=fun c hc=>by
  simp only[at',List.getD_eq_getElem?_getD,gal hc]
 have hb:at' (O++[(i:Int)]) O.length=i:=by simp[at',List.getD_eq_getElem?_getD]
 refine⟨h.kl,by simp[h.ll],fun p hp=> ?_,fun j hj=> ?_⟩
 ·simp only[List.length_append,List.length_cons,List.length_nil]at hp;by_cases h1:p=O.length
  ·subst h1;rw[hb,QdG,if_pos ⟨rfl,by omega⟩];exact⟨by omega,by omega,rfl⟩
  ·rw[ha p (by omega)];have h2:=h.rg p (by omega);have h3:at' O p≠i:=fun e=>by
    rw[e]at h2;have e2:((i:Int)).toNat=i:=rfl;rw[e2,h0]at h2;omega
   rw[QdG,if_neg (by omega)];exact h2
 ·by_cases h1:j=i
  ·subst h1;exact .inr ⟨O.length,by simp,hb⟩
  ·rw[QdG,if_neg (by omega)];rcases h.un j hj with h2|⟨p,hp,h2⟩
   ·exact .inl h2
   ·exact .inr ⟨p,by simp;omega,by rw[ha p hp];exact h2⟩
theorem Pre.add{n:Nat}{K L O:List Int}(hw:HW n K L O)(h:HO K O){i:Nat}(h0:at' L i=0)(v:Int):Pre (K.set i v) (O++[(i:Int)]) O.length:=by
 have ha:∀c,c<O.length->at' (O++[(i:Int)]) c=at' O c:=fun c hc=>by
  simp only[at',List.getD_eq_getElem?_getD,gal hc]
 have ne:∀c,c<O.length->at' O c≠i:=fun c hc e=>by
  have h2:=hw.rg c hc;rw[e]at h2;have e2:((i:Int)).toNat=i:=rfl;rw[e2,h0]at h2;omega
 refine⟨fun c c0 cl cp cpp=> ?_,fun c p0 c0 cl cpp=> ?_⟩
 ·simp only[List.length_append,List.length_cons,List.length_nil]at cl;rw[ha _ (by omega),ha _ (by omega)];exact(Qjj (hw.rg _ (by omega)).1 (hw.rg _ (by omega)).1 (ne _ (by omega)) (ne _ (by omega))).2 (h c c0 (by omega))
 ·simp only[List.length_append,List.length_cons,List.length_nil]at cl;omega
theorem HW.cut{n:Nat}{K L O:List Int}(h:HW n K L O){m:Nat}(hm:O.length=m+1){i:Nat}(hi:at' O m=i):HW n (K.set i 0) (L.set i 0) (O.take m):=by
 have hll:=h.ll;have hl:(O.take m).length=m:=by simp[hm]
 refine⟨by simp[h.kl],by simp[h.ll],fun p hp=> ?_,fun j hj=> ?_⟩
 ·rw[hl]at hp;rw[QnS hp];have h2:=h.rg p (by omega);have h3:at' O p≠i:=fun e=>by
   have:=h.inj (p:=p) (q:=m) (by omega) (by omega) (e.trans hi.symm);omega
  rw[QdG,if_neg (by omega)];exact h2
 ·by_cases h1:j=i
  ·subst h1;left;rw[QdG,if_pos ⟨rfl,by omega⟩]
  ·rw[QdG,if_neg (by omega)];rcases h.un j hj with h2|⟨p,hp,h2⟩
   ·exact .inl h2
   ·refine .inr ⟨p,?_,?_⟩
    ·rw[hl];have:p≠m:=fun e=>by rw[e,hi]at h2;omega
     omega
    ·have:p≠m:=fun e=>by rw[e,hi]at h2;omega
     rw[QnS (by omega)];exact h2
theorem Pre.cut{n:Nat}{K L O:List Int}(hw:HW n K L O)(h:HO K O){m p:Nat}(hm:O.length=m+1)(hp:p<=m){i:Nat}(hi:at' O p=i):Pre (K.set i 0) ((swp O p m).take m) p:=by
 have hs:=QjL (O:=O) (p:=p) (q:=m) (by omega) (by omega);have hl:((swp O p m).take m).length=m:=by simp[QeB,hm]
 have ne:∀c,c<O.length->c≠p->at' O c≠i:=fun c hc hcp e=>hcp (hw.inj hc (by omega) (e.trans hi.symm))
 have same:∀c,c<m->c≠p->at' ((swp O p m).take m) c=at' O c:=fun c hc hcp=>by rw[QnS hc,hs,if_neg (by omega),if_neg hcp]
 refine⟨fun c c0 cl cp cpp=> ?_,fun c p0 c0 cl cpp=> ?_⟩
 ·rw[hl]at cl;rw[same _ (by omega) cpp,same _ cl cp];exact(Qjj (hw.rg _ (by omega)).1 (hw.rg _ (by omega)).1 (ne _ (by omega) cpp) (ne _ (by omega) cp)).2 (h c c0 (by omega))
 ·rw[hl]at cl;rw[same _ (by omega) (by omega),same _ cl (by omega)];refine(Qjj (hw.rg _ (by omega)).1 (hw.rg _ (by omega)).1 (ne _ (by omega) (by omega)) (ne _ (by omega) (by omega))).2 ?_;have h1:=h p p0 (by omega);have h2:=h c c0 (by omega);rw[cpp]at h2;exact Qgm h1 h2
theorem HQ.cut{n m M:Nat}{tl:List (List D)}{K:List Int}{ps es:List (List D)}{O:List Int}(h:HQ n M tl K ps es O)(hM:M=m+1){i:Nat}(hi:at' O m=i):
  ∃tl',HQ n m tl' (K.set i 0) (ps.set i [iD 0]) es (O.take m):=by
 obtain⟨⟨L,rfl,hw⟩,rfl,hl⟩:=h;refine⟨(O.drop m).map QaA++tl,⟨_,?_,hw.cut (by omega) hi⟩,?_,?_⟩
 ·rw[List.map_set];rfl
 ·rw[←List.append_assoc,←List.map_append,List.take_append_drop]
 ·simp;omega
structure DI (t:Top) (down:List Bool) (e:Int) (fr:Bool) (D K:List Int) (H:Int->Prop) (last:Int) (pend:Int->Prop):Prop where
 len:(D.length:Int)=t.nodes
 kl:(K.length:Int)=t.nodes
 lo:∀i,0<=i->i<t.nodes-> -1<=gt D i
 hi:∀i,0<=i->i<t.nodes->gt D i<=65535*Qvn D
 l0:0<=last
 held:∀x,H x->0<=x/\x<t.nodes/\gt D x= -1/\last<=gt K x
 past:∀x,0<=x->x<t.nodes->gt D x<=last
 root:gt D e=0\/(H e/\gt K e=0/\last=0/\∀x,H x->x=e)
 fix:∀a:Int,0<=a->a<2*t.links.length->Qf5 t down e fr a=true->0<=gt D (yOf t fr a)->pend a\/(0<=gt D (xOf t fr a)/\gt D (xOf t fr a)<=gt D (yOf t fr a)+Qbt t a)\/(H (xOf t fr a)/\gt K (xOf t fr a)<=gt D (yOf t fr a)+Qbt t a)
 td:∀x,0<=x->x<t.nodes->x≠e->0<=gt D x->∃a:Int,0<=a/\a<2*t.links.length/\Qf5 t down e fr a=true/\xOf t fr a=x/\0<=gt D (yOf t fr a)/\gt D x=gt D (yOf t fr a)+Qbt t a
 th:∀x,H x->x≠e->∃a:Int,0<=a/\a<2*t.links.length/\Qf5 t down e fr a=true/\xOf t fr a=x/\0<=gt D (yOf t fr a)/\gt K x=gt D (yOf t fr a)+Qbt t a
theorem DI.dist{t:Top}{down:List Bool}{e:Int}{fr:Bool}{D K:List Int}{H:Int->Prop}{last:Int}{pend:Int->Prop}(h:DI t down e fr D K H last pend)(hH:∀x,¬H x)(hp:∀a,¬pend a):IsDist t down e fr D where
 len:=h.len
 zero:=h.root.elim id fun r=>absurd r.1 (hH e)
 lo:=h.lo
 fix a a0 a1:=fun ho hy=>by
  rcases h.fix a a0 a1 ho hy with h1|h1|h1
  ·exact absurd h1 (hp a)
  ·exact h1
  ·exact absurd h1.1 (hH _)
 tight:=h.td
theorem Qwq{D:List Int}{n:Int}{v:Int}(h0:0<=n)(h1:n<D.length)(j:Int)(j0:0<=j):gt (D.set n.toNat v) j=if j=n then v else gt D j:=QrU h0 h1 j0
theorem DI.skip{t:Top}{down:List Bool}{e:Int}{fr:Bool}{D K:List Int}{H:Int->Prop}{last:Int}{pend pend':Int->Prop}(h:DI t down e fr D K H last pend)
 (hp:∀a:Int,0<=a->a<2*t.links.length->Qf5 t down e fr a=true->0<=gt D (yOf t fr a)->pend a->pend' a\/(0<=gt D (xOf t fr a)/\gt D (xOf t fr a)<=gt D (yOf t fr a)+Qbt t a)\/(H (xOf t fr a)/\gt K (xOf t fr a)<=gt D (yOf t fr a)+Qbt t a)):DI t down e fr D K H last pend':=
 {h with fix:=fun a a0 a1 ho hy=>(h.fix a a0 a1 ho hy).elim (hp a a0 a1 ho hy) .inr}
theorem DI.set{t:Top}(hv:Qao t=true){down:List Bool}{e:Int}{fr:Bool}{D K:List Int}{H:Int->Prop}{last:Int}{pend:Int->Prop}(h:DI t down e fr D K H last pend)(he:gt D e=0){a0:Int}(h0:0<=a0)(h1:a0<2*t.links.length)(ho:Qf5 t down e fr a0=true)
 (hy:gt D (yOf t fr a0)=last)(hx:gt D (xOf t fr a0)= -1)(hle:H (xOf t fr a0)->last+Qbt t a0<=gt K (xOf t fr a0)):
  DI t down e fr D (K.set (xOf t fr a0).toNat (last+Qbt t a0)) (fun x=>H x\/x=xOf t fr a0) last (fun a=>pend a/\a≠a0):=by
 have hf:=Qfx hv fr h0 h1;have hc:=Qb5 hv h0 h1;have hl0:=h.l0;have hk:=Qwq (D:=K) (n:=xOf t fr a0) (v:=last+Qbt t a0) hf.1.1 (by rw[h.kl];exact hf.1.2);refine{h with kl:=by rw[List.length_set];exact h.kl,held:=fun x hx'=> ?_,root:= .inl he,fix:=fun a b0 b1 hoa hya=> ?_,th:=fun x hx' hxe=> ?_}
 ·rcases hx' with hh|hh
  ·have:=h.held x hh;rw[hk x this.1];refine⟨this.1,this.2.1,this.2.2.1,?_⟩;split
   ·omega
   ·exact this.2.2.2
  ·subst hh;rw[hk _ hf.1.1,if_pos rfl];exact⟨hf.1.1,hf.1.2,hx,by omega⟩
 ·have hfa:=Qfx hv fr b0 b1;rw[hk _ hfa.1.1];by_cases e1:a=a0
  ·subst e1;exact .inr (.inr ⟨.inr rfl,by rw[if_pos rfl];omega⟩)
  ·rcases h.fix a b0 b1 hoa hya with h2|h2|h2
   ·exact .inl ⟨h2,e1⟩
   ·exact .inr (.inl h2)
   ·refine .inr (.inr ⟨.inl h2.1,?_⟩);split
    ·rename_i e2;have:=hle (e2▸h2.1);rw[e2]at h2;omega
    ·exact h2.2
 ·by_cases e1:x=xOf t fr a0
  ·subst e1;exact⟨a0,h0,h1,ho,rfl,by omega,by rw[hk _ hf.1.1,if_pos rfl,hy]⟩
  ·have hh:=hx'.resolve_right e1;rw[hk _ (h.held x hh).1,if_neg e1];exact h.th x hh hxe
def QS(n:Nat)(K O:List Int)(h:Hp):Prop:=∃vo M ro ks tl ps es,M=O.length/\h=hpH vo n M ro ks ps es/\ks=K.map QaA/\HQ n M tl K ps es O/\HO K O
theorem QS.place{n:Nat}{K O:List Int}{h:Hp}(q:QS n K O h){p:Nat}(hp:p<O.length):0<=at' O p/\at' O p<n:=by
 obtain⟨vo,M,ro,ks,tl,ps,es,rfl,h1,h2,h3,h4⟩:=q;obtain⟨L,hL,hw⟩:=h3.pl;have:=hw.rg p hp;exact⟨this.1,this.2.1⟩
theorem QS.mem{n:Nat}{K O:List Int}{h:Hp}(q:QS n K O h){x:Int}(hx:x∈O):0<=x/\x<n/\∃p,p<O.length/\at' O p=x:=by
 obtain⟨p,hp,rfl⟩:=List.getElem_of_mem hx;have e:at' O p=O[p]:=by simp[at',List.getD_eq_getElem?_getD,hp]
 have:=q.place hp;rw[e]at this;exact⟨this.1,this.2,p,hp,e⟩
theorem QS.least{n:Nat}{K O:List Int}{h:Hp}(q:QS n K O h){x:Int}(hx:x∈O):gt K (at' O 0)<=gt K x:=by
 obtain⟨x0,x1,p,hp,e⟩:=q.mem hx;have q0:=q.place (p:=0) (by omega);obtain⟨vo,M,ro,ks,tl,ps,es,rfl,h1,h2,h3,h4⟩:=q;obtain⟨L,hL,hw⟩:=h3.pl;have:=h4.root p hp;rw[e]at this;have kl:=hw.kl;have gk:∀y:Int,0<=y->y<n->gt K y=at' K y.toNat:=fun y y0 y1=>by
  have:y.toNat<K.length:=by omega
  simp[gt,at',List.getD_eq_getElem?_getD,this]
 rw[gk _ q0.1 q0.2,gk _ x0 x1];exact Qwz this
theorem pigeon:∀(n m:Nat) (f:Nat->Nat),(∀p,p<m->f p<n)->(∀p q,p<m->q<m->f p=f q->p=q)->m<=n:=by
 intro n;induction n with
 |zero=>
  intro m f h _;rcases Nat.eq_zero_or_pos m with h0|h0
  ·omega
  ·have:=h 0 h0;omega
 |succ n ih=>
  intro m f h hi;cases m with
  |zero=>omega
  |succ m=>
   have:=ih m (fun p=>if f p=n then f m else f p) (fun p hp=>by
    have h1:=h p (by omega);have h2:=h m (by omega);split
    ·rename_i e;have:f m≠n:=fun e2=>by have:=hi p m (by omega) (by omega) (by omega);omega
     omega
    ·omega) (fun p q hp hq e=>by
    split at e<;>split at e
    ·exact hi p q (by omega) (by omega) (by omega)
    ·have:=hi m q (by omega) (by omega) e;omega
    ·have:=hi p m (by omega) (by omega) e;omega
    ·exact hi p q (by omega) (by omega) e)
   omega
theorem QS.len{n:Nat}{K O:List Int}{h:Hp}(q:QS n K O h):O.length<=n:=by
 obtain⟨vo,M,ro,ks,tl,ps,es,rfl,h1,h2,h3,h4⟩:=q;obtain⟨L,hL,hw⟩:=h3.pl;refine pigeon n O.length (fun p=>(at' O p).toNat) (fun p hp=> ?_) fun p q hp hq e=> ?_
 ·have:=hw.rg p hp;omega
 ·have a:=hw.rg p hp;have b:=hw.rg q hq;exact hw.inj hp hq (by omega)
theorem QwA(A:List Int){k:Nat}(h:k<A.length):(A.map QaA)[k]? =some [iD (A.getD k 0)]:=by
 rw[gtm,lgE h];simp[List.getD_eq_getElem?_getD,h,QaA]
theorem Qlg(P:Program)(hP:P=Tryd.prog)(ll:List (List D))(hl:ll.length<=1000000)(h0:ll≠[]):FnS P Qaw [.c (.d (.list false 1 ll))] [] fun r h'=>∃n,n=ll.length/\r= .c (.arr 0 1 0 n)/\h'=[.da true 1 1 ll]:=by
 refine Qn8 (hP▸mixed) (hP▸Qbw) (hP▸QbD) (nle rfl) fun Λ Λo=> ?_
 clear hP;generalize hK:(fun(r:AV) (h':Hp)=>∃n,n=ll.length/\r= .c (.arr 0 1 0 n)/\h'=[.da true 1 1 ll])=K;have k1:∀n rl es,es=ll->rl=true->n=ll.length->K (.c (.arr 0 1 0 n)) [Blk.da rl 1 1 es]:=by
  intro n rl es h1 h3 h2;rw[←hK];subst h1 h3;exact⟨n,h2,rfl,rfl⟩
 clear hK;have lln:=Λo ll
 conv=>cbv
 repeat' first|exact gu|exact trivial|refine And.intro ?_ ?_|(intro hc;first|exact absurd hc (by decide)|(exfalso;omega)|((first|rw[wS (by omega) (by omega)]at hc|rw[Qad]at hc|skip);try (conv=>cbv)))|refine CallG.old ?_
 ·refine k1 _ _ _ ?_ ?_ ?_
  ·rw[hc];simp
  ·rename_i h1;rw[h1];rfl
  ·rename_i h1 _;rw[h1];simp
 ·exact absurd (by assumption) h0
section
variable{G:Nat->Prop}{ι:Io}{h:Hp}{w:World}
theorem Qus{sz:Nat}(hr:HR G ι h w):
    HR G (ι++[(0,0)]) (h++[.da false 1 sz []]) w/\VR G w (ι++[(0,0)]) (h++[.da false 1 sz []]) (.slice none 0 0) (.c (.arr h.length 1 0 0))/\
      Ext G ι h w G (ι++[(0,0)]) (h++[.da false 1 sz []]) w:=by
  have hi:∀l k,h[l]? =some k->(ι++[(0,0)])[l]? =ι[l]? :=fun l k hk=>gal (by rw[hr.len];exact Qaa hk)
  have hon:∀l k b,(h++[.da false 1 sz []])[l]? =some k->Qcn (ι++[(0,0)]) l k b->h[l]? =some k/\Qcn ι l k b:=by
    intro l k b h2 h3;rcases Qa5 h2 with d|⟨d,d'⟩
    · exact⟨d,Qcc (by rw[hr.len];exact Qaa d) h3⟩
    · subst d';cases h3.1
  have howned:∀b,owned (ι++[(0,0)]) (h++[.da false 1 sz []]) b->owned ι h b:=by
    intro b ⟨l',blk,h2,h3⟩;exact⟨l',blk,hon l' blk b h2 h3⟩
  have hext:Ext G ι h w G (ι++[(0,0)]) (h++[.da false 1 sz []]) w:=
    { size:=Nat.le_refl _
      quiet:=⟨rfl,rfl,rfl,Nat.le_refl _⟩
      frame:=fun _ _ _=>rfl
      gmono:=fun _ h=>h
      gnew:=fun _ h=> .inl h
      onew:=fun b ho=> .inl (howned b ho)
      keep:=fun l' k' hk'=>⟨k',Qau hk',Kept.frame (hi l' k' hk') fun _ _=>rfl⟩}
  refine⟨{ len:=by simp[hr.len]
           own:=fun l1 l2 b k1 k2 c1 c2 d1 d2=>hr.own l1 l2 b k1 k2 (hon _ _ _ c1 d1).1 (hon _ _ _ c2 d2).1 (hon _ _ _ c1 d1).2 (hon _ _ _ c2 d2).2
           g:=fun b hb=>⟨(hr.g b hb).1,fun ho=>(hr.g b hb).2 (howned b ho)⟩
           blk:= ?_},?_,hext⟩
  · intro l' k' hk'
    rcases Qa5 hk' with e|⟨_,e⟩
    · exact BR.ext hext hr e (hi l' _ e) fun _ _=>rfl
    · subst e;simp[BR]
  · exact .c _ _ (.arr _ _ _ _ _ (.da false 1 sz []) (by simp) (by simp[Blk.allows]) (fun _ _ he=>by cases he) fun _ _ _=>⟨rfl,rfl,rfl⟩)
end
theorem FnS.nilR1{P:Program}{f:Nat}{args:List AV}{sz:Nat}{h:Hp}{Q0:Hp->Prop}(hf:FnS P f args h fun r h'=>r= .c (.d (.list true sz []))/\Q0 h'):
  FnS P f args h fun r h'=>∃h1,Q0 h1/\r= .c (.arr h1.length 1 0 0)/\h'=h1++[.da false 1 sz []]:=by
 refine⟨fun G ι w vs hr hv=>(hf.out G ι w vs hr hv).mono fun e w' ⟨v,r,G',ι',h',a1,a2,a3,a4,a5⟩=> ?_⟩;obtain⟨rfl,h2⟩:=a2;obtain⟨q1,q2,q3⟩:=Qus (sz:=sz) a3;rw[Qgs (Qb8 a4)]at a1;exact⟨_,_,G',_,_,a1,⟨h',h2,rfl,rfl⟩,q1,q2,a5.trans q3⟩
theorem Qlh(P:Program)(hP:P=Tryd.prog):FnS P Qaw [.c (.d (.list true 1 []))] [] fun r h'=>r= .c (.d (.list true 1 []))/\h'=[]:=by
 refine QaO (hP▸mixed) (hP▸Qbw) (hP▸QbD) (nle rfl) fun Λ Λo K hK=> ?_
 clear hP;have k0:K (.c (.d (.list true 1 []))) []:=hK _ _ ⟨rfl,rfl⟩;clear hK;have lln:=Λo []
 conv=>cbv
 repeat' first|exact gu|exact trivial|refine And.intro ?_ ?_|(intro hc;first|exact absurd hc (by decide)|(exfalso;omega)|((first|rw[wS (by omega) (by omega)]at hc|rw[Qad]at hc|skip);try (conv=>cbv)))|refine CallG.old ?_
 all_goals exact k0
theorem Qj3(P:Program)(hP:P=Tryd.prog)(h:Hp)(nl:Bool)(ll:List (List D))(hl:ll.length<=1000000)(hn:ll=[]->nl=true)(hn':ll≠[]->nl=false):
  ∃rb,∀xs,xs=[.c (.d (.list nl 1 ll))]->Qza P h Qaw xs (fun n=> .c (.arr n 1 0 ll.length)) (.da rb 1 1 ll):=by
 by_cases h0:ll=[]
 ·subst h0;rw[hn rfl];refine⟨false,?_⟩;rintro xs rfl h' _;have hc:=(Qlh P hP).frame [] h' rfl (by simp) (by simp) rfl (by simp[QeO,Qez]);have hd:FnS P Qaw [.c (.d (.list true 1 []))] h' fun r h''=>r= .c (.d (.list true 1 []))/\h''=h':=hc.mono (by
   rintro r h'' ⟨r0,hc,⟨rfl,rfl⟩,rfl,rfl⟩;exact⟨rfl,by simp[QgI,QcG,rnH]⟩)
  refine(FnS.nilR1 (Q0:=fun h1=>h1=h') hd).mono ?_;rintro r h'' ⟨h1,rfl,rfl,rfl⟩;exact⟨rfl,rfl⟩
 ·rw[hn' h0];refine⟨true,?_⟩;rintro xs rfl h' _;refine((Qlg P hP ll hl h0).frame [] h' rfl (by simp) (by simp) rfl (by simp[QeO,Qez])).mono ?_;rintro r h'' ⟨r0,hc,⟨n,rfl,rfl,rfl⟩,rfl,rfl⟩;exact⟨by simp[rnA,rnC,rho],by simp[QgI,QcG,rnH,rnB]⟩
set_option maxRecDepth 100000 in
theorem nofn(P:Program)(hP:P=Tryd.prog)(l:Nat):NoFn P l:=by
 subst hP;have:Tryd.prog.funcs.size<=8589934592:=nle (by kernel_rfl);exact⟨Array.getElem?_eq_none (by omega)⟩
theorem QbY{m m2:Ar}{b c:Nat}{x y:AB}(hm:m2=mup m b x)(hb:m b=none)(h:m c=some y):m2 c=some y:=by
 rw[hm,Qan (fun e=>by rw[e,hb]at h;cases h)];exact h
theorem QtF{P:Program}{h:Hp}{f l:Nat}{args:List AV}{K:AV->Hp->Prop}(hf:f=8589934592+l)(hk:FnS P (8589934592+l) args h K):CallV P h f args K:=by
 rw[hf];exact .fn hk
theorem Qrw{P:Program}{h:Hp}{f l:Nat}{args':List AV}{K:AV->Hp->Prop}{args:List AV}{hc:Hp}{R:AV->Hp->Prop}(hfl:f=8589934592+l)(σ:List Nat)(hf:FnS P (8589934592+l) args hc R)(ha:args'=rnAs (rho σ h.length) args)(hlen:σ.length=hc.length)(hnd:σ.Nodup)
 (hh:Qyg h (rho σ h.length) 0 hc)(hcl:Qc3 hc.length hc=true)(hca:args.all (QeO hc.length)=true)(k:∀r hc',R r hc'->K (rnA (rho σ h.length) r) (QgI h σ hc')):CallV P h f args' K:=by
 subst hfl;exact Qel σ hf ha hlen hnd hh hcl hca k
structure BrP (g:Wlk) (J:List Rsl->(Nat->Prop)->Ar->Prop) (n:Nat) (x:WSt) (p:List Int) (nl:Bool) (a bx bp Nx Np:Nat) (pre:List Rsl) (O:Nat->Prop) (m:Ar):Prop where
 j:J pre O m
 pt:PT g O m n x a
 mx:m bx=some (.cs Nx [.adr a 0])
 xo:¬O bx
 mp:m bp=some (.cs Np [.list nl 1 (p.map QaA)])
 po:¬O bp
 nt:p=[]->nl=true
 nf:p≠[]->nl=false
 len:p.length+n<=1000000
theorem Qrv(P:Program)(hP:P=Tryd.prog){g:Wlk}{l N:Nat}{J:List Rsl->(Nat->Prop)->Ar->Prop}(hY:YlC P l N J){n:Nat}{x:WSt}{p:List Int}{nl:Bool}{a bx bp Nx Np:Nat}{pre:List Rsl}{O:Nat->Prop}{m:Ar}
 (hb0:BrP g J n x p nl a bx bp Nx Np pre O m)(hx:g.ar x=[])(hN:pre.length<N):
  FnS P Qah [.c (.d (.yl l)),.c (.d (.adr bx 0)),.c (.d (.adr bp 0))] [.am m] fun _ h'=>YlE J pre (brR g n x p) O m h':=by
 have hcl:=Qgg P hP (p.map QaA) (by have:=hb0.len;rw[List.length_map];omega);refine QaO (hP▸mixed) (hP▸QaZ) (hP▸Qcw) (nle rfl) fun Λ Λo K hK=> ?_
 clear hP;have hno:=hY.no;have hat:∃Na nx c,m a=some (.cs Na (plD g x nx false c)):=by
  have:=hb0.pt;cases n with
  |zero=>obtain⟨-,-,Na,nx,c,h⟩:=this;exact⟨Na,nx,c,h⟩
  |succ n=>obtain⟨-,Na,nx,c,-,h,-⟩:=this;exact⟨Na,nx,c,h⟩
 obtain⟨Na,nx,c,hat⟩:=hat;have hmx:=hb0.mx;have hmp:=hb0.mp;simp only[plD,hx,List.map_nil]at hat;have hout:=fun(m1:Ar) (h1:J pre O m1)=>hY.out pre O m1 ⟨x.1,g.rs x,p⟩ h1 hN
 simp only[QsM,QaU]at hout;have hend:=fun h' (h:YlE J pre (brR g n x p) O m h')=>hK (.tup []) h' h
 have hfz:=fun b (hf:m b=none)=>(fun c (hc:O c) (e:c=b)=>hY.ne pre O m c hb0.j hc (e▸hf):∀c,O c->c=b->False)
 clear hK;have hl0:Λ []=0:=Λo [];generalize hpl:p.map QaA=pl at*
 conv=>cbv
 repeat' first|(refine Qaj hcl rfl rfl ?_;conv=>cbv)|(right;intro(_:Unit);intro(b:Nat) (N3:Nat) (m2:Ar) hbn (_:_<=N3) hm2;have hx2:=QbY hm2 hbn hmx;have ha2:=QbY hm2 hbn hat;have hp2:=QbY hm2 hbn hmp;have hb2:=Qbk hm2;have hj2:=hY.st pre O m m2 hb0.j (fun c hc=>by rw[hm2,Qan (fun e=>hfz b hbn c hc e)]);(conv=>cbv))|(refine⟨Nx,_,_,hx2,rfl,?_⟩;(conv=>cbv))|(refine⟨Na,_,_,ha2,rfl,?_⟩;(conv=>cbv))|(refine⟨Np,_,_,hp2,rfl,?_⟩;(conv=>cbv))|(refine⟨N3,_,_,hb2,rfl,?_⟩;(conv=>cbv))|exact hno|(refine QtF (l:=l) (by generalize l=l0;cases l0<;>rfl) (FnS.mono (hout _ hj2) ?_);rintro r h' ⟨rfl,m',O',rfl,hj',hk',ho'⟩;(conv=>cbv))|exact gu|exact trivial|refine And.intro ?_ ?_|(intro hc;first|exact absurd hc (by decide)|(exfalso;omega)|((first|rw[wS (by omega) (by omega)]at hc|rw[Qad]at hc|skip);try (conv=>cbv)))|refine CallG.old ?_
 refine hend _ ⟨m',O',rfl,by rw[Qlb hx];exact hj',fun c hc ho=> ?_,fun c hc=> ?_⟩
 ·have hcb:c≠b:=fun e=>hc (e▸hbn)
  have:m2 c=m c:=by rw[hm2,Qan hcb]
  rw[hk' c (by rw[this];exact hc) ho,this]
 ·by_cases hcb:c=b
  ·exact .inr (hcb▸hbn)
  ·have:m2 c=m c:=by rw[hm2,Qan hcb]
   rw[←this];exact ho' c hc
def Jin(J:List Rsl->(Nat->Prop)->Ar->Prop)(pre0:List Rsl)(l' b3 N3 l:Nat)(rdy:AB):List Rsl->(Nat->Prop)->Ar->Prop:=fun pre' O' m'=>
 ∃O1,J (pre0++pre') O1 m'/\(∀b,O' b↔O1 b\/b=l'\/b=b3)/\m' l'=some rdy/\m' b3=some (.cs N3 [.yl l])/\¬O1 l'/\¬O1 b3
theorem YlC.inn{P:Program}{l N:Nat}{J:List Rsl->(Nat->Prop)->Ar->Prop}(hY:YlC P l N J){pre0:List Rsl}{l' b3 N3:Nat}{rdy bsy:AB}(hP:P=Tryd.prog)(hlb:l'≠b3)
 (hr:∀(m1:Ar) (r:Rsl) (K:Ar->Prop),m1 l'=some rdy->m1 b3=some (.cs N3 [.yl l])->FnS P (8589934592+l) [QsM r] [.am (mup m1 l' bsy)] (fun q h'=>q=bA true/\∃m2,h'=[.am m2]/\m2 l'=some bsy/\K (mup m2 l' rdy))->
   FnS P (8589934592+l') [QsM r] [.am m1] fun q h'=>q= .c (.d (.bool true))/\∃m3 tl,h'= .am m3::tl/\K m3):YlC P l' (N-pre0.length) (Jin J pre0 l' b3 N3 l rdy)where
 no:=nofn P hP l'
 out pre' O' m1 r hj hN:=by
  obtain⟨O1,h1,h2,h3,h4,h5,h6⟩:=hj;have hj1:J (pre0++pre') O1 (mup m1 l' bsy):=hY.st _ _ _ _ h1 fun b hb=>Qan fun e=>h5 (e▸hb)
  have hf:=hY.out _ O1 _ r hj1 (by rw[List.length_append];omega);have hk:=hr m1 r (fun m3=>∃O3,Jin J pre0 l' b3 N3 l rdy (pre'++[r]) O3 m3/\(∀b,m1 b≠none->¬O' b->m3 b=m1 b)/\∀b,O3 b->O' b\/m1 b=none) h3 h4 (hf.mono ?_)
  ·refine(hk.cut ?_).mono ?_
   ·rintro q h' ⟨rfl,m3,tl,rfl,-⟩;exact⟨rfl,rfl⟩
   ·rintro q h1' ⟨h2',⟨rfl,m3,tl,e,O3,hO3⟩,hl⟩
    match h1',hl with
    |[k],_=>
     simp only[List.cons_append,List.nil_append,List.cons.injEq]at e;exact⟨rfl,m3,O3,by rw[e.1],hO3⟩
  ·rintro q h' ⟨rfl,m2,O2,rfl,k1,k2,k3⟩;have hO2:∀b,mup m1 l' bsy b≠none->¬O1 b->¬O2 b:=fun b a1 a2 a3=>(k3 b a3).elim a2 a1
   have hl2:¬O2 l':=hO2 l' (by rw[Qbb];simp) h5;have hb2:¬O2 b3:=hO2 b3 (by rw[Qan (fun e=>hlb e.symm),h4];simp) h6;have hml:m2 l'=some bsy:=by rw[k2 l' (by rw[Qbb];simp) h5,Qbb]
   have hmb:m2 b3=some (.cs N3 [.yl l]):=by rw[k2 b3 (by rw[Qan (fun e=>hlb e.symm),h4];simp) h6,Qan (fun e=>hlb e.symm),h4]
   refine⟨rfl,m2,rfl,hml,fun b=>O2 b\/b=l'\/b=b3,⟨O2,?_,fun b=>Iff.rfl,Qbb _ _ _,by rw[Qan (fun e=>hlb e.symm)];exact hmb,hl2,hb2⟩,fun b a1 a2=> ?_,fun b hb=> ?_⟩
   ·rw[←List.append_assoc];exact hY.st _ _ _ _ k1 fun b hb=>Qan fun e=>hl2 (e▸hb)
   ·have hbl:b≠l':=fun e=>a2 ((h2 b).2 (.inr (.inl e)))
    have hbo:¬O1 b:=fun e=>a2 ((h2 b).2 (.inl e))
    rw[Qan hbl,k2 b (by rw[Qan hbl];exact a1) hbo,Qan hbl]
   ·rcases hb with hb|hb
    ·rcases k3 b hb with h|h
     ·exact .inl ((h2 b).2 (.inl h))
     ·by_cases e:b=l'
      ·exact .inl ((h2 b).2 (.inr (.inl e)))
      ·rw[Qan e]at h;exact .inr h
    ·exact .inl ((h2 b).2 (.inr hb))
 st pre' O' m1 m2 hj hm:=by
  obtain⟨O1,h1,h2,h3,h4,h5,h6⟩:=hj;exact⟨O1,hY.st _ _ _ _ h1 fun b hb=>hm b ((h2 b).2 (.inl hb)),h2,by rw[hm l' ((h2 l').2 (.inr (.inl rfl)))];exact h3,by rw[hm b3 ((h2 b3).2 (.inr (.inr rfl)))];exact h4,h5,h6⟩
 ne pre' O' m1 b hj hb:=by
  obtain⟨O1,h1,h2,h3,h4,h5,h6⟩:=hj;rcases(h2 b).1 hb with h|rfl|rfl
  ·exact hY.ne _ _ _ _ h1 h
  ·rw[h3];simp
  ·rw[h4];simp
abbrev brT (g:Wlk) (n:Nat) (x:WSt) (p:List Int) (k:Nat):List Rsl:=((g.ar x).take k).flatMap fun e=>brR g n (g.to x e) (p++[e])
structure BrI (g:Wlk) (J:List Rsl->(Nat->Prop)->Ar->Prop) (n:Nat) (x:WSt) (p:List Int) (b3 N3 l:Nat) (pre:List Rsl) (O:Nat->Prop) (m:Ar) (k:Nat) (q:Ar×(Nat->Prop)×Int):Prop where
 i:q.2.2=k
 le:k<=(g.ar x).length
 j:J (pre++brT g n x p k) q.2.1 q.1
 at3:q.1 b3=some (.cs N3 [.yl l])
 new:m b3=none
 bo:¬q.2.1 b3
 fr:∀b,m b≠none->¬O b->q.1 b=m b
 own:∀b,q.2.1 b->O b\/m b=none
theorem Qo6{g:Wlk}{n:Nat}{x:WSt}{p:List Int}{k:Nat}{e:Int}(he:(g.ar x)[k]? =some e):brT g n x p (k+1)=brT g n x p k++brR g n (g.to x e) (p++[e]):=by
 simp only[brT];rw[List.take_add_one,he,List.flatMap_append];simp
theorem QxW{g:Wlk}{n:Nat}{x:WSt}{p:List Int}{k:Nat}(hx:g.ar x≠[]):(brT g n x p k).length<=(brR g (n+1) x p).length:=by
 rw[Qo5 hx]
 conv=>rhs;rw[←List.take_append_drop k (g.ar x),List.flatMap_append,List.length_append]
 exact Nat.le_add_right _ _
theorem Qv3{g:Wlk}{n:Nat}{x:WSt}{p:List Int}{k:Nat}(hx:g.ar x≠[])(hk:(g.ar x).length<=k):brT g n x p k=brR g (n+1) x p:=by
 rw[Qo5 hx];simp only[brT];rw[List.take_of_length_le hk]
section
variable{P:Program}{g:Wlk}{l N:Nat}{J:List Rsl->(Nat->Prop)->Ar->Prop}{n:Nat}{x:WSt}{p:List Int}{b3 N3:Nat}{pre:List Rsl}{O:Nat->Prop}{m:Ar}{kk:Nat}{m' m3 m4:Ar}{O':Nat->Prop}{i:Int}{bx1 bp1 Nx1 Np1 ab l':Nat}{ye:List (List D)}{e:Int}{rdy:AB}
theorem Qeu{m m2:Ar}{b c:Nat}{x:AB}(hm:m2=mup m b x)(h:m2 c=none):m c=none:=by
 by_cases e:c=b
 ·rw[hm,e,Qbb]at h;cases h
 ·rw[hm,Qan e]at h;exact h
theorem Qc0{m m2:Ar}{b c:Nat}{x:AB}(hm:m2=mup m b x)(hb:m b=none)(h:m c≠none):m2 c=m c:=by
 rw[hm,Qan (fun e=>h (by rw[e];exact hb))]
theorem QxX(hY:YlC P l N J)(hI:BrI g J n x p b3 N3 l pre O m kk (m',O',i))(hbx:m' bx1=none)(hm3:m3=mup m' bx1 (.cs Nx1 [.adr ab 0]))(hbp:m3 bp1=none)(hm4:m4=mup m3 bp1 (.cs Np1 [.list false 1 ye]))(hl:m4 l'=none)
 (hpe:(p++[e]).map QaA=ye)(hpt:PT g O m n (g.to x e) ab)(hlen:p.length+(n+1)<=1000000):
  BrP g (Jin J (pre++brT g n x p kk) l' b3 N3 l rdy) n (g.to x e) (p++[e]) false ab bx1 bp1 Nx1 Np1 [] (fun b=>O' b\/b=l'\/b=b3) (mup m4 l' rdy):=by
 obtain⟨-,-,hj,h3,hnew,ho3,hfr,how⟩:=hI;simp only at hj h3 ho3 hfr how;have hne:∀b,O' b->m' b≠none:=fun b hb=>hY.ne _ _ _ _ hj hb
 have hk4:∀b,m' b≠none->mup m4 l' rdy b=m' b:=fun b hb=>by
  have h1:=Qc0 hm3 hbx hb;have h2:=Qc0 hm4 hbp (by rw[h1];exact hb);rw[Qan (fun e=>by rw[←e,h2,h1]at hl;exact hb hl),h2,h1]
 have hl0:m' l'=none:=Qeu hm3 (Qeu hm4 hl);have hx4:m4 bx1=some (.cs Nx1 [.adr ab 0]):=QbY hm4 hbp (Qbk hm3);have hp4:m4 bp1=some (.cs Np1 [.list false 1 ye]):=Qbk hm4;have hbp0:m' bp1=none:=Qeu hm3 hbp;refine{j:=⟨O',?_,fun b=>Iff.rfl,Qbb _ _ _,?_,fun h=>hne _ h hl0,ho3⟩,pt:=hpt.keep (fun b h1 h2=> ?_) fun b hb=> ?_,mx:= ?_,xo:= ?_,mp:= ?_,po:= ?_,nt:=fun h=>by simp at h,nf:=fun _=>rfl,len:=by simp;omega}
 ·rw[List.append_nil];exact hY.st _ _ _ _ hj fun b hb=>hk4 b (hne b hb)
 ·rw[hk4 b3 (by rw[h3];simp),h3]
 ·rw[hk4 b (by rw[hfr b h1 h2];exact h1),hfr b h1 h2]
 ·rcases hb with hb|rfl|rfl
  ·exact how b hb
  ·by_cases h0:m b=none
   ·exact .inr h0
   ·by_cases ho:O b
    ·exact .inl ho
    ·rw[hfr b h0 ho]at hl0;exact absurd hl0 h0
  ·exact .inr hnew
 ·rw[Qan (fun e=>by rw[e,hl]at hx4;cases hx4)];exact hx4
 ·rintro(h|rfl|rfl)
  ·exact hne _ h hbx
  ·rw[hl]at hx4;cases hx4
  ·rw[hbx]at h3;cases h3
 ·rw[Qan (fun e=>by rw[e,hl]at hp4;cases hp4),hpe];exact hp4
 ·rintro(h|rfl|rfl)
  ·exact hne _ h hbp0
  ·rw[hl]at hp4;cases hp4
  ·rw[hbp0]at h3;cases h3
theorem QtE(hY:YlC P l N J)(hI:BrI g J n x p b3 N3 l pre O m kk (m',O',i))(hbx:m' bx1=none)(hm3:m3=mup m' bx1 (.cs Nx1 [.adr ab 0]))(hbp:m3 bp1=none)(hm4:m4=mup m3 bp1 (.cs Np1 [.list false 1 ye]))(hl:m4 l'=none)(he:(g.ar x)[kk]? =some e)
 {m5:Ar}{O5:Nat->Prop}(hj5:Jin J (pre++brT g n x p kk) l' b3 N3 l rdy ([]++brR g n (g.to x e) (p++[e])) O5 m5)(h5:∀b,mup m4 l' rdy b≠none->¬(O' b\/b=l'\/b=b3)->m5 b=mup m4 l' rdy b)(ho5:∀b,O5 b->(O' b\/b=l'\/b=b3)\/mup m4 l' rdy b=none):
  m5 l'=some rdy/\∃O6,BrI g J n x p b3 N3 l pre O m (kk+1) (mdel m5 l',O6,((kk+1:Nat):Int)):=by
 obtain⟨-,-,hj,h3,hnew,ho3,hfr,how⟩:=hI;simp only at hj h3 ho3 hfr how;have hne:∀b,O' b->m' b≠none:=fun b hb=>hY.ne _ _ _ _ hj hb
 have hk4:∀b,m' b≠none->mup m4 l' rdy b=m' b:=fun b hb=>by
  have h1:=Qc0 hm3 hbx hb;have h2:=Qc0 hm4 hbp (by rw[h1];exact hb);rw[Qan (fun e=>by rw[←e,h2,h1]at hl;exact hb hl),h2,h1]
 have hl0:m' l'=none:=Qeu hm3 (Qeu hm4 hl);obtain⟨O6,k1,k2,k3,k4,k5,k6⟩:=hj5;refine⟨k3,O6,{i:=rfl,le:=Qaa he,j:= ?_,at3:= ?_,new:=hnew,bo:=k6,fr:=fun b h1 h2=> ?_,own:=fun b hb=> ?_}⟩
 ·rw[Qo6 he,←List.append_assoc];exact hY.st _ _ _ _ (by simpa using k1) fun b hb=>QbQ fun e=>k5 (e▸hb)
 ·simp only;rw[QbQ (fun e=>by rw[←e,h3]at hl0;cases hl0)];exact k4
 ·have h0:m' b=m b:=hfr b h1 h2;have h0n:m' b≠none:=by rw[h0];exact h1
  have hbl:b≠l':=fun e=>by rw[e]at h0n;exact h0n hl0
  have hb3':b≠b3:=fun e=>by rw[e]at h1;exact h1 hnew
  have hbo:¬O' b:=fun h=>(how b h).elim h2 h1
  simp only;rw[QbQ hbl,h5 b (by rw[hk4 b h0n];exact h0n) (fun h=>h.elim hbo fun h=>h.elim hbl hb3'),hk4 b h0n,h0]
 ·simp only at hb;rcases ho5 b ((k2 b).2 (.inl hb))with (h|h|h)|h
  ·exact how b h
  ·exact absurd (h▸hb) k5
  ·exact absurd (h▸hb) k6
  ·by_cases h0:m b=none
   ·exact .inr h0
   ·by_cases ho:O b
    ·exact .inl ho
    ·have h1:m' b≠none:=by rw[hfr b h0 ho];exact h0
     rw[hk4 b h1]at h;exact absurd h h1
end
theorem Qlt:∀l:List Nat,(l.map QfY).flatten=l.map fun b=>D.adr b 0
 |[]=>rfl
 |b::r=>by rw[List.map_cons,List.flatten_cons,Qlt r];rfl
theorem Qv4(P:Program)(hP:P=Tryd.prog){g:Wlk}{l N:Nat}{J:List Rsl->(Nat->Prop)->Ar->Prop}(hY:YlC P l N J){n:Nat}{x:WSt}{p:List Int}{nl:Bool}{a bx bp Nx Np:Nat}{pre:List Rsl}{O:Nat->Prop}{m:Ar}
 (hb0:BrP g J (n+1) x p nl a bx bp Nx Np pre O m)(hx:g.ar x≠[])(hN:pre.length+(brR g (n+1) x p).length<=N)
 (ih:∀(e:Int),e∈g.ar x->∀{l N:Nat} {J:List Rsl->(Nat->Prop)->Ar->Prop},YlC P l N J->∀{a bx bp Nx Np:Nat} {pre:List Rsl} {O:Nat->Prop} {m:Ar},BrP g J n (g.to x e) (p++[e]) false a bx bp Nx Np pre O m->pre.length+(brR g n (g.to x e) (p++[e])).length<=N->
   FnS P Qah [.c (.d (.yl l)),.c (.d (.adr bx 0)),.c (.d (.adr bp 0))] [.am m] fun _ h'=>YlE J pre (brR g n (g.to x e) (p++[e])) O m h'):
  FnS P Qah [.c (.d (.yl l)),.c (.d (.adr bx 0)),.c (.d (.adr bp 0))] [.am m] fun _ h'=>YlE J pre (brR g (n+1) x p) O m h':=by
 have hcn:=fun h=>Qj3 P hP h nl (p.map QaA) (by have:=hb0.len;rw[List.length_map];omega) (fun h=>hb0.nt (by simpa using h)) (fun h=>hb0.nf (by simpa using h))
 have hmk:=fun m a pl=>Qsk P hP m a false pl
 have hno:=nofn P hP;have hfok:FnOk P Qah:=⟨_,hP▸QaZ,rfl,by decide⟩;have hin:=fun{pre0:List Rsl} {l' b3 N3:Nat} {rdy bsy:AB} (h:l'≠b3)=>hY.inn (pre0:=pre0) (l':=l') (b3:=b3) (N3:=N3) (rdy:=rdy) (bsy:=bsy) hP h
 refine QaO (hP▸mixed) (hP▸QaZ) (hP▸Qcw) (nle rfl) fun Λ Λo K hK=> ?_
 clear hP;obtain⟨hao,Na,nx,c,ads,hat,hrow,hnxo,hal,hpt⟩:=hb0.pt;have hmx:=hb0.mx;have hmp:=hb0.mp;simp only[plD]at hat;have hend:=fun h' (h:YlE J pre (brR g (n+1) x p) O m h')=>hK (.tup []) h' h
 have hfz:=fun b (hf:m b=none)=>(fun c (hc:O c) (e:c=b)=>hY.ne pre O m c hb0.j hc (e▸hf):∀c,O c->c=b->False)
 clear hK;have hΛ:Λ ((g.ar x).map QaA)=(g.ar x).length:=by rw[Λo];simp
 have hpos:0<(g.ar x).length:=by
  cases h:g.ar x with
  |nil=>exact absurd h hx
  |cons=>simp
 generalize hpl:p.map QaA=pl at*;generalize harl:(g.ar x).map QaA=arl at*
 conv=>cbv
 repeat' first|(right;intro(_:Unit);intro(b3:Nat) (N3:Nat) (m2:Ar) hbn (_:_<=N3) hm2;have hx2:=QbY hm2 hbn hmx;have ha2:=QbY hm2 hbn hat;have hp2:=QbY hm2 hbn hmp;have hb2:=Qbk hm2;have hj2:=hY.st pre O m m2 hb0.j (fun c hc=>by rw[hm2,Qan (fun e=>hfz b3 hbn c hc e)]);(conv=>cbv))|(refine⟨Nx,_,_,hx2,rfl,?_⟩;(conv=>cbv))|(refine⟨Na,_,_,ha2,rfl,?_⟩;(conv=>cbv))|(refine⟨Np,_,_,hp2,rfl,?_⟩;(conv=>cbv))|(refine⟨N3,_,_,hb2,rfl,?_⟩;(conv=>cbv))|exact gu|exact trivial|refine And.intro ?_ ?_|(intro hc;first|exact absurd hc (by decide)|(exfalso;omega)|((first|rw[wS (by omega) (by omega)]at hc|rw[Qad]at hc|skip);try (conv=>cbv)))|refine CallG.old ?_
 have hb3o:¬O b3:=fun h=>hfz b3 hbn b3 h rfl
 refine Qba (g.ar x).length (fun(q:Ar×(Nat->Prop)×Int)=>[(1,.c (.d (.adr bx 0))),(2,.c (.d (.adr bp 0))),(3,.c (.d (.adr b3 0))),(29,.c (.d (.list false 1 arl))),(30,iA (Λ arl)),(31,iA q.2.2)]) (fun q=>[.am q.1]) (BrI g J n x p b3 N3 l pre O m) (m2,O,0) (Wk.ca)
  {i:=rfl,le:=Nat.zero_le _,j:=by simpa [brT]using hj2,at3:=hb2,new:=hbn,bo:=hb3o,fr:=fun b h1 _=>(by rw[hm2];exact Qan fun e=>h1 (by rw[e];exact hbn)),own:=fun b h=> .inl h} (fun k s h=>h.le) ?_
 rintro kk ⟨m',O',i⟩ Q' hI norm ex rt;have⟨hi,hk,hj,h3,hb3n,ho3,hfr,how⟩:=hI;simp only at hi hj h3 ho3 hfr how;subst hi;have hkp:∀b y,m b=some y->¬O b->m' b=some y:=fun b y h1 h2=>by rw[hfr b (by rw[h1];simp) h2];exact h1
 have gx:=hkp _ _ hmx hb0.xo;have gp:=hkp _ _ hmp hb0.po;have ga:=hkp _ _ hat hao;by_cases hlt:kk<(g.ar x).length
 ·obtain⟨e,he⟩:∃e,(g.ar x)[kk]? =some e:=⟨_,lgE hlt⟩;obtain⟨ab,hab⟩:∃ab,ads[kk]? =some ab:=⟨_,lgE (by omega)⟩;rcases hrow with ⟨rfl,hads⟩|⟨bn,Nn,cap,rfl,hbn2,hsz,hcap,hNn⟩
  ·have:ads=[]:=by simpa using hads
   rw[this]at hal;simp at hal;omega
  have gn:=hkp _ _ hbn2 (hnxo _ ⟨_,_,_,_,rfl⟩);obtain⟨ka,hka⟩:∃ka:Int,(kk:Int)=ka:=⟨_,rfl⟩;have hk0:0<=ka:=by omega
  have hkl3:ka<(g.ar x).length:=by omega
  have hk1:((kk+1:Nat):Int)=ka+1:=by omega
  have hee:=he;have hak:arl[ka.toNat]? =some (QaA e):=by rw[←hka,←harl,Int.toNat_natCast,gtm,he];rfl
  have hck:(List.map QfY ads).flatten[kk]? =some (.adr ab 0):=by rw[Qlt,gtm,hab];rfl
  have hnal2:(List.map QfY ads).length=(g.ar x).length:=by rw[List.length_map];exact hal
  obtain⟨rb,hnew⟩:=hcn [.am m'];have hnp1:pl.length<=1000000:=by rw[←hpl,List.length_map];have:=hb0.len;omega
  generalize hnp:pl.length=np at*;obtain⟨ye,hye⟩:∃ye,ye=pl++[QaA e]:=⟨_,rfl⟩;obtain⟨n1,hn1⟩:∃n1,n1=np+1:=⟨_,rfl⟩;have hyl:n1=ye.length:=by rw[hye,hn1,List.length_append,hnp];rfl
  have hpe:(p++[e]).map QaA=ye:=by rw[List.map_append,hpl,hye];rfl
  have nrm:=fun L' h' m3 O3 hx=>norm L' h' (m3,O3,((kk+1:Nat):Int)) hx
  clear norm;simp only[hka,hk1]at nrm ⊢;generalize hcells:(List.map QfY ads).flatten=cells at*;generalize hnal:(List.map QfY ads).length=nal at*
  conv=>cbv
  repeat' first|(refine Qhg 1 2 1 n1 rfl hyl (by repeat' first|exact trivial|refine And.intro ?_ ?_|rfl) (by repeat' first|exact trivial|refine And.intro ?_ ?_|rfl) ?_;(conv=>cbv))|(refine QaI [0] (hmk m' ab ye) rfl rfl (by decide) (by repeat' first|exact trivial|refine And.intro ?_ ?_|rfl) rfl rfl ?_;rintro r hc' ⟨bx1,bp1,Nx1,Np1,m3,m4,rfl,rfl,hbx1,hm3,hbp1,hm4⟩;(conv=>cbv))|(refine CallG.nw (fun n=> .c (.arr n 1 0 np)) (.da rb 1 1 pl) (.inl ⟨_,_,rfl⟩) rfl (hnew _ rfl) rfl ?_;(conv=>cbv))|(intro(m:Nat) (r:Bool) (y:List (List D)) hm hr hy;refine(fun(hz:n1=m) (hz2:ye=y)=> ?_) (by first|omega|(simp only[List.length_cons,List.length_nil]at hm;omega)) (by first|(rw[hy,List.drop_zero,List.take_of_length_le (by omega)];exact hye)|(rw[hy];exact hye));subst hz;subst hz2;(conv=>cbv))|(intro(k:Nat) hk;refine(fun(hz:kk=k)=> ?_) ?_;rotate_left;omega;subst hz;(conv=>cbv))|(intro(e:List D) he;cases osj (he.symm.trans hak);(conv=>cbv))|(refine⟨Nx,_,_,gx,rfl,?_⟩;(conv=>cbv))|(refine⟨Na,_,_,ga,rfl,?_⟩;(conv=>cbv))|(refine⟨Np,_,_,gp,rfl,?_⟩;(conv=>cbv))|(refine⟨N3,_,_,h3,rfl,?_⟩;(conv=>cbv))|(refine⟨Nn,_,_,gn,hck,?_⟩;(conv=>cbv))|exact gu|exact trivial|refine And.intro ?_ ?_|(intro hc;first|exact absurd hc (by decide)|(exfalso;omega)|((first|rw[wS (by omega) (by omega)]at hc|rw[Qad]at hc|skip);try (conv=>cbv)))|refine CallG.old ?_
  clear hnew hcn hmk;have h33:m3 b3=some (.cs N3 [.yl l]):=QbY hm3 hbx1 h3;have h43:m4 b3=some (.cs N3 [.yl l]):=QbY hm4 hbp1 h33;refine⟨m4,_,_,_,rfl,rfl,rfl,hfok,hno,fun l' rdy bsy hl' hYl=> ?_⟩;have hlb:l'≠b3:=fun e=>by rw[e,h43]at hl';cases hl'
  have hr:∀(m1:Ar) (r:Rsl) (K:Ar->Prop),m1 l'=some rdy->m1 b3=some (.cs N3 [.yl l])->FnS P (8589934592+l) [QsM r] [.am (mup m1 l' bsy)] (fun q h'=>q=bA true/\∃m2,h'=[.am m2]/\m2 l'=some bsy/\K (mup m2 l' rdy))->
    FnS P (8589934592+l') [QsM r] [.am m1] fun q h'=>q= .c (.d (.bool true))/\∃m3 tl,h'= .am m3::tl/\K m3:=by
   intro m1 r K h1 h2 hf;refine hYl m1 (QsM r) K h1 rfl ?_;have h2b:mup m1 l' bsy b3=some (.cs N3 [.yl l]):=by rw[Qan (fun e=>hlb e.symm)];exact h2
   generalize hmb:mup m1 l' bsy=m1b at*;have hnl:=hno l;clear hYl ih hin hfz hkp nrm ex rt hend;obtain⟨rn,rr,rp⟩:=r;simp only[QsM,QaU]at hf ⊢;generalize rp.map QaA=rpl at*
   conv=>cbv
   repeat' first|(left;intro(_:Unit);(conv=>cbv))|exact hnl|(refine⟨m1,_,rfl,h1,?_⟩;rw[hmb];(conv=>cbv))|(refine⟨N3,_,_,h2b,rfl,?_⟩;(conv=>cbv))|(refine Qrw (l:=l) (by generalize l=l0;cases l0<;>rfl) [0] hf rfl rfl (by decide) (by repeat' first|exact trivial|refine And.intro ?_ ?_|rfl) rfl rfl ?_;rintro q h' ⟨rfl,m2,rfl,hm2l,hm2K⟩;(conv=>cbv))|exact⟨_,_,rfl,hm2l,hm2K⟩|exact gu|exact trivial|refine And.intro ?_ ?_|(intro hc;first|exact absurd hc (by decide)|(exfalso;omega)|((first|rw[wS (by omega) (by omega)]at hc|rw[Qad]at hc|skip);try (conv=>cbv)))|refine CallG.old ?_
  have hbr:=QxX (rdy:=rdy) hY hI hbx1 hm3 hbp1 hm4 hl' hpe (hpt kk e ab hee hab) hb0.len;have hcall:=ih e (mgE hee) (hin (pre0:=pre++brT g n x p kk) hlb hr) hbr (by
   have h1:=QxW (n:=n) (p:=p) (k:=kk+1) hx;rw[Qo6 hee,List.length_append]at h1;simp only[List.length_nil,List.length_append];omega)
  refine(FnS.frame hcall [0] [.am (mup m4 l' rdy),.dead,.da true 0 1 [[.int .i64 e]]] rfl (by simp) (fun i k hk=> ?_) rfl (by simp[QeO,Qez])).mono ?_
  ·match i,hk with
   |0,hk=>cases hk;rfl
   |i+1,hk=>simp at hk
  ·rintro r h' ⟨r0,hc',⟨m5,O5,rfl,hj5,h5,ho5⟩,rfl,rfl⟩;obtain⟨k3,O6,hI6⟩:=QtE hY hI hbx1 hm3 hbp1 hm4 hl' hee hj5 h5 ho5;refine⟨m5,_,rfl,k3,?_⟩;rw[hk1]at hI6;have hnn:=fun L' h'=>nrm L' h' _ O6 hI6
   clear nrm hI hI6 hcall hbr hr hYl ih hin;generalize mdel m5 l'=m6 at*
   conv=>cbv
   repeat' first|(subst hc;refine hnn _ _ ?_;exact(Wk.ca))|exact gu|exact trivial|refine And.intro ?_ ?_|(intro hc;first|exact absurd hc (by decide)|(exfalso;omega)|((first|rw[wS (by omega) (by omega)]at hc|rw[Qad]at hc|skip);try (conv=>cbv)))|refine CallG.old ?_
 ·have hke:kk=(g.ar x).length:=by omega
  rw[Qv3 hx (by omega)]at hj;have hfin:=hend _ ⟨m',O',rfl,hj,hfr,how⟩;clear norm hI hin ih hmk hcn hend;obtain⟨ka,hka⟩:∃ka:Int,(kk:Int)=ka:=⟨_,rfl⟩;simp only[hka];have hkge:¬ka<Λ arl:=by omega
  conv=>cbv
  repeat' first|(refine ex 0 _ _ ?_;(conv=>cbv))|exact hfin|exact gu|exact trivial|refine And.intro ?_ ?_|(intro hc;first|exact absurd hc (by decide)|(exfalso;omega)|((first|rw[wS (by omega) (by omega)]at hc|rw[Qad]at hc|skip);try (conv=>cbv)))|refine CallG.old ?_
theorem Qzg(P:Program)(hP:P=Tryd.prog){g:Wlk}:∀(n:Nat) {x:WSt} {p:List Int} {nl:Bool} {l N:Nat} {J:List Rsl->(Nat->Prop)->Ar->Prop},YlC P l N J->∀{a bx bp Nx Np:Nat} {pre:List Rsl} {O:Nat->Prop} {m:Ar},BrP g J n x p nl a bx bp Nx Np pre O m->pre.length+(brR g n x p).length<=N->
  FnS P Qah [.c (.d (.yl l)),.c (.d (.adr bx 0)),.c (.d (.adr bp 0))] [.am m] fun _ h'=>YlE J pre (brR g n x p) O m h':=by
 intro n;induction n with
 |zero=>
  intro x p nl l N J hY a bx bp Nx Np pre O m hb hN;have hx:g.ar x=[]:=by have:=hb.pt;rw[PT]at this;exact this.2.1
  exact Qrv P hP hY hb hx (by rw[Qlb hx,List.length_singleton]at hN;omega)
 |succ n ih=>
  intro x p nl l N J hY a bx bp Nx Np pre O m hb hN;by_cases hx:g.ar x=[]
  ·exact Qrv P hP hY hb hx (by rw[Qlb hx,List.length_singleton]at hN;omega)
  ·exact Qv4 P hP hY hb hx hN fun e _=>ih
def Jsq(l' Bs:Nat)(rdy:AB):List Rsl->(Nat->Prop)->Ar->Prop:=fun pre O m=>
 ∃d N,m Bs=some (.cs N [d])/\Qc8 3 m d (pre.map QeM)/\(∀b,O b↔b=Bs\/b=l'\/InB d b)/\m l'=some rdy/\¬InB d Bs/\¬InB d l'/\l'≠Bs
structure GrS (sz:Nat) (m m4:Ar) (d d4:D) (l:List (List D)):Prop where
 row:Qc8 sz m4 d4 l
 same:∀i,m i≠none->¬InB d i->m4 i=m i
 new:∀i,InB d4 i->InB d i\/m i=none
theorem Qjd{sz:Nat}{m m':Ar}{b N cap k:Nat}{e:List D}(he:e.length=sz)(hb:m b=none)(hk:k=1)(hc:k<=cap)(hN:cap*sz<=N)(hm':m'=mup m b (.cs N [e].flatten)):GrS sz m m' (.list true sz []) (.sl b 0 sz k cap) [e]:=
 ⟨.inr ⟨b,N,cap,by rw[hk];rfl,by rw[hm',Qbb],fun x hx=>by simp at hx;rw[hx];exact he,by simpa [←hk]using hc,hN⟩,fun i hi _=>by rw[hm',Qan fun e=>hi (by rw[e];exact hb)],fun i hi=>by rw[Qd1 hi];exact .inr hb⟩
theorem QlI{sz:Nat}{m m':Ar}{b b' n c N cap k:Nat}{e:List D}{es:List (List D)}(hs:∀x∈es,x.length=sz)(he:e.length=sz)(hn:es.length=n)(hb:mdel m b b'=none)(hk:k=n+1)(hc:k<=cap)(hN:cap*sz<=N)(hm':m'=mup (mdel m b) b' (.cs N (es++[e]).flatten)):GrS sz m m' (.sl b 0 sz n c) (.sl b' 0 sz k cap) (es++[e]):=by
 refine⟨.inr ⟨b',N,cap,by rw[hk,←hn];simp,by rw[hm',Qbb],fun x hx=> ?_,by rw[List.length_append,hn];simpa [←hk]using hc,hN⟩,fun i hi hn=>Qnd hm' (fun e=>hn (by rw[e];exact⟨_,_,_,_,rfl⟩)) hb hi,fun i hi=> ?_⟩
 ·rcases List.mem_append.1 hx with hx|hx
  ·exact hs x hx
  ·simp at hx;rw[hx];exact he
 ·rw[Qd1 hi];rcases Qlk hb with e|e
  ·exact .inl (by rw[e];exact⟨_,_,_,_,rfl⟩)
  ·exact .inr e
theorem QsV{m1 m1b m4 m6:Ar}{l' Bs N N6:Nat}{bsy rdy:AB}{d d6:D}{ys:List (List D)}(hmb:mup m1 l' bsy=m1b)(h1:m1 l'=some rdy)(h2:m1 Bs=some (.cs N [d]))(hlb:l'≠Bs)(hdl:¬InB d l')(hdb:¬InB d Bs)(g:GrS 3 m1b m4 d d6 ys)(hm6:m6=mup m4 Bs (.cs N6 [d6])):
  m6 l'=some bsy/\mup m6 l' rdy l'=some rdy/\mup m6 l' rdy Bs=some (.cs N6 [d6])/\Qc8 3 (mup m6 l' rdy) d6 ys/\(∀b,m1 b≠none->b≠Bs->b≠l'->¬InB d b->mup m6 l' rdy b=m1 b)/\∀b,InB d6 b->InB d b\/m1 b=none:=by
 have hbl:m1b l'=some bsy:=by rw[←hmb,Qbb]
 have hbs:m1b Bs=some (.cs N [d]):=by rw[←hmb,Qan (fun e=>hlb e.symm)];exact h2
 have hn:∀b,m1b b=none->m1 b=none:=fun b hb=>Qeu hmb.symm hb
 have hdl6:¬InB d6 l':=fun h=>(g.new l' h).elim hdl fun h=>by rw[hbl]at h;cases h
 have hdb6:¬InB d6 Bs:=fun h=>(g.new Bs h).elim hdb fun h=>by rw[hbs]at h;cases h
 refine⟨?_,Qbb _ _ _,?_,?_,fun b hb hbB hbl' hbd=> ?_,fun b hb=>(g.new b hb).imp id (hn b)⟩
 ·rw[hm6,Qan hlb,g.same l' (by rw[hbl];simp) hdl,hbl]
 ·rw[Qan (fun e=>hlb e.symm),hm6,Qbb]
 ·refine g.row.frame fun i hi=> ?_
  rw[Qan (fun e=>hdl6 (by rw[←e];exact hi)),hm6,Qan (fun e=>hdb6 (by rw[←e];exact hi))]
 ·have h3:m1b b=m1 b:=by rw[←hmb,Qan hbl']
  rw[Qan hbl',hm6,Qan hbB,g.same b (by rw[h3];exact hb) hbd,h3]
theorem QyQ(P:Program)(hP:P=Tryd.prog){g:Wlk}{n:Nat}{x:WSt}{a bx bp Nx Np:Nat}{m:Ar}(hpt:PT g (fun _=>False) m n x a)(hmx:m bx=some (.cs Nx [.adr a 0]))(hmp:m bp=some (.cs Np [.list true 1 []]))(hn:n<=1000000)(hlen:(brR g n x []).length<=1000):
    FnS P Qbu [.c (.d (.list true 3 [])),.c (.fn false Qah [.d (.adr bx 0),.d (.adr bp 0)])] [.am m] fun r h'=>∃m' d,h'=[.am m']/\r= .c (.d d)/\Qc8 3 m' d ((brR g n x []).map QeM)/\(∀b,m b≠none->m' b=m b)/\∀b,InB d b->m b=none:=by
  have hbr:=fun{l N:Nat} {J:List Rsl->(Nat->Prop)->Ar->Prop} (hY:YlC P l N J) {a bx bp Nx Np:Nat} {pre:List Rsl} {O:Nat->Prop} {m:Ar} (hb:BrP g J n x [] true a bx bp Nx Np pre O m)=>Qzg P hP n hY hb
  have hno:=nofn P hP;have hfok:FnOk P Qah:=⟨_,hP▸QaZ,rfl,by decide⟩;refine QaO (hP▸mixed) (hP▸QcM) (hP▸QcU) (nle rfl) fun Λ Λo K hK=> ?_
  clear hP;have hend:=fun m' d h1 h2 h3=>hK (.c (.d d)) [.am m'] ⟨m',d,rfl,rfl,h1,h2,h3⟩
  clear hK
  conv=>cbv
  repeat' first|(right;intro(_:Unit);intro(Bs:Nat) (Nb:Nat) (m2:Ar) hbn (_:_<=Nb) hm2;(conv=>cbv))|exact gu|exact trivial|refine And.intro ?_ ?_|(intro hc;first|exact absurd hc (by decide)|(exfalso;omega)|((first|rw[wS (by omega) (by omega)]at hc|rw[Qad]at hc|skip);try (conv=>cbv)))|refine CallG.old ?_
  refine⟨m2,_,_,_,rfl,rfl,rfl,hfok,hno,fun l' rdy bsy hl' hYl=> ?_⟩
  have hr:∀(m1:Ar) (d:D) (N:Nat) (pre:List Rsl) (r:Rsl) (K:Ar->Prop),m1 l'=some rdy->m1 Bs=some (.cs N [d])->Qc8 3 m1 d (pre.map QeM)->l'≠Bs->¬InB d l'->¬InB d Bs->pre.length<1000->
      (∀m2 d2 N2,m2 l'=some rdy->m2 Bs=some (.cs N2 [d2])->Qc8 3 m2 d2 ((pre++[r]).map QeM)->(∀b,m1 b≠none->b≠Bs->b≠l'->¬InB d b->m2 b=m1 b)->(∀b,InB d2 b->InB d b\/m1 b=none)->K m2)->
      FnS P (8589934592+l') [QsM r] [.am m1] fun q h'=>q= .c (.d (.bool true))/\∃m3 tl,h'= .am m3::tl/\K m3:=by
    intro m1 d N pre r K h1 h2 hrow hlb hdl hdb hpre hKm;refine hYl m1 (QsM r) K h1 rfl ?_;have h2b:mup m1 l' bsy Bs=some (.cs N [d]):=by rw[Qan (fun e=>hlb e.symm)];exact h2
    have hrowb:Qc8 3 (mup m1 l' bsy) d (pre.map QeM):=hrow.frame fun b hb=>Qan fun e=>hdl (e▸hb)
    clear hYl hbr hend;obtain⟨rn,rr,rp⟩:=r;have hen:QeM ⟨rn,rr,rp⟩=[iD rn,iD rr,QaU rp]:=rfl;rw[List.map_append,List.map_singleton,hen]at hKm;simp only[QsM,QaU]at hKm ⊢;have hpl:(pre.map QeM).length<1000:=by rw[List.length_map];exact hpre
    generalize rp.map QaA=rpl at*;generalize pre.map QeM=prl at*;generalize hmb:mup m1 l' bsy=m1b at*;rcases hrowb with ⟨rfl,rfl⟩|⟨bn,Nn,cap,rfl,hbn2,hsz,hcap,hNn⟩
    · conv=>cbv
      repeat' first|(right;intro(_:Unit);refine And.intro (fun _=>⟨(fun hq=>by cases hq),nle rfl⟩) ?_;intro(b4:Nat) (N4:Nat) (cap4:Nat) (k4:Nat) (m4:Ar) hb4 hk4 hkc4 hcN4 hm4;have h4b:=QbY hm4 hb4 h2b;have hg:=Qjd (e:=[iD rn,iD rr,.list false 1 rpl]) rfl hb4 hk4 hkc4 hcN4 hm4;(conv=>cbv))|(left;intro(_:Unit);(conv=>cbv))|(refine⟨N,_,h4b,nle rfl,?_⟩;intro m6 hm6;(conv=>cbv))|(refine⟨m1,_,rfl,h1,?_⟩;rw[hmb];(conv=>cbv))|(refine⟨N,_,_,h2b,rfl,?_⟩;(conv=>cbv))|exact gu|exact trivial|refine And.intro ?_ ?_|(intro hc;first|exact absurd hc (by decide)|(exfalso;omega)|((first|rw[wS (by omega) (by omega)]at hc|rw[Qad]at hc|skip);try (conv=>cbv)))|refine CallG.old ?_
      obtain⟨a1,a2,a3,a4,a5,a6⟩:=QsV (rdy:=rdy) hmb h1 h2 hlb hdl hdb hg hm6;exact⟨_,_,rfl,a1,hKm _ _ _ a2 a3 a4 a5 a6⟩
    · have hbB:Bs≠bn:=fun e=>hdb (e▸⟨_,_,_,_,rfl⟩)
      generalize hnal:prl.length=nal at*
      conv=>cbv
      repeat' first|(refine⟨Nn,prl,hbn2,rfl,hnal,hsz,hcap,hNn,(fun _=>⟨(fun hq=>by cases hq),(show(nal+1)*40<=140737488355328 by omega)⟩),?_⟩;intro(b4:Nat) (N4:Nat) (cap4:Nat) (k4:Nat) (m4:Ar) hb4 hk4 hkc4 hcN4 hm4;have hg:=QlI (c:=cap) (e:=[iD rn,iD rr,.list false 1 rpl]) hsz rfl hnal hb4 hk4 hkc4 hcN4 hm4;have h4b:=(hg.same Bs (by rw[h2b];simp) (fun e=>hbB (Qd1 e))).trans h2b;(conv=>cbv))|(left;intro(_:Unit);(conv=>cbv))|(refine⟨N,_,h4b,nle rfl,?_⟩;intro m6 hm6;(conv=>cbv))|(refine⟨m1,_,rfl,h1,?_⟩;rw[hmb];(conv=>cbv))|(refine⟨N,_,_,h2b,rfl,?_⟩;(conv=>cbv))|exact gu|exact trivial|refine And.intro ?_ ?_|(intro hc;first|exact absurd hc (by decide)|(exfalso;omega)|((first|rw[wS (by omega) (by omega)]at hc|rw[Qad]at hc|skip);try (conv=>cbv)))|refine CallG.old ?_
      obtain⟨a1,a2,a3,a4,a5,a6⟩:=QsV (rdy:=rdy) hmb h1 h2 hlb hdl hdb hg hm6;exact⟨_,_,rfl,a1,hKm _ _ _ a2 a3 a4 a5 a6⟩
  have hY:YlC P l' 1000 (Jsq l' Bs rdy):={
    no:=hno l'
    out:=fun pre O m1 r hj hN=>by
      obtain⟨d,Nd,q1,q2,q3,q4,q5,q6,hlb⟩:=hj;have hk:=hr m1 d Nd pre r (fun m3=>∃O3,Jsq l' Bs rdy (pre++[r]) O3 m3/\(∀b,m1 b≠none->¬O b->m3 b=m1 b)/\∀b,O3 b->O b\/m1 b=none) q4 q1 q2 hlb q6 q5 hN (fun m2 d2 N2 a2 a3 a4 a5 a6=>by
        refine⟨fun b=>b=Bs\/b=l'\/InB d2 b,⟨d2,N2,a3,a4,fun b=>Iff.rfl,a2,fun h=>(a6 _ h).elim q5 fun h=> ?_,fun h=>(a6 _ h).elim q6 fun h=> ?_,hlb⟩,fun b hb ho=>a5 b hb (fun e=>ho ((q3 b).2 (.inl e))) (fun e=>ho ((q3 b).2 (.inr (.inl e)))) fun e=>ho ((q3 b).2 (.inr (.inr e))),fun b hb=> ?_⟩
        · rw[q1]at h;cases h
        · rw[q4]at h;cases h
        · rcases hb with h|h|h
          · exact .inl ((q3 b).2 (.inl h))
          · exact .inl ((q3 b).2 (.inr (.inl h)))
          · exact(a6 b h).imp (fun h=>(q3 b).2 (.inr (.inr h))) id)
      refine(hk.cut ?_).mono ?_
      · rintro q h' ⟨rfl,m3,tl,rfl,-⟩
        exact⟨rfl,rfl⟩
      · rintro q h1' ⟨h2',⟨rfl,m3,tl,e,O3,hO3⟩,hl⟩
        match h1',hl with
        |[k],_=>
          simp only[List.cons_append,List.nil_append,List.cons.injEq]at e;exact⟨rfl,m3,O3,by rw[e.1],hO3⟩
    st:=fun pre O m1 m2 hj hm=>by
      obtain⟨d,Nd,q1,q2,q3,q4,q5,q6,hlb⟩:=hj;exact⟨d,Nd,by rw[hm Bs ((q3 Bs).2 (.inl rfl))];exact q1,q2.frame fun i hi=>hm i ((q3 i).2 (.inr (.inr hi))),q3,by rw[hm l' ((q3 l').2 (.inr (.inl rfl)))];exact q4,q5,q6,hlb⟩
    ne:=fun pre O m1 b hj hb=>by
      obtain⟨d,Nd,q1,q2,q3,q4,q5,q6,hlb⟩:=hj;rcases(q3 b).1 hb with rfl|rfl|h
      · rw[q1];simp
      · rw[q4];simp
      · exact q2.key' h}
  have hs2:m2 Bs=some (.cs Nb [.list true 3 []]):=Qbk hm2;have hlb:l'≠Bs:=fun e=>by rw[e,hs2]at hl';cases hl'
  have hk2:∀b,m b≠none->mup m2 l' rdy b=m b:=fun b hb=>by
    have h1:=Qc0 hm2 hbn hb;rw[Qan (fun e=>by rw[←e,h1]at hl';exact hb hl'),h1]
  have hl0:m l'=none:=Qeu hm2 hl';have hBr:BrP g (Jsq l' Bs rdy) n x [] true a bx bp Nx Np [] (fun b=>b=Bs\/b=l'\/InB (.list true 3 []) b) (mup m2 l' rdy):={
    j:=⟨.list true 3 [],Nb,by rw[Qan (fun e=>hlb e.symm)];exact hs2,.inl ⟨rfl,rfl⟩,fun b=>Iff.rfl,Qbb _ _ _,fun h=>Qa3 h,fun h=>Qa3 h,hlb⟩
    pt:=hpt.keep (fun b hb _=>hk2 b hb) fun b hb=>by
      rcases hb with rfl|rfl|h
      · exact .inr hbn
      · exact .inr hl0
      · exact(Qa3 h).elim
    mx:=by rw[hk2 bx (by rw[hmx];simp)];exact hmx
    xo:=by
      rintro(rfl|rfl|h)
      · rw[hbn]at hmx;cases hmx
      · rw[hl0]at hmx;cases hmx
      · exact Qa3 h
    mp:=by rw[hk2 bp (by rw[hmp];simp)];exact hmp
    po:=by
      rintro(rfl|rfl|h)
      · rw[hbn]at hmp;cases hmp
      · rw[hl0]at hmp;cases hmp
      · exact Qa3 h
    nt:=fun _=>rfl
    nf:=fun h=>absurd rfl h
    len:=by simpa using hn}
  refine(hbr hY hBr (by simpa using hlen)).mono ?_;rintro r h' ⟨m5,O5,rfl,⟨d,Nd,q1,q2,q3,q4,q5,q6,_⟩,h5,ho5⟩;refine⟨m5,[],rfl,q4,?_⟩;have g1:mdel m5 l' Bs=some (.cs Nd [d]):=by rw[QbQ (fun e=>hlb e.symm)];exact q1
  have hfin:=hend (mdel m5 l') d (q2.frame fun i hi=>QbQ fun e=>q6 (by rw[←e];exact hi)) (fun b hb=>by
    have hbl:b≠l':=fun e=>by rw[e]at hb;exact hb hl0
    have hbB:b≠Bs:=fun e=>by rw[e]at hb;exact hb hbn
    rw[QbQ hbl,h5 b (by rw[hk2 b hb];exact hb) (by
      rintro(h|h|h)
      · exact hbB h
      · exact hbl h
      · exact Qa3 h),hk2 b hb]) (fun b hb=>by
    rcases ho5 b ((q3 b).2 (.inr (.inr hb)))with (rfl|rfl|h)|h
    · exact hbn
    · exact hl0
    · exact(Qa3 h).elim
    · by_cases h0:m b=none
      · exact h0
      · rw[hk2 b h0]at h;exact h)
  clear hBr hY hr hYl hbr hend;generalize mdel m5 l'=m6 at*
  conv=>cbv
  repeat' first|(refine⟨Nd,_,_,g1,rfl,?_⟩;(conv=>cbv))|exact hfin|exact gu|exact trivial|refine And.intro ?_ ?_|(intro hc;first|exact absurd hc (by decide)|(exfalso;omega)|((first|rw[wS (by omega) (by omega)]at hc|rw[Qad]at hc|skip);try (conv=>cbv)))|refine CallG.old ?_
section
variable{G:Nat->Prop}{ι:Io}{w:World}{m mS mR:Ar}{rest:Hp}
theorem HR.thawP(r:HR G ι (.am m::rest) w)(hS:∀b x,mS b=some x->m b=some x/\mR b=none)(hR:∀b x,mR b=some x->m b=some x):
    HR (fun b=>G b\/∃x,mS b=some x) ι (.am mR::rest) w/\Ext G ι (.am m::rest) w (fun b=>G b\/∃x,mS b=some x) ι (.am mR::rest) w/\
    ∀b x,mS b=some x->(G b\/∃x,mS b=some x)/\ABR (fun b=>G b\/∃x,mS b=some x) w b x:=by
  have hgm:∀b,G b->(G b\/∃x,mS b=some x)/\w.heap[b]? =w.heap[b]? :=fun b hb=>⟨.inl hb,rfl⟩
  have hsub:∀i k b,(Blk.am mR::rest)[i]? =some k->Qcn ι i k b->∃k',(Blk.am m::rest)[i]? =some k'/\Qcn ι i k' b:=fun i k b h1 h2=>by
    cases i with
    |zero=>
      simp only[List.getElem?_cons_zero,osi]at h1;subst h1;obtain⟨x,hx⟩:=h2;exact⟨_,rfl,x,hR b x hx⟩
    |succ i=>exact⟨k,h1,h2⟩
  have hown:∀b,owned ι (.am mR::rest) b->owned ι (.am m::rest) b:=fun b ⟨i,k,h1,h2⟩=>by
    obtain⟨k',a1,a2⟩:=hsub i k b h1 h2;exact⟨i,k',a1,a2⟩
  have hk:∀i k,(Blk.am m::rest)[i]? =some k->∃k',(Blk.am mR::rest)[i]? =some k'/\Kept ι ι w w i k k':=fun i k hk=>by
    cases i with
    |zero=>
      simp only[List.getElem?_cons_zero,osi]at hk;subst hk;exact⟨_,rfl,trivial⟩
    |succ i=>exact⟨k,hk,Kept.refl ι w _ k⟩
  have hext:Ext G ι (.am m::rest) w (fun b=>G b\/∃x,mS b=some x) ι (.am mR::rest) w:=
    { size:=Nat.le_refl _
      quiet:=⟨rfl,rfl,rfl,Nat.le_refl _⟩
      frame:=fun _ _ _=>rfl
      gmono:=fun _ h=> .inl h
      gnew:=fun b hb=>by
        rcases hb with h|⟨x,hx⟩
        · exact .inl h
        · exact .inr (.inr (Qcf (h:= .am m::rest) rfl (hS b x hx).1))
      onew:=fun b ho=> .inl (hown b ho)
      keep:=hk}
  refine⟨?_,hext,fun b x hx=>⟨.inr ⟨x,hx⟩,(r.blk 0 _ rfl b x (hS b x hx).1).mono hgm rfl⟩⟩;exact
    { len:=r.len
      own:=fun i j b k k' h1 h2 h3 h4=>by
        obtain⟨k1,a1,a2⟩:=hsub i k b h1 h3;obtain⟨k2,b1,b2⟩:=hsub j k' b h2 h4;exact r.own i j b k1 k2 a1 b1 a2 b2
      g:=fun b hb=>by
        rcases hb with hb|⟨x,hx⟩
        · exact⟨(r.g b hb).1,fun ho=>(r.g b hb).2 (hown b ho)⟩
        · obtain⟨h1,h2⟩:=hS b x hx
          refine⟨Qay r (Qcf (h:= .am m::rest) rfl h1),fun⟨l,k,g1,g2⟩=> ?_⟩;cases l with
          |zero=>
            simp only[List.getElem?_cons_zero,osi]at g1;subst g1;obtain⟨y,hy⟩:=g2;rw[h2]at hy;cases hy
          |succ l=>
            have:=r.own 0 (l+1) b _ k rfl g1 ⟨x,h1⟩ g2;cases this
      blk:=fun l k hk=>by
        cases l with
        |zero=>
          simp only[List.getElem?_cons_zero,osi]at hk;subst hk;exact fun b x hx=>(r.blk 0 _ rfl b x (hR b x hx)).mono hgm rfl
        |succ l=>exact BR.ext hext r (show(Blk.am m::rest)[l+1]? =some k from hk) rfl fun _ _=>rfl}
end
theorem FnS.thawP{P:Program}{f:Nat}{args:List AV}{h:Hp}{R R':AV->Hp->Prop}(hf:FnS P f args h R)
 (ht:∀r h',R r h'->∃m rest d x mS mR d',h'= .am m::rest/\(∀b x,mS b=some x->m b=some x/\mR b=none)/\(∀b x,mR b=some x->m b=some x)/\r= .tup [.c (.d d),x]/\QcB x=true/\ThD mS d d'/\R' (.tup [.c (.d d'),x]) (.am mR::rest)):
  FnS P f args h R':=by
 refine⟨fun G ι w vs hr hv=>(hf.out G ι w vs hr hv).mono fun e w' ⟨v,r,G',ι',h',a1,a2,a3,a4,a5⟩=> ?_⟩;obtain⟨m,rest,d,x,mS,mR,d',rfl,hS,hR,rfl,hx,hd,hR'⟩:=ht r h' a2;obtain⟨q1,q2,q3⟩:=HR.thawP a3 hS hR;refine⟨v,_,_,ι',_,a1,hR',q1,?_,a5.trans q2⟩;have a4':=a4.ext q2 a3;cases a4' with
 |tup cs _ hn hcs=>
  refine .tup cs _ hn fun i y z hu hy=> ?_
  match i,hy with
  |0,hy=>
   cases hy;have:=hcs 0 y _ hu rfl;exact .c _ _ (.d _ _ (Qnr q3 hd (Qb8 this)))
  |1,hy=>cases hy;exact hcs 1 y _ hu rfl
structure StR where
 node:Int
 p:Pkt
 ar:D
 nx:D
 rs:Int
 co:Int
 ct:Int
abbrev StR.key (s:StR):Int×List Seg:=(s.node,s.p.stack)
def Qou(n:Int)(p:Pkt):StR:=⟨n,{p with hops:=0},.list true 1 [],.list true 1 [],0,0,0⟩
def Qq8(l:List StR)(n:Int)(p:Pkt):List StR:=if (n,p.stack)∈l.map StR.key then l else l++[Qou n p]
def Qy3{σ:Type}[DecidableEq σ](S:List σ)(y:σ):Nat:=S.idxOf y
theorem Quc{σ:Type}[DecidableEq σ]{S r:List σ}{y:σ}(h:y∈S):Qy3 (S++r) y=Qy3 S y:=Qws h
theorem QoZ(l:List StR)(n:Int)(p:Pkt):(Qq8 l n p).map StR.key=QxK (l.map StR.key) (n,p.stack):=by
 rw[Qq8,QxK];split
 ·rfl
 ·rw[List.map_append];rfl
end Go.Ab
