/-
  Merged texts, part p.
-/
import Derived.Test.YtohbofilgkdihaaGreatDoorZo
import Derived.Lib.ItoaNum
set_option linter.all false
namespace Go.Ab
theorem QqD:∀(u:Nat),(Go.Lib.decDigits u).foldl (λ(a:Nat) (c:UInt8)=>a*10+(c.toNat-48)) 0=u:=by
 intro u;induction u using Nat.strongRecOn with
 |_ u ih=>
  rw[Go.Lib.decDigits];split
  ·rename_i h;simp only[List.foldl_cons,List.foldl_nil,UInt8.toNat_ofNat'];omega
  ·rename_i h;rw[List.foldl_append,ih (u/10) (by omega)];simp only[List.foldl_cons,List.foldl_nil,UInt8.toNat_ofNat'];omega
theorem QqC:∀(u:Nat),∀c∈Go.Lib.decDigits u,48<=c.toNat/\c.toNat<=57:=by
 intro u;induction u using Nat.strongRecOn with
 |_ u ih=>
  intro c hc;rw[Go.Lib.decDigits]at hc;split at hc
  ·rename_i h;simp only[List.mem_singleton]at hc;rw[hc,UInt8.toNat_ofNat'];omega
  ·rename_i h;rcases List.mem_append.1 hc with hc|hc
   ·exact ih _ (by omega) c hc
   ·simp only[List.mem_singleton]at hc;rw[hc,UInt8.toNat_ofNat'];omega
theorem QfQ(n:Int):∀c∈Go.Lib.itoa n,c≠32/\c≠58:=by
 intro c hc;have hd:∀u,c∈Go.Lib.decDigits u->c≠32/\c≠58:=λu h=>by
  have:=QqC u c h;refine⟨λe=> ?_,λe=> ?_⟩<;>rw[e]at this<;>revert this<;>decide
 rw[Go.Lib.itoa]at hc;split at hc
 ·rcases List.mem_cons.1 hc with rfl|hc
  ·decide
  ·exact hd _ hc
 ·exact hd _ hc
theorem QqB{u v:Nat}(h:Go.Lib.decDigits u=Go.Lib.decDigits v):u=v:=by rw[<-QqD u,h,QqD]
theorem Qm5{m n:Int}(h:Go.Lib.itoa m=Go.Lib.itoa n):m=n:=by
 have h45:∀u l,Go.Lib.decDigits u≠45::l:=λu l e=>by
  have:=QqC u 45 (by rw[e];simp);revert this;decide
 rw[Go.Lib.itoa,Go.Lib.itoa]at h;split at h<;>split at h
 ·have:=QqB (List.cons.inj h).2;omega
 ·exact absurd h.symm (h45 _ _)
 ·exact absurd h (h45 _ _)
 ·have:=QqB h;omega
theorem Qta{c:UInt8}:∀{a b x y:List UInt8},(∀z∈a,z≠c)->(∀z∈b,z≠c)->a++c::x=b++c::y->a=b/\x=y
 |[],[],x,y,_,_,h=>⟨rfl,(List.cons.inj h).2⟩
 |[],z::b,x,y,_,hb,h=>absurd (List.cons.inj h).1.symm (hb z (by simp))
 |z::a,[],x,y,ha,_,h=>absurd (List.cons.inj h).1 (ha z (by simp))
 |z::a,w::b,x,y,ha,hb,h=>by
  obtain⟨rfl,h2⟩:=List.cons.inj h;obtain⟨rfl,rfl⟩:=Qta (λv hv=>ha v (by simp[hv])) (λv hv=>hb v (by simp[hv])) h2;exact⟨rfl,rfl⟩
def segS(s:Int×Int):List UInt8:=32::(Go.Lib.itoa s.1++58::Go.Lib.itoa s.2)
def nameS(n:Int)(l:List (Int×Int)):List UInt8:=Go.Lib.itoa n++l.flatMap segS
theorem QCj{l:List UInt8}(h:∀z∈l,z≠32):∀{m:Int} {r:List (Int×Int)},Go.Lib.itoa m++r.flatMap segS=l->r=[]/\Go.Lib.itoa m=l
 |m,[],e=>⟨rfl,by simpa using e⟩
 |m,s::r,e=>absurd rfl (h 32 (by rw[<-e];simp[segS]))
theorem Qrg:∀{l r:List (Int×Int)} {m n:Int},Go.Lib.itoa m++l.flatMap segS=Go.Lib.itoa n++r.flatMap segS->m=n/\l=r
 |[],r,m,n,h=>by
  obtain⟨rfl,e⟩:=QCj (l:=Go.Lib.itoa m) (λz hz=>(QfQ m z hz).1) (m:=n) (r:=r) (by rw[<-h];simp);exact⟨(Qm5 e).symm,rfl⟩
 |s::l,[],m,n,h=>by
  obtain⟨e,_⟩:=QCj (l:=Go.Lib.itoa n) (λz hz=>(QfQ n z hz).1) (m:=m) (r:=s::l) (by rw[h];simp);cases e
 |s::l,t::r,m,n,h=>by
  rw[List.flatMap_cons,List.flatMap_cons,segS,segS,List.cons_append,List.cons_append]at h;obtain⟨h1,h2⟩:=Qta (λz hz=>(QfQ m z hz).1) (λz hz=>(QfQ n z hz).1) h;rw[List.append_assoc,List.append_assoc,List.cons_append,List.cons_append]at h2;obtain⟨h3,h4⟩:=Qta (λz hz=>(QfQ s.1 z hz).2) (λz hz=>(QfQ t.1 z hz).2) h2;obtain⟨h5,h6⟩:=Qrg h4;exact⟨Qm5 h1,by rw[h6,Prod.ext (Qm5 h3) h5]⟩
theorem Qwa{m n:Int}{l r:List (Int×Int)}(h:nameS m l=nameS n r):m=n/\l=r:=Qrg h
theorem Qi5:∀(k u:Nat),u<10 ^ (k+1)->(Go.Lib.decDigits u).length<=k+1
 |0,u,h=>by
  rw[Go.Lib.decDigits,dif_pos (by omega)];simp
 |k+1,u,h=>by
  rw[Go.Lib.decDigits];split
  ·simp
  ·have:u/10<10 ^ (k+1):=by rw[Nat.pow_succ]at h;omega
   have:=Qi5 k (u/10) this;simp;omega
def In64(n:Int):Prop:= -9223372036854775808<=n/\n<=9223372036854775807
theorem itoa_len{n:Int}(h:In64 n):(Go.Lib.itoa n).length<=20:=by
 have e:(10:Nat) ^ 19=10000000000000000000:=by decide
 obtain⟨h1,h2⟩:=h;rw[Go.Lib.itoa];split
 ·have:=Qi5 18 (-n).toNat (by rw[e];omega);simp only[List.length_cons]
  first|omega|(have h3:=Qi5 18 n.natAbs (by rw[e];omega);omega)
 ·have:=Qi5 18 n.toNat (by rw[e];omega);omega
theorem name_len{n:Int}{l:List (Int×Int)}(h:In64 n)(hl:∀x∈l,In64 x.1/\In64 x.2):(nameS n l).length<=20+42*l.length:=by
 rw[nameS,List.length_append];have:=itoa_len h;have:(l.flatMap segS).length<=42*l.length:=by
  clear this;induction l with
  |nil=>simp
  |cons x l ih=>
   have h1:=itoa_len (hl x (by simp)).1;have h2:=itoa_len (hl x (by simp)).2;have h3:=ih λy hy=>hl y (List.mem_cons_of_mem _ hy)
   rw[List.flatMap_cons,List.length_append,segS,List.length_cons,List.length_append,List.length_cons,List.length_cons];omega
 omega
end Go.Ab
