/-
  Merged texts, part w.
-/
import Derived.Test.YtohbofilgkdihaaGreatDoorZv
import Derived.Test.YtohbofilgkdihaaGreatDoorRows
import Derived.WalkKit
import Derived.ProofKit
import Derived.OpenShut
import Derived.JoinedCond
set_option linter.all false
namespace Go.Ab
open Go.Proofs Go.Proofs.YtohbofilgkdihaaGreatDoor Go.ChangeShapes Go.WideShapes Go.ChangeAt Go.RowKit
inductive Sh where
 |int (k:IntKind)
 |bool
 |str
 |list (sz:Nat) (es:List Sh)
def Qzy(P:Program)(sh:TypeId->Option (List Sh)):Nat->List (Nat×TypeId)->Option (List Sh)
 |_,[]=>some []
 |off,f::fs=>
  if f.1=off then
   match sh f.2 with
   |some l=>if l.length=P.cellsOf f.2 then (Qzy P sh (off+l.length) fs).map (l++·)else none
   |none=>none
  else none
def Qy5(P:Program):Nat->TypeId->Option (List Sh)
 |0,_=>none
 |n+1,t=>
  match P.underlying t with
  |some (.int k)=>some [.int k]
  |some .bool=>some [.bool]
  |some .string=>some [.str]
  |some (.slice e)=>
   match Qy5 P n e with
   |some l=>if l.length=P.cellsOf e/\0<P.cellsOf e then some [.list (P.cellsOf e) l]else none
   |none=>none
  |some (.struct fs)=>
   match Qzy P (Qy5 P n) 0 (fs.toList.map λf=>(f.offset,f.type))with
   |some l=>if l.length=P.cellsOf t then some l else none
   |none=>none
  |some (.array k e)=>
   match Qzy P (Qy5 P n) 0 ((List.range k).map λi=>(i*P.cellsOf e,e))with
   |some l=>if l.length=P.cellsOf t then some l else none
   |none=>none
  |_=>none
mutual
inductive Fit1:Sh->D->Nat->Prop
 |int (k:IntKind) (n:Int) (h:(Lit.int k n).wf=true):Fit1 (.int k) (.int k n) 1
 |bool (b:Bool):Fit1 .bool (.bool b) 1
 |str (s:List UInt8):Fit1 .str (.str s) (s.length+1)
 |list (sz:Nat) (es:List Sh) (l:List (List D)) (n:Nat) (h:FitLL es l n):Fit1 (.list sz es) (.list false sz l) (n+1)
inductive FitL:List Sh->List D->Nat->Prop
 |nil:FitL [] [] 0
 |cons (s:Sh) (ss:List Sh) (d:D) (ds:List D) (n m:Nat) (h:Fit1 s d n) (h':FitL ss ds m):FitL (s::ss) (d::ds) (n+m)
inductive FitLL:List Sh->List (List D)->Nat->Prop
 |nil (es:List Sh):FitLL es [] 0
 |cons (es:List Sh) (e:List D) (l:List (List D)) (n m:Nat) (h:FitL es e n) (h':FitLL es l m):FitLL es (e::l) (n+m)
end
theorem FitL.len{ss:List Sh}{ds:List D}{n:Nat}(h:FitL ss ds n):ds.length=ss.length:=by
 induction ss generalizing ds n with
 |nil=>cases h;rfl
 |cons s ss ih=>cases h with|cons _ _ _ _ _ _ h1 h2=>simp[ih h2]
theorem FitL.append{ss ss':List Sh}{ds ds':List D}{n m:Nat}(h:FitL ss ds n)(h':FitL ss' ds' m):FitL (ss++ss') (ds++ds') (n+m):=by
 induction ss generalizing ds n with
 |nil=>cases h;simpa using h'
 |cons s ss ih=>
  cases h with
  |cons _ _ d ds1 a b h1 h2=>
   have:=FitL.cons s (ss++ss') d (ds1++ds') a (b+m) h1 (ih h2);rw[Nat.add_assoc];exact this
def CsR(w:World)(cs:List Value)(ds:List D):Prop:=
 cs.length=ds.length/\∀(i:Nat) (v:Value) (d:D),cs[i]? =some v->ds[i]? =some d->DR (λb=>b<w.heap.size) w v d
theorem CsR.one{w:World}{v:Value}{d:D}(h:DR (λb=>b<w.heap.size) w v d):CsR w [v] [d]:=by
 refine⟨rfl,λi v' d' h1 h2=> ?_⟩;cases i with
 |zero=>simp at h1 h2;subst h1 h2;exact h
 |succ i=>simp at h1
theorem CsR.append{w:World}{cs cs':List Value}{ds ds':List D}(h:CsR w cs ds)(h':CsR w cs' ds'):CsR w (cs++cs') (ds++ds'):=by
 refine⟨by simp[h.1,h'.1],λi v d h1 h2=> ?_⟩;by_cases hi:i<cs.length
 ·rw[gal hi]at h1;rw[gal (by rw[<-h.1];exact hi)]at h2;exact h.2 i v d h1 h2
 ·rw[apQ (by omega)]at h1;rw[apQ (by rw[<-h.1];omega),<-h.1]at h2;exact h'.2 _ v d h1 h2
theorem Qyq{α:Type}(p:Nat->α->Prop):∀(len:Nat),(∀i,i<len->∃a,p i a)->∃l:List α,l.length=len/\∀i a,l[i]? =some a->p i a:=by
 intro len;induction len with
 |zero=>intro _;exact⟨[],rfl,by intro i a h;simp at h⟩
 |succ n ih=>
  intro h;obtain⟨l,hl,hp⟩:=ih λi hi=>h i (by omega)
  obtain⟨a,ha⟩:=h n (by omega);refine⟨l++[a],by simp[hl],λi x hx=> ?_⟩;rcases Qbb hx with g|⟨g,g'⟩
  ·exact hp i x g
  ·subst g g';rw[hl];exact ha
theorem QvK{es:List Sh}:∀(l:List (List D×Nat)),(∀(i:Nat) (x:List D×Nat),l[i]? =some x->FitL es x.1 x.2)->FitLL es (l.map (·.1)) (l.map (·.2)).sum:=by
 intro l;induction l with
 |nil=>intro _;exact .nil es
 |cons x l ih=>
  intro h;simp only[List.map_cons,List.sum_cons];exact .cons es _ _ _ _ (h 0 x rfl) (ih λi y hy=>h (i+1) y (by simpa using hy))
theorem Qqh{H:Type}:∀(l:List (List D×Nat)) (xs:List (DataW H)),l.length=xs.length->(∀(i:Nat) (x:List D×Nat) (y:DataW H),l[i]? =some x->xs[i]? =some y->x.2<=Rows.uptoBulk y)->(l.map (·.2)).sum<=Rows.uptoBulkAll xs:=by
 intro l;induction l with
 |nil=>intro xs _ _;simp
 |cons x l ih=>
  intro xs hl h;cases xs with
  |nil=>simp at hl
  |cons y xs=>
   have h0:=h 0 x y rfl rfl;have h1:=ih xs (by simpa using hl) λi a b ha hb=>h (i+1) a b (by simpa using ha) (by simpa using hb)
   simp only[List.map_cons,List.sum_cons,Rows.uptoBulkAll];omega
theorem Qhw{w:World}{a:Addr}{v:Value}(h:w.cell? a=some v):a.spot=none/\a.block<w.heap.size:=by
 unfold World.cell? at h;cases hb:w.heap[a.block]? with
 |none=>rw[hb]at h;cases h
 |some o=>
  rw[hb]at h;have hlt:a.block<w.heap.size:=by
   rcases Nat.lt_or_ge a.block w.heap.size with h'|h'
   ·exact h'
   ·rw[Array.getElem?_eq_none h']at hb;cases hb
  refine⟨?_,hlt⟩;cases o with
  |cells c t fr=>
   simp only at h;cases hs:a.spot with
   |none=>rfl
   |some s=>rw[hs]at h;simp at h
  |_=>simp at h
theorem Qff{w:World}{a:Addr}{n:Nat}{cs:List Value}(h:w.cells? 0 a n=some cs):cs.length=n/\∀i,i<n->w.cell? (a.add i)=cs[i]? :=by
 unfold World.cells? at h;rw[if_pos (Nat.zero_le _)]at h;exact⟨by simpa using mapM_some_length h,λi hi=>mapM_some_get h i i (by simp[hi])⟩
section
variable{H:Type}{enc:TypeId×Value->H}{P:Program}{w:World}
abbrev Rdg (enc:TypeId×Value->H) (P:Program) (w:World) (fuel:Nat) (t:TypeId) (cs:List Value) (x:DataW H×List MemPlace):Prop:=
 DataW.trod enc P w 0 (λ_=>true) true fuel t cs=some x
theorem QlC{sh:TypeId->Option (List Sh)}{fuel:Nat}{cs:List Value}
 (ih:∀t shs cs x,sh t=some shs->Rdg enc P w fuel t cs x->∃ds n,CsR w cs ds/\FitL shs ds n/\n<=Rows.uptoBulk x.1):
  ∀(fs:List (Nat×TypeId)) (off:Nat) (shs:List Sh) (xs:List (DataW H×List MemPlace)),Qzy P sh off fs=some shs->cs.length=off+shs.length->xs.length=fs.length->
   (∀(i:Nat) (f:Nat×TypeId),fs[i]? =some f->DataW.trod enc P w 0 (λ_=>true) true fuel f.2 ((cs.drop f.1).take (P.cellsOf f.2))=xs[i]?)->
   ∃ds n,CsR w (cs.drop off) ds/\FitL shs ds n/\n<=Rows.uptoBulkAll (xs.map (·.1)):=by
 intro fs;induction fs with
 |nil=>
  intro off shs xs hs hl hx _;simp only[Qzy,osi]at hs;subst hs;refine⟨[],0,⟨by simp at hl |-;omega,λi v d _ h=>by simp at h⟩,.nil,Nat.zero_le _⟩
 |cons f fs ihf=>
  intro off shs xs hs hl hx hr;obtain⟨o,t⟩:=f;cases xs with
  |nil=>simp at hx
  |cons x xs=>
   simp only[Qzy]at hs;split at hs
   ·rename_i ho;subst ho;split at hs
    ·rename_i l hsl;split at hs
     ·rename_i hll;simp only[omi]at hs;obtain⟨r,hs,rfl⟩:=hs;simp only[List.length_append]at hl;obtain⟨ds1,n1,a1,a2,a3⟩:=ih t l _ x hsl (by simpa using hr 0 (o,t) rfl);obtain⟨ds2,n2,b1,b2,b3⟩:=ihf (o+l.length) r xs hs (by omega) (by simpa using hx) λi f hf=>by simpa using hr (i+1) f (by simpa using hf)
      refine⟨ds1++ds2,n1+n2,?_,a2.append b2,?_⟩
      ·have e:cs.drop o=(cs.drop o).take (P.cellsOf t)++cs.drop (o+l.length):=by
        rw[hll,<-List.drop_drop,List.take_append_drop]
       rw[e];exact a1.append b1
      ·simp only[List.map_cons,Rows.uptoBulkAll];omega
     ·cases hs
    ·cases hs
   ·cases hs
theorem Qu7{b off len cap sz:Nat}{l:List (List D)}(hlen:l.length=len)(hcap:len<=cap)(hmax:cap<=maxLen)(hpos:0<sz)(hsz:∀(i:Nat) (e:List D),l[i]? =some e->e.length=sz)
 (h:∀(i:Nat) (e:List D),l[i]? =some e->∃cs,w.cells? 0 ((⟨b,off,none⟩:Addr).add (i*sz)) sz=some cs/\CsR w cs e):
  DR (λb=>b<w.heap.size) w (.slice (some ⟨b,off,none⟩) len cap) (.list false sz l):=by
 subst hlen;have key:∀(i:Nat) (e:List D) (j:Nat) (x:D),l[i]? =some e->e[j]? =some x->∃v,w.cell? ⟨b,off+i*sz+j,none⟩=some v/\DR (λb=>b<w.heap.size) w v x:=by
  intro i e j x he hx;obtain⟨cs,h1,h2⟩:=h i e he;obtain⟨h3,h4⟩:=Qff h1;have hj:j<sz:=by rw[<-hsz i e he];exact Qaa hx
  have hv:cs[j]? =some (cs[j]'(by omega)):=lgE _;refine⟨_,?_,h2.2 j _ x hv hx⟩;rw[<-hv,<-h4 j hj,Qbi,Qbi]
 refine .sl b off cap sz l (λi j=>(w.cell? ⟨b,off+i*sz+j,none⟩).getD (.bool false)) (λhne=> ?_) hcap (by unfold maxLen at hmax;omega) hsz (λi e j x he hx=> ?_) λi e j x he hx=> ?_
 ·cases l with
  |nil=>exact absurd rfl hne
  |cons e l=>
   have he:e.length=sz:=hsz 0 e rfl;cases e with
   |nil=>simp at he;omega
   |cons x e=>
    obtain⟨v,hv,_⟩:=key 0 (x::e) 0 x rfl rfl;exact(Qhw hv).2
 ·obtain⟨v,hv,_⟩:=key i e j x he hx;rw[hv];rfl
 ·obtain⟨v,hv,hd⟩:=key i e j x he hx;rw[hv];exact hd
theorem read(P:Program):∀(m:Nat) (t:TypeId) (shs:List Sh) (fuel:Nat) (cs:List Value) (x:DataW H×List MemPlace),Qy5 P m t=some shs->Rdg enc P w fuel t cs x->
  ∃ds n,CsR w cs ds/\FitL shs ds n/\n<=Rows.uptoBulk x.1:=by
 intro m;induction m with
 |zero=>intro t shs fuel cs x hs;simp[Qy5]at hs
 |succ m ih=>
  intro t shs fuel cs x hs hx;unfold Qy5 at hs;split at hs
  ·rename_i k hu;cases hs;obtain⟨n,rfl,rfl,hw⟩:=DataW.trod_int hu hx;exact⟨_,_,CsR.one (.int k n),.cons _ _ _ _ 1 0 (.int k n hw) .nil,by simp[Rows.uptoBulk]⟩
  ·rename_i hu;cases hs;obtain⟨b,rfl,rfl⟩:=DataW.trod_bool hu hx;exact⟨_,_,CsR.one (.bool b),.cons _ _ _ _ 1 0 (.bool b) .nil,by simp[Rows.uptoBulk]⟩
  ·rename_i hu;cases hs;obtain⟨s,rfl,rfl,_⟩:=DataW.trod_string hu hx;exact⟨_,_,CsR.one (.str s),.cons _ _ _ _ _ 0 (.str _) .nil,by simp[Rows.uptoBulk]⟩
  ·rename_i e hu;split at hs
   ·rename_i l hl;split at hs
    ·rename_i hc;cases hs;rcases DataW.trod_slice hu hx with ⟨rfl,rfl⟩|⟨a,len,cap,elems,rest,n,rfl,rfl,rfl,_,hlc,hcm,hel,hget,hsp,_⟩
     ·exact⟨_,_,CsR.one (.nils false _),.cons _ _ _ _ 1 0 (.list _ l [] 0 (.nil l)) .nil,by simp[Rows.uptoBulk]⟩
     ·obtain⟨hrl,hrest⟩:=hsp rfl;have each:∀i,i<len->∃y:List D×Nat,(∃cs,w.cells? 0 (a.add (i*P.cellsOf e)) (P.cellsOf e)=some cs/\CsR w cs y.1)/\FitL l y.1 y.2/\∀z,elems[i]? =some z->y.2<=Rows.uptoBulk z.1:=by
       intro i hi;have h1:=hget i hi;rw[lgE (by omega)]at h1;simp only[Option.bind_eq_some_iff]at h1;obtain⟨cs,h2,h3⟩:=h1;obtain⟨ds,k,g1,g2,g3⟩:=ih e l n cs _ hl h3;refine⟨(ds,k),⟨cs,h2,g1⟩,g2,λz hz=> ?_⟩;rw[lgE (by omega)]at hz;cases hz;exact g3
      obtain⟨L,hL,hp⟩:=Qyq _ len each;have hfl:=QvK L λi y hy=>(hp i y hy).2.1
      have hw:=Qqh L (elems.map (·.1)) (by simp[hL,hel]) λi y z hy hz=>by
       simp only[gtm,omi]at hz;obtain⟨u,hu1,rfl⟩:=hz;exact(hp i y hy).2.2 u hu1
      refine⟨[.list false (P.cellsOf e) (L.map (·.1))],_,CsR.one ?_,.cons _ _ _ _ _ 0 (.list _ l _ _ hfl) .nil,by simp only[Rows.uptoBulk];omega⟩;by_cases hz:cap=0
      ·have h0:len=0:=by omega
       have hLn:L=[]:=lzQ (by omega);subst hLn h0 hz;exact .emp a _
      ·have hspot:a.spot=none:=by
        by_cases h0:0<len
        ·obtain⟨y,⟨cs,h2,_⟩,_⟩:=each 0 h0;have:=(Qff h2).2 0 hc.2;rw[lgE (by have:=(Qff h2).1;omega)]at this;simpa [Addr.add]using (Qhw this).1
        ·have h1:=hrest 0 (by omega);rw[lgE (by omega)]at h1;simp only[Option.bind_eq_some_iff]at h1;obtain⟨cs,h2,_⟩:=h1;have:=(Qff h2).2 0 hc.2;rw[lgE (by have:=(Qff h2).1;omega)]at this;have h00:len=0:=by omega
         simpa [Addr.add,h00]using (Qhw this).1
       obtain⟨b,off,spot⟩:=a;simp only at hspot;subst hspot;refine Qu7 (by simp[hL]) hlc hcm hc.2 (λi ds hi=> ?_) λi ds hi=> ?_
       ·simp only[gtm,omi]at hi;obtain⟨y,hy,rfl⟩:=hi;rw[(hp i y hy).2.1.len,hc.1]
       ·simp only[gtm,omi]at hi;obtain⟨y,hy,rfl⟩:=hi;exact(hp i y hy).1
    ·cases hs
   ·cases hs
  ·rename_i fs hu;split at hs
   ·rename_i l hl;split at hs
    ·rename_i hc;cases hs;obtain⟨xs,n,rfl,rfl,h1,h2,h3⟩:=DataW.trod_struct hu hx;obtain⟨ds,k,g1,g2,g3⟩:=QlC (fuel:=n) (cs:=cs) (λt shs cs x h h'=>ih t shs n cs x h h') _ 0 shs xs hl (by omega) (by simp[h2]) λi f hf=>by
      simp only[gtm,omi]at hf;obtain⟨f',hf',rfl⟩:=hf;exact h3 i f' (by simpa using hf')
     exact⟨ds,k,by simpa using g1,g2,by simp only[Rows.uptoBulk];omega⟩
    ·cases hs
   ·cases hs
  ·rename_i k e hu;split at hs
   ·rename_i l hl;split at hs
    ·rename_i hc;cases hs;obtain⟨xs,n,rfl,rfl,h1,h2,h3⟩:=DataW.trod_array hu hx;obtain⟨ds,k',g1,g2,g3⟩:=QlC (fuel:=n) (cs:=cs) (λt shs cs x h h'=>ih t shs n cs x h h') _ 0 shs xs hl (by omega) (by simp[h2]) λi f hf=>by
      simp only[gtm,omi]at hf;obtain⟨i',hi',rfl⟩:=hf;have hik:i<k:=by have:=Qaa hi';simpa using this
      rw[List.getElem?_range hik]at hi';cases hi';exact h3 i hik
     exact⟨ds,k',by simpa using g1,g2,by simp only[Rows.uptoBulk];omega⟩
    ·cases hs
   ·cases hs
  ·cases hs
theorem Qyj{W W':World}{may:MemPlace->Prop}(hq:Quiet W W')(hs:∀b,b<W.heap.size->W'.heap[b]? =W.heap[b]?):W.keptBut W' may:=by
 refine⟨hq.1,hq.2.1,λi hi=> ?_⟩;rw[hs i hi];cases W.heap[i]? with
 |none=>rfl
 |some o=>cases o with
  |cells c t fr=>exact⟨rfl,rfl,rfl,λ_ _=>rfl⟩
  |map es clock=>exact .inr ⟨rfl,rfl⟩
  |_=>rfl
theorem Qut{W W':World}(hs:∀b,b<W.heap.size->W'.heap[b]? =W.heap[b]?)(p:MemPlace)(hp:p.block<W.heap.size):W.sameAt W' p:=by
 cases p with
 |cell b off=>exact Qdu (hs b hp) off
 |map b=>exact hs b hp
theorem Qho{W W':World}{T:TypeId->Prop}(K:Kids P T)(hz:∀t e,T t->P.underlying t=some (.slice e)->0<P.cellsOf e){sp:Nat->Bool}:∀(ts:List TypeId) (vs:List Value) (ds:List (DataW H)) (ps:List MemPlace),
  (∀t∈ts,T t)->DataW.TrodAll enc P W 0 (λ_=>true) true ts vs ds ps->(∀p∈ps,W.sameAt W' p)->(∀p∈ps,sp p.block=true)->DataW.TrodAll enc P W' 0 sp true ts vs ds ps
 |[],[],[],_,_,h,_,_=>h
 |t::ts,v::vs,d::ds,ps,hT,⟨p,q,⟨n,h1⟩,h2,e⟩,hs,hp=>by
  subst e;refine⟨p,q,⟨n,?_⟩,Qho K hz ts vs ds q (λt ht=>hT t (List.mem_cons_of_mem _ ht)) h2 (λx hx=>hs x (List.mem_append_right _ hx)) λx hx=>hp x (List.mem_append_right _ hx),rfl⟩;exact DataW.trod_stays K (λa b=>hz _ _ a b) (λh=>by cases h) (hT t (List.mem_cons_self ..)) h1 (λx hx=>hs x (List.mem_append_left _ hx)) λx hx=>hp x (List.mem_append_left _ hx)
theorem Qv3{f:Func}{s:ChangeSpec}{apart fresh handsOn:Bool}{W W':World}{args:Array Value}{ds gs:List (DataW H)}{before:List MemPlace}{bt:TypeId}
 (K:Kids P (·<P.types.size))(hz:∀t e,t<P.types.size->P.underlying t=some (.slice e)->0<P.cellsOf e)(hT:∀t∈f.params.toList,t<P.types.size)
 (hvars:s.vars=[])(hres:f.resultTypes= #[bt])(hbt:P.underlying bt=some .bool)
 (hW:DataW.Whole enc P f.params.toList s.vars apart W args.toList ds gs before)(hfn:(s.fn H (ds++gs)).results=[.lit (.bool true)]/\(s.fn H (ds++gs)).args=ds/\(s.fn H (ds++gs)).vars=[])
 (hq:Quiet W W')(hs:∀b,b<W.heap.size->W'.heap[b]? =W.heap[b]?):s.post enc P f apart fresh handsOn false W args (.bool true) W':=by
 have hlt:=hW.lt;have hW':=hW;obtain⟨p,q,hA,hV,rfl,_,_⟩:=hW';rw[hvars]at hV;obtain⟨rfl,rfl⟩:=trodVars_none hV;simp only[List.append_nil]at*;refine⟨ds,[],p,[],p,[],hW,?_,?_,?_,Qyj hq hs,λh=>by cases h⟩
 ·simp only[List.append_nil];rw[hfn.1,hres];exact trodAll_cons_mk (shut_bool hbt _) trodAll_mk0
 ·simp only[List.append_nil];rw[hfn.2.1];exact Qho K hz _ _ _ _ hT hA (λx hx=>Qut hs x (hlt x (by simpa using hx))) λx hx=>by simpa using hlt x (by simpa using hx)
 ·simp only[List.append_nil];rw[hfn.2.2,hvars];rfl
theorem QzI{v:Value}{n:Nat}(h:v.cells.toList.length=n)(hn:n≠1):v= .agg v.cells:=by
 cases v<;>first|rfl|(exfalso;simp[Value.cells]at h;omega)
theorem QxF{G:Nat->Prop}{w:World}{ι:Io}{h:Hp}:VRs G w ι h [] []:=⟨rfl,λi v x h1=>by simp at h1⟩
theorem Qi2{G:Nat->Prop}{w:World}{ι:Io}{h:Hp}{v:Value}{x:AV}{vs:List Value}{xs:List AV}(h1:VR G w ι h v x)(h2:VRs G w ι h vs xs):VRs G w ι h (v::vs) (x::xs):=by
 refine⟨by simp[h2.1],λi a b ha hb=> ?_⟩;cases i with
 |zero=>simp at ha hb;subst ha hb;exact h1
 |succ i=>exact h2.2 i a b (by simpa using ha) (by simpa using hb)
theorem Qto{α:Type}{es:List Sh}(en:α->List D)(wt:α->Nat)(h:∀e n,FitL es e n->∃a,e=en a/\wt a<=n):∀(l:List (List D)) (n:Nat),FitLL es l n->∃xs:List α,l=xs.map en/\(xs.map wt).sum<=n:=by
 intro l;induction l with
 |nil=>intro n _;exact⟨[],rfl,Nat.zero_le _⟩
 |cons e l ih=>
  intro n hl;cases hl with
  |cons _ _ _ a b h1 h2=>
   obtain⟨x,rfl,hx⟩:=h e a h1;obtain⟨xs,rfl,hxs⟩:=ih b h2;exact⟨x::xs,rfl,by simp only[List.map_cons,List.sum_cons];omega⟩
theorem FitL.weight{ss:List Sh}{ds:List D}{n:Nat}(h:FitL ss ds n):ss.length<=n:=by
 induction ss generalizing ds n with
 |nil=>exact Nat.zero_le _
 |cons s ss ih=>
  cases h with
  |cons _ _ _ _ a b h1 h2=>
   have h3:=ih h2;have:1<=a:=by cases h1<;>omega
   simp only[List.length_cons];omega
theorem FitL.un{s:Sh}{ss:List Sh}{ds:List D}{n:Nat}(h:FitL (s::ss) ds n):∃d ds' a b,ds=d::ds'/\n=a+b/\Fit1 s d a/\FitL ss ds' b:=by
 cases h with|cons _ _ d ds a b h1 h2=>exact⟨d,ds,a,b,rfl,rfl,h1,h2⟩
theorem FitL.end{ds:List D}{n:Nat}(h:FitL [] ds n):ds=[]:=by cases h;rfl
theorem Fit1.i{k:IntKind}{d:D}{n:Nat}(h:Fit1 (.int k) d n):∃z,d= .int k z/\(Lit.int k z).wf=true:=by cases h with|int _ z hw=>exact⟨z,rfl,hw⟩
theorem Fit1.b{d:D}{n:Nat}(h:Fit1 .bool d n):∃z,d= .bool z:=by cases h with|bool z=>exact⟨z,rfl⟩
theorem Fit1.l{sz:Nat}{es:List Sh}{d:D}{n:Nat}(h:Fit1 (.list sz es) d n):∃l m,d= .list false sz l/\n=m+1/\FitLL es l m:=by cases h with|list _ _ l m hl=>exact⟨l,m,rfl,rfl,hl⟩
theorem Fit1.lm{α:Type}{sz:Nat}{es:List Sh}{d:D}{n:Nat}(en:α->List D)(wt:α->Nat)(h:Fit1 (.list sz es) d n)(hd:∀e n,FitL es e n->∃a,e=en a/\wt a<=n):
  ∃xs:List α,d= .list false sz (xs.map en)/\(xs.map wt).sum+1<=n:=by
 obtain⟨l,m,rfl,rfl,h1⟩:=h.l;obtain⟨xs,rfl,h2⟩:=Qto en wt hd l m h1;exact⟨xs,rfl,by omega⟩
theorem Qnt{α:Type}(l:List α):(l.map λ_=>1).sum=l.length:=by
 induction l with
 |nil=>rfl
 |cons a l ih=>simp[ih];omega
theorem Qmh{m fuel:Nat}{t:TypeId}{shs:List Sh}{v:Value}{d:DataW H}{ps:List MemPlace}(hs:Qy5 P m t=some shs)(hx:DataW.trod enc P w 0 (λ_=>true) true fuel t v.cells.toList=some (d,ps)):
  ∃ds n,CsR w v.cells.toList ds/\FitL shs ds n/\n<=Rows.uptoBulk d:=read P m t shs fuel _ _ hs hx
end
abbrev shI:Sh:= .int .i64
def QwH:List Sh:=[shI,.list 1 [.bool],.list 7 [shI,shI,shI,shI,shI,shI,shI]]
theorem QBu:∀e n,FitL [shI] e n->∃a:Int,e=Qar a/\1<=n:=by
 intro e n h;have hw:=h.weight;obtain⟨d,ds,a,b,rfl,rfl,h1,h2⟩:=h.un;obtain⟨z,rfl,_⟩:=h1.i;rw[h2.end];exact⟨z,rfl,by simpa using hw⟩
theorem Qz2:∀e n,FitL [.bool] e n->∃a:Bool,e=QaY a/\1<=n:=by
 intro e n h;have hw:=h.weight;obtain⟨d,ds,a,b,rfl,rfl,h1,h2⟩:=h.un;obtain⟨z,rfl⟩:=h1.b;rw[h2.end];exact⟨z,rfl,by simpa using hw⟩
theorem Qz3:∀e n,FitL [shI,shI,shI,shI,shI,shI,shI] e n->∃a:Lk,e=Qaz a/\1<=n:=by
 intro e n h;have hw:=h.weight;simp only[List.length_cons]at hw;obtain⟨d0,ds0,_,_,rfl,rfl,g0,h_0⟩:=h.un;obtain⟨z1,rfl,w_z1⟩:=g0.i;obtain⟨d1,ds1,_,_,rfl,rfl,g1,h_1⟩:=h_0.un;obtain⟨z2,rfl,w_z2⟩:=g1.i;obtain⟨d2,ds2,_,_,rfl,rfl,g2,h_2⟩:=h_1.un;obtain⟨z3,rfl,w_z3⟩:=g2.i;obtain⟨d3,ds3,_,_,rfl,rfl,g3,h_3⟩:=h_2.un;obtain⟨z4,rfl,w_z4⟩:=g3.i;obtain⟨d4,ds4,_,_,rfl,rfl,g4,h_4⟩:=h_3.un;obtain⟨z5,rfl,w_z5⟩:=g4.i;obtain⟨d5,ds5,_,_,rfl,rfl,g5,h_5⟩:=h_4.un;obtain⟨z6,rfl,w_z6⟩:=g5.i;obtain⟨d6,ds6,_,_,rfl,rfl,g6,h_6⟩:=h_5.un;obtain⟨z7,rfl,w_z7⟩:=g6.i;rw[h_6.end];exact⟨⟨z1,z2,z3,z4,z5,z6,z7⟩,rfl,by omega⟩
theorem kids:Kids Tryz.prog (·<Tryz.prog.types.size):=kids_rows (by kernel_rfl) (by kernel_rfl)
theorem full:∀t e,t<Tryz.prog.types.size->Tryz.prog.underlying t=some (.slice e)->0<Tryz.prog.cellsOf e:=slices_full_of Tryz.prog (by kernel_rfl)
theorem own:ownKnob Tryz.prog.godebug=none:=by kernel_rfl
end Go.Ab
