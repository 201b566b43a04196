/-
  Merged texts, part k.
-/
import Derived.Test.YtohbofilgkdihaaGreatDoorZj
set_option linter.all false
namespace Go.Ab
inductive Ex where
 |normal
 |exit (id:Nat)
 |ret
 deriving DecidableEq
abbrev Post:=Ex->Lv->Hp->Prop
inductive LoopI (m:Nat) (body:Lv->Hp->Post->Prop) (L:Lv) (h:Hp) (Q:Post):Prop
 |mk (I:Nat->Lv->Hp->Prop) (n:Nat) (L1:Lv) (h1:Hp) (wk:Wk m L h L1 h1) (start:I n L1 h1)
   (round:∀n L h,I n L h->body L h fun x L' h'=>match x with
    | .normal=>∃n' L1 h1,n'<n/\Wk m L' h' L1 h1/\I n' L1 h1
    | .exit i=>∃L1 h1,Wk m L' h' L1 h1/\Q (.exit i) L1 h1
    | .ret=>Q .ret L' h')
def QwZ(h h':Hp)(L:Lv):List Nat->Prop
 |[]=>True
 |s::r=>QaR h h' (lkN L s)/\(match lkN L s with
  | .c (.d (.adr _ _))=>False
  |_=>True)/\QwZ h h' L r
def QqY(h h':Hp)(L:Lv):List (Nat×Bool)->Prop
 |[]=>True
 |(s,b)::r=>QaR h h' (lkN L s)/\(match b,lkN L s with
  |true,.c (.d (.adr _ _))=>False
  |_,_=>True)/\QqY h h' L r
def QCC(P:Program)(o:AO)(late:List Nat)(L:Lv)(h:Hp)(K:Lv->Hp->Prop):Prop:=match o.op with
 | .call f xs=>∃R:AV->Hp->Prop,FnS P f (QiQ L xs) h R/\∀r h',R r h'->QwZ h h' L late/\K (QdE L o.dst r) h'
 |_=>False
def arW(L:Lv):AOp->Bool
 | .nilc x=>isA (evN L x)
 | .iaa _ _ x _=>isA (evN L x)
 | .ias _ x _=>isA (evN L x)
 | .fa x _=>isA (evN L x)
 | .ld x _=>isA (evN L x)
 | .st x _ _=>isA (evN L x)
 |_=>false
def Qna:AOp->Bool
 | .ias .. =>true
 |_=>false
def QBU(P:Program)(Λ:Len)(o:AO)(L:Lv)(h:Hp)(K:AV->Hp->Prop):Prop:=match o.op with
 | .call f xs=>∃R:AV->Hp->Prop,FnS P f (QiQ L xs) h R/\∀r h',R r h'->K r h'
 | .callv x xs=>(match evN L x with
  | .c (.fn b f caps)=>(match Nat.blt f 4294967296 with
   |true=>FnOk P f/\∃R:AV->Hp->Prop,FnS P f (Qpg b (QiQ L xs) (caps.map .c)) h R/\∀r h',R r h'->K r h'
   |false=>False)
  |_=>False)
 | .bsl sz z n ps=>QbD P Λ 0 false (.bsl sz z n ps) L h fun _ v h'=>K v h'
 | .app sz bytes z x y=>(match evN L x with
  | .c (.d (.sl _ _ _ _ _))=>vAr (.app sz bytes z x y) L h K
  | .c (.d (.list true _ _))=>(Unit->QbD P Λ 0 true (.app sz bytes z x y) L h fun _ v h'=>K v h')\/(Unit->vAr (.app sz bytes z x y) L h K)
  |_=>QbD P Λ 0 true (.app sz bytes z x y) L h fun _ v h'=>K v h')
 |op=>match arW L op with
  |true=>vAr op L h K
  |false=>QbD P Λ 0 true op L h fun _ v h'=>K v h'
def hdT:List (List (Nat×Bool))->List (Nat×Bool)
 |[]=>[]
 |a::_=>a
def tlT:List (List (Nat×Bool))->List (List (Nat×Bool))
 |[]=>[]
 |_::r=>r
def QBV(P:Program)(Λ:Len):List AO->List (List (Nat×Bool))->Lv->Hp->(Lv->Hp->Prop)->Prop
 |[],_,L,h,K=>K L h
 |o::r,late,L,h,K=>QBU P Λ o L h fun v h'=>QqY h h' L (hdT late)/\QBV P Λ r (tlT late) (QdE L o.dst v) h' K
def Qig:Lv->Lv
 |[]=>[]
 |(i,v)::r=>(i,match QbM v with
  |true=>v
  |false=> .c .u)::Qig r
structure RfS (P:Program) (VA VB:Lv->Hp->Post->Prop) (x:X) (p:Nat) (L:Lv) (h:Hp) (Q:Post):Prop where
 out:∃m rest g caps,h= .am m::rest/\evN L x= .c (.fn false g caps)/\Nat.blt g 4294967296=true/\FnOk P g/\(∀l,NoFn P l)/\
  ∀(l:Nat) (rdy bsy:AB),m l=none->
   (∀(m':Ar) (r:AV) (K:Ar->Prop),m' l=some rdy->QbM r=true->(VA (QdE (Qig L) (some p) r) [.am m'] fun x L2 h2=>match x with
     | .normal=>∃m2 tl,h2= .am m2::tl/\m2 l=some rdy/\VB L2 (.am (mup m2 l bsy)::tl) fun x _ h3=>match x with
      | .normal=>∃m3 tl3,h3= .am m3::tl3/\m3 l=some bsy/\K (mup m3 l rdy)
      |_=>False
     |_=>False)->
    FnS P (8589934592+l) [r] [.am m'] fun q h'=>q= .c (.d (.bool true))/\∃m3 tl,h'= .am m3::tl/\K m3)->
   FnS P g (.c (.d (.yl l))::caps.map .c) (.am (mup m l rdy)::rest) fun _ h'=>∃m3 rest',h'= .am m3::rest'/\m3 l=some rdy/\Q .normal L (.am (mdel m3 l)::rest')
def vcC(P:Program)(Λ:Len)(m:Nat):AC->Lv->Hp->Post->Prop
 | .skip,L,h,Q=>Q .normal L h
 | .reg d ops,L,h,Q=>Qdj P Λ m d ops L h fun L h=>Q .normal L h
 | .rgf pre k ops,L,h,Q=>QsF P Λ m pre k [] ops L h fun L h=>Q .normal L h
 | .rgw e1 o e2 cs late,L,h,Q=>Qdj P Λ m true e1 L h fun L h=>Qdj P Λ m true e2 L h fun L h=>QCC P o late L h fun L h=>Qdj P Λ m true cs L h fun L h=>Q .normal L h
 | .rgc es ws late,L,h,Q=>Qdj P Λ m true es L h fun L h=>QBV P Λ ws late L h fun L h=>Q .normal L h
 | .seq a b,L,h,Q=>vcC P Λ m a L h fun x L h=>match x with
  | .normal=>vcC P Λ m b L h Q
  |x=>Q x L h
 | .cond c a b,L,h,Q=>match evN L c with
  | .c (.d (.bool t))=>(match t with
   |true=>vcC P Λ m a L h Q
   |false=>vcC P Λ m b L h Q)
  |_=>False
 | .block id c,L,h,Q=>vcC P Λ m c L h fun x L h=>match x with
  | .exit i=>(match Nat.beq i id with
   |true=>Q .normal L h
   |false=>Q (.exit i) L h)
  |x=>Q x L h
 | .loop c,L,h,Q=>LoopI m (vcC P Λ m c) L h Q
 | .exit id,L,h,Q=>Q (.exit id) L h
 | .ret,L,h,Q=>Q .ret L h
 | .rfn x p a b,L,h,Q=>RfS P (vcC P Λ 1 a) (vcC P Λ 1 b) x p L h Q
def QzE(ms:List Nat)(n b:Nat):Bool:=((List.range b).all fun j=>(ms.getD b 0).testBit j)&&(List.range n).all fun i=>decide (i<=b)||(ms.getD i 0).testBit b
def Qz7:AOp->Bool
 | .call .. =>true
 | .callv .. =>true
 | .ivk .. =>true
 |_=>false
def Qiz(ms:List Nat)(n:Nat):Nat->List AO->List AO×List (AO×List AO)
 |_,[]=>([],[])
 |k,o::r=>match Qiz ms n (k+1) r with
  |(c,bs)=>match Qz7 o.op&&QzE ms n k with
   |true=>([],(o,c)::bs)
   |false=>(o::c,bs)
def Qle:List AO->List (AO×List AO)->AC
 |c,[]=> .reg true c
 |c,(o,c')::r=> .seq (.reg true c) (.seq (.reg false [o]) (Qle c' r))
def Qld(ops:Array Oper)(aos:List AO):AC:=match Qiz (masks ops.toList []) ops.size 0 aos with
 |(c,bs)=>Qle c bs
def QlS(pre:List (List Nat)):Nat->List AO->List (AO×List AO)->AC
 |k,c,[]=> .rgf pre k c
 |k,c,(o,c')::r=> .seq (.rgf pre k c) (.seq (.reg false [o]) (QlS pre (k+c.length+1) c' r))
def Qr7(ms:List Nat)(n:Nat):List (List Nat):=(List.range n).map fun i=>(List.range i).filter fun j=>(ms.getD i 0).testBit j
def Qja(ops:Array Oper)(aos:List AO):AC:=match Qiz (masks ops.toList []) ops.size 0 aos with
 |(c,bs)=>QlS (Qr7 (masks ops.toList []) ops.size) 0 c bs
def isW(ms:List Nat)(c i:Nat):Bool:=Nat.beq i c||(ms.getD i 0).testBit c
def QpK(ms:List Nat)(n c:Nat):List Nat:=(List.range n).filter fun i=> !isW ms c i
def QsD(ms:List Nat)(n c:Nat):List Nat:=(List.range n).filter fun i=>isW ms c i
def QqP(aos:List AO)(l:List Nat):List AO:=l.filterMap fun i=>aos[i]?
def QwX(a b:AO):Bool:=(match a.dst with
 |some d=> !(QaX b).contains d&&b.dst !=some d
 |none=>true)&&(match b.dst with
 |some d=> !(QaX a).contains d
 |none=>true)
def Qs9(os:List Oper):Bool:=(List.range os.length).all fun i=>match os[i]? with
 |some o=>(direct o).all fun j=>decide (j<i)
 |none=>true
def Qze(ms:List Nat)(n c:Nat)(aos:List AO):Bool:=
 ((QsD ms n c).all fun b=>((QsD ms n c).all fun k=>decide (b<=k)||(ms.getD b 0).testBit k)&&(match aos[b]? with
  |some o=>o.g.isNone
  |none=>false))&&
 ((QpK ms n c).all fun j=>match aos[j]? with
  |some o=>cls o.op==0
  |none=>false)&&
 ((QpK ms n c).all fun j=>(QpK ms n c).all fun i=>decide (i<=j)||(ms.getD i 0).testBit j||(match aos[j]?,aos[i]? with
  |some x,some y=>compat x y
  |_,_=>false))&&
 ((QpK ms n c).all fun j=>(QsD ms n c).all fun b=>(decide (j<b)&&(ms.getD b 0).testBit j)||(match aos[j]?,aos[b]? with
  |some x,some y=>QwX x y&&(QqX x||Qna y.op)
  |_,_=>false))
def QCo(ms:List Nat)(n c b:Nat):List Nat:=(QpK ms n c).filter fun j=> !(decide (j<b)&&(ms.getD b 0).testBit j)
def Qlp(ms:List Nat)(n c:Nat)(aos:List AO)(b:Nat):List (Nat×Bool):=(QqP aos (QCo ms n c b)).flatMap QBo
def QAl(ms:List Nat)(n c:Nat)(aos:List AO):Bool:=(QpK ms n c).all fun i=>(QpK ms n c).all fun j=>decide (j<i)||(match aos[i]?,aos[j]? with
 |some x,some y=>(Qfo x).all fun s=>y.dst !=some s
 |_,_=>false)
def QxW(bar:Nat->Bool):Nat->List AO->Option Nat
 |_,[]=>none
 |k,o::r=>match o.op with
  | .callv _ _=>(match bar k with
   |true=>QxW bar (k+1) r
   |false=>some k)
  |_=>QxW bar (k+1) r
def Qtd(aos:List AO)(s:Nat)(p:AOp->Bool):Bool:=aos.any fun o=>(match o.dst with
 |some d=>Nat.beq d s
 |none=>false)&&p o.op
def QBd:AOp->Bool
 | .app .. =>true
 |_=>false
def QBg(aos:List AO):AOp->Bool
 | .build _ ps=>ps.any fun p=>match p.2.2 with
  | .t y=>Qtd aos y QBd
  |_=>false
 |_=>false
def Qz9(aos:List AO):AOp->Bool
 | .bsl _ _ _ ps=>ps.any fun p=>match p.2 with
  | .t x=>Qtd aos x (QBg aos)
  |_=>false
 |_=>false
def QBe:AOp->Bool
 | .bsl .. =>true
 |_=>false
def Qz0(k:Nat):List AO->Option Nat
 |[]=>none
 |o::r=>match QBe o.op with
  |true=>some k
  |false=>Qz0 (k+1) r
def Qz8(aos:List AO):Bool:=(aos.any fun o=>match o.op with
 | .nilc .. =>true
 |_=>false)&&(aos.any fun o=>match o.op with
 | .app .. =>true
 |_=>false)&&aos.any fun o=>match o.op with
 | .st .. =>true
 |_=>false
def Qz1(bar:Nat->Bool)(aos:List AO):Option Nat:=match (aos.any fun o=>Qz9 aos o.op)||Qz8 aos with
 |true=>Qz0 0 aos
 |false=>QxW bar 0 aos
def QsI(ops:Array Oper)(aos:List AO):AC:=match Qz1 (QzE (masks ops.toList []) ops.size) aos with
 |some c=>if (Qze (masks ops.toList []) ops.size c aos&&QAl (masks ops.toList []) ops.size c aos)=true/\Qs9 ops.toList=true/\aos.all Qb1=true then
   .rgc (QqP aos (QpK (masks ops.toList []) ops.size c)) (QqP aos (QsD (masks ops.toList []) ops.size c)) ((QsD (masks ops.toList []) ops.size c).map (Qlp (masks ops.toList []) ops.size c aos))
  else Qja ops aos
 |none=>Qja ops aos
def QCp:AOp->Bool
 | .st .. =>true
 |_=>false
def Qx7(aos:List AO):AOp->Bool
 | .ld (.t y) none=>Qtd aos y Qna
 |_=>false
def QCy(aos:List AO)(d:Option Nat):Bool:=match d with
 |some z=>aos.any fun o=>match o.op with
  | .st (.t y) _ _=>Nat.beq y z
  |_=>false
 |none=>false
def Qw3(aos:List AO)(k:Nat):List AO->Option Nat
 |[]=>none
 |o::r=>match (match o.op with
   | .ias _ (.t x) _=>Qtd aos x (Qx7 aos)&&QCy aos o.dst
   |_=>false)with
  |true=>some k
  |false=>Qw3 aos (k+1) r
def QBf:AOp->Bool
 | .ld _ none=>true
 |_=>false
def QxV(P:Program)(aos:List AO):Nat->List AO->Option Nat
 |_,[]=>none
 |k,o::r=>match o.op with
  | .call f xs=>(match QBL P f&&xs.any fun x=>match x with
    | .t s=>Qtd aos s QBf
    |_=>false with
   |true=>some k
   |false=>QxV P aos (k+1) r)
  |_=>QxV P aos (k+1) r
def QAp(P:Program)(aos:List AO):Option Nat:=match Qw3 aos 0 aos with
 |some c=>some c
 |none=>QxV P aos 0 aos
def QsJ(P:Program)(ops:Array Oper)(aos:List AO):AC:=match aos.any fun o=>QCp o.op with
 |true=>(match QAp P aos with
  |some c=>if (Qze (masks ops.toList []) ops.size c aos&&QAl (masks ops.toList []) ops.size c aos)=true/\Qs9 ops.toList=true/\aos.all Qb1=true then
    .rgc (QqP aos (QpK (masks ops.toList []) ops.size c)) (QqP aos (QsD (masks ops.toList []) ops.size c)) ((QsD (masks ops.toList []) ops.size c).map (Qlp (masks ops.toList []) ops.size c aos))
   else Qld ops aos
  |none=>Qld ops aos)
 |false=>Qld ops aos
def Qb6(P:Program)(N:Nat):Bool->Code->Option AC
 |_,.skip=>some .skip
 |_,.label _=>some .skip
 |_,.region _ ops draw=>match QaT P ops N ops.toList with
  |some aos=>if aos.all (gOk N)=true/\(draw=true->aos.all Qb1=true/\Qn2 ops.toList aos=true)then some (match draw with|true=>QsJ P ops aos|false=> .reg false aos)
   else if draw=true/\aos.all (gOk N)=true/\aos.all Qhy=true/\QjD ops.toList aos=true then some (QsI ops aos)else none
  |none=>none
 |rf,.seq a b=>match Qb6 P N rf a,Qb6 P N rf b with
  |some x,some y=>some (.seq x y)
  |_,_=>none
 |rf,.cond c a b=>match cx P 0 c,Qb6 P N rf a,Qb6 P N rf b with
  |some c,some x,some y=>some (.cond c x y)
  |_,_,_=>none
 |rf,.block id c=>match Qb6 P N rf c with
  |some x=>some (.block id x)
  |none=>none
 |rf,.loop c=>match Qb6 P N rf c with
  |some x=>some (.loop x)
  |none=>none
 |rf,.scope c=>Qb6 P N rf c
 |_,.exit id=>some (.exit id)
 |_,.ret=>some .ret
 |rf,.rangeFunc g ps a b=>match rf,cx P 0 g,ps.toList,Qb6 P N false a,Qb6 P N false b with
  |true,some (.t x),[p],some a,some b=>if p<N then some (.rfn (.t x) p a b)else none
  |_,_,_,_,_=>none
 |_,_=>none
abbrev Qgv (P:Program) (N:Nat):Code->Option AC:=Qb6 P N true
section
variable{P:Program}{ro:Option Nat}{N:Nat}{G0:Nat->Prop}{ι0:Io}{h0:Hp}{w0:World}
def exq(Q:Post):Exit->Lv->Hp->Prop
 | .normal=>Q .normal
 | .exit i=>Q (.exit i)
 | .ret=>Q .ret
 |_=>fun _ _=>False
def out(N:Nat)(G0:Nat->Prop)(ι0:Io)(h0:Hp)(w0:World)(Q:Post):Exit->Act->World->Prop:=
 fun x a w=>∃L h,exq Q x L h/\Fits N G0 ι0 h0 w0 (lkL L) h a w
theorem least{p:Nat->Prop}:∀n,p n->∃m,p m/\∀k,p k->m<=k:=by
 intro n;induction n using Nat.strongRecOn with
 |_ n ih=>
  intro hn;by_cases h:∃k,k<n/\p k
  ·obtain⟨k,hk,hpk⟩:=h;exact ih k hk hpk
  ·exact⟨n,hn,fun k hk=>by
    rcases Nat.lt_or_ge k n with h'|h'
    ·exact absurd ⟨k,h',hk⟩ h
    ·exact h'⟩
theorem QcS{b:Frame}{a:Act}{k:List Item}{cs:List Frame}{w:World}{c:Code}:step P (lone (b.atR a (.code (.scope c)::k)) cs w)= .next (lone (b.atR a (.code c:: .inScope c::k)) cs w):=
 step_lone_go (by simp[stepG,stepG.exec,Frame.atR])
theorem Qnl{b:Frame}{a:Act}{k:List Item}{cs:List Frame}{w:World}{c:Code}:step P (lone (b.atR a (.inScope c::k)) cs w)= .next (lone (b.atR a k) cs w):=
 step_lone_go (by simp[stepG,stepG.exec,Frame.atR])
theorem QgD{c:Code}{Q:Exit->Act->World->Prop}{a:Act}{w:World}(h:c.wpIn (Fen ro) 0 P (Exit.noGoto Q) a w):(Code.scope c).wpIn (Fen ro) 0 P Q a w:=by
 intro b k cs hro hb hr;have h0:(lone (b.atR a (.code (.scope c)::k)) cs w).fenced P (Fen ro):=fenced_calm hb hr rfl;obtain⟨e,a₁,w₁,hq,harr⟩:=h b (.inScope c::k) cs hro hb hr;cases e with
 |normal=>exact⟨.normal,a₁,w₁,hq,.head h0 QcS (StepsIn.trans harr (.one (fenced_calm hb hr rfl) Qnl))⟩
 |exit id=>
  have hx:exitTo id (.inScope c::k)=exitTo id k:=by simp[exitTo]
  exact⟨.exit id,a₁,w₁,hq,fun k' hk=> .head h0 QcS (harr.1 k' (by rw[hx];exact hk)),fun hr' hk=>let⟨k₁,h1,h2⟩:=harr.2 hr' (by rw[hx];exact hk);⟨k₁,h1,.head h0 QcS h2⟩⟩
 |goto l=>exact hq.elim
 |ret=>exact⟨_,a₁,w₁,hq,.of_steps (.one h0 QcS) harr⟩
 |panic ch=>exact⟨_,a₁,w₁,hq,.of_steps (.one h0 QcS) harr⟩
 |outgrown=>exact⟨_,a₁,w₁,hq,.of_steps (.one h0 QcS) harr⟩
theorem Qnp{c:Code}{Q:Exit->Act->World->Prop}(I:Nat->Act->World->Prop)
 (round:∀n a w,I n a w->c.wpIn (Fen ro) 0 P (Exit.then (fun a' w'=>∃n',n'<n/\I n' a' w') Q) a w):∀n a w,I n a w->(Code.loop c).wpIn (Fen ro) 0 P Q a w:=by
 intro n a w h
 classical
 have hex:∀a w,(∃n,I n a w)->∃m,I m a w/\∀k,I k a w->m<=k:=fun a w ⟨n,hn⟩=>least n hn
 let μ:Act->World->Nat:=fun a w=>if h:∃n,I n a w then Classical.choose (hex a w h)else 0
 have hμ:∀a w,(∃n,I n a w)->I (μ a w) a w:=fun a w h=>by simp only[μ,dif_pos h];exact(Classical.choose_spec (hex a w h)).1
 have hμ':∀a w n,I n a w->μ a w<=n:=fun a w n h=>by
  have h0:∃n,I n a w:=⟨n,h⟩;simp only[μ,dif_pos h0];exact(Classical.choose_spec (hex a w h0)).2 n h
 refine wpIn_loop (fun a w=>∃n,I n a w) μ ⟨n,h⟩ fun a w hI=> ?_
 refine wpIn_mono (round _ a w (hμ a w hI)) fun x a' w' hx=> ?_
 cases x with
 |normal=>obtain⟨n',h1,h2⟩:=hx;exact⟨⟨n',h2⟩,Nat.lt_of_le_of_lt (hμ' a' w' n' h2) h1⟩
 |_=>exact hx
def Qql(ms:List Nat)(n:Nat):Nat->List (AO×List AO)->Prop
 |_,[]=>True
 |k,(_,c)::r=>QzE ms n k=true/\Qql ms n (k+1+c.length) r
def Qfm:List (AO×List AO)->List AO
 |[]=>[]
 |(o,c)::r=>o::(c++Qfm r)
def Qz6:Nat->List (AO×List AO)->List (Nat×List Nat)
 |_,[]=>[]
 |k,(_,c)::r=>(k,List.range' (k+1) c.length)::Qz6 (k+1+c.length) r
theorem Qkw{ms:List Nat}{n:Nat}:∀(aos:List AO) (k:Nat) (c:List AO) (bs:List (AO×List AO)),Qiz ms n k aos=(c,bs)->aos=c++Qfm bs/\Qql ms n (k+c.length) bs:=by
 intro aos;induction aos with
 |nil=>intro k c bs h;cases h;exact⟨rfl,trivial⟩
 |cons o r ih=>
  intro k c bs h;simp only[Qiz]at h;generalize hs:Qiz ms n (k+1) r=p at h;obtain⟨c',bs'⟩:=p;obtain⟨h1,h2⟩:=ih (k+1) c' bs' hs;simp only at h;split at h
  ·rename_i hb;simp only[Bool.and_eq_true]at hb;cases h;exact⟨by simp[Qfm,h1],hb.2,h2⟩
  ·cases h;refine⟨by simp[h1],?_⟩;simp only[List.length_cons];rw[show k+(c'.length+1)=k+1+c'.length by omega];exact h2
theorem QqM:∀(bs:List (AO×List AO)) (k:Nat),Qdt (Qz6 k bs)=List.range' k (Qfm bs).length:=by
 intro bs;induction bs with
 |nil=>intro k;rfl
 |cons q r ih=>
  intro k;obtain⟨o,c⟩:=q;simp only[Qz6,Qdt,Qfm,List.length_cons,List.length_append,List.range'_succ,ih]
  congr 1
  rw[List.range'_append_1]
theorem Qyp{ops:Array Oper}{m b:Nat}(hm:h0.length<=m){Q:Exit->Act->World->Prop}{o:Oper}{ao:AO}{L:Lv}{h:Hp}{K:Lv->Hp->Prop}{K':Act->World->Prop}{a:Act}{w:World}(hok:ops[b]? =some o)(hao:QiP P ops N o=some ao)(hg:gOk N ao=true)
 (hv:Qii P m false [ao] L h K)(hf:Fits N G0 ι0 h0 w0 (lkL L) h a w)(hK:∀L' h' a' w',K L' h'->Fits N G0 ι0 h0 w0 (lkL L') h' a' w'->K' a' w'):wpOpIn (Fen ro) 0 P ops Q b K' a w:=by
 unfold wpOpIn;simp only[hok];obtain⟨G,ι,st⟩:=hf;obtain⟨hd,hdN,hop,hgs⟩:=Qbd hao;have hgN:=QeL hg;rcases hv with ⟨hgv,hv⟩|⟨hgv,hv⟩
 ·rw[QbB st.rel hgs hgv hgN];simp only[if_true];refine QgL hm hao hv ⟨G,ι,st⟩ fun L' v h' a' w' hk' hf'=> ?_
  exact hK _ _ _ _ hk' (by rw[QaQ];exact hf')
 ·rw[QbB st.rel hgs hgv hgN];simp only[Bool.false_eq_true,if_false];refine⟨fun f _=>Fen.fn ro f,hK _ _ _ _ hv ⟨G,ι,?_⟩⟩;rw[QaQ,hd];exact st.step hdN st.rel.hr (.tup #[] [] rfl (by simp)) (Ext.refl _ _ _ _)
theorem Qfb.of_take{aops:List AO}{n:Nat}:∀{l:List Nat} {e:Env} {h:Hp} {e':Env} {h':Hp},Qfb P (aops.take n) l e h e' h'->Qfb P aops l e h e' h':=by
 intro l;induction l with
 |nil=>intro e h e' h' hr;exact hr
 |cons i r ih=>
  intro e h e' h' ⟨o,e1,h1,ho,hs,hr⟩;refine⟨o,e1,h1,?_,hs,ih hr⟩;rw[List.getElem?_take]at ho;split at ho
  ·exact ho
  ·cases ho
theorem Quk{S:AC->Lv->Hp->Post->Prop}{m:Nat}{ops:Array Oper}{aops:List AO}{Q:Post}(hm:h0.length<=m)
 (hseq:∀a b L h Q,S (.seq a b) L h Q->S a L h fun x L h=>match x with| .normal=>S b L h Q|x=>Q x L h)(hreg:∀d ops L h Q,S (.reg d ops) L h Q->Qii P m d ops L h fun L h=>Q .normal L h)
 (hcomp:QaT P ops N ops.toList=some aops)(hg:aops.all (gOk N)=true):∀(bs:List (AO×List AO)) (c:List AO) (k:Nat) (L:Lv) (h:Hp),(∀i,(c++Qfm bs)[i]? =aops[k+i]?)->Qql (masks ops.toList []) ops.size (k+c.length) bs->S (Qle c bs) L h Q->
  ∃e' h',Qfb P aops (List.range' k c.length) (lkL L) h e' h'/\QuP ro P N G0 ι0 h0 w0 ops aops (out N G0 ι0 h0 w0 Q) (Qz6 (k+c.length) bs) e' h':=by
 intro bs;induction bs with
 |nil=>
  intro c k L h hi _ hs;obtain⟨L',h',h1,h2⟩:=Qnh (aops:=aops) c k L h _ (by simpa [Qfm]using hi) (hreg _ _ _ _ _ hs);exact⟨_,_,h1,fun a w hf=>⟨L',h',h2,hf⟩⟩
 |cons q r ih=>
  intro c k L h hi hb hs;obtain⟨o,c'⟩:=q;obtain⟨hb1,hb2⟩:=hb;have hci:∀i,c[i]? =aops[k+i]? \/c.length<=i:=fun i=>by
   rcases Nat.lt_or_ge i c.length with hlt|hge
   ·left;rw[←hi i,gal hlt]
   ·exact .inr hge
  have hrun:Qii P m true c L h fun L h=>S (.seq (.reg false [o]) (Qle c' r)) L h Q:=hreg _ _ _ _ _ (hseq _ _ _ _ _ hs)
  obtain⟨L1,h1,q1,q2⟩:∃L' h',Qfb P aops (List.range' k c.length) (lkL L) h (lkL L') h'/\S (.seq (.reg false [o]) (Qle c' r)) L' h' Q:=by
   have hc2:∀i,c[i]? =((aops.take (k+c.length)))[k+i]? :=fun i=>by
    rcases hci i with h|h
    ·rcases Nat.lt_or_ge i c.length with hlt|hge
     ·rw[List.getElem?_take_of_lt (by omega),h]
     ·rw[List.getElem?_eq_none hge,List.getElem?_eq_none (by simp;omega)]
    ·rw[List.getElem?_eq_none h,List.getElem?_eq_none (by simp;omega)]
   obtain⟨L',h',q1,q2⟩:=Qnh (aops:=aops.take (k+c.length)) c k L h _ hc2 hrun;exact⟨L',h',Qfb.of_take q1,q2⟩
  refine⟨_,_,q1,?_⟩;have hob:aops[k+c.length]? =some o:=by rw[←hi c.length];simp[Qfm]
  have hlen:=(Qay hcomp).1;obtain⟨oo,hoo⟩:∃oo,ops.toList[k+c.length]? =some oo:=⟨_,lgE (by have:=Qaa hob;omega)⟩;have hao:=(Qay hcomp).2 _ oo o hoo hob;have hgo:gOk N o=true:=by rw[List.all_eq_true]at hg;exact hg o (mgE hob)
  have hone:Qii P m false [o] L1 h1 fun L h=>S (Qle c' r) L h Q:=hreg _ _ _ _ _ (hseq _ _ _ _ _ q2)
  refine⟨?_,fun a w K hf hK=> ?_⟩
  ·simp only[QzE,Bool.and_eq_true,List.all_eq_true,List.mem_range,Bool.or_eq_true,decide_eq_true_eq]at hb1;exact⟨hb1.1,fun i h1 h2=>(hb1.2 i h2).resolve_left (by omega)⟩
  ·refine Qyp hm (by simpa using hoo) hao hgo hone hf fun L' h' a' w' hk hf'=> ?_
   obtain⟨e3,h3,p1,p2⟩:=ih c' (k+c.length+1) L' h' (fun i=>by
    have:=hi (c.length+1+i);rw[List.getElem?_append_right (by omega)]at this;rw[show c.length+1+i-c.length=i+1 by omega]at this;simp only[Qfm,List.getElem?_cons_succ]at this;rw[this];congr 1;omega) hb2 hk
   exact hK _ _ _ _ _ _ hf' p1 p2
theorem Qp1{S:AC->Lv->Hp->Post->Prop}{m id:Nat}{ops:Array Oper}{aops:List AO}{Q:Post}{L:Lv}{h:Hp}{a:Act}{w:World}(hmo:P.follows .mixedOrders=true)(hm:h0.length<=m)
 (hseq:∀a b L h Q,S (.seq a b) L h Q->S a L h fun x L h=>match x with| .normal=>S b L h Q|x=>Q x L h)(hreg:∀d ops L h Q,S (.reg d ops) L h Q->Qii P m d ops L h fun L h=>Q .normal L h)
 (hcomp:QaT P ops N ops.toList=some aops)(hg:aops.all (gOk N)=true)(hk:aops.all Qb1=true)(hd:Qn2 ops.toList aops=true)(hf:Fits N G0 ι0 h0 w0 (lkL L) h a w)(hs:S (Qld ops aops) L h Q):(Code.region id ops true).wpIn (Fen ro) 0 P (out N G0 ι0 h0 w0 Q) a w:=by
 unfold Qld at hs;generalize hsp:Qiz (masks ops.toList []) ops.size 0 aops=p at hs;obtain⟨c,bs⟩:=p;obtain⟨h1,h2⟩:=Qkw aops 0 c bs hsp;obtain⟨e',h',q1,q2⟩:=Quk (ro:=ro) hm hseq hreg hcomp hg bs c 0 L h (fun i=>by rw[←h1];simp) h2 hs;refine Qp0 hmo hcomp hg hk hd hf ?_ q1 q2;rw[QqM,Nat.zero_add];have hlen:=(Qay hcomp).1;have:ops.size=c.length+(Qfm bs).length:=by
  rw[←List.length_append,←h1,←hlen];simp
 rw[this,List.range_eq_range'];have:=List.range'_append_1 (s:=0) (m:=c.length) (n:=(Qfm bs).length);simpa using this
theorem QqR:∀{l:List (List Nat)} {i:Nat} {x:List Nat},l[i]? =some x->Qo4 l i=x
 |[],_,_,h=>by simp at h
 |y::r,0,x,h=>by simpa [Qo4]using h
 |y::r,i+1,x,h=>by simp only[List.getElem?_cons_succ]at h;simp only[Qo4];exact QqR h
theorem Qoj:∀{l:List (List Nat)} {i:Nat},l.length<=i->Qo4 l i=[]
 |[],_,_=>rfl
 |y::r,0,h=>by simp at h
 |y::r,i+1,h=>by simp only[Qo4];exact Qoj (by simpa using h)
theorem QoD{ops:Array Oper}{i j:Nat}(h:j∈Qo4 (Qr7 (masks ops.toList []) ops.size) i):Qu2 ops i j=true:=by
 rcases Nat.lt_or_ge i ops.size with hi|hi
 ·rw[QqR (x:=(List.range i).filter fun j=>((masks ops.toList []).getD i 0).testBit j) (by simp[Qr7,hi])]at h;exact(List.mem_filter.1 h).2
 ·rw[Qoj (by simp[Qr7];exact hi)]at h;cases h
theorem Qsh{S:AC->Lv->Hp->Post->Prop}{m:Nat}{ops:Array Oper}{aops:List AO}{Q:Post}(hm:h0.length<=m)
 (hseq:∀a b L h Q,S (.seq a b) L h Q->S a L h fun x L h=>match x with| .normal=>S b L h Q|x=>Q x L h)(hreg:∀d ops L h Q,S (.reg d ops) L h Q->Qii P m d ops L h fun L h=>Q .normal L h)
 (hrgf:∀pre k ops L h Q,S (.rgf pre k ops) L h Q->Quf P m pre k [] ops L h fun L h=>Q .normal L h)
 (hcomp:QaT P ops N ops.toList=some aops)(hg:aops.all (gOk N)=true)(hcon:aops.all Qhy=true):∀(bs:List (AO×List AO)) (c:List AO) (k:Nat) (L:Lv) (h:Hp) (a:Act) (w:World),(∀i,(c++Qfm bs)[i]? =aops[k+i]?)->Qql (masks ops.toList []) ops.size (k+c.length) bs->
   S (QlS (Qr7 (masks ops.toList []) ops.size) k c bs) L h Q->Fits N G0 ι0 h0 w0 (lkL L) h a w->
  QAK P h0.length ops aops (List.range' k c.length) (lkL L) h (Qqm ro P N G0 ι0 h0 w0 ops aops (out N G0 ι0 h0 w0 Q) (Qz6 (k+c.length) bs)):=by
 intro bs;have hci:∀(bs:List (AO×List AO)) (c:List AO) (k:Nat),(∀i,(c++Qfm bs)[i]? =aops[k+i]?)->∀i,i<c.length->c[i]? =aops[k+i]? :=fun bs c k hi i hlt=>by rw[←hi i,gal hlt]
 induction bs with
 |nil=>
  intro c k L h a w hi _ hs hf;obtain⟨mm,tr,e',h',q1,q2,q3,L',rfl,q4⟩:=QoM hcomp (fun i j=>QoD) hcon (hci [] c k hi) (hrgf _ _ _ _ _ _ hs) hf;exact⟨mm,tr,_,h',q1,q2,q3,fun a w hf=>⟨L',h',q4,hf⟩⟩
 |cons q r ih=>
  intro c k L h a w hi hb hs hf;obtain⟨o,c'⟩:=q;obtain⟨hb1,hb2⟩:=hb;obtain⟨mm,tr,e',h',q1,q2,q3,L1,rfl,q4⟩:=QoM hcomp (fun i j=>QoD) hcon (hci ((o,c')::r) c k hi) (hrgf _ _ _ _ _ _ (hseq _ _ _ _ _ hs)) hf;refine⟨mm,tr,_,h',q1,q2,q3,?_⟩;have hob:aops[k+c.length]? =some o:=by rw[←hi c.length];simp[Qfm]
  have hlen:=(Qay hcomp).1;obtain⟨oo,hoo⟩:∃oo,ops.toList[k+c.length]? =some oo:=⟨_,lgE (by have:=Qaa hob;omega)⟩;have hao:=(Qay hcomp).2 _ oo o hoo hob;have hgo:gOk N o=true:=by rw[List.all_eq_true]at hg;exact hg o (mgE hob)
  have hone:Qii P m false [o] L1 h' fun L h=>S (QlS (Qr7 (masks ops.toList []) ops.size) (k+c.length+1) c' r) L h Q:=hreg _ _ _ _ _ (hseq _ _ _ _ _ q4)
  refine⟨?_,fun a w K hf hK=> ?_⟩
  ·simp only[QzE,Bool.and_eq_true,List.all_eq_true,List.mem_range,Bool.or_eq_true,decide_eq_true_eq]at hb1;exact⟨hb1.1,fun i h1 h2=>(hb1.2 i h2).resolve_left (by omega)⟩
  ·refine Qyp hm (by simpa using hoo) hao hgo hone hf fun L' h' a' w' hk hf'=> ?_
   exact hK _ _ _ _ hf' (ih c' (k+c.length+1) L' h' a' w' (fun i=>by
    have:=hi (c.length+1+i);rw[List.getElem?_append_right (by omega)]at this;rw[show c.length+1+i-c.length=i+1 by omega]at this;simp only[Qfm,List.getElem?_cons_succ]at this;rw[this];congr 1;omega) hb2 hk hf')
theorem QoH{S:AC->Lv->Hp->Post->Prop}{m id:Nat}{ops:Array Oper}{aops:List AO}{Q:Post}{L:Lv}{h:Hp}{a:Act}{w:World}(hmo:P.follows .mixedOrders=true)(hm:h0.length<=m)
 (hseq:∀a b L h Q,S (.seq a b) L h Q->S a L h fun x L h=>match x with| .normal=>S b L h Q|x=>Q x L h)(hreg:∀d ops L h Q,S (.reg d ops) L h Q->Qii P m d ops L h fun L h=>Q .normal L h)
 (hrgf:∀pre k ops L h Q,S (.rgf pre k ops) L h Q->Quf P m pre k [] ops L h fun L h=>Q .normal L h)
 (hcomp:QaT P ops N ops.toList=some aops)(hg:aops.all (gOk N)=true)(hcon:aops.all Qhy=true)(hd:QjD ops.toList aops=true)(hf:Fits N G0 ι0 h0 w0 (lkL L) h a w)(hs:S (Qja ops aops) L h Q):(Code.region id ops true).wpIn (Fen ro) 0 P (out N G0 ι0 h0 w0 Q) a w:=by
 unfold Qja at hs;generalize hsp:Qiz (masks ops.toList []) ops.size 0 aops=p at hs;obtain⟨c,bs⟩:=p;obtain⟨h1,h2⟩:=Qkw aops 0 c bs hsp;have hseg:=Qsh (ro:=ro) hm hseq hreg hrgf hcomp hg hcon bs c 0 L h a w (fun i=>by rw[←h1];simp) h2 hs hf;refine Qyv hmo hcomp hg hd hf ?_ hseg;rw[QqM,Nat.zero_add];have hlen:=(Qay hcomp).1;have:ops.size=c.length+(Qfm bs).length:=by
  rw[←List.length_append,←h1,←hlen];simp
 rw[this,List.range_eq_range'];have:=List.range'_append_1 (s:=0) (m:=c.length) (n:=(Qfm bs).length);simpa using this
theorem QrY{h h':Hp}{L:Lv}:∀{l:List (Nat×Bool)},QqY h h' L l->∀s b,(s,b)∈l->QaR h h' (lkN L s)/\(b=true->¬Qk7 (lkN L s)):=by
 intro l;induction l with
 |nil=>intro _ s b hs;cases hs
 |cons x r ih=>
  intro hl s b hs;rcases List.mem_cons.1 hs with rfl|hs
  ·refine⟨hl.1,fun hb hi=> ?_⟩;have h2:=hl.2.1;subst hb;revert hi h2;generalize lkN L s=v;intro hi h2;unfold Qk7 at hi;split at hi
   ·exact h2
   ·exact hi
  ·exact ih hl.2.2 s b hs
theorem Qfb.heap{aops:List AO}:∀{l:List Nat} {e:Env} {h:Hp} {e':Env} {h':Hp},(∀j∈l,∀o,aops[j]? =some o->cls o.op=0)->Qfb P aops l e h e' h'->h'=h:=by
 intro l;induction l with
 |nil=>intro e h e' h' _ hr;exact hr.2
 |cons i l ih=>
  intro e h e' h' hc hr;obtain⟨o,e1,h1,ho,hs,hr⟩:=hr;obtain⟨v,ea,rfl⟩:=hs.1.eff;have h2:=ea.same (hc i (by simp) o ho);subst h2;exact ih (fun j hj=>hc j (by simp[hj])) hr
def Qnt(P:Program)(aops:List AO)(late:Nat->List (Nat×Bool))(Q:Lv->Hp->Prop):List Nat->Lv->Hp->Prop
 |[],L,h=>Q L h
 |b::r,L,h=>∃ob,aops[b]? =some ob/\∃K:AV->Hp->Prop,(∀(m:Nat) (Le:Lv),(∀n∈QaX ob,lkL Le n=lkL L n)->Did P m false ob.op Le h fun L' v h'=>L'=Le/\K v h')/\∀v h',K v h'->(Qna ob.op=true->h'=h)/\QqY h h' L (late b)/\Qnt P aops late Q r (QdE L ob.dst v) h'
theorem QwD{Λ:Len}(hΛ:∀l,Λ l=(l.length:Int)){o:AO}{L:Lv}{h:Hp}{K:AV->Hp->Prop}(hv:QBU P Λ o L h K):∀(m:Nat) (Le:Lv),(∀n∈QaX o,lkL Le n=lkL L n)->Did P m false o.op Le h fun L' v h'=>L'=Le/\K v h'/\(Qna o.op=true->h'=h):=by
 intro m Le hs;have hx:∀x∈Qbc o.op,ev (lkL L) x=ev (lkL Le) x:=fun x hx=>Qgz fun n hn=>(hs n (by
  simp only[QaX,List.mem_append,List.mem_flatMap];exact .inr ⟨x,hx,hn⟩)).symm
 have main:∀(op:AOp),o.op=op->(∀f xs,op≠ .call f xs)->(∀x xs,op≠ .callv x xs)->QbD P Λ 0 true op L h (fun _ v h'=>K v h')->Did P m false op Le h fun L' v h'=>L'=Le/\K v h'/\(Qna op=true->h'=h):=by
  intro op hop n1 n2 hv;rw[hop]at hx;have hd:=Qe2 hΛ hv;cases hd with
  |wk hd=>cases hd
  |step v h' hst _ hk=>
   refine .step v h' ?_ (fun h=>by cases h) ⟨rfl,hk,fun hrd=> ?_⟩
   rotate_left
   ·have hc0:cls op=0:=by cases op<;>first|rfl|cases hrd
    exact(QcK (h':=h) hc0 (fun x _=>by
     cases ev (lkL L) x with
     |c y=>exact QcI _ y
     |agg l=>exact fun y _=>QcI _ y
     |tup=>trivial) (fun _ _ _=> .inr (Qc7.refl _)) hst).1
   rw[←QeD (op:=op) hx];exact hst
  |call f xs ho=>exact absurd ho (n1 f xs)
  |len x sz l ho hd=>cases hd
  |lenA x l v i n ho hd=>cases hd
  |nil ne x nl sz l ho hd=>cases hd
  |callv x xs b f caps ho=>exact absurd ho (n2 x xs)
  |yl x xs l ho=>exact absurd ho (n2 x xs)
  |ivk rows x xs b t caps g k pv rv ho hd=>cases hd
  |ar K0 hd=>cases hd
 have arena:∀(op:AOp),o.op=op->arW L op=true->vAr op L h K->Did P m false op Le h fun L' v h'=>L'=Le/\K v h'/\(Qna op=true->h'=h):=by
  intro op hop har hv;rw[hop]at hx;have hxn:∀x∈Qbc op,evN L x=evN Le x:=fun x hx'=>by rw[QaG,QaG];exact hx x hx'
  cases op with
  |ias sz x i=>
   refine .ar (fun v h'=>h'=h/\K v h') rfl ?_ fun v h' hk=>⟨rfl,hk.2,fun _=>hk.1⟩
   simp only[vAr]at hv ⊢;rw[←hxn x (by simp[Qbc]),←hxn i (by simp[Qbc])];split at hv
   ·split at hv
    ·exact⟨hv.1,fun p hp=>⟨by trivial,hv.2 p hp⟩⟩
    ·exact hv
   ·exact hv
  |fa x n=>
   refine .ar K rfl ?_ fun v h' hk=>⟨rfl,hk,fun hrd=>by cases hrd⟩
   simp only[vAr]at hv ⊢;rw[←hxn x (by simp[Qbc])];exact hv
  |nilc x=>
   refine .ar K rfl ?_ fun v h' hk=>⟨rfl,hk,fun hrd=>by cases hrd⟩
   simp only[vAr]at hv ⊢;rw[←hxn x (by simp[Qbc])];exact hv
  |iaa n sz x i=>
   refine .ar K rfl ?_ fun v h' hk=>⟨rfl,hk,fun hrd=>by cases hrd⟩
   cases i with
   |t i=>
    simp only[vAr]at hv ⊢;have hi:lkN L i=lkN Le i:=hxn (.t i) (by simp[Qbc]);rw[←hxn x (by simp[Qbc]),←hi];exact hv
   |k c=>exact hv.elim
  |ld x n=>
   refine .ar K rfl ?_ fun v h' hk=>⟨rfl,hk,fun hrd=>by cases hrd⟩
   simp only[vAr]at hv ⊢;rw[←hxn x (by simp[Qbc])];exact hv
  |st x v n=>
   refine .ar K rfl ?_ fun v h' hk=>⟨rfl,hk,fun hrd=>by cases hrd⟩
   simp only[vAr]at hv ⊢;rw[←hxn x (by simp[Qbc]),←hxn v (by simp[Qbc])];exact hv
  |_=>cases har
 have bslD:∀sz z n ps,o.op= .bsl sz z n ps->QbD P Λ 0 false (.bsl sz z n ps) L h (fun _ v h'=>K v h')->Did P m false (.bsl sz z n ps) Le h fun L' v h'=>L'=Le/\K v h'/\(Qna (.bsl sz z n ps)=true->h'=h):=by
  intro sz z n ps hop hv;rw[hop]at hx;simp only[QbD]at hv;split at hv
  ·rename_i as h1 he;split at hv
   ·rename_i es hf;refine .step _ _ ?_ (fun h=>by cases h) ⟨rfl,hv.2.2,fun hrd=>by cases hrd⟩;rw[←QeD (op:= .bsl sz z n ps) hx];rw[Qd0]at he;simp only[astep,he,hf];rw[if_pos hv.2.1]
   ·exact hv.elim
  ·exact hv.elim
 unfold QBU at hv;split at hv
 ·rename_i f xs hop;obtain⟨R,h1,h2⟩:=hv;rw[hop]at hx ⊢;refine .call f xs rfl (.fn ?_);rw[QcM]at h1 ⊢;rw[←Qds (e:=lkL L) (xs:=xs) hx];exact h1.mono fun r h' hr=>⟨rfl,h2 r h' hr,fun hrd=>by cases hrd⟩
 ·rename_i x xs hop;split at hv
  ·rename_i b f caps hxv;split at hv
   rotate_left
   ·exact hv.elim
   rename_i hlt;obtain⟨hfo,R,h1,h2⟩:=hv;rw[hop]at hx ⊢;refine .callv x xs b f caps rfl rfl ?_ hlt hfo (.fn ?_)
   ·rw[←hx x (by simp[Qbc]),←QaG];exact hxv
   ·rw[QcM]at h1 ⊢;rw[←Qds (e:=lkL L) (xs:=xs) fun y hy=>hx y (by simp[Qbc,hy])];exact h1.mono fun r h' hr=>⟨rfl,h2 r h' hr,fun hrd=>by cases hrd⟩
  ·exact hv.elim
 ·rename_i sz z n ps hop;rw[hop];exact bslD sz z n ps hop hv
 ·rename_i sz bytes z x y hop;have hxn:∀w∈Qbc (.app sz bytes z x y),evN L w=evN Le w:=fun w hw=>by rw[QaG,QaG];exact hx w (by rw[hop];exact hw)
  have ar:vAr (.app sz bytes z x y) L h K->Did P m false (.app sz bytes z x y) Le h fun L' v h'=>L'=Le/\K v h'/\(Qna (.app sz bytes z x y)=true->h'=h):=fun hv=>by
   refine .ar K rfl ?_ fun v h' hk=>⟨rfl,hk,fun hrd=>by cases hrd⟩
   simp only[vAr]at hv ⊢;rw[←hxn x (by simp[Qbc]),←hxn y (by simp[Qbc])];exact hv
  rw[hop];split at hv
  ·exact ar hv
  ·rcases hv with hv|hv
   ·exact main _ hop (fun f xs e=>by cases e) (fun x xs e=>by cases e) (hv ())
   ·exact ar (hv ())
  ·exact main _ hop (fun f xs e=>by cases e) (fun x xs e=>by cases e) hv
 ·rename_i n1 n2 n3 n4;split at hv
  ·rename_i har;exact arena _ rfl har hv
  ·exact main _ rfl (fun f xs e=>n1 f xs e) (fun x xs e=>n2 x xs e) hv
theorem QqQ{aops:List AO}:∀{is:List Nat},(∀i∈is,i<aops.length)->∀{i:Nat} {r:List Nat},is=i::r->∃o,aops[i]? =some o/\QqP aops is=o::QqP aops r:=by
 rintro is hl i r rfl;have:=hl i (by simp);refine⟨_,lgE this,?_⟩;simp[QqP,lgE this]
theorem Qsu{Λ:Len}(hΛ:∀l,Λ l=(l.length:Int)){aops:List AO}{late:Nat->List (Nat×Bool)}{Q:Lv->Hp->Prop}:∀(is:List Nat) (L:Lv) (h:Hp),(∀i∈is,i<aops.length)->QBV P Λ (QqP aops is) (is.map late) L h Q->Qnt P aops late Q is L h:=by
 intro is;induction is with
 |nil=>intro L h _ hv;exact hv
 |cons b r ih=>
  intro L h hl hv;obtain⟨ob,h1,h2⟩:=QqQ hl rfl;rw[h2]at hv;exact⟨ob,h1,_,QwD hΛ hv,fun v h' hk=>⟨hk.2,hk.1.1,ih _ _ (fun i hi=>hl i (by simp[hi])) hk.1.2⟩⟩
theorem Qwg{aops:List AO}{m:Nat}:∀(is:List Nat) (L:Lv) (h:Hp) (K:Lv->Hp->Prop),(∀i∈is,i<aops.length)->Qii P m true (QqP aops is) L h K->
  ∃L' h',Qfb P aops is (lkL L) h (lkL L') h'/\K L' h':=by
 intro is;induction is with
 |nil=>intro L h K _ hv;exact⟨L,h,⟨rfl,rfl⟩,hv⟩
 |cons i is ih=>
  intro L h K hl hv;obtain⟨o,hoi,hg⟩:=QqQ hl rfl;rw[hg]at hv;obtain⟨L1,h1,hr1,hk1⟩:=Qnh (aops:=[o]) (m:=m) [o] 0 L h (fun L' h'=>Qii P m true (QqP aops is) L' h' K) (fun i=>by simp) (by
   rcases hv with ⟨g,hd⟩|⟨g,hd⟩
   ·exact .inl ⟨g,hd⟩
   ·exact .inr ⟨g,hd⟩)
  obtain⟨L2,h2,hr2,hk2⟩:=ih L1 h1 K (fun i hi=>hl i (by simp[hi])) hk1;obtain⟨o',e1,h1',ho',hs,he⟩:=hr1;obtain⟨e,e'⟩:=he;simp only[List.getElem?_cons_zero,osi]at ho';subst ho' e';rw[←e]at hs;exact⟨L2,h2,⟨o,_,_,hoi,hs,hr2⟩,hk2⟩
theorem Qt7{id c:Nat}{ops:Array Oper}{aops:List AO}{Q:Exit->Act->World->Prop}{L L1:Lv}{h:Hp}{a:Act}{w:World}{QL:Lv->Hp->Prop}(hmo:P.follows .mixedOrders=true)
 (hcomp:QaT P ops N ops.toList=some aops)(hg:aops.all (gOk N)=true)(hk:aops.all Qb1=true)(hch:Qze (masks ops.toList []) ops.size c aops=true)(hore:QAl (masks ops.toList []) ops.size c aops=true)(hdir:Qs9 ops.toList=true)(hf:Fits N G0 ι0 h0 w0 (lkL L) h a w)
 (hE:Qfb P aops (QpK (masks ops.toList []) ops.size c) (lkL L) h (lkL L1) h)
 (hW:Qnt P aops (Qlp (masks ops.toList []) ops.size c aops) QL (QsD (masks ops.toList []) ops.size c) L1 h)
 (hQ:∀L h a w,QL L h->Fits N G0 ι0 h0 w0 (lkL L) h a w->Q .normal a w):(Code.region id ops true).wpIn (Fen ro) 0 P Q a w:=by
 simp only[Qze,Bool.and_eq_true,List.all_eq_true,Bool.or_eq_true,decide_eq_true_eq]at hch;obtain⟨⟨⟨c1,c2⟩,c3⟩,c4⟩:=hch;generalize hlt0:Qlp (masks ops.toList []) ops.size c aops=lt at*;generalize hes:QqP aops (QpK (masks ops.toList []) ops.size c)=es at*;have hlen:=(Qay hcomp).1;have hsz:ops.size=aops.length:=by rw[←hlen];simp
 have memE:∀i,i∈QpK (masks ops.toList []) ops.size c↔i<ops.size/\isW (masks ops.toList []) c i=false:=fun i=>by simp[QpK]
 have memW:∀i,i∈QsD (masks ops.toList []) ops.size c↔i<ops.size/\isW (masks ops.toList []) c i=true:=fun i=>by simp[QsD]
 have hes':∀i o,i∈QpK (masks ops.toList []) ops.size c->aops[i]? =some o->o∈es:=fun i o hi ho=>by
  rw[←hes];exact List.mem_filterMap.2 ⟨i,hi,ho⟩
 have hd1:∀i o,ops.toList[i]? =some o->∀j∈direct o,j<i:=by
  intro i o ho j hj;simp only[Qs9,List.all_eq_true,List.mem_range]at hdir;have:=hdir i (Qaa ho);rw[ho]at this;simp only[List.all_eq_true,decide_eq_true_eq]at this;exact this j hj
 have hempty:∀listed rem,Rem ops listed rem->Region.ready .any ops listed=[]->rem=[]:=by
  intro listed rem hr hready;cases rem with
  |nil=>rfl
  |cons i rem=>
   exfalso;have hi:=(hr.mem i).1 (by simp);have ho:ops.toList[i]? =some (ops.toList[i]'(by simpa using hi.1)):=lgE _;have:i∈Region.ready .any ops listed:=by
    rw[Qcy];refine⟨hi.1,hi.2,_,ho,fun m hm=> ?_⟩;have hmi:=hd1 i _ ho m hm;have hnot:m∉i::rem:=by
     intro hmem;simp only[List.mem_cons]at hmem;rcases hmem with h|h
     ·omega
     ·have:=(List.pairwise_cons.1 hr.sorted).1 m h;omega
    have hms:m<ops.size:=by omega
    have:¬(listed.getD m true=false):=fun hf=>hnot ((hr.mem m).2 ⟨hms,hf⟩)
    simp only[Array.getD_eq_getD_getElem?,Array.getElem?_eq_getElem (show m<listed.size by rw[hr.size];exact hms),Option.getD_some]at this ⊢;simpa using this
   rw[hready]at this;cases this
 have hdone:∀listed rem i o j,Rem ops listed rem->Closed ops listed->ops.toList[i]? =some o->(∀m∈direct o,listed.getD m false=true)->((masks ops.toList []).getD i 0).testBit j=true->j∈rem->False:=by
  intro listed rem i o j hr hc ho hdir hb hj;have:=QeE hr.size hc i o j ho hdir hb;have hj':=(hr.mem j).1 hj;simp only[Array.getD_eq_getD_getElem?,Array.getElem?_eq_getElem (show j<listed.size by rw[hr.size];exact hj'.1),Option.getD_some]at this hj';rw[this]at hj';simp at hj'
 have claim:∀(fuel:Nat) (listed:Array Bool) (rem:List Nat) (Le L:Lv) (h:Hp) (a:Act) (w:World),Rem ops listed rem->rem.length<=fuel->Closed ops listed->Fits N G0 ι0 h0 w0 (lkL Le) h a w->
   Qfb P aops (rem.filter fun i=> !isW (masks ops.toList []) c i) (lkL Le) h (lkL L) h->(∀s,s∉Qte es->lkL Le s=lkL L s)->
   Qnt P aops lt QL (rem.filter fun i=>isW (masks ops.toList []) c i) L h->wpAnyIn (Fen ro) 0 P .any ops Q fuel listed a w:=by
  intro fuel;have stop:∀(listed:Array Bool) (Le L:Lv) (h:Hp) (a:Act) (w:World),Fits N G0 ι0 h0 w0 (lkL Le) h a w->Qfb P aops (List.filter (fun i=> !isW (masks ops.toList []) c i) []) (lkL Le) h (lkL L) h->
    Qnt P aops lt QL (List.filter (fun i=>isW (masks ops.toList []) c i) []) L h->Q .normal a w:=by
   intro listed Le L h a w hf hrun hw;obtain⟨e,_⟩:=hrun;exact hQ L h a w hw (by rw[e];exact hf)
  induction fuel with
  |zero=>
   intro listed rem Le L h a w hr hl hc hf hrun hee hw;obtain rfl:rem=[]:=List.eq_nil_of_length_eq_zero (by omega);refine⟨?_,stop listed Le L h a w hf hrun hw⟩;apply List.eq_nil_iff_forall_not_mem.2;intro i hi;rw[Qcy]at hi;have:=(hr.mem i).2 ⟨hi.1,hi.2.1⟩;cases this
  |succ fuel ih=>
   intro listed rem Le L h a w hr hl hc hf hrun hee hw;refine⟨fun hready=> ?_,fun i hi=> ?_⟩
   ·obtain rfl:=hempty listed _ hr hready;exact stop listed Le L h a w hf hrun hw
   ·rw[Qcy]at hi;obtain⟨hin,hil,o,ho,hdr⟩:=hi;have himem:=(hr.mem i).2 ⟨hin,hil⟩;have hoi:ops[i]? =some o:=by simpa using ho
    obtain⟨l1,l2,rfl⟩:=List.append_of_mem himem;have hpair:=hr.sorted;rw[List.pairwise_append]at hpair;have hl1:∀j∈l1,j<i:=fun j hj=>hpair.2.2 j hj i (by simp)
    have hrm:∀j,j∈l1++i::l2->j<ops.size:=fun j hj=>((hr.mem j).1 hj).1
    have hnb:∀j,j∈l1++i::l2->¬((masks ops.toList []).getD i 0).testBit j=true:=fun j hj hb=>hdone listed _ i o j hr hc ho hdr hb hj
    obtain⟨hr2,hc2⟩:=Qg5 hr hc hin ho hdr hd1;cases hwi:isW (masks ops.toList []) c i with
    |false=>
     have fe:List.filter (fun i=> !isW (masks ops.toList []) c i) (l1++i::l2)=List.filter (fun i=> !isW (masks ops.toList []) c i) l1++i::List.filter (fun i=> !isW (masks ops.toList []) c i) l2:=by
      rw[List.filter_append,List.filter_cons];simp[hwi]
     have fw:List.filter (fun i=>isW (masks ops.toList []) c i) (l1++i::l2)=List.filter (fun i=>isW (masks ops.toList []) c i) (l1++l2):=by
      rw[List.filter_append,List.filter_cons,List.filter_append];simp[hwi]
     have hiE:=(memE i).2 ⟨hin,hwi⟩;have hcompat:∀j∈List.filter (fun i=> !isW (masks ops.toList []) c i) l1,∀x y,aops[j]? =some x->aops[i]? =some y->compat x y=true:=by
      intro j hj x y hx hy;obtain⟨hj1,hj2⟩:=List.mem_filter.1 hj;have hjE:=(memE j).2 ⟨hrm j (by simp[hj1]),by simpa using hj2⟩;rcases c3 j hjE i hiE with (h1|h1)|h1
      ·have:=hl1 j hj1;omega
      ·exact(hnb j (by simp[hj1]) h1).elim
      ·rw[hx,hy]at h1;exact h1
     rw[fe]at hrun;rw[fw]at hw;obtain⟨ao,e1,h1,hao,hstep,hrest⟩:=front hcomp hk _ i _ _ h _ _ a w hf hcompat hrun;have hco:=(Qay hcomp).2 i o ao ho hao;have hgo:=QeL (N:=N) (by rw[List.all_eq_true]at hg;exact hg ao (mgE hao));have hz:cls ao.op=0:=by have:=c2 i hiE;rw[hao]at this;simpa using this
     obtain⟨va,ea,rfl⟩:=hstep.1.eff;have:=ea.same hz;subst this;unfold wpOpIn;simp only[hoi];refine QhV hco hgo hstep.1 hf fun a' w' hf'=>ih (listed.setIfInBounds i true) (l1++l2) (QdE Le ao.dst va) L _ a' w' hr2 (by simp at hl ⊢;omega) hc2 (by rw[QaQ];exact hf') ?_ (fun s hs=> ?_) hw
     ·rw[QaQ,List.filter_append];exact hrest
     ·rw[QaQ,Qbi fun hd=>hs (by simp only[Qte,List.mem_filterMap];exact⟨ao,hes' i ao hiE hao,hd⟩)];exact hee s hs
    |true=>
     have fe:List.filter (fun i=> !isW (masks ops.toList []) c i) (l1++i::l2)=List.filter (fun i=> !isW (masks ops.toList []) c i) (l1++l2):=by
      rw[List.filter_append,List.filter_cons,List.filter_append];simp[hwi]
     have hiW:=(memW i).2 ⟨hin,hwi⟩;have fw:List.filter (fun i=>isW (masks ops.toList []) c i) (l1++i::l2)=i::List.filter (fun i=>isW (masks ops.toList []) c i) (l1++l2):=by
      have:List.filter (fun i=>isW (masks ops.toList []) c i) l1=[]:=by
       rw[List.filter_eq_nil_iff];intro j hj hwj;have hjW:=(memW j).2 ⟨hrm j (by simp[hj]),hwj⟩;rcases(c1 i hiW).1 j hjW with h1|h1
       ·have:=hl1 j hj;omega
       ·exact hnb j (by simp[hj]) h1
      rw[List.filter_append,List.filter_cons,List.filter_append,this];simp[hwi]
     rw[fe]at hrun;rw[fw]at hw;obtain⟨ob,hob,K,hdid,hnext⟩:=hw;have hgn:ob.g=none:=by have:=(c1 i hiW).2;rw[hob]at this;simpa using this
     have hco:=(Qay hcomp).2 i o ob ho hob;have hgo:gOk N ob=true:=by rw[List.all_eq_true]at hg;exact hg ob (mgE hob)
     have hpend:∀j∈List.filter (fun i=> !isW (masks ops.toList []) c i) (l1++l2),∀oj,aops[j]? =some oj->oj∈es/\cls oj.op=0/\((∀x,oj.dst=some x->x∉QaX ob/\ob.dst≠some x)/\(∀x,ob.dst=some x->x∉QaX oj))/\(QqX oj=true\/Qna ob.op=true)/\∀s∈Qfo oj,(s,Qvx oj.op)∈lt i:=by
      intro j hj oj hoj;obtain⟨hj1,hj2⟩:=List.mem_filter.1 hj;have hjr:j∈l1++i::l2:=by
       rcases List.mem_append.1 hj1 with h|h
       ·exact List.mem_append_left _ h
       ·exact List.mem_append_right _ (List.mem_cons_of_mem _ h)
      have hjE:=(memE j).2 ⟨hrm j hjr,by simpa using hj2⟩;refine⟨hes' j oj hjE hoj,by have:=c2 j hjE;rw[hoj]at this;simpa using this,?_⟩;rcases c4 j hjE i hiW with h1|h1
      ·exact(hnb j hjr h1.2).elim
      ·have hlts:∀s∈Qfo oj,(s,Qvx oj.op)∈lt i:=fun s hs=>by
        rw[←hlt0,Qlp];refine List.mem_flatMap.2 ⟨oj,List.mem_filterMap.2 ⟨j,List.mem_filter.2 ⟨hjE,?_⟩,hoj⟩,List.mem_map.2 ⟨s,hs,rfl⟩⟩;simp only[Bool.not_eq_true',Bool.eq_false_iff,ne_eq,Bool.and_eq_true,decide_eq_true_eq];exact fun hall=>hnb j hjr hall.2
       rw[hoj,hob]at h1;simp only[QwX,Bool.and_eq_true,Bool.or_eq_true]at h1;obtain⟨⟨h2,h3⟩,h4⟩:=h1;refine⟨⟨fun x hx=> ?_,fun x hx=> ?_⟩,h4,hlts⟩
       ·rw[hx]at h2;simp only[Bool.and_eq_true,Bool.not_eq_true',bne_iff_ne]at h2;exact⟨by simpa using h2.1,h2.2⟩
       ·rw[hx]at h3;simpa using h3
     have hslots:∀n∈QaX ob,lkL Le n=lkL L n:=fun n hn=>by
      refine(Qfb.slot (fun j hj oj hoj hd=> ?_) hrun).symm;exact((hpend j hj oj hoj).2.2.1.1 n hd).1 hn
     have hone:Qii P h0.length false [ob] Le h fun L' h'=>∃v,L'=QdE Le ob.dst v/\K v h':=by
      refine .inl ⟨by rw[hgn];rfl,?_⟩;refine(hdid _ Le hslots).mono fun L' v h' hk=> ?_
      obtain⟨rfl,hk⟩:=hk;exact⟨v,rfl,hk⟩
     refine Qyp (Nat.le_refl _) hoi hco hgo hone hf fun L' h' a' w' ⟨v,e,hk⟩ hf'=> ?_
     subst e;obtain⟨hsm,hlt,hrest⟩:=hnext v h' hk;refine ih (listed.setIfInBounds i true) (l1++l2) (QdE Le ob.dst v) (QdE L ob.dst v) h' a' w' hr2 (by simp at hl ⊢;omega) hc2 hf' ?_ (fun s hs=> ?_) hrest
     ·rw[QaQ,QaQ];refine Qfb.late2 (fun j hj oj hoj=> ?_) (List.Pairwise.filter _ hr2.sorted) (fun i2 hi2 o2 ho2 s hs2 j2 hj2 hle o3 ho3=> ?_) hrun
      ·obtain⟨z1,z2,z3,z4⟩:=hpend j hj oj hoj;refine⟨z2,z4.1.imp (fun h=>h) hsm,z3.2,fun x hx=>(z3.1 x hx).2,fun s hs=> ?_⟩;have:=QrY hlt s _ (z4.2 s hs)
       rwa [QbZ]at this
      ·obtain⟨m1,m2⟩:=List.mem_filter.1 hi2;obtain⟨n1,n2⟩:=List.mem_filter.1 hj2;have hmr:∀x,x∈l1++l2->x∈l1++i::l2:=fun x hx=>by
        rcases List.mem_append.1 hx with h|h
        ·exact List.mem_append_left _ h
        ·exact List.mem_append_right _ (List.mem_cons_of_mem _ h)
       have hiE:=(memE i2).2 ⟨hrm i2 (hmr i2 m1),by simpa using m2⟩;have hjE:=(memE j2).2 ⟨hrm j2 (hmr j2 n1),by simpa using n2⟩;simp only[QAl,List.all_eq_true,Bool.or_eq_true,decide_eq_true_eq]at hore;rcases hore i2 hiE j2 hjE with h|h
       ·omega
       ·rw[ho2,ho3]at h;simp only[List.all_eq_true,bne_iff_ne,ne_eq]at h;exact h s hs2
     ·rw[QaQ,QaQ];cases hd:ob.dst with
      |none=>exact hee s hs
      |some d=>
       by_cases e:d=s
       ·subst e;simp[Qcm,upd]
       ·rw[Qbi (by simpa using e),Qbi (by simpa using e)];exact hee s hs
 refine wpIn_region_any hmo (claim ops.size (Array.replicate ops.size false) (List.range ops.size) L L1 h a _ ?_ ?_ ?_ (hf.same_heap rfl) hE ?_ hW)
 ·refine⟨by simp,fun i=> ?_,List.pairwise_lt_range⟩;simp only[List.mem_range,Array.getD_eq_getD_getElem?,Array.getElem?_replicate];constructor
  ·intro hi;exact⟨hi,by simp[hi]⟩
  ·exact fun hi=>hi.1
 ·simp
 ·intro i o ho hl;have hi:i<ops.size:=by simpa using Qaa ho
  simp[Array.getD_eq_getD_getElem?,hi]at hl
 ·intro s hs;refine(Qfb.slot (fun j hj oj hoj hd=>hs ?_) hE).symm;simp only[Qte,List.mem_filterMap];exact⟨oj,hes' j oj hj hoj,hd⟩
theorem Qlz{Λ:Len}(hΛ:∀l,Λ l=(l.length:Int)){m id c:Nat}{ops:Array Oper}{aos:List AO}{Q:Post}{L:Lv}{h:Hp}{a:Act}{w:World}(hm:P.follows .mixedOrders=true)
 (haos:QaT P ops N ops.toList=some aos)(k1:aos.all (gOk N)=true)(hcc:(Qze (masks ops.toList []) ops.size c aos&&QAl (masks ops.toList []) ops.size c aos)=true/\Qs9 ops.toList=true/\aos.all Qb1=true)(hf:Fits N G0 ι0 h0 w0 (lkL L) h a w)
 (hv:vcC P Λ m (.rgc (QqP aos (QpK (masks ops.toList []) ops.size c)) (QqP aos (QsD (masks ops.toList []) ops.size c)) ((QsD (masks ops.toList []) ops.size c).map (Qlp (masks ops.toList []) ops.size c aos))) L h Q):
  (Code.region id ops true).wpIn (Fen ro) 0 P (out N G0 ι0 h0 w0 Q) a w:=by
 obtain⟨hc1,hc2⟩:=Bool.and_eq_true _ _▸hcc.1;have hlen:=(Qay haos).1;have hsz:ops.size=aos.length:=by rw[←hlen];simp
 simp only[vcC]at hv;obtain⟨L1,h1,hr,hv2⟩:=Qwg (aops:=aos) _ L h _ (fun i hi=>by
  have:=(List.mem_filter.1 hi).1;rw[List.mem_range]at this;omega) (Qdp hΛ hv)
 have hh:=Qfb.heap (fun j hj o ho=>by
  have:=hc1;simp only[Qze,Bool.and_eq_true,List.all_eq_true]at this;have:=this.1.1.2 j hj;rw[ho]at this;simpa using this) hr
 subst hh;exact Qt7 hm haos k1 hcc.2.2 hc1 hc2 hcc.2.1 hf hr (Qsu hΛ _ _ _ (fun i hi=>by
  have:=(List.mem_filter.1 hi).1;rw[List.mem_range]at this;omega) hv2) fun L h a w hq hf=>⟨L,h,hq,hf⟩
theorem Qrq{Λ:Len}(hΛ:∀l,Λ l=(l.length:Int)){m:Nat}(hm:P.follows .mixedOrders=true)(hm0:h0.length<=m){rf:Bool}(hrf:∀(g:Operand) (ps:Array Tmp) (x y:Code) (ac:AC) (L:Lv) (h:Hp) (Q:Post) (a:Act) (w:World),Qb6 P N rf (.rangeFunc g ps x y)=some ac->vcC P Λ m ac L h Q->Fits N G0 ι0 h0 w0 (lkL L) h a w->(Code.rangeFunc g ps x y).wpIn (Fen ro) 0 P (out N G0 ι0 h0 w0 Q) a w):
  ∀(c:Code) (ac:AC) (L:Lv) (h:Hp) (Q:Post) (a:Act) (w:World),Qb6 P N rf c=some ac->vcC P Λ m ac L h Q->
  Fits N G0 ι0 h0 w0 (lkL L) h a w->c.wpIn (Fen ro) 0 P (out N G0 ι0 h0 w0 Q) a w:=by
 intro c;induction c with
 |skip=>
  intro ac L h Q a w hc hv hf;simp only[Qb6,osi]at hc;subst hc;exact wpIn_skip ⟨L,h,hv,hf⟩
 |label l=>
  intro ac L h Q a w hc hv hf;simp only[Qb6,osi]at hc;subst hc;exact wpIn_label ⟨L,h,hv,hf⟩
 |region id ops draw=>
  intro ac L h Q a w hc hv hf;simp only[Qb6]at hc;split at hc
  ·rename_i aos haos;split at hc
   ·rename_i hcond;cases hc;cases draw with
    |false=>
     refine wpIn_region ?_;rw[List.range_eq_range'];have:=Qsa (ro:=ro) (ops:=ops) (Q:=out N G0 ι0 h0 w0 Q) hm0 ops.toList aos 0 L h _ a w (by simp) haos hcond.1 (Qdp hΛ hv) hf (fun L' h' a' w' hk hf'=>⟨L',h',hk,hf'⟩);simpa using this
    |true=>
     have old:vcC P Λ m (Qld ops aos) L h Q->(Code.region id ops true).wpIn (Fen ro) 0 P (out N G0 ι0 h0 w0 Q) a w:=fun hv=>
      Qp1 (S:=fun ac L h Q=>vcC P Λ m ac L h Q) hm hm0 (fun _ _ _ _ _ h=>h) (fun _ _ _ _ _ h=>Qdp hΛ h) haos hcond.1 (hcond.2 rfl).1 (hcond.2 rfl).2 hf hv
     have hold:=old;simp only[QsJ]at hv;split at hv
     ·split at hv
      ·rename_i c hc;split at hv
       ·rename_i hcc;exact Qlz hΛ hm haos hcond.1 hcc hf hv
       ·exact hold hv
      ·exact hold hv
     ·exact hold hv
   ·split at hc
    ·rename_i hcond;cases hc;obtain⟨rfl,k1,k2,k3⟩:=hcond;have old:vcC P Λ m (Qja ops aos) L h Q->(Code.region id ops true).wpIn (Fen ro) 0 P (out N G0 ι0 h0 w0 Q) a w:=fun hv=>
      QoH (S:=fun ac L h Q=>vcC P Λ m ac L h Q) hm hm0 (fun _ _ _ _ _ h=>h) (fun _ _ _ _ _ h=>Qdp hΛ h) (fun _ _ _ _ _ _ h=>QuG hΛ h) haos k1 k2 k3 hf hv
     unfold QsI at hv;split at hv
     ·rename_i c hc;split at hv
      ·rename_i hcc;exact Qlz hΛ hm haos k1 hcc hf hv
      ·exact old hv
     ·exact old hv
    ·cases hc
  ·cases hc
 |seq x y ihx ihy=>
  intro ac L h Q a w hc hv hf;simp only[Qb6]at hc;split at hc
  ·rename_i cx' cy' hx hy;cases hc;refine wpIn_seq (wpIn_mono (ihx cx' L h _ a w hx hv hf) fun e a' w' ⟨L',h',hq,hf'⟩=> ?_);cases e with
   |normal=>exact ihy cy' L' h' Q a' w' hy hq hf'
   |exit i=>exact⟨L',h',hq,hf'⟩
   |ret=>exact⟨L',h',hq,hf'⟩
   |goto=>exact hq.elim
   |panic=>exact hq.elim
   |outgrown=>exact hq.elim
  ·cases hc
 |cond c x y ihx ihy=>
  intro ac L h Q a w hc hv hf;simp only[Qb6]at hc;split at hc
  ·rename_i c' cx' cy' hcc hx hy;cases hc;simp only[vcC]at hv;split at hv
   ·rename_i t ht;obtain⟨G,ι,st⟩:=hf;have hr:=Qae hcc st.rel;rw[QaG]at ht;rw[ht]at hr;have he:=QfS hr;cases t with
    |true=>exact wpIn_cond_true he (ihx cx' L h Q a w hx hv ⟨G,ι,st⟩)
    |false=>exact wpIn_cond_false he (ihy cy' L h Q a w hy hv ⟨G,ι,st⟩)
   ·exact hv.elim
  ·cases hc
 |block id c ih=>
  intro ac L h Q a w hc hv hf;simp only[Qb6]at hc;split at hc
  ·rename_i c' hcc;cases hc;refine wpIn_block (wpIn_mono (ih c' L h _ a w hcc hv hf) fun e a' w' ⟨L',h',hq,hf'⟩=> ?_);cases e with
   |normal=>exact⟨L',h',hq,hf'⟩
   |ret=>exact⟨L',h',hq,hf'⟩
   |exit i=>
    simp only[exq]at hq;simp only[Exit.inBlock];split at hq
    ·rename_i hb;have:i=id:=Nat.eq_of_beq_eq_true hb;rw[if_pos this];exact⟨L',h',hq,hf'⟩
    ·rename_i hb;have:¬i=id:=fun e=>by subst e;simp at hb
     rw[if_neg this];exact⟨L',h',hq,hf'⟩
   |goto=>exact hq.elim
   |panic=>exact hq.elim
   |outgrown=>exact hq.elim
  ·cases hc
 |loop c ih=>
  intro ac L h Q a w hc hv hf;simp only[Qb6]at hc;split at hc
  ·rename_i c' hcc;cases hc;simp only[vcC]at hv;obtain⟨I,n,L1,h1,hwk,hstart,hround⟩:=hv;refine Qnp (fun n a w=>∃L h,I n L h/\Fits N G0 ι0 h0 w0 (lkL L) h a w) ?_ n a w ⟨L1,h1,hstart,hwk.fits hm0 hf⟩;intro n a w ⟨L2,h2,hI,hf2⟩;refine wpIn_mono (ih c' L2 h2 _ a w hcc (hround n L2 h2 hI) hf2) fun e a' w' ⟨L',h',hq,hf'⟩=> ?_
   cases e with
   |normal=>
    obtain⟨n',L3,h3,h4,h5,h6⟩:=hq;exact⟨n',h4,L3,h3,h6,h5.fits hm0 hf'⟩
   |exit i=>
    obtain⟨L3,h3,h4,h5⟩:=hq;exact⟨L3,h3,h5,h4.fits hm0 hf'⟩
   |ret=>exact⟨L',h',hq,hf'⟩
   |goto=>exact hq.elim
   |panic=>exact hq.elim
   |outgrown=>exact hq.elim
  ·cases hc
 |scope c ih=>
  intro ac L h Q a w hc hv hf;simp only[Qb6]at hc;refine QgD (wpIn_mono (ih ac L h Q a w hc hv hf) fun e a' w' hq=> ?_);obtain⟨L',h',hq,hf'⟩:=hq;cases e with
  |normal=>exact⟨L',h',hq,hf'⟩
  |exit i=>exact⟨L',h',hq,hf'⟩
  |ret=>exact⟨L',h',hq,hf'⟩
  |goto=>exact hq.elim
  |panic=>exact hq.elim
  |outgrown=>exact hq.elim
 |exit id=>
  intro ac L h Q a w hc hv hf;simp only[Qb6,osi]at hc;subst hc;exact wpIn_exit ⟨L,h,hv,hf⟩
 |ret=>
  intro ac L h Q a w hc hv hf;simp only[Qb6,osi]at hc;subst hc;exact wpIn_ret ⟨L,h,hv,hf⟩
 |goto l=>intro ac L h Q a w hc;simp[Qb6]at hc
 |rangeFunc g ps x y _ _=>intro ac L h Q a w hc hv hf;exact hrf g ps x y ac L h Q a w hc hv hf
 |refuse=>intro ac L h Q a w hc;simp[Qb6]at hc
theorem QlM{Λ:Len}(hΛ:∀l,Λ l=(l.length:Int)){m:Nat}(hm:P.follows .mixedOrders=true)(hm0:h0.length<=m)(c:Code)(ac:AC)(L:Lv)(h:Hp)(Q:Post)(a:Act)(w:World)(hc:Qb6 P N false c=some ac)(hv:vcC P Λ m ac L h Q)(hf:Fits N G0 ι0 h0 w0 (lkL L) h a w):
  c.wpIn (Fen ro) 0 P (out N G0 ι0 h0 w0 Q) a w:=
 Qrq hΛ hm hm0 (fun g ps x y ac L h Q a w hc=>by simp[Qb6]at hc) c ac L h Q a w hc hv hf
end
section
variable{G:Nat->Prop}{ι:Io}{h:Hp}{w w':World}
theorem QhK(hs:∀b,G b\/owned ι h b->w'.heap[b]? =w.heap[b]?):∀l k,h[l]? =some k->∃k',h[l]? =some k'/\Kept ι ι w w' l k k':=fun l k hk=>
 ⟨k,hk,Kept.frame rfl fun b hb=>hs b (.inr ⟨l,k,hk,hb⟩)⟩
theorem HR.other(r:HR G ι h w)(hs:∀b,G b\/owned ι h b->w'.heap[b]? =w.heap[b]?)(hz:w.heap.size<=w'.heap.size):HR G ι h w' where
 len:=r.len
 own:=r.own
 g b hb:=⟨by have:=(r.g b hb).1;omega,(r.g b hb).2⟩
 blk l k hk:=BR.carry (fun b hb=>⟨hb,hs b (.inl hb)⟩) (QhK hs) (r.blk l k hk) rfl fun b hb=>hs b (.inr ⟨l,k,hk,hb⟩)
theorem VR.other{v:Value}{x:AV}(hx:VR G w ι h v x)(hs:∀b,G b\/owned ι h b->w'.heap[b]? =w.heap[b]?):VR G w' ι h v x:=
 hx.mono (fun b hb=>⟨hb,hs b (.inl hb)⟩) (QhK hs)
theorem Ext.other{G0:Nat->Prop}{ι0:Io}{h0:Hp}{w0:World}(e:Ext G0 ι0 h0 w0 G ι h w)(hs:∀b,G b\/owned ι h b->w'.heap[b]? =w.heap[b]?)(hz:w.heap.size<=w'.heap.size)(hq:Quiet w w')(hlo:∀b,b<w0.heap.size->w'.heap[b]? =w.heap[b]?):Ext G0 ι0 h0 w0 G ι h w' where
 size:=Nat.le_trans e.size hz
 quiet:=⟨hq.1.trans e.quiet.1,hq.2.1.trans e.quiet.2.1,hq.2.2.1.trans e.quiet.2.2.1,Nat.le_trans e.quiet.2.2.2 hq.2.2.2⟩
 frame b hb ho:=(hlo b hb).trans (e.frame b hb ho)
 gmono:=e.gmono
 gnew:=e.gnew
 onew:=e.onew
 keep l k hk:=by
  obtain⟨k',h1,h2⟩:=e.keep l k hk;obtain⟨k2,h3,h4⟩:=QhK hs l k' h1;rw[h1]at h3;cases h3;exact⟨k',h1,h2.trans h4⟩
end
theorem QeW(w:World)(b:Nat)(o:Obj):(w.putObj b o).heap.size=w.heap.size:=by simp[World.putObj]
theorem QdR(w:World)(b:Nat)(o:Obj):Quiet w (w.putObj b o):=⟨rfl,rfl,rfl,Nat.le_refl _⟩
section
variable{P:Program}{N:Nat}{G0:Nat->Prop}{ι0:Io}{h0:Hp}{w0:World}
theorem Qj8{fn:Func}{R:Ending->World->Prop}{G:Nat->Prop}{ι:Io}{e:Env}{h:Hp}:∀(bs:List Nat) (a:Act) (w:World),bs.Nodup->(∀b∈bs,Mrk w0 G ι h w b)->Rel N G ι e h a w->Ext G0 ι0 h0 w0 G ι h w->
  (∀w2,Rel N G ι e h a w2->Ext G0 ι0 h0 w0 G ι h w2->∃v,(results fn a.tmps).run P w2= .ok v w2/\R (.returned v) w2)->LeavesInM Fence.wide 0 P fn a.tmps R (bs.map mkD) .returning w
 |[],a,w,_,_,hr,hx,hk=>hk w hr hx
 |b::bs,a,w,hn,hm,hr,hx,hk=>by
  obtain⟨h1,h2,h3,h4⟩:=hm b (by simp);rw[List.nodup_cons]at hn;have hs:∀c,G c\/owned ι h c->(w.putObj b (.deferred none)).heap[c]? =w.heap[c]? :=fun c hc=>World.putObj_heap_other fun e=>by
   subst e;exact hc.elim h3 h4
  have hz:w.heap.size<=(w.putObj b (.deferred none)).heap.size:=by rw[QeW];exact Nat.le_refl _
  refine⟨by simp,.inl ⟨b,_,rfl,run_takeDeferred h2,?_⟩⟩;refine Qj8 bs a _ hn.2 (fun c hc=> ?_) ⟨hr.hr.other hs hz,hr.size,fun i=>(hr.env i).other hs⟩ (hx.other hs hz (QdR _ _ _) fun c hc=>World.putObj_heap_other (by omega)) hk;obtain⟨k1,k2,k3,k4⟩:=hm c (by simp[hc]);have hne:b≠c:=fun e=>hn.1 (by rw[e];exact hc)
  exact⟨k1,(World.putObj_heap_other (by omega)).trans k2,k3,k4⟩
theorem Qdq{f:FuncId}{fn:Func}{c:Code}{args:Array Value}{w:World}{R:Ending->World->Prop}(hf:P.funcs[f]? =some fn)(hb:fn.body=some c)
 (h:c.wpIn (Fen none) 0 P (fun x a w'=>match x with
   | .normal=>LeavesInM Fence.wide 0 P fn a.tmps R a.defers .returning w'
   | .ret=>LeavesInM Fence.wide 0 P fn a.tmps R a.defers .returning w'
   |_=>False) {tmps:=args++Array.replicate (fn.ntmps-args.size) undef,defers:=[]} w):Calls P f args w R:=by
 refine(callsIn_wide (n:=0)).1 (callsIn_of_wp_marks hf hb trivial (wpIn_mono h fun x a w' hx=> ?_) rfl);cases x with
 |normal=>exact hx
 |ret=>exact hx
 |_=>exact hx.elim
theorem QfP{fn:Func}{R:Ending->World->Prop}{e:Env}{h:Hp}{a:Act}{w:World}(hf:Fits N G0 ι0 h0 w0 e h a w)
 (hk:∀G ι w2,Rel N G ι e h a w2->Ext G0 ι0 h0 w0 G ι h w2->∃v,(results fn a.tmps).run P w2= .ok v w2/\R (.returned v) w2):LeavesInM Fence.wide 0 P fn a.tmps R a.defers .returning w:=by
 obtain⟨G,ι,st⟩:=hf;obtain⟨bs,e,hn,hm⟩:=st.dfr;rw[e];exact Qj8 bs a w hn hm st.rel st.ext (hk G ι)
end
theorem Qlw:∀(L:Lv) (i:Nat),lkL (Qig L) i=match QbM (lkL L i)with
  |true=>lkL L i
  |false=> .c .u
 |[],i=>rfl
 |(j,v)::r,i=>by
  simp only[Qig,lkL,upd];split
  ·rfl
  ·exact Qlw r i
def Qra(st:LoopState)(fn:FuncId)(tmps:Array Value)(p:Nat)(asn body:Code)(b:Nat):Obj:= .loop {state:=st,pending:=none,fn:=fn,tmps:=tmps,params:= #[p],assign:=asn,body:=body,defers:=b}
def Qzm(N p:Nat)(asn body:Code)(L:Lv)(st:LoopState)(G:Nat->Prop)(w:World)(o:Obj):Prop:=
 ∃fn tmps b,o=Qra st fn tmps p asn body b/\tmps.size=N/\∀i,VR G w [] [] (tmps.getD i undef) (lkL (Qig L) i)
theorem Qzm.mono{N p:Nat}{asn body:Code}{L:Lv}{st:LoopState}(G G':Nat->Prop)(w w':World)(o:Obj)(hg:∀b,G b->G' b/\w'.heap[b]? =w.heap[b]?)(h:Qzm N p asn body L st G w o):Qzm N p asn body L st G' w' o:=by
 obtain⟨fn,tmps,b,h1,h2,h3⟩:=h;exact⟨fn,tmps,b,h1,h2,fun i=>(h3 i).mono hg fun l k hk=>by simp at hk⟩
def Qns(N p:Nat)(asn body:Code)(L:Lv)(st:LoopState):AB:= .op (Qzm N p asn body L st) Qzm.mono
section
variable{G:Nat->Prop}{ι:Io}{w:World}{m:Ar}{rest:Hp}{N p:Nat}{asn body:Code}{L:Lv}
theorem QpY{st st':LoopState}{l:Nat}(r:HR G ι (.am m::rest) w)(hl:m l=some (Qns N p asn body L st)):∃fn tmps b,w.heap[l]? =some (Qra st fn tmps p asn body b)/\tmps.size=N/\(∀i,VR G w [] [] (tmps.getD i undef) (lkL (Qig L) i))/\
  HR G ι (.am (mup m l (Qns N p asn body L st'))::rest) (w.putObj l (Qra st' fn tmps p asn body b))/\Ext G ι (.am m::rest) w G ι (.am (mup m l (Qns N p asn body L st'))::rest) (w.putObj l (Qra st' fn tmps p asn body b)):=by
 obtain⟨o,ho,fn,tmps,b,rfl,hsz,henv⟩:=r.blk 0 _ rfl l _ hl;have hlt:l<w.heap.size:=(Array.getElem?_eq_some_iff.1 ho).1;have hng:¬G l:=fun hg=>(r.g l hg).2 (Qcf (h:= .am m::rest) rfl hl)
 have hoth:∀c,c≠l->(w.putObj l (Qra st' fn tmps p asn body b)).heap[c]? =w.heap[c]? :=fun c hc=>World.putObj_heap_other (by omega)
 have hab:ABR G (w.putObj l (Qra st' fn tmps p asn body b)) l (Qns N p asn body L st'):=
  ⟨_,World.putObj_heap_same hlt,fn,tmps,b,rfl,hsz,fun i=>(henv i).mono (fun c hc=>⟨hc,hoth c fun e=>hng (e▸hc)⟩) fun _ _ hk=>by simp at hk⟩
 obtain⟨q1,q2⟩:=HR.am_set (x:=Qns N p asn body L st') r rfl hl (QeW _ _ _) hoth hab (QdR _ _ _);exact⟨fn,tmps,b,ho,hsz,henv,q1,q2⟩
theorem QpW{l b:Nat}(r:HR G ι (.am m::rest) w)(hl:∃x,m l=some x)(ho:owned ι (.am (mdel m l)::rest) b):owned ι (.am m::rest) b/\b≠l:=by
 obtain⟨i,k,h1,h2⟩:=ho;cases i with
 |zero=>
  simp only[List.getElem?_cons_zero,osi]at h1;subst h1;obtain⟨x,hx⟩:=h2;by_cases e:b=l
  ·rw[e,QhN]at hx;cases hx
  ·rw[QbR e]at hx;exact⟨⟨0,_,rfl,x,hx⟩,e⟩
 |succ i=>
  refine⟨⟨i+1,k,h1,h2⟩,fun e=> ?_⟩;subst e;have:=r.own 0 (i+1) b _ k rfl h1 hl h2;cases this
theorem HR.am_drop{l:Nat}(r:HR G ι (.am m::rest) w)(hl:∃x,m l=some x):HR G ι (.am (mdel m l)::rest) w/\Ext G ι (.am m::rest) w G ι (.am (mdel m l)::rest) w:=by
 have hk:∀i k,(Blk.am m::rest)[i]? =some k->∃k',(Blk.am (mdel m l)::rest)[i]? =some k'/\Kept ι ι w w i k k':=fun i k hk=>by
  cases i with
  |zero=>
   simp only[List.getElem?_cons_zero,osi]at hk;subst hk;exact⟨_,rfl,trivial⟩
  |succ i=>exact⟨k,hk,Kept.refl ι w _ k⟩
 have hsub:∀i k b,(Blk.am (mdel m l)::rest)[i]? =some k->Qck ι i k b->∃k',(Blk.am m::rest)[i]? =some k'/\Qck ι i k' b:=fun i k b h1 h2=>by
  cases i with
  |zero=>
   simp only[List.getElem?_cons_zero,osi]at h1;subst h1;obtain⟨x,hx⟩:=h2;by_cases e:b=l
   ·rw[e,QhN]at hx;cases hx
   ·rw[QbR e]at hx;exact⟨_,rfl,x,hx⟩
  |succ i=>exact⟨k,h1,h2⟩
 refine⟨{len:=r.len,own:=fun i j b k k' h1 h2 h3 h4=> ?_,g:=fun b hb=>⟨(r.g b hb).1,fun ho=>(r.g b hb).2 (QpW r hl ho).1⟩,blk:=fun i k h1=> ?_},{size:=Nat.le_refl _,quiet:=⟨rfl,rfl,rfl,Nat.le_refl _⟩,frame:=fun _ _ _=>rfl,gmono:=fun _ h=>h,gnew:=fun _ h=> .inl h,onew:=fun b ho=> .inl (QpW r hl ho).1,keep:=hk}⟩
 ·obtain⟨k1,a1,a2⟩:=hsub i k b h1 h3;obtain⟨k2,b1,b2⟩:=hsub j k' b h2 h4;exact r.own i j b k1 k2 a1 b1 a2 b2
 ·cases i with
  |zero=>
   simp only[List.getElem?_cons_zero,osi]at h1;subst h1;intro b x hx;by_cases e:b=l
   ·rw[e,QhN]at hx;cases hx
   ·rw[QbR e]at hx;exact r.blk 0 _ rfl b x hx
  |succ i=>exact BR.carry (fun _ hb=>⟨hb,rfl⟩) hk (r.blk (i+1) k h1) rfl fun _ _=>rfl
end
section
variable{P:Program}{N:Nat}{G0:Nat->Prop}{ι0:Io}{h0:Hp}{w0:World}
theorem QsA{Λ:Len}(hΛ:∀l,Λ l=(l.length:Int))(hm:P.follows .mixedOrders=true){l p:Nat}{asn body:Code}{ca cb:AC}(hno:NoFn P l)(hp:p<N)(hca:Qb6 P N false asn=some ca)(hcb:Qb6 P N false body=some cb){L:Lv}{m':Ar}{r:AV}{K:Ar->Prop}
   (hl:m' l=some (Qns N p asn body L .ready))
   (hv:vcC P Λ 1 ca (QdE (Qig L) (some p) r) [.am m'] fun x L2 h2=>match x with
          | .normal=>∃m2 tl,h2= .am m2::tl/\m2 l=some (Qns N p asn body L .ready)/\vcC P Λ 1 cb L2 (.am (mup m2 l (Qns N p asn body L .busy))::tl) fun x _ h3=>match x with
            | .normal=>∃m3 tl3,h3= .am m3::tl3/\m3 l=some (Qns N p asn body L .busy)/\K (mup m3 l (Qns N p asn body L .ready))
            |_=>False
          |_=>False):
    FnS P (8589934592+l) [r] [.am m'] fun q h'=>q= .c (.d (.bool true))/\∃m3 tl,h'= .am m3::tl/\K m3:=by
  refine⟨fun G ι w vs hr0 hvs=> .inr ⟨l,rfl,hno.no,?_⟩⟩;obtain⟨v,rfl⟩:∃v,vs=[v]:=by
    have:=hvs.1
    match vs,this with
    |[x],_=>exact⟨x,rfl⟩
  have hvr:VR G w ι [.am m'] v r:=hvs.2 0 _ _ rfl rfl;obtain⟨fn,tmps,D,ho,hsz,henv,-,-⟩:=QpY (st':= .ready) hr0 hl;refine⟨fn,tmps.setIfInBounds p v,asn,body,?_,roundIn_of_wpIn trivial ?_⟩
  · have:=run_yield (P:=P) (args:= #[v]) ho rfl
    simpa [Qra]using this
  have hfit:Fits N G ι [.am m'] w (lkL (QdE (Qig L) (some p) r)) [.am m'] {tmps:=tmps.setIfInBounds p v,defers:=[]} w:=by
    refine⟨G,ι,⟨hr0,by simp[hsz],fun i=> ?_⟩,Ext.refl _ _ _ _,Marks.nil _ _ _ _ _⟩;rw[QaQ];simp only[Qcm,lk,upd];split
    · rename_i e
      subst e;rw[Array.getD_eq_getD_getElem?,Array.getElem?_setIfInBounds_self_of_lt (by omega)];exact hvr
    · rename_i e
      rw[Array.getD_eq_getD_getElem?,Array.getElem?_setIfInBounds_ne (fun h=>e h),←Array.getD_eq_getD_getElem?];exact(henv i).mono (fun _ hb=>⟨hb,rfl⟩) fun _ _ hk=>by simp at hk
  refine wpIn_mono (QlM (ro:=some l) hΛ (m:=1) hm (by simp) asn ca _ _ _ _ w hca hv hfit) fun x a1 w1 ⟨L2,h2,hq,hf2⟩=> ?_
  cases x with
  |normal=>
    obtain⟨m2,tl,rfl,hm2,hvb⟩:=hq;obtain⟨G2,ι2,st2⟩:=hf2;obtain⟨fn2,tmps2,D2,ho2,hsz2,henv2,q1,q2⟩:=QpY (st':= .busy) st2.rel.hr hm2;refine⟨_,run_beginRound ho2 rfl,?_⟩;have hfit2:Fits N G ι [.am m'] w (lkL L2) (.am (mup m2 l (Qns N p asn body L .busy))::tl) a1 (w1.putObj l (Qra .busy fn2 tmps2 p asn body D2)):=
      ⟨G2,ι2,⟨q1,st2.rel.size,fun i=>(st2.rel.env i).ext q2 st2.rel.hr⟩,st2.ext.trans q2,st2.dfr.ext q2⟩
    refine wpIn_mono (QlM (ro:=some l) hΛ (m:=1) hm (by simp) body cb _ _ _ _ _ hcb hvb hfit2) fun x a3 w3 ⟨L3,h3,hq,hf3⟩=> ?_
    cases x with
    |normal=>
      obtain⟨m3,tl3,rfl,hm3,hK⟩:=hq;obtain⟨G3,ι3,st3⟩:=hf3;obtain⟨fn3,tmps3,D3,ho3,hsz3,henv3,q3,q4⟩:=QpY (st':= .ready) st3.rel.hr hm3;exact⟨_,_,run_endRound none ho3,.bool true,.c (.d (.bool true)),G3,ι3,.am (mup m3 l (Qns N p asn body L .ready))::tl3,rfl,⟨rfl,_,_,rfl,hK⟩,q3,.c _ _ (.d _ _ (.bool true)),st3.ext.trans q4⟩
    |ret=>exact hq.elim
    |exit i=>exact hq.elim
    |goto=>exact hq.elim
    |panic=>exact hq.elim
    |outgrown=>exact hq.elim
  |ret=>exact hq.elim
  |exit i=>exact hq.elim
  |goto=>exact hq.elim
  |panic=>exact hq.elim
  |outgrown=>exact hq.elim
theorem Qt8{Λ:Len}(hΛ:∀l,Λ l=(l.length:Int)){m:Nat}(hm:P.follows .mixedOrders=true)(g:Operand)(ps:Array Tmp)(x y:Code)(ac:AC)(L:Lv)(h:Hp)(Q:Post)(a:Act)(w:World)(hc:Qb6 P N true (.rangeFunc g ps x y)=some ac)(hv:vcC P Λ m ac L h Q)(hf:Fits N G0 ι0 h0 w0 (lkL L) h a w):
  (Code.rangeFunc g ps x y).wpIn (Fen none) 0 P (out N G0 ι0 h0 w0 Q) a w:=by
 simp only[Qb6]at hc;split at hc
 ·rename_i t p ca cb hrf hg hps hca hcb;split at hc
  ·rename_i hp;cases hc;simp only[vcC]at hv;obtain⟨m,rest,gf,caps,rfl,hx,hlt,hfok,hno,hout⟩:=hv.out;obtain⟨G,ι,st⟩:=hf;have hps':ps= #[p]:=by apply Array.ext';simpa using hps
   subst hps';rw[QaG]at hx;have hgv:=Qae hg st.rel;rw[hx]at hgv;obtain⟨vs,hev,hn,hcr⟩:=QwY hgv;rw[Qh3 hlt]at hev;simp only at hev;obtain⟨fd,hfd,hfb,hfn⟩:=hfok.ok;refine wpIn_rangeFunc fun fn _=> ?_
   have hdlt:∀b,G b\/owned ι (.am m::rest) b->b<w.heap.size:=fun b hb=>hb.elim (fun h=>(st.rel.hr.g b h).1) fun h=>QaI st.rel.hr h
   have hsD:∀b,G b\/owned ι (.am m::rest) b->(push w (.deferred (some []))).heap[b]? =w.heap[b]? :=fun b hb=>Qa3 w _ (hdlt b hb)
   have hzD:(push w (.deferred (some []))).heap.size=w.heap.size+1:=by simp[push]
   have rD:=st.rel.hr.other hsD (by omega);have eD:=Ext.push_other st.rel.hr (.deferred (some []));have hab:ABR G (push (push w (.deferred (some []))) (Qra .ready fn a.tmps p x y w.heap.size)) (push w (.deferred (some []))).heap.size (Qns N p x y L .ready):=by
    refine⟨_,QbI _ _,fn,a.tmps,w.heap.size,rfl,st.rel.size,fun i=> ?_⟩;rw[Qlw];split
    ·rename_i hpu;exact QfW hpu (fun b hb=>⟨hb,(Qa3 _ _ (by have:=hdlt b (.inl hb);omega)).trans (hsD b (.inl hb))⟩) (st.rel.env i)
    ·exact .c _ _ (.u _)
   obtain⟨k0,k1,k2⟩:=HR.am_new rD (h:= .am m::rest) rfl _ hab;rw[hzD]at k0 k1 k2;have e1:=eD.trans k2;have hW:(w.alloc (.deferred (some []))).alloc (Qra .ready fn a.tmps p x y w.heap.size)=push (push w (.deferred (some []))) (Qra .ready fn a.tmps p x y w.heap.size):=rfl;generalize hW1:push (push w (.deferred (some []))) (Qra .ready fn a.tmps p x y w.heap.size)=W1 at*;have hD1:W1.heap[w.heap.size]? =some (.deferred (some [])):=by
    rw[←hW1,Qa3 _ _ (by omega)];exact QbI w _
   have hL1:W1.heap[w.heap.size+1]? =some (Qra .ready fn a.tmps p x y w.heap.size):=by
    rw[←hW1,←hzD];exact QbI _ _
   have hown1:∀b,owned ι (.am (mup m (w.heap.size+1) (Qns N p x y L .ready))::rest) b->owned ι (.am m::rest) b\/b=w.heap.size+1:=by
    rintro b ⟨i,k,h1,h2⟩;cases i with
    |zero=>
     simp only[List.getElem?_cons_zero,osi]at h1;subst h1;obtain⟨z,hz⟩:=h2;by_cases e:b=w.heap.size+1
     ·exact .inr e
     ·rw[Qaq e]at hz;exact .inl ⟨0,_,rfl,z,hz⟩
    |succ i=>exact .inl ⟨i+1,k,h1,h2⟩
   have hfs:=hout (w.heap.size+1) (Qns N p x y L .ready) (Qns N p x y L .busy) k0 fun m' r K h1 _ h3=>QsA hΛ hm (hno _) hp hca hcb h1 h3
   have hvs1:VRs G W1 ι (.am (mup m (w.heap.size+1) (Qns N p x y L .ready))::rest) (.func (.yield (w.heap.size+1)) #[] #[]::vs.toList) (.c (.d (.yl (w.heap.size+1)))::caps.map .c):=by
    refine⟨by simp[hn],fun i v z h1 h2=> ?_⟩;cases i with
    |zero=>simp at h1 h2;subst h1 h2;exact .c _ _ (.d _ _ (.yl _))
    |succ i=>
     simp only[List.getElem?_cons_succ,gtm,omi]at h1 h2;obtain⟨c,hc,rfl⟩:=h2;exact(VR.c _ _ (hcr i v c (by simpa using h1) hc)).ext e1 st.rel.hr
   have hcall:=(hfs.out G ι W1 _ k1 hvs1).calls hfd;refine⟨w.heap.size+1,[mkD w.heap.size],W1,{target:= .fn (.func gf) vs,args:= #[.func (.yield (w.heap.size+1)) #[] #[]]},W1,gf,#[.func (.yield (w.heap.size+1)) #[] #[]]++vs,W1,?_,?_,fun f _=>Fen.fn none f,?_,Fen.depth none 0,?_⟩
   ·rw[←hW];exact run_enterLoop_outer _ _ _ _ _
   ·simp only[resolve,hev,Deferred.ofValue,Sem.run_pure];simp[Act.eval]
   ·simp only[invoke];exact QcY hfd hfb hfn
   ·have harr:(#[Value.func (.yield (w.heap.size+1)) #[] #[]]++vs)=(Value.func (.yield (w.heap.size+1)) #[] #[]::vs.toList).toArray:=by apply Array.ext';simp
    rw[harr];refine Fen.calls (hcall.mono fun e w3 ⟨v,r,G3,ι3,h3,he,hRR,hr3,_,hx3⟩=> ?_) none _;obtain⟨m3,rest3,rfl,hm3,hQ⟩:=hRR;subst he;obtain⟨o3,ho3,fn3,tmps3,D3,rfl,-,-⟩:=hr3.blk 0 _ rfl _ _ hm3;refine⟨none,_,run_endLoop ho3 (by simp),L,.am (mdel m3 (w.heap.size+1))::rest3,hQ,?_⟩;obtain⟨j1,j2⟩:=hr3.am_drop ⟨_,hm3⟩;have hngl:¬G3 (w.heap.size+1):=fun hg=>(hr3.g _ hg).2 (Qcf (h:= .am m3::rest3) rfl hm3)
    have hno4:∀b,G3 b\/owned ι3 (.am (mdel m3 (w.heap.size+1))::rest3) b->b≠w.heap.size+1:=fun b hb e=>by
     subst e;exact hb.elim hngl fun ho=>(QpW hr3 ⟨_,hm3⟩ ho).2 rfl
    have hs4:∀(o:Obj) b,G3 b\/owned ι3 (.am (mdel m3 (w.heap.size+1))::rest3) b->(w3.putObj (w.heap.size+1) o).heap[b]? =w3.heap[b]? :=fun o b hb=>World.putObj_heap_other (by have:=hno4 b hb;omega)
    have hz4:∀(o:Obj),w3.heap.size<=(w3.putObj (w.heap.size+1) o).heap.size:=fun o=>by rw[QeW];exact Nat.le_refl _
    have hmk:Marks w0 G ι (.am (mup m (w.heap.size+1) (Qns N p x y L .ready))::rest) (mkD w.heap.size::a.defers) W1:=by
     obtain⟨bs,e,hnd,hb⟩:=st.dfr.ext e1;obtain⟨bs0,e0,_,hb0⟩:=st.dfr;have hbb:bs=bs0:=by
      have h1:=e.symm.trans e0;have inj:∀l l':List Nat,l.map mkD=l'.map mkD->l=l':=by
       intro l;induction l with
       |nil=>intro l' h;cases l' with|nil=>rfl|cons=>simp at h
       |cons z l ih=>
        intro l' h;cases l' with
        |nil=>simp at h
        |cons z' l'=>
         simp only[List.map_cons,List.cons.injEq]at h;have:z=z':=by have:=h.1;simpa [mkD]using this
         rw[this,ih l' h.2]
      exact inj _ _ h1
     subst hbb;refine⟨w.heap.size::bs,by rw[e];rfl,?_,fun b hbm=> ?_⟩
     ·rw[List.nodup_cons];refine⟨fun hmem=> ?_,hnd⟩;have:=(Array.getElem?_eq_some_iff.1 (hb0 _ hmem).at_).1;omega
     ·rcases List.mem_cons.1 hbm with rfl|hbm
      ·refine⟨st.ext.size,hD1,fun hg=>by have:=(st.rel.hr.g _ hg).1;omega,fun ho=> ?_⟩;rcases hown1 _ ho with h|h
       ·have:=QaI st.rel.hr h;omega
       ·omega
      ·exact hb b hbm
    have hmk3:=(hmk.ext hx3).ext j2;have hx4:=((st.ext.trans e1).trans hx3).trans j2;refine⟨G3,ι3,⟨j1.other (hs4 _) (hz4 _),st.rel.size,fun i=>((((st.rel.env i).ext e1 st.rel.hr).ext hx3 k1).ext j2 hr3).other (hs4 _)⟩,hx4.other (hs4 _) (hz4 _) (QdR _ _ _) fun b hb=>World.putObj_heap_other (by have:=st.ext.size;omega),?_⟩;obtain⟨bs,e,hnd,hb⟩:=hmk3;refine⟨bs,e,hnd,fun b hbm=> ?_⟩;obtain⟨q1,q2,q3,q4⟩:=hb b hbm;have hbl:b≠w.heap.size+1:=fun e=>by
     rw[e,ho3]at q2;simp[Qra]at q2
    exact⟨q1,(World.putObj_heap_other (by omega)).trans q2,q3,q4⟩
  ·cases hc
 ·cases hc
theorem QfL{Λ:Len}(hΛ:∀l,Λ l=(l.length:Int)){m:Nat}(hm:P.follows .mixedOrders=true)(hm0:h0.length<=m)(c:Code)(ac:AC)(L:Lv)(h:Hp)(Q:Post)(a:Act)(w:World)(hc:Qgv P N c=some ac)(hv:vcC P Λ m ac L h Q)(hf:Fits N G0 ι0 h0 w0 (lkL L) h a w):
  c.wpIn (Fen none) 0 P (out N G0 ι0 h0 w0 Q) a w:=
 Qrq hΛ hm hm0 (fun g ps x y ac L h Q a w h1 h2 h3=>Qt8 hΛ hm g ps x y ac L h Q a w h1 h2 h3) c ac L h Q a w hc hv hf
end
structure AF where
 nt:Nat
 res:List (Nat×Option (Option Nat))
 body:AC
def QsE(P:Program):List ResultVar->Option (List (Nat×Option (Option Nat)))
 |[]=>some []
 | .tmp t::r=>match QsE P r with
  |some l=>some ((t,none)::l)
  |none=>none
 | .cell t ty::r=>match ldk P ty,QsE P r with
  |some k,some l=>some ((t,some k)::l)
  |_,_=>none
def QaA(P:Program)(fn:Func):Option AF:=
 match fn.body with
 |some c=>match Qgv P fn.ntmps c,QsE P fn.results.toList with
  |some ac,some r=>some ⟨fn.ntmps,r,ac⟩
  |_,_=>none
 |none=>none
def Qsb(e:Env)(h:Hp):List (Nat×Option (Option Nat))->Option (List AV)
 |[]=>some []
 |(s,k)::r=>match Qsb e h r with
  |some l=>(match k with
   |none=>some (e s::l)
   |some none=>match rd h (e s)with
    |some (c::_)=>some (.c c::l)
    |_=>none
   |some (some n)=>match rd h (e s)with
    |some cs=>if n<=cs.length then some (.agg (cs.take n)::l)else none
    |none=>none)
  |none=>none
def pack:List AV->AV
 |[x]=>x
 |l=> .tup l
def QwV(h:Hp):CV->Option (CV×Hp)
 | .d x=>some (.d (fgD x),h)
 | .cl _ sz l=>some (.d (.list false sz l),h)
 | .arr l v i n=>match h[l]? with
  |some (.da _ v' sz es)=>(match Nat.beq v' v with
   |true=>some (.d (.list false sz ((es.drop i).take n)),h.set l .dead)
   |false=>none)
  |_=>none
 | .u=>some (.u,h)
 | .rp cs=>some (.rp cs,h)
 | .fn b f []=>some (.fn b f [],h)
 | .ptr l _ i j=>match Nat.beq (i+j) 0,h[l]? with
  |true,some (.bx cs)=>(match frzs h cs with
   |some (ds,h2)=>some (.rp ds,h2.set l .dead)
   |none=>none)
  |_,_=>none
 |_=>none
def QpC(h:Hp):List CV->Option (List CV×Hp)
 |[]=>some ([],h)
 |x::r=>match QwV h x with
  |some (y,h1)=>(match QpC h1 r with
   |some (l,h2)=>some (y::l,h2)
   |none=>none)
  |none=>none
def Qog(h:Hp):AV->Option (AV×Hp)
 | .c x=>match QwV h x with
  |some (y,h1)=>some (.c y,h1)
  |none=>none
 | .agg l=>match QpC h l with
  |some (y,h1)=>some (.agg y,h1)
  |none=>none
 | .tup _=>none
def QpB(h:Hp):List AV->Option (List AV×Hp)
 |[]=>some ([],h)
 |x::r=>match Qog h x with
  |some (y,h1)=>(match QpB h1 r with
   |some (l,h2)=>some (y::l,h2)
   |none=>none)
  |none=>none
def Qy6(h:Hp)(x:CV)(K:D->Hp->Prop):Prop:=
 match x with
 | .d x=>K (fgD x) h
 | .arr l v i n=>match h[l]? with
  |some (.da _ v' sz es)=>(Unit->v'=v)/\∀ls,ls=(es.drop i).take n->K (.list false sz ls) (h.set l .dead)
  |_=>False
 | .rp cs=>K (.rp cs) h
 | .mp l=>match h[l]? with
  |some (.mp _ es)=>∃ds,QyW es=some ds/\K (.mpf ds) (h.set l .dead)
  |_=>False
 |_=>False
def QuB(h:Hp):List CV->(List D->Hp->Prop)->Prop
 |[],K=>K [] h
 |x::r,K=>Qy6 h x fun d h1=>QuB h1 r fun l h2=>K (d::l) h2
theorem Qqg{h:Hp}{x:CV}{K:D->Hp->Prop}(hv:Qy6 h x K):∃y h1,frz h x=some (y,h1)/\K y h1:=by
 unfold Qy6 at hv;split at hv
 ·exact⟨_,_,rfl,hv⟩
 ·split at hv
  ·rename_i hes;have hb:=hv.1 ();subst hb;exact⟨_,_,by simp[frz,hes],hv.2 _ rfl⟩
  ·exact hv.elim
 ·exact⟨_,_,rfl,hv⟩
 ·split at hv
  ·rename_i hes;obtain⟨ds,hd,hv⟩:=hv;exact⟨_,_,by simp[frz,hes,hd],hv⟩
  ·exact hv.elim
 ·exact hv.elim
theorem QoW:∀{l:List CV} {h:Hp} {K:List D->Hp->Prop},QuB h l K->∃y h1,frzs h l=some (y,h1)/\K y h1:=by
 intro l;induction l with
 |nil=>intro h K hv;exact⟨_,_,rfl,hv⟩
 |cons x r ih=>
  intro h K hv;obtain⟨y,h1,e1,hv⟩:=Qqg hv;obtain⟨z,h2,e2,hv⟩:=ih hv;exact⟨_,_,by simp only[frzs,e1,e2],hv⟩
def QwC(h:Hp)(x:CV)(K:CV->Hp->Prop):Prop:=
 match x with
 | .d x=>K (.d (fgD x)) h
 | .arr l v i n=>match h[l]? with
  |some (.da _ v' sz es)=>(Unit->v'=v)/\∀ls,ls=(es.drop i).take n->K (.d (.list false sz ls)) (h.set l .dead)
  |_=>False
 | .ptr l _ i j=>match Nat.beq (i+j) 0,h[l]? with
  |true,some (.bx cs)=>QuB h cs fun ds h2=>K (.rp ds) (h2.set l .dead)
  |_,_=>False
 |x=>match QwV h x with
  |some (y,h1)=>K y h1
  |none=>False
def QuA(h:Hp):List CV->(List CV->Hp->Prop)->Prop
 |[],K=>K [] h
 |x::r,K=>QwC h x fun y h1=>QuA h1 r fun l h2=>K (y::l) h2
def Quz(h:Hp)(x:AV)(K:AV->Hp->Prop):Prop:=
 match x with
 | .c x=>QwC h x fun y h1=>K (.c y) h1
 | .agg l=>QuA h l fun y h1=>K (.agg y) h1
 | .tup _=>False
def Qrp(h:Hp):List AV->(List AV->Hp->Prop)->Prop
 |[],K=>K [] h
 |x::r,K=>Quz h x fun y h1=>Qrp h1 r fun l h2=>K (y::l) h2
theorem QkA{h:Hp}{x:CV}{K:CV->Hp->Prop}(hv:QwC h x K):∃y h1,QwV h x=some (y,h1)/\K y h1:=by
 unfold QwC at hv;split at hv
 ·exact⟨_,_,rfl,hv⟩
 ·split at hv
  ·rename_i hes;have hb:=hv.1 ();subst hb;exact⟨_,_,by simp only[QwV,hes,Nat.beq_refl],hv.2 _ rfl⟩
  ·exact hv.elim
 ·split at hv
  ·rename_i cs hb hes;obtain⟨ds,h2,e,hk⟩:=QoW hv;exact⟨_,_,by simp only[QwV,hb,hes,e],hk⟩
  ·exact hv.elim
 ·split at hv
  ·rename_i y h1 hy;exact⟨y,h1,hy,hv⟩
  ·exact hv.elim
theorem QoV:∀{l:List CV} {h:Hp} {K:List CV->Hp->Prop},QuA h l K->∃y h1,QpC h l=some (y,h1)/\K y h1:=by
 intro l;induction l with
 |nil=>intro h K hv;exact⟨_,_,rfl,hv⟩
 |cons x r ih=>
  intro h K hv;obtain⟨y,h1,e1,hv⟩:=QkA hv;obtain⟨z,h2,e2,hv⟩:=ih hv;exact⟨_,_,by simp only[QpC,e1,e2],hv⟩
theorem QoU{h:Hp}{x:AV}{K:AV->Hp->Prop}(hv:Quz h x K):∃y h1,Qog h x=some (y,h1)/\K y h1:=by
 unfold Quz at hv;split at hv
 ·obtain⟨y,h1,e1,hv⟩:=QkA hv;exact⟨_,_,by simp only[Qog,e1],hv⟩
 ·obtain⟨y,h1,e1,hv⟩:=QoV hv;exact⟨_,_,by simp only[Qog,e1],hv⟩
 ·exact hv.elim
theorem QiA:∀{l:List AV} {h:Hp} {K:List AV->Hp->Prop},Qrp h l K->∃y h1,QpB h l=some (y,h1)/\K y h1:=by
 intro l;induction l with
 |nil=>intro h K hv;exact⟨_,_,rfl,hv⟩
 |cons x r ih=>
  intro h K hv;obtain⟨y,h1,e1,hv⟩:=QoU hv;obtain⟨z,h2,e2,hv⟩:=ih hv;exact⟨_,_,by simp only[QpB,e1,e2],hv⟩
def Qzn(res:List (Nat×Option (Option Nat)))(L:Lv)(h:Hp)(K:AV->Prop):Prop:=
 match Qsb (lkN L) h res with
 |some vs=>(match QpB h vs with
  |some (rs,_)=>K (pack rs)
  |none=>False)
 |none=>False
def Qzo(res:List (Nat×Option (Option Nat)))(L:Lv)(h:Hp)(K:AV->Prop):Prop:=
 match Qsb (lkN L) h res with
 |some vs=>Qrp h vs fun rs _=>K (pack rs)
 |none=>False
theorem Qzo.ret{res:List (Nat×Option (Option Nat))}{L:Lv}{h:Hp}{K:AV->Prop}(hq:Qzo res L h K):Qzn res L h K:=by
 unfold Qzo at hq;unfold Qzn;split at hq
 ·rename_i vs hvs;obtain⟨y,h1,e1,hk⟩:=QiA hq;simp only[e1];exact hk
 ·exact hq.elim
def QAJ(res:List (Nat×Option (Option Nat)))(L:Lv)(h:Hp)(K:AV->Hp->Prop):Prop:=
 match Qsb (lkN L) h res with
 |some vs=>K (pack vs) h
 |none=>False
def Qru:Nat->List AV->Lv
 |_,[]=>[]
 |n,v::r=>(n,v)::Qru (n+1) r
def QCB(res:List (Nat×Option (Option Nat)))(K:AV->Prop):Post:=fun x L h=>match x with
 | .exit _=>False
 |_=>Qzo res L h K
def vcF(P:Program)(Λ:Len)(af:AF)(args:List AV)(K:AV->Prop):Prop:=
 match af with
 |⟨_,res,body⟩=>vcC P Λ 0 body (Qru 0 args) [] (QCB res K)
def vcH(P:Program)(Λ:Len)(af:AF)(args:List AV)(h:Hp)(K:AV->Hp->Prop):Prop:=
 match af with
 |⟨_,res,body⟩=>vcC P Λ h.length body (Qru 0 args) h fun x L h=>match x with
  | .exit _=>False
  |_=>QAJ res L h K
section
variable{P:Program}{G:Nat->Prop}{ι:Io}{h:Hp}{w:World}
theorem QuX:∀(args:List AV) (n i:Nat),lkL (Qru n args) i=if n<=i then (args[i-n]?).getD (.c .u)else .c .u:=by
 intro args;induction args with
 |nil=>intro n i;simp[Qru,lkL]
 |cons v r ih=>
  intro n i;simp only[Qru,lkL,upd];by_cases h1:n=i
  ·subst h1;simp
  ·rw[if_neg h1,ih];by_cases h2:n<=i
   ·rw[if_pos (by omega),if_pos h2,show i-n=(i-(n+1))+1 by omega];simp
   ·rw[if_neg (by omega),if_neg h2]
theorem Qz4{h h':Hp}{x:CV}{d:D}{l:Nat}{cs:List CV}(hf:frz h x=some (d,h'))(hl:h[l]? =some (.bx cs)):h'[l]? =some (.bx cs):=by
 unfold frz at hf;split at hf
 ·cases hf;exact hl
 ·cases hf;exact hl
 ·split at hf
  ·rename_i hes;split at hf
   ·cases hf;rw[List.getElem?_set_ne]
    ·exact hl
    ·intro e;subst e;rw[hes]at hl;cases hl
   ·cases hf
  ·cases hf
 ·cases hf;exact hl
 ·split at hf
  ·rename_i hes;split at hf
   ·cases hf;rw[List.getElem?_set_ne]
    ·exact hl
    ·intro e;subst e;rw[hes]at hl;cases hl
   ·cases hf
  ·cases hf
 ·cases hf
theorem Qx0{l:Nat}{cs:List CV}:∀{xs:List CV} {h h':Hp} {ds:List D},frzs h xs=some (ds,h')->h[l]? =some (.bx cs)->h'[l]? =some (.bx cs):=by
 intro xs;induction xs with
 |nil=>intro h h' ds hf hl;simp only[frzs,osi,pmi]at hf;obtain⟨_,rfl⟩:=hf;exact hl
 |cons x xs ih=>
  intro h h' ds hf hl;simp only[frzs]at hf;split at hf
  ·rename_i d h1 hd;split at hf
   ·rename_i ds' h2 hds;simp only[osi,pmi]at hf;obtain⟨_,rfl⟩:=hf;exact ih hds (Qz4 hd hl)
   ·cases hf
  ·cases hf
theorem Qln{v:Value}{x y:CV}{h':Hp}(hr:HR G ι h w)(hx:CR G w ι h v x)(hf:QwV h x=some (y,h')):
  ∃G',HR G' ι h' w/\CR G' w ι h' v y/\Ext G ι h w G' ι h' w/\Qg3 y=true:=by
 unfold QwV at hf;split at hf
 ·cases hf;exact⟨G,hr,hx.fg,Ext.refl _ _ _ _,rfl⟩
 ·cases hf;exact⟨G,hr,hx.fg,Ext.refl _ _ _ _,rfl⟩
 ·rename_i l ver i n;split at hf
  ·rename_i v' sz es hes;split at hf
   ·rename_i hv;have hv:v'=ver:=Nat.eq_of_beq_eq_true hv;subst hv;cases hf;obtain⟨G',k1,k2,k3⟩:=Qc2 (h':=h.set l .dead) (d:= .list false sz ((es.drop i).take n)) hr hx (by simp[frz,hes]);exact⟨G',k1,.d _ _ k2,k3,rfl⟩
   ·cases hf
  ·cases hf
 ·cases hf;exact⟨G,hr,hx,Ext.refl _ _ _ _,rfl⟩
 ·cases hf;exact⟨G,hr,hx,Ext.refl _ _ _ _,rfl⟩
 ·cases hf;exact⟨G,hr,hx,Ext.refl _ _ _ _,rfl⟩
 ·rename_i l ver i j;split at hf
  ·rename_i cs hij hes;have hij:i+j=0:=Nat.eq_of_beq_eq_true hij;obtain⟨rfl,rfl⟩:i=0/\j=0:=by omega
   split at hf
   ·rename_i ds h2 hfs;cases hf;cases hx with
    |ptr _ _ _ _ _ blk hb ha hk=>
     rw[hes]at hb;cases hb;obtain⟨b,o,hi,rfl⟩:=hk 0 rfl;obtain⟨b',o',c,t,fr,h1,h2',h3,h4,h5⟩:=hr.blk l _ hes;rw[hi]at h1;cases h1;obtain⟨vs,hvs⟩:∃vs:List Value,vs=(c.toList.drop o).take cs.length:=⟨_,rfl⟩;have hvl:vs.length=cs.length:=by rw[hvs];simp;omega
     have hvg:∀i,i<cs.length->vs[i]? =c[o+i]? :=fun i hi=>by
      rw[hvs,List.getElem?_take_of_lt hi,List.getElem?_drop];simp
     obtain⟨G',q1,q2,q3,q4⟩:=QhG hr hvl (fun i v x hv hx=>by
      rw[hvg i (Qaa hx)]at hv;obtain⟨v',hv',hc⟩:=h5 i x hx;rw[hv]at hv';cases hv';exact hc) hfs
     have hbx:=Qx0 hfs hes;have hfz:=HR.freeze q1 hbx hi rfl;have hef:=Ext.freeze (G:=G') (w:=w) hbx hi rfl;refine⟨_,hfz,.rp b (o+0) ds (.inr rfl) (fun k x hx=> ?_),q2.trans hef,rfl⟩;have hk:k<cs.length:=by rw[←q3];exact Qaa hx
     have hv:c[o+k]? =some (c[o+k]'(by omega)):=Array.getElem?_eq_getElem _;refine⟨_,by rw[QbG h2',Nat.add_zero];exact hv,?_⟩;exact(q4 k _ x (by rw[hvg k hk];exact hv) hx).ext hef q1
   ·cases hf
  ·cases hf
 ·cases hf
theorem QpD:∀{xs ys:List CV} {vs:List Value} {G:Nat->Prop} {h h':Hp},HR G ι h w->vs.length=xs.length->
  (∀(i:Nat) (v:Value) (x:CV),vs[i]? =some v->xs[i]? =some x->CR G w ι h v x)->QpC h xs=some (ys,h')->
  ∃G',HR G' ι h' w/\Ext G ι h w G' ι h' w/\vs.length=ys.length/\ys.all Qg3=true/\∀(i:Nat) (v:Value) (y:CV),vs[i]? =some v->ys[i]? =some y->CR G' w ι h' v y:=by
 intro xs;induction xs with
 |nil=>
  intro ys vs G h h' hr hl _ hf;simp only[QpC,osi,pmi]at hf;obtain⟨rfl,rfl⟩:=hf;exact⟨G,hr,Ext.refl _ _ _ _,hl,rfl,by simp⟩
 |cons x xs ih=>
  intro ys vs G h h' hr hl hc hf;cases vs with
  |nil=>simp at hl
  |cons v vs=>
   simp only[QpC]at hf;split at hf
   ·rename_i y h1 hy;split at hf
    ·rename_i l h2 hl2;cases hf;obtain⟨G1,k1,k2,k3,k4⟩:=Qln hr (hc 0 v x rfl rfl) hy;obtain⟨G2,q1,q2,q3,q4,q5⟩:=ih k1 (by simpa using hl) (fun i v x hv hx=>(hc (i+1) v x (by simpa using hv) (by simpa using hx)).ext k3 hr) hl2;refine⟨G2,q1,k3.trans q2,by simp[q3],by simp[k4,q4],fun i v' y' hv hy'=> ?_⟩;cases i with
     |zero=>simp at hv hy';subst hv hy';exact k2.ext q2 k1
     |succ i=>simp at hv hy';exact q5 i v' y' hv hy'
    ·cases hf
   ·cases hf
theorem QpA{v:Value}{x y:AV}{h':Hp}(hr:HR G ι h w)(hx:VR G w ι h v x)(hf:Qog h x=some (y,h')):
  ∃G',HR G' ι h' w/\VR G' w ι h' v y/\Ext G ι h w G' ι h' w/\QbM y=true:=by
 cases hx with
 |c _ x hc=>
  simp only[Qog]at hf;split at hf
  ·rename_i z h1 hz;cases hf;obtain⟨G',k1,k2,k3,k4⟩:=Qln hr hc hz;exact⟨G',k1,.c _ _ k2,k3,k4⟩
  ·cases hf
 |agg cs l hn hc=>
  simp only[Qog]at hf;split at hf
  ·rename_i z h1 hz;cases hf;obtain⟨G',k1,k2,k3,k4,k5⟩:=QpD hr (vs:=cs.toList) (by simpa using hn) (fun i v x hv hx=>hc i v x (by simpa using hv) hx) hz;exact⟨G',k1,.agg _ _ (by simpa using k3) (fun i v x hv hx=>k5 i v x (by simpa using hv) hx),k2,k4⟩
  ·cases hf
 |tup=>simp[Qog]at hf
theorem QjZ:∀{xs ys:List AV} {vs:List Value} {G:Nat->Prop} {h h':Hp},HR G ι h w->VRs G w ι h vs xs->QpB h xs=some (ys,h')->
  ∃G',HR G' ι h' w/\Ext G ι h w G' ι h' w/\VRs G' w ι h' vs ys/\QbM.pureAs ys=true:=by
 intro xs;induction xs with
 |nil=>
  intro ys vs G h h' hr hv hf;simp only[QpB,osi,pmi]at hf;obtain⟨rfl,rfl⟩:=hf;exact⟨G,hr,Ext.refl _ _ _ _,hv,rfl⟩
 |cons x xs ih=>
  intro ys vs G h h' hr hv hf;obtain⟨hl,hc⟩:=hv;cases vs with
  |nil=>simp at hl
  |cons v vs=>
   simp only[QpB]at hf;split at hf
   ·rename_i y h1 hy;split at hf
    ·rename_i l h2 hl2;cases hf;obtain⟨G1,k1,k2,k3,k4⟩:=QpA hr (hc 0 v x rfl rfl) hy;obtain⟨G2,q1,q2,q3,q4⟩:=ih k1 ⟨by simpa using hl,fun i v x hv hx=>(hc (i+1) v x (by simpa using hv) (by simpa using hx)).ext k3 hr⟩ hl2;refine⟨G2,q1,k3.trans q2,⟨by simp[q3.1],fun i v' y' hv hy'=> ?_⟩,by simp[QbM.pureAs,k4,q4]⟩;cases i with
     |zero=>simp at hv hy';subst hv hy';exact k2.ext q2 k1
     |succ i=>simp at hv hy';exact q3.2 i v' y' hv hy'
    ·cases hf
   ·cases hf
theorem Qjo{b o:Nat}:(asAddr (.pointer (some ⟨b,o,none⟩))).run P w= .ok ⟨b,o,none⟩ w:=rfl
theorem Qp2{tmps:Array Value}{e:Env}(hr:HR G ι h w)(he:∀i,VR G w ι h (tmps.getD i undef) (e i)):∀(rs:List ResultVar) (res:List (Nat×Option (Option Nat))) (vs:List AV),QsE P rs=some res->Qsb e h res=some vs->
  ∃us:List Value,(rs.mapM fun(r:ResultVar)=>(match r with| .tmp t=>(pure (tmps.getD t undef):Sem Value)| .cell a t=>do loadVar t (←asAddr (tmps.getD a undef)))).run P w= .ok us w/\VRs G w ι h us vs:=by
 intro rs;induction rs with
 |nil=>
  intro res vs h1 h2;simp only[QsE,osi]at h1;subst h1;simp only[Qsb,osi]at h2;subst h2;exact⟨[],by simp,rfl,by simp⟩
 |cons r rs ih=>
  intro res vs h1 h2;have fin:∀(l:List (Nat×Option (Option Nat))) (l2:List AV) (u:Value) (x:AV),QsE P rs=some l->Qsb e h l=some l2->vs=x::l2->VR G w ι h u x->
    ((match r with| .tmp t=>(pure (tmps.getD t undef):Sem Value)| .cell a t=>do loadVar t (←asAddr (tmps.getD a undef)))).run P w= .ok u w->
    ∃us:List Value,((r::rs).mapM fun(r:ResultVar)=>(match r with| .tmp t=>(pure (tmps.getD t undef):Sem Value)| .cell a t=>do loadVar t (←asAddr (tmps.getD a undef)))).run P w= .ok us w/\VRs G w ι h us vs:=by
   intro l l2 u x a1 a2 a3 a4 a5;obtain⟨us,q1,q2,q3⟩:=ih l l2 a1 a2;subst a3;refine⟨u::us,?_,by simp[q2],fun i v y hv hy=> ?_⟩
   ·simp only[List.mapM_cons,Sem.run_bind,a5,Result.andThen_ok,q1,Sem.run_pure]
   ·cases i with
    |zero=>simp at hv hy;subst hv hy;exact a4
    |succ i=>simp at hv hy;exact q3 i v y hv hy
  cases r with
  |tmp t=>
   simp only[QsE]at h1;split at h1
   ·rename_i l hl;cases h1;simp only[Qsb]at h2;split at h2
    ·rename_i l2 hl2;cases h2;exact fin l l2 _ _ hl hl2 rfl (he t) rfl
    ·cases h2
   ·cases h1
  |cell t ty=>
   simp only[QsE]at h1;split at h1
   ·rename_i k l hk hl;cases h1;simp only[Qsb]at h2;split at h2
    ·rename_i l2 hl2;cases k with
     |none=>
      simp only at h2;split at h2
      ·rename_i c cs hrd;cases h2;obtain⟨b,o,hv,hc⟩:=QfX hr (he t) hrd;obtain⟨v,k1,k2⟩:=QyO (P:=P) hr (he t) hk hrd;rw[hv]at k1;refine fin l l2 v _ hl hl2 rfl k2 ?_;simp only[hv,Sem.run_bind,Qjo,Result.andThen_ok];simpa [Instr.loadAt,Instr.sureAddr]using k1
      ·cases h2
     |some n=>
      simp only at h2;split at h2
      ·rename_i cs hrd;split at h2
       ·rename_i hn;cases h2;obtain⟨b,o,hv,hc⟩:=QfX hr (he t) hrd;obtain⟨v,k1,k2⟩:=QyP (P:=P) hr (he t) hk hrd hn;rw[hv]at k1;refine fin l l2 v _ hl hl2 rfl k2 ?_;simp only[hv,Sem.run_bind,Qjo,Result.andThen_ok];simpa [Instr.loadAt,Instr.sureAddr]using k1
       ·cases h2
      ·cases h2
    ·cases h2
   ·cases h1
theorem Qeq{us:List Value}{vs:List AV}(hv:VRs G w ι h us vs):VR G w ι h (if hs:us.toArray.size=1 then us.toArray[0]else .tuple us.toArray) (pack vs):=by
 obtain⟨h1,h2⟩:=hv;cases us with
 |nil=>
  cases vs with
  |nil=>exact .tup _ _ rfl (by simp)
  |cons=>simp at h1
 |cons u us=>
  cases vs with
  |nil=>simp at h1
  |cons v vs=>
   cases us with
   |nil=>
    cases vs with
    |nil=>exact h2 0 u v rfl rfl
    |cons=>simp at h1
   |cons u2 us=>
    cases vs with
    |nil=>simp at h1
    |cons v2 vs=>
     refine .tup _ _ (by simpa using h1) fun i x y hx hy=>h2 i x y (by simpa using hx) hy
theorem Qdz{fn:Func}{af:AF}{tmps:Array Value}{e:Env}{vs:List AV}(hc:QsE P fn.results.toList=some af.res)(hr:HR G ι h w)(he:∀i,VR G w ι h (tmps.getD i undef) (e i))(hv:Qsb e h af.res=some vs):
  ∃us:List Value,(results fn tmps).run P w= .ok (if hs:us.toArray.size=1 then us.toArray[0]else .tuple us.toArray) w/\VRs G w ι h us vs:=by
 obtain⟨us,q1,q2⟩:=Qp2 (P:=P) hr he fn.results.toList af.res vs hc hv;refine⟨us,?_,q2⟩;simp only[results,Sem.run_bind];rw[Array.mapM_eq_mapM_toList,Sem.run_map]
 erw [q1]
 simp only[Result.andThen_ok,Sem.run_pure]
theorem Qee{fn:Func}{af:AF}{args:List AV}{vs:List Value}(_hn:af.nt=fn.ntmps)(hl:args.length<=fn.ntmps)(hr:HR G ι h w)(hv:VRs G w ι h vs args):
  Fits fn.ntmps G ι h w (lkL (Qru 0 args)) h {tmps:=vs.toArray++Array.replicate (fn.ntmps-vs.toArray.size) undef,defers:=[]} w:=by
 refine⟨G,ι,⟨hr,?_,fun i=> ?_⟩,Ext.refl _ _ _ _,Marks.nil _ _ _ _ _⟩
 ·have:=hv.1;simp;omega
 ·simp only[lk];rw[QuX];simp only[Nat.zero_le,if_true,Nat.sub_zero];cases hi:args[i]? with
  |none=>exact .c _ _ (.u _)
  |some x=>
   have hil:=Qaa hi;have hlt:i<vs.length:=by rw[hv.1];exact hil
   have hvi:vs[i]? =some vs[i]:=lgE hlt;have:(vs.toArray++Array.replicate (fn.ntmps-vs.toArray.size) undef).getD i undef=vs[i]:=by
    rw[Array.getD_eq_getD_getElem?,Array.getElem?_append_left (by simpa using hlt)];simp[hlt]
   rw[this];exact hv.2 i _ x hvi hi
def QBu(res:List (Nat×Option (Option Nat)))(K:AV->Prop):Post:=fun x L h=>match x with
 | .exit _=>False
 |_=>Qzn res L h K
def QBt(res:List (Nat×Option (Option Nat)))(K:AV->Hp->Prop):Post:=fun x L h=>match x with
 | .exit _=>False
 |_=>QAJ res L h K
theorem QrP{f:Nat}{fn:Func}{c:Code}{res:List (Nat×Option (Option Nat))}{args:List AV}{K:AV->Prop}(hf:P.funcs[f]? =some fn)(hb:fn.body=some c)(hres:QsE P fn.results.toList=some res)(hl:args.length<=fn.ntmps)
 (hwp:∀(G:Nat->Prop) (ι:Io) (w:World) (a:Act),Fits fn.ntmps G ι [] w (lkL (Qru 0 args)) [] a w->c.wpIn (Fen none) 0 P (out fn.ntmps G ι [] w (QBu res K)) a w):
  FnS P f args [] fun r _=>QbM r=true/\K r:=by
 refine⟨fun G ι w vs hr hvs=> ?_⟩;refine .of hf (Qdq hf hb (wpIn_mono (hwp G ι w _ (Qee (af:=⟨fn.ntmps,res,.skip⟩) rfl hl hr hvs)) fun x a w' ⟨L,h',hq,hfit⟩=> ?_));have fin:Qzn res L h' K->LeavesInM Fence.wide 0 P fn a.tmps (fun e w'=>∃v r G' ι' h'',e= .returned v/\(QbM r=true/\K r)/\HR G' ι' h'' w'/\VR G' w' ι' h'' v r/\Ext G ι [] w G' ι' h'' w') a.defers .returning w':=by
  intro hret;refine QfP hfit fun G1 ι1 w2 rel ext=> ?_
  unfold Qzn at hret;split at hret
  ·rename_i vs' hvs';split at hret
   ·rename_i rs h2 hrs;rw[Qd0]at hvs';obtain⟨us,q1,q2⟩:=Qdz (P:=P) (fn:=fn) (af:=⟨fn.ntmps,res,.skip⟩) hres rel.hr rel.env hvs';obtain⟨G2,k1,k2,k3,k4⟩:=QjZ rel.hr q2 hrs;refine⟨_,q1,_,pack rs,G2,ι1,h2,rfl,⟨?_,hret⟩,k1,Qeq k3,ext.trans k2⟩;cases rs with
    |nil=>rfl
    |cons x rs=>
     cases rs with
     |nil=>simp only[QbM.pureAs,Bool.and_true]at k4;exact k4
     |cons y rs=>exact k4
   ·exact hret.elim
  ·exact hret.elim
 cases x with
 |normal=>exact fin hq
 |ret=>exact fin hq
 |exit i=>exact hq.elim
 |goto=>exact hq.elim
 |panic=>exact hq.elim
 |outgrown=>exact hq.elim
theorem QrO{f:Nat}{fn:Func}{c:Code}{res:List (Nat×Option (Option Nat))}{args:List AV}{h:Hp}{K:AV->Hp->Prop}(hf:P.funcs[f]? =some fn)(hb:fn.body=some c)(hres:QsE P fn.results.toList=some res)(hl:args.length<=fn.ntmps)
 (hwp:∀(G:Nat->Prop) (ι:Io) (w:World) (a:Act),Fits fn.ntmps G ι h w (lkL (Qru 0 args)) h a w->c.wpIn (Fen none) 0 P (out fn.ntmps G ι h w (QBt res K)) a w):
  FnS P f args h K:=by
 refine⟨fun G ι w vs hr hvs=> ?_⟩;refine .of hf (Qdq hf hb (wpIn_mono (hwp G ι w _ (Qee (af:=⟨fn.ntmps,res,.skip⟩) rfl hl hr hvs)) fun x a w' ⟨L,h',hq,hfit⟩=> ?_));have fin:QAJ res L h' K->LeavesInM Fence.wide 0 P fn a.tmps (fun e w'=>∃v r G' ι' h'',e= .returned v/\K r h''/\HR G' ι' h'' w'/\VR G' w' ι' h'' v r/\Ext G ι h w G' ι' h'' w') a.defers .returning w':=by
  intro hret;refine QfP hfit fun G1 ι1 w2 rel ext=> ?_
  unfold QAJ at hret;split at hret
  ·rename_i vs' hvs';rw[Qd0]at hvs';obtain⟨us,q1,q2⟩:=Qdz (P:=P) (fn:=fn) (af:=⟨fn.ntmps,res,.skip⟩) hres rel.hr rel.env hvs';exact⟨_,q1,_,pack vs',G1,ι1,h',rfl,hret,rel.hr,Qeq q2,ext⟩
  ·exact hret.elim
 cases x with
 |normal=>exact fin hq
 |ret=>exact fin hq
 |exit i=>exact hq.elim
 |goto=>exact hq.elim
 |panic=>exact hq.elim
 |outgrown=>exact hq.elim
theorem Qeb{fn:Func}{af:AF}(hc:QaA P fn=some af):∃c,fn.body=some c/\Qgv P fn.ntmps c=some af.body/\QsE P fn.results.toList=some af.res/\af.nt=fn.ntmps:=by
 unfold QaA at hc;split at hc
 ·rename_i c hb;split at hc
  ·rename_i ac res hac hres;cases hc;exact⟨c,hb,hac,hres,rfl⟩
  ·cases hc
 ·cases hc
theorem QxY{f:Nat}{fn:Func}{af:AF}{args:List AV}{K:AV->Prop}(hm:P.follows .mixedOrders=true)(hf:P.funcs[f]? =some fn)(hc:QaA P fn=some af)(hl:args.length<=af.nt)(hv:∀Λ:Len,(∀l,Λ l=(l.length:Int))->vcF P Λ af args K):
  FnS P f args [] fun r _=>QbM r=true/\K r:=by
 obtain⟨c,hb,hac,hres,hn⟩:=Qeb hc;refine QrP hf hb hres (by omega) fun G ι w a hfit=> ?_
 refine wpIn_mono (QfL (Λ:=fun l=>l.length) (fun _=>rfl) (m:=0) hm (by simp) c af.body _ _ _ _ _ hac (hv (fun l=>l.length) fun _=>rfl) hfit) fun x a' w' ⟨L',h',hq,hf'⟩=>⟨L',h',?_,hf'⟩
 cases x<;>first|exact hq.elim|exact Qzo.ret hq
theorem Qpw{f:Nat}{fn:Func}{af:AF}{args:List AV}{h:Hp}{K:AV->Hp->Prop}(hm:P.follows .mixedOrders=true)(hf:P.funcs[f]? =some fn)(hc:QaA P fn=some af)(hl:args.length<=af.nt)(hv:∀Λ:Len,(∀l,Λ l=(l.length:Int))->vcH P Λ af args h K):
  FnS P f args h K:=by
 obtain⟨c,hb,hac,hres,hn⟩:=Qeb hc;exact QrO hf hb hres (by omega) fun G ι w a hfit=>QfL (Λ:=fun l=>l.length) (fun _=>rfl) (m:=h.length) hm (Nat.le_refl _) c af.body _ _ _ _ _ hac (hv (fun l=>l.length) fun _=>rfl) hfit
end
def zC(l v sz:Nat)(es:List (List D)):CV->CV
 | .arr l' v' i n=>match Nat.beq l' l,Nat.beq v' v with
  |true,true=> .d (.list false sz es)
  |_,_=> .arr l' v' i n
 |x=>x
def zCs(l v sz:Nat)(es:List (List D)):List CV->List CV
 |[]=>[]
 |x::r=>zC l v sz es x::zCs l v sz es r
def zA(l v sz:Nat)(es:List (List D)):AV->AV
 | .c (.fn b f cs)=> .c (.fn b f (zCs l v sz es cs))
 | .c x=> .c (zC l v sz es x)
 | .agg xs=> .agg (zCs l v sz es xs)
 |x=>x
def zB(l v sz:Nat)(es:List (List D)):Blk->Blk
 | .bx cs=> .bx (zCs l v sz es cs)
 |b=>b
def zH(l v sz:Nat)(es:List (List D)):Nat->Hp->Hp
 |_,[]=>[]
 |n,b::r=>(match Nat.beq n l with
  |true=> .dead
  |false=>zB l v sz es b)::zH l v sz es (n+1) r
def zL(l v sz:Nat)(es:List (List D)):Lv->Lv
 |[]=>[]
 |(i,x)::r=>(i,zA l v sz es x)::zL l v sz es r
def okC(l v k:Nat):CV->Prop
 | .arr l' v' i n=>match Nat.beq l' l,Nat.beq v' v with
  |true,true=>i=0/\n=k
  |_,_=>True
 |_=>True
def QAk(l v k:Nat):List CV->Prop
 |[]=>True
 |x::r=>okC l v k x/\QAk l v k r
def okA(l v k:Nat):AV->Prop
 | .c (.fn _ _ cs)=>QAk l v k cs
 | .c x=>okC l v k x
 | .agg xs=>QAk l v k xs
 |_=>True
def okB(l v k:Nat):Blk->Prop
 | .bx cs=>QAk l v k cs
 |_=>True
def okH(l v k:Nat):Hp->Prop
 |[]=>True
 |b::r=>okB l v k b/\okH l v k r
def okL(l v k:Nat):Lv->Prop
 |[]=>True
 |(_,x)::r=>okA l v k x/\okL l v k r
theorem QAH{l v sz k:Nat}{es:List (List D)}(hk:k=es.length){x:CV}(h:okC l v k x):FzC l v sz es x (zC l v sz es x):=by
 cases x with
 |arr l' v' i n=>
  simp only[okC]at h;simp only[zC];split at h
  ·rename_i hl hv;obtain⟨rfl,rfl⟩:=h;have hl:l'=l:=Nat.eq_of_beq_eq_true hl;have hv:v'=v:=Nat.eq_of_beq_eq_true hv;subst hl hv;exact .arr _ hk
  ·exact .keep _
 |_=>exact .keep _
theorem QuL{l v sz k:Nat}{es:List (List D)}(hk:k=es.length):∀{xs:List CV},QAk l v k xs->QwI l v sz es xs (zCs l v sz es xs):=by
 intro xs;induction xs with
 |nil=>intro _;trivial
 |cons x r ih=>intro h;exact⟨QAH hk h.1,ih h.2⟩
theorem QAG{l v sz k:Nat}{es:List (List D)}(hk:k=es.length){x:AV}(h:okA l v k x):FzA l v sz es x (zA l v sz es x):=by
 cases x with
 |c x=>
  cases x with
  |fn b f cs=>exact .fn _ _ _ _ (QuL hk h)
  |_=>exact .c _ _ (QAH hk h)
 |agg xs=>exact .agg _ _ (QuL hk h)
 |tup=>exact .same _
theorem QAi{l v sz:Nat}{es:List (List D)}:∀(L:Lv) (i:Nat),lkN (zL l v sz es L) i=zA l v sz es (lkN L i):=by
 intro L;induction L with
 |nil=>intro i;rfl
 |cons p r ih=>
  intro i;obtain⟨j,x⟩:=p;simp only[zL,lkN];split<;>simp_all
theorem QtY{l v k:Nat}:∀{L:Lv},okL l v k L->∀i,okA l v k (lkN L i):=by
 intro L;induction L with
 |nil=>intro _ i;trivial
 |cons p r ih=>
  intro h i;obtain⟨j,x⟩:=p;simp only[lkN];split
  ·exact h.1
  ·exact ih h.2 i
theorem QAI{l v sz k:Nat}{es:List (List D)}(hk:k=es.length):∀{h:Hp} {n:Nat},okH l v k h->FzH l v sz es n h (zH l v sz es n h):=by
 intro h;induction h with
 |nil=>intro n _;trivial
 |cons b r ih=>
  intro n ho;refine⟨?_,ih ho.2⟩;cases hb:Nat.beq n l with
  |true=>exact .inl ⟨Nat.eq_of_beq_eq_true hb,rfl⟩
  |false=>
   refine .inr ⟨(fun e=>by subst e;rw[Nat.beq_refl]at hb;cases hb),?_⟩;cases b with
   |bx cs=>exact .bx _ _ (QuL hk ho.1)
   |_=>exact .same _
theorem Qii.mono{P:Program}{m:Nat}{d:Bool}{K K':Lv->Hp->Prop}(hK:∀L h,K L h->K' L h):∀{ops:List AO} {L:Lv} {h:Hp},Qii P m d ops L h K->Qii P m d ops L h K':=by
 intro ops;induction ops with
 |nil=>intro L h hr;exact hK _ _ hr
 |cons o r ih=>
  intro L h hr;rcases hr with ⟨h1,h2⟩|⟨h1,h2⟩
  ·exact .inl ⟨h1,h2.mono fun L' v h' hr=>ih hr⟩
  ·exact .inr ⟨h1,ih h2⟩
end Go.Ab
