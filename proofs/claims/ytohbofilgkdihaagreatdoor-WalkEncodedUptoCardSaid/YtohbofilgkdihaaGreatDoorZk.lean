/-
  Merged texts, part k.
-/
import Derived.Test.YtohbofilgkdihaaGreatDoorZj
set_option linter.all false
namespace Go.Ab
inductive Ex where
 |normal
 |exit (id:Nat)
 |ret
 deriving DecidableEq
abbrev Post:=Ex->Lv->Hp->Prop
inductive LoopI (m:Nat) (body:Lv->Hp->Post->Prop) (L:Lv) (h:Hp) (Q:Post):Prop
 |mk (I:Nat->Lv->Hp->Prop) (n:Nat) (L1:Lv) (h1:Hp) (wk:Wk m L h L1 h1) (start:I n L1 h1)
   (round:∀n L h,I n L h->body L h λx L' h'=>match x with
    | .normal=>∃n' L1 h1,n'<n/\Wk m L' h' L1 h1/\I n' L1 h1
    | .exit i=>∃L1 h1,Wk m L' h' L1 h1/\Q (.exit i) L1 h1
    | .ret=>Q .ret L' h')
def Qxh(h h':Hp)(L:Lv):List Nat->Prop
 |[]=>True
 |s::r=>QaU h h' (lkN L s)/\(match lkN L s with
  | .c (.d (.adr _ _))=>False
  |_=>True)/\Qxh h h' L r
def QqX(h h':Hp)(L:Lv):List (Nat×Bool)->Prop
 |[]=>True
 |(s,b)::r=>QaU h h' (lkN L s)/\(match b,lkN L s with
  |true,.c (.d (.adr _ _))=>False
  |_,_=>True)/\QqX h h' L r
def QCQ(P:Program)(o:AO)(late:List Nat)(L:Lv)(h:Hp)(K:Lv->Hp->Prop):Prop:=match o.op with
 | .call f xs=>∃R:AV->Hp->Prop,FnS P f (QgQ L xs) h R/\∀r h',R r h'->Qxh h h' L late/\K (QdL L o.dst r) h'
 |_=>False
def arW(L:Lv):AOp->Bool
 | .nilc x=>isA (evN L x)
 | .iaa _ _ x _=>isA (evN L x)
 | .ias _ x _=>isA (evN L x)
 | .fa x _=>isA (evN L x)
 | .ld x _=>isA (evN L x)
 | .st x _ _=>isA (evN L x)
 |_=>false
def Qni:AOp->Bool
 | .ias .. =>true
 |_=>false
def QCd(P:Program)(Λ:Len)(o:AO)(L:Lv)(h:Hp)(K:AV->Hp->Prop):Prop:=match o.op with
 | .call f xs=>∃R:AV->Hp->Prop,FnS P f (QgQ L xs) h R/\∀r h',R r h'->K r h'
 | .callv x xs=>(match evN L x with
  | .c (.fn b f caps)=>(match Nat.blt f 4294967296 with
   |true=>FnOk P f/\∃R:AV->Hp->Prop,FnS P f (Qpj b (QgQ L xs) (caps.map .c)) h R/\∀r h',R r h'->K r h'
   |false=>False)
  |_=>False)
 | .bsl sz z n ps=>QbD P Λ 0 false (.bsl sz z n ps) L h λ_ v h'=>K v h'
 | .app sz bytes z x y=>(match evN L x with
  | .c (.d (.sl _ _ _ _ _))=>vAr (.app sz bytes z x y) L h K
  | .c (.d (.list true _ _))=>(Unit->QbD P Λ 0 true (.app sz bytes z x y) L h λ_ v h'=>K v h')\/(Unit->vAr (.app sz bytes z x y) L h K)
  |_=>QbD P Λ 0 true (.app sz bytes z x y) L h λ_ v h'=>K v h')
 |op=>match arW L op with
  |true=>vAr op L h K
  |false=>QbD P Λ 0 true op L h λ_ v h'=>K v h'
def hdT:List (List (Nat×Bool))->List (Nat×Bool)
 |[]=>[]
 |a::_=>a
def tlT:List (List (Nat×Bool))->List (List (Nat×Bool))
 |[]=>[]
 |_::r=>r
def QCe(P:Program)(Λ:Len):List AO->List (List (Nat×Bool))->Lv->Hp->(Lv->Hp->Prop)->Prop
 |[],_,L,h,K=>K L h
 |o::r,late,L,h,K=>QCd P Λ o L h λv h'=>QqX h h' L (hdT late)/\QCe P Λ r (tlT late) (QdL L o.dst v) h' K
def Qii:Lv->Lv
 |[]=>[]
 |(i,v)::r=>(i,match QcE v with
  |true=>v
  |false=> .c .u)::Qii r
structure RfS (P:Program) (VA VB:Lv->Hp->Post->Prop) (x:X) (p:Nat) (L:Lv) (h:Hp) (Q:Post):Prop where
 out:∃m rest g caps,h= .am m::rest/\evN L x= .c (.fn false g caps)/\Nat.blt g 4294967296=true/\FnOk P g/\(∀l,NoFn P l)/\
  ∀(l:Nat) (rdy bsy:AB),m l=none->
   (∀(m':Ar) (r:AV) (K:Ar->Prop),m' l=some rdy->QcE r=true->(VA (QdL (Qii L) (some p) r) [.am m'] λx L2 h2=>match x with
     | .normal=>∃m2 tl,h2= .am m2::tl/\m2 l=some rdy/\VB L2 (.am (mup m2 l bsy)::tl) λx _ h3=>match x with
      | .normal=>∃m3 tl3,h3= .am m3::tl3/\m3 l=some bsy/\K (mup m3 l rdy)
      |_=>False
     |_=>False)->
    FnS P (8589934592+l) [r] [.am m'] λq h'=>q= .c (.d (.bool true))/\∃m3 tl,h'= .am m3::tl/\K m3)->
   FnS P g (.c (.d (.yl l))::caps.map .c) (.am (mup m l rdy)::rest) λ_ h'=>∃m3 rest',h'= .am m3::rest'/\m3 l=some rdy/\Q .normal L (.am (mdel m3 l)::rest')
def vcC(P:Program)(Λ:Len)(m:Nat):AC->Lv->Hp->Post->Prop
 | .skip,L,h,Q=>Q .normal L h
 | .reg d ops,L,h,Q=>QdJ P Λ m d ops L h λL h=>Q .normal L h
 | .rgf pre k ops,L,h,Q=>QsK P Λ m pre k [] ops L h λL h=>Q .normal L h
 | .rgw e1 o e2 cs late,L,h,Q=>QdJ P Λ m true e1 L h λL h=>QdJ P Λ m true e2 L h λL h=>QCQ P o late L h λL h=>QdJ P Λ m true cs L h λL h=>Q .normal L h
 | .rgc es ws late,L,h,Q=>QdJ P Λ m true es L h λL h=>QCe P Λ ws late L h λL h=>Q .normal L h
 | .seq a b,L,h,Q=>vcC P Λ m a L h λx L h=>match x with
  | .normal=>vcC P Λ m b L h Q
  |x=>Q x L h
 | .cond c a b,L,h,Q=>match evN L c with
  | .c (.d (.bool t))=>(match t with
   |true=>vcC P Λ m a L h Q
   |false=>vcC P Λ m b L h Q)
  |_=>False
 | .block id c,L,h,Q=>vcC P Λ m c L h λx L h=>match x with
  | .exit i=>(match Nat.beq i id with
   |true=>Q .normal L h
   |false=>Q (.exit i) L h)
  |x=>Q x L h
 | .loop c,L,h,Q=>LoopI m (vcC P Λ m c) L h Q
 | .exit id,L,h,Q=>Q (.exit id) L h
 | .ret,L,h,Q=>Q .ret L h
 | .rfn x p a b,L,h,Q=>RfS P (vcC P Λ 1 a) (vcC P Λ 1 b) x p L h Q
def QzR(ms:List Nat)(n b:Nat):Bool:=((List.range b).all λj=>(ms.getD b 0).testBit j)&&(List.range n).all λi=>decide (i<=b)||(ms.getD i 0).testBit b
def QAl:AOp->Bool
 | .call .. =>true
 | .callv .. =>true
 | .ivk .. =>true
 |_=>false
def QiC(ms:List Nat)(n:Nat):Nat->List AO->List AO×List (AO×List AO)
 |_,[]=>([],[])
 |k,o::r=>match QiC ms n (k+1) r with
  |(c,bs)=>match QAl o.op&&QzR ms n k with
   |true=>([],(o,c)::bs)
   |false=>(o::c,bs)
def Qlk:List AO->List (AO×List AO)->AC
 |c,[]=> .reg true c
 |c,(o,c')::r=> .seq (.reg true c) (.seq (.reg false [o]) (Qlk c' r))
def Qlj(ops:Array Oper)(aos:List AO):AC:=match QiC (masks ops.toList []) ops.size 0 aos with
 |(c,bs)=>Qlk c bs
def QlX(pre:List (List Nat)):Nat->List AO->List (AO×List AO)->AC
 |k,c,[]=> .rgf pre k c
 |k,c,(o,c')::r=> .seq (.rgf pre k c) (.seq (.reg false [o]) (QlX pre (k+c.length+1) c' r))
def Qsa(ms:List Nat)(n:Nat):List (List Nat):=(List.range n).map λi=>(List.range i).filter λj=>(ms.getD i 0).testBit j
def Qje(ops:Array Oper)(aos:List AO):AC:=match QiC (masks ops.toList []) ops.size 0 aos with
 |(c,bs)=>QlX (Qsa (masks ops.toList []) ops.size) 0 c bs
def isW(ms:List Nat)(c i:Nat):Bool:=Nat.beq i c||(ms.getD i 0).testBit c
def QpP(ms:List Nat)(n c:Nat):List Nat:=(List.range n).filter λi=> !isW ms c i
def QsI(ms:List Nat)(n c:Nat):List Nat:=(List.range n).filter λi=>isW ms c i
def QqO(aos:List AO)(l:List Nat):List AO:=l.filterMap λi=>aos[i]?
def Qxf(a b:AO):Bool:=(match a.dst with
 |some d=> !(Qa1 b).contains d&&b.dst !=some d
 |none=>true)&&(match b.dst with
 |some d=> !(Qa1 a).contains d
 |none=>true)
def Qte(os:List Oper):Bool:=(List.range os.length).all λi=>match os[i]? with
 |some o=>(direct o).all λj=>decide (j<i)
 |none=>true
def Qzp(ms:List Nat)(n c:Nat)(aos:List AO):Bool:=
 ((QsI ms n c).all λb=>((QsI ms n c).all λk=>decide (b<=k)||(ms.getD b 0).testBit k)&&(match aos[b]? with
  |some o=>o.g.isNone
  |none=>false))&&
 ((QpP ms n c).all λj=>match aos[j]? with
  |some o=>cls o.op==0
  |none=>false)&&
 ((QpP ms n c).all λj=>(QpP ms n c).all λi=>decide (i<=j)||(ms.getD i 0).testBit j||(match aos[j]?,aos[i]? with
  |some x,some y=>compat x y
  |_,_=>false))&&
 ((QpP ms n c).all λj=>(QsI ms n c).all λb=>(decide (j<b)&&(ms.getD b 0).testBit j)||(match aos[j]?,aos[b]? with
  |some x,some y=>Qxf x y&&(QqW x||Qni y.op)
  |_,_=>false))
def QCC(ms:List Nat)(n c b:Nat):List Nat:=(QpP ms n c).filter λj=> !(decide (j<b)&&(ms.getD b 0).testBit j)
def Qlv(ms:List Nat)(n c:Nat)(aos:List AO)(b:Nat):List (Nat×Bool):=(QqO aos (QCC ms n c b)).flatMap QBH
def QAD(ms:List Nat)(n c:Nat)(aos:List AO):Bool:=(QpP ms n c).all λi=>(QpP ms n c).all λj=>decide (j<i)||(match aos[i]?,aos[j]? with
 |some x,some y=>(Qfj x).all λs=>y.dst !=some s
 |_,_=>false)
def Qx8(bar:Nat->Bool):Nat->List AO->Option Nat
 |_,[]=>none
 |k,o::r=>match o.op with
  | .callv _ _=>(match bar k with
   |true=>Qx8 bar (k+1) r
   |false=>some k)
  |_=>Qx8 bar (k+1) r
def Qti(aos:List AO)(s:Nat)(p:AOp->Bool):Bool:=aos.any λo=>(match o.dst with
 |some d=>Nat.beq d s
 |none=>false)&&p o.op
def QBw:AOp->Bool
 | .app .. =>true
 |_=>false
def QBz(aos:List AO):AOp->Bool
 | .build _ ps=>ps.any λp=>match p.2.2 with
  | .t y=>Qti aos y QBw
  |_=>false
 |_=>false
def QAn(aos:List AO):AOp->Bool
 | .bsl _ _ _ ps=>ps.any λp=>match p.2 with
  | .t x=>Qti aos x (QBz aos)
  |_=>false
 |_=>false
def QBx:AOp->Bool
 | .bsl .. =>true
 |_=>false
def QAe(k:Nat):List AO->Option Nat
 |[]=>none
 |o::r=>match QBx o.op with
  |true=>some k
  |false=>QAe (k+1) r
def QAm(aos:List AO):Bool:=(aos.any λo=>match o.op with
 | .nilc .. =>true
 |_=>false)&&(aos.any λo=>match o.op with
 | .app .. =>true
 |_=>false)&&aos.any λo=>match o.op with
 | .st .. =>true
 |_=>false
def QAf(bar:Nat->Bool)(aos:List AO):Option Nat:=match (aos.any λo=>QAn aos o.op)||QAm aos with
 |true=>QAe 0 aos
 |false=>Qx8 bar 0 aos
def QsN(ops:Array Oper)(aos:List AO):AC:=match QAf (QzR (masks ops.toList []) ops.size) aos with
 |some c=>if (Qzp (masks ops.toList []) ops.size c aos&&QAD (masks ops.toList []) ops.size c aos)=true/\Qte ops.toList=true/\aos.all Qb4=true then
   .rgc (QqO aos (QpP (masks ops.toList []) ops.size c)) (QqO aos (QsI (masks ops.toList []) ops.size c)) ((QsI (masks ops.toList []) ops.size c).map (Qlv (masks ops.toList []) ops.size c aos))
  else Qje ops aos
 |none=>Qje ops aos
def QCD:AOp->Bool
 | .st .. =>true
 |_=>false
def Qyi(aos:List AO):AOp->Bool
 | .ld (.t y) none=>Qti aos y Qni
 |_=>false
def QCM(aos:List AO)(d:Option Nat):Bool:=match d with
 |some z=>aos.any λo=>match o.op with
  | .st (.t y) _ _=>Nat.beq y z
  |_=>false
 |none=>false
def Qxm(aos:List AO)(k:Nat):List AO->Option Nat
 |[]=>none
 |o::r=>match (match o.op with
   | .ias _ (.t x) _=>Qti aos x (Qyi aos)&&QCM aos o.dst
   |_=>false)with
  |true=>some k
  |false=>Qxm aos (k+1) r
def QBy:AOp->Bool
 | .ld _ none=>true
 |_=>false
def Qx7(P:Program)(aos:List AO):Nat->List AO->Option Nat
 |_,[]=>none
 |k,o::r=>match o.op with
  | .call f xs=>(match QB4 P f&&xs.any λx=>match x with
    | .t s=>Qti aos s QBy
    |_=>false with
   |true=>some k
   |false=>Qx7 P aos (k+1) r)
  |_=>Qx7 P aos (k+1) r
def QAG(P:Program)(aos:List AO):Option Nat:=match Qxm aos 0 aos with
 |some c=>some c
 |none=>Qx7 P aos 0 aos
def QsO(P:Program)(ops:Array Oper)(aos:List AO):AC:=match aos.any λo=>QCD o.op with
 |true=>(match QAG P aos with
  |some c=>if (Qzp (masks ops.toList []) ops.size c aos&&QAD (masks ops.toList []) ops.size c aos)=true/\Qte ops.toList=true/\aos.all Qb4=true then
    .rgc (QqO aos (QpP (masks ops.toList []) ops.size c)) (QqO aos (QsI (masks ops.toList []) ops.size c)) ((QsI (masks ops.toList []) ops.size c).map (Qlv (masks ops.toList []) ops.size c aos))
   else Qlj ops aos
  |none=>Qlj ops aos)
 |false=>Qlj ops aos
def Qb9(P:Program)(N:Nat):Bool->Code->Option AC
 |_,.skip=>some .skip
 |_,.label _=>some .skip
 |_,.region _ ops draw=>match Qa2 P ops N ops.toList with
  |some aos=>if aos.all (gOk N)=true/\(draw=true->aos.all Qb4=true/\Qob ops.toList aos=true)then some (match draw with|true=>QsO P ops aos|false=> .reg false aos)
   else if draw=true/\aos.all (gOk N)=true/\aos.all QhA=true/\QjL ops.toList aos=true then some (QsN ops aos)else none
  |none=>none
 |rf,.seq a b=>match Qb9 P N rf a,Qb9 P N rf b with
  |some x,some y=>some (.seq x y)
  |_,_=>none
 |rf,.cond c a b=>match cx P 0 c,Qb9 P N rf a,Qb9 P N rf b with
  |some c,some x,some y=>some (.cond c x y)
  |_,_,_=>none
 |rf,.block id c=>match Qb9 P N rf c with
  |some x=>some (.block id x)
  |none=>none
 |rf,.loop c=>match Qb9 P N rf c with
  |some x=>some (.loop x)
  |none=>none
 |rf,.scope c=>Qb9 P N rf c
 |_,.exit id=>some (.exit id)
 |_,.ret=>some .ret
 |rf,.rangeFunc g ps a b=>match rf,cx P 0 g,ps.toList,Qb9 P N false a,Qb9 P N false b with
  |true,some (.t x),[p],some a,some b=>if p<N then some (.rfn (.t x) p a b)else none
  |_,_,_,_,_=>none
 |_,_=>none
abbrev Qgu (P:Program) (N:Nat):Code->Option AC:=Qb9 P N true
section
variable{P:Program}{ro:Option Nat}{N:Nat}{G0:Nat->Prop}{ι0:Io}{h0:Hp}{w0:World}
def exq(Q:Post):Exit->Lv->Hp->Prop
 | .normal=>Q .normal
 | .exit i=>Q (.exit i)
 | .ret=>Q .ret
 |_=>λ_ _=>False
def out(N:Nat)(G0:Nat->Prop)(ι0:Io)(h0:Hp)(w0:World)(Q:Post):Exit->Act->World->Prop:=
 λx a w=>∃L h,exq Q x L h/\Fits N G0 ι0 h0 w0 (lkL L) h a w
theorem least{p:Nat->Prop}:∀n,p n->∃m,p m/\∀k,p k->m<=k:=by
 intro n;induction n using Nat.strongRecOn with
 |_ n ih=>
  intro hn;by_cases h:∃k,k<n/\p k
  ·obtain⟨k,hk,hpk⟩:=h;exact ih k hk hpk
  ·exact⟨n,hn,λk hk=>by
    rcases Nat.lt_or_ge k n with h'|h'
    ·exact absurd ⟨k,h',hk⟩ h
    ·exact h'⟩
theorem QcX{b:Frame}{a:Act}{k:List Item}{cs:List Frame}{w:World}{c:Code}:step P (lone (b.atR a (.code (.scope c)::k)) cs w)= .next (lone (b.atR a (.code c:: .inScope c::k)) cs w):=
 step_lone_go (by simp[stepG,stepG.exec,Frame.atR])
theorem Qnr{b:Frame}{a:Act}{k:List Item}{cs:List Frame}{w:World}{c:Code}:step P (lone (b.atR a (.inScope c::k)) cs w)= .next (lone (b.atR a k) cs w):=
 step_lone_go (by simp[stepG,stepG.exec,Frame.atR])
theorem QgJ{c:Code}{Q:Exit->Act->World->Prop}{a:Act}{w:World}(h:c.wpIn (Fen ro) 0 P (Exit.noGoto Q) a w):(Code.scope c).wpIn (Fen ro) 0 P Q a w:=by
 intro b k cs hro hb hr;have h0:(lone (b.atR a (.code (.scope c)::k)) cs w).fenced P (Fen ro):=fenced_calm hb hr rfl;obtain⟨e,a₁,w₁,hq,harr⟩:=h b (.inScope c::k) cs hro hb hr;cases e with
 |normal=>exact⟨.normal,a₁,w₁,hq,.head h0 QcX (StepsIn.trans harr (.one (fenced_calm hb hr rfl) Qnr))⟩
 |exit id=>
  have hx:exitTo id (.inScope c::k)=exitTo id k:=by simp[exitTo]
  exact⟨.exit id,a₁,w₁,hq,λk' hk=> .head h0 QcX (harr.1 k' (by rw[hx];exact hk)),λhr' hk=>let⟨k₁,h1,h2⟩:=harr.2 hr' (by rw[hx];exact hk);⟨k₁,h1,.head h0 QcX h2⟩⟩
 |goto l=>exact hq.elim
 |ret=>exact⟨_,a₁,w₁,hq,.of_steps (.one h0 QcX) harr⟩
 |panic ch=>exact⟨_,a₁,w₁,hq,.of_steps (.one h0 QcX) harr⟩
 |outgrown=>exact⟨_,a₁,w₁,hq,.of_steps (.one h0 QcX) harr⟩
theorem Qnx{c:Code}{Q:Exit->Act->World->Prop}(I:Nat->Act->World->Prop)
 (round:∀n a w,I n a w->c.wpIn (Fen ro) 0 P (Exit.then (λa' w'=>∃n',n'<n/\I n' a' w') Q) a w):∀n a w,I n a w->(Code.loop c).wpIn (Fen ro) 0 P Q a w:=by
 intro n a w h
 classical
 have hex:∀a w,(∃n,I n a w)->∃m,I m a w/\∀k,I k a w->m<=k:=λa w ⟨n,hn⟩=>least n hn
 let μ:Act->World->Nat:=λa w=>if h:∃n,I n a w then Classical.choose (hex a w h)else 0
 have hμ:∀a w,(∃n,I n a w)->I (μ a w) a w:=λa w h=>by simp only[μ,dif_pos h];exact(Classical.choose_spec (hex a w h)).1
 have hμ':∀a w n,I n a w->μ a w<=n:=λa w n h=>by
  have h0:∃n,I n a w:=⟨n,h⟩;simp only[μ,dif_pos h0];exact(Classical.choose_spec (hex a w h0)).2 n h
 refine wpIn_loop (λa w=>∃n,I n a w) μ ⟨n,h⟩ λa w hI=> ?_
 refine wpIn_mono (round _ a w (hμ a w hI)) λx a' w' hx=> ?_
 cases x with
 |normal=>obtain⟨n',h1,h2⟩:=hx;exact⟨⟨n',h2⟩,Nat.lt_of_le_of_lt (hμ' a' w' n' h2) h1⟩
 |_=>exact hx
def Qqo(ms:List Nat)(n:Nat):Nat->List (AO×List AO)->Prop
 |_,[]=>True
 |k,(_,c)::r=>QzR ms n k=true/\Qqo ms n (k+1+c.length) r
def Qfh:List (AO×List AO)->List AO
 |[]=>[]
 |(o,c)::r=>o::(c++Qfh r)
def QAi:Nat->List (AO×List AO)->List (Nat×List Nat)
 |_,[]=>[]
 |k,(_,c)::r=>(k,List.range' (k+1) c.length)::QAi (k+1+c.length) r
theorem QkB{ms:List Nat}{n:Nat}:∀(aos:List AO) (k:Nat) (c:List AO) (bs:List (AO×List AO)),QiC ms n k aos=(c,bs)->aos=c++Qfh bs/\Qqo ms n (k+c.length) bs:=by
 intro aos;induction aos with
 |nil=>intro k c bs h;cases h;exact⟨rfl,trivial⟩
 |cons o r ih=>
  intro k c bs h;simp only[QiC]at h;generalize hs:QiC ms n (k+1) r=p at h;obtain⟨c',bs'⟩:=p;obtain⟨h1,h2⟩:=ih (k+1) c' bs' hs;simp only at h;split at h
  ·rename_i hb;simp only[Bool.and_eq_true]at hb;cases h;exact⟨by simp[Qfh,h1],hb.2,h2⟩
  ·cases h;refine⟨by simp[h1],?_⟩;simp only[List.length_cons];rw[show k+(c'.length+1)=k+1+c'.length by omega];exact h2
theorem QqL:∀(bs:List (AO×List AO)) (k:Nat),Qdx (QAi k bs)=List.range' k (Qfh bs).length:=by
 intro bs;induction bs with
 |nil=>intro k;rfl
 |cons q r ih=>
  intro k;obtain⟨o,c⟩:=q;simp only[QAi,Qdx,Qfh,List.length_cons,List.length_append,List.range'_succ,ih]
  congr 1
  rw[List.range'_append_1]
theorem Qyz{ops:Array Oper}{m b:Nat}(hm:h0.length<=m){Q:Exit->Act->World->Prop}{o:Oper}{ao:AO}{L:Lv}{h:Hp}{K:Lv->Hp->Prop}{K':Act->World->Prop}{a:Act}{w:World}(hok:ops[b]? =some o)(hao:QiP P ops N o=some ao)(hg:gOk N ao=true)
 (hv:Qja P m false [ao] L h K)(hf:Fits N G0 ι0 h0 w0 (lkL L) h a w)(hK:∀L' h' a' w',K L' h'->Fits N G0 ι0 h0 w0 (lkL L') h' a' w'->K' a' w'):wpOpIn (Fen ro) 0 P ops Q b K' a w:=by
 unfold wpOpIn;simp only[hok];obtain⟨G,ι,st⟩:=hf;obtain⟨hd,hdN,hop,hgs⟩:=Qbu hao;have hgN:=QfL hg;rcases hv with ⟨hgv,hv⟩|⟨hgv,hv⟩
 ·rw[Qca st.rel hgs hgv hgN];simp only[if_true];refine QjK hm hao hv ⟨G,ι,st⟩ λL' v h' a' w' hk' hf'=> ?_
  exact hK _ _ _ _ hk' (by rw[QaX];exact hf')
 ·rw[Qca st.rel hgs hgv hgN];simp only[Bool.false_eq_true,if_false];refine⟨λf _=>Fen.fn ro f,hK _ _ _ _ hv ⟨G,ι,?_⟩⟩;rw[QaX,hd];exact st.step hdN st.rel.hr (.tup #[] [] rfl (by simp)) (Ext.refl _ _ _ _)
theorem Qe6.of_take{aops:List AO}{n:Nat}:∀{l:List Nat} {e:Env} {h:Hp} {e':Env} {h':Hp},Qe6 P (aops.take n) l e h e' h'->Qe6 P aops l e h e' h':=by
 intro l;induction l with
 |nil=>intro e h e' h' hr;exact hr
 |cons i r ih=>
  intro e h e' h' ⟨o,e1,h1,ho,hs,hr⟩;refine⟨o,e1,h1,?_,hs,ih hr⟩;rw[List.getElem?_take]at ho;split at ho
  ·exact ho
  ·cases ho
theorem Quw{S:AC->Lv->Hp->Post->Prop}{m:Nat}{ops:Array Oper}{aops:List AO}{Q:Post}(hm:h0.length<=m)
 (hseq:∀a b L h Q,S (.seq a b) L h Q->S a L h λx L h=>match x with| .normal=>S b L h Q|x=>Q x L h)(hreg:∀d ops L h Q,S (.reg d ops) L h Q->Qja P m d ops L h λL h=>Q .normal L h)
 (hcomp:Qa2 P ops N ops.toList=some aops)(hg:aops.all (gOk N)=true):∀(bs:List (AO×List AO)) (c:List AO) (k:Nat) (L:Lv) (h:Hp),(∀i,(c++Qfh bs)[i]? =aops[k+i]?)->Qqo (masks ops.toList []) ops.size (k+c.length) bs->S (Qlk c bs) L h Q->
  ∃e' h',Qe6 P aops (List.range' k c.length) (lkL L) h e' h'/\Qu8 ro P N G0 ι0 h0 w0 ops aops (out N G0 ι0 h0 w0 Q) (QAi (k+c.length) bs) e' h':=by
 intro bs;induction bs with
 |nil=>
  intro c k L h hi _ hs;obtain⟨L',h',h1,h2⟩:=Qno (aops:=aops) c k L h _ (by simpa [Qfh]using hi) (hreg _ _ _ _ _ hs);exact⟨_,_,h1,λa w hf=>⟨L',h',h2,hf⟩⟩
 |cons q r ih=>
  intro c k L h hi hb hs;obtain⟨o,c'⟩:=q;obtain⟨hb1,hb2⟩:=hb;have hci:∀i,c[i]? =aops[k+i]? \/c.length<=i:=λi=>by
   rcases Nat.lt_or_ge i c.length with hlt|hge
   ·left;rw[<-hi i,gal hlt]
   ·exact .inr hge
  have hrun:Qja P m true c L h λL h=>S (.seq (.reg false [o]) (Qlk c' r)) L h Q:=hreg _ _ _ _ _ (hseq _ _ _ _ _ hs)
  obtain⟨L1,h1,q1,q2⟩:∃L' h',Qe6 P aops (List.range' k c.length) (lkL L) h (lkL L') h'/\S (.seq (.reg false [o]) (Qlk c' r)) L' h' Q:=by
   have hc2:∀i,c[i]? =((aops.take (k+c.length)))[k+i]? :=λi=>by
    rcases hci i with h|h
    ·rcases Nat.lt_or_ge i c.length with hlt|hge
     ·rw[List.getElem?_take_of_lt (by omega),h]
     ·rw[List.getElem?_eq_none hge,List.getElem?_eq_none (by simp;omega)]
    ·rw[List.getElem?_eq_none h,List.getElem?_eq_none (by simp;omega)]
   obtain⟨L',h',q1,q2⟩:=Qno (aops:=aops.take (k+c.length)) c k L h _ hc2 hrun;exact⟨L',h',Qe6.of_take q1,q2⟩
  refine⟨_,_,q1,?_⟩;have hob:aops[k+c.length]? =some o:=by rw[<-hi c.length];simp[Qfh]
  have hlen:=(QaD hcomp).1;obtain⟨oo,hoo⟩:∃oo,ops.toList[k+c.length]? =some oo:=⟨_,lgE (by have:=Qaa hob;omega)⟩;have hao:=(QaD hcomp).2 _ oo o hoo hob;have hgo:gOk N o=true:=by rw[List.all_eq_true]at hg;exact hg o (mgE hob)
  have hone:Qja P m false [o] L1 h1 λL h=>S (Qlk c' r) L h Q:=hreg _ _ _ _ _ (hseq _ _ _ _ _ q2)
  refine⟨?_,λa w K hf hK=> ?_⟩
  ·simp only[QzR,Bool.and_eq_true,List.all_eq_true,List.mem_range,Bool.or_eq_true,decide_eq_true_eq]at hb1;exact⟨hb1.1,λi h1 h2=>(hb1.2 i h2).resolve_left (by omega)⟩
  ·refine Qyz hm (by simpa using hoo) hao hgo hone hf λL' h' a' w' hk hf'=> ?_
   obtain⟨e3,h3,p1,p2⟩:=ih c' (k+c.length+1) L' h' (λi=>by
    have:=hi (c.length+1+i);rw[apQ (by omega)]at this;rw[show c.length+1+i-c.length=i+1 by omega]at this;simp only[Qfh,List.getElem?_cons_succ]at this;rw[this];congr 1;omega) hb2 hk
   exact hK _ _ _ _ _ _ hf' p1 p2
theorem Qp5{S:AC->Lv->Hp->Post->Prop}{m id:Nat}{ops:Array Oper}{aops:List AO}{Q:Post}{L:Lv}{h:Hp}{a:Act}{w:World}(hmo:P.follows .mixedOrders=true)(hm:h0.length<=m)
 (hseq:∀a b L h Q,S (.seq a b) L h Q->S a L h λx L h=>match x with| .normal=>S b L h Q|x=>Q x L h)(hreg:∀d ops L h Q,S (.reg d ops) L h Q->Qja P m d ops L h λL h=>Q .normal L h)
 (hcomp:Qa2 P ops N ops.toList=some aops)(hg:aops.all (gOk N)=true)(hk:aops.all Qb4=true)(hd:Qob ops.toList aops=true)(hf:Fits N G0 ι0 h0 w0 (lkL L) h a w)(hs:S (Qlj ops aops) L h Q):(Code.region id ops true).wpIn (Fen ro) 0 P (out N G0 ι0 h0 w0 Q) a w:=by
 unfold Qlj at hs;generalize hsp:QiC (masks ops.toList []) ops.size 0 aops=p at hs;obtain⟨c,bs⟩:=p;obtain⟨h1,h2⟩:=QkB aops 0 c bs hsp;obtain⟨e',h',q1,q2⟩:=Quw (ro:=ro) hm hseq hreg hcomp hg bs c 0 L h (λi=>by rw[<-h1];simp) h2 hs;refine Qp4 hmo hcomp hg hk hd hf ?_ q1 q2;rw[QqL,Nat.zero_add];have hlen:=(QaD hcomp).1;have:ops.size=c.length+(Qfh bs).length:=by
  rw[<-List.length_append,<-h1,<-hlen];simp
 rw[this,List.range_eq_range'];have:=List.range'_append_1 (s:=0) (m:=c.length) (n:=(Qfh bs).length);simpa using this
theorem QqQ:∀{l:List (List Nat)} {i:Nat} {x:List Nat},l[i]? =some x->Qo7 l i=x
 |[],_,_,h=>by simp at h
 |y::r,0,x,h=>by simpa [Qo7]using h
 |y::r,i+1,x,h=>by simp only[List.getElem?_cons_succ]at h;simp only[Qo7];exact QqQ h
theorem Qor:∀{l:List (List Nat)} {i:Nat},l.length<=i->Qo7 l i=[]
 |[],_,_=>rfl
 |y::r,0,h=>by simp at h
 |y::r,i+1,h=>by simp only[Qo7];exact Qor (by simpa using h)
theorem QoK{ops:Array Oper}{i j:Nat}(h:j∈Qo7 (Qsa (masks ops.toList []) ops.size) i):Qvl ops i j=true:=by
 rcases Nat.lt_or_ge i ops.size with hi|hi
 ·rw[QqQ (x:=(List.range i).filter λj=>((masks ops.toList []).getD i 0).testBit j) (by simp[Qsa,hi])]at h;exact(List.mem_filter.1 h).2
 ·rw[Qor (by simp[Qsa];exact hi)]at h;cases h
theorem Qsj{S:AC->Lv->Hp->Post->Prop}{m:Nat}{ops:Array Oper}{aops:List AO}{Q:Post}(hm:h0.length<=m)
 (hseq:∀a b L h Q,S (.seq a b) L h Q->S a L h λx L h=>match x with| .normal=>S b L h Q|x=>Q x L h)(hreg:∀d ops L h Q,S (.reg d ops) L h Q->Qja P m d ops L h λL h=>Q .normal L h)
 (hrgf:∀pre k ops L h Q,S (.rgf pre k ops) L h Q->Qus P m pre k [] ops L h λL h=>Q .normal L h)
 (hcomp:Qa2 P ops N ops.toList=some aops)(hg:aops.all (gOk N)=true)(hcon:aops.all QhA=true):∀(bs:List (AO×List AO)) (c:List AO) (k:Nat) (L:Lv) (h:Hp) (a:Act) (w:World),(∀i,(c++Qfh bs)[i]? =aops[k+i]?)->Qqo (masks ops.toList []) ops.size (k+c.length) bs->
   S (QlX (Qsa (masks ops.toList []) ops.size) k c bs) L h Q->Fits N G0 ι0 h0 w0 (lkL L) h a w->
  QAZ P h0.length ops aops (List.range' k c.length) (lkL L) h (Qqp ro P N G0 ι0 h0 w0 ops aops (out N G0 ι0 h0 w0 Q) (QAi (k+c.length) bs)):=by
 intro bs;have hci:∀(bs:List (AO×List AO)) (c:List AO) (k:Nat),(∀i,(c++Qfh bs)[i]? =aops[k+i]?)->∀i,i<c.length->c[i]? =aops[k+i]? :=λbs c k hi i hlt=>by rw[<-hi i,gal hlt]
 induction bs with
 |nil=>
  intro c k L h a w hi _ hs hf;obtain⟨mm,tr,e',h',q1,q2,q3,L',rfl,q4⟩:=QoQ hcomp (λi j=>QoK) hcon (hci [] c k hi) (hrgf _ _ _ _ _ _ hs) hf;exact⟨mm,tr,_,h',q1,q2,q3,λa w hf=>⟨L',h',q4,hf⟩⟩
 |cons q r ih=>
  intro c k L h a w hi hb hs hf;obtain⟨o,c'⟩:=q;obtain⟨hb1,hb2⟩:=hb;obtain⟨mm,tr,e',h',q1,q2,q3,L1,rfl,q4⟩:=QoQ hcomp (λi j=>QoK) hcon (hci ((o,c')::r) c k hi) (hrgf _ _ _ _ _ _ (hseq _ _ _ _ _ hs)) hf;refine⟨mm,tr,_,h',q1,q2,q3,?_⟩;have hob:aops[k+c.length]? =some o:=by rw[<-hi c.length];simp[Qfh]
  have hlen:=(QaD hcomp).1;obtain⟨oo,hoo⟩:∃oo,ops.toList[k+c.length]? =some oo:=⟨_,lgE (by have:=Qaa hob;omega)⟩;have hao:=(QaD hcomp).2 _ oo o hoo hob;have hgo:gOk N o=true:=by rw[List.all_eq_true]at hg;exact hg o (mgE hob)
  have hone:Qja P m false [o] L1 h' λL h=>S (QlX (Qsa (masks ops.toList []) ops.size) (k+c.length+1) c' r) L h Q:=hreg _ _ _ _ _ (hseq _ _ _ _ _ q4)
  refine⟨?_,λa w K hf hK=> ?_⟩
  ·simp only[QzR,Bool.and_eq_true,List.all_eq_true,List.mem_range,Bool.or_eq_true,decide_eq_true_eq]at hb1;exact⟨hb1.1,λi h1 h2=>(hb1.2 i h2).resolve_left (by omega)⟩
  ·refine Qyz hm (by simpa using hoo) hao hgo hone hf λL' h' a' w' hk hf'=> ?_
   exact hK _ _ _ _ hf' (ih c' (k+c.length+1) L' h' a' w' (λi=>by
    have:=hi (c.length+1+i);rw[apQ (by omega)]at this;rw[show c.length+1+i-c.length=i+1 by omega]at this;simp only[Qfh,List.getElem?_cons_succ]at this;rw[this];congr 1;omega) hb2 hk hf')
theorem QoM{S:AC->Lv->Hp->Post->Prop}{m id:Nat}{ops:Array Oper}{aops:List AO}{Q:Post}{L:Lv}{h:Hp}{a:Act}{w:World}(hmo:P.follows .mixedOrders=true)(hm:h0.length<=m)
 (hseq:∀a b L h Q,S (.seq a b) L h Q->S a L h λx L h=>match x with| .normal=>S b L h Q|x=>Q x L h)(hreg:∀d ops L h Q,S (.reg d ops) L h Q->Qja P m d ops L h λL h=>Q .normal L h)
 (hrgf:∀pre k ops L h Q,S (.rgf pre k ops) L h Q->Qus P m pre k [] ops L h λL h=>Q .normal L h)
 (hcomp:Qa2 P ops N ops.toList=some aops)(hg:aops.all (gOk N)=true)(hcon:aops.all QhA=true)(hd:QjL ops.toList aops=true)(hf:Fits N G0 ι0 h0 w0 (lkL L) h a w)(hs:S (Qje ops aops) L h Q):(Code.region id ops true).wpIn (Fen ro) 0 P (out N G0 ι0 h0 w0 Q) a w:=by
 unfold Qje at hs;generalize hsp:QiC (masks ops.toList []) ops.size 0 aops=p at hs;obtain⟨c,bs⟩:=p;obtain⟨h1,h2⟩:=QkB aops 0 c bs hsp;have hseg:=Qsj (ro:=ro) hm hseq hreg hrgf hcomp hg hcon bs c 0 L h a w (λi=>by rw[<-h1];simp) h2 hs hf;refine QyH hmo hcomp hg hd hf ?_ hseg;rw[QqL,Nat.zero_add];have hlen:=(QaD hcomp).1;have:ops.size=c.length+(Qfh bs).length:=by
  rw[<-List.length_append,<-h1,<-hlen];simp
 rw[this,List.range_eq_range'];have:=List.range'_append_1 (s:=0) (m:=c.length) (n:=(Qfh bs).length);simpa using this
theorem QrY{h h':Hp}{L:Lv}:∀{l:List (Nat×Bool)},QqX h h' L l->∀s b,(s,b)∈l->QaU h h' (lkN L s)/\(b=true->¬Qld (lkN L s)):=by
 intro l;induction l with
 |nil=>intro _ s b hs;cases hs
 |cons x r ih=>
  intro hl s b hs;rcases List.mem_cons.1 hs with rfl|hs
  ·refine⟨hl.1,λhb hi=> ?_⟩;have h2:=hl.2.1;subst hb;revert hi h2;generalize lkN L s=v;intro hi h2;unfold Qld at hi;split at hi
   ·exact h2
   ·exact hi
  ·exact ih hl.2.2 s b hs
theorem Qe6.heap{aops:List AO}:∀{l:List Nat} {e:Env} {h:Hp} {e':Env} {h':Hp},(∀j∈l,∀o,aops[j]? =some o->cls o.op=0)->Qe6 P aops l e h e' h'->h'=h:=by
 intro l;induction l with
 |nil=>intro e h e' h' _ hr;exact hr.2
 |cons i l ih=>
  intro e h e' h' hc hr;obtain⟨o,e1,h1,ho,hs,hr⟩:=hr;obtain⟨v,ea,rfl⟩:=hs.1.eff;have h2:=ea.same (hc i (by simp) o ho);subst h2;exact ih (λj hj=>hc j (by simp[hj])) hr
def QnA(P:Program)(aops:List AO)(late:Nat->List (Nat×Bool))(Q:Lv->Hp->Prop):List Nat->Lv->Hp->Prop
 |[],L,h=>Q L h
 |b::r,L,h=>∃ob,aops[b]? =some ob/\∃K:AV->Hp->Prop,(∀(m:Nat) (Le:Lv),(∀n∈Qa1 ob,lkL Le n=lkL L n)->Did P m false ob.op Le h λL' v h'=>L'=Le/\K v h')/\∀v h',K v h'->(Qni ob.op=true->h'=h)/\QqX h h' L (late b)/\QnA P aops late Q r (QdL L ob.dst v) h'
theorem QwV{Λ:Len}(hΛ:∀l,Λ l=(l.length:Int)){o:AO}{L:Lv}{h:Hp}{K:AV->Hp->Prop}(hv:QCd P Λ o L h K):∀(m:Nat) (Le:Lv),(∀n∈Qa1 o,lkL Le n=lkL L n)->Did P m false o.op Le h λL' v h'=>L'=Le/\K v h'/\(Qni o.op=true->h'=h):=by
 intro m Le hs;have hx:∀x∈Qbf o.op,ev (lkL L) x=ev (lkL Le) x:=λx hx=>Qgy λn hn=>(hs n (by
  simp only[Qa1,List.mem_append,List.mem_flatMap];exact .inr ⟨x,hx,hn⟩)).symm
 have main:∀(op:AOp),o.op=op->(∀f xs,op≠ .call f xs)->(∀x xs,op≠ .callv x xs)->QbD P Λ 0 true op L h (λ_ v h'=>K v h')->Did P m false op Le h λL' v h'=>L'=Le/\K v h'/\(Qni op=true->h'=h):=by
  intro op hop n1 n2 hv;rw[hop]at hx;have hd:=QeZ hΛ hv;cases hd with
  |wk hd=>cases hd
  |step v h' hst _ hk=>
   refine .step v h' ?_ (λh=>by cases h) ⟨rfl,hk,λhrd=> ?_⟩
   rotate_left
   ·have hc0:cls op=0:=by cases op<;>first|rfl|cases hrd
    exact(QcS (h':=h) hc0 (λx _=>by
     cases ev (lkL L) x with
     |c y=>exact QcR _ y
     |agg l=>exact λy _=>QcR _ y
     |tup=>trivial) (λ_ _ _=> .inr (Qde.refl _)) hst).1
   rw[<-Qey (op:=op) hx];exact hst
  |call f xs ho=>exact absurd ho (n1 f xs)
  |len x sz l ho hd=>cases hd
  |lenA x l v i n ho hd=>cases hd
  |nil ne x nl sz l ho hd=>cases hd
  |callv x xs b f caps ho=>exact absurd ho (n2 x xs)
  |yl x xs l ho=>exact absurd ho (n2 x xs)
  |ivk rows x xs b t caps g k pv rv ho hd=>cases hd
  |ar K0 hd=>cases hd
 have arena:∀(op:AOp),o.op=op->arW L op=true->vAr op L h K->Did P m false op Le h λL' v h'=>L'=Le/\K v h'/\(Qni op=true->h'=h):=by
  intro op hop har hv;rw[hop]at hx;have hxn:∀x∈Qbf op,evN L x=evN Le x:=λx hx'=>by rw[QaI,QaI];exact hx x hx'
  cases op with
  |ias sz x i=>
   refine .ar (λv h'=>h'=h/\K v h') rfl ?_ λv h' hk=>⟨rfl,hk.2,λ_=>hk.1⟩
   simp only[vAr]at hv |-;rw[<-hxn x (by simp[Qbf]),<-hxn i (by simp[Qbf])];split at hv
   ·split at hv
    ·exact⟨hv.1,λp hp=>⟨by trivial,hv.2 p hp⟩⟩
    ·exact hv
   ·exact hv
  |fa x n=>
   refine .ar K rfl ?_ λv h' hk=>⟨rfl,hk,λhrd=>by cases hrd⟩
   simp only[vAr]at hv |-;rw[<-hxn x (by simp[Qbf])];exact hv
  |nilc x=>
   refine .ar K rfl ?_ λv h' hk=>⟨rfl,hk,λhrd=>by cases hrd⟩
   simp only[vAr]at hv |-;rw[<-hxn x (by simp[Qbf])];exact hv
  |iaa n sz x i=>
   refine .ar K rfl ?_ λv h' hk=>⟨rfl,hk,λhrd=>by cases hrd⟩
   cases i with
   |t i=>
    simp only[vAr]at hv |-;have hi:lkN L i=lkN Le i:=hxn (.t i) (by simp[Qbf]);rw[<-hxn x (by simp[Qbf]),<-hi];exact hv
   |k c=>exact hv.elim
  |ld x n=>
   refine .ar K rfl ?_ λv h' hk=>⟨rfl,hk,λhrd=>by cases hrd⟩
   simp only[vAr]at hv |-;rw[<-hxn x (by simp[Qbf])];exact hv
  |st x v n=>
   refine .ar K rfl ?_ λv h' hk=>⟨rfl,hk,λhrd=>by cases hrd⟩
   simp only[vAr]at hv |-;rw[<-hxn x (by simp[Qbf]),<-hxn v (by simp[Qbf])];exact hv
  |_=>cases har
 have bslD:∀sz z n ps,o.op= .bsl sz z n ps->QbD P Λ 0 false (.bsl sz z n ps) L h (λ_ v h'=>K v h')->Did P m false (.bsl sz z n ps) Le h λL' v h'=>L'=Le/\K v h'/\(Qni (.bsl sz z n ps)=true->h'=h):=by
  intro sz z n ps hop hv;rw[hop]at hx;simp only[QbD]at hv;split at hv
  ·rename_i as h1 he;split at hv
   ·rename_i es hf;refine .step _ _ ?_ (λh=>by cases h) ⟨rfl,hv.2.2,λhrd=>by cases hrd⟩;rw[<-Qey (op:= .bsl sz z n ps) hx];rw[QeJ]at he;simp only[astep,he,hf];rw[if_pos hv.2.1]
   ·exact hv.elim
  ·exact hv.elim
 unfold QCd at hv;split at hv
 ·rename_i f xs hop;obtain⟨R,h1,h2⟩:=hv;rw[hop]at hx |-;refine .call f xs rfl (.fn ?_);rw[QcU]at h1 |-;rw[<-Qdv (e:=lkL L) (xs:=xs) hx];exact h1.mono λr h' hr=>⟨rfl,h2 r h' hr,λhrd=>by cases hrd⟩
 ·rename_i x xs hop;split at hv
  ·rename_i b f caps hxv;split at hv
   rotate_left
   ·exact hv.elim
   rename_i hlt;obtain⟨hfo,R,h1,h2⟩:=hv;rw[hop]at hx |-;refine .callv x xs b f caps rfl rfl ?_ hlt hfo (.fn ?_)
   ·rw[<-hx x (by simp[Qbf]),<-QaI];exact hxv
   ·rw[QcU]at h1 |-;rw[<-Qdv (e:=lkL L) (xs:=xs) λy hy=>hx y (by simp[Qbf,hy])];exact h1.mono λr h' hr=>⟨rfl,h2 r h' hr,λhrd=>by cases hrd⟩
  ·exact hv.elim
 ·rename_i sz z n ps hop;rw[hop];exact bslD sz z n ps hop hv
 ·rename_i sz bytes z x y hop;have hxn:∀w∈Qbf (.app sz bytes z x y),evN L w=evN Le w:=λw hw=>by rw[QaI,QaI];exact hx w (by rw[hop];exact hw)
  have ar:vAr (.app sz bytes z x y) L h K->Did P m false (.app sz bytes z x y) Le h λL' v h'=>L'=Le/\K v h'/\(Qni (.app sz bytes z x y)=true->h'=h):=λhv=>by
   refine .ar K rfl ?_ λv h' hk=>⟨rfl,hk,λhrd=>by cases hrd⟩
   simp only[vAr]at hv |-;rw[<-hxn x (by simp[Qbf]),<-hxn y (by simp[Qbf])];exact hv
  rw[hop];split at hv
  ·exact ar hv
  ·rcases hv with hv|hv
   ·exact main _ hop (λf xs e=>by cases e) (λx xs e=>by cases e) (hv ())
   ·exact ar (hv ())
  ·exact main _ hop (λf xs e=>by cases e) (λx xs e=>by cases e) hv
 ·rename_i n1 n2 n3 n4;split at hv
  ·rename_i har;exact arena _ rfl har hv
  ·exact main _ rfl (λf xs e=>n1 f xs e) (λx xs e=>n2 x xs e) hv
theorem QqP{aops:List AO}:∀{is:List Nat},(∀i∈is,i<aops.length)->∀{i:Nat} {r:List Nat},is=i::r->∃o,aops[i]? =some o/\QqO aops is=o::QqO aops r:=by
 rintro is hl i r rfl;have:=hl i (by simp);refine⟨_,lgE this,?_⟩;simp[QqO,lgE this]
theorem Qsz{Λ:Len}(hΛ:∀l,Λ l=(l.length:Int)){aops:List AO}{late:Nat->List (Nat×Bool)}{Q:Lv->Hp->Prop}:∀(is:List Nat) (L:Lv) (h:Hp),(∀i∈is,i<aops.length)->QCe P Λ (QqO aops is) (is.map late) L h Q->QnA P aops late Q is L h:=by
 intro is;induction is with
 |nil=>intro L h _ hv;exact hv
 |cons b r ih=>
  intro L h hl hv;obtain⟨ob,h1,h2⟩:=QqP hl rfl;rw[h2]at hv;exact⟨ob,h1,_,QwV hΛ hv,λv h' hk=>⟨hk.2,hk.1.1,ih _ _ (λi hi=>hl i (by simp[hi])) hk.1.2⟩⟩
theorem QwB{aops:List AO}{m:Nat}:∀(is:List Nat) (L:Lv) (h:Hp) (K:Lv->Hp->Prop),(∀i∈is,i<aops.length)->Qja P m true (QqO aops is) L h K->
  ∃L' h',Qe6 P aops is (lkL L) h (lkL L') h'/\K L' h':=by
 intro is;induction is with
 |nil=>intro L h K _ hv;exact⟨L,h,⟨rfl,rfl⟩,hv⟩
 |cons i is ih=>
  intro L h K hl hv;obtain⟨o,hoi,hg⟩:=QqP hl rfl;rw[hg]at hv;obtain⟨L1,h1,hr1,hk1⟩:=Qno (aops:=[o]) (m:=m) [o] 0 L h (λL' h'=>Qja P m true (QqO aops is) L' h' K) (λi=>by simp) (by
   rcases hv with ⟨g,hd⟩|⟨g,hd⟩
   ·exact .inl ⟨g,hd⟩
   ·exact .inr ⟨g,hd⟩)
  obtain⟨L2,h2,hr2,hk2⟩:=ih L1 h1 K (λi hi=>hl i (by simp[hi])) hk1;obtain⟨o',e1,h1',ho',hs,he⟩:=hr1;obtain⟨e,e'⟩:=he;simp only[List.getElem?_cons_zero,osi]at ho';subst ho' e';rw[<-e]at hs;exact⟨L2,h2,⟨o,_,_,hoi,hs,hr2⟩,hk2⟩
theorem Quh{id c:Nat}{ops:Array Oper}{aops:List AO}{Q:Exit->Act->World->Prop}{L L1:Lv}{h:Hp}{a:Act}{w:World}{QL:Lv->Hp->Prop}(hmo:P.follows .mixedOrders=true)
 (hcomp:Qa2 P ops N ops.toList=some aops)(hg:aops.all (gOk N)=true)(hk:aops.all Qb4=true)(hch:Qzp (masks ops.toList []) ops.size c aops=true)(hore:QAD (masks ops.toList []) ops.size c aops=true)(hdir:Qte ops.toList=true)(hf:Fits N G0 ι0 h0 w0 (lkL L) h a w)
 (hE:Qe6 P aops (QpP (masks ops.toList []) ops.size c) (lkL L) h (lkL L1) h)
 (hW:QnA P aops (Qlv (masks ops.toList []) ops.size c aops) QL (QsI (masks ops.toList []) ops.size c) L1 h)
 (hQ:∀L h a w,QL L h->Fits N G0 ι0 h0 w0 (lkL L) h a w->Q .normal a w):(Code.region id ops true).wpIn (Fen ro) 0 P Q a w:=by
 simp only[Qzp,Bool.and_eq_true,List.all_eq_true,Bool.or_eq_true,decide_eq_true_eq]at hch;obtain⟨⟨⟨c1,c2⟩,c3⟩,c4⟩:=hch;generalize hlt0:Qlv (masks ops.toList []) ops.size c aops=lt at*;generalize hes:QqO aops (QpP (masks ops.toList []) ops.size c)=es at*;have hlen:=(QaD hcomp).1;have hsz:ops.size=aops.length:=by rw[<-hlen];simp
 have memE:∀i,i∈QpP (masks ops.toList []) ops.size c↔i<ops.size/\isW (masks ops.toList []) c i=false:=λi=>by simp[QpP]
 have memW:∀i,i∈QsI (masks ops.toList []) ops.size c↔i<ops.size/\isW (masks ops.toList []) c i=true:=λi=>by simp[QsI]
 have hes':∀i o,i∈QpP (masks ops.toList []) ops.size c->aops[i]? =some o->o∈es:=λi o hi ho=>by
  rw[<-hes];exact List.mem_filterMap.2 ⟨i,hi,ho⟩
 have hd1:∀i o,ops.toList[i]? =some o->∀j∈direct o,j<i:=by
  intro i o ho j hj;simp only[Qte,List.all_eq_true,List.mem_range]at hdir;have:=hdir i (Qaa ho);rw[ho]at this;simp only[List.all_eq_true,decide_eq_true_eq]at this;exact this j hj
 have hempty:∀listed rem,Rem ops listed rem->Region.ready .any ops listed=[]->rem=[]:=by
  intro listed rem hr hready;cases rem with
  |nil=>rfl
  |cons i rem=>
   exfalso;have hi:=(hr.mem i).1 (by simp);have ho:ops.toList[i]? =some (ops.toList[i]'(by simpa using hi.1)):=lgE _;have:i∈Region.ready .any ops listed:=by
    rw[QcF];refine⟨hi.1,hi.2,_,ho,λm hm=> ?_⟩;have hmi:=hd1 i _ ho m hm;have hnot:m∉i::rem:=by
     intro hmem;simp only[List.mem_cons]at hmem;rcases hmem with h|h
     ·omega
     ·have:=(List.pairwise_cons.1 hr.sorted).1 m h;omega
    have hms:m<ops.size:=by omega
    have:¬(listed.getD m true=false):=λhf=>hnot ((hr.mem m).2 ⟨hms,hf⟩)
    simp only[Array.getD_eq_getD_getElem?,agQ (show m<listed.size by rw[hr.size];exact hms),Option.getD_some]at this |-;simpa using this
   rw[hready]at this;cases this
 have hdone:∀listed rem i o j,Rem ops listed rem->Closed ops listed->ops.toList[i]? =some o->(∀m∈direct o,listed.getD m false=true)->((masks ops.toList []).getD i 0).testBit j=true->j∈rem->False:=by
  intro listed rem i o j hr hc ho hdir hb hj;have:=Qez hr.size hc i o j ho hdir hb;have hj':=(hr.mem j).1 hj;simp only[Array.getD_eq_getD_getElem?,agQ (show j<listed.size by rw[hr.size];exact hj'.1),Option.getD_some]at this hj';rw[this]at hj';simp at hj'
 have claim:∀(fuel:Nat) (listed:Array Bool) (rem:List Nat) (Le L:Lv) (h:Hp) (a:Act) (w:World),Rem ops listed rem->rem.length<=fuel->Closed ops listed->Fits N G0 ι0 h0 w0 (lkL Le) h a w->
   Qe6 P aops (rem.filter λi=> !isW (masks ops.toList []) c i) (lkL Le) h (lkL L) h->(∀s,s∉Qtj es->lkL Le s=lkL L s)->
   QnA P aops lt QL (rem.filter λi=>isW (masks ops.toList []) c i) L h->wpAnyIn (Fen ro) 0 P .any ops Q fuel listed a w:=by
  intro fuel;have stop:∀(listed:Array Bool) (Le L:Lv) (h:Hp) (a:Act) (w:World),Fits N G0 ι0 h0 w0 (lkL Le) h a w->Qe6 P aops (List.filter (λi=> !isW (masks ops.toList []) c i) []) (lkL Le) h (lkL L) h->
    QnA P aops lt QL (List.filter (λi=>isW (masks ops.toList []) c i) []) L h->Q .normal a w:=by
   intro listed Le L h a w hf hrun hw;obtain⟨e,_⟩:=hrun;exact hQ L h a w hw (by rw[e];exact hf)
  induction fuel with
  |zero=>
   intro listed rem Le L h a w hr hl hc hf hrun hee hw;obtain rfl:rem=[]:=lzQ (by omega);refine⟨?_,stop listed Le L h a w hf hrun hw⟩;apply List.eq_nil_iff_forall_not_mem.2;intro i hi;rw[QcF]at hi;have:=(hr.mem i).2 ⟨hi.1,hi.2.1⟩;cases this
  |succ fuel ih=>
   intro listed rem Le L h a w hr hl hc hf hrun hee hw;refine⟨λhready=> ?_,λi hi=> ?_⟩
   ·obtain rfl:=hempty listed _ hr hready;exact stop listed Le L h a w hf hrun hw
   ·rw[QcF]at hi;obtain⟨hin,hil,o,ho,hdr⟩:=hi;have himem:=(hr.mem i).2 ⟨hin,hil⟩;have hoi:ops[i]? =some o:=by simpa using ho
    obtain⟨l1,l2,rfl⟩:=List.append_of_mem himem;have hpair:=hr.sorted;rw[List.pairwise_append]at hpair;have hl1:∀j∈l1,j<i:=λj hj=>hpair.2.2 j hj i (by simp)
    have hrm:∀j,j∈l1++i::l2->j<ops.size:=λj hj=>((hr.mem j).1 hj).1
    have hnb:∀j,j∈l1++i::l2->¬((masks ops.toList []).getD i 0).testBit j=true:=λj hj hb=>hdone listed _ i o j hr hc ho hdr hb hj
    obtain⟨hr2,hc2⟩:=Qg9 hr hc hin ho hdr hd1;cases hwi:isW (masks ops.toList []) c i with
    |false=>
     have fe:List.filter (λi=> !isW (masks ops.toList []) c i) (l1++i::l2)=List.filter (λi=> !isW (masks ops.toList []) c i) l1++i::List.filter (λi=> !isW (masks ops.toList []) c i) l2:=by
      rw[List.filter_append,List.filter_cons];simp[hwi]
     have fw:List.filter (λi=>isW (masks ops.toList []) c i) (l1++i::l2)=List.filter (λi=>isW (masks ops.toList []) c i) (l1++l2):=by
      rw[List.filter_append,List.filter_cons,List.filter_append];simp[hwi]
     have hiE:=(memE i).2 ⟨hin,hwi⟩;have hcompat:∀j∈List.filter (λi=> !isW (masks ops.toList []) c i) l1,∀x y,aops[j]? =some x->aops[i]? =some y->compat x y=true:=by
      intro j hj x y hx hy;obtain⟨hj1,hj2⟩:=List.mem_filter.1 hj;have hjE:=(memE j).2 ⟨hrm j (by simp[hj1]),by simpa using hj2⟩;rcases c3 j hjE i hiE with (h1|h1)|h1
      ·have:=hl1 j hj1;omega
      ·exact(hnb j (by simp[hj1]) h1).elim
      ·rw[hx,hy]at h1;exact h1
     rw[fe]at hrun;rw[fw]at hw;obtain⟨ao,e1,h1,hao,hstep,hrest⟩:=front hcomp hk _ i _ _ h _ _ a w hf hcompat hrun;have hco:=(QaD hcomp).2 i o ao ho hao;have hgo:=QfL (N:=N) (by rw[List.all_eq_true]at hg;exact hg ao (mgE hao));have hz:cls ao.op=0:=by have:=c2 i hiE;rw[hao]at this;simpa using this
     obtain⟨va,ea,rfl⟩:=hstep.1.eff;have:=ea.same hz;subst this;unfold wpOpIn;simp only[hoi];refine QhZ hco hgo hstep.1 hf λa' w' hf'=>ih (listed.setIfInBounds i true) (l1++l2) (QdL Le ao.dst va) L _ a' w' hr2 (by simp at hl |-;omega) hc2 (by rw[QaX];exact hf') ?_ (λs hs=> ?_) hw
     ·rw[QaX,List.filter_append];exact hrest
     ·rw[QaX,Qbl λhd=>hs (by simp only[Qtj,List.mem_filterMap];exact⟨ao,hes' i ao hiE hao,hd⟩)];exact hee s hs
    |true=>
     have fe:List.filter (λi=> !isW (masks ops.toList []) c i) (l1++i::l2)=List.filter (λi=> !isW (masks ops.toList []) c i) (l1++l2):=by
      rw[List.filter_append,List.filter_cons,List.filter_append];simp[hwi]
     have hiW:=(memW i).2 ⟨hin,hwi⟩;have fw:List.filter (λi=>isW (masks ops.toList []) c i) (l1++i::l2)=i::List.filter (λi=>isW (masks ops.toList []) c i) (l1++l2):=by
      have:List.filter (λi=>isW (masks ops.toList []) c i) l1=[]:=by
       rw[List.filter_eq_nil_iff];intro j hj hwj;have hjW:=(memW j).2 ⟨hrm j (by simp[hj]),hwj⟩;rcases(c1 i hiW).1 j hjW with h1|h1
       ·have:=hl1 j hj;omega
       ·exact hnb j (by simp[hj]) h1
      rw[List.filter_append,List.filter_cons,List.filter_append,this];simp[hwi]
     rw[fe]at hrun;rw[fw]at hw;obtain⟨ob,hob,K,hdid,hnext⟩:=hw;have hgn:ob.g=none:=by have:=(c1 i hiW).2;rw[hob]at this;simpa using this
     have hco:=(QaD hcomp).2 i o ob ho hob;have hgo:gOk N ob=true:=by rw[List.all_eq_true]at hg;exact hg ob (mgE hob)
     have hpend:∀j∈List.filter (λi=> !isW (masks ops.toList []) c i) (l1++l2),∀oj,aops[j]? =some oj->oj∈es/\cls oj.op=0/\((∀x,oj.dst=some x->x∉Qa1 ob/\ob.dst≠some x)/\(∀x,ob.dst=some x->x∉Qa1 oj))/\(QqW oj=true\/Qni ob.op=true)/\∀s∈Qfj oj,(s,QvS oj.op)∈lt i:=by
      intro j hj oj hoj;obtain⟨hj1,hj2⟩:=List.mem_filter.1 hj;have hjr:j∈l1++i::l2:=by
       rcases List.mem_append.1 hj1 with h|h
       ·exact List.mem_append_left _ h
       ·exact List.mem_append_right _ (List.mem_cons_of_mem _ h)
      have hjE:=(memE j).2 ⟨hrm j hjr,by simpa using hj2⟩;refine⟨hes' j oj hjE hoj,by have:=c2 j hjE;rw[hoj]at this;simpa using this,?_⟩;rcases c4 j hjE i hiW with h1|h1
      ·exact(hnb j hjr h1.2).elim
      ·have hlts:∀s∈Qfj oj,(s,QvS oj.op)∈lt i:=λs hs=>by
        rw[<-hlt0,Qlv];refine List.mem_flatMap.2 ⟨oj,List.mem_filterMap.2 ⟨j,List.mem_filter.2 ⟨hjE,?_⟩,hoj⟩,List.mem_map.2 ⟨s,hs,rfl⟩⟩;simp only[Bool.not_eq_true',Bool.eq_false_iff,ne_eq,Bool.and_eq_true,decide_eq_true_eq];exact λhall=>hnb j hjr hall.2
       rw[hoj,hob]at h1;simp only[Qxf,Bool.and_eq_true,Bool.or_eq_true]at h1;obtain⟨⟨h2,h3⟩,h4⟩:=h1;refine⟨⟨λx hx=> ?_,λx hx=> ?_⟩,h4,hlts⟩
       ·rw[hx]at h2;simp only[Bool.and_eq_true,Bool.not_eq_true',bne_iff_ne]at h2;exact⟨by simpa using h2.1,h2.2⟩
       ·rw[hx]at h3;simpa using h3
     have hslots:∀n∈Qa1 ob,lkL Le n=lkL L n:=λn hn=>by
      refine(Qe6.slot (λj hj oj hoj hd=> ?_) hrun).symm;exact((hpend j hj oj hoj).2.2.1.1 n hd).1 hn
     have hone:Qja P h0.length false [ob] Le h λL' h'=>∃v,L'=QdL Le ob.dst v/\K v h':=by
      refine .inl ⟨by rw[hgn];rfl,?_⟩;refine(hdid _ Le hslots).mono λL' v h' hk=> ?_
      obtain⟨rfl,hk⟩:=hk;exact⟨v,rfl,hk⟩
     refine Qyz (Nat.le_refl _) hoi hco hgo hone hf λL' h' a' w' ⟨v,e,hk⟩ hf'=> ?_
     subst e;obtain⟨hsm,hlt,hrest⟩:=hnext v h' hk;refine ih (listed.setIfInBounds i true) (l1++l2) (QdL Le ob.dst v) (QdL L ob.dst v) h' a' w' hr2 (by simp at hl |-;omega) hc2 hf' ?_ (λs hs=> ?_) hrest
     ·rw[QaX,QaX];refine Qe6.late2 (λj hj oj hoj=> ?_) (List.Pairwise.filter _ hr2.sorted) (λi2 hi2 o2 ho2 s hs2 j2 hj2 hle o3 ho3=> ?_) hrun
      ·obtain⟨z1,z2,z3,z4⟩:=hpend j hj oj hoj;refine⟨z2,z4.1.imp (λh=>h) hsm,z3.2,λx hx=>(z3.1 x hx).2,λs hs=> ?_⟩;have:=QrY hlt s _ (z4.2 s hs)
       rwa [Qb2]at this
      ·obtain⟨m1,m2⟩:=List.mem_filter.1 hi2;obtain⟨n1,n2⟩:=List.mem_filter.1 hj2;have hmr:∀x,x∈l1++l2->x∈l1++i::l2:=λx hx=>by
        rcases List.mem_append.1 hx with h|h
        ·exact List.mem_append_left _ h
        ·exact List.mem_append_right _ (List.mem_cons_of_mem _ h)
       have hiE:=(memE i2).2 ⟨hrm i2 (hmr i2 m1),by simpa using m2⟩;have hjE:=(memE j2).2 ⟨hrm j2 (hmr j2 n1),by simpa using n2⟩;simp only[QAD,List.all_eq_true,Bool.or_eq_true,decide_eq_true_eq]at hore;rcases hore i2 hiE j2 hjE with h|h
       ·omega
       ·rw[ho2,ho3]at h;simp only[List.all_eq_true,bne_iff_ne,ne_eq]at h;exact h s hs2
     ·rw[QaX,QaX];cases hd:ob.dst with
      |none=>exact hee s hs
      |some d=>
       by_cases e:d=s
       ·subst e;simp[Qcx,upd]
       ·rw[Qbl (by simpa using e),Qbl (by simpa using e)];exact hee s hs
 refine wpIn_region_any hmo (claim ops.size (Array.replicate ops.size false) (List.range ops.size) L L1 h a _ ?_ ?_ ?_ (hf.same_heap rfl) hE ?_ hW)
 ·refine⟨by simp,λi=> ?_,List.pairwise_lt_range⟩;simp only[List.mem_range,Array.getD_eq_getD_getElem?,Array.getElem?_replicate];constructor
  ·intro hi;exact⟨hi,by simp[hi]⟩
  ·exact λhi=>hi.1
 ·simp
 ·intro i o ho hl;have hi:i<ops.size:=by simpa using Qaa ho
  simp[Array.getD_eq_getD_getElem?,hi]at hl
 ·intro s hs;refine(Qe6.slot (λj hj oj hoj hd=>hs ?_) hE).symm;simp only[Qtj,List.mem_filterMap];exact⟨oj,hes' j oj hj hoj,hd⟩
theorem QlE{Λ:Len}(hΛ:∀l,Λ l=(l.length:Int)){m id c:Nat}{ops:Array Oper}{aos:List AO}{Q:Post}{L:Lv}{h:Hp}{a:Act}{w:World}(hm:P.follows .mixedOrders=true)
 (haos:Qa2 P ops N ops.toList=some aos)(k1:aos.all (gOk N)=true)(hcc:(Qzp (masks ops.toList []) ops.size c aos&&QAD (masks ops.toList []) ops.size c aos)=true/\Qte ops.toList=true/\aos.all Qb4=true)(hf:Fits N G0 ι0 h0 w0 (lkL L) h a w)
 (hv:vcC P Λ m (.rgc (QqO aos (QpP (masks ops.toList []) ops.size c)) (QqO aos (QsI (masks ops.toList []) ops.size c)) ((QsI (masks ops.toList []) ops.size c).map (Qlv (masks ops.toList []) ops.size c aos))) L h Q):
  (Code.region id ops true).wpIn (Fen ro) 0 P (out N G0 ι0 h0 w0 Q) a w:=by
 obtain⟨hc1,hc2⟩:=Bool.and_eq_true _ _▸hcc.1;have hlen:=(QaD haos).1;have hsz:ops.size=aos.length:=by rw[<-hlen];simp
 simp only[vcC]at hv;obtain⟨L1,h1,hr,hv2⟩:=QwB (aops:=aos) _ L h _ (λi hi=>by
  have:=(List.mem_filter.1 hi).1;rw[List.mem_range]at this;omega) (Qes hΛ hv)
 have hh:=Qe6.heap (λj hj o ho=>by
  have:=hc1;simp only[Qzp,Bool.and_eq_true,List.all_eq_true]at this;have:=this.1.1.2 j hj;rw[ho]at this;simpa using this) hr
 subst hh;exact Quh hm haos k1 hcc.2.2 hc1 hc2 hcc.2.1 hf hr (Qsz hΛ _ _ _ (λi hi=>by
  have:=(List.mem_filter.1 hi).1;rw[List.mem_range]at this;omega) hv2) λL h a w hq hf=>⟨L,h,hq,hf⟩
theorem Qro{Λ:Len}(hΛ:∀l,Λ l=(l.length:Int)){m:Nat}(hm:P.follows .mixedOrders=true)(hm0:h0.length<=m){rf:Bool}(hrf:∀(g:Operand) (ps:Array Tmp) (x y:Code) (ac:AC) (L:Lv) (h:Hp) (Q:Post) (a:Act) (w:World),Qb9 P N rf (.rangeFunc g ps x y)=some ac->vcC P Λ m ac L h Q->Fits N G0 ι0 h0 w0 (lkL L) h a w->(Code.rangeFunc g ps x y).wpIn (Fen ro) 0 P (out N G0 ι0 h0 w0 Q) a w):
  ∀(c:Code) (ac:AC) (L:Lv) (h:Hp) (Q:Post) (a:Act) (w:World),Qb9 P N rf c=some ac->vcC P Λ m ac L h Q->
  Fits N G0 ι0 h0 w0 (lkL L) h a w->c.wpIn (Fen ro) 0 P (out N G0 ι0 h0 w0 Q) a w:=by
 intro c;induction c with
 |skip=>
  intro ac L h Q a w hc hv hf;simp only[Qb9,osi]at hc;subst hc;exact wpIn_skip ⟨L,h,hv,hf⟩
 |label l=>
  intro ac L h Q a w hc hv hf;simp only[Qb9,osi]at hc;subst hc;exact wpIn_label ⟨L,h,hv,hf⟩
 |region id ops draw=>
  intro ac L h Q a w hc hv hf;simp only[Qb9]at hc;split at hc
  ·rename_i aos haos;split at hc
   ·rename_i hcond;cases hc;cases draw with
    |false=>
     refine wpIn_region ?_;rw[List.range_eq_range'];have:=Qsd (ro:=ro) (ops:=ops) (Q:=out N G0 ι0 h0 w0 Q) hm0 ops.toList aos 0 L h _ a w (by simp) haos hcond.1 (Qes hΛ hv) hf (λL' h' a' w' hk hf'=>⟨L',h',hk,hf'⟩);simpa using this
    |true=>
     have old:vcC P Λ m (Qlj ops aos) L h Q->(Code.region id ops true).wpIn (Fen ro) 0 P (out N G0 ι0 h0 w0 Q) a w:=λhv=>
      Qp5 (S:=λac L h Q=>vcC P Λ m ac L h Q) hm hm0 (λ_ _ _ _ _ h=>h) (λ_ _ _ _ _ h=>Qes hΛ h) haos hcond.1 (hcond.2 rfl).1 (hcond.2 rfl).2 hf hv
     have hold:=old;simp only[QsO]at hv;split at hv
     ·split at hv
      ·rename_i c hc;split at hv
       ·rename_i hcc;exact QlE hΛ hm haos hcond.1 hcc hf hv
       ·exact hold hv
      ·exact hold hv
     ·exact hold hv
   ·split at hc
    ·rename_i hcond;cases hc;obtain⟨rfl,k1,k2,k3⟩:=hcond;have old:vcC P Λ m (Qje ops aos) L h Q->(Code.region id ops true).wpIn (Fen ro) 0 P (out N G0 ι0 h0 w0 Q) a w:=λhv=>
      QoM (S:=λac L h Q=>vcC P Λ m ac L h Q) hm hm0 (λ_ _ _ _ _ h=>h) (λ_ _ _ _ _ h=>Qes hΛ h) (λ_ _ _ _ _ _ h=>QuV hΛ h) haos k1 k2 k3 hf hv
     unfold QsN at hv;split at hv
     ·rename_i c hc;split at hv
      ·rename_i hcc;exact QlE hΛ hm haos k1 hcc hf hv
      ·exact old hv
     ·exact old hv
    ·cases hc
  ·cases hc
 |seq x y ihx ihy=>
  intro ac L h Q a w hc hv hf;simp only[Qb9]at hc;split at hc
  ·rename_i cx' cy' hx hy;cases hc;refine wpIn_seq (wpIn_mono (ihx cx' L h _ a w hx hv hf) λe a' w' ⟨L',h',hq,hf'⟩=> ?_);cases e with
   |normal=>exact ihy cy' L' h' Q a' w' hy hq hf'
   |exit i=>exact⟨L',h',hq,hf'⟩
   |ret=>exact⟨L',h',hq,hf'⟩
   |goto=>exact hq.elim
   |panic=>exact hq.elim
   |outgrown=>exact hq.elim
  ·cases hc
 |cond c x y ihx ihy=>
  intro ac L h Q a w hc hv hf;simp only[Qb9]at hc;split at hc
  ·rename_i c' cx' cy' hcc hx hy;cases hc;simp only[vcC]at hv;split at hv
   ·rename_i t ht;obtain⟨G,ι,st⟩:=hf;have hr:=Qae hcc st.rel;rw[QaI]at ht;rw[ht]at hr;have he:=QfO hr;cases t with
    |true=>exact wpIn_cond_true he (ihx cx' L h Q a w hx hv ⟨G,ι,st⟩)
    |false=>exact wpIn_cond_false he (ihy cy' L h Q a w hy hv ⟨G,ι,st⟩)
   ·exact hv.elim
  ·cases hc
 |block id c ih=>
  intro ac L h Q a w hc hv hf;simp only[Qb9]at hc;split at hc
  ·rename_i c' hcc;cases hc;refine wpIn_block (wpIn_mono (ih c' L h _ a w hcc hv hf) λe a' w' ⟨L',h',hq,hf'⟩=> ?_);cases e with
   |normal=>exact⟨L',h',hq,hf'⟩
   |ret=>exact⟨L',h',hq,hf'⟩
   |exit i=>
    simp only[exq]at hq;simp only[Exit.inBlock];split at hq
    ·rename_i hb;have:i=id:=Nat.eq_of_beq_eq_true hb;rw[if_pos this];exact⟨L',h',hq,hf'⟩
    ·rename_i hb;have:¬i=id:=λe=>by subst e;simp at hb
     rw[if_neg this];exact⟨L',h',hq,hf'⟩
   |goto=>exact hq.elim
   |panic=>exact hq.elim
   |outgrown=>exact hq.elim
  ·cases hc
 |loop c ih=>
  intro ac L h Q a w hc hv hf;simp only[Qb9]at hc;split at hc
  ·rename_i c' hcc;cases hc;simp only[vcC]at hv;obtain⟨I,n,L1,h1,hwk,hstart,hround⟩:=hv;refine Qnx (λn a w=>∃L h,I n L h/\Fits N G0 ι0 h0 w0 (lkL L) h a w) ?_ n a w ⟨L1,h1,hstart,hwk.fits hm0 hf⟩;intro n a w ⟨L2,h2,hI,hf2⟩;refine wpIn_mono (ih c' L2 h2 _ a w hcc (hround n L2 h2 hI) hf2) λe a' w' ⟨L',h',hq,hf'⟩=> ?_
   cases e with
   |normal=>
    obtain⟨n',L3,h3,h4,h5,h6⟩:=hq;exact⟨n',h4,L3,h3,h6,h5.fits hm0 hf'⟩
   |exit i=>
    obtain⟨L3,h3,h4,h5⟩:=hq;exact⟨L3,h3,h5,h4.fits hm0 hf'⟩
   |ret=>exact⟨L',h',hq,hf'⟩
   |goto=>exact hq.elim
   |panic=>exact hq.elim
   |outgrown=>exact hq.elim
  ·cases hc
 |scope c ih=>
  intro ac L h Q a w hc hv hf;simp only[Qb9]at hc;refine QgJ (wpIn_mono (ih ac L h Q a w hc hv hf) λe a' w' hq=> ?_);obtain⟨L',h',hq,hf'⟩:=hq;cases e with
  |normal=>exact⟨L',h',hq,hf'⟩
  |exit i=>exact⟨L',h',hq,hf'⟩
  |ret=>exact⟨L',h',hq,hf'⟩
  |goto=>exact hq.elim
  |panic=>exact hq.elim
  |outgrown=>exact hq.elim
 |exit id=>
  intro ac L h Q a w hc hv hf;simp only[Qb9,osi]at hc;subst hc;exact wpIn_exit ⟨L,h,hv,hf⟩
 |ret=>
  intro ac L h Q a w hc hv hf;simp only[Qb9,osi]at hc;subst hc;exact wpIn_ret ⟨L,h,hv,hf⟩
 |goto l=>intro ac L h Q a w hc;simp[Qb9]at hc
 |rangeFunc g ps x y _ _=>intro ac L h Q a w hc hv hf;exact hrf g ps x y ac L h Q a w hc hv hf
 |refuse=>intro ac L h Q a w hc;simp[Qb9]at hc
theorem QlQ{Λ:Len}(hΛ:∀l,Λ l=(l.length:Int)){m:Nat}(hm:P.follows .mixedOrders=true)(hm0:h0.length<=m)(c:Code)(ac:AC)(L:Lv)(h:Hp)(Q:Post)(a:Act)(w:World)(hc:Qb9 P N false c=some ac)(hv:vcC P Λ m ac L h Q)(hf:Fits N G0 ι0 h0 w0 (lkL L) h a w):
  c.wpIn (Fen ro) 0 P (out N G0 ι0 h0 w0 Q) a w:=
 Qro hΛ hm hm0 (λg ps x y ac L h Q a w hc=>by simp[Qb9]at hc) c ac L h Q a w hc hv hf
end
section
variable{G:Nat->Prop}{ι:Io}{h:Hp}{w w':World}
theorem QhN(hs:∀b,G b\/owned ι h b->w'.heap[b]? =w.heap[b]?):∀l k,h[l]? =some k->∃k',h[l]? =some k'/\Kept ι ι w w' l k k':=λl k hk=>
 ⟨k,hk,Kept.frame rfl λb hb=>hs b (.inr ⟨l,k,hk,hb⟩)⟩
theorem HR.other(r:HR G ι h w)(hs:∀b,G b\/owned ι h b->w'.heap[b]? =w.heap[b]?)(hz:w.heap.size<=w'.heap.size):HR G ι h w' where
 len:=r.len
 own:=r.own
 g b hb:=⟨by have:=(r.g b hb).1;omega,(r.g b hb).2⟩
 blk l k hk:=BR.carry (λb hb=>⟨hb,hs b (.inl hb)⟩) (QhN hs) (r.blk l k hk) rfl λb hb=>hs b (.inr ⟨l,k,hk,hb⟩)
theorem VR.other{v:Value}{x:AV}(hx:VR G w ι h v x)(hs:∀b,G b\/owned ι h b->w'.heap[b]? =w.heap[b]?):VR G w' ι h v x:=
 hx.mono (λb hb=>⟨hb,hs b (.inl hb)⟩) (QhN hs)
theorem Ext.other{G0:Nat->Prop}{ι0:Io}{h0:Hp}{w0:World}(e:Ext G0 ι0 h0 w0 G ι h w)(hs:∀b,G b\/owned ι h b->w'.heap[b]? =w.heap[b]?)(hz:w.heap.size<=w'.heap.size)(hq:Quiet w w')(hlo:∀b,b<w0.heap.size->w'.heap[b]? =w.heap[b]?):Ext G0 ι0 h0 w0 G ι h w' where
 size:=Nat.le_trans e.size hz
 quiet:=⟨hq.1.trans e.quiet.1,hq.2.1.trans e.quiet.2.1,hq.2.2.1.trans e.quiet.2.2.1,Nat.le_trans e.quiet.2.2.2 hq.2.2.2⟩
 frame b hb ho:=(hlo b hb).trans (e.frame b hb ho)
 gmono:=e.gmono
 gnew:=e.gnew
 onew:=e.onew
 keep l k hk:=by
  obtain⟨k',h1,h2⟩:=e.keep l k hk;obtain⟨k2,h3,h4⟩:=QhN hs l k' h1;rw[h1]at h3;cases h3;exact⟨k',h1,h2.trans h4⟩
end
theorem QgF(w:World)(b:Nat)(o:Obj):(w.putObj b o).heap.size=w.heap.size:=by simp[World.putObj]
theorem Qfw(w:World)(b:Nat)(o:Obj):Quiet w (w.putObj b o):=⟨rfl,rfl,rfl,Nat.le_refl _⟩
section
variable{P:Program}{N:Nat}{G0:Nat->Prop}{ι0:Io}{h0:Hp}{w0:World}
theorem Qke{fn:Func}{R:Ending->World->Prop}{G:Nat->Prop}{ι:Io}{e:Env}{h:Hp}:∀(bs:List Nat) (a:Act) (w:World),bs.Nodup->(∀b∈bs,Mrk w0 G ι h w b)->Rel N G ι e h a w->Ext G0 ι0 h0 w0 G ι h w->
  (∀w2,Rel N G ι e h a w2->Ext G0 ι0 h0 w0 G ι h w2->∃v,(results fn a.tmps).run P w2= .ok v w2/\R (.returned v) w2)->LeavesInM Fence.wide 0 P fn a.tmps R (bs.map mkD) .returning w
 |[],a,w,_,_,hr,hx,hk=>hk w hr hx
 |b::bs,a,w,hn,hm,hr,hx,hk=>by
  obtain⟨h1,h2,h3,h4⟩:=hm b (by simp);rw[List.nodup_cons]at hn;have hs:∀c,G c\/owned ι h c->(w.putObj b (.deferred none)).heap[c]? =w.heap[c]? :=λc hc=>World.putObj_heap_other λe=>by
   subst e;exact hc.elim h3 h4
  have hz:w.heap.size<=(w.putObj b (.deferred none)).heap.size:=by rw[QgF];exact Nat.le_refl _
  refine⟨by simp,.inl ⟨b,_,rfl,run_takeDeferred h2,?_⟩⟩;refine Qke bs a _ hn.2 (λc hc=> ?_) ⟨hr.hr.other hs hz,hr.size,λi=>(hr.env i).other hs⟩ (hx.other hs hz (Qfw _ _ _) λc hc=>World.putObj_heap_other (by omega)) hk;obtain⟨k1,k2,k3,k4⟩:=hm c (by simp[hc]);have hne:b≠c:=λe=>hn.1 (by rw[e];exact hc)
  exact⟨k1,(World.putObj_heap_other (by omega)).trans k2,k3,k4⟩
theorem Qgr{f:FuncId}{fn:Func}{c:Code}{args:Array Value}{w:World}{R:Ending->World->Prop}(hf:P.funcs[f]? =some fn)(hb:fn.body=some c)
 (h:c.wpIn (Fen none) 0 P (λx a w'=>match x with
   | .normal=>LeavesInM Fence.wide 0 P fn a.tmps R a.defers .returning w'
   | .ret=>LeavesInM Fence.wide 0 P fn a.tmps R a.defers .returning w'
   |_=>False) {tmps:=args++Array.replicate (fn.ntmps-args.size) undef,defers:=[]} w):Calls P f args w R:=by
 refine(callsIn_wide (n:=0)).1 (callsIn_of_wp_marks hf hb trivial (wpIn_mono h λx a w' hx=> ?_) rfl);cases x with
 |normal=>exact hx
 |ret=>exact hx
 |_=>exact hx.elim
theorem QhD{fn:Func}{R:Ending->World->Prop}{e:Env}{h:Hp}{a:Act}{w:World}(hf:Fits N G0 ι0 h0 w0 e h a w)
 (hk:∀G ι w2,Rel N G ι e h a w2->Ext G0 ι0 h0 w0 G ι h w2->∃v,(results fn a.tmps).run P w2= .ok v w2/\R (.returned v) w2):LeavesInM Fence.wide 0 P fn a.tmps R a.defers .returning w:=by
 obtain⟨G,ι,st⟩:=hf;obtain⟨bs,e,hn,hm⟩:=st.dfr;rw[e];exact Qke bs a w hn hm st.rel st.ext (hk G ι)
end
theorem QlB:∀(L:Lv) (i:Nat),lkL (Qii L) i=match QcE (lkL L i)with
  |true=>lkL L i
  |false=> .c .u
 |[],i=>rfl
 |(j,v)::r,i=>by
  simp only[Qii,lkL,upd];split
  ·rfl
  ·exact QlB r i
def Qq9(st:LoopState)(fn:FuncId)(tmps:Array Value)(p:Nat)(asn body:Code)(b:Nat):Obj:= .loop {state:=st,pending:=none,fn:=fn,tmps:=tmps,params:= #[p],assign:=asn,body:=body,defers:=b}
def QzA(N p:Nat)(asn body:Code)(L:Lv)(st:LoopState)(G:Nat->Prop)(w:World)(o:Obj):Prop:=
 ∃fn tmps b,o=Qq9 st fn tmps p asn body b/\tmps.size=N/\∀i,VR G w [] [] (tmps.getD i undef) (lkL (Qii L) i)
theorem QzA.mono{N p:Nat}{asn body:Code}{L:Lv}{st:LoopState}(G G':Nat->Prop)(w w':World)(o:Obj)(hg:∀b,G b->G' b/\w'.heap[b]? =w.heap[b]?)(h:QzA N p asn body L st G w o):QzA N p asn body L st G' w' o:=by
 obtain⟨fn,tmps,b,h1,h2,h3⟩:=h;exact⟨fn,tmps,b,h1,h2,λi=>(h3 i).mono hg λl k hk=>by simp at hk⟩
def Qnz(N p:Nat)(asn body:Code)(L:Lv)(st:LoopState):AB:= .op (QzA N p asn body L st) QzA.mono
section
variable{G:Nat->Prop}{ι:Io}{w:World}{m:Ar}{rest:Hp}{N p:Nat}{asn body:Code}{L:Lv}
theorem Qp2{st st':LoopState}{l:Nat}(r:HR G ι (.am m::rest) w)(hl:m l=some (Qnz N p asn body L st)):∃fn tmps b,w.heap[l]? =some (Qq9 st fn tmps p asn body b)/\tmps.size=N/\(∀i,VR G w [] [] (tmps.getD i undef) (lkL (Qii L) i))/\
  HR G ι (.am (mup m l (Qnz N p asn body L st'))::rest) (w.putObj l (Qq9 st' fn tmps p asn body b))/\Ext G ι (.am m::rest) w G ι (.am (mup m l (Qnz N p asn body L st'))::rest) (w.putObj l (Qq9 st' fn tmps p asn body b)):=by
 obtain⟨o,ho,fn,tmps,b,rfl,hsz,henv⟩:=r.blk 0 _ rfl l _ hl;have hlt:l<w.heap.size:=(Array.getElem?_eq_some_iff.1 ho).1;have hng:¬G l:=λhg=>(r.g l hg).2 (Qci (h:= .am m::rest) rfl hl)
 have hoth:∀c,c≠l->(w.putObj l (Qq9 st' fn tmps p asn body b)).heap[c]? =w.heap[c]? :=λc hc=>World.putObj_heap_other (by omega)
 have hab:ABR G (w.putObj l (Qq9 st' fn tmps p asn body b)) l (Qnz N p asn body L st'):=
  ⟨_,World.putObj_heap_same hlt,fn,tmps,b,rfl,hsz,λi=>(henv i).mono (λc hc=>⟨hc,hoth c λe=>hng (e▸hc)⟩) λ_ _ hk=>by simp at hk⟩
 obtain⟨q1,q2⟩:=HR.am_set (x:=Qnz N p asn body L st') r rfl hl (QgF _ _ _) hoth hab (Qfw _ _ _);exact⟨fn,tmps,b,ho,hsz,henv,q1,q2⟩
theorem Qp0{l b:Nat}(r:HR G ι (.am m::rest) w)(hl:∃x,m l=some x)(ho:owned ι (.am (mdel m l)::rest) b):owned ι (.am m::rest) b/\b≠l:=by
 obtain⟨i,k,h1,h2⟩:=ho;cases i with
 |zero=>
  simp only[List.getElem?_cons_zero,osi]at h1;subst h1;obtain⟨x,hx⟩:=h2;by_cases e:b=l
  ·rw[e,QhQ]at hx;cases hx
  ·rw[QbR e]at hx;exact⟨⟨0,_,rfl,x,hx⟩,e⟩
 |succ i=>
  refine⟨⟨i+1,k,h1,h2⟩,λe=> ?_⟩;subst e;have:=r.own 0 (i+1) b _ k rfl h1 hl h2;cases this
theorem HR.am_drop{l:Nat}(r:HR G ι (.am m::rest) w)(hl:∃x,m l=some x):HR G ι (.am (mdel m l)::rest) w/\Ext G ι (.am m::rest) w G ι (.am (mdel m l)::rest) w:=by
 have hk:∀i k,(Blk.am m::rest)[i]? =some k->∃k',(Blk.am (mdel m l)::rest)[i]? =some k'/\Kept ι ι w w i k k':=λi k hk=>by
  cases i with
  |zero=>
   simp only[List.getElem?_cons_zero,osi]at hk;subst hk;exact⟨_,rfl,trivial⟩
  |succ i=>exact⟨k,hk,Kept.refl ι w _ k⟩
 have hsub:∀i k b,(Blk.am (mdel m l)::rest)[i]? =some k->Qcp ι i k b->∃k',(Blk.am m::rest)[i]? =some k'/\Qcp ι i k' b:=λi k b h1 h2=>by
  cases i with
  |zero=>
   simp only[List.getElem?_cons_zero,osi]at h1;subst h1;obtain⟨x,hx⟩:=h2;by_cases e:b=l
   ·rw[e,QhQ]at hx;cases hx
   ·rw[QbR e]at hx;exact⟨_,rfl,x,hx⟩
  |succ i=>exact⟨k,h1,h2⟩
 refine⟨{len:=r.len,own:=λi j b k k' h1 h2 h3 h4=> ?_,g:=λb hb=>⟨(r.g b hb).1,λho=>(r.g b hb).2 (Qp0 r hl ho).1⟩,blk:=λi k h1=> ?_},{size:=Nat.le_refl _,quiet:=⟨rfl,rfl,rfl,Nat.le_refl _⟩,frame:=λ_ _ _=>rfl,gmono:=λ_ h=>h,gnew:=λ_ h=> .inl h,onew:=λb ho=> .inl (Qp0 r hl ho).1,keep:=hk}⟩
 ·obtain⟨k1,a1,a2⟩:=hsub i k b h1 h3;obtain⟨k2,b1,b2⟩:=hsub j k' b h2 h4;exact r.own i j b k1 k2 a1 b1 a2 b2
 ·cases i with
  |zero=>
   simp only[List.getElem?_cons_zero,osi]at h1;subst h1;intro b x hx;by_cases e:b=l
   ·rw[e,QhQ]at hx;cases hx
   ·rw[QbR e]at hx;exact r.blk 0 _ rfl b x hx
  |succ i=>exact BR.carry (λ_ hb=>⟨hb,rfl⟩) hk (r.blk (i+1) k h1) rfl λ_ _=>rfl
end
section
variable{P:Program}{N:Nat}{G0:Nat->Prop}{ι0:Io}{h0:Hp}{w0:World}
theorem QsE{Λ:Len}(hΛ:∀l,Λ l=(l.length:Int))(hm:P.follows .mixedOrders=true){l p:Nat}{asn body:Code}{ca cb:AC}(hno:NoFn P l)(hp:p<N)(hca:Qb9 P N false asn=some ca)(hcb:Qb9 P N false body=some cb){L:Lv}{m':Ar}{r:AV}{K:Ar->Prop}
   (hl:m' l=some (Qnz N p asn body L .ready))
   (hv:vcC P Λ 1 ca (QdL (Qii L) (some p) r) [.am m'] λx L2 h2=>match x with
          | .normal=>∃m2 tl,h2= .am m2::tl/\m2 l=some (Qnz N p asn body L .ready)/\vcC P Λ 1 cb L2 (.am (mup m2 l (Qnz N p asn body L .busy))::tl) λx _ h3=>match x with
            | .normal=>∃m3 tl3,h3= .am m3::tl3/\m3 l=some (Qnz N p asn body L .busy)/\K (mup m3 l (Qnz N p asn body L .ready))
            |_=>False
          |_=>False):
    FnS P (8589934592+l) [r] [.am m'] λq h'=>q= .c (.d (.bool true))/\∃m3 tl,h'= .am m3::tl/\K m3:=by
  refine⟨λG ι w vs hr0 hvs=> .inr ⟨l,rfl,hno.no,?_⟩⟩;obtain⟨v,rfl⟩:∃v,vs=[v]:=by
    have:=hvs.1
    match vs,this with
    |[x],_=>exact⟨x,rfl⟩
  have hvr:VR G w ι [.am m'] v r:=hvs.2 0 _ _ rfl rfl;obtain⟨fn,tmps,D,ho,hsz,henv,-,-⟩:=Qp2 (st':= .ready) hr0 hl;refine⟨fn,tmps.setIfInBounds p v,asn,body,?_,roundIn_of_wpIn trivial ?_⟩
  · have:=run_yield (P:=P) (args:= #[v]) ho rfl
    simpa [Qq9]using this
  have hfit:Fits N G ι [.am m'] w (lkL (QdL (Qii L) (some p) r)) [.am m'] {tmps:=tmps.setIfInBounds p v,defers:=[]} w:=by
    refine⟨G,ι,⟨hr0,by simp[hsz],λi=> ?_⟩,Ext.refl _ _ _ _,Marks.nil _ _ _ _ _⟩;rw[QaX];simp only[Qcx,lk,upd];split
    · rename_i e
      subst e;rw[Array.getD_eq_getD_getElem?,Array.getElem?_setIfInBounds_self_of_lt (by omega)];exact hvr
    · rename_i e
      rw[Array.getD_eq_getD_getElem?,Array.getElem?_setIfInBounds_ne (λh=>e h),<-Array.getD_eq_getD_getElem?];exact(henv i).mono (λ_ hb=>⟨hb,rfl⟩) λ_ _ hk=>by simp at hk
  refine wpIn_mono (QlQ (ro:=some l) hΛ (m:=1) hm (by simp) asn ca _ _ _ _ w hca hv hfit) λx a1 w1 ⟨L2,h2,hq,hf2⟩=> ?_
  cases x with
  |normal=>
    obtain⟨m2,tl,rfl,hm2,hvb⟩:=hq;obtain⟨G2,ι2,st2⟩:=hf2;obtain⟨fn2,tmps2,D2,ho2,hsz2,henv2,q1,q2⟩:=Qp2 (st':= .busy) st2.rel.hr hm2;refine⟨_,run_beginRound ho2 rfl,?_⟩;have hfit2:Fits N G ι [.am m'] w (lkL L2) (.am (mup m2 l (Qnz N p asn body L .busy))::tl) a1 (w1.putObj l (Qq9 .busy fn2 tmps2 p asn body D2)):=
      ⟨G2,ι2,⟨q1,st2.rel.size,λi=>(st2.rel.env i).ext q2 st2.rel.hr⟩,st2.ext.trans q2,st2.dfr.ext q2⟩
    refine wpIn_mono (QlQ (ro:=some l) hΛ (m:=1) hm (by simp) body cb _ _ _ _ _ hcb hvb hfit2) λx a3 w3 ⟨L3,h3,hq,hf3⟩=> ?_
    cases x with
    |normal=>
      obtain⟨m3,tl3,rfl,hm3,hK⟩:=hq;obtain⟨G3,ι3,st3⟩:=hf3;obtain⟨fn3,tmps3,D3,ho3,hsz3,henv3,q3,q4⟩:=Qp2 (st':= .ready) st3.rel.hr hm3;exact⟨_,_,run_endRound none ho3,.bool true,.c (.d (.bool true)),G3,ι3,.am (mup m3 l (Qnz N p asn body L .ready))::tl3,rfl,⟨rfl,_,_,rfl,hK⟩,q3,.c _ _ (.d _ _ (.bool true)),st3.ext.trans q4⟩
    |ret=>exact hq.elim
    |exit i=>exact hq.elim
    |goto=>exact hq.elim
    |panic=>exact hq.elim
    |outgrown=>exact hq.elim
  |ret=>exact hq.elim
  |exit i=>exact hq.elim
  |goto=>exact hq.elim
  |panic=>exact hq.elim
  |outgrown=>exact hq.elim
theorem Qui{Λ:Len}(hΛ:∀l,Λ l=(l.length:Int)){m:Nat}(hm:P.follows .mixedOrders=true)(g:Operand)(ps:Array Tmp)(x y:Code)(ac:AC)(L:Lv)(h:Hp)(Q:Post)(a:Act)(w:World)(hc:Qb9 P N true (.rangeFunc g ps x y)=some ac)(hv:vcC P Λ m ac L h Q)(hf:Fits N G0 ι0 h0 w0 (lkL L) h a w):
  (Code.rangeFunc g ps x y).wpIn (Fen none) 0 P (out N G0 ι0 h0 w0 Q) a w:=by
 simp only[Qb9]at hc;split at hc
 ·rename_i t p ca cb hrf hg hps hca hcb;split at hc
  ·rename_i hp;cases hc;simp only[vcC]at hv;obtain⟨m,rest,gf,caps,rfl,hx,hlt,hfok,hno,hout⟩:=hv.out;obtain⟨G,ι,st⟩:=hf;have hps':ps= #[p]:=by apply Array.ext';simpa using hps
   subst hps';rw[QaI]at hx;have hgv:=Qae hg st.rel;rw[hx]at hgv;obtain⟨vs,hev,hn,hcr⟩:=Qxg hgv;rw[QjX hlt]at hev;simp only at hev;obtain⟨fd,hfd,hfb,hfn⟩:=hfok.ok;refine wpIn_rangeFunc λfn _=> ?_
   have hdlt:∀b,G b\/owned ι (.am m::rest) b->b<w.heap.size:=λb hb=>hb.elim (λh=>(st.rel.hr.g b h).1) λh=>QaJ st.rel.hr h
   have hsD:∀b,G b\/owned ι (.am m::rest) b->(push w (.deferred (some []))).heap[b]? =w.heap[b]? :=λb hb=>Qa7 w _ (hdlt b hb)
   have hzD:(push w (.deferred (some []))).heap.size=w.heap.size+1:=by simp[push]
   have rD:=st.rel.hr.other hsD (by omega);have eD:=Ext.push_other st.rel.hr (.deferred (some []));have hab:ABR G (push (push w (.deferred (some []))) (Qq9 .ready fn a.tmps p x y w.heap.size)) (push w (.deferred (some []))).heap.size (Qnz N p x y L .ready):=by
    refine⟨_,QbJ _ _,fn,a.tmps,w.heap.size,rfl,st.rel.size,λi=> ?_⟩;rw[QlB];split
    ·rename_i hpu;exact QfS hpu (λb hb=>⟨hb,(Qa7 _ _ (by have:=hdlt b (.inl hb);omega)).trans (hsD b (.inl hb))⟩) (st.rel.env i)
    ·exact .c _ _ (.u _)
   obtain⟨k0,k1,k2⟩:=HR.am_new rD (h:= .am m::rest) rfl _ hab;rw[hzD]at k0 k1 k2;have e1:=eD.trans k2;have hW:(w.alloc (.deferred (some []))).alloc (Qq9 .ready fn a.tmps p x y w.heap.size)=push (push w (.deferred (some []))) (Qq9 .ready fn a.tmps p x y w.heap.size):=rfl;generalize hW1:push (push w (.deferred (some []))) (Qq9 .ready fn a.tmps p x y w.heap.size)=W1 at*;have hD1:W1.heap[w.heap.size]? =some (.deferred (some [])):=by
    rw[<-hW1,Qa7 _ _ (by omega)];exact QbJ w _
   have hL1:W1.heap[w.heap.size+1]? =some (Qq9 .ready fn a.tmps p x y w.heap.size):=by
    rw[<-hW1,<-hzD];exact QbJ _ _
   have hown1:∀b,owned ι (.am (mup m (w.heap.size+1) (Qnz N p x y L .ready))::rest) b->owned ι (.am m::rest) b\/b=w.heap.size+1:=by
    rintro b ⟨i,k,h1,h2⟩;cases i with
    |zero=>
     simp only[List.getElem?_cons_zero,osi]at h1;subst h1;obtain⟨z,hz⟩:=h2;by_cases e:b=w.heap.size+1
     ·exact .inr e
     ·rw[Qaq e]at hz;exact .inl ⟨0,_,rfl,z,hz⟩
    |succ i=>exact .inl ⟨i+1,k,h1,h2⟩
   have hfs:=hout (w.heap.size+1) (Qnz N p x y L .ready) (Qnz N p x y L .busy) k0 λm' r K h1 _ h3=>QsE hΛ hm (hno _) hp hca hcb h1 h3
   have hvs1:VRs G W1 ι (.am (mup m (w.heap.size+1) (Qnz N p x y L .ready))::rest) (.func (.yield (w.heap.size+1)) #[] #[]::vs.toList) (.c (.d (.yl (w.heap.size+1)))::caps.map .c):=by
    refine⟨by simp[hn],λi v z h1 h2=> ?_⟩;cases i with
    |zero=>simp at h1 h2;subst h1 h2;exact .c _ _ (.d _ _ (.yl _))
    |succ i=>
     simp only[List.getElem?_cons_succ,gtm,omi]at h1 h2;obtain⟨c,hc,rfl⟩:=h2;exact(VR.c _ _ (hcr i v c (by simpa using h1) hc)).ext e1 st.rel.hr
   have hcall:=(hfs.out G ι W1 _ k1 hvs1).calls hfd;refine⟨w.heap.size+1,[mkD w.heap.size],W1,{target:= .fn (.func gf) vs,args:= #[.func (.yield (w.heap.size+1)) #[] #[]]},W1,gf,#[.func (.yield (w.heap.size+1)) #[] #[]]++vs,W1,?_,?_,λf _=>Fen.fn none f,?_,Fen.depth none 0,?_⟩
   ·rw[<-hW];exact run_enterLoop_outer _ _ _ _ _
   ·simp only[resolve,hev,Deferred.ofValue,Sem.run_pure];simp[Act.eval]
   ·simp only[invoke];exact Qc4 hfd hfb hfn
   ·have harr:(#[Value.func (.yield (w.heap.size+1)) #[] #[]]++vs)=(Value.func (.yield (w.heap.size+1)) #[] #[]::vs.toList).toArray:=by apply Array.ext';simp
    rw[harr];refine Fen.calls (hcall.mono λe w3 ⟨v,r,G3,ι3,h3,he,hRR,hr3,_,hx3⟩=> ?_) none _;obtain⟨m3,rest3,rfl,hm3,hQ⟩:=hRR;subst he;obtain⟨o3,ho3,fn3,tmps3,D3,rfl,-,-⟩:=hr3.blk 0 _ rfl _ _ hm3;refine⟨none,_,run_endLoop ho3 (by simp),L,.am (mdel m3 (w.heap.size+1))::rest3,hQ,?_⟩;obtain⟨j1,j2⟩:=hr3.am_drop ⟨_,hm3⟩;have hngl:¬G3 (w.heap.size+1):=λhg=>(hr3.g _ hg).2 (Qci (h:= .am m3::rest3) rfl hm3)
    have hno4:∀b,G3 b\/owned ι3 (.am (mdel m3 (w.heap.size+1))::rest3) b->b≠w.heap.size+1:=λb hb e=>by
     subst e;exact hb.elim hngl λho=>(Qp0 hr3 ⟨_,hm3⟩ ho).2 rfl
    have hs4:∀(o:Obj) b,G3 b\/owned ι3 (.am (mdel m3 (w.heap.size+1))::rest3) b->(w3.putObj (w.heap.size+1) o).heap[b]? =w3.heap[b]? :=λo b hb=>World.putObj_heap_other (by have:=hno4 b hb;omega)
    have hz4:∀(o:Obj),w3.heap.size<=(w3.putObj (w.heap.size+1) o).heap.size:=λo=>by rw[QgF];exact Nat.le_refl _
    have hmk:Marks w0 G ι (.am (mup m (w.heap.size+1) (Qnz N p x y L .ready))::rest) (mkD w.heap.size::a.defers) W1:=by
     obtain⟨bs,e,hnd,hb⟩:=st.dfr.ext e1;obtain⟨bs0,e0,_,hb0⟩:=st.dfr;have hbb:bs=bs0:=by
      have h1:=e.symm.trans e0;have inj:∀l l':List Nat,l.map mkD=l'.map mkD->l=l':=by
       intro l;induction l with
       |nil=>intro l' h;cases l' with|nil=>rfl|cons=>simp at h
       |cons z l ih=>
        intro l' h;cases l' with
        |nil=>simp at h
        |cons z' l'=>
         simp only[List.map_cons,List.cons.injEq]at h;have:z=z':=by have:=h.1;simpa [mkD]using this
         rw[this,ih l' h.2]
      exact inj _ _ h1
     subst hbb;refine⟨w.heap.size::bs,by rw[e];rfl,?_,λb hbm=> ?_⟩
     ·rw[List.nodup_cons];refine⟨λhmem=> ?_,hnd⟩;have:=(Array.getElem?_eq_some_iff.1 (hb0 _ hmem).at_).1;omega
     ·rcases List.mem_cons.1 hbm with rfl|hbm
      ·refine⟨st.ext.size,hD1,λhg=>by have:=(st.rel.hr.g _ hg).1;omega,λho=> ?_⟩;rcases hown1 _ ho with h|h
       ·have:=QaJ st.rel.hr h;omega
       ·omega
      ·exact hb b hbm
    have hmk3:=(hmk.ext hx3).ext j2;have hx4:=((st.ext.trans e1).trans hx3).trans j2;refine⟨G3,ι3,⟨j1.other (hs4 _) (hz4 _),st.rel.size,λi=>((((st.rel.env i).ext e1 st.rel.hr).ext hx3 k1).ext j2 hr3).other (hs4 _)⟩,hx4.other (hs4 _) (hz4 _) (Qfw _ _ _) λb hb=>World.putObj_heap_other (by have:=st.ext.size;omega),?_⟩;obtain⟨bs,e,hnd,hb⟩:=hmk3;refine⟨bs,e,hnd,λb hbm=> ?_⟩;obtain⟨q1,q2,q3,q4⟩:=hb b hbm;have hbl:b≠w.heap.size+1:=λe=>by
     rw[e,ho3]at q2;simp[Qq9]at q2
    exact⟨q1,(World.putObj_heap_other (by omega)).trans q2,q3,q4⟩
  ·cases hc
 ·cases hc
theorem Qhp{Λ:Len}(hΛ:∀l,Λ l=(l.length:Int)){m:Nat}(hm:P.follows .mixedOrders=true)(hm0:h0.length<=m)(c:Code)(ac:AC)(L:Lv)(h:Hp)(Q:Post)(a:Act)(w:World)(hc:Qgu P N c=some ac)(hv:vcC P Λ m ac L h Q)(hf:Fits N G0 ι0 h0 w0 (lkL L) h a w):
  c.wpIn (Fen none) 0 P (out N G0 ι0 h0 w0 Q) a w:=
 Qro hΛ hm hm0 (λg ps x y ac L h Q a w h1 h2 h3=>Qui hΛ hm g ps x y ac L h Q a w h1 h2 h3) c ac L h Q a w hc hv hf
end
structure AF where
 nt:Nat
 res:List (Nat×Option (Option Nat))
 body:AC
def QsJ(P:Program):List ResultVar->Option (List (Nat×Option (Option Nat)))
 |[]=>some []
 | .tmp t::r=>match QsJ P r with
  |some l=>some ((t,none)::l)
  |none=>none
 | .cell t ty::r=>match ldk P ty,QsJ P r with
  |some k,some l=>some ((t,some k)::l)
  |_,_=>none
def QaC(P:Program)(fn:Func):Option AF:=
 match fn.body with
 |some c=>match Qgu P fn.ntmps c,QsJ P fn.results.toList with
  |some ac,some r=>some ⟨fn.ntmps,r,ac⟩
  |_,_=>none
 |none=>none
def Qu6(e:Env)(h:Hp):List (Nat×Option (Option Nat))->Option (List AV)
 |[]=>some []
 |(s,k)::r=>match Qu6 e h r with
  |some l=>(match k with
   |none=>some (e s::l)
   |some none=>match rd h (e s)with
    |some (c::_)=>some (.c c::l)
    |_=>none
   |some (some n)=>match rd h (e s)with
    |some cs=>if n<=cs.length then some (.agg (cs.take n)::l)else none
    |none=>none)
  |none=>none
def pack:List AV->AV
 |[x]=>x
 |l=> .tup l
def Qxc(h:Hp):CV->Option (CV×Hp)
 | .d x=>some (.d (fgD x),h)
 | .cl _ sz l=>some (.d (.list false sz l),h)
 | .arr l v i n=>match h[l]? with
  |some (.da _ v' sz es)=>(match Nat.beq v' v with
   |true=>some (.d (.list false sz ((es.drop i).take n)),h.set l .dead)
   |false=>none)
  |_=>none
 | .u=>some (.u,h)
 | .rp cs=>some (.rp cs,h)
 | .fn b f []=>some (.fn b f [],h)
 | .ptr l _ i j=>match Nat.beq (i+j) 0,h[l]? with
  |true,some (.bx cs)=>(match frzs h cs with
   |some (ds,h2)=>some (.rp ds,h2.set l .dead)
   |none=>none)
  |_,_=>none
 |_=>none
def QpH(h:Hp):List CV->Option (List CV×Hp)
 |[]=>some ([],h)
 |x::r=>match Qxc h x with
  |some (y,h1)=>(match QpH h1 r with
   |some (l,h2)=>some (y::l,h2)
   |none=>none)
  |none=>none
def Qoo(h:Hp):AV->Option (AV×Hp)
 | .c x=>match Qxc h x with
  |some (y,h1)=>some (.c y,h1)
  |none=>none
 | .agg l=>match QpH h l with
  |some (y,h1)=>some (.agg y,h1)
  |none=>none
 | .tup _=>none
def QpF(h:Hp):List AV->Option (List AV×Hp)
 |[]=>some ([],h)
 |x::r=>match Qoo h x with
  |some (y,h1)=>(match QpF h1 r with
   |some (l,h2)=>some (y::l,h2)
   |none=>none)
  |none=>none
def Qzj(h:Hp)(x:CV)(K:D->Hp->Prop):Prop:=
 match x with
 | .d x=>K (fgD x) h
 | .arr l v i n=>match h[l]? with
  |some (.da _ v' sz es)=>(Unit->v'=v)/\∀ls,ls=(es.drop i).take n->K (.list false sz ls) (h.set l .dead)
  |_=>False
 | .rp cs=>K (.rp cs) h
 | .mp l=>match h[l]? with
  |some (.mp _ es)=>∃ds,Qza es=some ds/\K (.mpf ds) (h.set l .dead)
  |_=>False
 |_=>False
def QuQ(h:Hp):List CV->(List D->Hp->Prop)->Prop
 |[],K=>K [] h
 |x::r,K=>Qzj h x λd h1=>QuQ h1 r λl h2=>K (d::l) h2
theorem Qqj{h:Hp}{x:CV}{K:D->Hp->Prop}(hv:Qzj h x K):∃y h1,frz h x=some (y,h1)/\K y h1:=by
 unfold Qzj at hv;split at hv
 ·exact⟨_,_,rfl,hv⟩
 ·split at hv
  ·rename_i hes;have hb:=hv.1 ();subst hb;exact⟨_,_,by simp[frz,hes],hv.2 _ rfl⟩
  ·exact hv.elim
 ·exact⟨_,_,rfl,hv⟩
 ·split at hv
  ·rename_i hes;obtain⟨ds,hd,hv⟩:=hv;exact⟨_,_,by simp[frz,hes,hd],hv⟩
  ·exact hv.elim
 ·exact hv.elim
theorem Qo1:∀{l:List CV} {h:Hp} {K:List D->Hp->Prop},QuQ h l K->∃y h1,frzs h l=some (y,h1)/\K y h1:=by
 intro l;induction l with
 |nil=>intro h K hv;exact⟨_,_,rfl,hv⟩
 |cons x r ih=>
  intro h K hv;obtain⟨y,h1,e1,hv⟩:=Qqj hv;obtain⟨z,h2,e2,hv⟩:=ih hv;exact⟨_,_,by simp only[frzs,e1,e2],hv⟩
def QwU(h:Hp)(x:CV)(K:CV->Hp->Prop):Prop:=
 match x with
 | .d x=>K (.d (fgD x)) h
 | .arr l v i n=>match h[l]? with
  |some (.da _ v' sz es)=>(Unit->v'=v)/\∀ls,ls=(es.drop i).take n->K (.d (.list false sz ls)) (h.set l .dead)
  |_=>False
 | .ptr l _ i j=>match Nat.beq (i+j) 0,h[l]? with
  |true,some (.bx cs)=>QuQ h cs λds h2=>K (.rp ds) (h2.set l .dead)
  |_,_=>False
 |x=>match Qxc h x with
  |some (y,h1)=>K y h1
  |none=>False
def QuP(h:Hp):List CV->(List CV->Hp->Prop)->Prop
 |[],K=>K [] h
 |x::r,K=>QwU h x λy h1=>QuP h1 r λl h2=>K (y::l) h2
def QuN(h:Hp)(x:AV)(K:AV->Hp->Prop):Prop:=
 match x with
 | .c x=>QwU h x λy h1=>K (.c y) h1
 | .agg l=>QuP h l λy h1=>K (.agg y) h1
 | .tup _=>False
def QuO(h:Hp):List AV->(List AV->Hp->Prop)->Prop
 |[],K=>K [] h
 |x::r,K=>QuN h x λy h1=>QuO h1 r λl h2=>K (y::l) h2
theorem QkE{h:Hp}{x:CV}{K:CV->Hp->Prop}(hv:QwU h x K):∃y h1,Qxc h x=some (y,h1)/\K y h1:=by
 unfold QwU at hv;split at hv
 ·exact⟨_,_,rfl,hv⟩
 ·split at hv
  ·rename_i hes;have hb:=hv.1 ();subst hb;exact⟨_,_,by simp only[Qxc,hes,Nat.beq_refl],hv.2 _ rfl⟩
  ·exact hv.elim
 ·split at hv
  ·rename_i cs hb hes;obtain⟨ds,h2,e,hk⟩:=Qo1 hv;exact⟨_,_,by simp only[Qxc,hb,hes,e],hk⟩
  ·exact hv.elim
 ·split at hv
  ·rename_i y h1 hy;exact⟨y,h1,hy,hv⟩
  ·exact hv.elim
theorem Qo0:∀{l:List CV} {h:Hp} {K:List CV->Hp->Prop},QuP h l K->∃y h1,QpH h l=some (y,h1)/\K y h1:=by
 intro l;induction l with
 |nil=>intro h K hv;exact⟨_,_,rfl,hv⟩
 |cons x r ih=>
  intro h K hv;obtain⟨y,h1,e1,hv⟩:=QkE hv;obtain⟨z,h2,e2,hv⟩:=ih hv;exact⟨_,_,by simp only[QpH,e1,e2],hv⟩
theorem QoY{h:Hp}{x:AV}{K:AV->Hp->Prop}(hv:QuN h x K):∃y h1,Qoo h x=some (y,h1)/\K y h1:=by
 unfold QuN at hv;split at hv
 ·obtain⟨y,h1,e1,hv⟩:=QkE hv;exact⟨_,_,by simp only[Qoo,e1],hv⟩
 ·obtain⟨y,h1,e1,hv⟩:=Qo0 hv;exact⟨_,_,by simp only[Qoo,e1],hv⟩
 ·exact hv.elim
theorem QoZ:∀{l:List AV} {h:Hp} {K:List AV->Hp->Prop},QuO h l K->∃y h1,QpF h l=some (y,h1)/\K y h1:=by
 intro l;induction l with
 |nil=>intro h K hv;exact⟨_,_,rfl,hv⟩
 |cons x r ih=>
  intro h K hv;obtain⟨y,h1,e1,hv⟩:=QoY hv;obtain⟨z,h2,e2,hv⟩:=ih hv;exact⟨_,_,by simp only[QpF,e1,e2],hv⟩
def QzB(res:List (Nat×Option (Option Nat)))(L:Lv)(h:Hp)(K:AV->Prop):Prop:=
 match Qu6 (lkN L) h res with
 |some vs=>(match QpF h vs with
  |some (rs,_)=>K (pack rs)
  |none=>False)
 |none=>False
def QzC(res:List (Nat×Option (Option Nat)))(L:Lv)(h:Hp)(K:AV->Prop):Prop:=
 match Qu6 (lkN L) h res with
 |some vs=>QuO h vs λrs _=>K (pack rs)
 |none=>False
theorem QzC.ret{res:List (Nat×Option (Option Nat))}{L:Lv}{h:Hp}{K:AV->Prop}(hq:QzC res L h K):QzB res L h K:=by
 unfold QzC at hq;unfold QzB;split at hq
 ·rename_i vs hvs;obtain⟨y,h1,e1,hk⟩:=QoZ hq;simp only[e1];exact hk
 ·exact hq.elim
def QAY(res:List (Nat×Option (Option Nat)))(L:Lv)(h:Hp)(K:AV->Hp->Prop):Prop:=
 match Qu6 (lkN L) h res with
 |some vs=>K (pack vs) h
 |none=>False
def QsG:Nat->List AV->Lv
 |_,[]=>[]
 |n,v::r=>(n,v)::QsG (n+1) r
def QCP(res:List (Nat×Option (Option Nat)))(K:AV->Prop):Post:=λx L h=>match x with
 | .exit _=>False
 |_=>QzC res L h K
def vcF(P:Program)(Λ:Len)(af:AF)(args:List AV)(K:AV->Prop):Prop:=
 match af with
 |⟨_,res,body⟩=>vcC P Λ 0 body (QsG 0 args) [] (QCP res K)
def vcH(P:Program)(Λ:Len)(af:AF)(args:List AV)(h:Hp)(K:AV->Hp->Prop):Prop:=
 match af with
 |⟨_,res,body⟩=>vcC P Λ h.length body (QsG 0 args) h λx L h=>match x with
  | .exit _=>False
  |_=>QAY res L h K
section
variable{P:Program}{G:Nat->Prop}{ι:Io}{h:Hp}{w:World}
theorem Qvi:∀(args:List AV) (n i:Nat),lkL (QsG n args) i=if n<=i then (args[i-n]?).getD (.c .u)else .c .u:=by
 intro args;induction args with
 |nil=>intro n i;simp[QsG,lkL]
 |cons v r ih=>
  intro n i;simp only[QsG,lkL,upd];by_cases h1:n=i
  ·subst h1;simp
  ·rw[if_neg h1,ih];by_cases h2:n<=i
   ·rw[if_pos (by omega),if_pos h2,show i-n=(i-(n+1))+1 by omega];simp
   ·rw[if_neg (by omega),if_neg h2]
theorem QAh{h h':Hp}{x:CV}{d:D}{l:Nat}{cs:List CV}(hf:frz h x=some (d,h'))(hl:h[l]? =some (.bx cs)):h'[l]? =some (.bx cs):=by
 unfold frz at hf;split at hf
 ·cases hf;exact hl
 ·cases hf;exact hl
 ·split at hf
  ·rename_i hes;split at hf
   ·cases hf;rw[List.getElem?_set_ne]
    ·exact hl
    ·intro e;subst e;rw[hes]at hl;cases hl
   ·cases hf
  ·cases hf
 ·cases hf;exact hl
 ·split at hf
  ·rename_i hes;split at hf
   ·cases hf;rw[List.getElem?_set_ne]
    ·exact hl
    ·intro e;subst e;rw[hes]at hl;cases hl
   ·cases hf
  ·cases hf
 ·cases hf
theorem Qyb{l:Nat}{cs:List CV}:∀{xs:List CV} {h h':Hp} {ds:List D},frzs h xs=some (ds,h')->h[l]? =some (.bx cs)->h'[l]? =some (.bx cs):=by
 intro xs;induction xs with
 |nil=>intro h h' ds hf hl;simp only[frzs,osi,pmi]at hf;obtain⟨_,rfl⟩:=hf;exact hl
 |cons x xs ih=>
  intro h h' ds hf hl;simp only[frzs]at hf;split at hf
  ·rename_i d h1 hd;split at hf
   ·rename_i ds' h2 hds;simp only[osi,pmi]at hf;obtain⟨_,rfl⟩:=hf;exact ih hds (QAh hd hl)
   ·cases hf
  ·cases hf
theorem Qls{v:Value}{x y:CV}{h':Hp}(hr:HR G ι h w)(hx:CR G w ι h v x)(hf:Qxc h x=some (y,h')):
  ∃G',HR G' ι h' w/\CR G' w ι h' v y/\Ext G ι h w G' ι h' w/\QhV y=true:=by
 unfold Qxc at hf;split at hf
 ·cases hf;exact⟨G,hr,hx.fg,Ext.refl _ _ _ _,rfl⟩
 ·cases hf;exact⟨G,hr,hx.fg,Ext.refl _ _ _ _,rfl⟩
 ·rename_i l ver i n;split at hf
  ·rename_i v' sz es hes;split at hf
   ·rename_i hv;have hv:v'=ver:=Nat.eq_of_beq_eq_true hv;subst hv;cases hf;obtain⟨G',k1,k2,k3⟩:=Qc9 (h':=h.set l .dead) (d:= .list false sz ((es.drop i).take n)) hr hx (by simp[frz,hes]);exact⟨G',k1,.d _ _ k2,k3,rfl⟩
   ·cases hf
  ·cases hf
 ·cases hf;exact⟨G,hr,hx,Ext.refl _ _ _ _,rfl⟩
 ·cases hf;exact⟨G,hr,hx,Ext.refl _ _ _ _,rfl⟩
 ·cases hf;exact⟨G,hr,hx,Ext.refl _ _ _ _,rfl⟩
 ·rename_i l ver i j;split at hf
  ·rename_i cs hij hes;have hij:i+j=0:=Nat.eq_of_beq_eq_true hij;obtain⟨rfl,rfl⟩:i=0/\j=0:=by omega
   split at hf
   ·rename_i ds h2 hfs;cases hf;cases hx with
    |ptr _ _ _ _ _ blk hb ha hk=>
     rw[hes]at hb;cases hb;obtain⟨b,o,hi,rfl⟩:=hk 0 rfl;obtain⟨b',o',c,t,fr,h1,h2',h3,h4,h5⟩:=hr.blk l _ hes;rw[hi]at h1;cases h1;obtain⟨vs,hvs⟩:∃vs:List Value,vs=(c.toList.drop o).take cs.length:=⟨_,rfl⟩;have hvl:vs.length=cs.length:=by rw[hvs];simp;omega
     have hvg:∀i,i<cs.length->vs[i]? =c[o+i]? :=λi hi=>by
      rw[hvs,List.getElem?_take_of_lt hi,List.getElem?_drop];simp
     obtain⟨G',q1,q2,q3,q4⟩:=QhJ hr hvl (λi v x hv hx=>by
      rw[hvg i (Qaa hx)]at hv;obtain⟨v',hv',hc⟩:=h5 i x hx;rw[hv]at hv';cases hv';exact hc) hfs
     have hbx:=Qyb hfs hes;have hfz:=HR.freeze q1 hbx hi rfl;have hef:=Ext.freeze (G:=G') (w:=w) hbx hi rfl;refine⟨_,hfz,.rp b (o+0) ds (.inr rfl) (λk x hx=> ?_),q2.trans hef,rfl⟩;have hk:k<cs.length:=by rw[<-q3];exact Qaa hx
     have hv:c[o+k]? =some (c[o+k]'(by omega)):=agQ _;refine⟨_,by rw[QbG h2',Nat.add_zero];exact hv,?_⟩;exact(q4 k _ x (by rw[hvg k hk];exact hv) hx).ext hef q1
   ·cases hf
  ·cases hf
 ·cases hf
theorem QpI:∀{xs ys:List CV} {vs:List Value} {G:Nat->Prop} {h h':Hp},HR G ι h w->vs.length=xs.length->
  (∀(i:Nat) (v:Value) (x:CV),vs[i]? =some v->xs[i]? =some x->CR G w ι h v x)->QpH h xs=some (ys,h')->
  ∃G',HR G' ι h' w/\Ext G ι h w G' ι h' w/\vs.length=ys.length/\ys.all QhV=true/\∀(i:Nat) (v:Value) (y:CV),vs[i]? =some v->ys[i]? =some y->CR G' w ι h' v y:=by
 intro xs;induction xs with
 |nil=>
  intro ys vs G h h' hr hl _ hf;simp only[QpH,osi,pmi]at hf;obtain⟨rfl,rfl⟩:=hf;exact⟨G,hr,Ext.refl _ _ _ _,hl,rfl,by simp⟩
 |cons x xs ih=>
  intro ys vs G h h' hr hl hc hf;cases vs with
  |nil=>simp at hl
  |cons v vs=>
   simp only[QpH]at hf;split at hf
   ·rename_i y h1 hy;split at hf
    ·rename_i l h2 hl2;cases hf;obtain⟨G1,k1,k2,k3,k4⟩:=Qls hr (hc 0 v x rfl rfl) hy;obtain⟨G2,q1,q2,q3,q4,q5⟩:=ih k1 (by simpa using hl) (λi v x hv hx=>(hc (i+1) v x (by simpa using hv) (by simpa using hx)).ext k3 hr) hl2;refine⟨G2,q1,k3.trans q2,by simp[q3],by simp[k4,q4],λi v' y' hv hy'=> ?_⟩;cases i with
     |zero=>simp at hv hy';subst hv hy';exact k2.ext q2 k1
     |succ i=>simp at hv hy';exact q5 i v' y' hv hy'
    ·cases hf
   ·cases hf
theorem QpE{v:Value}{x y:AV}{h':Hp}(hr:HR G ι h w)(hx:VR G w ι h v x)(hf:Qoo h x=some (y,h')):
  ∃G',HR G' ι h' w/\VR G' w ι h' v y/\Ext G ι h w G' ι h' w/\QcE y=true:=by
 cases hx with
 |c _ x hc=>
  simp only[Qoo]at hf;split at hf
  ·rename_i z h1 hz;cases hf;obtain⟨G',k1,k2,k3,k4⟩:=Qls hr hc hz;exact⟨G',k1,.c _ _ k2,k3,k4⟩
  ·cases hf
 |agg cs l hn hc=>
  simp only[Qoo]at hf;split at hf
  ·rename_i z h1 hz;cases hf;obtain⟨G',k1,k2,k3,k4,k5⟩:=QpI hr (vs:=cs.toList) (by simpa using hn) (λi v x hv hx=>hc i v x (by simpa using hv) hx) hz;exact⟨G',k1,.agg _ _ (by simpa using k3) (λi v x hv hx=>k5 i v x (by simpa using hv) hx),k2,k4⟩
  ·cases hf
 |tup=>simp[Qoo]at hf
theorem QpG:∀{xs ys:List AV} {vs:List Value} {G:Nat->Prop} {h h':Hp},HR G ι h w->VRs G w ι h vs xs->QpF h xs=some (ys,h')->
  ∃G',HR G' ι h' w/\Ext G ι h w G' ι h' w/\VRs G' w ι h' vs ys/\QcE.pureAs ys=true:=by
 intro xs;induction xs with
 |nil=>
  intro ys vs G h h' hr hv hf;simp only[QpF,osi,pmi]at hf;obtain⟨rfl,rfl⟩:=hf;exact⟨G,hr,Ext.refl _ _ _ _,hv,rfl⟩
 |cons x xs ih=>
  intro ys vs G h h' hr hv hf;obtain⟨hl,hc⟩:=hv;cases vs with
  |nil=>simp at hl
  |cons v vs=>
   simp only[QpF]at hf;split at hf
   ·rename_i y h1 hy;split at hf
    ·rename_i l h2 hl2;cases hf;obtain⟨G1,k1,k2,k3,k4⟩:=QpE hr (hc 0 v x rfl rfl) hy;obtain⟨G2,q1,q2,q3,q4⟩:=ih k1 ⟨by simpa using hl,λi v x hv hx=>(hc (i+1) v x (by simpa using hv) (by simpa using hx)).ext k3 hr⟩ hl2;refine⟨G2,q1,k3.trans q2,⟨by simp[q3.1],λi v' y' hv hy'=> ?_⟩,by simp[QcE.pureAs,k4,q4]⟩;cases i with
     |zero=>simp at hv hy';subst hv hy';exact k2.ext q2 k1
     |succ i=>simp at hv hy';exact q3.2 i v' y' hv hy'
    ·cases hf
   ·cases hf
theorem Qjt{b o:Nat}:(asAddr (.pointer (some ⟨b,o,none⟩))).run P w= .ok ⟨b,o,none⟩ w:=rfl
theorem Qp6{tmps:Array Value}{e:Env}(hr:HR G ι h w)(he:∀i,VR G w ι h (tmps.getD i undef) (e i)):∀(rs:List ResultVar) (res:List (Nat×Option (Option Nat))) (vs:List AV),QsJ P rs=some res->Qu6 e h res=some vs->
  ∃us:List Value,(rs.mapM λ(r:ResultVar)=>(match r with| .tmp t=>(pure (tmps.getD t undef):Sem Value)| .cell a t=>do loadVar t (<-asAddr (tmps.getD a undef)))).run P w= .ok us w/\VRs G w ι h us vs:=by
 intro rs;induction rs with
 |nil=>
  intro res vs h1 h2;simp only[QsJ,osi]at h1;subst h1;simp only[Qu6,osi]at h2;subst h2;exact⟨[],by simp,rfl,by simp⟩
 |cons r rs ih=>
  intro res vs h1 h2;have fin:∀(l:List (Nat×Option (Option Nat))) (l2:List AV) (u:Value) (x:AV),QsJ P rs=some l->Qu6 e h l=some l2->vs=x::l2->VR G w ι h u x->
    ((match r with| .tmp t=>(pure (tmps.getD t undef):Sem Value)| .cell a t=>do loadVar t (<-asAddr (tmps.getD a undef)))).run P w= .ok u w->
    ∃us:List Value,((r::rs).mapM λ(r:ResultVar)=>(match r with| .tmp t=>(pure (tmps.getD t undef):Sem Value)| .cell a t=>do loadVar t (<-asAddr (tmps.getD a undef)))).run P w= .ok us w/\VRs G w ι h us vs:=by
   intro l l2 u x a1 a2 a3 a4 a5;obtain⟨us,q1,q2,q3⟩:=ih l l2 a1 a2;subst a3;refine⟨u::us,?_,by simp[q2],λi v y hv hy=> ?_⟩
   ·simp only[List.mapM_cons,Sem.run_bind,a5,Result.andThen_ok,q1,Sem.run_pure]
   ·cases i with
    |zero=>simp at hv hy;subst hv hy;exact a4
    |succ i=>simp at hv hy;exact q3 i v y hv hy
  cases r with
  |tmp t=>
   simp only[QsJ]at h1;split at h1
   ·rename_i l hl;cases h1;simp only[Qu6]at h2;split at h2
    ·rename_i l2 hl2;cases h2;exact fin l l2 _ _ hl hl2 rfl (he t) rfl
    ·cases h2
   ·cases h1
  |cell t ty=>
   simp only[QsJ]at h1;split at h1
   ·rename_i k l hk hl;cases h1;simp only[Qu6]at h2;split at h2
    ·rename_i l2 hl2;cases k with
     |none=>
      simp only at h2;split at h2
      ·rename_i c cs hrd;cases h2;obtain⟨b,o,hv,hc⟩:=QfT hr (he t) hrd;obtain⟨v,k1,k2⟩:=Qy0 (P:=P) hr (he t) hk hrd;rw[hv]at k1;refine fin l l2 v _ hl hl2 rfl k2 ?_;simp only[hv,Sem.run_bind,Qjt,Result.andThen_ok];simpa [Instr.loadAt,Instr.sureAddr]using k1
      ·cases h2
     |some n=>
      simp only at h2;split at h2
      ·rename_i cs hrd;split at h2
       ·rename_i hn;cases h2;obtain⟨b,o,hv,hc⟩:=QfT hr (he t) hrd;obtain⟨v,k1,k2⟩:=Qy1 (P:=P) hr (he t) hk hrd hn;rw[hv]at k1;refine fin l l2 v _ hl hl2 rfl k2 ?_;simp only[hv,Sem.run_bind,Qjt,Result.andThen_ok];simpa [Instr.loadAt,Instr.sureAddr]using k1
       ·cases h2
      ·cases h2
    ·cases h2
   ·cases h1
theorem QhU{us:List Value}{vs:List AV}(hv:VRs G w ι h us vs):VR G w ι h (if hs:us.toArray.size=1 then us.toArray[0]else .tuple us.toArray) (pack vs):=by
 obtain⟨h1,h2⟩:=hv;cases us with
 |nil=>
  cases vs with
  |nil=>exact .tup _ _ rfl (by simp)
  |cons=>simp at h1
 |cons u us=>
  cases vs with
  |nil=>simp at h1
  |cons v vs=>
   cases us with
   |nil=>
    cases vs with
    |nil=>exact h2 0 u v rfl rfl
    |cons=>simp at h1
   |cons u2 us=>
    cases vs with
    |nil=>simp at h1
    |cons v2 vs=>
     refine .tup _ _ (by simpa using h1) λi x y hx hy=>h2 i x y (by simpa using hx) hy
theorem QgG{fn:Func}{af:AF}{tmps:Array Value}{e:Env}{vs:List AV}(hc:QsJ P fn.results.toList=some af.res)(hr:HR G ι h w)(he:∀i,VR G w ι h (tmps.getD i undef) (e i))(hv:Qu6 e h af.res=some vs):
  ∃us:List Value,(results fn tmps).run P w= .ok (if hs:us.toArray.size=1 then us.toArray[0]else .tuple us.toArray) w/\VRs G w ι h us vs:=by
 obtain⟨us,q1,q2⟩:=Qp6 (P:=P) hr he fn.results.toList af.res vs hc hv;refine⟨us,?_,q2⟩;simp only[results,Sem.run_bind];rw[Array.mapM_eq_mapM_toList,Sem.run_map]
 erw [q1]
 simp only[Result.andThen_ok,Sem.run_pure]
theorem QhB{fn:Func}{af:AF}{args:List AV}{vs:List Value}(_hn:af.nt=fn.ntmps)(hl:args.length<=fn.ntmps)(hr:HR G ι h w)(hv:VRs G w ι h vs args):
  Fits fn.ntmps G ι h w (lkL (QsG 0 args)) h {tmps:=vs.toArray++Array.replicate (fn.ntmps-vs.toArray.size) undef,defers:=[]} w:=by
 refine⟨G,ι,⟨hr,?_,λi=> ?_⟩,Ext.refl _ _ _ _,Marks.nil _ _ _ _ _⟩
 ·have:=hv.1;simp;omega
 ·simp only[lk];rw[Qvi];simp only[Nat.zero_le,if_true,Nat.sub_zero];cases hi:args[i]? with
  |none=>exact .c _ _ (.u _)
  |some x=>
   have hil:=Qaa hi;have hlt:i<vs.length:=by rw[hv.1];exact hil
   have hvi:vs[i]? =some vs[i]:=lgE hlt;have:(vs.toArray++Array.replicate (fn.ntmps-vs.toArray.size) undef).getD i undef=vs[i]:=by
    rw[Array.getD_eq_getD_getElem?,Array.getElem?_append_left (by simpa using hlt)];simp[hlt]
   rw[this];exact hv.2 i _ x hvi hi
def QBO(res:List (Nat×Option (Option Nat)))(K:AV->Prop):Post:=λx L h=>match x with
 | .exit _=>False
 |_=>QzB res L h K
def QBN(res:List (Nat×Option (Option Nat)))(K:AV->Hp->Prop):Post:=λx L h=>match x with
 | .exit _=>False
 |_=>QAY res L h K
theorem QrP{f:Nat}{fn:Func}{c:Code}{res:List (Nat×Option (Option Nat))}{args:List AV}{K:AV->Prop}(hf:P.funcs[f]? =some fn)(hb:fn.body=some c)(hres:QsJ P fn.results.toList=some res)(hl:args.length<=fn.ntmps)
 (hwp:∀(G:Nat->Prop) (ι:Io) (w:World) (a:Act),Fits fn.ntmps G ι [] w (lkL (QsG 0 args)) [] a w->c.wpIn (Fen none) 0 P (out fn.ntmps G ι [] w (QBO res K)) a w):
  FnS P f args [] λr _=>QcE r=true/\K r:=by
 refine⟨λG ι w vs hr hvs=> ?_⟩;refine .of hf (Qgr hf hb (wpIn_mono (hwp G ι w _ (QhB (af:=⟨fn.ntmps,res,.skip⟩) rfl hl hr hvs)) λx a w' ⟨L,h',hq,hfit⟩=> ?_));have fin:QzB res L h' K->LeavesInM Fence.wide 0 P fn a.tmps (λe w'=>∃v r G' ι' h'',e= .returned v/\(QcE r=true/\K r)/\HR G' ι' h'' w'/\VR G' w' ι' h'' v r/\Ext G ι [] w G' ι' h'' w') a.defers .returning w':=by
  intro hret;refine QhD hfit λG1 ι1 w2 rel ext=> ?_
  unfold QzB at hret;split at hret
  ·rename_i vs' hvs';split at hret
   ·rename_i rs h2 hrs;rw[QeJ]at hvs';obtain⟨us,q1,q2⟩:=QgG (P:=P) (fn:=fn) (af:=⟨fn.ntmps,res,.skip⟩) hres rel.hr rel.env hvs';obtain⟨G2,k1,k2,k3,k4⟩:=QpG rel.hr q2 hrs;refine⟨_,q1,_,pack rs,G2,ι1,h2,rfl,⟨?_,hret⟩,k1,QhU k3,ext.trans k2⟩;cases rs with
    |nil=>rfl
    |cons x rs=>
     cases rs with
     |nil=>simp only[QcE.pureAs,Bool.and_true]at k4;exact k4
     |cons y rs=>exact k4
   ·exact hret.elim
  ·exact hret.elim
 cases x with
 |normal=>exact fin hq
 |ret=>exact fin hq
 |exit i=>exact hq.elim
 |goto=>exact hq.elim
 |panic=>exact hq.elim
 |outgrown=>exact hq.elim
theorem QrO{f:Nat}{fn:Func}{c:Code}{res:List (Nat×Option (Option Nat))}{args:List AV}{h:Hp}{K:AV->Hp->Prop}(hf:P.funcs[f]? =some fn)(hb:fn.body=some c)(hres:QsJ P fn.results.toList=some res)(hl:args.length<=fn.ntmps)
 (hwp:∀(G:Nat->Prop) (ι:Io) (w:World) (a:Act),Fits fn.ntmps G ι h w (lkL (QsG 0 args)) h a w->c.wpIn (Fen none) 0 P (out fn.ntmps G ι h w (QBN res K)) a w):
  FnS P f args h K:=by
 refine⟨λG ι w vs hr hvs=> ?_⟩;refine .of hf (Qgr hf hb (wpIn_mono (hwp G ι w _ (QhB (af:=⟨fn.ntmps,res,.skip⟩) rfl hl hr hvs)) λx a w' ⟨L,h',hq,hfit⟩=> ?_));have fin:QAY res L h' K->LeavesInM Fence.wide 0 P fn a.tmps (λe w'=>∃v r G' ι' h'',e= .returned v/\K r h''/\HR G' ι' h'' w'/\VR G' w' ι' h'' v r/\Ext G ι h w G' ι' h'' w') a.defers .returning w':=by
  intro hret;refine QhD hfit λG1 ι1 w2 rel ext=> ?_
  unfold QAY at hret;split at hret
  ·rename_i vs' hvs';rw[QeJ]at hvs';obtain⟨us,q1,q2⟩:=QgG (P:=P) (fn:=fn) (af:=⟨fn.ntmps,res,.skip⟩) hres rel.hr rel.env hvs';exact⟨_,q1,_,pack vs',G1,ι1,h',rfl,hret,rel.hr,QhU q2,ext⟩
  ·exact hret.elim
 cases x with
 |normal=>exact fin hq
 |ret=>exact fin hq
 |exit i=>exact hq.elim
 |goto=>exact hq.elim
 |panic=>exact hq.elim
 |outgrown=>exact hq.elim
theorem Qhy{fn:Func}{af:AF}(hc:QaC P fn=some af):∃c,fn.body=some c/\Qgu P fn.ntmps c=some af.body/\QsJ P fn.results.toList=some af.res/\af.nt=fn.ntmps:=by
 unfold QaC at hc;split at hc
 ·rename_i c hb;split at hc
  ·rename_i ac res hac hres;cases hc;exact⟨c,hb,hac,hres,rfl⟩
  ·cases hc
 ·cases hc
theorem Qtr{f:Nat}{fn:Func}{af:AF}{args:List AV}{K:AV->Prop}(hm:P.follows .mixedOrders=true)(hf:P.funcs[f]? =some fn)(hc:QaC P fn=some af)(hl:args.length<=af.nt)(hv:∀Λ:Len,(∀l,Λ l=(l.length:Int))->vcF P Λ af args K):
  FnS P f args [] λr _=>QcE r=true/\K r:=by
 obtain⟨c,hb,hac,hres,hn⟩:=Qhy hc;refine QrP hf hb hres (by omega) λG ι w a hfit=> ?_
 refine wpIn_mono (Qhp (Λ:=λl=>l.length) (λ_=>rfl) (m:=0) hm (by simp) c af.body _ _ _ _ _ hac (hv (λl=>l.length) λ_=>rfl) hfit) λx a' w' ⟨L',h',hq,hf'⟩=>⟨L',h',?_,hf'⟩
 cases x<;>first|exact hq.elim|exact QzC.ret hq
theorem QpA{f:Nat}{fn:Func}{af:AF}{args:List AV}{h:Hp}{K:AV->Hp->Prop}(hm:P.follows .mixedOrders=true)(hf:P.funcs[f]? =some fn)(hc:QaC P fn=some af)(hl:args.length<=af.nt)(hv:∀Λ:Len,(∀l,Λ l=(l.length:Int))->vcH P Λ af args h K):
  FnS P f args h K:=by
 obtain⟨c,hb,hac,hres,hn⟩:=Qhy hc;exact QrO hf hb hres (by omega) λG ι w a hfit=>Qhp (Λ:=λl=>l.length) (λ_=>rfl) (m:=h.length) hm (Nat.le_refl _) c af.body _ _ _ _ _ hac (hv (λl=>l.length) λ_=>rfl) hfit
end
def zC(l v sz:Nat)(es:List (List D)):CV->CV
 | .arr l' v' i n=>match Nat.beq l' l,Nat.beq v' v with
  |true,true=> .d (.list false sz es)
  |_,_=> .arr l' v' i n
 |x=>x
def zCs(l v sz:Nat)(es:List (List D)):List CV->List CV
 |[]=>[]
 |x::r=>zC l v sz es x::zCs l v sz es r
def zA(l v sz:Nat)(es:List (List D)):AV->AV
 | .c (.fn b f cs)=> .c (.fn b f (zCs l v sz es cs))
 | .c x=> .c (zC l v sz es x)
 | .agg xs=> .agg (zCs l v sz es xs)
 |x=>x
def zB(l v sz:Nat)(es:List (List D)):Blk->Blk
 | .bx cs=> .bx (zCs l v sz es cs)
 |b=>b
def zH(l v sz:Nat)(es:List (List D)):Nat->Hp->Hp
 |_,[]=>[]
 |n,b::r=>(match Nat.beq n l with
  |true=> .dead
  |false=>zB l v sz es b)::zH l v sz es (n+1) r
def zL(l v sz:Nat)(es:List (List D)):Lv->Lv
 |[]=>[]
 |(i,x)::r=>(i,zA l v sz es x)::zL l v sz es r
def okC(l v k:Nat):CV->Prop
 | .arr l' v' i n=>match Nat.beq l' l,Nat.beq v' v with
  |true,true=>i=0/\n=k
  |_,_=>True
 |_=>True
def QAA(l v k:Nat):List CV->Prop
 |[]=>True
 |x::r=>okC l v k x/\QAA l v k r
def okA(l v k:Nat):AV->Prop
 | .c (.fn _ _ cs)=>QAA l v k cs
 | .c x=>okC l v k x
 | .agg xs=>QAA l v k xs
 |_=>True
def okB(l v k:Nat):Blk->Prop
 | .bx cs=>QAA l v k cs
 |_=>True
def okH(l v k:Nat):Hp->Prop
 |[]=>True
 |b::r=>okB l v k b/\okH l v k r
def okL(l v k:Nat):Lv->Prop
 |[]=>True
 |(_,x)::r=>okA l v k x/\okL l v k r
theorem QAW{l v sz k:Nat}{es:List (List D)}(hk:k=es.length){x:CV}(h:okC l v k x):FzC l v sz es x (zC l v sz es x):=by
 cases x with
 |arr l' v' i n=>
  simp only[okC]at h;simp only[zC];split at h
  ·rename_i hl hv;obtain⟨rfl,rfl⟩:=h;have hl:l'=l:=Nat.eq_of_beq_eq_true hl;have hv:v'=v:=Nat.eq_of_beq_eq_true hv;subst hl hv;exact .arr _ hk
  ·exact .keep _
 |_=>exact .keep _
theorem Qu2{l v sz k:Nat}{es:List (List D)}(hk:k=es.length):∀{xs:List CV},QAA l v k xs->Qw0 l v sz es xs (zCs l v sz es xs):=by
 intro xs;induction xs with
 |nil=>intro _;trivial
 |cons x r ih=>intro h;exact⟨QAW hk h.1,ih h.2⟩
theorem QAV{l v sz k:Nat}{es:List (List D)}(hk:k=es.length){x:AV}(h:okA l v k x):FzA l v sz es x (zA l v sz es x):=by
 cases x with
 |c x=>
  cases x with
  |fn b f cs=>exact .fn _ _ _ _ (Qu2 hk h)
  |_=>exact .c _ _ (QAW hk h)
 |agg xs=>exact .agg _ _ (Qu2 hk h)
 |tup=>exact .same _
theorem QAy{l v sz:Nat}{es:List (List D)}:∀(L:Lv) (i:Nat),lkN (zL l v sz es L) i=zA l v sz es (lkN L i):=by
 intro L;induction L with
 |nil=>intro i;rfl
 |cons p r ih=>
  intro i;obtain⟨j,x⟩:=p;simp only[zL,lkN];split<;>simp_all
theorem Qt5{l v k:Nat}:∀{L:Lv},okL l v k L->∀i,okA l v k (lkN L i):=by
 intro L;induction L with
 |nil=>intro _ i;trivial
 |cons p r ih=>
  intro h i;obtain⟨j,x⟩:=p;simp only[lkN];split
  ·exact h.1
  ·exact ih h.2 i
theorem QAX{l v sz k:Nat}{es:List (List D)}(hk:k=es.length):∀{h:Hp} {n:Nat},okH l v k h->FzH l v sz es n h (zH l v sz es n h):=by
 intro h;induction h with
 |nil=>intro n _;trivial
 |cons b r ih=>
  intro n ho;refine⟨?_,ih ho.2⟩;cases hb:Nat.beq n l with
  |true=>exact .inl ⟨Nat.eq_of_beq_eq_true hb,rfl⟩
  |false=>
   refine .inr ⟨(λe=>by subst e;rw[Nat.beq_refl]at hb;cases hb),?_⟩;cases b with
   |bx cs=>exact .bx _ _ (Qu2 hk ho.1)
   |_=>exact .same _
theorem Qja.mono{P:Program}{m:Nat}{d:Bool}{K K':Lv->Hp->Prop}(hK:∀L h,K L h->K' L h):∀{ops:List AO} {L:Lv} {h:Hp},Qja P m d ops L h K->Qja P m d ops L h K':=by
 intro ops;induction ops with
 |nil=>intro L h hr;exact hK _ _ hr
 |cons o r ih=>
  intro L h hr;rcases hr with ⟨h1,h2⟩|⟨h1,h2⟩
  ·exact .inl ⟨h1,h2.mono λL' v h' hr=>ih hr⟩
  ·exact .inr ⟨h1,ih h2⟩
end Go.Ab
