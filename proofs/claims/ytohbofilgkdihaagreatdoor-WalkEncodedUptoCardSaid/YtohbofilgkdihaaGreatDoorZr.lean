/-
  Merged texts, part r.
-/
import Derived.Test.YtohbofilgkdihaaGreatDoorZq
import Derived.Calls
set_option linter.all false
namespace Go.Ab
def Up(w w':World):Prop:=w'.tape=w.tape/\w.drawn<=w'.drawn
theorem Up.refl(w:World):Up w w:=⟨rfl,Nat.le_refl _⟩
theorem Up.trans{w w1 w2:World}(h:Up w w1)(h':Up w1 w2):Up w w2:=⟨h'.1.trans h.1,Nat.le_trans h.2 h'.2⟩
theorem Up.heap{w w1:World}(h:Up w w1)(hp:Array Obj):Up w {w1 with heap:=hp}:=h
theorem Up.os{w w1:World}(h:Up w w1)(os:Os):Up w {w1 with os:=os}:=h
def RUp{α:Type}(w0:World):Result α->Prop
 | .ok _ w=>Up w0 w
 | .halt _ w=>Up w0 w
theorem Qo6{p:Program}{w:World}{at_:Addr}{u:TypeId}{a:Addr}{v:Value}{b:Bool}{w':World}{l:List Addr}
 (h:w.viewStore p at_ u a v b= .ok (w',l)):Up w w':=by
 unfold World.viewStore at h;simp only[bind,Except.bind,pure,Except.pure]at h
 repeat' split at h
 all_goals first
  |(cases h;done)
  |(injection h with h;injection h with h1 h2;subst h1;exact⟨rfl,Nat.le_refl _⟩)
theorem QzK{α:Type}(k:Ask α):∀w:World,Up w (w.ask k).2:=by
 induction k with
 |done a=>exact λw=>Up.refl w
 |ask what range k ih=>
  intro w;simp only[World.ask];split
  ·exact ih _ _
  ·exact Up.trans (w1:={w with drawn:=w.drawn+1}) ⟨rfl,Nat.le_succ _⟩ (ih _ _)
theorem Qxy(w:World)(c:Sys):Up w (w.sys c).2:=by
 have h:=QzK (Kernel.perform c w.os) w;unfold World.sys;split
 ·exact Up.refl w
 ·next r os w1 _ e=>rw[e]at h;exact h
theorem Qxt{α:Type}(p:Program)(s:Sem α):∀w0 w:World,Up w0 w->RUp w0 (s.run p w):=by
 induction s with
 |pure a=>exact λ_ _ h=>h
 |load m a k ih=>
  intro w0 w h;simp only[Sem.run];split
  ·exact ih _ _ _ h
  ·split
   ·exact ih _ _ _ h
   ·exact h
 |store m a v k ih=>
  intro w0 w h;cases v<;>simp only[Sem.run]<;>first|exact h|skip
  all_goals
   split
   ·split
    ·exact h
    ·exact ih _ _ h
   ·split
    ·next w1 _ e=>
     refine ih _ _ (h.trans ?_);unfold World.farStore at e;split at e
     ·split at e
      ·next r e2=>injection e with e;subst e;exact Qo6 e2
      ·cases e
     ·cases e
    ·exact h
 |new o k ih=>exact λ_ _ h=>ih _ _ _ h
 |shape r k ih=>exact λ_ _ h=>ih _ _ _ h
 |freeze a n k ih=>
  intro w0 w h;simp only[Sem.run];refine ih _ _ (h.trans ?_);unfold World.freeze;split<;>exact⟨rfl,Nat.le_refl _⟩
 |frozen a k ih=>exact λ_ _ h=>ih _ _ _ h
 |getObj r k ih=>
  intro w0 w h;simp only[Sem.run];split
  ·exact h
  ·exact ih _ _ _ h
  ·exact h
 |setObj r o k ih=>
  intro w0 w h;simp only[Sem.run];split
  ·exact h
  ·exact ih _ _ h
  ·exact h
 |choose q k ih=>
  intro w0 w h;simp only[Sem.run];split
  ·exact ih _ _ _ h
  ·exact ih _ _ _ (h.trans (w1:=w) (w2:={w with drawn:=w.drawn+1}) ⟨rfl,Nat.le_succ _⟩)
 |sys c k ih=>
  intro w0 w h;simp only[Sem.run];exact ih _ _ _ (h.trans (Qxy w c))
 |program k ih=>exact λ_ _ h=>ih _ _ _ h
 |mark m k ih=>exact λ_ _ h=>ih _ _ h
 |halt x=>exact λ_ _ h=>h
theorem Qcd{α:Type}{p:Program}{s:Sem α}{w0 w w1:World}{a:α}(h:Up w0 w)(e:s.run p w= .ok a w1):Up w0 w1:=by
 have:=Qxt p s w0 w h;rw[e]at this;exact this
theorem Qbv{α:Type}{p:Program}{s:Sem α}{w0 w w1:World}{a:Halt}(h:Up w0 w)(e:s.run p w= .halt a w1):Up w0 w1:=by
 have:=Qxt p s w0 w h;rw[e]at this;exact this
def gw:GStep->World
 | .go _ w _=>w
 | .comm _ _ _ _ w _=>w
 | .spawn _ _ w _=>w
 | .count _ w _=>w
 | .timer _ _ w _=>w
 | .alone _ _ w _=>w
 | .newcoro _ _ _ w _=>w
 | .coroswitch _ _ _ w _=>w
 | .collect _ w _=>w
 | .watch _ w _=>w
 | .ended _ w _=>w
def GUp(w0:World)(s:GStep):Prop:=Up w0 (gw s)
theorem GUp.after{w0:World}{es:Array Event}{s:GStep}(h:GUp w0 s):GUp w0 (GStep.after es s):=by
 cases s<;>exact h
theorem Qgv{p:Program}{main:Bool}{fr:Frame}{cs:List Frame}{d:Option Dying}{v:Value}{w0 w:World}(h:Up w0 w):
  GUp w0 (doReturn p main fr cs d v w):=by
 unfold doReturn
 repeat' split
 all_goals exact h
theorem Qf5{p:Program}{fr:Frame}{v:Value}{w0 w:World}(h:Up w0 w):GUp w0 (endPrinting p fr v w):=by
 unfold endPrinting;simp only[]
 repeat' split
 all_goals exact h
theorem QrL{w0 w:World}{fd:Nat}{text:ByteArray}{o:Outcome}(h:Up w0 w):GUp w0 (endWith w fd text o):=by
 unfold endWith;have hs:=h.trans (Qxy w (.write fd text));simp only[];generalize w.sys (.write fd text)=r at hs;obtain⟨r,w1⟩:=r;cases r<;>simp only[]<;>repeat' split
 all_goals exact hs
theorem QjO{p:Program}{fr:Frame}{cs:List Frame}{d:Option Dying}{m:String}{w0 w:World}(h:Up w0 w):GUp w0 (endFatal p fr cs d m w):=by
 unfold endFatal
 lift_lets
 intros
 split
 all_goals first
  |exact Qcd h (by assumption)
  |exact Qbv h (by assumption)
theorem QsD{p:Program}{fr:Frame}{d:Dying}{f:Fatal}{w0 w:World}(h:Up w0 w):GUp w0 (writeOn p fr d f w):=by
 unfold writeOn;simp only[Sem.runT_eq];split
 ·exact h
 ·split
  all_goals
   next e=>
    injection e with e _
    first
     |exact Qcd h e
     |exact Qbv h e
theorem Qz7{p:Program}{fr:Frame}{d:Dying}{w0 w:World}(h:Up w0 w):GUp w0 (die p fr d w):=by
 unfold die;simp only[Sem.runT_eq];split
 ·exact QsD h
 ·split
  ·split
   ·exact h
   ·exact QrL h
  ·split
   ·exact h
   ·split
    all_goals first
     |exact Qcd h (by assumption)
     |exact Qbv h (by assumption)
   ·refine GUp.after ?_;split
    all_goals first
     |exact Qcd h (by assumption)
     |exact Qbv h (by assumption)
     |exact Qf5 (Qbv h (by assumption))
     |skip
    exact h
   ·exact h
theorem QjF{p:Program}{fr:Frame}{cs:List Frame}{dy:Option Dying}{d:Deferred}{w0 w:World}(h:Up w0 w):
  GUp w0 (callDeferred p fr cs dy d w):=by
 unfold callDeferred;simp only[Sem.runT_eq];refine iteInduction (motive:=GUp w0) (λ_=>h) (λ_=>GUp.after ?_);split
 all_goals first
  |exact Qcd h (by assumption)
  |exact Qbv h (by assumption)
  |exact QjO (Qbv h (by assumption))
  |skip
 split
 all_goals exact Qcd h (by assumption)
theorem QuK{p:Program}{main:Bool}{fr:Frame}{cs:List Frame}{dy:Option Dying}{w0 w:World}(h:Up w0 w):
  GUp w0 (unwind p main fr cs dy w):=by
 unfold unwind;simp only[Sem.runT_eq];split
 ·refine GUp.after ?_;split
  all_goals first
   |exact Qcd h (by assumption)
   |exact Qbv h (by assumption)
 ·exact QjF h
 ·split
  ·exact h
  ·split
   ·exact h
   ·split
    ·exact h
    ·split
     ·split
      ·exact h
      ·split
       all_goals first
        |exact Qcd h (by assumption)
        |exact Qbv h (by assumption)
     ·split
      ·exact Qf5 h
      ·exact h
  ·split
   ·exact Qgv h
   ·refine GUp.after ?_;split
    all_goals first
     |exact Qgv (Qcd h (by assumption))
     |exact Qbv h (by assumption)
theorem Qvz{p:Program}{fr:Frame}{cs:List Frame}{dy:Option Dying}{g:Nat}{w0 w:World}(h:Up w0 w):
  GUp w0 (early p fr cs dy g w):=by
 have h1:∀w,Up w0 w->GUp w0 (match w.heap[g]? with
  |some (.pending c elem)=> .go {frame:=fr,callers:=cs,status:= .running,dying:=dy} {w with heap:=w.heap.setIfInBounds g (.cells c elem)}
  |_=> .ended (.stuck "early: the variable does not wait" (fr.pos p)) w):=by
  intro w h;split<;>exact h
 unfold early;simp only[];refine iteInduction (motive:=GUp w0) (λ_=>h1 w h) (λ_=> ?_);split
 ·exact h
 ·refine iteInduction (motive:=GUp w0) (λ_=>h1 w h) (λ_=> ?_);refine iteInduction (motive:=GUp w0) (λ_=>h1 w h) (λ_=> ?_);split
  ·exact h
  ·exact h
  ·exact h
  ·exact h1 w h
  ·refine iteInduction (motive:=GUp w0) (λ_=>h) (λ_=> ?_);refine iteInduction (motive:=GUp w0) (λ_=>h1 w h) (λ_=> ?_);split
   ·exact h1 _ (Qcd h (by assumption))
   ·exact Qcd h (by assumption)
   ·exact Qbv h (by assumption)
theorem Qi3{p:Program}{b:Bool}{fr:Frame}{cs:List Frame}{dy:Option Dying}{s:Sem Next}{w0 w:World}(h:Up w0 w):
  GUp w0 (stepG.apply p b fr cs dy s w):=by
 unfold stepG.apply;simp only[Sem.runT_eq];refine GUp.after ?_;have hr:(if b=true then (s.run p w,s.events p w #[])else (s.run p w,#[])).1=s.run p w:=by split<;>rfl
 rw[hr];split
 all_goals first
  |exact Qcd h (by assumption)
  |exact Qbv h (by assumption)
  |exact QjO (Qbv h (by assumption))
  |exact Qvz (Qbv h (by assumption))
  |skip
 all_goals
  have hw:=Qcd h (by assumption)
  first
   |(refine iteInduction (motive:=GUp w0) (λ_=>hw) (λ_=> ?_);exact hw)
   |(split<;>exact hw)
theorem QyA{p:Program}{b:Bool}{fr:Frame}{cs:List Frame}{dy:Option Dying}{w0 w:World}(h:Up w0 w):
  GUp w0 (stepG.oper p b fr cs dy w):=by
 unfold stepG.oper;split
 ·exact h
 ·split<;>exact Qi3 h
theorem Qx5{p:Program}{main b:Bool}{fr:Frame}{cs:List Frame}{dy:Option Dying}{w0 w:World}(h:Up w0 w):
  GUp w0 (stepG.exec p main b fr cs dy w):=by
 have hl:∀(c:Prop) [Decidable c] (jump:Option Code),GUp w0 (match fr.roundOf with
   |none=>if c then .go {frame:={fr with mode:= .returning},callers:=cs,status:= .running,dying:=dy} w else .ended (.stuck "exit, goto: no such block or label" (fr.pos p)) w
   |some l=>
    GStep.after (seen p fr.fn ((Instr.endRound l jump).events p w #[])) <| match (Instr.endRound l jump).run p w with
    | .ok v w=>doReturn p main fr cs dy v w
    |.halt _ w=> .ended (.stuck "range over a function: no such loop" (fr.pos p)) w):=by
  intro c _ jump;split
  ·refine iteInduction (motive:=GUp w0) (λ_=>h) (λ_=>h)
  ·refine GUp.after ?_;split
   ·exact Qgv (Qcd h (by assumption))
   ·exact Qbv h (by assumption)
 unfold stepG.exec;simp only[Sem.runT_eq];split
 all_goals first
  |exact h
  |exact hl _ _
  |exact Qi3 h
  |skip
 ·split<;>exact h
 ·cases exitTo _ _ with
  |none=>exact hl _ _
  |some k=>exact h
 ·cases gotoIn _ _ with
  |none=>exact hl _ _
  |some k=>exact h
 ·refine GUp.after ?_;split
  ·exact Qi3 (Qcd h (by assumption))
  ·exact Qbv h (by assumption)
 ·refine GUp.after ?_;split
  ·exact Qcd h (by assumption)
  ·exact Qbv h (by assumption)
  ·exact Qbv h (by assumption)
 ·cases Extern.next _ with
  |none=>exact h
  |some e=>exact Qi3 h
 ·refine iteInduction (motive:=GUp w0) (λ_=>h) (λ_=> ?_);split
  ·exact Qcd h (by assumption)
  ·exact Qbv h (by assumption)
 ·refine iteInduction (motive:=GUp w0) (λ_=>QyA h) (λ_=>h)
theorem QwL{p:Program}{main b:Bool}{g:Goroutine}{w0 w:World}(h:Up w0 w):GUp w0 (stepG p main g w b):=by
 unfold stepG;split;split
 ·exact Qz7 h
 ·exact Qx5 h
 ·exact QuK h
def SUp(w0:World):Stepped->Prop
 | .next m=>Up w0 m.world
 | .ended _ _=>True
theorem Qk2{p:Program}{rest:Rest}{gs:Array Goroutine}{i:Nat}{g:Goroutine}{cases:Array CommCase}{bl:Bool}{shape:CommShape}{w0 w:World}(h:Up w0 w):
  SUp w0 (communicate p rest gs i g cases bl shape w).1:=by
 unfold communicate;simp only[];refine iteInduction (motive:=λx:Stepped×Array MemOp=>SUp w0 x.1) (λ_=>trivial) (λ_=> ?_);refine iteInduction (motive:=λx:Stepped×Array MemOp=>SUp w0 x.1) (λ_=> ?_) (λ_=> ?_)
 ·refine iteInduction (motive:=λx:Stepped×Array MemOp=>SUp w0 x.1) (λ_=> ?_) (λ_=>h);split
  ·next e=>
   unfold waitingAt at e
   repeat' split at e
   all_goals first
    |(cases e;done)
    |(injection e with e;subst e;exact h)
  ·trivial
 ·split
  ·trivial
  ·have hw:=Qcd h (by assumption);split
   ·split
    ·exact Qbv hw (by assumption)
    ·trivial
   ·exact hw
   ·exact hw
   ·split
    ·exact hw
    ·split
     ·have hv:=Qcd hw (by assumption);exact hv
     ·trivial
   ·exact hw
   ·exact hw
   ·trivial
theorem QtQ{p:Program}{gs:Array Goroutine}{rest:Rest}{w0 w:World}(h:Up w0 w):SUp w0 (look p gs rest w):=by
 unfold look;simp only[];split
 ·refine iteInduction (motive:=SUp w0) (λ_=>trivial) (λ_=> ?_);split
  ·trivial
  ·split
   ·have hv:=Qcd h (by assumption);exact hv
   ·trivial
   ·trivial
 ·trivial
theorem Qsr{m:Machine}{op:TimerOp}{v:Value}{m':Machine}{w0:World}(h:Up w0 m.world)(e:timerOp m op= .ok (v,m')):Up w0 m'.world:=by
 have hd:∀w c,Up w0 w->Up w0 (drain w c).2:=by
  intro w c h;unfold drain;split<;>exact h
 have hre:∀(m:Machine) k t a b,Up w0 m.world->Up w0 (retime m k t a b).2.world:=by
  intro m k t a b h;unfold retime;split
  next had w1 e=>
  split at e
  ·next c _=>
   have:=hd m.world c h;rw[e]at this;exact this
  ·injection e with _ e;subst e;exact h
 have hn:∀m var f v m',(∀k t,Up w0 (f k t).2.world)->timerOp.named m var f= .ok (v,m')->Up w0 m'.world:=by
  intro m var f v m' hf e;unfold timerOp.named at e;split at e
  ·next k _=>
   injection e with e;have:=hf k (m.rest.timers.getD k default);rw[e]at this;exact this
  ·cases e
 unfold timerOp at e;split at e
 ·split at e
  ·injection e with e;injection e with _ e;subst e;exact h
  ·split at e
   ·split at e
    ·cases e
    ·injection e with e;injection e with _ e;subst e;exact h
   ·cases e
 ·exact hn _ _ _ _ _ (λk t=>hre m k t _ _ h) e
 ·split at e
  ·next m1 e1=>
   refine hn _ _ _ _ _ (λk t=>hre m1 k t _ _ ?_) e;unfold timerOp.opened at e1
   repeat' split at e1
   all_goals first
    |(cases e1;done)
    |(injection e1 with e1;subst e1;exact h)
  ·cases e
 ·injection e with e;injection e with _ e;subst e;exact h
theorem QwD{p:Program}{m:Machine}{k:Nat}{w0:World}(h:Up w0 m.world):SUp w0 (serve p m k):=by
 unfold serve;split
 ·trivial
 ·exact h
 ·simp only[];split
  ·trivial
  ·exact h
theorem QyZ{p:Program}{m:Machine}{i:Nat}{b:Bool}{w0:World}(h:Up w0 m.world):SUp w0 (runT p m i b).1:=by
 unfold runT;simp only[];have hs:GUp w0 (stepG p (i==0) (m.gs.swapAt! i {(default:Goroutine)with status:= .finished}).1 m.world b):=QwL h;generalize stepG p (i==0) (m.gs.swapAt! i {(default:Goroutine)with status:= .finished}).1 m.world b=s at hs;cases s with
 |go g w es=>exact hs
 |comm g cases bl shape w es=>exact Qk2 hs
 |spawn g c w es=>exact hs
 |count g w es=>
  simp only[];exact iteInduction (motive:=λx:Stepped=>SUp w0 x) (λ_=>trivial) (λ_=>hs)
 |timer g op w es=>
  simp only[];split
  ·next e=>
   have ht:=Qsr (w0:=w0) (m:=Machine.mk w _ _) hs e;exact ht
  ·exact hs
  ·trivial
  ·trivial
 |alone g on w es=>exact hs
 |newcoro g c d w es=>exact hs
 |coroswitch g c ex w es=>
  simp only[];split
  ·exact hs
  ·exact hs
  ·trivial
 |collect g w es=>exact QtQ hs
 |watch g w es=>exact hs
 |ended o w es=>trivial
def MUp(w0:World):Move->Prop
 | .goroutine m _=>Up w0 m.world
 | .machine s _=>SUp w0 s
theorem QzH{m:Machine}{w0:World}(h:Up w0 m.world)(t:Nat):Up w0 (m.advanceTo t).world:=h
theorem Qmi{p:Program}{m:Machine}{w0:World}(h:Up w0 m.world):MUp w0 (askOn p m):=by
 unfold askOn;simp only[];split
 ·trivial
 ·have hw:=Qcd h (by assumption);refine iteInduction (motive:=MUp w0) (λ_=>QwD hw) (λ_=> ?_);split
  ·split
   ·exact hw
   ·refine iteInduction (motive:=MUp w0) (λ_=>hw) (λ_=> ?_);split<;>trivial
  ·split
   ·split
    ·trivial
    ·have hv:=Qcd hw (by assumption);refine iteInduction (motive:=MUp w0) (λ_=>hv) (λ_=> ?_);split
     ·trivial
     ·have hu:=Qcd hv (by assumption);exact hu
   ·split
    ·trivial
    ·have hx:=Qcd hw (by assumption);split
     ·trivial
     ·have hv:=Qcd hx (by assumption);refine iteInduction (motive:=MUp w0) (λ_=>hv) (λ_=> ?_);split
      ·trivial
      ·have hu:=Qcd hv (by assumption);exact hu
    ·have hx:=Qcd hw (by assumption);exact hx
    ·have hx:=Qcd hw (by assumption);split
     ·trivial
     ·rename_i e;have hv:=Qcd (QzH (m:={world:=_,gs:=m.gs,rest:=m.rest}) hx _) e;refine iteInduction (motive:=MUp w0) (λ_=>hv) (λ_=> ?_);split
      ·trivial
      ·have hu:=Qcd hv (by assumption);exact hu
theorem QsX{p:Program}{m:Machine}{w0:World}(h:Up w0 m.world):MUp w0 (ask p m):=by
 unfold ask;split
 ·split
  ·trivial
  ·have hw:=Qcd h (by assumption);have hk:=QtQ (p:=p) (gs:=m.gs) (rest:=m.rest) hw;split
   ·next e=>rw[e]at hk;exact Qmi hk
   ·exact hk
  ·have hw:=Qcd h (by assumption);exact Qmi hw
 ·exact Qmi h
theorem Qyu{p:Program}{m:Machine}{w0:World}(h:Up w0 m.world):MUp w0 (move p m):=by
 unfold move;split
 ·split
  ·exact h
  ·trivial
 ·split
  ·split
   ·exact h
   ·exact QsX h
  ·exact QsX h
theorem Qy8{p:Program}{m:Machine}{w0:World}(h:Up w0 m.world):SUp w0 (step p m):=by
 unfold step stepT;have hm:=Qyu (p:=p) h;split
 ·next e=>rw[e]at hm;exact QyZ hm
 ·next e=>rw[e]at hm;exact hm
theorem QyY{p:Program}{w0:World}(n:Nat):∀m:Machine,Up w0 m.world->SUp w0 (runN p n m):=by
 induction n with
 |zero=>exact λ_ h=>h
 |succ n ih=>
  intro m h;have hs:=Qy8 (p:=p) h;rw[runN];split
  ·next e=>rw[e]at hs;exact ih _ hs
  ·exact hs
theorem QwM{p:Program}{m m':Machine}(h:Steps p m m'):Up m.world m'.world:=by
 obtain⟨n,hn⟩:=h;have:=QyY (p:=p) n m (Up.refl _);rw[hn]at this;exact this
theorem Qvo{P:Program}{f:FuncId}{args:Array Value}{w:World}{R:Ending->World->Prop}(h:Calls P f args w R):
  Calls P f args w λe w'=>R e w'/\∀v,e= .returned v->Up w w':=by
 intro cs;obtain⟨e,w',fr,hR,hc,h1,h2⟩:=h cs;refine⟨e,w',fr,⟨hR,?_⟩,hc,h1,h2⟩;intro v he;subst he;exact QwM hc
open Go.Proofs
def QCl:Option (Array Value×TypeId)->TypeId
 |some x=>x.2
 |none=>0
noncomputable def pwT:TypeId:=QCl (((begin Tryz.prog (λ_ _=>0) default).world.heap[0]?).bind Obj.row?)
noncomputable def QiY:Obj:= .cells (Go.Lib.pow10Tab.map λn=>Value.int .u64 n).toArray pwT
noncomputable def pwB:AB:= .op (λ_ _ o=>o=QiY) λ_ _ _ _ _ _ h=>h
def Qbt(m:Ar):Prop:=m 0=some pwB
theorem QwN{G:Nat->Prop}{w:World}(h:ABR G w 0 pwB):Go.Lib.TabIs Tryz.prog w "internal/strconv.uint64pow10" .u64 Go.Lib.pow10Tab:=by
 obtain⟨o,h1,h2⟩:=h;have hg:Tryz.prog.globalNamed "internal/strconv.uint64pow10"=some 0:=by kernel_rfl
 unfold Go.Lib.TabIs World.var?;rw[hg];simp only[Option.bind_some,h1,h2,QiY]
abbrev pr2 (s:Seg):Int×Int:=(s.kind,s.num)
def InS(l:List Seg):Prop:=∀s∈l,In64 s.kind/\In64 s.num
theorem Qtt{G:Nat->Prop}{ι:Io}{h:Hp}{w w':World}(hr:HR G ι h w)(hb:RowKit.Below w.heap.size w w')(hu:Up w w'):
    Ext G ι h w (λb=>G b\/((w.heap.size<=b/\b<w'.heap.size)/\w.heap.size<=b)) ι h w'/\HR (λb=>G b\/((w.heap.size<=b/\b<w'.heap.size)/\w.heap.size<=b)) ι h w':=by
  have hnew:HR (λb=>w.heap.size<=b/\b<w'.heap.size) [] [] w':=QnB λb hb=>hb.2
  have hext:Ext (λ_=>False) [] [] w (λb=>w.heap.size<=b/\b<w'.heap.size) [] [] w':=
    { size:=hb.size
      quiet:=⟨hb.os,hb.output,hu.1,hu.2⟩
      frame:=λb h1 _=>hb.block b h1
      gmono:=λ_ hb=>hb.elim
      gnew:=λb hb=> .inr (.inl hb.1)
      onew:=λb ⟨l,blk,h1,_⟩=>by simp at h1
      keep:=λl k hk=>by simp at hk}
  exact Ext.of_pure hr hext hnew
theorem QtZ(P:Program)(hP:P=Tryz.prog)(m:Ar)(hm:Qbt m)(n:Int)(l:List Seg)(hn:In64 n)(hl:l.length<=1000)(hi:InS l):
  FnS P Qkl [iA n,QcI l] [.am m] λr h'=>r= .c (.d (.str (nameS n (l.map pr2))))/\h'=[.am m]:=by
 subst hP;refine⟨λG ι w vs hr hv=> ?_⟩;obtain⟨v0,v1,hvs⟩:∃v0 v1,vs=[v0,v1]:=by
  have:=hv.1
  match vs,this with
  |[x,y],_=>exact⟨x,y,rfl⟩
 subst hvs;have hv0:VR G w ι [.am m] v0 (iA n):=hv.2 0 _ _ rfl rfl;have hv1:VR G w ι [.am m] v1 (QcI l):=hv.2 1 _ _ rfl rfl;have e0:=QbA hv0;subst e0;have hd:DR G w v1 (.list false 2 (l.map Qaj)):=Qcb hv1;have htab:=QwN (hr.blk 0 _ rfl _ _ hm);have hlen:(l.map pr2).length=l.length:=List.length_map _;obtain⟨a,cap,rfl,hc⟩:∃a cap,v1= .slice a (l.map pr2).length cap/\∀(j:Nat) (x:Int×Int),(l.map pr2)[j]? =some x->∃b off,a=some ⟨b,off,none⟩/\b<w.heap.size/\w.cell? ⟨b,off+j*2,none⟩=some (.int .i64 x.1)/\w.cell? ⟨b,off+j*2+1,none⟩=some (.int .i64 x.2):=by
  rw[hlen];revert hd;generalize hL:l.map Qaj=L;intro hd;have hLl:L.length=l.length:=by rw[<-hL,List.length_map]
  have none_:L=[]->∀(j:Nat) (x:Int×Int),(l.map pr2)[j]? =some x->False:=by
   rintro rfl j x hx;have:l=[]:=by simpa using hL
   rw[this]at hx;simp at hx
  cases hd with
  |nils=>exact⟨none,0,by rw[<-hLl];rfl,λj x hx=>(none_ rfl j x hx).elim⟩
  |emp a=>exact⟨_,0,by rw[<-hLl];rfl,λj x hx=>(none_ rfl j x hx).elim⟩
  |sl b off cap _ _ g hG hcap hmax hsz hc hg=>
   refine⟨_,cap,by rw[<-hLl],λj x hx=> ?_⟩;rw[gtm,omi]at hx;obtain⟨s,hs,rfl⟩:=hx;have he:L[j]? =some (Qaj s):=by rw[<-hL,gtm,hs];rfl
   have hne:L≠[]:=λe=>by rw[e]at he;simp at he
   refine⟨b,off,rfl,(hr.g b (hG hne)).1,?_,?_⟩
   ·have h1:=hc j _ 0 _ he rfl;have h2:=hg j _ 0 _ he rfl;rw[Nat.add_zero]at h1;rw[h1];generalize g j 0=v at h2;cases h2;rfl
   ·have h1:=hc j _ 1 _ he rfl;have h2:=hg j _ 1 _ he rfl;rw[h1];generalize g j 1=v at h2;cases h2;rfl
 refine Qea.of Qom ((Qvo (Qt0 n (l.map pr2) a cap w hn (by omega) ?_ hc htab)).mono ?_)
 ·intro x hx;obtain⟨s,hs,rfl⟩:=List.mem_map.1 hx;exact hi s hs
 ·rintro e w' ⟨⟨he,hbelow⟩,hup⟩;obtain⟨k1,k2⟩:=Qtt hr hbelow (hup _ he);exact⟨_,_,_,ι,_,he,⟨rfl,rfl⟩,k2,.c _ _ (.d _ _ (.str _)),k1⟩
end Go.Ab
namespace Go.Ab
abbrev Kn (σ:Type):=List (σ×Option Int)
def lkK{σ:Type}[DecidableEq σ]:Kn σ->σ->Option (Option Int)
 |[],_=>none
 |(x,c)::K,s=>if x=s then some c else lkK K s
def Qzq{σ:Type}[DecidableEq σ](K:Kn σ)(s:σ):Int:=((lkK K s).getD none).getD 0
def QlL{σ:Type}[DecidableEq σ](K:Kn σ)(s:σ)(c:Int):Kn σ:=K.map λp=>if p.1=s then (p.1,some c)else p
def QjG(n:Int):Int:=if n<1001 then n else 1001
def QgK{σ:Type}[DecidableEq σ](f:Kn σ->σ->Option (Kn σ)):List σ->Kn σ->Int->Option (Kn σ×Int)
 |[],K,c=>some (K,c)
 |y::ys,K,c=>match f K y with
  |none=>none
  |some K'=>QgK f ys K' (QjG (c+Qzq K' y))
def dfs{σ:Type}[DecidableEq σ](nx:σ->List σ):Nat->Kn σ->σ->Option (Kn σ)
 |0,K,s=>match lkK K s with
  |some (some _)=>some K
  |_=>none
 |n+1,K,s=>match lkK K s with
  |some (some _)=>some K
  |some none=>none
  |none=>match QgK (dfs nx n) (nx s) (K++[(s,none)]) (if nx s=[]then 1 else 0)with
   |none=>none
   |some (K',c)=>some (QlL K' s c)
section
variable{σ:Type}
def Dep(nx:σ->List σ):Nat->σ->Prop
 |0,x=>nx x=[]
 |n+1,x=>∀y∈nx x,Dep nx n y
theorem Qlr{nx:σ->List σ}:∀{n:Nat} {x:σ},Dep nx n x->Dep nx (n+1) x
 |0,x,h=>λy hy=>by rw[show nx x=[]from h]at hy;cases hy
 |n+1,x,h=>λy hy=>Qlr (h y hy)
theorem Qoa{nx:σ->List σ}{n m:Nat}{x:σ}(hm:n<=m)(h:Dep nx n x):Dep nx m x:=by
 induction hm with
 |refl=>exact h
 |step _ ih=>exact Qlr ih
def num(nx:σ->List σ):Nat->σ->Nat
 |0,_=>1
 |n+1,x=>if nx x=[]then 1 else ((nx x).map (num nx n)).sum
theorem Qxo{nx:σ->List σ}:∀{n:Nat} {x:σ},Dep nx n x->num nx (n+1) x=num nx n x
 |0,x,h=>by simp only[num,show nx x=[]from h,if_true]
 |n+1,x,h=>by
  rw[num]
  conv=>rhs;rw[num]
  split
  ·rfl
  ·congr 1
   exact List.map_congr_left λy hy=>Qxo (h y hy)
theorem Qxn{nx:σ->List σ}{n m:Nat}{x:σ}(hm:n<=m)(h:Dep nx n x):num nx m x=num nx n x:=by
 induction hm with
 |refl=>rfl
 |step hm ih=>rw[Qxo (Qoa hm h),ih]
theorem QxY{nx:σ->List σ}{l:List σ}(h:∀y∈l,∃n,Dep nx n y):∃n,∀y∈l,Dep nx n y:=by
 induction l with
 |nil=>exact⟨0,λy hy=>by cases hy⟩
 |cons x l ih=>
  obtain⟨n,hn⟩:=ih λy hy=>h y (List.mem_cons_of_mem _ hy)
  obtain⟨m,hm⟩:=h x (List.mem_cons_self ..);refine⟨max n m,λy hy=> ?_⟩;rcases List.mem_cons.1 hy with rfl|hy
  ·exact Qoa (Nat.le_max_right ..) hm
  ·exact Qoa (Nat.le_max_left ..) (hn y hy)
end
section
variable{σ:Type}[DecidableEq σ]
theorem Qfk{K L:Kn σ}{s:σ}:lkK (K++L) s=match lkK K s with
  |some c=>some c
  |none=>lkK L s:=by
 induction K with
 |nil=>rfl
 |cons p K ih=>
  obtain⟨x,c⟩:=p;simp only[List.cons_append,lkK];by_cases h:x=s
  ·simp[h]
  ·simp[h,ih]
theorem QhP{K:Kn σ}{s:σ}:lkK K s=none↔s∉K.map (·.1):=by
 induction K with
 |nil=>simp[lkK]
 |cons p K ih=>
  obtain⟨x,c⟩:=p;simp only[lkK,List.map_cons,List.mem_cons,not_or];by_cases h:x=s
  ·simp[h]
  ·simp only[h,if_false,ih];exact⟨λh2=>⟨λe=>h e.symm,h2⟩,λh2=>h2.2⟩
theorem Qxi{K:Kn σ}{s:σ}{c:Option Int}(h:lkK K s=some c):(s,c)∈K:=by
 induction K with
 |nil=>cases h
 |cons p K ih=>
  obtain⟨x,c'⟩:=p;simp only[lkK]at h;by_cases e:x=s
  ·rw[if_pos e]at h;cases h;subst e;simp
  ·rw[if_neg e]at h;exact List.mem_cons_of_mem _ (ih h)
theorem QgX{K:Kn σ}{s x:σ}{c:Int}:lkK (QlL K s c) x=if x=s then (lkK K x).map λ_=>some c else lkK K x:=by
 induction K with
 |nil=>simp[QlL,lkK]
 |cons p K ih=>
  obtain⟨y,c'⟩:=p;simp only[QlL,List.map_cons]at ih |-;by_cases e:y=s
  ·subst e;simp only[if_true,lkK];by_cases e2:y=x
   ·subst e2;simp
   ·rw[if_neg e2,if_neg e2,ih]
  ·rw[if_neg e];simp only[lkK];by_cases e2:y=x
   ·subst e2;rw[if_pos rfl,if_pos rfl,if_neg e]
   ·rw[if_neg e2,if_neg e2,ih]
theorem QhK{K:Kn σ}{s:σ}{c:Int}:(QlL K s c).map (·.1)=K.map (·.1):=by
 rw[QlL,List.map_map];apply List.map_congr_left;rintro⟨x,c'⟩ _;simp only[Function.comp];split<;>rfl
def Done(nx:σ->List σ)(K:Kn σ):Prop:=∀x c,lkK K x=some (some c)->(∃n,Dep nx n x/\c=QjG (num nx n x))/\∀y∈nx x,∃c',lkK K y=some (some c')
theorem Qvp(a b:Int)(ha:0<=a)(hb:0<=b):QjG (QjG a+QjG b)=QjG (a+b):=by
 simp only[QjG];split<;>split<;>split<;>(try split)<;>omega
structure DfsR (nx:σ->List σ) (K K':Kn σ):Prop where
 pre:∃new,K'.map (·.1)=K.map (·.1)++new
 old:∀x c,lkK K x=some c->lkK K' x=some c
 new:∀x c,lkK K' x=some c->lkK K x=none->∃c',c=some c'
 dn:Done nx K'
theorem DfsR.rfl'{nx:σ->List σ}{K:Kn σ}(h:Done nx K):DfsR nx K K:=⟨⟨[],by simp⟩,λ_ _ h=>h,λx c h h'=>(by rw[h]at h';cases h'),h⟩
theorem DfsR.trans{nx:σ->List σ}{K K1 K2:Kn σ}(h1:DfsR nx K K1)(h2:DfsR nx K1 K2):DfsR nx K K2:=by
 obtain⟨n1,e1⟩:=h1.pre;obtain⟨n2,e2⟩:=h2.pre;refine⟨⟨n1++n2,by rw[e2,e1,List.append_assoc]⟩,λx c h=>h2.old x c (h1.old x c h),λx c h h'=> ?_,h2.dn⟩;cases hk:lkK K1 x with
 |none=>exact h2.new x c h hk
 |some c1=>
  have:=h2.old x c1 hk;rw[this]at h;cases h;exact h1.new x _ hk h'
theorem QmC{nx:σ->List σ}{f:Kn σ->σ->Option (Kn σ)}(hf:∀K s K',Done nx K->f K s=some K'->DfsR nx K K'/\∃c,lkK K' s=some (some c)):
  ∀{ys:List σ} {K K':Kn σ} {a c:Int},Done nx K->QgK f ys K a=some (K',c)->DfsR nx K K'/\(∀y∈ys,∃c',lkK K' y=some (some c'))/\
   ∀n,(∀y∈ys,Dep nx n y)->∀b:Int,0<=b->a=QjG b->c=QjG (b+((ys.map (num nx n)).sum:Nat))
 |[],K,K',a,c,hK,h=>by
  simp only[QgK,osi,pmi]at h;obtain⟨rfl,rfl⟩:=h;exact⟨DfsR.rfl' hK,(λy hy=>by cases hy),λn _ b _ e=>by simpa using e⟩
 |y::ys,K,K',a,c,hK,h=>by
  simp only[QgK]at h;cases hy:f K y with
  |none=>rw[hy]at h;cases h
  |some K1=>
   rw[hy]at h;obtain⟨r1,c1,e1⟩:=hf K y K1 hK hy;obtain⟨r2,l2,n2⟩:=QmC hf r1.dn h;refine⟨r1.trans r2,λz hz=> ?_,λn hd b hb e=> ?_⟩
   ·rcases List.mem_cons.1 hz with rfl|hz
    ·exact⟨c1,r2.old _ _ e1⟩
    ·exact l2 z hz
   ·have hc:Qzq K1 y=QjG (num nx n y):=by
     obtain⟨⟨m,hm,e2⟩,_⟩:=r1.dn y c1 e1;rw[Qzq,e1];show c1=_;rw[e2];have h1:=Qxn (Nat.le_max_left n m) (hd y (List.mem_cons_self ..));have h2:=Qxn (Nat.le_max_right n m) hm;rw[<-h1,<-h2]
    have:=n2 n (λz hz=>hd z (List.mem_cons_of_mem _ hz)) (b+num nx n y) (by omega) (by rw[e,hc,Qvp _ _ hb (Int.natCast_nonneg _)]);rw[this,List.map_cons,List.sum_cons]
    congr 1
    omega
theorem QmD{nx:σ->List σ}:∀{n:Nat} {K K':Kn σ} {s:σ},Done nx K->dfs nx n K s=some K'->DfsR nx K K'/\∃c,lkK K' s=some (some c):=by
 intro n;induction n with
 |zero=>
  intro K K' s hK h;simp only[dfs]at h;split at h
  ·rename_i c hc;cases h;exact⟨DfsR.rfl' hK,c,hc⟩
  ·cases h
 |succ n ih=>
  intro K K' s hK h;simp only[dfs]at h;split at h
  ·rename_i c hc;cases h;exact⟨DfsR.rfl' hK,c,hc⟩
  ·cases h
  ·rename_i hs;cases hd:QgK (dfs nx n) (nx s) (K++[(s,none)]) (if nx s=[]then 1 else 0)with
   |none=>rw[hd]at h;cases h
   |some r=>
    obtain⟨K1,c⟩:=r;rw[hd]at h;simp only[osi]at h;subst h;have hK1:Done nx (K++[(s,none)]):=by
     intro x c hx;rw[Qfk]at hx;cases hk:lkK K x with
     |none=>
      rw[hk]at hx;simp only[lkK]at hx;split at hx<;>cases hx
     |some c1=>
      rw[hk]at hx;cases hx;obtain⟨h1,h2⟩:=hK x c hk;refine⟨h1,λy hy=> ?_⟩;obtain⟨c',e⟩:=h2 y hy;exact⟨c',by rw[Qfk,e]⟩
    obtain⟨r1,l1,n1⟩:=QmC (λK s K' hK h=>ih hK h) hK1 hd;have hopen:lkK K1 s=some none:=r1.old s none (by rw[Qfk,hs];simp[lkK]);have hdep:∃m,∀y∈nx s,Dep nx m y:=QxY λy hy=>by
     obtain⟨c',e⟩:=l1 y hy;obtain⟨⟨m,h1,_⟩,_⟩:=r1.dn y c' e;exact⟨m,h1⟩
    obtain⟨m,hm⟩:=hdep;have hns:∀y∈nx s,y≠s:=λy hy e=>by
     obtain⟨c',e'⟩:=l1 y hy;rw[e,hopen]at e';cases e'
    have hc:c=QjG (num nx (m+1) s):=by
     by_cases h0:nx s=[]
     ·rw[h0]at hd;simp only[QgK,if_true,osi,pmi]at hd;rw[<-hd.2,num,if_pos h0];rfl
     ·have:=n1 m hm 0 (by omega) (by rw[if_neg h0];rfl);rw[this,num,if_neg h0];simp
    refine⟨⟨?_,?_,?_,?_⟩,c,by rw[QgX,if_pos rfl,hopen];rfl⟩
    ·obtain⟨nw,e⟩:=r1.pre;exact⟨s::nw,by rw[QhK,e];simp⟩
    ·intro x c' hx;have hne:x≠s:=λe=>by rw[e,hs]at hx;cases hx
     rw[QgX,if_neg hne];exact r1.old x c' (by rw[Qfk,hx])
    ·intro x c' hx hx0;rw[QgX]at hx;by_cases e:x=s
     ·rw[if_pos e,e,hopen]at hx;cases hx;exact⟨_,rfl⟩
     ·rw[if_neg e]at hx;refine r1.new x c' hx ?_;rw[Qfk,hx0];rw[lkK,if_neg λe':s=x=>e e'.symm,lkK]
    ·intro x c' hx;rw[QgX]at hx;have hin:∀y c'',lkK K1 y=some (some c'')->lkK (QlL K1 s c) y=some (some c''):=by
      intro y c'' hy;have hne:y≠s:=λe=>by rw[e,hopen]at hy;cases hy
      rw[QgX,if_neg hne];exact hy
     by_cases e:x=s
     ·subst e;rw[if_pos rfl,hopen]at hx;cases hx;refine⟨⟨m+1,hm,hc⟩,λy hy=> ?_⟩;obtain⟨c'',e''⟩:=l1 y hy;exact⟨c'',hin y c'' e''⟩
     ·rw[if_neg e]at hx;obtain⟨h1,h2⟩:=r1.dn x c' hx;refine⟨h1,λy hy=> ?_⟩;obtain⟨c'',e''⟩:=h2 y hy;exact⟨c'',hin y c'' e''⟩
theorem Qtd{U:σ->Prop}{f:Kn σ->σ->Option (Kn σ)}(hf:∀K s K',(∀x∈K.map (·.1),U x)->U s->f K s=some K'->∀x∈K'.map (·.1),U x):
  ∀{ys:List σ} {K K':Kn σ} {a c:Int},(∀x∈K.map (·.1),U x)->(∀y∈ys,U y)->QgK f ys K a=some (K',c)->∀x∈K'.map (·.1),U x
 |[],K,K',a,c,hK,_,h=>by
  simp only[QgK,osi,pmi]at h;obtain⟨rfl,rfl⟩:=h;exact hK
 |y::ys,K,K',a,c,hK,hy,h=>by
  simp only[QgK]at h;cases hf1:f K y with
  |none=>rw[hf1]at h;cases h
  |some K1=>
   rw[hf1]at h;exact Qtd hf (hf K y K1 hK (hy y (List.mem_cons_self ..)) hf1) (λz hz=>hy z (List.mem_cons_of_mem _ hz)) h
theorem Qxa{nx:σ->List σ}{U:σ->Prop}(hU:∀x,U x->∀y∈nx x,U y):∀{n:Nat} {K K':Kn σ} {s:σ},(∀x∈K.map (·.1),U x)->U s->dfs nx n K s=some K'->∀x∈K'.map (·.1),U x:=by
 intro n;induction n with
 |zero=>
  intro K K' s hK hs h;simp only[dfs]at h;split at h
  ·cases h;exact hK
  ·cases h
 |succ n ih=>
  intro K K' s hK hs h;simp only[dfs]at h;split at h
  ·cases h;exact hK
  ·cases h
  ·split at h
   ·cases h
   ·rename_i K1 c hd;cases h;rw[QhK];refine Qtd (λK s K' h1 h2 h3=>ih h1 h2 h3) ?_ (hU s hs) hd;intro x hx;rw[List.map_append,List.mem_append]at hx;rcases hx with hx|hx
    ·exact hK x hx
    ·simp at hx;rw[hx];exact hs
theorem QjJ{nx:σ->List σ}:∀{n:Nat} {K K':Kn σ} {s:σ},(K.map (·.1)).Nodup->dfs nx n K s=some K'->(K'.map (·.1)).Nodup:=by
 intro n;induction n with
 |zero=>
  intro K K' s hK h;simp only[dfs]at h;split at h
  ·cases h;exact hK
  ·cases h
 |succ n ih=>
  intro K K' s hK h;simp only[dfs]at h;split at h
  ·cases h;exact hK
  ·cases h
  ·rename_i hs;split at h
   ·cases h
   ·rename_i K1 c hd;cases h;rw[QhK];have:∀{ys:List σ} {K K':Kn σ} {a c:Int},(K.map (·.1)).Nodup->QgK (dfs nx n) ys K a=some (K',c)->(K'.map (·.1)).Nodup:=by
     intro ys;induction ys with
     |nil=>
      intro K K' a c hK h;simp only[QgK,osi,pmi]at h;obtain⟨rfl,rfl⟩:=h;exact hK
     |cons y ys ihy=>
      intro K K' a c hK h;simp only[QgK]at h;split at h
      ·cases h
      ·rename_i K2 h2;exact ihy (ih hK h2) h
    refine this ?_ hd;rw[List.map_append,List.nodup_append];refine⟨hK,by simp,λx hx y hy e=> ?_⟩;simp at hy;rw[e,hy]at hx;exact QhP.1 hs hx
end
section
variable{σ:Type}
structure Expl (nx:σ->List σ) (s:σ) (S:List σ):Prop where
 hd:∃r,S=s::r
 nd:S.Nodup
 cl:∀x∈S,∀y∈nx x,y∈S
 mn:∀U:σ->Prop,U s->(∀x,U x->∀y∈nx x,U y)->∀x∈S,U x
theorem Expl.st{nx:σ->List σ}{s:σ}{S:List σ}(h:Expl nx s S):s∈S:=by
 obtain⟨r,e⟩:=h.hd;rw[e];simp
theorem Expl.len{nx:σ->List σ}{s:σ}{S S':List σ}(h:Expl nx s S)(h':Expl nx s S'):S.length=S'.length:=by
 have h1:=h.nd.length_le_of_subset λx hx=>h.mn (·∈S') h'.st h'.cl x hx
 have h2:=h'.nd.length_le_of_subset λx hx=>h'.mn (·∈S) h.st h.cl x hx
 omega
end
section
variable{σ:Type}[DecidableEq σ]
theorem QlK{nx:σ->List σ}{s:σ}{S:List σ}{n:Nat}{K:Kn σ}(h:Expl nx s S)(hd:dfs nx n [] s=some K):(K.map (·.1)).Nodup/\(∀x,x∈K.map (·.1)↔x∈S)/\Done nx K/\(∀x∈K.map (·.1),∃c,lkK K x=some (some c))/\∃r,K.map (·.1)=s::r:=by
 obtain⟨h1,c,h2⟩:=QmD (nx:=nx) (K:=[]) (λx c h=>by cases h) hd;have hdn:∀x∈K.map (·.1),∃c,lkK K x=some (some c):=by
  intro x hx;cases hk:lkK K x with
  |none=>exact absurd hx (QhP.1 hk)
  |some c'=>
   obtain⟨c2,e⟩:=h1.new x c' hk rfl;exact⟨c2,by rw[e]⟩
 refine⟨QjJ (by simp) hd,λx=>⟨λhx=> ?_,λhx=> ?_⟩,h1.dn,hdn,?_⟩
 ·exact Qxa (U:=(·∈S)) h.cl (by simp) h.st hd x hx
 ·refine h.mn (·∈K.map (·.1)) ?_ (λy hy z hz=> ?_) x hx
  ·exact List.mem_map.2 ⟨_,Qxi h2,rfl⟩
  ·obtain⟨c1,e1⟩:=hdn y hy;obtain⟨c2,e2⟩:=(h1.dn y c1 e1).2 z hz;exact List.mem_map.2 ⟨_,Qxi e2,rfl⟩
 ·cases n with
  |zero=>cases hd
  |succ n=>
   simp only[dfs,lkK]at hd;split at hd
   ·cases hd
   ·rename_i K1 c1 h3;cases hd;obtain⟨r1,_⟩:=QmC (λK s K' hK h=>QmD hK h) (λx c h=>by simp only[List.nil_append,lkK]at h;split at h<;>cases h) h3;obtain⟨nw,e⟩:=r1.pre;exact⟨nw,by rw[QhK,e];rfl⟩
end
section
variable{σ:Type}(ar:σ->List Int)(to:σ->Int->σ)
def nxt(x:σ):List σ:=(ar x).map (to x)
def brs:Nat->σ->List Int->List (σ×List Int)
 |0,x,p=>[(x,p)]
 |n+1,x,p=>if ar x=[]then [(x,p)]else (ar x).flatMap λa=>brs n (to x a) (p++[a])
theorem Qjy:∀(n:Nat) (x:σ) (p:List Int),(brs ar to n x p).length=num (nxt ar to) n x
 |0,x,p=>rfl
 |n+1,x,p=>by
  rw[brs,num];have he:nxt ar to x=[]↔ar x=[]:=by rw[nxt,List.map_eq_nil_iff]
  by_cases h:ar x=[]
  ·rw[if_pos h,if_pos (he.2 h)];rfl
  ·rw[if_neg h,if_neg λe=>h (he.1 e),List.length_flatMap,nxt,List.map_map]
   congr 1
   exact List.map_congr_left λa _=>Qjy n (to x a) (p++[a])
theorem Qw8:∀{n:Nat} {x:σ} (p:List Int),Dep (nxt ar to) n x->brs ar to (n+1) x p=brs ar to n x p
 |0,x,p,h=>by
  have:ar x=[]:=by rw[Dep,nxt,List.map_eq_nil_iff]at h;exact h
  rw[brs,brs,if_pos this]
 |n+1,x,p,h=>by
  rw[brs]
  conv=>rhs;rw[brs]
  split
  ·rfl
  ·have:∀l:List Int,(∀a∈l,a∈ar x)->(l.flatMap λa=>brs ar to (n+1) (to x a) (p++[a]))=l.flatMap λa=>brs ar to n (to x a) (p++[a]):=by
    intro l;induction l with
    |nil=>intro _;rfl
    |cons a l ih=>
     intro hl;rw[List.flatMap_cons,List.flatMap_cons,ih λb hb=>hl b (List.mem_cons_of_mem _ hb),Qw8 (p++[a]) (h _ (List.mem_map.2 ⟨a,hl a (List.mem_cons_self ..),rfl⟩))]
   exact this _ λa h=>h
theorem Qw7{n m:Nat}{x:σ}(p:List Int)(hm:n<=m)(h:Dep (nxt ar to) n x):brs ar to m x p=brs ar to n x p:=by
 induction hm with
 |refl=>rfl
 |step hm ih=>rw[Qw8 ar to p (Qoa hm h),ih]
end
section
variable{σ:Type}
end
section
variable{σ:Type}[DecidableEq σ]
def QzG(S:List σ)(y:σ):List σ:=if y∈S then S else S++[y]
theorem Qvb(S:List σ)(y:σ):y∈QzG S y:=by
 rw[QzG];split
 ·assumption
 ·simp
theorem Qyg{S r:List σ}{y:σ}(h:y∈S):(S++r).idxOf y=S.idxOf y:=by
 rw[List.idxOf_append,if_pos h]
end
open Go.Proofs
abbrev Ssc:=List (List UInt8×DV)
def QiR(e:List UInt8×DV):DV×DV:=(.s (.str e.1),e.2)
def sfind(k:List UInt8):Ssc->Nat->Option (Nat×DV)
 |[],_=>none
 |e::r,i=>if k=e.1 then some (i,e.2)else sfind k r (i+1)
theorem Qx3(a x:List UInt8):eqc [.d (.str a)] [.d (.str x)] [(0,2)]=some (decide (a=x)):=by
 have e:eqc [.d (.str a)] [.d (.str x)] [(0,2)]=some ((a==x)&&true):=rfl;rw[e];by_cases h1:a=x
 ·simp[h1]
 ·simp[h1]
theorem Qlx(a:List UInt8):∀(m:Ssc) (i:Nat),mfind true 1 [(0,2)] (.s (.str a)) (m.map QiR) i=some (sfind a m i):=by
 intro m;induction m with
 |nil=>intro i;rfl
 |cons e r ih=>
  intro i;obtain⟨x,v⟩:=e;have e1:mfind true 1 [(0,2)] (.s (.str a)) (List.map QiR ((x,v)::r)) i=
    (match eqc [.d (.str a)] [.d (.str x)] [(0,2)]with
    |some true=>some (some (i,v))
    |some false=>mfind true 1 [(0,2)] (.s (.str a)) (List.map QiR r) (i+1)
    |none=>none):=rfl
  rw[e1,Qx3];simp only[sfind];by_cases h:a=x
  ·rw[decide_eq_true h,if_pos h]
  ·rw[decide_eq_false h,if_neg h];exact ih (i+1)
theorem Qnw{a:List UInt8}{m:Ssc}{ml:List (DV×DV)}{ok:Bool}{z:AV}{K:AV->Prop}(mlh:m.map QiR=ml)(h0:sfind a m 0=none->K (lkR ok z false))(h1:∀i v,sfind a m 0=some (i,v)->K (lkR ok (Qu4 v) true)):
  ∀r,mfind true 1 [(0,2)] (.s (.str a)) ml 0=r->vLk ok z K r:=by
 intro r hr;rw[<-mlh,Qlx]at hr;subst hr;cases hp:sfind a m 0 with
 |none=>exact h0 hp
 |some p=>exact h1 p.1 p.2 hp
theorem Qrq{a:List UInt8}{m:Ssc}{ml:List (DV×DV)}{vd:DV}{K:List (DV×DV)->Prop}(mlh:m.map QiR=ml)(h0:sfind a m 0=none->∀es',(m++[(a,vd)]).map QiR=es'->K es')(h1:∀i v,sfind a m 0=some (i,v)->∀es',(m.set i (a,vd)).map QiR=es'->K es'):
  ∀r,mfind true 1 [(0,2)] (.s (.str a)) ml 0=r->vUp ml (.s (.str a)) vd K r:=by
 intro r hr;have hm:mfind true 1 [(0,2)] (.s (.str a)) ml 0=some (sfind a m 0):=by rw[<-mlh,Qlx]
 rw[hm]at hr;subst hr;cases hp:sfind a m 0 with
 |none=>intro es' he;exact h0 hp es' (by rw[he,<-mlh];simp[QiR])
 |some p=>intro es' he;exact h1 p.1 p.2 hp es' (by rw[he,<-mlh,List.map_set];rfl)
theorem Qsl{k:List UInt8}{m:Ssc}:∀{i:Nat},sfind k m i=none↔k∉m.map (·.1):=by
 induction m with
 |nil=>intro i;simp[sfind]
 |cons e r ih=>
  intro i;simp only[sfind,List.map_cons,List.mem_cons,not_or];split
  ·rename_i h;simp[h]
  ·rename_i h;rw[ih];simp[h]
theorem Qsm{k:List UInt8}{m:Ssc}{v:DV}:∀{i j:Nat},sfind k m i=some (j,v)->i<=j/\m[j-i]? =some (k,v):=by
 induction m with
 |nil=>intro i j h;simp[sfind]at h
 |cons e r ih=>
  intro i j h;simp only[sfind]at h;split at h
  ·rename_i hk;cases h;exact⟨Nat.le_refl _,by rw[hk];simp⟩
  ·obtain⟨h1,h2⟩:=ih h;refine⟨by omega,?_⟩;rw[show j-i=(j-(i+1))+1 by omega];simpa using h2
end Go.Ab
namespace Go.Ab
section
variable{G:Nat->Prop}{w:World}{ιc ι:Io}{hc h:Hp}{Z:Nat->Nat}
theorem Kept.rn{ι' ιc':Io}{w':World}{i l:Nat}{k k':Blk}(hk:Kept ιc ιc' w w' i k k')(h1:ι[l]? =ιc[i]?)(h2:ι'[l]? =ιc'[i]?):Kept ι ι' w w' l (rnB Z k) (rnB Z k'):=by
 cases k' with
 |dead=>cases k<;>trivial
 |am m'=>
  cases k with
  |am m=>trivial
  |_=>simp[Kept]at hk
 |bx cs'=>
  cases k with
  |bx cs=>exact⟨by rw[Qdo,Qdo];exact hk.1,by rw[h1,h2];exact hk.2⟩
  |_=>simp[Kept]at hk
 |da r' v' sz' es'=>
  cases k with
  |da r v sz es=>
   rcases hk with hk|⟨a1,a2,a3,a4,a5,a6⟩
   ·exact .inl hk
   ·exact .inr ⟨a1,a2,a3,a4,by rw[h1,h2];exact a5,λhr b o hb=>a6 hr b o (by rw[<-h1];exact hb)⟩
  |_=>simp[Kept]at hk
 |mp v' es'=>
  cases k with
  |mp v es=>
   obtain⟨a1,a2⟩:=hk;refine⟨by rw[h1,h2];exact a1,?_⟩;rcases a2 with a2|⟨a2,a3,a4⟩
   ·exact .inl a2
   ·exact .inr ⟨a2,a3,λb o hb=>a4 b o (by rw[<-h1];exact hb)⟩
  |_=>simp[Kept]at hk
 |mi m' v' es'=>
  cases k with
  |mi m v es=>
   obtain⟨a1,a2,a3⟩:=hk;exact⟨by rw[a1],a2,by rw[h1,h2];exact a3⟩
  |_=>simp[Kept]at hk
end
def QcP{α:Type}:List α->List Nat->List α->List α
 |h,[],_=>h
 |h,_::_,[]=>h
 |h,l::σ,b::bs=>QcP (h.set l b) σ bs
theorem QhX{α:Type}:∀(σ:List Nat) (h bs:List α),(QcP h σ bs).length=h.length
 |[],_,_=>by simp only[QcP]
 |_::_,_,[]=>by simp only[QcP]
 |l::σ,h,b::bs=>by simp only[QcP];rw[QhX σ];simp
theorem Qcv{α:Type}:∀(σ:List Nat) (h bs:List α) (l:Nat),l∉σ->(QcP h σ bs)[l]? =h[l]?
 |[],_,_,_,_=>by simp only[QcP]
 |_::_,_,[],_,_=>by simp only[QcP]
 |l::σ,h,b::bs,l',hn=>by
  simp only[QcP];rw[Qcv σ _ bs l' (λhm=>hn (List.mem_cons_of_mem _ hm)),List.getElem?_set_ne (λ(e:l=l')=>hn (by rw[e];exact List.mem_cons_self ..))]
theorem Qkx{α:Type}:∀(σ:List Nat) (h bs:List α) (i l:Nat) (b:α),σ.Nodup->(∀l∈σ,l<h.length)->σ[i]? =some l->bs[i]? =some b->(QcP h σ bs)[l]? =some b
 |[],_,_,_,_,_,_,_,h1,_=>by simp at h1
 |_::_,_,[],_,_,_,_,_,_,h2=>by simp at h2
 |l0::σ,h,b0::bs,i,l,b,hn,hl,h1,h2=>by
  simp only[QcP];cases i with
  |zero=>
   simp at h1 h2;subst h1 h2;rw[Qcv σ _ bs l0 (List.nodup_cons.1 hn).1,List.getElem?_set_self (hl l0 (List.mem_cons_self ..))]
  |succ i=>
   exact Qkx σ _ bs i l b (List.nodup_cons.1 hn).2 (λx hx=>by simpa using hl x (List.mem_cons_of_mem _ hx)) (by simpa using h1) (by simpa using h2)
def rho:List Nat->Nat->Nat->Nat
 |[],n,i=>n+i
 |l::_,_,0=>l
 |_::σ,n,i+1=>rho σ n i
theorem Qkr:∀(σ:List Nat) (n i:Nat),i<σ.length->σ[i]? =some (rho σ n i)
 |[],_,_,h=>by simp at h
 |l::σ,n,0,_=>rfl
 |l::σ,n,i+1,h=>by simpa [rho]using Qkr σ n i (by simpa using h)
theorem Qnm:∀(σ:List Nat) (n i:Nat),σ.length<=i->rho σ n i=n+(i-σ.length)
 |[],_,_,_=>rfl
 |l::σ,n,0,h=>by simp at h
 |l::σ,n,i+1,h=>by simp only[rho,List.length_cons];rw[Qnm σ n i (by simpa using h)];omega
def QgM(h:Hp)(σ:List Nat)(hc:Hp):Hp:=QcP h σ (rnH (rho σ h.length) hc)++rnH (rho σ h.length) (hc.drop σ.length)
def Qmj(ι:Io)(σ:List Nat)(ιc:Io):Io:=QcP ι σ ιc++ιc.drop σ.length
theorem FnS.frame{P:Program}{f:Nat}{args:List AV}{hc:Hp}{R:AV->Hp->Prop}(hf:FnS P f args hc R)(σ:List Nat)(h:Hp)(hlen:σ.length=hc.length)(hnd:σ.Nodup)
   (hh:∀i k,hc[i]? =some k->h[rho σ h.length i]? =some (rnB (rho σ h.length) k))(hcl:QcG hc.length hc=true)(hca:∀x∈args,Qdn hc.length x=true):
    FnS P f (rnAs (rho σ h.length) args) h λr' h'=>∃r hc',R r hc'/\r'=rnA (rho σ h.length) r/\h'=QgM h σ hc':=by
  refine⟨λG ι w vs hr hv=> ?_⟩;have hlt:∀l∈σ,l<h.length:=by
    intro l hl;obtain⟨i,hi,rfl⟩:=List.getElem_of_mem hl;have h1:=Qkr σ h.length i hi;rw[lgE hi]at h1;have h2:=hh i _ (lgE (by omega));rw[<-osj h1]at h2;exact Qaa h2
  have hιl:∀l∈σ,l<ι.length:=λl hl=>by rw[hr.len];exact hlt l hl
  generalize hZ:rho σ h.length=Z at*;have rold:∀i,i<σ.length->σ[i]? =some (Z i):=λi hi=>by rw[<-hZ];exact Qkr σ _ i hi
  have rnew:∀i,σ.length<=i->Z i=h.length+(i-σ.length):=λi hi=>by rw[<-hZ];exact Qnm σ _ i hi
  have rmem:∀i,i<σ.length->Z i∈σ:=λi hi=>mgE (rold i hi)
  have rinj:∀i j,Z i=Z j->i=j:=by
    intro i j e;rcases Nat.lt_or_ge i σ.length with hi|hi<;>rcases Nat.lt_or_ge j σ.length with hj|hj
    · have h1:=rold i hi
      have h2:=rold j hj;rw[e,<-h2]at h1;exact(List.getElem?_inj hi hnd).1 h1
    · have:=hlt _ (rmem i hi);have:=rnew j hj;omega
    · have:=hlt _ (rmem j hj);have:=rnew i hi;omega
    · have:=rnew i hi;have:=rnew j hj;omega
  let ιc:Io:=σ.map λl=>(ι[l]?).getD (0,0)
  have hιc:∀i,i<σ.length->ιc[i]? =ι[Z i]? :=by
    intro i hi;simp only[ιc,gtm,rold i hi,Option.map_some];rw[lgE (hιl _ (rmem i hi))];rfl
  have am:Among Z ιc hc ι h:=⟨hh,λi k hk=>(hιc i (by rw[hlen];exact Qaa hk)).symm⟩;have hrc:HR G ιc hc w:=HR.down am hr (by simp[ιc,hlen]) (λi j _ _ e=>rinj i j e) hcl;have hvc:VRs G w ιc hc vs args:=by
    refine⟨by rw[hv.1,Qrb],λi v x h1 h2=> ?_⟩;exact(hv.2 i v (rnA Z x) h1 (by rw[Qra,h2];rfl)).unrn am (hca x (mgE h2))
  refine(hf.out G ιc w vs hrc hvc).mono λe w2 ⟨v,r,G2,ι2,hc2,he,hR,hr2,hvr,hx⟩=> ?_
  have hl2:hc.length<=hc2.length:=by
    rcases Nat.lt_or_ge hc2.length hc.length with hb|hb
    · obtain⟨k',h1,_⟩:=hx.keep hc2.length _ (lgE hb)
      have:=Qaa h1;omega
    · exact hb
  have hl2':ι2.length=hc2.length:=hr2.len;have hset:(QcP h σ (rnH Z hc2)).length=h.length:=QhX σ h _;have hseti:(QcP ι σ ι2).length=h.length:=by rw[QhX,hr.len]
  have hbh:QgM h σ hc2=QcP h σ (rnH Z hc2)++rnH Z (hc2.drop σ.length):=by simp only[QgM,hZ]
  have am2:Among Z ι2 hc2 (Qmj ι σ ι2) (QgM h σ hc2):=by
    rw[hbh];constructor
    · intro i k hk
      rcases Nat.lt_or_ge i σ.length with hi|hi
      · rw[gal (by rw[hset];exact hlt _ (rmem i hi))]
        exact Qkx σ h _ i _ _ hnd hlt (rold i hi) (by rw[Qp8,hk];rfl)
      · rw[rnew i hi,apQ (by omega),hset,Qp8,List.getElem?_drop]
        rw[show σ.length+(h.length+(i-σ.length)-h.length)=i by omega,hk];rfl
    · intro i k hk
      unfold Qmj;have hi2:ι2[i]? =some (ι2[i]'(by rw[hl2'];exact Qaa hk)):=lgE _;rcases Nat.lt_or_ge i σ.length with hi|hi
      · rw[gal (by rw[hseti];exact hlt _ (rmem i hi)),hi2]
        exact Qkx σ ι _ i _ _ hnd hιl (rold i hi) hi2
      · rw[rnew i hi,apQ (by omega),hseti,List.getElem?_drop]
        rw[show σ.length+(h.length+(i-σ.length)-h.length)=i by omega]
  have part:∀l k',(QgM h σ hc2)[l]? =some k'->(∃i k,hc2[i]? =some k/\l=Z i/\k'=rnB Z k)\/(h[l]? =some k'/\l∉σ/\(Qmj ι σ ι2)[l]? =ι[l]?):=by
    intro l k' hk';by_cases hm:l∈σ
    · obtain⟨i,hi,rfl⟩:=List.getElem_of_mem hm
      have e:σ[i]=Z i:=by have:=rold i hi;rw[lgE hi]at this;exact osj this
      have hki:hc2[i]? =some (hc2[i]'(by omega)):=lgE _;have:=am2.blk i _ hki;rw[e,this]at hk';exact .inl ⟨i,_,hki,e,(osj hk').symm⟩
    · rcases Nat.lt_or_ge l h.length with hl|hl
      · rw[hbh,gal (by omega),Qcv σ h _ l hm]at hk'
        exact .inr ⟨hk',hm,by unfold Qmj;rw[gal (by omega),Qcv σ ι _ l hm]⟩
      · rw[hbh,apQ (by omega),hset,Qp8,List.getElem?_drop,omi]at hk'
        obtain⟨k,h1,rfl⟩:=hk';exact .inl ⟨_,k,h1,by rw[rnew _ (by omega)];omega,rfl⟩
  have other:∀l b k,h[l]? =some k->l∉σ->Qcp ι l k b->b<w.heap.size/\¬owned ιc hc b:=by
    intro l b k h1 h2 h3;refine⟨QaJ hr ⟨l,k,h1,h3⟩,λho=> ?_⟩;obtain⟨i,kc,g1,g2,g3,g4⟩:=Qq7 am ho;have:=hr.own l (Z i) b k _ h1 g4 h3 g3;exact h2 (this▸rmem i (by rw[hlen];exact Qaa g1))
  have same:∀l b k,h[l]? =some k->l∉σ->Qcp ι l k b->w2.heap[b]? =w.heap[b]? :=by
    intro l b k h1 h2 h3;have:=other l b k h1 h2 h3;exact hx.frame b this.1 this.2
  have hext:Ext G ι h w G2 (Qmj ι σ ι2) (QgM h σ hc2) w2:=
    { size:=hx.size
      quiet:=hx.quiet
      frame:=λb hb ho=>hx.frame b hb λho'=>ho (QdY am ho')
      gmono:=hx.gmono
      gnew:=λb hb=>by
        rcases hx.gnew b hb with h1|h1|h1
        · exact .inl h1
        · exact .inr (.inl h1)
        · exact .inr (.inr (QdY am h1))
      onew:=λb ⟨l,k,h2,h3⟩=>by
        rcases part l k h2 with ⟨i,kc,g1,rfl,rfl⟩|⟨g1,g2,g3⟩
        · rcases hx.onew b ⟨i,kc,g1,(QeS (am2.at' i kc g1)).1 h3⟩with h4|h4
          · exact .inl (QdY am h4)
          · exact .inr h4
        · exact .inl ⟨l,k,g1,Qb7 h3 λ_=>g3.symm⟩
      keep:=λl k hk=>by
        by_cases hm:l∈σ
        · obtain⟨i,hi,rfl⟩:=List.getElem_of_mem hm
          have e:σ[i]=Z i:=by have:=rold i hi;rw[lgE hi]at this;exact osj this
          have hki:hc[i]? =some (hc[i]'(by omega)):=lgE _;rw[e,hh i _ hki]at hk;cases hk;obtain⟨k',g1,g2⟩:=hx.keep i _ hki;exact⟨rnB Z k',by rw[e];exact am2.blk i k' g1,by rw[e];exact g2.rn (am.at' i _ hki) (am2.at' i k' g1)⟩
        · have hl:l<h.length:=Qaa hk
          have e1:(QgM h σ hc2)[l]? =some k:=by rw[hbh,gal (by omega),Qcv σ h _ l hm];exact hk
          have e2:(Qmj ι σ ι2)[l]? =ι[l]? :=by unfold Qmj;rw[gal (by omega),Qcv σ ι _ l hm]
          exact⟨k,e1,Kept.frame e2 λb hb=>same l b k hk hm hb⟩}
  refine⟨v,rnA Z r,G2,Qmj ι σ ι2,QgM h σ hc2,he,⟨r,hc2,hR,rfl,rfl⟩,?_,hvr.rn am2,hext⟩;exact
    { len:=by
        rw[hbh];unfold Qmj;simp only[List.length_append,hset,hseti,QyS,List.length_drop,hl2']
      own:=by
        intro l l' b k k' h3 h4 h5 h6;rcases part l k h3 with ⟨i,kc,g1,rfl,rfl⟩|⟨g1,g2,g3⟩<;>rcases part l' k' h4 with ⟨i',kc',q1,rfl,rfl⟩|⟨q1,q2,q3⟩
        · rw[hr2.own i i' b kc kc' g1 q1 ((QeS (am2.at' i kc g1)).1 h5) ((QeS (am2.at' i' kc' q1)).1 h6)]
        · exfalso
          have ot:=other l' b k' q1 q2 (Qb7 h6 λ_=>q3.symm);rcases hx.onew b ⟨i,kc,g1,(QeS (am2.at' i kc g1)).1 h5⟩with h7|h7
          · exact ot.2 h7
          · omega
        · exfalso
          have ot:=other l b k g1 g2 (Qb7 h5 λ_=>g3.symm);rcases hx.onew b ⟨i',kc',q1,(QeS (am2.at' i' kc' q1)).1 h6⟩with h7|h7
          · exact ot.2 h7
          · omega
        · exact hr.own l l' b k k' g1 q1 (Qb7 h5 λ_=>g3.symm) (Qb7 h6 λ_=>q3.symm)
      g:=by
        intro b hb;refine⟨(hr2.g b hb).1,λ⟨l,k,h2,h3⟩=> ?_⟩;rcases part l k h2 with ⟨i,kc,g1,rfl,rfl⟩|⟨g1,g2,g3⟩
        · exact(hr2.g b hb).2 ⟨i,kc,g1,(QeS (am2.at' i kc g1)).1 h3⟩
        · have h3':Qcp ι l k b:=Qb7 h3 λ_=>g3.symm
          have ot:=other l b k g1 g2 h3';rcases hx.gnew b hb with h4|h4|h4
          · exact(hr.g b h4).2 ⟨l,k,g1,h3'⟩
          · omega
          · exact ot.2 h4
      blk:=by
        intro l k hk;rcases part l k hk with ⟨i,kc,g1,rfl,rfl⟩|⟨g1,g2,g3⟩
        · exact BR.rn am2 g1 (hr2.blk i kc g1)
        · exact BR.ext hext hr g1 g3 λb hb=>same l b k g1 g2 hb}
inductive ThD (m:Ar):D->D->Prop
 |same (x:D):ThD m x x
 |fg (x:D):ThD m x (fgD x)
 |row (b o sz n cap N:Nat) (xs:List D) (rows:List (List D)) (g:Nat->Nat->D) (hm:m b=some (.cs N xs)) (hn:rows.length=n) (hcap:n<=cap) (hmx:n<=9223372036854775807)
   (hs:∀(i:Nat) (e:List D),rows[i]? =some e->e.length=sz) (hx:∀(i:Nat) (e:List D) (j:Nat) (x:D),rows[i]? =some e->e[j]? =some x->xs[o+i*sz+j]? =some (g i j))
   (hr:∀(i:Nat) (e:List D) (j:Nat) (x:D),rows[i]? =some e->e[j]? =some x->ThD m (g i j) x):ThD m (.sl b o sz n cap) (.list false sz rows)
 |list (nl:Bool) (sz:Nat) (l l':List (List D)) (hlen:l.length=l'.length) (hs:∀(i:Nat) (e:List D),l'[i]? =some e->e.length=sz)
   (hr:∀(i:Nat) (e e':List D) (j:Nat) (x x':D),l[i]? =some e->l'[i]? =some e'->e[j]? =some x->e'[j]? =some x'->ThD m x x'):ThD m (.list nl sz l) (.list nl sz l')
section
variable{G:Nat->Prop}{ι:Io}{h:Hp}{w:World}{m:Ar}
theorem QoU{G':Nat->Prop}(hG:∀b x,m b=some x->G' b/\ABR G' w b x){x x':D}(ht:ThD m x x'):∀{v:Value},DR G' w v x->DR G' w v x':=by
 induction ht with
 |same x=>exact λh=>h
 |fg x=>exact λh=>h.fg
 |row b o sz n cap N xs rows g hm hn hcap hmx hs hx hr ih=>
  intro v hd;cases hd;obtain⟨hg,c,t,fr,a1,a2,a3,a4,a5⟩:=hG b _ hm;subst hn;refine .sl b o cap sz rows (λi j=>(c[o+i*sz+j]?).getD undef) (λ_=>hg) hcap hmx hs (λi e j x he hx'=> ?_) λi e j x he hx'=> ?_
  ·obtain⟨v,hv,_⟩:=a5 _ _ (hx i e j x he hx');rw[QbG a1,hv];rfl
  ·obtain⟨v,hv,hd⟩:=a5 _ _ (hx i e j x he hx');simp only[hv,Option.getD_some];exact ih i e j x he hx' hd
 |list nl sz l l' hlen hs hr ih=>
  intro v hd;cases hd with
  |nils=>
   have:l'=[]:=lzQ (by simpa using hlen.symm);subst this;exact .nils nl sz
  |emp a=>
   have:l'=[]:=lzQ (by simpa using hlen.symm);subst this;exact .emp a sz
  |sl b off cap _ _ g hg hcap hmax hsz hc hr'=>
   have both:∀(i:Nat) (e':List D) (j:Nat) (x':D),l'[i]? =some e'->e'[j]? =some x'->∃e x,l[i]? =some e/\e[j]? =some x:=by
    intro i e' j x' he hx;have hi:=Qaa he;have hj:=Qaa hx;have h1:l[i]? =some (l[i]'(by omega)):=lgE _;have h2:=hsz i _ h1;have h3:=hs i e' he;exact⟨_,_,h1,lgE (by omega)⟩
   rw[hlen];refine .sl b off cap sz l' g (λhne=>hg λh0=>hne ?_) (by omega) (by omega) hs (λi e j x he hx=> ?_) λi e j x he hx=> ?_
   ·subst h0;exact lzQ (by simpa using hlen.symm)
   ·obtain⟨e0,x0,h1,h2⟩:=both i e j x he hx;exact hc i e0 j x0 h1 h2
   ·obtain⟨e0,x0,h1,h2⟩:=both i e j x he hx;exact ih i e0 e j x0 x h1 he h2 hx (hr' i e0 j x0 h1 h2)
theorem HR.thaw(r:HR G ι h w)(h0:h[0]? =some (.am m)):HR (λb=>G b\/∃x,m b=some x) ι (h.set 0 .dead) w/\Ext G ι h w (λb=>G b\/∃x,m b=some x) ι (h.set 0 .dead) w/\
    ∀b x,m b=some x->(G b\/∃x,m b=some x)/\ABR (λb=>G b\/∃x,m b=some x) w b x:=by
  have hgm:∀b,G b->(G b\/∃x,m b=some x)/\w.heap[b]? =w.heap[b]? :=λb hb=>⟨.inl hb,rfl⟩
  have hext:Ext G ι h w (λb=>G b\/∃x,m b=some x) ι (h.set 0 .dead) w:=
    { size:=Nat.le_refl _
      quiet:=⟨rfl,rfl,rfl,Nat.le_refl _⟩
      frame:=λ_ _ _=>rfl
      gmono:=λ_ h=> .inl h
      gnew:=λb hb=>by
        rcases hb with h|⟨x,hx⟩
        · exact .inl h
        · exact .inr (.inr (Qci h0 hx))
      onew:=λb ho=> .inl (QbS h0 Qce ho)
      keep:=λl k hk=>by
        by_cases e:0=l
        · subst e
          exact⟨.dead,by rw[List.getElem?_set_self (Qaa h0)],by cases k<;>trivial⟩
        · exact⟨k,by rw[List.getElem?_set_ne e];exact hk,Kept.refl ι w l k⟩}
  refine⟨?_,hext,λb x hx=>⟨.inr ⟨x,hx⟩,(r.blk 0 _ h0 b x hx).mono hgm rfl⟩⟩;exact
    { len:=by simp[r.len]
      own:=Qnf r
      g:=λb hb=>by
        rcases hb with hb|⟨x,hx⟩
        · exact⟨(r.g b hb).1,λho=>(r.g b hb).2 (QbS h0 Qce ho)⟩
        · refine⟨QaJ r (Qci h0 hx),λ⟨l,k,g1,g2⟩=> ?_⟩
          rcases Qap g1 with ⟨_,e2,_⟩|⟨e0,e1⟩
          · subst e2;exact Qce g2
          · exact e0 (r.own 0 l b _ k h0 e1 ⟨x,hx⟩ g2).symm
      blk:=λl k hk=>by
        rcases Qap hk with ⟨_,d2,_⟩|⟨_,d1⟩
        · subst d2;trivial
        · exact BR.ext hext r d1 rfl λ_ _=>rfl}
end
def am0:Ar:=λ_=>none
theorem HR.am0{G:Nat->Prop}{w:World}{ι:Io}(r:HR G ι [] w):HR G [(0,0)] [.am am0] w:=
  { len:=rfl
    own:=λl l' b k k' h1 h2 _ _=>by
      have:=Qaa h1;have:=Qaa h2;simp at *;omega
    g:=λb hb=>⟨(r.g b hb).1,λ⟨l,k,h1,h2⟩=>by
      have hl:l=0:=by have:=Qaa h1;simpa using this
      subst hl;cases h1;obtain⟨x,hx⟩:=h2;cases hx⟩
    blk:=λl k h1=>by
      have hl:l=0:=by have:=Qaa h1;simpa using this
      subst hl;cases h1;intro b x hx;cases hx}
open Go.Proofs
def Qdg(sz:Nat)(m:Ar)(d:D)(l:List (List D)):Prop:=
 (d= .list true sz []/\l=[])\/∃b N cap,d= .sl b 0 sz l.length cap/\m b=some (.cs N l.flatten)/\(∀e∈l,e.length=sz)/\l.length<=cap/\cap*sz<=N
structure RowsR (sz:Nat) (m:Ar) (es:List (List D)) (rows:List (List (List D))):Prop where
 len:es.length=rows.length
 one:∀(j:Nat) (e:List D),es[j]? =some e->∃d,e=[d]
 row:∀(j:Nat) (d:D) (l:List (List D)),es[j]? =some [d]->rows[j]? =some l->Qdg sz m d l
 dis:∀(i j b o n c o' n' c':Nat),es[i]? =some [.sl b o sz n c]->es[j]? =some [.sl b o' sz n' c']->i=j
theorem RowsR.nils(sz k:Nat)(m:Ar):RowsR sz m (List.replicate k [.list true sz []]) (List.replicate k [])where
 len:=by simp
 one j e h:=by
  rw[List.getElem?_replicate]at h;split at h<;>cases h;exact⟨_,rfl⟩
 row j d l h1 h2:=by
  rw[List.getElem?_replicate]at h1 h2;split at h1<;>simp_all
  exact .inl ⟨h1.symm,rfl⟩
 dis i j b o n c o' n' c' h1 h2:=by
  rw[List.getElem?_replicate]at h1;split at h1<;>simp at h1
theorem QwF{α:Type}{l:List α}{i:Nat}{a x:α}(h:(l.set i a)[i]? =some x):x=a:=by
 rcases Qap h with ⟨_,h,_⟩|⟨h,_⟩
 ·exact h
 ·exact absurd rfl h
theorem RowsR.put{sz:Nat}{m m':Ar}{es:List (List D)}{rows:List (List (List D))}(h:RowsR sz m es rows){j b' N' cap':Nat}{l':List (List D)}(hm':m' b'=some (.cs N' l'.flatten))
 (hs:∀e∈l',e.length=sz)(hcap:l'.length<=cap')(hN:cap'*sz<=N')(hfree:∀(i o n c:Nat),i≠j->es[i]? =some [.sl b' o sz n c]->False)(hsame:∀(i b o n c:Nat),i≠j->es[i]? =some [.sl b o sz n c]->m' b=m b):
  RowsR sz m' (es.set j [.sl b' 0 sz l'.length cap']) (rows.set j l')where
 len:=by simp[h.len]
 one i e he:=by
  rcases Qap he with ⟨_,he,_⟩|⟨_,he⟩
  ·exact⟨_,he⟩
  ·exact h.one i e he
 row i d l h1 h2:=by
  rcases Qap h1 with ⟨e1,e2,_⟩|⟨e1,e2⟩
  ·subst e1;have:=QwF h2;subst this;cases e2;exact .inr ⟨b',N',cap',rfl,hm',hs,hcap,hN⟩
  ·rw[List.getElem?_set_ne (λe=>e1 e.symm)]at h2;rcases h.row i d l e2 h2 with hr|⟨b,N,cap,rfl,r2,r3⟩
   ·exact .inl hr
   ·exact .inr ⟨b,N,cap,rfl,by rw[hsame i b _ _ _ e1 e2];exact r2,r3⟩
 dis i k b o n c o' n' c' h1 h2:=by
  rcases Qap h1 with ⟨e1,e2,_⟩|⟨e1,e2⟩<;>rcases Qap h2 with ⟨f1,f2,_⟩|⟨f1,f2⟩
  ·omega
  ·cases e2;exact(hfree k _ _ _ f1 f2).elim
  ·cases f2;exact(hfree i _ _ _ e1 e2).elim
  ·exact h.dis i k b o n c o' n' c' e2 f2
theorem RowsR.key{sz:Nat}{m:Ar}{es:List (List D)}{rows:List (List (List D))}(h:RowsR sz m es rows){i b o n c:Nat}(he:es[i]? =some [.sl b o sz n c]):∃x,m b=some x:=by
 have hi:=Qaa he;rcases h.row i _ _ he (lgE (by rw[<-h.len];exact hi))with ⟨h1,_⟩|⟨b',N,cap,h1,h2,_⟩
 ·cases h1
 ·cases h1;exact⟨_,h2⟩
theorem RowsR.first{sz:Nat}{m:Ar}{es:List (List D)}{rows:List (List (List D))}(h:RowsR sz m es rows){j b' N' cap':Nat}{l':List (List D)}(hm:m b'=none)
 (hs:∀e∈l',e.length=sz)(hcap:l'.length<=cap')(hN:cap'*sz<=N'):RowsR sz (mup m b' (.cs N' l'.flatten)) (es.set j [.sl b' 0 sz l'.length cap']) (rows.set j l'):=
 h.put (Qbg _ _ _) hs hcap hN (λi o n c _ he=>by obtain⟨x,hx⟩:=h.key he;rw[hm]at hx;cases hx)
  λi b o n c _ he=>by
   obtain⟨x,hx⟩:=h.key he;exact Qaq λe=>by rw[e,hm]at hx;cases hx
theorem RowsR.thaw{sz:Nat}{m:Ar}{es:List (List D)}{rows:List (List (List D))}(h:RowsR sz m es rows)(hb:∀l∈rows,l.length<=9223372036854775807):ThD m (.list false 1 es) (.list false 1 (rows.map λl=>[.list false sz l])):=by
 refine .list _ _ _ _ (by simp[h.len]) (λi e he=> ?_) λi e e' j x x' he he' hx hx'=> ?_
 ·simp only[gtm,omi]at he;obtain⟨_,_,rfl⟩:=he;rfl
 ·simp only[gtm,omi]at he';obtain⟨l,hl,rfl⟩:=he';obtain⟨d,rfl⟩:=h.one i e he;have hj:j=0:=by have:=Qaa hx;simpa using this
  subst hj;simp only[List.getElem?_cons_zero,osi]at hx hx';subst hx hx';rcases h.row i d l he hl with ⟨rfl,rfl⟩|⟨b,N,cap,rfl,hm,hs,hc,hN⟩
  ·exact .fg _
  ·have hl2:=hb l (mgE hl);refine .row b 0 sz l.length cap N l.flatten l (λi j=>l.flatten.getD (i*sz+j) default) hm rfl hc hl2 (λi e he=>hs e (mgE he)) (λi e j x he hx=> ?_) λi e j x he hx=> ?_
   ·rw[Nat.zero_add,List.getD_eq_getElem?_getD,Qcn hs he hx];rfl
   ·simp only[List.getD_eq_getElem?_getD,Qcn hs he hx,Option.getD_some];exact .same _
abbrev WSt:=Int×List Seg
abbrev QvW (s:WSt):List UInt8:=nameS s.1 (s.2.map pr2)
theorem QvX{s s':WSt}(h:QvW s=QvW s'):s=s':=by
 obtain⟨h1,h2⟩:=Qwa h;refine Prod.ext h1 ?_;have:∀(l l':List Seg),l.map pr2=l'.map pr2->l=l':=by
  intro l;induction l with
  |nil=>intro l' h;cases l' with|nil=>rfl|cons=>simp at h
  |cons x l ih=>
   intro l' h;cases l' with
   |nil=>simp at h
   |cons y l'=>
    simp only[List.map_cons,List.cons.injEq,pr2,pmi]at h;rw[ih l' h.2];obtain⟨x1,x2⟩:=x;obtain⟨y1,y2⟩:=y;simp only at h;rw[h.1.1,h.1.2]
 exact this _ _ h2
section
structure Wlk where
 (ar:WSt->List Int) (rs:WSt->Int) (to:WSt->Int->WSt)
abbrev Wlk.nx (g:Wlk):WSt->List WSt:=nxt g.ar g.to
def Qgw(b:Nat):List D:=[.adr b 0]
def plD(g:Wlk)(s:WSt)(nx:D)(op:Bool)(k:Int):List D:=[iD s.1,iD (g.rs s),.list false 1 ((g.ar s).map Qar),nx,.bool op,iD k]
def Qny(K:Kn WSt)(al:List Nat)(y:WSt)(a:Nat):Prop:=∃j:Nat,(K.map (·.1))[j]? =some y/\al[j]? =some a
def QlU(K:Kn WSt)(al:List Nat)(ys:List WSt)(ads:List Nat):Prop:=ads.length=ys.length/\∀(i:Nat) (y:WSt) (a:Nat),ys[i]? =some y->ads[i]? =some a->Qny K al y a
def InB(d:D)(b:Nat):Prop:=∃o z n cap,d= .sl b o z n cap
structure PlOK (g:Wlk) (m:Ar) (K:Kn WSt) (al:List Nat) (S:Nat->Prop) (s:WSt) (k:Int) (b:Nat):Prop where
 at_:S b
 ex:∃N nx ads,m b=some (.cs N (plD g s nx false k))/\Qdg 1 m nx (ads.map Qgw)/\(∀i,InB nx i->S i)/\QlU K al (g.nx s) ads
def OpP(m:Ar)(b:Nat):Prop:=∃N xs n,m b=some (.cs N xs)/\xs.length=6/\xs[4]? =some (.bool true)/\xs[5]? =some (iD n)
structure PI (g:Wlk) (m:Ar) (K:Kn WSt) (al:List Nat) (S:Nat->Prop) (d:D):Prop where
 len:al.length=K.length
 nd:al.Nodup
 row:Qdg 1 m d (al.map Qgw)
 rowS:∀b,InB d b->¬S b/\b∉al
 inm:∀b∈al,m b≠none
 sm:∀b,S b->m b≠none
 pl:∀(j:Nat) (s:WSt) (k:Int) (b:Nat),K[j]? =some (s,some k)->al[j]? =some b->PlOK g m K al S s k b
 op:∀(j:Nat) (s:WSt) (b:Nat),K[j]? =some (s,none)->al[j]? =some b->OpP m b/\¬S b
theorem Qny.up{K K':Kn WSt}{al al':List Nat}{y:WSt}{a:Nat}(h:Qny K al y a)(hK:∃r,K'.map (·.1)=K.map (·.1)++r)(ha:∃r,al'=al++r):Qny K' al' y a:=by
 obtain⟨j,h1,h2⟩:=h;obtain⟨r1,e1⟩:=hK;obtain⟨r2,e2⟩:=ha;exact⟨j,by rw[e1,gal (Qaa h1)];exact h1,by rw[e2,gal (Qaa h2)];exact h2⟩
theorem QlU.up{K K':Kn WSt}{al al':List Nat}{ys:List WSt}{ads:List Nat}(h:QlU K al ys ads)(hK:∃r,K'.map (·.1)=K.map (·.1)++r)(ha:∃r,al'=al++r):QlU K' al' ys ads:=
 ⟨h.1,λi y a h1 h2=>(h.2 i y a h1 h2).up hK ha⟩
theorem QlU.snoc{K:Kn WSt}{al:List Nat}{ys:List WSt}{ads:List Nat}{y:WSt}{a:Nat}(h:QlU K al ys ads)(hy:Qny K al y a):QlU K al (ys++[y]) (ads++[a]):=by
 refine⟨by rw[List.length_append,List.length_append,h.1];rfl,λi z b h1 h2=> ?_⟩;by_cases hi:i<ys.length
 ·rw[gal hi]at h1;rw[gal (by rw[h.1];exact hi)]at h2;exact h.2 i z b h1 h2
 ·rw[apQ (by omega)]at h1;rw[apQ (by rw[h.1];omega),h.1]at h2;have:i-ys.length=0:=by have:=Qaa h1;simp at this;omega
  rw[this]at h1 h2;cases h1;cases h2;exact hy
theorem Qdg.frame{sz:Nat}{m m':Ar}{d:D}{l:List (List D)}(h:Qdg sz m d l)(hm:∀i,InB d i->m' i=m i):Qdg sz m' d l:=by
 rcases h with h|⟨b,N,cap,h1,h2,h3⟩
 ·exact .inl h
 ·exact .inr ⟨b,N,cap,h1,(hm b ⟨_,_,_,_,h1⟩).trans h2,h3⟩
theorem Qdg.key'{sz:Nat}{m:Ar}{d:D}{l:List (List D)}(h:Qdg sz m d l){b:Nat}(hb:InB d b):m b≠none:=by
 obtain⟨o,z,n,cap,e⟩:=hb;rcases h with ⟨h,_⟩|⟨b',N,cap',h1,h2,_⟩
 ·rw[h]at e;cases e
 ·rw[h1]at e;cases e;rw[h2];simp
theorem PlOK.frame{g:Wlk}{m m':Ar}{K:Kn WSt}{al:List Nat}{S:Nat->Prop}{s:WSt}{k:Int}{b:Nat}(h:PlOK g m K al S s k b)(hm:∀i,S i->m' i=m i):PlOK g m' K al S s k b:=by
 obtain⟨N,nx,ads,h1,h2,h3,h4⟩:=h.ex;exact⟨h.at_,N,nx,ads,(hm b h.at_).trans h1,h2.frame λi hi=>hm i (h3 i hi),h3,h4⟩
theorem PlOK.up{g:Wlk}{m:Ar}{K K':Kn WSt}{al al':List Nat}{S S':Nat->Prop}{s:WSt}{k:Int}{b:Nat}(h:PlOK g m K al S s k b)(hK:∃r,K'.map (·.1)=K.map (·.1)++r)(ha:∃r,al'=al++r)(hS:∀i,S i->S' i):PlOK g m K' al' S' s k b:=by
 obtain⟨N,nx,ads,h1,h2,h3,h4⟩:=h.ex;exact⟨hS _ h.at_,N,nx,ads,h1,h2,λi hi=>hS i (h3 i hi),h4.up hK ha⟩
theorem PI.frame{g:Wlk}{m m':Ar}{K:Kn WSt}{al:List Nat}{S:Nat->Prop}{d:D}(h:PI g m K al S d)(hm:∀i,S i\/i∈al\/InB d i->m' i=m i):PI g m' K al S d where
 len:=h.len
 nd:=h.nd
 row:=h.row.frame λi hi=>hm i (.inr (.inr hi))
 rowS:=h.rowS
 inm b hb:=by rw[hm b (.inr (.inl hb))];exact h.inm b hb
 sm b hb:=by rw[hm b (.inl hb)];exact h.sm b hb
 pl j s k b h1 h2:=(h.pl j s k b h1 h2).frame λi hi=>hm i (.inl hi)
 op j s b h1 h2:=by
  obtain⟨⟨N,xs,n,a1,a2⟩,a3⟩:=h.op j s b h1 h2;exact⟨⟨N,xs,n,(hm b (.inr (.inl (mgE h2)))).trans a1,a2⟩,a3⟩
theorem PI.write{g:Wlk}{m m':Ar}{K:Kn WSt}{al:List Nat}{S:Nat->Prop}{d:D}(h:PI g m K al S d){jx:Nat}{s:WSt}{bx N:Nat}{xs:List D}{n:Int}(h1:K[jx]? =some (s,none))(h2:al[jx]? =some bx)
 (hm':m'=mup m bx (.cs N xs))(hl:xs.length=6)(h4:xs[4]? =some (.bool true))(h5:xs[5]? =some (iD n)):PI g m' K al S d:=by
 have hbx:=mgE h2;have hS:=(h.op jx s bx h1 h2).2;have hne:∀i,i≠bx->m' i=m i:=λi hi=>by rw[hm'];exact Qaq hi
 have hat:m' bx=some (.cs N xs):=by rw[hm'];exact Qbg _ _ _
 have hr:∀i,InB d i->i≠bx:=λi hi e=>(h.rowS i hi).2 (by rw[e];exact hbx)
 have hs:∀i,S i->i≠bx:=λi hi e=>hS (by rw[<-e];exact hi)
 refine⟨h.len,h.nd,h.row.frame λi hi=>hne i (hr i hi),h.rowS,λb hb=> ?_,λb hb=> ?_,λj s k b e1 e2=>(h.pl j s k b e1 e2).frame λi hi=>hne i (hs i hi),λj s' b e1 e2=> ?_⟩
 ·by_cases e:b=bx
  ·rw[e,hat];simp
  ·rw[hne b e];exact h.inm b hb
 ·rw[hne b (hs b hb)];exact h.sm b hb
 ·by_cases e:b=bx
  ·subst e;exact⟨⟨N,xs,n,hat,hl,h4,h5⟩,hS⟩
  ·obtain⟨⟨N',xs',n',a1,a2⟩,a3⟩:=h.op j s' b e1 e2;exact⟨⟨N',xs',n',(hne b e).trans a1,a2⟩,a3⟩
theorem PI.done{g:Wlk}{m m':Ar}{K:Kn WSt}{al:List Nat}{S:Nat->Prop}{d:D}(h:PI g m K al S d)(hnd:(K.map (·.1)).Nodup){jx:Nat}{s:WSt}{bx N:Nat}{nx:D}{ads:List Nat}{k:Int}(h1:K[jx]? =some (s,none))(h2:al[jx]? =some bx)
 (hm':m'=mup m bx (.cs N (plD g s nx false k)))(hrow:Qdg 1 m nx (ads.map Qgw))(hnx:∀i,InB nx i->i∉al/\¬InB d i)(had:QlU K al (g.nx s) ads):
  PI g m' (QlL K s k) al (λi=>S i\/i=bx\/InB nx i) d:=by
 have hbx:=mgE h2;have hS:=(h.op jx s bx h1 h2).2;have hne:∀i,i≠bx->m' i=m i:=λi hi=>by rw[hm'];exact Qaq hi
 have hat:m' bx=some (.cs N (plD g s nx false k)):=by rw[hm'];exact Qbg _ _ _
 have hr:∀i,InB d i->i≠bx:=λi hi e=>(h.rowS i hi).2 (by rw[e];exact hbx)
 have hs:∀i,S i->i≠bx:=λi hi e=>hS (by rw[<-e];exact hi)
 have hx:∀i,InB nx i->i≠bx:=λi hi e=>(hnx i hi).1 (by rw[e];exact hbx)
 have hK:∃r,(QlL K s k).map (·.1)=K.map (·.1)++r:=⟨[],by rw[QhK];simp⟩;have ha:∃r,al=al++r:=⟨[],by simp⟩;have hrow':Qdg 1 m' nx (ads.map Qgw):=hrow.frame λi hi=>hne i (hx i hi)
 have hset:∀(j:Nat) (s':WSt) (c:Option Int),(QlL K s k)[j]? =some (s',c)->(s'=s/\c=some k/\∃c0,K[j]? =some (s,c0))\/(s'≠s/\K[j]? =some (s',c)):=by
  intro j s' c hj;rw[QlL,gtm,omi]at hj;obtain⟨⟨x,c0⟩,e1,e2⟩:=hj;simp only at e2;split at e2
  ·rename_i e;cases e2;subst e;exact .inl ⟨rfl,rfl,c0,e1⟩
  ·rename_i e;cases e2;exact .inr ⟨e,e1⟩
 have hj:∀(j:Nat) (c0:Option Int),K[j]? =some (s,c0)->j=jx:=by
  intro j c0 hj;have a1:(K.map (·.1))[j]? =some s:=by rw[gtm,hj];rfl
  have a2:(K.map (·.1))[jx]? =some s:=by rw[gtm,h1];rfl
  have l1:=Qaa a1;exact(List.getElem?_inj l1 hnd).1 (a1.trans a2.symm)
 refine⟨by rw[h.len,QlL,List.length_map],h.nd,h.row.frame λi hi=>hne i (hr i hi),λb hb=>⟨?_,(h.rowS b hb).2⟩,λb hb=> ?_,?_,?_,?_⟩
 ·rintro(e|e|e)
  ·exact(h.rowS b hb).1 e
  ·exact hr b hb e
  ·exact(hnx b e).2 hb
 ·by_cases e:b=bx
  ·rw[e,hat];simp
  ·rw[hne b e];exact h.inm b hb
 ·rintro b (e|e|e)
  ·rw[hne b (hs b e)];exact h.sm b e
  ·rw[e,hat];simp
  ·exact hrow'.key' e
 ·intro j s' k' b e1 e2;rcases hset j s' _ e1 with ⟨rfl,e3,c0,e4⟩|⟨e3,e4⟩
  ·cases e3;obtain rfl:=hj j c0 e4;rw[h2]at e2;cases e2;exact⟨.inr (.inl rfl),N,nx,ads,hat,hrow',λi hi=> .inr (.inr hi),had.up hK ha⟩
  ·exact((h.pl j s' k' b e4 e2).frame λi hi=>hne i (hs i hi)).up hK ha λi hi=> .inl hi
 ·intro j s' b e1 e2;rcases hset j s' _ e1 with ⟨_,e3,_⟩|⟨e3,e4⟩
  ·cases e3
  ·have hb:b≠bx:=by
    intro e;rw[e]at e2;have l1:=Qaa e2;have:j=jx:=(List.getElem?_inj l1 h.nd).1 (e2.trans h2.symm);rw[this,h1]at e4;cases e4;exact e3 rfl
   obtain⟨⟨N',xs',n',a1,a2⟩,a3⟩:=h.op j s' b e4 e2;refine⟨⟨N',xs',n',(hne b hb).trans a1,a2⟩,?_⟩;rintro(e|e|e)
   ·exact a3 e
   ·exact hb e
   ·exact(hnx b e).1 (mgE e2)
theorem PI.new{g:Wlk}{m m':Ar}{K:Kn WSt}{al:List Nat}{S:Nat->Prop}{d d':D}(h:PI g m K al S d){s:WSt}{bx:Nat}(hb:m bx=none)(hop:OpP m' bx)(hm:∀i,S i\/i∈al->m' i=m i)
 (hrow:Qdg 1 m' d' ((al++[bx]).map Qgw))(hd:∀i,InB d' i->i≠bx/\(InB d i\/m i=none)):PI g m' (K++[(s,none)]) (al++[bx]) S d':=by
 have hK:∃r,(K++[((s,none):WSt×Option Int)]).map (·.1)=K.map (·.1)++r:=⟨[s],by rw[List.map_append];rfl⟩;have ha:∃r,al++[bx]=al++r:=⟨_,rfl⟩;have hbs:¬S bx:=λe=>h.sm bx e hb
 have hba:bx∉al:=λe=>h.inm bx e hb
 refine⟨by simp[h.len],?_,hrow,λb e=> ?_,λb e=> ?_,λb e=>by rw[hm b (.inl e)];exact h.sm b e,λj s' k b e1 e2=> ?_,λj s' b e1 e2=> ?_⟩
 ·rw[List.nodup_append];exact⟨h.nd,by simp,λx hx y hy e=>by simp at hy;rw[e,hy]at hx;exact hba hx⟩
 ·obtain⟨e1,e2⟩:=hd b e;rcases e2 with e2|e2
  ·obtain⟨q1,q2⟩:=h.rowS b e2;exact⟨q1,λhx=>by rcases List.mem_append.1 hx with hx|hx;exact q2 hx;simp at hx;exact e1 hx⟩
  ·exact⟨λhs=>h.sm b hs e2,λhx=>by rcases List.mem_append.1 hx with hx|hx;exact h.inm b hx e2;simp at hx;exact e1 hx⟩
 ·rcases List.mem_append.1 e with e|e
  ·rw[hm b (.inr e)];exact h.inm b e
  ·simp at e;subst e;obtain⟨N,xs,n,a1,_⟩:=hop;rw[a1];simp
 ·have hj:j<K.length:=by
   rcases Nat.lt_or_ge j K.length with hj|hj
   ·exact hj
   ·rw[apQ hj]at e1;have:j-K.length=0:=by have:=Qaa e1;simp at this;omega
    rw[this]at e1;simp at e1
  rw[gal hj]at e1;rw[gal (by rw[h.len];exact hj)]at e2;exact((h.pl j s' k b e1 e2).frame λi hi=>hm i (.inl hi)).up hK ha λ_ hi=>hi
 ·by_cases hj:j<K.length
  ·rw[gal hj]at e1;rw[gal (by rw[h.len];exact hj)]at e2;obtain⟨⟨N',xs',n',a1,a2⟩,a3⟩:=h.op j s' b e1 e2;exact⟨⟨N',xs',n',(hm b (.inr (mgE e2))).trans a1,a2⟩,a3⟩
  ·rw[apQ (by rw[h.len];omega)]at e2;have:b=bx:=by
    have:=mgE e2;simpa using this
   subst this;exact⟨hop,hbs⟩
end
def msS(K:Kn WSt)(al:List Nat):Ssc:=(K.zip al).map λq=>(QvW q.1.1,.s (.adr q.2 0))
theorem Qv9{K:Kn WSt}{al:List Nat}(hl:al.length=K.length)(s:WSt)(b:Nat):msS (K++[(s,none)]) (al++[b])=msS K al++[(QvW s,.s (.adr b 0))]:=by
 rw[msS,List.zip_append hl.symm,List.map_append];rfl
theorem Qyv(K:Kn WSt)(al:List Nat)(s:WSt)(k:Int):msS (QlL K s k) al=msS K al:=by
 rw[msS,msS,QlL,List.zip_map_left,List.map_map];apply List.map_congr_left;rintro⟨⟨x,c⟩,b⟩ _;simp only[Function.comp,Prod.map];split<;>rfl
theorem Qv8{K:Kn WSt}{al:List Nat}(hl:al.length=K.length){s:WSt}(h:sfind (QvW s) (msS K al) 0=none):lkK K s=none:=by
 rw[Qsl,msS,List.map_map]at h;rw[QhP];intro hs;obtain⟨⟨x,c⟩,hx,e⟩:=List.mem_map.1 hs;simp only at e;obtain⟨j,hj⟩:=List.getElem?_of_mem hx;have hlt:=Qaa hj;have ha:al[j]? =some (al[j]'(by omega)):=lgE _;apply h;refine List.mem_map.2 ⟨((x,c),al[j]'(by omega)),mgE (i:=j) ?_,by simp[e]⟩;rw[List.getElem?_zip_eq_some];exact⟨hj,ha⟩
theorem Qle{K:Kn WSt}(hnd:(K.map (·.1)).Nodup){j:Nat}{s:WSt}{c:Option Int}(h:K[j]? =some (s,c)):lkK K s=some c:=by
 induction K generalizing j with
 |nil=>simp at h
 |cons p K ih=>
  obtain⟨x,c'⟩:=p;simp only[List.map_cons,List.nodup_cons]at hnd;cases j with
  |zero=>simp at h;obtain⟨rfl,rfl⟩:=h;simp[lkK]
  |succ j=>
   simp only[List.getElem?_cons_succ]at h;have:x≠s:=λe=>hnd.1 (by rw[e];exact List.mem_map.2 ⟨_,mgE h,rfl⟩)
   rw[lkK,if_neg this];exact ih hnd.2 h
theorem Qq1{K:Kn WSt}{al:List Nat}{s:WSt}{i:Nat}{v:DV}(h:sfind (QvW s) (msS K al) 0=some (i,v)):∃c b,K[i]? =some (s,c)/\al[i]? =some b/\v= .s (.adr b 0):=by
 obtain⟨_,h2⟩:=Qsm h;rw[Nat.sub_zero,msS,gtm,omi]at h2;obtain⟨⟨⟨x,c⟩,b⟩,h3,h4⟩:=h2;rw[List.getElem?_zip_eq_some]at h3;simp only[pmi]at h4;obtain⟨e1,e2⟩:=h4;have:=QvX e1;subst this;exact⟨c,b,h3.1,h3.2,e2.symm⟩
theorem Qzn:∀a:Fin 512,IntKind.i64.wrap ((BitVec.ofInt 64 (a.val:Int) ^^^ BitVec.ofInt 64 1).toNat:Int)=if a.val%2=0 then (a.val:Int)+1 else (a.val:Int)-1:=by
 decide +kernel
theorem QqR(P:Program)(hP:P=Tryz.prog)(t:Top)(a:Int)(h0:0<=a)(h1:a<2*t.links.length)(h2:(t.links.length:Int)<=256):Ret P QdU [QaF t,iA a] (iA (Qou t a)):=by
 have hx:IntKind.i64.wrap ((BitVec.ofInt 64 a ^^^ BitVec.ofInt 64 1).toNat:Int)=if a%2=0 then a+1 else a-1:=by
  have:=Qzn ⟨a.toNat,by omega⟩;simp only at this;rw[show((a.toNat:Nat):Int)=a by omega]at this;rw[this];by_cases hm:a%2=0
  ·rw[if_pos (by omega),if_pos hm]
  ·rw[if_neg (by omega),if_neg hm]
 generalize hb:(if a%2=0 then a+1 else a-1:Int)=b at hx;have ht:=Qm4 P hP t b (by rw[<-hb];split<;>omega) (by rw[<-hb];split<;>omega) h2;have he:Qf1 t b=Qou t a:=by
  rw[<-hb];unfold Qf1 Qou Qfc;by_cases hm:a%2=0
  ·rw[if_pos hm,if_pos hm,if_neg (by omega),show(a+1)/2=a/2 by omega]
  ·rw[if_neg hm,if_neg hm,if_pos (by omega),show(a-1)/2=a/2 by omega]
 rw[he]at ht;refine Qah (hP▸mixed) (hP▸QmN) (hP▸QnN) (nle rfl) λΛ Λo K hK=> ?_
 clear hP he;generalize Qou t a=hd at*;obtain⟨nodes,ov,links⟩:=t;simp only[QaF,Qaf,Qak]at*;generalize hol:ov.map QaY=ol at*;generalize hll:links.map Qaz=ll at*;have hlo:Λ ol=ov.length:=by rw[Λo,<-hol];simp
 have hls:Λ ll=links.length:=by rw[Λo,<-hll];simp
 conv=>cbv
 repeat' first|exact gxQ|refine And.intro ?_ ?_|(intro hc;(first|rw[wS (by omega) (by omega)]at hc|rw[Qab]at hc|skip);try (conv=>cbv))
 refine⟨.int .i64 b,?_,?_⟩
 ·rw[<-hx];rfl
 rintro _ rfl
 conv=>cbv
 repeat' first|refine Qc6 ht rfl rfl ?_|exact gxQ|refine And.intro ?_ ?_|(intro hc;(first|rw[wS (by omega) (by omega)]at hc|rw[Qab]at hc|skip);try (conv=>cbv))
 all_goals (subst hc;exact hK)
def Qzr(h:Hp)(Z:Nat->Nat):Nat->Hp->Prop
 |_,[]=>True
 |n,k::r=>h[Z n]? =some (rnB Z k)/\Qzr h Z (n+1) r
theorem QqN{h:Hp}{Z:Nat->Nat}:∀{hc:Hp} {n:Nat},Qzr h Z n hc->∀i k,hc[i]? =some k->h[Z (n+i)]? =some (rnB Z k):=by
 intro hc;induction hc with
 |nil=>intro n _ i k h;simp at h
 |cons b r ih=>
  intro n ⟨h1,h2⟩ i k hk;cases i with
  |zero=>simp at hk;subst hk;exact h1
  |succ i=>
   simp at hk;have:=ih h2 i k hk;rw[show n+1+i=n+(i+1)by omega]at this;exact this
theorem Qpo{P:Program}{m:Nat}{L:Lv}{h:Hp}{f:Nat}{xs:List X}{K:Lv->AV->Hp->Prop}{args:List AV}{hc:Hp}{R:AV->Hp->Prop}(σ:List Nat)(hf:FnS P f args hc R)(ha:QgQ L xs=rnAs (rho σ h.length) args)(hlen:σ.length=hc.length)(hnd:σ.Nodup)
 (hh:Qzr h (rho σ h.length) 0 hc)(hcl:QcG hc.length hc=true)(hca:args.all (Qdn hc.length)=true)(k:∀r hc',R r hc'->K L (rnA (rho σ h.length) r) (QgM h σ hc')):CallS P m false L h f xs K:=by
 refine .fn ?_;rw[ha];refine(hf.frame σ h hlen hnd (λi b hb=>by have:=QqN hh i b hb;rw[Nat.zero_add]at this;exact this) hcl λx hx=>List.all_eq_true.1 hca x hx).mono ?_;rintro r h' ⟨r0,hc',h1,rfl,rfl⟩;exact k r0 hc' h1
theorem QaH{P:Program}{m:Nat}{L:Lv}{h:Hp}{f:Nat}{xs:List X}{K:Lv->AV->Hp->Prop}{args:List AV}{hc:Hp}{R:AV->Hp->Prop}(σ:List Nat)(hf:FnS P f args hc R)(k:∀r hc',R r hc'->K L (rnA (rho σ h.length) r) (QgM h σ hc'))(ha:QgQ L xs=rnAs (rho σ h.length) args:=by exact rfl)(hlen:σ.length=hc.length:=by exact rfl)(hnd:σ.Nodup:=by decide)(hh:Qzr h (rho σ h.length) 0 hc:=by repeat' first|exact trivial|refine And.intro ?_ ?_|rfl)(hcl:QcG hc.length hc=true:=by exact rfl)(hca:args.all (Qdn hc.length)=true:=by exact rfl):CallS P m false L h f xs K:=Qpo σ hf ha hlen hnd hh hcl hca k
theorem QeA{P:Program}{h:Hp}{f:Nat}{args':List AV}{K:AV->Hp->Prop}{args:List AV}{hc:Hp}{R:AV->Hp->Prop}(σ:List Nat)(hf:FnS P f args hc R)(ha:args'=rnAs (rho σ h.length) args)(hlen:σ.length=hc.length)(hnd:σ.Nodup)
 (hh:Qzr h (rho σ h.length) 0 hc)(hcl:QcG hc.length hc=true)(hca:args.all (Qdn hc.length)=true)(k:∀r hc',R r hc'->K (rnA (rho σ h.length) r) (QgM h σ hc')):CallV P h f args' K:=by
 refine .fn ?_;rw[ha];refine(hf.frame σ h hlen hnd (λi b hb=>by have:=QqN hh i b hb;rw[Nat.zero_add]at this;exact this) hcl λx hx=>List.all_eq_true.1 hca x hx).mono ?_;rintro r h' ⟨r0,hc',h1,rfl,rfl⟩;exact k r0 hc' h1
def QtD(t:Top)(down:List Bool)(e:Int)(fr:Bool)(D:List Int):Bool:=
 decide ((D.length:Int)=t.nodes)&&decide (gt D e=0)&&((List.range D.length).all λi=>decide (-1<=gt D (i:Nat)))&&
 ((List.range (2*t.links.length)).all λa=> !(QgE t down e fr (a:Nat)&&decide (0<=gt D (yOf t fr (a:Nat))))||(decide (0<=gt D (xOf t fr (a:Nat)))&&decide (gt D (xOf t fr (a:Nat))<=gt D (yOf t fr (a:Nat))+Qbp t (a:Nat))))&&
 ((List.range D.length).all λx=>decide ((x:Int)=e)||decide (gt D (x:Nat)<0)||(List.range (2*t.links.length)).any λa=>QgE t down e fr (a:Nat)&&decide (xOf t fr (a:Nat)=(x:Nat))&&decide (0<=gt D (yOf t fr (a:Nat)))&&decide (gt D (x:Nat)=gt D (yOf t fr (a:Nat))+Qbp t (a:Nat)))
theorem QfP{t:Top}{down:List Bool}{e:Int}{fr:Bool}{D:List Int}(h:QtD t down e fr D=true):IsDist t down e fr D:=by
 simp only[QtD,Bool.and_eq_true,decide_eq_true_eq,List.all_eq_true,List.mem_range,Bool.or_eq_true,Bool.not_eq_true',List.any_eq_true]at h;obtain⟨⟨⟨⟨h1,h2⟩,h3⟩,h4⟩,h5⟩:=h;refine⟨h1,h2,λi i0 i1=> ?_,λa a0 a1=> ?_,λx x0 x1 hx hd=> ?_⟩
 ·have:=h3 i.toNat (by omega);rw[show((i.toNat:Nat):Int)=i by omega]at this;exact this
 ·have:=h4 a.toNat (by omega);rw[show((a.toNat:Nat):Int)=a by omega]at this;intro ho hy;rcases this with h|h
  ·rw[ho,decide_eq_true hy]at h;cases h
  ·exact h
 ·have:=h5 x.toNat (by omega);rw[show((x.toNat:Nat):Int)=x by omega]at this;rcases this with (h|h)|⟨a,ha,⟨⟨q1,q2⟩,q3⟩,q4⟩
  ·exact absurd h hx
  ·omega
  ·exact⟨a,by omega,by omega,q1,q2,q3,q4⟩
def QaP:Top:=⟨4,[],[⟨0,1,1,1,0,1,0⟩,⟨1,2,1,1,0,1,0⟩,⟨2,3,1,1,0,1,0⟩,⟨3,0,1,1,0,1,0⟩]⟩
theorem QfV:Qam QaP=true:=by decide
theorem QyO:QaM QaP [] 0 false=[0,1,2,1]:=QfI QfV (QfP (by decide))
theorem QyP:QaM QaP [] 1 false=[1,0,1,2]:=QfI QfV (QfP (by decide))
theorem QyQ:QaM QaP [] 2 false=[2,1,0,1]:=QfI QfV (QfP (by decide))
theorem QyR:QaM QaP [] 3 false=[1,2,1,0]:=QfI QfV (QfP (by decide))
def Alike(a b:Ans):Prop:=a.1=b.1/\a.2.2=b.2.2/\(0<a.2.2\/a.2.1=b.2.1)
theorem Alike.refl(a:Ans):Alike a a:=⟨rfl,rfl,.inr rfl⟩
theorem Qr7{t:Top}{n:Int}{l:List Int}{i:Nat}{x:Int}(h:Qg6 t n l i=true)(hx:l[i]? =some x):QaE t x=n:=by
 simp only[Qg6,QhL hx,Bool.and_eq_true,decide_eq_true_eq]at h;exact h.1
structure Bnd (t:Top) (x:Tab) (p:Pkt) (a:Ans):Prop where
 id:a.2.1.id=p.id
 src:a.2.1.src=p.src
 dst:a.2.1.dst=p.dst
 flow:a.2.1.flow=p.flow
 some:a.2.2=0↔0<a.1.length
 no:a.2.2≠0->(a.2.2= -1\/(1<=a.2.2/\a.2.2<=5/\a.2.2≠3))/\a.2.1.hops=p.hops
 yes:a.2.2=0->(∀y∈a.1,QaE t y=x.node)/\a.2.1.stack.length<=32/\a.2.1.hops=p.hops+1/\0<=p.hops/\p.hops<255
theorem Qdk(t:Top)(x:Tab)(p:Pkt)(r:Int)(hr:r= -1\/(1<=r/\r<=5/\r≠3))(l:List Seg):Bnd t x p ([],{p with stack:=l},r):=
 ⟨rfl,rfl,rfl,rfl,by simp;omega,λ_=>⟨hr,rfl⟩,λh=>by simp only at h;omega⟩
theorem Qjv{t:Top}{x:Tab}{p:Pkt}{l:List Seg}{arcs:List Int}(hh:¬(p.hops<0\/255<=p.hops))(hl:l.length<=32)(ha:0<arcs.length)(ht:∀y∈arcs,QaE t y=x.node):Bnd t x p (QdA p l arcs):=
 ⟨rfl,rfl,rfl,rfl,by simp[QdA];exact ha,λh=>absurd rfl h,λ_=>⟨ht,hl,rfl,by omega,by omega⟩⟩
theorem QqG{t:Top}{x:Tab}{n:Int}(hv:Qhq t x=true)(hn:0<=n/\n<t.nodes):∀y∈(ent x n).arcs,QaE t y=x.node:=by
 have hs:=QbV.1 hv;have hg:x.to[n.toNat]? =some (ent x n):=by
  have hlt:n.toNat<x.to.length:=by omega
  rw[ent,List.getD_eq_getElem?_getD,lgE hlt];rfl
 have he:=Qed.1 (hs.2.2.2.2 _ _ hg);intro y hy;obtain⟨i,hi,rfl⟩:=List.getElem_of_mem hy;exact Qr7 (Qep.1 he.1 i hi) (lgE hi)
theorem QnL{t:Top}{x:Tab}{p:Pkt}{l:List Seg}{n:Int}(hv:Qhq t x=true)(hh:¬(p.hops<0\/255<=p.hops))(hl:l.length<=32)(hn:(0<=n/\n<t.nodes)/\0<(ent x n).arcs.length):Bnd t x p (Qc8 p l (ent x n)):=by
 unfold Qc8;split
 ·split
  ·exact Qdk t x p 5 (by omega) p.stack
  ·exact Qjv hh (by omega) hn.2 (QqG hv hn.1)
 ·exact Qjv hh hl hn.2 (QqG hv hn.1)
theorem Qjw{t:Top}{x:Tab}{p:Pkt}(hv:Qhq t x=true):Bnd t x p (QdZ t x p):=by
 unfold QdZ;split
 ·exact Qdk t x p (-1) (by omega) []
 ·split
  ·exact Qdk t x p 4 (by omega) p.stack
  ·split
   ·rename_i h1 h2 h3;exact QnL hv h2 (by simp) h3
   ·exact Qdk t x p 1 (by omega) p.stack
theorem QwO{t:Top}{a n:Int}(hv:Qam t=true)(h:(0<=a/\a<2*t.links.length)/\Qf1 t a=n):QaE t a=n:=by
 unfold QaE;rw[if_pos ⟨h.1.1,by unfold Qbo;rw[if_pos hv];exact h.1.2⟩];exact h.2
theorem Qs1{t:Top}{x:Tab}{p:Pkt}{l:List Seg}(hv:Qhq t x=true)(hl:l.length<=32):Bnd t x p (QdE t x p l):=by
 cases l with
 |nil=>exact Qjw hv
 |cons s r=>
  simp only[QdE];split
  ·exact Qdk t x p 4 (by omega) p.stack
  ·rename_i hh;split
   ·split
    ·rename_i h3;exact QnL hv hh hl h3
    ·exact Qjw hv
   ·split
    ·split
     ·rename_i h3;split
      ·exact Qjw hv
      ·exact Qjv hh (by simp only[List.length_cons]at hl;omega) (by simp) λy hy=>by
        rw[List.mem_singleton.1 hy];exact QwO (QbV.1 hv).1 h3
     ·exact Qdk t x p 2 (by omega) p.stack
    ·exact Qdk t x p 1 (by omega) p.stack
theorem Qoc{α:Type}(f:α->Bool)(l:List α):(l.dropWhile f).length<=l.length:=by
 induction l with
 |nil=>simp
 |cons a l ih=>rw[List.dropWhile_cons];split<;>simp only[List.length_cons]<;>omega
theorem Qmk(t:Top)(x:Tab)(p:Pkt):Bnd t x p (Qhk t x p):=by
 unfold Qhk;split
 ·rename_i h;split
  ·exact Qdk t x p 5 (by omega) p.stack
  ·exact Qs1 h.1 (by have:=Qoc (λs=>decide (s=⟨1,x.node⟩)) p.stack;unfold QcK;omega)
 ·exact Qdk t x p 1 (by omega) p.stack
abbrev Qw1:=List Int×List Seg×Int
abbrev rA (x:Qw1):AV:= .tup [Qao x.1,QcI x.2.1,iA x.2.2]
def rent(l:List Seg)(e:Ety):Qw1:=
 if e.rep=true then (if (e.push++l.drop 1).length>32 then ([],[],5)else (e.arcs,e.push++l.drop 1,0))else (e.arcs,l,0)
def rplain(t:Top)(x:Tab)(p:Pkt):Qw1:=
 if p.dst=x.node then ([],[],-1)
 else if p.hops<0\/255<=p.hops then ([],[],4)
 else if (0<=p.dst/\p.dst<t.nodes)/\0<(ent x p.dst).arcs.length then rent [] (ent x p.dst)else ([],[],1)
def rroute(t:Top)(x:Tab)(p:Pkt):List Seg->Qw1
 |[]=>rplain t x p
 |s::r=>
  if p.hops<0\/255<=p.hops then ([],[],4)
  else if s.kind=1 then (if (0<=s.num/\s.num<t.nodes)/\0<(ent x s.num).arcs.length then rent (s::r) (ent x s.num)else rplain t x p)
  else if s.kind=2 then (if QaE t s.num=x.node then (if s.num∈x.down then rplain t x p else ([s.num],r,0))else ([],[],2))
  else ([],[],1)
def fin(p:Pkt)(a:Qw1):Ans:=
 if a.2.2= -1 then (a.1,{p with stack:=[]},a.2.2)else if a.2.2=0 then (a.1,{p with stack:=a.2.1,hops:=p.hops+1},a.2.2)else (a.1,p,a.2.2)
theorem Qoh(p:Pkt)(l:List Seg)(e:Ety):fin p (rent l e)=Qc8 p l e:=by
 unfold rent Qc8 QdA;split
 ·split<;>rfl
 ·rfl
theorem QjT(t:Top)(x:Tab)(p:Pkt):fin p (rplain t x p)=QdZ t x p:=by
 unfold rplain QdZ;split
 ·rfl
 ·split
  ·rfl
  ·split
   ·exact Qoh p [] _
   ·rfl
theorem Qtn{t:Top}{x:Tab}(hv:Qhq t x=true)(p:Pkt)(l:List Seg):fin p (rroute t x p l)=QdE t x p l:=by
 cases l with
 |nil=>exact QjT t x p
 |cons s r=>
  have hs:=QbV.1 hv;have ht:QaE t s.num=x.node↔(0<=s.num/\s.num<2*t.links.length)/\Qf1 t s.num=x.node:=by
   by_cases h:0<=s.num/\s.num<2*t.links.length
   ·rw[QgI hs.1 h.1 h.2];exact⟨λg=>⟨h,g⟩,λg=>g.2⟩
   ·rw[QlO hs.1 h];exact⟨λg=>by omega,λg=>absurd g.1 h⟩
  simp only[rroute,QdE,ht];split
  ·rfl
  ·split
   ·split
    ·exact Qoh p _ _
    ·exact QjT t x p
   ·split
    ·split
     ·split
      ·exact QjT t x p
      ·rfl
     ·rfl
    ·rfl
theorem Qqb{t:Top}{x:Tab}{p:Pkt}{l:List Seg}(h:(rroute t x p l).2.2=0):0<=p.hops/\p.hops<255:=by
 have hp:(rplain t x p).2.2=0->0<=p.hops/\p.hops<255:=by
  intro h;unfold rplain at h;split at h
  ·simp at h
  ·split at h
   ·simp at h
   ·omega
 cases l with
 |nil=>exact hp h
 |cons s r=>
  simp only[rroute]at h;split at h
  ·simp at h
  ·omega
theorem Qxs{K:Qw1->Prop}{l:List Seg}{e:Ety}(h:K (rent l e)):(e.rep=true->(e.push++l.drop 1).length>32->K ([],[],5))/\(e.rep=true->¬(e.push++l.drop 1).length>32->K (e.arcs,e.push++l.drop 1,0))/\(e.rep=false->K (e.arcs,l,0)):=by
 unfold rent at h;refine⟨λh1 h2=> ?_,λh1 h2=> ?_,λh1=> ?_⟩
 ·rw[if_pos h1,if_pos h2]at h;exact h
 ·rw[if_pos h1,if_neg h2]at h;exact h
 ·rw[if_neg (by rw[h1];decide)]at h;exact h
theorem Qwx{K:Qw1->Prop}{t:Top}{x:Tab}{p:Pkt}(h:K (rplain t x p)):
  (p.dst=x.node->K ([],[],-1))/\(p.dst≠x.node->(p.hops<0\/255<=p.hops)->K ([],[],4))/\
  (p.dst≠x.node->¬(p.hops<0\/255<=p.hops)->(0<=p.dst/\p.dst<t.nodes)->0<(ent x p.dst).arcs.length->K (rent [] (ent x p.dst)))/\
  (p.dst≠x.node->¬(p.hops<0\/255<=p.hops)->¬((0<=p.dst/\p.dst<t.nodes)/\0<(ent x p.dst).arcs.length)->K ([],[],1)):=by
 unfold rplain at h;refine⟨λh1=> ?_,λh1 h2=> ?_,λh1 h2 h3 h4=> ?_,λh1 h2 h3=> ?_⟩
 ·rw[if_pos h1]at h;exact h
 ·rw[if_neg h1,if_pos h2]at h;exact h
 ·rw[if_neg h1,if_neg h2,if_pos ⟨h3,h4⟩]at h;exact h
 ·rw[if_neg h1,if_neg h2,if_neg h3]at h;exact h
set_option maxHeartbeats 4000000 in
theorem QoP(P:Program)(hP:P=Tryz.prog)(t:Top)(x:Tab)(p:Pkt)(hf:Fit x p)(hto:(x.to.length:Int)=t.nodes):Ret P QeO [QaF t,Qjc x,Qcr p,QcI []] (rA (rplain t x p)):=by
 refine Qah (hP▸mixed) (hP▸Qf7) (hP▸QgO) (nle rfl) λΛ Λo K hK=> ?_
 clear hP;obtain⟨f1,f2,f3,f4⟩:=Qwx (K:=λa=>K (rA a)) hK;clear hK;have f31:=λh1 h2 h3 h4=>(Qxs (K:=λa=>K (rA a)) (f3 h1 h2 h3 h4))
 clear f3;obtain⟨nodes,ov,links⟩:=t;obtain⟨node,to,down⟩:=x;obtain⟨id,src,dst,flow,stack,hops⟩:=p;simp only at f1 f2 f31 f4 hto;have hΛ0:Λ []=0:=by rw[Λo];rfl
 by_cases hd:0<=dst/\dst<nodes
 ·have h3:to[dst.toNat]? =some (to[dst.toNat]'(by omega)):=lgE (by omega);have h4:=hf.1 _ (List.getElem_mem (l:=to) (n:=dst.toNat) (by omega));have h5:ent ⟨node,to,down⟩ dst=to[dst.toNat]'(by omega):=by simp[ent,List.getD,h3]
  rw[h5]at f31 f4;generalize to[dst.toNat]'(by omega)=e at*;obtain⟨arcs,rep,push⟩:=e;simp only[rA,QaF,Qjc,Qfa,Qaf,Qak,QcI,QaZ,Qcr,Qao,Qax,List.map_nil,List.drop_nil,List.append_nil]at*;have hxa:(to.map Qay)[dst.toNat]? =some (Qay ⟨arcs,rep,push⟩):=by simp[h3]
  generalize hol:ov.map QaY=ol at*;generalize hll:links.map Qaz=ll at*;generalize htl:to.map Qay=tl at*;have tln:Λ tl=to.length:=by rw[Λo,<-htl];simp
  generalize hdl:down.map Qar=dl at*;generalize stack.map Qaj=sl at*;simp only[Qay,Qax,QaZ]at hxa;generalize alh:List.map Qar arcs=al at*;have aln:Λ al=arcs.length:=by rw[Λo,<-alh];simp
  generalize plh:List.map Qaj push=pl at*;have pln:Λ pl=push.length:=by rw[Λo,<-plh];simp
  have alL:al.length<=1000:=by rw[<-alh,List.length_map];exact h4.1
  have plL:pl.length<=1000:=by rw[<-plh,List.length_map];exact h4.2
  have plk:pl.length=push.length:=by rw[<-plh,List.length_map]
  cases rep
  all_goals (conv=>cbv)
  all_goals (repeat' first|(intro e he;cases osj (he.symm.trans hxa);(conv=>cbv))|exact gxQ|refine And.intro ?_ ?_|(intro hc;(first|rw[wS (by omega) (by omega)]at hc|rw[Qab]at hc|skip);try (conv=>cbv)))
  all_goals first
   |exact f1 ‹dst=node›
   |exact f2 ‹¬dst=node› (by omega)
   |exact f4 ‹¬dst=node› (by omega) (by omega)
   |exact(f31 ‹¬dst=node› (by omega) hd (by omega)).1 rfl (by omega)
   |(have g:=(f31 ‹¬dst=node› (by omega) hd (by omega)).2.1 rfl (by omega);clear f1 f2 f4 f31;subst_vars;simp only[List.take_zero,List.drop_nil,List.nil_append,List.drop_zero,Nat.zero_add,List.take_length]at g |-;exact g)
   |(have g:=(f31 ‹¬dst=node› (by omega) hd (by omega)).2.2 rfl;clear f1 f2 f4 f31;subst_vars;simp only[List.take_zero,List.drop_nil,List.nil_append,List.drop_zero,Nat.zero_add,List.take_length]at g |-;exact g)
 ·clear f31;simp only[rA,QaF,Qjc,Qfa,Qaf,Qak,QcI,QaZ,Qcr,Qao,Qax,List.map_nil]at*;generalize hol:ov.map QaY=ol at*;generalize hll:links.map Qaz=ll at*;generalize htl:to.map Qay=tl at*;generalize hdl:down.map Qar=dl at*;generalize stack.map Qaj=sl at*
  conv=>cbv
  repeat' first|exact gxQ|refine And.intro ?_ ?_|(intro hc;(first|rw[wS (by omega) (by omega)]at hc|rw[Qab]at hc|skip);try (conv=>cbv))
  all_goals first
   |exact f1 ‹dst=node›
   |exact f2 ‹¬dst=node› (by omega)
   |exact f4 ‹¬dst=node› (by omega) (by omega)
theorem Qwy{K:Qw1->Prop}{t:Top}{x:Tab}{p:Pkt}{s:Seg}{r:List Seg}(h:K (rroute t x p (s::r))):
  ((p.hops<0\/255<=p.hops)->K ([],[],4))/\
  (¬(p.hops<0\/255<=p.hops)->s.kind=1->(0<=s.num/\s.num<t.nodes)->0<(ent x s.num).arcs.length->K (rent (s::r) (ent x s.num)))/\
  (¬(p.hops<0\/255<=p.hops)->s.kind=1->¬((0<=s.num/\s.num<t.nodes)/\0<(ent x s.num).arcs.length)->K (rplain t x p))/\
  (¬(p.hops<0\/255<=p.hops)->s.kind=2->¬QaE t s.num=x.node->K ([],[],2))/\
  (¬(p.hops<0\/255<=p.hops)->s.kind=2->QaE t s.num=x.node->s.num∈x.down->K (rplain t x p))/\
  (¬(p.hops<0\/255<=p.hops)->s.kind=2->QaE t s.num=x.node->s.num∉x.down->K ([s.num],r,0))/\
  (¬(p.hops<0\/255<=p.hops)->s.kind≠1->s.kind≠2->K ([],[],1)):=by
 simp only[rroute]at h;refine⟨λh1=> ?_,λh1 h2 h3 h4=> ?_,λh1 h2 h3=> ?_,λh1 h2 h3=> ?_,λh1 h2 h3 h4=> ?_,λh1 h2 h3 h4=> ?_,λh1 h2 h3=> ?_⟩
 ·rw[if_pos h1]at h;exact h
 ·rw[if_neg h1,if_pos h2,if_pos ⟨h3,h4⟩]at h;exact h
 ·rw[if_neg h1,if_pos h2,if_neg h3]at h;exact h
 ·rw[if_neg h1,if_neg (by omega),if_pos h2,if_neg h3]at h;exact h
 ·rw[if_neg h1,if_neg (by omega),if_pos h2,if_pos h3,if_pos h4]at h;exact h
 ·rw[if_neg h1,if_neg (by omega),if_pos h2,if_pos h3,if_neg h4]at h;exact h
 ·rw[if_neg h1,if_neg h2,if_neg h3]at h;exact h
set_option maxHeartbeats 4000000 in
theorem Qup(P:Program)(hP:P=Tryz.prog)(t:Top)(x:Tab)(p:Pkt)(l:List Seg)(hf:Fit x p)(hl:l.length<=1000)(hto:(x.to.length:Int)=t.nodes):Ret P QeO [QaF t,Qjc x,Qcr p,QcI l] (rA (rroute t x p l)):=by
 cases l with
 |nil=>exact QoP P hP t x p hf hto
 |cons s rs=>
 have hpl:=QoP P hP t x p hf hto;have htail:=QdI P hP t s.num;have hhas:=Qxe P hP x.down s.num;refine Qah (hP▸mixed) (hP▸Qf7) (hP▸QgO) (nle rfl) λΛ Λo K hK=> ?_
 clear hP;obtain⟨f1,f2,f3,f4,f5,f6,f7⟩:=Qwy (K:=λa=>K (rA a)) hK;clear hK;have f2:=λh1 h2 h3 h4=>(Qxs (K:=λa=>K (rA a)) (f2 h1 h2 h3 h4))
 generalize rplain t x p=rp at*;obtain⟨ra,rl,rr⟩:=rp;obtain⟨sk,sn⟩:=s;simp only at f1 f2 f3 f4 f5 f6 f7 htail hhas hto;generalize QaE t sn=tt at*;obtain⟨nodes,ov,links⟩:=t;obtain⟨node,to,down⟩:=x;obtain⟨id,src,dst,flow,stack,hops⟩:=p;simp only at f1 f2 f3 f4 f5 f6 f7 hto hhas;generalize hdm:decide (sn∈down)=dm at*;have hdm':sn∈down↔dm=true:=by rw[<-hdm];simp
 have f5:=λh1 h2 h3 (h4:dm=true)=>f5 h1 h2 h3 (hdm'.2 h4)
 have f6:=λh1 h2 h3 (h4:dm=false)=>f6 h1 h2 h3 (λh=>by rw[hdm'.1 h]at h4;cases h4)
 clear hdm hdm';have hrsl:rs.length<=1000:=by simp only[List.length_cons]at hl;omega
 have hsl:Λ (List.map Qaj (⟨sk,sn⟩::rs))=rs.length+1:=by rw[Λo];simp
 have hsl0:(List.map Qaj (⟨sk,sn⟩::rs))[(0:Int).toNat]? =some [iD sk,iD sn]:=rfl;have hsl1:List.drop 1 (List.map Qaj (⟨sk,sn⟩::rs))=List.map Qaj rs:=rfl;have hrsm:(List.map Qaj rs).length=rs.length:=by simp
 by_cases hd:0<=sn/\sn<nodes
 ·have h3:to[sn.toNat]? =some (to[sn.toNat]'(by omega)):=lgE (by omega);have h4:=hf.1 _ (List.getElem_mem (l:=to) (n:=sn.toNat) (by omega));have h5:ent ⟨node,to,down⟩ sn=to[sn.toNat]'(by omega):=by simp[ent,List.getD,h3]
  rw[h5]at f2 f3;generalize to[sn.toNat]'(by omega)=e at*;obtain⟨arcs,rep,push⟩:=e;simp only[rA,QaF,Qjc,Qfa,Qaf,Qak,QcI,QaZ,Qcr,Qao,Qax,List.map_nil,List.map_append,List.length_append,List.drop_succ_cons,List.drop_zero]at*;have hxa:(to.map Qay)[sn.toNat]? =some (Qay ⟨arcs,rep,push⟩):=by simp[h3]
  generalize List.map Qaj (⟨sk,sn⟩::rs)=sl at*;generalize List.map Qaj rs=rsl at*;generalize hol:ov.map QaY=ol at*;generalize hll:links.map Qaz=ll at*;generalize htl:to.map Qay=tl at*;have tln:Λ tl=to.length:=by rw[Λo,<-htl];simp
  generalize hdl:down.map Qar=dl at*;generalize stack.map Qaj=skl at*;generalize ra.map Qar=ral at*;generalize rl.map Qaj=rll at*;simp only[Qay,Qax,QaZ]at hxa;generalize alh:List.map Qar arcs=al at*;have aln:Λ al=arcs.length:=by rw[Λo,<-alh];simp
  generalize plh:List.map Qaj push=pl at*;have pln:Λ pl=push.length:=by rw[Λo,<-plh];simp
  have alL:al.length<=1000:=by rw[<-alh,List.length_map];exact h4.1
  have plL:pl.length<=1000:=by rw[<-plh,List.length_map];exact h4.2
  have plk:pl.length=push.length:=by rw[<-plh,List.length_map]
  cases rep
  all_goals (conv=>cbv)
  all_goals (repeat' first|(intro e he;cases osj (he.symm.trans hxa);(conv=>cbv))|(intro e he;cases osj (he.symm.trans hsl0);(conv=>cbv))|(intro x hx;have e:=hx.trans hsl1;subst e;(conv=>cbv))|refine Qc6 htail rfl rfl ?_|refine Qaw hhas rfl rfl ?_ ?_|(refine Qag hpl rfl rfl ?_;conv=>cbv)|exact gxQ|refine And.intro ?_ ?_|(intro hc;(first|rw[wS (by omega) (by omega)]at hc|rw[Qab]at hc|skip);try (conv=>cbv)))
  all_goals first
   |exact f1 (by omega)
   |exact f4 (by omega) (by omega) (by omega)
   |exact f7 (by omega) (by omega) (by omega)
   |exact f5 (by omega) (by omega) (by omega) ‹dm=true›
   |exact f3 (by omega) (by omega) (by omega)
   |(have g:=f6 (by omega) (by omega) (by omega) ‹dm=false›;clear f1 f2 f3 f4 f5 f6 f7;subst_vars;exact g)
   |exact(f2 (by omega) (by omega) hd (by omega)).1 rfl (by omega)
   |(have g:=(f2 (by omega) (by omega) hd (by omega)).2.1 rfl (by omega);clear f1 f2 f3 f4 f5 f6 f7;subst_vars;simp only[List.take_zero,List.drop_nil,List.nil_append,List.drop_zero,Nat.zero_add,List.take_length,<-List.length_append]at g |-;exact g)
   |(have g:=(f2 (by omega) (by omega) hd (by omega)).2.2 rfl;clear f1 f2 f3 f4 f5 f6 f7;subst_vars;simp only[List.take_zero,List.drop_nil,List.nil_append,List.drop_zero,Nat.zero_add,List.take_length,<-List.length_append]at g |-;exact g)
   |trace_state
 ·clear f2;simp only[rA,QaF,Qjc,Qfa,Qaf,Qak,QcI,QaZ,Qcr,Qao,Qax,List.map_nil]at*;generalize List.map Qaj (⟨sk,sn⟩::rs)=sl at*;generalize List.map Qaj rs=rsl at*;generalize hol:ov.map QaY=ol at*;generalize hll:links.map Qaz=ll at*;generalize htl:to.map Qay=tl at*;generalize hdl:down.map Qar=dl at*;generalize stack.map Qaj=skl at*;generalize ra.map Qar=ral at*;generalize rl.map Qaj=rll at*
  conv=>cbv
  repeat' first|(intro e he;cases osj (he.symm.trans hsl0);(conv=>cbv))|(intro x hx;have e:=hx.trans hsl1;subst e;(conv=>cbv))|refine Qc6 htail rfl rfl ?_|refine Qaw hhas rfl rfl ?_ ?_|(refine Qag hpl rfl rfl ?_;conv=>cbv)|exact gxQ|refine And.intro ?_ ?_|(intro hc;(first|rw[wS (by omega) (by omega)]at hc|rw[Qab]at hc|skip);try (conv=>cbv))
  all_goals first
   |exact f1 (by omega)
   |exact f4 (by omega) (by omega) (by omega)
   |exact f7 (by omega) (by omega) (by omega)
   |exact f5 (by omega) (by omega) (by omega) ‹dm=true›
   |exact f3 (by omega) (by omega) (by omega)
   |(have g:=f6 (by omega) (by omega) (by omega) ‹dm=false›;clear f1 f2 f3 f4 f5 f6 f7;subst_vars;exact g)
   |trace_state
theorem QCR{m:Nat}{L:Lv}{h:Hp}(l v sz k:Nat){r:Bool}{es:List (List D)}(hl:h[l]? =some (.da r v sz es))(hk:k=es.length)(h1:okL l v k L)(h2:okH l v k h):Wk m L h (zL l v sz es L) (zH l v sz es 0 h):=
 .fz l v sz r es hl (λi=> .inr (by rw[<-Qb2,<-Qb2,QAy];exact QAV hk (Qt5 h1 i))) (QAX hk h2)
set_option maxHeartbeats 4000000 in
theorem Qwz(P:Program)(hP:P=Tryz.prog)(t:Top)(x:Tab)(p:Pkt)(hf:Fit x p):Ret P Qft [QaF t,Qjc x,Qcr p] (Qf2 (Qhk t x p)):=by
 have hval:=Qlh P hP t x;have hrt:=λl (hl:l.length<=1000) (hv:Qhq t x=true)=>Qup P hP t x p l hf hl (QbV.1 hv).2.2.1
 refine Qah (hP▸mixed) (hP▸Qm0) (hP▸Qn0) (nle rfl) λΛ Λo K hK=> ?_
 clear hP;have k1:¬(Qhq t x=true/\0<=p.dst/\p.dst<t.nodes)->K (Qf2 ([],p,1)):=by
  intro h;unfold Qhk at hK;rw[if_neg h]at hK;exact hK
 have k2:(Qhq t x=true/\0<=p.dst/\p.dst<t.nodes)->p.stack.length>32->K (Qf2 ([],p,5)):=by
  intro h h';unfold Qhk at hK;rw[if_pos h,if_pos h']at hK;exact hK
 have k3:(Qhq t x=true/\0<=p.dst/\p.dst<t.nodes)->¬p.stack.length>32->K (Qf2 (fin p (rroute t x p (QcK x.node p.stack)))):=by
  intro h h';unfold Qhk at hK;rw[if_pos h,if_neg h']at hK;rw[Qtn h.1];exact hK
 clear hK;have hskip:∀s r,s=⟨1,x.node⟩->QcK x.node (s::r)=QcK x.node r:=by intro s r h;subst h;simp[QcK]
 have hskip':∀s r,s≠⟨1,x.node⟩->QcK x.node (s::r)=s::r:=by intro s r h;simp[QcK,h]
 have hsn:QcK x.node []=[]:=rfl;have hhops:∀l,(rroute t x p l).2.2=0->0<=p.hops/\p.hops<255:=λl h=>Qqb h
 generalize QcK x.node=sk at*;generalize rroute t x p=rs at*;generalize Qhq t x=vb at*;obtain⟨nodes,ov,links⟩:=t;obtain⟨node,to,down⟩:=x;obtain⟨id,src,dst,flow,stack,hops⟩:=p;simp only[QaF,Qjc,Qfa,Qaf,Qak,Qcr,Qf2,Qrn,Qao,Qax,QaZ,List.map_nil]at*;generalize hol:ov.map QaY=ol at*;generalize hll:links.map Qaz=ll at*;generalize htl:to.map Qay=tl at*;generalize hdl:down.map Qar=dl at*;generalize slh:List.map Qaj stack=sl at*;have sln:Λ sl=stack.length:=by rw[Λo,<-slh];simp
 have slL:sl.length=stack.length:=by rw[<-slh];simp
 have hf2:stack.length<=1000:=hf.2;by_cases hcd:(vb=true/\0<=dst/\dst<nodes)/\¬stack.length>32
 case neg=>
  cases vb
  all_goals conv=>cbv
  all_goals repeat' first|refine Qaw hval rfl rfl ?_ ?_|(intro hc;cases hc;done)|exact gxQ|refine And.intro ?_ ?_|(intro hc;(first|rw[wS (by omega) (by omega)]at hc|rw[Qab]at hc|skip);try (conv=>cbv))
  all_goals first
   |(refine k1 ?_;intro h;exact absurd h.1 (by decide))
   |(refine k1 ?_;intro h;omega)
   |(refine k2 ⟨rfl,?_,?_⟩ ?_<;>omega)
   |(exfalso;exact hcd ⟨⟨rfl,by omega,by omega⟩,by omega⟩)
 obtain⟨⟨hv,hd1,hd2⟩,hlen⟩:=hcd;subst hv;have kr:=k3 ⟨rfl,hd1,hd2⟩ hlen;clear k1 k2 k3
 conv=>cbv
 repeat' first|refine Qaw hval rfl rfl ?_ ?_|(intro hc;cases hc;done)|exact gxQ|refine And.intro ?_ ?_|(intro hc;(first|rw[wS (by omega) (by omega)]at hc|rw[Qab]at hc|skip);try (conv=>cbv))
 all_goals try (exfalso;omega)
 rename_i n1 r1 es1 hn1 hr1;obtain rfl:es1=sl:=by rw[hc];simp
 refine Qbs stack.length (λ(s:List Seg)=>[(3,.c (.ptr 0 0 0 0)),(4,.c (.ptr 1 0 0 0)),(5,.c (.ptr 2 0 0 0)),(6,.c (.d (.list true 1 []))),(7,.c (.ptr 3 0 0 0)),(8,iA 0),(9,.c (.d (.list false 2 (s.map Qaj))))]) (λ_=>QoT nodes ol ll node tl dl id src dst flow es1 hops) (λk s=>s.length+k=stack.length/\sk s=sk stack) stack
  1 (λ(s:List Seg)=>[(3,.c (.ptr 0 0 0 0)),(4,.c (.ptr 1 0 0 0)),(5,.c (.ptr 2 0 0 0)),(6,.c (.d (.list true 1 []))),(7,.c (.ptr 3 0 0 0)),(8,iA 0),(9,.c (.d (.list false 2 (s.map Qaj))))]) (λ_=>QoT nodes ol ll node tl dl id src dst flow es1 hops) (λs=>s.length<=1000/\sk stack=s)
  (by rw[slh];exact .trans (QCR 4 1 2 n1 rfl (by rw[hn1];simp) (by repeat' first|exact trivial|refine And.intro ?_ ?_|rfl) (by repeat' first|exact trivial|refine And.intro ?_ ?_|rfl)) (Wk.cw)) ⟨by omega,rfl⟩ (λk s h=>by omega) ?_ ?_
 ·rintro k s Q' ⟨hk,hs⟩ norm jn ex rt;have hj:∀L' h',sk s=s->Wk 0 L' h' [(3,.c (.ptr 0 0 0 0)),(4,.c (.ptr 1 0 0 0)),(5,.c (.ptr 2 0 0 0)),(6,.c (.d (.list true 1 []))),(7,.c (.ptr 3 0 0 0)),(8,iA 0),(9,.c (.d (.list false 2 (s.map Qaj))))] (QoT nodes ol ll node tl dl id src dst flow es1 hops)->Q' (.exit 1) L' h':=λL' h' hw=>jn L' h' s ⟨by omega,by rw[<-hs,hw]⟩
  generalize rlh:List.map Qaj s=rl at*;have rln:Λ rl=s.length:=by rw[Λo,<-rlh];simp
  conv=>cbv
  repeat' first|(intro e he;obtain⟨⟨xk,xn⟩,hx,rfl⟩:=Qbc rlh he;(conv=>cbv))|exact gxQ|refine And.intro ?_ ?_|(intro hc;(first|rw[wS (by omega) (by omega)]at hc|rw[Qab]at hc|skip);try (conv=>cbv))
  ·rename_i hxe rl';cases s with
   |nil=>cases hx
   |cons s0 r=>
    cases hx;have e:rl'=r.map Qaj:=by rw[hc,<-rlh];rfl
    subst e;refine norm _ _ r ?_ (Wk.cw);rw[hskip _ _ (by rw[hxe.1,hxe.2.1])]at hs;simp only[List.length_cons]at hk;exact⟨by omega,hs⟩
  all_goals refine hj _ _ ?_ (Wk.cw)
  ·cases s with
   |nil=>exact hsn
   |cons s0 r=>
    cases hx;refine hskip' _ _ λh=>hc ?_
    injection h with h1 h2
    exact⟨h1,h2,trivial⟩
  ·cases s with
   |nil=>exact hsn
   |cons s0 r=>exfalso;simp only[List.length_cons]at rln;omega
 rintro s ⟨hsl,hsk⟩;rw[hsk]at kr;clear hskip hskip' hsn hsk;have hrt:=hrt s hsl rfl;have hh:=hhops s;clear hhops;generalize rs s=a at*;obtain⟨ra,rl,rr⟩:=a;have f1:rr= -1->K (Qf2 (ra,⟨id,src,dst,flow,[],hops⟩,rr)):=λh=>by simpa [fin,Qf2,Qrn,Qcr,Qao,Qax,QaZ,h]using kr
 have f2:rr=0->K (Qf2 (ra,⟨id,src,dst,flow,rl,hops+1⟩,rr)):=λh=>by simpa [fin,Qf2,Qrn,Qcr,Qao,Qax,QaZ,h]using kr
 have f3:rr≠ -1->rr≠0->K (Qf2 (ra,⟨id,src,dst,flow,stack,hops⟩,rr)):=λh h'=>by simpa [fin,Qf2,Qrn,Qcr,Qao,Qax,QaZ,h,h']using kr
 clear kr;simp only[Qf2,rA,Qrn,Qcr,Qao,Qax,QcI,QaZ,List.map_nil]at f1 f2 f3 hrt hh;rw[slh]at f3;generalize hsm:List.map Qaj s=sm at*;generalize List.map Qar ra=ral at*;generalize List.map Qaj rl=rll at*
 conv=>cbv
 repeat' first|(refine Qag hrt rfl rfl ?_;conv=>cbv)|exact gxQ|refine And.intro ?_ ?_|(intro hc;(first|rw[wS (by omega) (by omega)]at hc|rw[Qab]at hc|skip);try (conv=>cbv))
 all_goals first
  |exact f1 (by omega)
  |exact f3 (by omega) (by omega)
  |(have hh:=hh (by omega);have g:=f2 (by omega);rw[hc]at *;exact g)
  |trace_state
def ltK(K:List Int)(a b:Int):Prop:=K.getD a.toNat 0<K.getD b.toNat 0\/(K.getD a.toNat 0=K.getD b.toNat 0/\a<b)
instance (K:List Int) (a b:Int):Decidable (ltK K a b):=by unfold ltK;infer_instance
def leK(K:List Int)(a b:Int):Prop:=¬ltK K b a
theorem Qv5(K:List Int)(a:Int):leK K a a:=by unfold leK ltK;omega
theorem QgW{K:List Int}{a b c:Int}(h1:leK K a b)(h2:leK K b c):leK K a c:=by unfold leK ltK at *;omega
theorem QAz{K:List Int}{a b:Int}(h:ltK K a b):leK K a b:=by unfold leK ltK at *;omega
theorem Qyo{K:List Int}{a b:Int}(h:leK K a b):K.getD a.toNat 0<=K.getD b.toNat 0:=by unfold leK ltK at *;omega
abbrev at' (O:List Int) (p:Nat):Int:=O.getD p 0
structure Pre (K O:List Int) (p:Nat):Prop where
 e1:∀c,0<c->c<O.length->c≠p->(c-1)/2≠p->leK K (at' O ((c-1)/2)) (at' O c)
 e2:∀c,0<p->0<c->c<O.length->(c-1)/2=p->leK K (at' O ((p-1)/2)) (at' O c)
def HO(K O:List Int):Prop:=∀c,0<c->c<O.length->leK K (at' O ((c-1)/2)) (at' O c)
def swp(O:List Int)(p q:Nat):List Int:=(O.set p (at' O q)).set q (at' O p)
theorem QeW(O:List Int)(p q:Nat):(swp O p q).length=O.length:=by simp[swp]
theorem QkD{O:List Int}{p q:Nat}(hp:p<O.length)(hq:q<O.length)(c:Nat):at' (swp O p q) c=if c=q then at' O p else if c=p then at' O q else at' O c:=by
 simp only[at',swp,List.getD_eq_getElem?_getD,List.getElem?_set,List.length_set];by_cases h1:c=q
 ·subst h1;simp[hq]
 ·have h1':¬q=c:=λh=>h1 h.symm
  simp only[if_neg h1,if_neg h1'];by_cases h2:c=p
  ·subst h2;simp[hp]
  ·have h2':¬p=c:=λh=>h2 h.symm
   simp only[if_neg h2,if_neg h2']
theorem HO.root{K O:List Int}(h:HO K O):∀c,c<O.length->leK K (at' O 0) (at' O c):=by
 intro c;induction c using Nat.strongRecOn with
 |_ c ih=>
  intro hc;by_cases h0:c=0
  ·subst h0;exact Qv5 _ _
  ·exact QgW (ih ((c-1)/2) (by omega) (by omega)) (h c (by omega) hc)
theorem Pre.up{K O:List Int}{p:Nat}(h:Pre K O p)(hp0:0<p)(hp:p<O.length)(hlt:ltK K (at' O p) (at' O ((p-1)/2))):Pre K (swp O p ((p-1)/2)) ((p-1)/2):=by
 have hq:(p-1)/2<O.length:=by omega
 have hsw:=QkD hp hq;have hqp:(p-1)/2≠p:=by omega
 refine⟨λc c0 cl cq cpq=> ?_,λc q0 c0 cl cpq=> ?_⟩
 ·rw[QeW]at cl;rw[hsw,hsw,if_neg cpq,if_neg cq];by_cases h1:c=p
  ·exact absurd (by rw[h1]) cpq
  ·rw[if_neg h1];by_cases h2:(c-1)/2=p
   ·rw[if_pos h2];exact h.e2 c hp0 c0 cl h2
   ·rw[if_neg h2];exact h.e1 c c0 cl h1 h2
 ·rw[QeW]at cl;have hg:((p-1)/2-1)/2≠(p-1)/2:=by omega
  have hg2:((p-1)/2-1)/2≠p:=by omega
  have e0:leK K (at' O (((p-1)/2-1)/2)) (at' O ((p-1)/2)):=h.e1 ((p-1)/2) q0 hq hqp (by omega);rw[hsw,hsw,if_neg hg,if_neg hg2];by_cases h1:c=(p-1)/2
  ·omega
  ·rw[if_neg h1];by_cases h2:c=p
   ·rw[if_pos h2];exact e0
   ·rw[if_neg h2];have:=h.e1 c c0 cl h2 (by omega);rw[cpq]at this;exact QgW e0 this
structure PreD (K O:List Int) (p:Nat):Prop where
 pre:Pre K O p
 top:0<p->leK K (at' O ((p-1)/2)) (at' O p)
theorem PreD.done{K O:List Int}{p:Nat}(h:PreD K O p)(hk:∀c,0<c->c<O.length->(c-1)/2=p->leK K (at' O p) (at' O c)):HO K O:=by
 intro c c0 cl;by_cases h1:c=p
 ·subst h1;exact h.top c0
 ·by_cases h2:(c-1)/2=p
  ·rw[h2];exact hk c c0 cl h2
  ·exact h.pre.e1 c c0 cl h1 h2
theorem PreD.down{K O:List Int}{p q:Nat}(h:PreD K O p)(hp:p<O.length)(hq:q<O.length)(q0:0<q)(hqp:(q-1)/2=p)(hlt:ltK K (at' O q) (at' O p))(hle:∀c,0<c->c<O.length->(c-1)/2=p->leK K (at' O q) (at' O c)):PreD K (swp O p q) q:=by
 have hsw:=QkD hp hq;have hne:p≠q:=by omega
 refine⟨⟨λc c0 cl cq cpq=> ?_,λc _ c0 cl cpq=> ?_⟩,λ_=> ?_⟩
 ·rw[QeW]at cl;rw[hsw,hsw,if_neg cpq,if_neg cq];by_cases h1:c=p
  ·subst h1;rw[if_neg (by omega),if_pos rfl];exact h.pre.e2 q c0 q0 hq hqp
  ·rw[if_neg h1];by_cases h2:(c-1)/2=p
   ·rw[if_pos h2];exact hle c c0 cl h2
   ·rw[if_neg h2];exact h.pre.e1 c c0 cl h1 h2
 ·rw[QeW]at cl;rw[hsw,hsw,hqp,if_neg hne,if_pos rfl,if_neg (by omega),if_neg (by omega)];have:=h.pre.e1 c c0 cl (by omega) (by omega);rw[cpq]at this;exact this
 ·rw[hsw,hsw,hqp,if_neg hne,if_pos rfl,if_pos rfl];exact QAz hlt
theorem QaW{P:Program}{f:Nat}{fn:Func}{af:AF}{args:List AV}{h:Hp}{R:AV->Hp->Prop}(hm:P.follows .mixedOrders=true)(hf:P.funcs[f]? =some fn)(hc:QaC P fn=some af)(hl:args.length<=af.nt)
 (hv:∀Λ:Len,(∀l,Λ l=(l.length:Int))->∀K:AV->Hp->Prop,(∀r h',R r h'->K r h')->vcH P Λ af args h K):FnS P f args h R:=QpA hm hf hc hl λΛ h=>hv Λ h _ λ_ _ h=>h
abbrev hpH (vo n m:Nat) (ro:Bool) (ks ps es:List (List D)):Hp:=[.bx [.arr 1 0 0 n,.arr 2 0 0 n,.arr 3 vo 0 m],.da true 0 1 ks,.da true 0 1 ps,.da ro vo 1 es]
def Qav(x:Tab):List D:=[iD x.node,Qfa x.to,Qax x.down]
abbrev QoW (t:Top):Blk:= .bx [.d (iD t.nodes),.d (Qaf t.ov),.d (Qak t.links)]
abbrev QBr:List CV:=[.ptr 5 0 0 0,.ptr 6 0 0 0,.ptr 3 0 0 0,.ptr 1 0 0 0,.ptr 2 0 0 0,.ptr 7 0 0 0]
abbrev Qhv:List AV:=[.c (.ptr 5 0 0 0),.c (.ptr 6 0 0 0),.c (.ptr 3 0 0 0),.c (.ptr 1 0 0 0),.c (.ptr 2 0 0 0),.c (.ptr 7 0 0 0)]
abbrev HS (t:Top) (xs:List Tab) (m:Ar) (d:D) (v:Nat) (es:List (DV×DV)) (lo:Bool):Hp:=
 [.am m,QoW t,.bx [.d (.list false 3 (xs.map Qav))],.bx [.d d],.mp v es,.bx [.mp 4],.bx [.d (.bool lo)],.bx [.fn false QaL QBr]]
abbrev msE (K:Kn WSt) (al:List Nat):List (DV×DV):=(msS K al).map QiR
structure NmOK (s:WSt):Prop where
 (n:In64 s.1) (l:s.2.length<=1000) (i:InS s.2)
theorem Qql(P:Program)(hP:P=Tryz.prog)(t:Top)(xs:List Tab)(p:Pkt)(g:Wlk)(m:Ar)(d:D)(v:Nat)(K:Kn WSt)(al:List Nat)(S:Nat->Prop)(s:WSt)(hp:Int)(hT:Qbt m)(hs:NmOK s)(hI:PI g m K al S d)
 (hnd:(K.map (·.1)).Nodup)(c:Option Int)(hk:lkK K s=some c):
  FnS P QaL ([iA s.1,Qcr {p with stack:=s.2,hops:=hp}]++Qhv) (HS t xs m d v (msE K al) false) λr h'=>∃a tl,r= .c (.d (.adr a 0))/\h'=HS t xs m d v (msE K al) c.isNone++tl/\Qny K al s a:=by
 have hpl:∀(j b:Nat) (c':Option Int),K[j]? =some (s,c')->al[j]? =some b->∃N xs,m b=some (.cs N xs)/\xs[4]? =some (.bool c.isNone):=by
  intro j b c' h1 h2;rw[Qle hnd h1]at hk;obtain rfl:c'=c:=osj hk;cases c' with
  |some k=>
   obtain⟨N,nx,ads,h3,_⟩:=(hI.pl j s k b h1 h2).ex;exact⟨N,_,h3,rfl⟩
  |none=>
   obtain⟨⟨N,xs,n,h3,_,h4,_⟩,_⟩:=hI.op j s b h1 h2;exact⟨N,xs,h3,h4⟩
 have hadr:∀(j b:Nat) (c':Option Int),K[j]? =some (s,c')->al[j]? =some b->Qny K al s b:=λj b c' h1 h2=>⟨j,by rw[gtm,h1];rfl,h2⟩
 obtain⟨n,st⟩:=s;have hnm:=QtZ P hP m hT n st hs.n hs.l hs.i;have hlk:=λ(v:DV) (i:Nat)=> @Qq1 K al (n,st) i v
 have hno:= @Qv8 K al hI.len (n,st);refine QaW (hP▸mixed) (hP▸Qcj) (hP▸Qfe) (nle rfl) λΛ Λo Q hQ=> ?_
 clear hP;have fin:∀a tl lo,lo=c.isNone->Qny K al (n,st) a->Q (.c (.d (.adr a 0))) (HS t xs m d v (msE K al) lo++tl):=λa tl lo h1 h2=>hQ _ _ ⟨a,tl,rfl,by rw[h1],h2⟩
 clear hQ;obtain⟨id,src,dst,flow,st0,hops⟩:=p;obtain⟨nodes,ov,links⟩:=t;simp only[HS,QoW,msE,Qcr,Qhv,QcI,QaZ,Qaf,Qak,QvW]at*;generalize hkey:nameS n (List.map pr2 st)=key at*;generalize hesh:msS K al=ms at*;generalize hese:ms.map QiR=es at*;generalize List.map Qaj st=sl at*;generalize xs.map Qav=xl at*;generalize ov.map QaY=ol at*;generalize links.map Qaz=ll at*;generalize c.isNone=ci at*
 conv=>cbv
 repeat' first|(left;intro(_:Unit);(conv=>cbv))|(refine QaH [0] hnm ?_;rintro r hc' ⟨rfl,rfl⟩;(conv=>cbv))|(refine Qnw hese (λh0=>absurd (hno h0) (by rw[hk];simp)) (λi v hv=> ?_);obtain⟨c',b,hK,hal,rfl⟩:=hlk v i hv;obtain⟨N,ys,hm1,hm2⟩:=hpl i b c' hK hal;have hra:=hadr i b c' hK hal;(conv=>cbv))|(refine⟨N,ys,_,hm1,hm2,?_⟩;(conv=>cbv))|exact gxQ|refine And.intro ?_ ?_|(intro hc;(first|rw[wS (by omega) (by omega)]at hc|rw[Qab]at hc|skip);try (conv=>cbv))
 exact fin _ [_] _ rfl hra
abbrev Qcy (xs:List Tab):AV:= .c (.d (.list false 3 (xs.map Qav)))
def Compl(t:Top)(xs:List Tab):Prop:=Qam t=true/\(xs.length:Int)=t.nodes/\∀(i:Nat) (x:Tab),xs[i]? =some x->x.node=i/\Qhq t x=true
def Qf4(t:Top)(xs:List Tab):Bool:=Qam t&&decide ((xs.length:Int)=t.nodes)&&(List.range xs.length).all λi=>match xs[i]? with
 |some x=>decide (x.node=i)&&Qhq t x
 |none=>false
theorem Qbk{t:Top}{xs:List Tab}:Qf4 t xs=true↔Compl t xs:=by
 simp only[Qf4,Compl,Bool.and_eq_true,decide_eq_true_eq,List.all_eq_true,List.mem_range,and_assoc];refine and_congr_right λ_=>and_congr_right λ_=>⟨λh i x hx=> ?_,λh i hi=> ?_⟩
 ·have:=h i (Qaa hx);rw[hx]at this;simpa using this
 ·have hx:xs[i]? =some (xs[i]'hi):=lgE hi;have:=h i _ hx;rw[hx];simpa using this
def QaO(t:Top)(xs:List Tab)(from_:Int):Int:=if Qf4 t xs=true then (if 0<=from_/\from_<t.nodes then 0 else 2)else 1
theorem QuZ(P:Program)(hP:P=Tryz.prog)(t:Top)(xs:List Tab)(from_:Int):Ret P Qih [QaF t,Qcy xs,iA from_] (iA (QaO t xs from_)):=by
  refine Qah (hP▸mixed) (hP▸Qm2) (hP▸Qn2) (nle rfl) λΛ Λo K hK=> ?_
  have hw:=QoX P hP t;have hn:=QgU P hP t from_;have hp:=λx=>Qhm P hP t x
  clear hP;have k0:Compl t xs->(0<=from_/\from_<t.nodes)->K (iA 0):=λh h2=>by
    rw[QaO,if_pos (Qbk.2 h),if_pos h2]at hK;exact hK
  have k2:Compl t xs->¬(0<=from_/\from_<t.nodes)->K (iA 2):=λh h2=>by
    rw[QaO,if_pos (Qbk.2 h),if_neg h2]at hK;exact hK
  have k1:¬Compl t xs->K (iA 1):=λh=>by
    rw[QaO,if_neg λe=>h (Qbk.1 e)]at hK;exact hK
  clear hK;unfold Compl at k0 k1 k2;simp only[Qjc,Qcy,Qfa,Qax]at*;generalize Qhq t=tb at*;generalize Qam t=v at*;generalize elh:List.map Qav xs=el at*;have eln:Λ el=xs.length:=by rw[Λo,<-elh];simp
  obtain⟨nodes,ov,links⟩:=t;simp only[QaF,Qaf,Qak]at*;generalize hol:ov.map QaY=ol at*;generalize hll:links.map Qaz=ll at*;have hlo:Λ ol=ov.length:=by rw[Λo,<-hol];simp
  have hls:Λ ll=links.length:=by rw[Λo,<-hll];simp
  conv=>cbv
  repeat' first|refine Qaw hw rfl rfl ?_ ?_|(left;intro(_:Unit);(conv=>cbv))|exact gxQ|refine And.intro ?_ ?_|(intro hc;(first|rw[wS (by omega) (by omega)]at hc|rw[Qab]at hc|skip);try (conv=>cbv))
  all_goals try simp only[decide_eq_true_eq,decide_eq_false_iff_not]at*
  all_goals try (refine k1 λh=> ?_;obtain⟨h1,h2,_⟩:=h;first|omega|(rw[h1]at hc;cases hc;done))
  refine Qbs xs.length (λ(i:Int)=>[(2,iA from_),(3,.c (.ptr 0 0 0 0)),(19,.c (.d (.list false 3 el))),(20,iA (Λ el)),(21,iA i)]) (λ_=>[.bx [.d (.int .i64 nodes),.d (.list false 1 ol),.d (.list false 7 ll)]]) (λk i=>i=k/\k<=xs.length/\∀(j:Nat) (x:Tab),j<k->xs[j]? =some x->x.node=j/\tb x=true) 0
    0 (λ(_:Unit)=>[(2,iA from_),(3,.c (.ptr 0 0 0 0))]) (λ_=>[.bx [.d (.int .i64 nodes),.d (.list false 1 ol),.d (.list false 7 ll)]]) (λ_=>∀(j:Nat) (x:Tab),xs[j]? =some x->x.node=j/\tb x=true) (Wk.cw) ⟨rfl,by omega,by simp⟩ (λk s h=>h.2.1) ?_ ?_
  · rintro k i Q' ⟨hi,hk,hok⟩ norm jn ex rt
    by_cases hlt:k<xs.length
    · obtain⟨x,hx⟩:∃x,xs[k]? =some x:=⟨_,lgE hlt⟩
      have hxa:=QdS elh hi hx;obtain⟨xn,xto,xdn⟩:=x;have hpx:=hp ⟨xn,xto,xdn⟩;simp only[Qav,Qfa,Qax]at hxa hpx;generalize List.map Qay xto=al at*;generalize List.map Qar xdn=pl at*
      conv=>cbv
      repeat' first|(refine rt _ _ ?_;(conv=>cbv))|refine Qaw hpx rfl rfl ?_ ?_|(intro e he;cases osj (he.symm.trans hxa);(conv=>cbv))|(left;intro(_:Unit);(conv=>cbv))|exact gxQ|refine And.intro ?_ ?_|(intro hc;(first|rw[wS (by omega) (by omega)]at hc|rw[Qab]at hc|skip);try (conv=>cbv))
      all_goals try simp only[decide_eq_true_eq,decide_eq_false_iff_not]at*
      all_goals first
        |(refine norm _ _ _ ?_ (Wk.ca)
          refine⟨by omega,by omega,λj e hj he=> ?_⟩;rcases Nat.lt_or_ge j k with h|h
          · exact hok j e h he
          · obtain rfl:j=k:=by omega
            rw[hx]at he;cases he;exact⟨by simp only;omega,by assumption⟩)
        |(refine k1 λh=> ?_
          have:=h.2.2 k _ hx
          first|(have h2:=this.1;simp only at h2;omega)|(rw[hc]at this;cases this.2;done)|skip)
      all_goals trace_state
    · conv=>cbv
      repeat' first|exact gxQ|refine And.intro ?_ ?_|(intro hc;(first|rw[wS (by omega) (by omega)]at hc|rw[Qab]at hc|skip);try (conv=>cbv))
      refine jn _ _ () (λj e he=>hok j e (by have:=Qaa he;omega) he) ?_;exact(Wk.ca)
  · rintro _ hall
    conv=>cbv
    repeat' first|refine Qaw hn rfl rfl ?_ ?_|exact gxQ|refine And.intro ?_ ?_|(intro hc;(first|rw[wS (by omega) (by omega)]at hc|rw[Qab]at hc|skip);try (conv=>cbv))
    all_goals try simp only[decide_eq_true_eq,decide_eq_false_iff_not]at*
    · exact k0 ⟨by assumption,by omega,hall⟩ (by assumption)
    · exact k2 ⟨by assumption,by omega,hall⟩ (by assumption)
structure Rsl where
 node:Int
 rs:Int
 path:List Int
 deriving DecidableEq
def Qfg(r:Rsl):List D:=[iD r.node,iD r.rs,Qax r.path]
abbrev Qzw (l:List Rsl):D:= .list false 3 (l.map Qfg)
end Go.Ab
