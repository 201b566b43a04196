/-
  Merged texts, part r.
-/
import Derived.Test.YtohbofilgkdihaaDoorZq
import Derived.Calls
set_option linter.all false
namespace Go.Ab
def Up(w w':World):Prop:=w'.tape=w.tape/\w.drawn<=w'.drawn
theorem Up.refl(w:World):Up w w:=⟨rfl,Nat.le_refl _⟩
theorem Up.trans{w w1 w2:World}(h:Up w w1)(h':Up w1 w2):Up w w2:=⟨h'.1.trans h.1,Nat.le_trans h.2 h'.2⟩
theorem Up.heap{w w1:World}(h:Up w w1)(hp:Array Obj):Up w {w1 with heap:=hp}:=h
theorem Up.os{w w1:World}(h:Up w w1)(os:Os):Up w {w1 with os:=os}:=h
def RUp{α:Type}(w0:World):Result α->Prop
 | .ok _ w=>Up w0 w
 | .halt _ w=>Up w0 w
theorem QnE{p:Program}{w:World}{at_:Addr}{u:TypeId}{a:Addr}{v:Value}{b:Bool}{w':World}{l:List Addr}
 (h:w.viewStore p at_ u a v b= .ok (w',l)):Up w w':=by
 unfold World.viewStore at h;simp only[bind,Except.bind,pure,Except.pure]at h
 repeat' split at h
 all_goals first
  |(cases h;done)
  |(injection h with h;injection h with h1 h2;subst h1;exact⟨rfl,Nat.le_refl _⟩)
theorem QxN{α:Type}(k:Ask α):∀w:World,Up w (w.ask k).2:=by
 induction k with
 |done a=>exact fun w=>Up.refl w
 |ask what range k ih=>
  intro w;simp only[World.ask];split
  ·exact ih _ _
  ·exact Up.trans (w1:={w with drawn:=w.drawn+1}) ⟨rfl,Nat.le_succ _⟩ (ih _ _)
theorem QvJ(w:World)(c:Sys):Up w (w.sys c).2:=by
 have h:=QxN (Kernel.perform c w.os) w;unfold World.sys;split
 ·exact Up.refl w
 ·next r os w1 _ e=>rw[e]at h;exact h
theorem QvF{α:Type}(p:Program)(s:Sem α):∀w0 w:World,Up w0 w->RUp w0 (s.run p w):=by
 induction s with
 |pure a=>exact fun _ _ h=>h
 |load m a k ih=>
  intro w0 w h;simp only[Sem.run];split
  ·exact ih _ _ _ h
  ·split
   ·exact ih _ _ _ h
   ·exact h
 |store m a v k ih=>
  intro w0 w h;cases v<;>simp only[Sem.run]<;>first|exact h|skip
  all_goals
   split
   ·split
    ·exact h
    ·exact ih _ _ h
   ·split
    ·next w1 _ e=>
     refine ih _ _ (h.trans ?_);unfold World.farStore at e;split at e
     ·split at e
      ·next r e2=>injection e with e;subst e;exact QnE e2
      ·cases e
     ·cases e
    ·exact h
 |new o k ih=>exact fun _ _ h=>ih _ _ _ h
 |shape r k ih=>exact fun _ _ h=>ih _ _ _ h
 |freeze a n k ih=>
  intro w0 w h;simp only[Sem.run];refine ih _ _ (h.trans ?_);unfold World.freeze;split<;>exact⟨rfl,Nat.le_refl _⟩
 |frozen a k ih=>exact fun _ _ h=>ih _ _ _ h
 |getObj r k ih=>
  intro w0 w h;simp only[Sem.run];split
  ·exact h
  ·exact ih _ _ _ h
  ·exact h
 |setObj r o k ih=>
  intro w0 w h;simp only[Sem.run];split
  ·exact h
  ·exact ih _ _ h
  ·exact h
 |choose q k ih=>
  intro w0 w h;simp only[Sem.run];split
  ·exact ih _ _ _ h
  ·exact ih _ _ _ (h.trans (w1:=w) (w2:={w with drawn:=w.drawn+1}) ⟨rfl,Nat.le_succ _⟩)
 |sys c k ih=>
  intro w0 w h;simp only[Sem.run];exact ih _ _ _ (h.trans (QvJ w c))
 |program k ih=>exact fun _ _ h=>ih _ _ _ h
 |mark m k ih=>exact fun _ _ h=>ih _ _ h
 |halt x=>exact fun _ _ h=>h
theorem Qca{α:Type}{p:Program}{s:Sem α}{w0 w w1:World}{a:α}(h:Up w0 w)(e:s.run p w= .ok a w1):Up w0 w1:=by
 have:=QvF p s w0 w h;rw[e]at this;exact this
theorem Qbq{α:Type}{p:Program}{s:Sem α}{w0 w w1:World}{a:Halt}(h:Up w0 w)(e:s.run p w= .halt a w1):Up w0 w1:=by
 have:=QvF p s w0 w h;rw[e]at this;exact this
def gw:GStep->World
 | .go _ w _=>w
 | .comm _ _ _ _ w _=>w
 | .spawn _ _ w _=>w
 | .count _ w _=>w
 | .timer _ _ w _=>w
 | .alone _ _ w _=>w
 | .newcoro _ _ _ w _=>w
 | .coroswitch _ _ _ w _=>w
 | .collect _ w _=>w
 | .watch _ w _=>w
 | .ended _ w _=>w
def GUp(w0:World)(s:GStep):Prop:=Up w0 (gw s)
theorem GUp.after{w0:World}{es:Array Event}{s:GStep}(h:GUp w0 s):GUp w0 (GStep.after es s):=by
 cases s<;>exact h
theorem QfX{p:Program}{main:Bool}{fr:Frame}{cs:List Frame}{d:Option Dying}{v:Value}{w0 w:World}(h:Up w0 w):
  GUp w0 (doReturn p main fr cs d v w):=by
 unfold doReturn
 repeat' split
 all_goals exact h
theorem Qfz{p:Program}{fr:Frame}{v:Value}{w0 w:World}(h:Up w0 w):GUp w0 (endPrinting p fr v w):=by
 unfold endPrinting;simp only[]
 repeat' split
 all_goals exact h
theorem Qqg{w0 w:World}{fd:Nat}{text:ByteArray}{o:Outcome}(h:Up w0 w):GUp w0 (endWith w fd text o):=by
 unfold endWith;have hs:=h.trans (QvJ w (.write fd text));simp only[];generalize w.sys (.write fd text)=r at hs;obtain⟨r,w1⟩:=r;cases r<;>simp only[]<;>repeat' split
 all_goals exact hs
theorem QiW{p:Program}{fr:Frame}{cs:List Frame}{d:Option Dying}{m:String}{w0 w:World}(h:Up w0 w):GUp w0 (endFatal p fr cs d m w):=by
 unfold endFatal
 lift_lets
 intros
 split
 all_goals first
  |exact Qca h (by assumption)
  |exact Qbq h (by assumption)
theorem Qq6{p:Program}{fr:Frame}{d:Dying}{f:Fatal}{w0 w:World}(h:Up w0 w):GUp w0 (writeOn p fr d f w):=by
 unfold writeOn;simp only[Sem.runT_eq];split
 ·exact h
 ·split
  all_goals
   next e=>
    injection e with e _
    first
     |exact Qca h e
     |exact Qbq h e
theorem Qx9{p:Program}{fr:Frame}{d:Dying}{w0 w:World}(h:Up w0 w):GUp w0 (die p fr d w):=by
 unfold die;simp only[Sem.runT_eq];split
 ·exact Qq6 h
 ·split
  ·split
   ·exact h
   ·exact Qqg h
  ·split
   ·exact h
   ·split
    all_goals first
     |exact Qca h (by assumption)
     |exact Qbq h (by assumption)
   ·refine GUp.after ?_;split
    all_goals first
     |exact Qca h (by assumption)
     |exact Qbq h (by assumption)
     |exact Qfz (Qbq h (by assumption))
     |skip
    exact h
   ·exact h
theorem QiM{p:Program}{fr:Frame}{cs:List Frame}{dy:Option Dying}{d:Deferred}{w0 w:World}(h:Up w0 w):
  GUp w0 (callDeferred p fr cs dy d w):=by
 unfold callDeferred;simp only[Sem.runT_eq];refine iteInduction (motive:=GUp w0) (fun _=>h) (fun _=>GUp.after ?_);split
 all_goals first
  |exact Qca h (by assumption)
  |exact Qbq h (by assumption)
  |exact QiW (Qbq h (by assumption))
  |skip
 split
 all_goals exact Qca h (by assumption)
theorem Qs4{p:Program}{main:Bool}{fr:Frame}{cs:List Frame}{dy:Option Dying}{w0 w:World}(h:Up w0 w):
  GUp w0 (unwind p main fr cs dy w):=by
 unfold unwind;simp only[Sem.runT_eq];split
 ·refine GUp.after ?_;split
  all_goals first
   |exact Qca h (by assumption)
   |exact Qbq h (by assumption)
 ·exact QiM h
 ·split
  ·exact h
  ·split
   ·exact h
   ·split
    ·exact h
    ·split
     ·split
      ·exact h
      ·split
       all_goals first
        |exact Qca h (by assumption)
        |exact Qbq h (by assumption)
     ·split
      ·exact Qfz h
      ·exact h
  ·split
   ·exact QfX h
   ·refine GUp.after ?_;split
    all_goals first
     |exact QfX (Qca h (by assumption))
     |exact Qbq h (by assumption)
theorem QtP{p:Program}{fr:Frame}{cs:List Frame}{dy:Option Dying}{g:Nat}{w0 w:World}(h:Up w0 w):
  GUp w0 (early p fr cs dy g w):=by
 have h1:∀w,Up w0 w->GUp w0 (match w.heap[g]? with
  |some (.pending c elem)=> .go {frame:=fr,callers:=cs,status:= .running,dying:=dy} {w with heap:=w.heap.setIfInBounds g (.cells c elem)}
  |_=> .ended (.stuck "early: the variable does not wait" (fr.pos p)) w):=by
  intro w h;split<;>exact h
 unfold early;simp only[];refine iteInduction (motive:=GUp w0) (fun _=>h1 w h) (fun _=> ?_);split
 ·exact h
 ·refine iteInduction (motive:=GUp w0) (fun _=>h1 w h) (fun _=> ?_);refine iteInduction (motive:=GUp w0) (fun _=>h1 w h) (fun _=> ?_);split
  ·exact h
  ·exact h
  ·exact h
  ·exact h1 w h
  ·refine iteInduction (motive:=GUp w0) (fun _=>h) (fun _=> ?_);refine iteInduction (motive:=GUp w0) (fun _=>h1 w h) (fun _=> ?_);split
   ·exact h1 _ (Qca h (by assumption))
   ·exact Qca h (by assumption)
   ·exact Qbq h (by assumption)
theorem Qic{p:Program}{b:Bool}{fr:Frame}{cs:List Frame}{dy:Option Dying}{s:Sem Next}{w0 w:World}(h:Up w0 w):
  GUp w0 (stepG.apply p b fr cs dy s w):=by
 unfold stepG.apply;simp only[Sem.runT_eq];refine GUp.after ?_;have hr:(if b=true then (s.run p w,s.events p w #[])else (s.run p w,#[])).1=s.run p w:=by split<;>rfl
 rw[hr];split
 all_goals first
  |exact Qca h (by assumption)
  |exact Qbq h (by assumption)
  |exact QiW (Qbq h (by assumption))
  |exact QtP (Qbq h (by assumption))
  |skip
 all_goals
  have hw:=Qca h (by assumption)
  first
   |(refine iteInduction (motive:=GUp w0) (fun _=>hw) (fun _=> ?_);exact hw)
   |(split<;>exact hw)
theorem QwJ{p:Program}{b:Bool}{fr:Frame}{cs:List Frame}{dy:Option Dying}{w0 w:World}(h:Up w0 w):
  GUp w0 (stepG.oper p b fr cs dy w):=by
 unfold stepG.oper;split
 ·exact h
 ·split<;>exact Qic h
theorem Qwg{p:Program}{main b:Bool}{fr:Frame}{cs:List Frame}{dy:Option Dying}{w0 w:World}(h:Up w0 w):
  GUp w0 (stepG.exec p main b fr cs dy w):=by
 have hl:∀(c:Prop) [Decidable c] (jump:Option Code),GUp w0 (match fr.roundOf with
   |none=>if c then .go {frame:={fr with mode:= .returning},callers:=cs,status:= .running,dying:=dy} w else .ended (.stuck "exit, goto: no such block or label" (fr.pos p)) w
   |some l=>
    GStep.after (seen p fr.fn ((Instr.endRound l jump).events p w #[])) <| match (Instr.endRound l jump).run p w with
    | .ok v w=>doReturn p main fr cs dy v w
    |.halt _ w=> .ended (.stuck "range over a function: no such loop" (fr.pos p)) w):=by
  intro c _ jump;split
  ·refine iteInduction (motive:=GUp w0) (fun _=>h) (fun _=>h)
  ·refine GUp.after ?_;split
   ·exact QfX (Qca h (by assumption))
   ·exact Qbq h (by assumption)
 unfold stepG.exec;simp only[Sem.runT_eq];split
 all_goals first
  |exact h
  |exact hl _ _
  |exact Qic h
  |skip
 ·split<;>exact h
 ·cases exitTo _ _ with
  |none=>exact hl _ _
  |some k=>exact h
 ·cases gotoIn _ _ with
  |none=>exact hl _ _
  |some k=>exact h
 ·refine GUp.after ?_;split
  ·exact Qic (Qca h (by assumption))
  ·exact Qbq h (by assumption)
 ·refine GUp.after ?_;split
  ·exact Qca h (by assumption)
  ·exact Qbq h (by assumption)
  ·exact Qbq h (by assumption)
 ·cases Extern.next _ with
  |none=>exact h
  |some e=>exact Qic h
 ·refine iteInduction (motive:=GUp w0) (fun _=>h) (fun _=> ?_);split
  ·exact Qca h (by assumption)
  ·exact Qbq h (by assumption)
 ·refine iteInduction (motive:=GUp w0) (fun _=>QwJ h) (fun _=>h)
theorem QuW{p:Program}{main b:Bool}{g:Goroutine}{w0 w:World}(h:Up w0 w):GUp w0 (stepG p main g w b):=by
 unfold stepG;split;split
 ·exact Qx9 h
 ·exact Qwg h
 ·exact Qs4 h
def SUp(w0:World):Stepped->Prop
 | .next m=>Up w0 m.world
 | .ended _ _=>True
theorem Qj4{p:Program}{rest:Rest}{gs:Array Goroutine}{i:Nat}{g:Goroutine}{cases:Array CommCase}{bl:Bool}{shape:CommShape}{w0 w:World}(h:Up w0 w):
  SUp w0 (communicate p rest gs i g cases bl shape w).1:=by
 unfold communicate;simp only[];refine iteInduction (motive:=fun x:Stepped×Array MemOp=>SUp w0 x.1) (fun _=>trivial) (fun _=> ?_);refine iteInduction (motive:=fun x:Stepped×Array MemOp=>SUp w0 x.1) (fun _=> ?_) (fun _=> ?_)
 ·refine iteInduction (motive:=fun x:Stepped×Array MemOp=>SUp w0 x.1) (fun _=> ?_) (fun _=>h);split
  ·next e=>
   unfold waitingAt at e
   repeat' split at e
   all_goals first
    |(cases e;done)
    |(injection e with e;subst e;exact h)
  ·trivial
 ·split
  ·trivial
  ·have hw:=Qca h (by assumption);split
   ·split
    ·exact Qbq hw (by assumption)
    ·trivial
   ·exact hw
   ·exact hw
   ·split
    ·exact hw
    ·split
     ·have hv:=Qca hw (by assumption);exact hv
     ·trivial
   ·exact hw
   ·exact hw
   ·trivial
theorem Qsf{p:Program}{gs:Array Goroutine}{rest:Rest}{w0 w:World}(h:Up w0 w):SUp w0 (look p gs rest w):=by
 unfold look;simp only[];split
 ·refine iteInduction (motive:=SUp w0) (fun _=>trivial) (fun _=> ?_);split
  ·trivial
  ·split
   ·have hv:=Qca h (by assumption);exact hv
   ·trivial
   ·trivial
 ·trivial
theorem QqV{m:Machine}{op:TimerOp}{v:Value}{m':Machine}{w0:World}(h:Up w0 m.world)(e:timerOp m op= .ok (v,m')):Up w0 m'.world:=by
 have hd:∀w c,Up w0 w->Up w0 (drain w c).2:=by
  intro w c h;unfold drain;split<;>exact h
 have hre:∀(m:Machine) k t a b,Up w0 m.world->Up w0 (retime m k t a b).2.world:=by
  intro m k t a b h;unfold retime;split
  next had w1 e=>
  split at e
  ·next c _=>
   have:=hd m.world c h;rw[e]at this;exact this
  ·injection e with _ e;subst e;exact h
 have hn:∀m var f v m',(∀k t,Up w0 (f k t).2.world)->timerOp.named m var f= .ok (v,m')->Up w0 m'.world:=by
  intro m var f v m' hf e;unfold timerOp.named at e;split at e
  ·next k _=>
   injection e with e;have:=hf k (m.rest.timers.getD k default);rw[e]at this;exact this
  ·cases e
 unfold timerOp at e;split at e
 ·split at e
  ·injection e with e;injection e with _ e;subst e;exact h
  ·split at e
   ·split at e
    ·cases e
    ·injection e with e;injection e with _ e;subst e;exact h
   ·cases e
 ·exact hn _ _ _ _ _ (fun k t=>hre m k t _ _ h) e
 ·split at e
  ·next m1 e1=>
   refine hn _ _ _ _ _ (fun k t=>hre m1 k t _ _ ?_) e;unfold timerOp.opened at e1
   repeat' split at e1
   all_goals first
    |(cases e1;done)
    |(injection e1 with e1;subst e1;exact h)
  ·cases e
 ·injection e with e;injection e with _ e;subst e;exact h
theorem QuP{p:Program}{m:Machine}{k:Nat}{w0:World}(h:Up w0 m.world):SUp w0 (serve p m k):=by
 unfold serve;split
 ·trivial
 ·exact h
 ·simp only[];split
  ·trivial
  ·exact h
theorem Qw4{p:Program}{m:Machine}{i:Nat}{b:Bool}{w0:World}(h:Up w0 m.world):SUp w0 (runT p m i b).1:=by
 unfold runT;simp only[];have hs:GUp w0 (stepG p (i==0) (m.gs.swapAt! i {(default:Goroutine)with status:= .finished}).1 m.world b):=QuW h;generalize stepG p (i==0) (m.gs.swapAt! i {(default:Goroutine)with status:= .finished}).1 m.world b=s at hs;cases s with
 |go g w es=>exact hs
 |comm g cases bl shape w es=>exact Qj4 hs
 |spawn g c w es=>exact hs
 |count g w es=>
  simp only[];exact iteInduction (motive:=fun x:Stepped=>SUp w0 x) (fun _=>trivial) (fun _=>hs)
 |timer g op w es=>
  simp only[];split
  ·next e=>
   have ht:=QqV (w0:=w0) (m:=Machine.mk w _ _) hs e;exact ht
  ·exact hs
  ·trivial
  ·trivial
 |alone g on w es=>exact hs
 |newcoro g c d w es=>exact hs
 |coroswitch g c ex w es=>
  simp only[];split
  ·exact hs
  ·exact hs
  ·trivial
 |collect g w es=>exact Qsf hs
 |watch g w es=>exact hs
 |ended o w es=>trivial
def MUp(w0:World):Move->Prop
 | .goroutine m _=>Up w0 m.world
 | .machine s _=>SUp w0 s
theorem QxL{m:Machine}{w0:World}(h:Up w0 m.world)(t:Nat):Up w0 (m.advanceTo t).world:=h
theorem Qk9{p:Program}{m:Machine}{w0:World}(h:Up w0 m.world):MUp w0 (askOn p m):=by
 unfold askOn;simp only[];split
 ·trivial
 ·have hw:=Qca h (by assumption);refine iteInduction (motive:=MUp w0) (fun _=>QuP hw) (fun _=> ?_);split
  ·split
   ·exact hw
   ·refine iteInduction (motive:=MUp w0) (fun _=>hw) (fun _=> ?_);split<;>trivial
  ·split
   ·split
    ·trivial
    ·have hv:=Qca hw (by assumption);refine iteInduction (motive:=MUp w0) (fun _=>hv) (fun _=> ?_);split
     ·trivial
     ·have hu:=Qca hv (by assumption);exact hu
   ·split
    ·trivial
    ·have hx:=Qca hw (by assumption);split
     ·trivial
     ·have hv:=Qca hx (by assumption);refine iteInduction (motive:=MUp w0) (fun _=>hv) (fun _=> ?_);split
      ·trivial
      ·have hu:=Qca hv (by assumption);exact hu
    ·have hx:=Qca hw (by assumption);exact hx
    ·have hx:=Qca hw (by assumption);split
     ·trivial
     ·rename_i e;have hv:=Qca (QxL (m:={world:=_,gs:=m.gs,rest:=m.rest}) hx _) e;refine iteInduction (motive:=MUp w0) (fun _=>hv) (fun _=> ?_);split
      ·trivial
      ·have hu:=Qca hv (by assumption);exact hu
theorem Qro{p:Program}{m:Machine}{w0:World}(h:Up w0 m.world):MUp w0 (ask p m):=by
 unfold ask;split
 ·split
  ·trivial
  ·have hw:=Qca h (by assumption);have hk:=Qsf (p:=p) (gs:=m.gs) (rest:=m.rest) hw;split
   ·next e=>rw[e]at hk;exact Qk9 hk
   ·exact hk
  ·have hw:=Qca h (by assumption);exact Qk9 hw
 ·exact Qk9 h
theorem QwF{p:Program}{m:Machine}{w0:World}(h:Up w0 m.world):MUp w0 (move p m):=by
 unfold move;split
 ·split
  ·exact h
  ·trivial
 ·split
  ·split
   ·exact h
   ·exact Qro h
  ·exact Qro h
theorem Qxd{p:Program}{m:Machine}{w0:World}(h:Up w0 m.world):SUp w0 (step p m):=by
 unfold step stepT;have hm:=QwF (p:=p) h;split
 ·next e=>rw[e]at hm;exact Qw4 hm
 ·next e=>rw[e]at hm;exact hm
theorem Qw3{p:Program}{w0:World}(n:Nat):∀m:Machine,Up w0 m.world->SUp w0 (runN p n m):=by
 induction n with
 |zero=>exact fun _ h=>h
 |succ n ih=>
  intro m h;have hs:=Qxd (p:=p) h;rw[runN];split
  ·next e=>rw[e]at hs;exact ih _ hs
  ·exact hs
theorem QuX{p:Program}{m m':Machine}(h:Steps p m m'):Up m.world m'.world:=by
 obtain⟨n,hn⟩:=h;have:=Qw3 (p:=p) n m (Up.refl _);rw[hn]at this;exact this
theorem QtG{P:Program}{f:FuncId}{args:Array Value}{w:World}{R:Ending->World->Prop}(h:Calls P f args w R):
  Calls P f args w fun e w'=>R e w'/\∀v,e= .returned v->Up w w':=by
 intro cs;obtain⟨e,w',fr,hR,hc,h1,h2⟩:=h cs;refine⟨e,w',fr,⟨hR,?_⟩,hc,h1,h2⟩;intro v he;subst he;exact QuX hc
open Go.Proofs
def QAc:Option (Array Value×TypeId)->TypeId
 |some x=>x.2
 |none=>0
noncomputable def pwT:TypeId:=QAc (((begin Tryd.prog (fun _ _=>0) default).world.heap[0]?).bind Obj.row?)
noncomputable def Qjx:Obj:= .cells (Go.Lib.pow10Tab.map fun n=>Value.int .u64 n).toArray pwT
noncomputable def pwB:AB:= .op (fun _ _ o=>o=Qjx) fun _ _ _ _ _ _ h=>h
def Qbs(m:Ar):Prop:=m 0=some pwB
theorem QuZ{G:Nat->Prop}{w:World}(h:ABR G w 0 pwB):Go.Lib.TabIs Tryd.prog w "internal/strconv.uint64pow10" .u64 Go.Lib.pow10Tab:=by
 obtain⟨o,h1,h2⟩:=h;have hg:Tryd.prog.globalNamed "internal/strconv.uint64pow10"=some 0:=by kernel_rfl
 unfold Go.Lib.TabIs World.var?;rw[hg];simp only[Option.bind_some,h1,h2,Qjx]
abbrev pr2 (s:Seg):Int×Int:=(s.kind,s.num)
def InS(l:List Seg):Prop:=∀s∈l,In64 s.kind/\In64 s.num
theorem QrR{G:Nat->Prop}{ι:Io}{h:Hp}{w w':World}(hr:HR G ι h w)(hb:RowKit.Below w.heap.size w w')(hu:Up w w'):
    Ext G ι h w (fun b=>G b\/((w.heap.size<=b/\b<w'.heap.size)/\w.heap.size<=b)) ι h w'/\HR (fun b=>G b\/((w.heap.size<=b/\b<w'.heap.size)/\w.heap.size<=b)) ι h w':=by
  have hnew:HR (fun b=>w.heap.size<=b/\b<w'.heap.size) [] [] w':=Qmh fun b hb=>hb.2
  have hext:Ext (fun _=>False) [] [] w (fun b=>w.heap.size<=b/\b<w'.heap.size) [] [] w':=
    { size:=hb.size
      quiet:=⟨hb.os,hb.output,hu.1,hu.2⟩
      frame:=fun b h1 _=>hb.block b h1
      gmono:=fun _ hb=>hb.elim
      gnew:=fun b hb=> .inr (.inl hb.1)
      onew:=fun b ⟨l,blk,h1,_⟩=>by simp at h1
      keep:=fun l k hk=>by simp at hk}
  exact Ext.of_pure hr hext hnew
theorem Qso(P:Program)(hP:P=Tryd.prog)(m:Ar)(hm:Qbs m)(n:Int)(l:List Seg)(hn:In64 n)(hl:l.length<=1000)(hi:InS l):
  FnS P Qjr [iA n,Qf9 l] [.am m] fun r h'=>r= .c (.d (.str (nameS n (l.map pr2))))/\h'=[.am m]:=by
 subst hP;refine⟨fun G ι w vs hr hv=> ?_⟩;obtain⟨v0,v1,hvs⟩:∃v0 v1,vs=[v0,v1]:=by
  have:=hv.1
  match vs,this with
  |[x,y],_=>exact⟨x,y,rfl⟩
 subst hvs;have hv0:VR G w ι [.am m] v0 (iA n):=hv.2 0 _ _ rfl rfl;have hv1:VR G w ι [.am m] v1 (Qf9 l):=hv.2 1 _ _ rfl rfl;have e0:=Qbx hv0;subst e0;have hd:DR G w v1 (.list false 2 (l.map Qal)):=Qb8 hv1;have htab:=QuZ (hr.blk 0 _ rfl _ _ hm);have hlen:(l.map pr2).length=l.length:=List.length_map _;obtain⟨a,cap,rfl,hc⟩:∃a cap,v1= .slice a (l.map pr2).length cap/\∀(j:Nat) (x:Int×Int),(l.map pr2)[j]? =some x->∃b off,a=some ⟨b,off,none⟩/\b<w.heap.size/\w.cell? ⟨b,off+j*2,none⟩=some (.int .i64 x.1)/\w.cell? ⟨b,off+j*2+1,none⟩=some (.int .i64 x.2):=by
  rw[hlen];revert hd;generalize hL:l.map Qal=L;intro hd;have hLl:L.length=l.length:=by rw[←hL,List.length_map]
  have none_:L=[]->∀(j:Nat) (x:Int×Int),(l.map pr2)[j]? =some x->False:=by
   rintro rfl j x hx;have:l=[]:=by simpa using hL
   rw[this]at hx;simp at hx
  cases hd with
  |nils=>exact⟨none,0,by rw[←hLl];rfl,fun j x hx=>(none_ rfl j x hx).elim⟩
  |emp a=>exact⟨_,0,by rw[←hLl];rfl,fun j x hx=>(none_ rfl j x hx).elim⟩
  |sl b off cap _ _ g hG hcap hmax hsz hc hg=>
   refine⟨_,cap,by rw[←hLl],fun j x hx=> ?_⟩;rw[gtm,omi]at hx;obtain⟨s,hs,rfl⟩:=hx;have he:L[j]? =some (Qal s):=by rw[←hL,gtm,hs];rfl
   have hne:L≠[]:=fun e=>by rw[e]at he;simp at he
   refine⟨b,off,rfl,(hr.g b (hG hne)).1,?_,?_⟩
   ·have h1:=hc j _ 0 _ he rfl;have h2:=hg j _ 0 _ he rfl;rw[Nat.add_zero]at h1;rw[h1];generalize g j 0=v at h2;cases h2;rfl
   ·have h1:=hc j _ 1 _ he rfl;have h2:=hg j _ 1 _ he rfl;rw[h1];generalize g j 1=v at h2;cases h2;rfl
 refine QdU.of QmV ((QtG (Qsp n (l.map pr2) a cap w hn (by omega) ?_ hc htab)).mono ?_)
 ·intro x hx;obtain⟨s,hs,rfl⟩:=List.mem_map.1 hx;exact hi s hs
 ·rintro e w' ⟨⟨he,hbelow⟩,hup⟩;obtain⟨k1,k2⟩:=QrR hr hbelow (hup _ he);exact⟨_,_,_,ι,_,he,⟨rfl,rfl⟩,k2,.c _ _ (.d _ _ (.str _)),k1⟩
end Go.Ab
namespace Go.Ab
abbrev Kn (σ:Type):=List (σ×Option Int)
def lkK{σ:Type}[DecidableEq σ]:Kn σ->σ->Option (Option Int)
 |[],_=>none
 |(x,c)::K,s=>if x=s then some c else lkK K s
def Qxw{σ:Type}[DecidableEq σ](K:Kn σ)(s:σ):Int:=((lkK K s).getD none).getD 0
def QkH{σ:Type}[DecidableEq σ](K:Kn σ)(s:σ)(c:Int):Kn σ:=K.map fun p=>if p.1=s then (p.1,some c)else p
def QiN(n:Int):Int:=if n<1001 then n else 1001
def Qgd{σ:Type}[DecidableEq σ](f:Kn σ->σ->Option (Kn σ)):List σ->Kn σ->Int->Option (Kn σ×Int)
 |[],K,c=>some (K,c)
 |y::ys,K,c=>match f K y with
  |none=>none
  |some K'=>Qgd f ys K' (QiN (c+Qxw K' y))
def dfs{σ:Type}[DecidableEq σ](nx:σ->List σ):Nat->Kn σ->σ->Option (Kn σ)
 |0,K,s=>match lkK K s with
  |some (some _)=>some K
  |_=>none
 |n+1,K,s=>match lkK K s with
  |some (some _)=>some K
  |some none=>none
  |none=>match Qgd (dfs nx n) (nx s) (K++[(s,none)]) (if nx s=[]then 1 else 0)with
   |none=>none
   |some (K',c)=>some (QkH K' s c)
section
variable{σ:Type}
def Dep(nx:σ->List σ):Nat->σ->Prop
 |0,x=>nx x=[]
 |n+1,x=>∀y∈nx x,Dep nx n y
theorem Qkn{nx:σ->List σ}:∀{n:Nat} {x:σ},Dep nx n x->Dep nx (n+1) x
 |0,x,h=>fun y hy=>by rw[show nx x=[]from h]at hy;cases hy
 |n+1,x,h=>fun y hy=>Qkn (h y hy)
theorem QiQ{nx:σ->List σ}{n m:Nat}{x:σ}(hm:n<=m)(h:Dep nx n x):Dep nx m x:=by
 induction hm with
 |refl=>exact h
 |step _ ih=>exact Qkn ih
def num(nx:σ->List σ):Nat->σ->Nat
 |0,_=>1
 |n+1,x=>if nx x=[]then 1 else ((nx x).map (num nx n)).sum
theorem QvA{nx:σ->List σ}:∀{n:Nat} {x:σ},Dep nx n x->num nx (n+1) x=num nx n x
 |0,x,h=>by simp only[num,show nx x=[]from h,if_true]
 |n+1,x,h=>by
  rw[num]
  conv=>rhs;rw[num]
  split
  ·rfl
  ·congr 1
   exact List.map_congr_left fun y hy=>QvA (h y hy)
theorem Qvz{nx:σ->List σ}{n m:Nat}{x:σ}(hm:n<=m)(h:Dep nx n x):num nx m x=num nx n x:=by
 induction hm with
 |refl=>rfl
 |step hm ih=>rw[QvA (QiQ hm h),ih]
theorem Qsu{nx:σ->List σ}:∀(n:Nat) (x:σ),0<num nx n x
 |0,_=>by simp[num]
 |n+1,x=>by
  rw[num];split
  ·omega
  ·rename_i h;obtain⟨y,l,e⟩:=List.exists_cons_of_ne_nil h;rw[e,List.map_cons,List.sum_cons];have:=Qsu (nx:=nx) n y;omega
theorem Qwa{nx:σ->List σ}{l:List σ}(h:∀y∈l,∃n,Dep nx n y):∃n,∀y∈l,Dep nx n y:=by
 induction l with
 |nil=>exact⟨0,fun y hy=>by cases hy⟩
 |cons x l ih=>
  obtain⟨n,hn⟩:=ih fun y hy=>h y (List.mem_cons_of_mem _ hy)
  obtain⟨m,hm⟩:=h x (List.mem_cons_self ..);refine⟨max n m,fun y hy=> ?_⟩;rcases List.mem_cons.1 hy with rfl|hy
  ·exact QiQ (Nat.le_max_right ..) hm
  ·exact QiQ (Nat.le_max_left ..) (hn y hy)
end
section
variable{σ:Type}[DecidableEq σ]
theorem QeW{K L:Kn σ}{s:σ}:lkK (K++L) s=match lkK K s with
  |some c=>some c
  |none=>lkK L s:=by
 induction K with
 |nil=>rfl
 |cons p K ih=>
  obtain⟨x,c⟩:=p;simp only[List.cons_append,lkK];by_cases h:x=s
  ·simp[h]
  ·simp[h,ih]
theorem Qg3{K:Kn σ}{s:σ}:lkK K s=none↔s∉K.map (·.1):=by
 induction K with
 |nil=>simp[lkK]
 |cons p K ih=>
  obtain⟨x,c⟩:=p;simp only[lkK,List.map_cons,List.mem_cons,not_or];by_cases h:x=s
  ·simp[h]
  ·simp only[h,if_false,ih];exact⟨fun h2=>⟨fun e=>h e.symm,h2⟩,fun h2=>h2.2⟩
theorem Qvv{K:Kn σ}{s:σ}{c:Option Int}(h:lkK K s=some c):(s,c)∈K:=by
 induction K with
 |nil=>cases h
 |cons p K ih=>
  obtain⟨x,c'⟩:=p;simp only[lkK]at h;by_cases e:x=s
  ·rw[if_pos e]at h;cases h;subst e;simp
  ·rw[if_neg e]at h;exact List.mem_cons_of_mem _ (ih h)
theorem Qgn{K:Kn σ}{s x:σ}{c:Int}:lkK (QkH K s c) x=if x=s then (lkK K x).map fun _=>some c else lkK K x:=by
 induction K with
 |nil=>simp[QkH,lkK]
 |cons p K ih=>
  obtain⟨y,c'⟩:=p;simp only[QkH,List.map_cons]at ih ⊢;by_cases e:y=s
  ·subst e;simp only[if_true,lkK];by_cases e2:y=x
   ·subst e2;simp
   ·rw[if_neg e2,if_neg e2,ih]
  ·rw[if_neg e];simp only[lkK];by_cases e2:y=x
   ·subst e2;rw[if_pos rfl,if_pos rfl,if_neg e]
   ·rw[if_neg e2,if_neg e2,ih]
theorem QgY{K:Kn σ}{s:σ}{c:Int}:(QkH K s c).map (·.1)=K.map (·.1):=by
 rw[QkH,List.map_map];apply List.map_congr_left;rintro⟨x,c'⟩ _;simp only[Function.comp];split<;>rfl
def Done(nx:σ->List σ)(K:Kn σ):Prop:=∀x c,lkK K x=some (some c)->(∃n,Dep nx n x/\c=QiN (num nx n x))/\∀y∈nx x,∃c',lkK K y=some (some c')
theorem QtH(a b:Int)(ha:0<=a)(hb:0<=b):QiN (QiN a+QiN b)=QiN (a+b):=by
 simp only[QiN];split<;>split<;>split<;>(try split)<;>omega
structure DfsR (nx:σ->List σ) (K K':Kn σ):Prop where
 pre:∃new,K'.map (·.1)=K.map (·.1)++new
 old:∀x c,lkK K x=some c->lkK K' x=some c
 new:∀x c,lkK K' x=some c->lkK K x=none->∃c',c=some c'
 dn:Done nx K'
theorem DfsR.rfl'{nx:σ->List σ}{K:Kn σ}(h:Done nx K):DfsR nx K K:=⟨⟨[],by simp⟩,fun _ _ h=>h,fun x c h h'=>(by rw[h]at h';cases h'),h⟩
theorem DfsR.trans{nx:σ->List σ}{K K1 K2:Kn σ}(h1:DfsR nx K K1)(h2:DfsR nx K1 K2):DfsR nx K K2:=by
 obtain⟨n1,e1⟩:=h1.pre;obtain⟨n2,e2⟩:=h2.pre;refine⟨⟨n1++n2,by rw[e2,e1,List.append_assoc]⟩,fun x c h=>h2.old x c (h1.old x c h),fun x c h h'=> ?_,h2.dn⟩;cases hk:lkK K1 x with
 |none=>exact h2.new x c h hk
 |some c1=>
  have:=h2.old x c1 hk;rw[this]at h;cases h;exact h1.new x _ hk h'
theorem Qll{nx:σ->List σ}{f:Kn σ->σ->Option (Kn σ)}(hf:∀K s K',Done nx K->f K s=some K'->DfsR nx K K'/\∃c,lkK K' s=some (some c)):
  ∀{ys:List σ} {K K':Kn σ} {a c:Int},Done nx K->Qgd f ys K a=some (K',c)->DfsR nx K K'/\(∀y∈ys,∃c',lkK K' y=some (some c'))/\
   ∀n,(∀y∈ys,Dep nx n y)->∀b:Int,0<=b->a=QiN b->c=QiN (b+((ys.map (num nx n)).sum:Nat))
 |[],K,K',a,c,hK,h=>by
  simp only[Qgd,osi,pmi]at h;obtain⟨rfl,rfl⟩:=h;exact⟨DfsR.rfl' hK,(fun y hy=>by cases hy),fun n _ b _ e=>by simpa using e⟩
 |y::ys,K,K',a,c,hK,h=>by
  simp only[Qgd]at h;cases hy:f K y with
  |none=>rw[hy]at h;cases h
  |some K1=>
   rw[hy]at h;obtain⟨r1,c1,e1⟩:=hf K y K1 hK hy;obtain⟨r2,l2,n2⟩:=Qll hf r1.dn h;refine⟨r1.trans r2,fun z hz=> ?_,fun n hd b hb e=> ?_⟩
   ·rcases List.mem_cons.1 hz with rfl|hz
    ·exact⟨c1,r2.old _ _ e1⟩
    ·exact l2 z hz
   ·have hc:Qxw K1 y=QiN (num nx n y):=by
     obtain⟨⟨m,hm,e2⟩,_⟩:=r1.dn y c1 e1;rw[Qxw,e1];show c1=_;rw[e2];have h1:=Qvz (Nat.le_max_left n m) (hd y (List.mem_cons_self ..));have h2:=Qvz (Nat.le_max_right n m) hm;rw[←h1,←h2]
    have:=n2 n (fun z hz=>hd z (List.mem_cons_of_mem _ hz)) (b+num nx n y) (by omega) (by rw[e,hc,QtH _ _ hb (Int.natCast_nonneg _)]);rw[this,List.map_cons,List.sum_cons]
    congr 1
    omega
theorem Qlm{nx:σ->List σ}:∀{n:Nat} {K K':Kn σ} {s:σ},Done nx K->dfs nx n K s=some K'->DfsR nx K K'/\∃c,lkK K' s=some (some c):=by
 intro n;induction n with
 |zero=>
  intro K K' s hK h;simp only[dfs]at h;split at h
  ·rename_i c hc;cases h;exact⟨DfsR.rfl' hK,c,hc⟩
  ·cases h
 |succ n ih=>
  intro K K' s hK h;simp only[dfs]at h;split at h
  ·rename_i c hc;cases h;exact⟨DfsR.rfl' hK,c,hc⟩
  ·cases h
  ·rename_i hs;cases hd:Qgd (dfs nx n) (nx s) (K++[(s,none)]) (if nx s=[]then 1 else 0)with
   |none=>rw[hd]at h;cases h
   |some r=>
    obtain⟨K1,c⟩:=r;rw[hd]at h;simp only[osi]at h;subst h;have hK1:Done nx (K++[(s,none)]):=by
     intro x c hx;rw[QeW]at hx;cases hk:lkK K x with
     |none=>
      rw[hk]at hx;simp only[lkK]at hx;split at hx<;>cases hx
     |some c1=>
      rw[hk]at hx;cases hx;obtain⟨h1,h2⟩:=hK x c hk;refine⟨h1,fun y hy=> ?_⟩;obtain⟨c',e⟩:=h2 y hy;exact⟨c',by rw[QeW,e]⟩
    obtain⟨r1,l1,n1⟩:=Qll (fun K s K' hK h=>ih hK h) hK1 hd;have hopen:lkK K1 s=some none:=r1.old s none (by rw[QeW,hs];simp[lkK]);have hdep:∃m,∀y∈nx s,Dep nx m y:=Qwa fun y hy=>by
     obtain⟨c',e⟩:=l1 y hy;obtain⟨⟨m,h1,_⟩,_⟩:=r1.dn y c' e;exact⟨m,h1⟩
    obtain⟨m,hm⟩:=hdep;have hns:∀y∈nx s,y≠s:=fun y hy e=>by
     obtain⟨c',e'⟩:=l1 y hy;rw[e,hopen]at e';cases e'
    have hc:c=QiN (num nx (m+1) s):=by
     by_cases h0:nx s=[]
     ·rw[h0]at hd;simp only[Qgd,if_true,osi,pmi]at hd;rw[←hd.2,num,if_pos h0];rfl
     ·have:=n1 m hm 0 (by omega) (by rw[if_neg h0];rfl);rw[this,num,if_neg h0];simp
    refine⟨⟨?_,?_,?_,?_⟩,c,by rw[Qgn,if_pos rfl,hopen];rfl⟩
    ·obtain⟨nw,e⟩:=r1.pre;exact⟨s::nw,by rw[QgY,e];simp⟩
    ·intro x c' hx;have hne:x≠s:=fun e=>by rw[e,hs]at hx;cases hx
     rw[Qgn,if_neg hne];exact r1.old x c' (by rw[QeW,hx])
    ·intro x c' hx hx0;rw[Qgn]at hx;by_cases e:x=s
     ·rw[if_pos e,e,hopen]at hx;cases hx;exact⟨_,rfl⟩
     ·rw[if_neg e]at hx;refine r1.new x c' hx ?_;rw[QeW,hx0];rw[lkK,if_neg fun e':s=x=>e e'.symm,lkK]
    ·intro x c' hx;rw[Qgn]at hx;have hin:∀y c'',lkK K1 y=some (some c'')->lkK (QkH K1 s c) y=some (some c''):=by
      intro y c'' hy;have hne:y≠s:=fun e=>by rw[e,hopen]at hy;cases hy
      rw[Qgn,if_neg hne];exact hy
     by_cases e:x=s
     ·subst e;rw[if_pos rfl,hopen]at hx;cases hx;refine⟨⟨m+1,hm,hc⟩,fun y hy=> ?_⟩;obtain⟨c'',e''⟩:=l1 y hy;exact⟨c'',hin y c'' e''⟩
     ·rw[if_neg e]at hx;obtain⟨h1,h2⟩:=r1.dn x c' hx;refine⟨h1,fun y hy=> ?_⟩;obtain⟨c'',e''⟩:=h2 y hy;exact⟨c'',hin y c'' e''⟩
theorem QrC{U:σ->Prop}{f:Kn σ->σ->Option (Kn σ)}(hf:∀K s K',(∀x∈K.map (·.1),U x)->U s->f K s=some K'->∀x∈K'.map (·.1),U x):
  ∀{ys:List σ} {K K':Kn σ} {a c:Int},(∀x∈K.map (·.1),U x)->(∀y∈ys,U y)->Qgd f ys K a=some (K',c)->∀x∈K'.map (·.1),U x
 |[],K,K',a,c,hK,_,h=>by
  simp only[Qgd,osi,pmi]at h;obtain⟨rfl,rfl⟩:=h;exact hK
 |y::ys,K,K',a,c,hK,hy,h=>by
  simp only[Qgd]at h;cases hf1:f K y with
  |none=>rw[hf1]at h;cases h
  |some K1=>
   rw[hf1]at h;exact QrC hf (hf K y K1 hK (hy y (List.mem_cons_self ..)) hf1) (fun z hz=>hy z (List.mem_cons_of_mem _ hz)) h
theorem Qvo{nx:σ->List σ}{U:σ->Prop}(hU:∀x,U x->∀y∈nx x,U y):∀{n:Nat} {K K':Kn σ} {s:σ},(∀x∈K.map (·.1),U x)->U s->dfs nx n K s=some K'->∀x∈K'.map (·.1),U x:=by
 intro n;induction n with
 |zero=>
  intro K K' s hK hs h;simp only[dfs]at h;split at h
  ·cases h;exact hK
  ·cases h
 |succ n ih=>
  intro K K' s hK hs h;simp only[dfs]at h;split at h
  ·cases h;exact hK
  ·cases h
  ·split at h
   ·cases h
   ·rename_i K1 c hd;cases h;rw[QgY];refine QrC (fun K s K' h1 h2 h3=>ih h1 h2 h3) ?_ (hU s hs) hd;intro x hx;rw[List.map_append,List.mem_append]at hx;rcases hx with hx|hx
    ·exact hK x hx
    ·simp at hx;rw[hx];exact hs
theorem QiR{nx:σ->List σ}:∀{n:Nat} {K K':Kn σ} {s:σ},(K.map (·.1)).Nodup->dfs nx n K s=some K'->(K'.map (·.1)).Nodup:=by
 intro n;induction n with
 |zero=>
  intro K K' s hK h;simp only[dfs]at h;split at h
  ·cases h;exact hK
  ·cases h
 |succ n ih=>
  intro K K' s hK h;simp only[dfs]at h;split at h
  ·cases h;exact hK
  ·cases h
  ·rename_i hs;split at h
   ·cases h
   ·rename_i K1 c hd;cases h;rw[QgY];have:∀{ys:List σ} {K K':Kn σ} {a c:Int},(K.map (·.1)).Nodup->Qgd (dfs nx n) ys K a=some (K',c)->(K'.map (·.1)).Nodup:=by
     intro ys;induction ys with
     |nil=>
      intro K K' a c hK h;simp only[Qgd,osi,pmi]at h;obtain⟨rfl,rfl⟩:=h;exact hK
     |cons y ys ihy=>
      intro K K' a c hK h;simp only[Qgd]at h;split at h
      ·cases h
      ·rename_i K2 h2;exact ihy (ih hK h2) h
    refine this ?_ hd;rw[List.map_append,List.nodup_append];refine⟨hK,by simp,fun x hx y hy e=> ?_⟩;simp at hy;rw[e,hy]at hx;exact Qg3.1 hs hx
end
section
variable{σ:Type}
structure Expl (nx:σ->List σ) (s:σ) (S:List σ):Prop where
 hd:∃r,S=s::r
 nd:S.Nodup
 cl:∀x∈S,∀y∈nx x,y∈S
 mn:∀U:σ->Prop,U s->(∀x,U x->∀y∈nx x,U y)->∀x∈S,U x
theorem Expl.st{nx:σ->List σ}{s:σ}{S:List σ}(h:Expl nx s S):s∈S:=by
 obtain⟨r,e⟩:=h.hd;rw[e];simp
theorem Expl.len{nx:σ->List σ}{s:σ}{S S':List σ}(h:Expl nx s S)(h':Expl nx s S'):S.length=S'.length:=by
 have h1:=h.nd.length_le_of_subset fun x hx=>h.mn (·∈S') h'.st h'.cl x hx
 have h2:=h'.nd.length_le_of_subset fun x hx=>h'.mn (·∈S) h.st h.cl x hx
 omega
end
section
variable{σ:Type}[DecidableEq σ]
theorem QkG{nx:σ->List σ}{s:σ}{S:List σ}{n:Nat}{K:Kn σ}(h:Expl nx s S)(hd:dfs nx n [] s=some K):(K.map (·.1)).Nodup/\(∀x,x∈K.map (·.1)↔x∈S)/\Done nx K/\(∀x∈K.map (·.1),∃c,lkK K x=some (some c))/\∃r,K.map (·.1)=s::r:=by
 obtain⟨h1,c,h2⟩:=Qlm (nx:=nx) (K:=[]) (fun x c h=>by cases h) hd;have hdn:∀x∈K.map (·.1),∃c,lkK K x=some (some c):=by
  intro x hx;cases hk:lkK K x with
  |none=>exact absurd hx (Qg3.1 hk)
  |some c'=>
   obtain⟨c2,e⟩:=h1.new x c' hk rfl;exact⟨c2,by rw[e]⟩
 refine⟨QiR (by simp) hd,fun x=>⟨fun hx=> ?_,fun hx=> ?_⟩,h1.dn,hdn,?_⟩
 ·exact Qvo (U:=(·∈S)) h.cl (by simp) h.st hd x hx
 ·refine h.mn (·∈K.map (·.1)) ?_ (fun y hy z hz=> ?_) x hx
  ·exact List.mem_map.2 ⟨_,Qvv h2,rfl⟩
  ·obtain⟨c1,e1⟩:=hdn y hy;obtain⟨c2,e2⟩:=(h1.dn y c1 e1).2 z hz;exact List.mem_map.2 ⟨_,Qvv e2,rfl⟩
 ·cases n with
  |zero=>cases hd
  |succ n=>
   simp only[dfs,lkK]at hd;split at hd
   ·cases hd
   ·rename_i K1 c1 h3;cases hd;obtain⟨r1,_⟩:=Qll (fun K s K' hK h=>Qlm hK h) (fun x c h=>by simp only[List.nil_append,lkK]at h;split at h<;>cases h) h3;obtain⟨nw,e⟩:=r1.pre;exact⟨nw,by rw[QgY,e];rfl⟩
end
section
variable{σ:Type}(ar:σ->List Int)(to:σ->Int->σ)
def nxt(x:σ):List σ:=(ar x).map (to x)
def brs:Nat->σ->List Int->List (σ×List Int)
 |0,x,p=>[(x,p)]
 |n+1,x,p=>if ar x=[]then [(x,p)]else (ar x).flatMap fun a=>brs n (to x a) (p++[a])
theorem QiE:∀(n:Nat) (x:σ) (p:List Int),(brs ar to n x p).length=num (nxt ar to) n x
 |0,x,p=>rfl
 |n+1,x,p=>by
  rw[brs,num];have he:nxt ar to x=[]↔ar x=[]:=by rw[nxt,List.map_eq_nil_iff]
  by_cases h:ar x=[]
  ·rw[if_pos h,if_pos (he.2 h)];rfl
  ·rw[if_neg h,if_neg fun e=>h (he.1 e),List.length_flatMap,nxt,List.map_map]
   congr 1
   exact List.map_congr_left fun a _=>QiE n (to x a) (p++[a])
theorem Qvm:∀{n:Nat} {x:σ} (p:List Int),Dep (nxt ar to) n x->brs ar to (n+1) x p=brs ar to n x p
 |0,x,p,h=>by
  have:ar x=[]:=by rw[Dep,nxt,List.map_eq_nil_iff]at h;exact h
  rw[brs,brs,if_pos this]
 |n+1,x,p,h=>by
  rw[brs]
  conv=>rhs;rw[brs]
  split
  ·rfl
  ·have:∀l:List Int,(∀a∈l,a∈ar x)->(l.flatMap fun a=>brs ar to (n+1) (to x a) (p++[a]))=l.flatMap fun a=>brs ar to n (to x a) (p++[a]):=by
    intro l;induction l with
    |nil=>intro _;rfl
    |cons a l ih=>
     intro hl;rw[List.flatMap_cons,List.flatMap_cons,ih fun b hb=>hl b (List.mem_cons_of_mem _ hb),Qvm (p++[a]) (h _ (List.mem_map.2 ⟨a,hl a (List.mem_cons_self ..),rfl⟩))]
   exact this _ fun a h=>h
theorem Qvl{n m:Nat}{x:σ}(p:List Int)(hm:n<=m)(h:Dep (nxt ar to) n x):brs ar to m x p=brs ar to n x p:=by
 induction hm with
 |refl=>rfl
 |step hm ih=>rw[Qvm ar to p (QiQ hm h),ih]
end
section
variable{σ:Type}
end
section
variable{σ:Type}[DecidableEq σ]
def QxK(S:List σ)(y:σ):List σ:=if y∈S then S else S++[y]
theorem Qtt(S:List σ)(y:σ):y∈QxK S y:=by
 rw[QxK];split
 ·assumption
 ·simp
theorem Qws{S r:List σ}{y:σ}(h:y∈S):(S++r).idxOf y=S.idxOf y:=by
 rw[List.idxOf_append,if_pos h]
end
open Go.Proofs
abbrev Ssc:=List (List UInt8×DV)
def Qh0(e:List UInt8×DV):DV×DV:=(.s (.str e.1),e.2)
def sfind(k:List UInt8):Ssc->Nat->Option (Nat×DV)
 |[],_=>none
 |e::r,i=>if k=e.1 then some (i,e.2)else sfind k r (i+1)
theorem Qwe(a x:List UInt8):eqc [.d (.str a)] [.d (.str x)] [(0,2)]=some (decide (a=x)):=by
 have e:eqc [.d (.str a)] [.d (.str x)] [(0,2)]=some ((a==x)&&true):=rfl;rw[e];by_cases h1:a=x
 ·simp[h1]
 ·simp[h1]
theorem Qks(a:List UInt8):∀(m:Ssc) (i:Nat),mfind true 1 [(0,2)] (.s (.str a)) (m.map Qh0) i=some (sfind a m i):=by
 intro m;induction m with
 |nil=>intro i;rfl
 |cons e r ih=>
  intro i;obtain⟨x,v⟩:=e;have e1:mfind true 1 [(0,2)] (.s (.str a)) (List.map Qh0 ((x,v)::r)) i=
    (match eqc [.d (.str a)] [.d (.str x)] [(0,2)]with
    |some true=>some (some (i,v))
    |some false=>mfind true 1 [(0,2)] (.s (.str a)) (List.map Qh0 r) (i+1)
    |none=>none):=rfl
  rw[e1,Qwe];simp only[sfind];by_cases h:a=x
  ·rw[decide_eq_true h,if_pos h]
  ·rw[decide_eq_false h,if_neg h];exact ih (i+1)
theorem Qmc{a:List UInt8}{m:Ssc}{ml:List (DV×DV)}{ok:Bool}{z:AV}{K:AV->Prop}(mlh:m.map Qh0=ml)(h0:sfind a m 0=none->K (lkR ok z false))(h1:∀i v,sfind a m 0=some (i,v)->K (lkR ok (Qtn v) true)):
  ∀r,mfind true 1 [(0,2)] (.s (.str a)) ml 0=r->vLk ok z K r:=by
 intro r hr;rw[←mlh,Qks]at hr;subst hr;cases hp:sfind a m 0 with
 |none=>exact h0 hp
 |some p=>exact h1 p.1 p.2 hp
theorem QpX{a:List UInt8}{m:Ssc}{ml:List (DV×DV)}{vd:DV}{K:List (DV×DV)->Prop}(mlh:m.map Qh0=ml)(h0:sfind a m 0=none->∀es',(m++[(a,vd)]).map Qh0=es'->K es')(h1:∀i v,sfind a m 0=some (i,v)->∀es',(m.set i (a,vd)).map Qh0=es'->K es'):
  ∀r,mfind true 1 [(0,2)] (.s (.str a)) ml 0=r->vUp ml (.s (.str a)) vd K r:=by
 intro r hr;have hm:mfind true 1 [(0,2)] (.s (.str a)) ml 0=some (sfind a m 0):=by rw[←mlh,Qks]
 rw[hm]at hr;subst hr;cases hp:sfind a m 0 with
 |none=>intro es' he;exact h0 hp es' (by rw[he,←mlh];simp[Qh0])
 |some p=>intro es' he;exact h1 p.1 p.2 hp es' (by rw[he,←mlh,List.map_set];rfl)
theorem QqM{k:List UInt8}{m:Ssc}:∀{i:Nat},sfind k m i=none↔k∉m.map (·.1):=by
 induction m with
 |nil=>intro i;simp[sfind]
 |cons e r ih=>
  intro i;simp only[sfind,List.map_cons,List.mem_cons,not_or];split
  ·rename_i h;simp[h]
  ·rename_i h;rw[ih];simp[h]
theorem QqN{k:List UInt8}{m:Ssc}{v:DV}:∀{i j:Nat},sfind k m i=some (j,v)->i<=j/\m[j-i]? =some (k,v):=by
 induction m with
 |nil=>intro i j h;simp[sfind]at h
 |cons e r ih=>
  intro i j h;simp only[sfind]at h;split at h
  ·rename_i hk;cases h;exact⟨Nat.le_refl _,by rw[hk];simp⟩
  ·obtain⟨h1,h2⟩:=ih h;refine⟨by omega,?_⟩;rw[show j-i=(j-(i+1))+1 by omega];simpa using h2
end Go.Ab
namespace Go.Ab
section
variable{G:Nat->Prop}{w:World}{ιc ι:Io}{hc h:Hp}{ρ:Nat->Nat}
theorem Kept.rn{ι' ιc':Io}{w':World}{i l:Nat}{k k':Blk}(hk:Kept ιc ιc' w w' i k k')(h1:ι[l]? =ιc[i]?)(h2:ι'[l]? =ιc'[i]?):Kept ι ι' w w' l (rnB ρ k) (rnB ρ k'):=by
 cases k' with
 |dead=>cases k<;>trivial
 |am m'=>
  cases k with
  |am m=>trivial
  |_=>simp[Kept]at hk
 |bx cs'=>
  cases k with
  |bx cs=>exact⟨by rw[Qdg,Qdg];exact hk.1,by rw[h1,h2];exact hk.2⟩
  |_=>simp[Kept]at hk
 |da r' v' sz' es'=>
  cases k with
  |da r v sz es=>
   rcases hk with hk|⟨a1,a2,a3,a4,a5,a6⟩
   ·exact .inl hk
   ·exact .inr ⟨a1,a2,a3,a4,by rw[h1,h2];exact a5,fun hr b o hb=>a6 hr b o (by rw[←h1];exact hb)⟩
  |_=>simp[Kept]at hk
 |mp v' es'=>
  cases k with
  |mp v es=>
   obtain⟨a1,a2⟩:=hk;refine⟨by rw[h1,h2];exact a1,?_⟩;rcases a2 with a2|⟨a2,a3,a4⟩
   ·exact .inl a2
   ·exact .inr ⟨a2,a3,fun b o hb=>a4 b o (by rw[←h1];exact hb)⟩
  |_=>simp[Kept]at hk
 |mi m' v' es'=>
  cases k with
  |mi m v es=>
   obtain⟨a1,a2,a3⟩:=hk;exact⟨by rw[a1],a2,by rw[h1,h2];exact a3⟩
  |_=>simp[Kept]at hk
end
def QcG{α:Type}:List α->List Nat->List α->List α
 |h,[],_=>h
 |h,_::_,[]=>h
 |h,l::σ,b::bs=>QcG (h.set l b) σ bs
theorem Qg9{α:Type}:∀(σ:List Nat) (h bs:List α),(QcG h σ bs).length=h.length
 |[],_,_=>by simp only[QcG]
 |_::_,_,[]=>by simp only[QcG]
 |l::σ,h,b::bs=>by simp only[QcG];rw[Qg9 σ];simp
theorem Qcr{α:Type}:∀(σ:List Nat) (h bs:List α) (l:Nat),l∉σ->(QcG h σ bs)[l]? =h[l]?
 |[],_,_,_,_=>by simp only[QcG]
 |_::_,_,[],_,_=>by simp only[QcG]
 |l::σ,h,b::bs,l',hn=>by
  simp only[QcG];rw[Qcr σ _ bs l' (fun hm=>hn (List.mem_cons_of_mem _ hm)),List.getElem?_set_ne (fun(e:l=l')=>hn (by rw[e];exact List.mem_cons_self ..))]
theorem QjF{α:Type}:∀(σ:List Nat) (h bs:List α) (i l:Nat) (b:α),σ.Nodup->(∀l∈σ,l<h.length)->σ[i]? =some l->bs[i]? =some b->(QcG h σ bs)[l]? =some b
 |[],_,_,_,_,_,_,_,h1,_=>by simp at h1
 |_::_,_,[],_,_,_,_,_,_,h2=>by simp at h2
 |l0::σ,h,b0::bs,i,l,b,hn,hl,h1,h2=>by
  simp only[QcG];cases i with
  |zero=>
   simp at h1 h2;subst h1 h2;rw[Qcr σ _ bs l0 (List.nodup_cons.1 hn).1,List.getElem?_set_self (hl l0 (List.mem_cons_self ..))]
  |succ i=>
   exact QjF σ _ bs i l b (List.nodup_cons.1 hn).2 (fun x hx=>by simpa using hl x (List.mem_cons_of_mem _ hx)) (by simpa using h1) (by simpa using h2)
def rho:List Nat->Nat->Nat->Nat
 |[],n,i=>n+i
 |l::_,_,0=>l
 |_::σ,n,i+1=>rho σ n i
theorem Qjz:∀(σ:List Nat) (n i:Nat),i<σ.length->σ[i]? =some (rho σ n i)
 |[],_,_,h=>by simp at h
 |l::σ,n,0,_=>rfl
 |l::σ,n,i+1,h=>by simpa [rho]using Qjz σ n i (by simpa using h)
theorem Ql3:∀(σ:List Nat) (n i:Nat),σ.length<=i->rho σ n i=n+(i-σ.length)
 |[],_,_,_=>rfl
 |l::σ,n,0,h=>by simp at h
 |l::σ,n,i+1,h=>by simp only[rho,List.length_cons];rw[Ql3 σ n i (by simpa using h)];omega
def QgI(h:Hp)(σ:List Nat)(hc:Hp):Hp:=QcG h σ (rnH (rho σ h.length) hc)++rnH (rho σ h.length) (hc.drop σ.length)
def Qla(ι:Io)(σ:List Nat)(ιc:Io):Io:=QcG ι σ ιc++ιc.drop σ.length
theorem FnS.frame{P:Program}{f:Nat}{args:List AV}{hc:Hp}{R:AV->Hp->Prop}(hf:FnS P f args hc R)(σ:List Nat)(h:Hp)(hlen:σ.length=hc.length)(hnd:σ.Nodup)
   (hh:∀i k,hc[i]? =some k->h[rho σ h.length i]? =some (rnB (rho σ h.length) k))(hcl:Qc3 hc.length hc=true)(hca:∀x∈args,QeO hc.length x=true):
    FnS P f (rnAs (rho σ h.length) args) h fun r' h'=>∃r hc',R r hc'/\r'=rnA (rho σ h.length) r/\h'=QgI h σ hc':=by
  refine⟨fun G ι w vs hr hv=> ?_⟩;have hlt:∀l∈σ,l<h.length:=by
    intro l hl;obtain⟨i,hi,rfl⟩:=List.getElem_of_mem hl;have h1:=Qjz σ h.length i hi;rw[lgE hi]at h1;have h2:=hh i _ (lgE (by omega));rw[←osj h1]at h2;exact Qaa h2
  have hιl:∀l∈σ,l<ι.length:=fun l hl=>by rw[hr.len];exact hlt l hl
  generalize hρ:rho σ h.length=ρ at*;have rold:∀i,i<σ.length->σ[i]? =some (ρ i):=fun i hi=>by rw[←hρ];exact Qjz σ _ i hi
  have rnew:∀i,σ.length<=i->ρ i=h.length+(i-σ.length):=fun i hi=>by rw[←hρ];exact Ql3 σ _ i hi
  have rmem:∀i,i<σ.length->ρ i∈σ:=fun i hi=>mgE (rold i hi)
  have rinj:∀i j,ρ i=ρ j->i=j:=by
    intro i j e;rcases Nat.lt_or_ge i σ.length with hi|hi<;>rcases Nat.lt_or_ge j σ.length with hj|hj
    · have h1:=rold i hi
      have h2:=rold j hj;rw[e,←h2]at h1;exact(List.getElem?_inj hi hnd).1 h1
    · have:=hlt _ (rmem i hi);have:=rnew j hj;omega
    · have:=hlt _ (rmem j hj);have:=rnew i hi;omega
    · have:=rnew i hi;have:=rnew j hj;omega
  let ιc:Io:=σ.map fun l=>(ι[l]?).getD (0,0)
  have hιc:∀i,i<σ.length->ιc[i]? =ι[ρ i]? :=by
    intro i hi;simp only[ιc,gtm,rold i hi,Option.map_some];rw[lgE (hιl _ (rmem i hi))];rfl
  have am:Among ρ ιc hc ι h:=⟨hh,fun i k hk=>(hιc i (by rw[hlen];exact Qaa hk)).symm⟩;have hrc:HR G ιc hc w:=HR.down am hr (by simp[ιc,hlen]) (fun i j _ _ e=>rinj i j e) hcl;have hvc:VRs G w ιc hc vs args:=by
    refine⟨by rw[hv.1,QpJ],fun i v x h1 h2=> ?_⟩;exact(hv.2 i v (rnA ρ x) h1 (by rw[QpI,h2];rfl)).unrn am (hca x (mgE h2))
  refine(hf.out G ιc w vs hrc hvc).mono fun e w2 ⟨v,r,G2,ι2,hc2,he,hR,hr2,hvr,hx⟩=> ?_
  have hl2:hc.length<=hc2.length:=by
    rcases Nat.lt_or_ge hc2.length hc.length with hb|hb
    · obtain⟨k',h1,_⟩:=hx.keep hc2.length _ (lgE hb)
      have:=Qaa h1;omega
    · exact hb
  have hl2':ι2.length=hc2.length:=hr2.len;have hset:(QcG h σ (rnH ρ hc2)).length=h.length:=Qg9 σ h _;have hseti:(QcG ι σ ι2).length=h.length:=by rw[Qg9,hr.len]
  have hbh:QgI h σ hc2=QcG h σ (rnH ρ hc2)++rnH ρ (hc2.drop σ.length):=by simp only[QgI,hρ]
  have am2:Among ρ ι2 hc2 (Qla ι σ ι2) (QgI h σ hc2):=by
    rw[hbh];constructor
    · intro i k hk
      rcases Nat.lt_or_ge i σ.length with hi|hi
      · rw[gal (by rw[hset];exact hlt _ (rmem i hi))]
        exact QjF σ h _ i _ _ hnd hlt (rold i hi) (by rw[QoE,hk];rfl)
      · rw[rnew i hi,List.getElem?_append_right (by omega),hset,QoE,List.getElem?_drop]
        rw[show σ.length+(h.length+(i-σ.length)-h.length)=i by omega,hk];rfl
    · intro i k hk
      unfold Qla;have hi2:ι2[i]? =some (ι2[i]'(by rw[hl2'];exact Qaa hk)):=lgE _;rcases Nat.lt_or_ge i σ.length with hi|hi
      · rw[gal (by rw[hseti];exact hlt _ (rmem i hi)),hi2]
        exact QjF σ ι _ i _ _ hnd hιl (rold i hi) hi2
      · rw[rnew i hi,List.getElem?_append_right (by omega),hseti,List.getElem?_drop]
        rw[show σ.length+(h.length+(i-σ.length)-h.length)=i by omega]
  have part:∀l k',(QgI h σ hc2)[l]? =some k'->(∃i k,hc2[i]? =some k/\l=ρ i/\k'=rnB ρ k)\/(h[l]? =some k'/\l∉σ/\(Qla ι σ ι2)[l]? =ι[l]?):=by
    intro l k' hk';by_cases hm:l∈σ
    · obtain⟨i,hi,rfl⟩:=List.getElem_of_mem hm
      have e:σ[i]=ρ i:=by have:=rold i hi;rw[lgE hi]at this;exact osj this
      have hki:hc2[i]? =some (hc2[i]'(by omega)):=lgE _;have:=am2.blk i _ hki;rw[e,this]at hk';exact .inl ⟨i,_,hki,e,(osj hk').symm⟩
    · rcases Nat.lt_or_ge l h.length with hl|hl
      · rw[hbh,gal (by omega),Qcr σ h _ l hm]at hk'
        exact .inr ⟨hk',hm,by unfold Qla;rw[gal (by omega),Qcr σ ι _ l hm]⟩
      · rw[hbh,List.getElem?_append_right (by omega),hset,QoE,List.getElem?_drop,omi]at hk'
        obtain⟨k,h1,rfl⟩:=hk';exact .inl ⟨_,k,h1,by rw[rnew _ (by omega)];omega,rfl⟩
  have other:∀l b k,h[l]? =some k->l∉σ->Qcn ι l k b->b<w.heap.size/\¬owned ιc hc b:=by
    intro l b k h1 h2 h3;refine⟨Qay hr ⟨l,k,h1,h3⟩,fun ho=> ?_⟩;obtain⟨i,kc,g1,g2,g3,g4⟩:=QpF am ho;have:=hr.own l (ρ i) b k _ h1 g4 h3 g3;exact h2 (this▸rmem i (by rw[hlen];exact Qaa g1))
  have same:∀l b k,h[l]? =some k->l∉σ->Qcn ι l k b->w2.heap[b]? =w.heap[b]? :=by
    intro l b k h1 h2 h3;have:=other l b k h1 h2 h3;exact hx.frame b this.1 this.2
  have hext:Ext G ι h w G2 (Qla ι σ ι2) (QgI h σ hc2) w2:=
    { size:=hx.size
      quiet:=hx.quiet
      frame:=fun b hb ho=>hx.frame b hb fun ho'=>ho (QdL am ho')
      gmono:=hx.gmono
      gnew:=fun b hb=>by
        rcases hx.gnew b hb with h1|h1|h1
        · exact .inl h1
        · exact .inr (.inl h1)
        · exact .inr (.inr (QdL am h1))
      onew:=fun b ⟨l,k,h2,h3⟩=>by
        rcases part l k h2 with ⟨i,kc,g1,rfl,rfl⟩|⟨g1,g2,g3⟩
        · rcases hx.onew b ⟨i,kc,g1,(Qex (am2.at' i kc g1)).1 h3⟩with h4|h4
          · exact .inl (QdL am h4)
          · exact .inr h4
        · exact .inl ⟨l,k,g1,Qb3 h3 fun _=>g3.symm⟩
      keep:=fun l k hk=>by
        by_cases hm:l∈σ
        · obtain⟨i,hi,rfl⟩:=List.getElem_of_mem hm
          have e:σ[i]=ρ i:=by have:=rold i hi;rw[lgE hi]at this;exact osj this
          have hki:hc[i]? =some (hc[i]'(by omega)):=lgE _;rw[e,hh i _ hki]at hk;cases hk;obtain⟨k',g1,g2⟩:=hx.keep i _ hki;exact⟨rnB ρ k',by rw[e];exact am2.blk i k' g1,by rw[e];exact g2.rn (am.at' i _ hki) (am2.at' i k' g1)⟩
        · have hl:l<h.length:=Qaa hk
          have e1:(QgI h σ hc2)[l]? =some k:=by rw[hbh,gal (by omega),Qcr σ h _ l hm];exact hk
          have e2:(Qla ι σ ι2)[l]? =ι[l]? :=by unfold Qla;rw[gal (by omega),Qcr σ ι _ l hm]
          exact⟨k,e1,Kept.frame e2 fun b hb=>same l b k hk hm hb⟩}
  refine⟨v,rnA ρ r,G2,Qla ι σ ι2,QgI h σ hc2,he,⟨r,hc2,hR,rfl,rfl⟩,?_,hvr.rn am2,hext⟩;exact
    { len:=by
        rw[hbh];unfold Qla;simp only[List.length_append,hset,hseti,QwZ,List.length_drop,hl2']
      own:=by
        intro l l' b k k' h3 h4 h5 h6;rcases part l k h3 with ⟨i,kc,g1,rfl,rfl⟩|⟨g1,g2,g3⟩<;>rcases part l' k' h4 with ⟨i',kc',q1,rfl,rfl⟩|⟨q1,q2,q3⟩
        · rw[hr2.own i i' b kc kc' g1 q1 ((Qex (am2.at' i kc g1)).1 h5) ((Qex (am2.at' i' kc' q1)).1 h6)]
        · exfalso
          have ot:=other l' b k' q1 q2 (Qb3 h6 fun _=>q3.symm);rcases hx.onew b ⟨i,kc,g1,(Qex (am2.at' i kc g1)).1 h5⟩with h7|h7
          · exact ot.2 h7
          · omega
        · exfalso
          have ot:=other l b k g1 g2 (Qb3 h5 fun _=>g3.symm);rcases hx.onew b ⟨i',kc',q1,(Qex (am2.at' i' kc' q1)).1 h6⟩with h7|h7
          · exact ot.2 h7
          · omega
        · exact hr.own l l' b k k' g1 q1 (Qb3 h5 fun _=>g3.symm) (Qb3 h6 fun _=>q3.symm)
      g:=by
        intro b hb;refine⟨(hr2.g b hb).1,fun⟨l,k,h2,h3⟩=> ?_⟩;rcases part l k h2 with ⟨i,kc,g1,rfl,rfl⟩|⟨g1,g2,g3⟩
        · exact(hr2.g b hb).2 ⟨i,kc,g1,(Qex (am2.at' i kc g1)).1 h3⟩
        · have h3':Qcn ι l k b:=Qb3 h3 fun _=>g3.symm
          have ot:=other l b k g1 g2 h3';rcases hx.gnew b hb with h4|h4|h4
          · exact(hr.g b h4).2 ⟨l,k,g1,h3'⟩
          · omega
          · exact ot.2 h4
      blk:=by
        intro l k hk;rcases part l k hk with ⟨i,kc,g1,rfl,rfl⟩|⟨g1,g2,g3⟩
        · exact BR.rn am2 g1 (hr2.blk i kc g1)
        · exact BR.ext hext hr g1 g3 fun b hb=>same l b k g1 g2 hb}
inductive ThD (m:Ar):D->D->Prop
 |same (x:D):ThD m x x
 |fg (x:D):ThD m x (fgD x)
 |row (b o sz n cap N:Nat) (xs:List D) (rows:List (List D)) (g:Nat->Nat->D) (hm:m b=some (.cs N xs)) (hn:rows.length=n) (hcap:n<=cap) (hmx:n<=9223372036854775807)
   (hs:∀(i:Nat) (e:List D),rows[i]? =some e->e.length=sz) (hx:∀(i:Nat) (e:List D) (j:Nat) (x:D),rows[i]? =some e->e[j]? =some x->xs[o+i*sz+j]? =some (g i j))
   (hr:∀(i:Nat) (e:List D) (j:Nat) (x:D),rows[i]? =some e->e[j]? =some x->ThD m (g i j) x):ThD m (.sl b o sz n cap) (.list false sz rows)
 |list (nl:Bool) (sz:Nat) (l l':List (List D)) (hlen:l.length=l'.length) (hs:∀(i:Nat) (e:List D),l'[i]? =some e->e.length=sz)
   (hr:∀(i:Nat) (e e':List D) (j:Nat) (x x':D),l[i]? =some e->l'[i]? =some e'->e[j]? =some x->e'[j]? =some x'->ThD m x x'):ThD m (.list nl sz l) (.list nl sz l')
section
variable{G:Nat->Prop}{ι:Io}{h:Hp}{w:World}{m:Ar}
theorem Qnr{G':Nat->Prop}(hG:∀b x,m b=some x->G' b/\ABR G' w b x){x x':D}(ht:ThD m x x'):∀{v:Value},DR G' w v x->DR G' w v x':=by
 induction ht with
 |same x=>exact fun h=>h
 |fg x=>exact fun h=>h.fg
 |row b o sz n cap N xs rows g hm hn hcap hmx hs hx hr ih=>
  intro v hd;cases hd;obtain⟨hg,c,t,fr,a1,a2,a3,a4,a5⟩:=hG b _ hm;subst hn;refine .sl b o cap sz rows (fun i j=>(c[o+i*sz+j]?).getD undef) (fun _=>hg) hcap hmx hs (fun i e j x he hx'=> ?_) fun i e j x he hx'=> ?_
  ·obtain⟨v,hv,_⟩:=a5 _ _ (hx i e j x he hx');rw[QbE a1,hv];rfl
  ·obtain⟨v,hv,hd⟩:=a5 _ _ (hx i e j x he hx');simp only[hv,Option.getD_some];exact ih i e j x he hx' hd
 |list nl sz l l' hlen hs hr ih=>
  intro v hd;cases hd with
  |nils=>
   have:l'=[]:=List.eq_nil_of_length_eq_zero (by simpa using hlen.symm);subst this;exact .nils nl sz
  |emp a=>
   have:l'=[]:=List.eq_nil_of_length_eq_zero (by simpa using hlen.symm);subst this;exact .emp a sz
  |sl b off cap _ _ g hg hcap hmax hsz hc hr'=>
   have both:∀(i:Nat) (e':List D) (j:Nat) (x':D),l'[i]? =some e'->e'[j]? =some x'->∃e x,l[i]? =some e/\e[j]? =some x:=by
    intro i e' j x' he hx;have hi:=Qaa he;have hj:=Qaa hx;have h1:l[i]? =some (l[i]'(by omega)):=lgE _;have h2:=hsz i _ h1;have h3:=hs i e' he;exact⟨_,_,h1,lgE (by omega)⟩
   rw[hlen];refine .sl b off cap sz l' g (fun hne=>hg fun h0=>hne ?_) (by omega) (by omega) hs (fun i e j x he hx=> ?_) fun i e j x he hx=> ?_
   ·subst h0;exact List.eq_nil_of_length_eq_zero (by simpa using hlen.symm)
   ·obtain⟨e0,x0,h1,h2⟩:=both i e j x he hx;exact hc i e0 j x0 h1 h2
   ·obtain⟨e0,x0,h1,h2⟩:=both i e j x he hx;exact ih i e0 e j x0 x h1 he h2 hx (hr' i e0 j x0 h1 h2)
theorem HR.thaw(r:HR G ι h w)(h0:h[0]? =some (.am m)):HR (fun b=>G b\/∃x,m b=some x) ι (h.set 0 .dead) w/\Ext G ι h w (fun b=>G b\/∃x,m b=some x) ι (h.set 0 .dead) w/\
    ∀b x,m b=some x->(G b\/∃x,m b=some x)/\ABR (fun b=>G b\/∃x,m b=some x) w b x:=by
  have hgm:∀b,G b->(G b\/∃x,m b=some x)/\w.heap[b]? =w.heap[b]? :=fun b hb=>⟨.inl hb,rfl⟩
  have hext:Ext G ι h w (fun b=>G b\/∃x,m b=some x) ι (h.set 0 .dead) w:=
    { size:=Nat.le_refl _
      quiet:=⟨rfl,rfl,rfl,Nat.le_refl _⟩
      frame:=fun _ _ _=>rfl
      gmono:=fun _ h=> .inl h
      gnew:=fun b hb=>by
        rcases hb with h|⟨x,hx⟩
        · exact .inl h
        · exact .inr (.inr (Qcf h0 hx))
      onew:=fun b ho=> .inl (QbR h0 Qcb ho)
      keep:=fun l k hk=>by
        by_cases e:0=l
        · subst e
          exact⟨.dead,by rw[List.getElem?_set_self (Qaa h0)],by cases k<;>trivial⟩
        · exact⟨k,by rw[List.getElem?_set_ne e];exact hk,Kept.refl ι w l k⟩}
  refine⟨?_,hext,fun b x hx=>⟨.inr ⟨x,hx⟩,(r.blk 0 _ h0 b x hx).mono hgm rfl⟩⟩;exact
    { len:=by simp[r.len]
      own:=QlW r
      g:=fun b hb=>by
        rcases hb with hb|⟨x,hx⟩
        · exact⟨(r.g b hb).1,fun ho=>(r.g b hb).2 (QbR h0 Qcb ho)⟩
        · refine⟨Qay r (Qcf h0 hx),fun⟨l,k,g1,g2⟩=> ?_⟩
          rcases Qam g1 with ⟨_,e2,_⟩|⟨e0,e1⟩
          · subst e2;exact Qcb g2
          · exact e0 (r.own 0 l b _ k h0 e1 ⟨x,hx⟩ g2).symm
      blk:=fun l k hk=>by
        rcases Qam hk with ⟨_,d2,_⟩|⟨_,d1⟩
        · subst d2;trivial
        · exact BR.ext hext r d1 rfl fun _ _=>rfl}
end
def am0:Ar:=fun _=>none
theorem HR.am0{G:Nat->Prop}{w:World}{ι:Io}(r:HR G ι [] w):HR G [(0,0)] [.am am0] w:=
  { len:=rfl
    own:=fun l l' b k k' h1 h2 _ _=>by
      have:=Qaa h1;have:=Qaa h2;simp at *;omega
    g:=fun b hb=>⟨(r.g b hb).1,fun⟨l,k,h1,h2⟩=>by
      have hl:l=0:=by have:=Qaa h1;simpa using this
      subst hl;cases h1;obtain⟨x,hx⟩:=h2;cases hx⟩
    blk:=fun l k h1=>by
      have hl:l=0:=by have:=Qaa h1;simpa using this
      subst hl;cases h1;intro b x hx;cases hx}
open Go.Proofs
def Qc8(sz:Nat)(m:Ar)(d:D)(l:List (List D)):Prop:=
 (d= .list true sz []/\l=[])\/∃b N cap,d= .sl b 0 sz l.length cap/\m b=some (.cs N l.flatten)/\(∀e∈l,e.length=sz)/\l.length<=cap/\cap*sz<=N
structure RowsR (sz:Nat) (m:Ar) (es:List (List D)) (rows:List (List (List D))):Prop where
 len:es.length=rows.length
 one:∀(j:Nat) (e:List D),es[j]? =some e->∃d,e=[d]
 row:∀(j:Nat) (d:D) (l:List (List D)),es[j]? =some [d]->rows[j]? =some l->Qc8 sz m d l
 dis:∀(i j b o n c o' n' c':Nat),es[i]? =some [.sl b o sz n c]->es[j]? =some [.sl b o' sz n' c']->i=j
theorem RowsR.nils(sz k:Nat)(m:Ar):RowsR sz m (List.replicate k [.list true sz []]) (List.replicate k [])where
 len:=by simp
 one j e h:=by
  rw[List.getElem?_replicate]at h;split at h<;>cases h;exact⟨_,rfl⟩
 row j d l h1 h2:=by
  rw[List.getElem?_replicate]at h1 h2;split at h1<;>simp_all
  exact .inl ⟨h1.symm,rfl⟩
 dis i j b o n c o' n' c' h1 h2:=by
  rw[List.getElem?_replicate]at h1;split at h1<;>simp at h1
theorem QuR{α:Type}{l:List α}{i:Nat}{a x:α}(h:(l.set i a)[i]? =some x):x=a:=by
 rcases Qam h with ⟨_,h,_⟩|⟨h,_⟩
 ·exact h
 ·exact absurd rfl h
theorem RowsR.put{sz:Nat}{m m':Ar}{es:List (List D)}{rows:List (List (List D))}(h:RowsR sz m es rows){j b' N' cap':Nat}{l':List (List D)}(hm':m' b'=some (.cs N' l'.flatten))
 (hs:∀e∈l',e.length=sz)(hcap:l'.length<=cap')(hN:cap'*sz<=N')(hfree:∀(i o n c:Nat),i≠j->es[i]? =some [.sl b' o sz n c]->False)(hsame:∀(i b o n c:Nat),i≠j->es[i]? =some [.sl b o sz n c]->m' b=m b):
  RowsR sz m' (es.set j [.sl b' 0 sz l'.length cap']) (rows.set j l')where
 len:=by simp[h.len]
 one i e he:=by
  rcases Qam he with ⟨_,he,_⟩|⟨_,he⟩
  ·exact⟨_,he⟩
  ·exact h.one i e he
 row i d l h1 h2:=by
  rcases Qam h1 with ⟨e1,e2,_⟩|⟨e1,e2⟩
  ·subst e1;have:=QuR h2;subst this;cases e2;exact .inr ⟨b',N',cap',rfl,hm',hs,hcap,hN⟩
  ·rw[List.getElem?_set_ne (fun e=>e1 e.symm)]at h2;rcases h.row i d l e2 h2 with hr|⟨b,N,cap,rfl,r2,r3⟩
   ·exact .inl hr
   ·exact .inr ⟨b,N,cap,rfl,by rw[hsame i b _ _ _ e1 e2];exact r2,r3⟩
 dis i k b o n c o' n' c' h1 h2:=by
  rcases Qam h1 with ⟨e1,e2,_⟩|⟨e1,e2⟩<;>rcases Qam h2 with ⟨f1,f2,_⟩|⟨f1,f2⟩
  ·omega
  ·cases e2;exact(hfree k _ _ _ f1 f2).elim
  ·cases f2;exact(hfree i _ _ _ e1 e2).elim
  ·exact h.dis i k b o n c o' n' c' e2 f2
theorem RowsR.key{sz:Nat}{m:Ar}{es:List (List D)}{rows:List (List (List D))}(h:RowsR sz m es rows){i b o n c:Nat}(he:es[i]? =some [.sl b o sz n c]):∃x,m b=some x:=by
 have hi:=Qaa he;rcases h.row i _ _ he (lgE (by rw[←h.len];exact hi))with ⟨h1,_⟩|⟨b',N,cap,h1,h2,_⟩
 ·cases h1
 ·cases h1;exact⟨_,h2⟩
theorem RowsR.first{sz:Nat}{m:Ar}{es:List (List D)}{rows:List (List (List D))}(h:RowsR sz m es rows){j b' N' cap':Nat}{l':List (List D)}(hm:m b'=none)
 (hs:∀e∈l',e.length=sz)(hcap:l'.length<=cap')(hN:cap'*sz<=N'):RowsR sz (mup m b' (.cs N' l'.flatten)) (es.set j [.sl b' 0 sz l'.length cap']) (rows.set j l'):=
 h.put (Qbb _ _ _) hs hcap hN (fun i o n c _ he=>by obtain⟨x,hx⟩:=h.key he;rw[hm]at hx;cases hx)
  fun i b o n c _ he=>by
   obtain⟨x,hx⟩:=h.key he;exact Qan fun e=>by rw[e,hm]at hx;cases hx
theorem RowsR.thaw{sz:Nat}{m:Ar}{es:List (List D)}{rows:List (List (List D))}(h:RowsR sz m es rows)(hb:∀l∈rows,l.length<=9223372036854775807):ThD m (.list false 1 es) (.list false 1 (rows.map fun l=>[.list false sz l])):=by
 refine .list _ _ _ _ (by simp[h.len]) (fun i e he=> ?_) fun i e e' j x x' he he' hx hx'=> ?_
 ·simp only[gtm,omi]at he;obtain⟨_,_,rfl⟩:=he;rfl
 ·simp only[gtm,omi]at he';obtain⟨l,hl,rfl⟩:=he';obtain⟨d,rfl⟩:=h.one i e he;have hj:j=0:=by have:=Qaa hx;simpa using this
  subst hj;simp only[List.getElem?_cons_zero,osi]at hx hx';subst hx hx';rcases h.row i d l he hl with ⟨rfl,rfl⟩|⟨b,N,cap,rfl,hm,hs,hc,hN⟩
  ·exact .fg _
  ·have hl2:=hb l (mgE hl);refine .row b 0 sz l.length cap N l.flatten l (fun i j=>l.flatten.getD (i*sz+j) default) hm rfl hc hl2 (fun i e he=>hs e (mgE he)) (fun i e j x he hx=> ?_) fun i e j x he hx=> ?_
   ·rw[Nat.zero_add,List.getD_eq_getElem?_getD,Qck hs he hx];rfl
   ·simp only[List.getD_eq_getElem?_getD,Qck hs he hx,Option.getD_some];exact .same _
abbrev WSt:=Int×List Seg
abbrev Qud (s:WSt):List UInt8:=nameS s.1 (s.2.map pr2)
theorem Que{s s':WSt}(h:Qud s=Qud s'):s=s':=by
 obtain⟨h1,h2⟩:=Quq h;refine Prod.ext h1 ?_;have:∀(l l':List Seg),l.map pr2=l'.map pr2->l=l':=by
  intro l;induction l with
  |nil=>intro l' h;cases l' with|nil=>rfl|cons=>simp at h
  |cons x l ih=>
   intro l' h;cases l' with
   |nil=>simp at h
   |cons y l'=>
    simp only[List.map_cons,List.cons.injEq,pr2,pmi]at h;rw[ih l' h.2];obtain⟨x1,x2⟩:=x;obtain⟨y1,y2⟩:=y;simp only at h;rw[h.1.1,h.1.2]
 exact this _ _ h2
section
structure Wlk where
 (ar:WSt->List Int) (rs:WSt->Int) (to:WSt->Int->WSt)
abbrev Wlk.nx (g:Wlk):WSt->List WSt:=nxt g.ar g.to
def QfY(b:Nat):List D:=[.adr b 0]
def plD(g:Wlk)(s:WSt)(nx:D)(op:Bool)(k:Int):List D:=[iD s.1,iD (g.rs s),.list false 1 ((g.ar s).map QaA),nx,.bool op,iD k]
def Qme(K:Kn WSt)(al:List Nat)(y:WSt)(a:Nat):Prop:=∃j:Nat,(K.map (·.1))[j]? =some y/\al[j]? =some a
def QkN(K:Kn WSt)(al:List Nat)(ys:List WSt)(ads:List Nat):Prop:=ads.length=ys.length/\∀(i:Nat) (y:WSt) (a:Nat),ys[i]? =some y->ads[i]? =some a->Qme K al y a
def InB(d:D)(b:Nat):Prop:=∃o z n cap,d= .sl b o z n cap
structure PlOK (g:Wlk) (m:Ar) (K:Kn WSt) (al:List Nat) (S:Nat->Prop) (s:WSt) (k:Int) (b:Nat):Prop where
 at_:S b
 ex:∃N nx ads,m b=some (.cs N (plD g s nx false k))/\Qc8 1 m nx (ads.map QfY)/\(∀i,InB nx i->S i)/\QkN K al (g.nx s) ads
def OpP(m:Ar)(b:Nat):Prop:=∃N xs n,m b=some (.cs N xs)/\xs.length=6/\xs[4]? =some (.bool true)/\xs[5]? =some (iD n)
structure PI (g:Wlk) (m:Ar) (K:Kn WSt) (al:List Nat) (S:Nat->Prop) (d:D):Prop where
 len:al.length=K.length
 nd:al.Nodup
 row:Qc8 1 m d (al.map QfY)
 rowS:∀b,InB d b->¬S b/\b∉al
 inm:∀b∈al,m b≠none
 sm:∀b,S b->m b≠none
 pl:∀(j:Nat) (s:WSt) (k:Int) (b:Nat),K[j]? =some (s,some k)->al[j]? =some b->PlOK g m K al S s k b
 op:∀(j:Nat) (s:WSt) (b:Nat),K[j]? =some (s,none)->al[j]? =some b->OpP m b/\¬S b
theorem Qme.up{K K':Kn WSt}{al al':List Nat}{y:WSt}{a:Nat}(h:Qme K al y a)(hK:∃r,K'.map (·.1)=K.map (·.1)++r)(ha:∃r,al'=al++r):Qme K' al' y a:=by
 obtain⟨j,h1,h2⟩:=h;obtain⟨r1,e1⟩:=hK;obtain⟨r2,e2⟩:=ha;exact⟨j,by rw[e1,gal (Qaa h1)];exact h1,by rw[e2,gal (Qaa h2)];exact h2⟩
theorem QkN.up{K K':Kn WSt}{al al':List Nat}{ys:List WSt}{ads:List Nat}(h:QkN K al ys ads)(hK:∃r,K'.map (·.1)=K.map (·.1)++r)(ha:∃r,al'=al++r):QkN K' al' ys ads:=
 ⟨h.1,fun i y a h1 h2=>(h.2 i y a h1 h2).up hK ha⟩
theorem QkN.snoc{K:Kn WSt}{al:List Nat}{ys:List WSt}{ads:List Nat}{y:WSt}{a:Nat}(h:QkN K al ys ads)(hy:Qme K al y a):QkN K al (ys++[y]) (ads++[a]):=by
 refine⟨by rw[List.length_append,List.length_append,h.1];rfl,fun i z b h1 h2=> ?_⟩;by_cases hi:i<ys.length
 ·rw[gal hi]at h1;rw[gal (by rw[h.1];exact hi)]at h2;exact h.2 i z b h1 h2
 ·rw[List.getElem?_append_right (by omega)]at h1;rw[List.getElem?_append_right (by rw[h.1];omega),h.1]at h2;have:i-ys.length=0:=by have:=Qaa h1;simp at this;omega
  rw[this]at h1 h2;cases h1;cases h2;exact hy
theorem Qc8.frame{sz:Nat}{m m':Ar}{d:D}{l:List (List D)}(h:Qc8 sz m d l)(hm:∀i,InB d i->m' i=m i):Qc8 sz m' d l:=by
 rcases h with h|⟨b,N,cap,h1,h2,h3⟩
 ·exact .inl h
 ·exact .inr ⟨b,N,cap,h1,(hm b ⟨_,_,_,_,h1⟩).trans h2,h3⟩
theorem Qc8.key'{sz:Nat}{m:Ar}{d:D}{l:List (List D)}(h:Qc8 sz m d l){b:Nat}(hb:InB d b):m b≠none:=by
 obtain⟨o,z,n,cap,e⟩:=hb;rcases h with ⟨h,_⟩|⟨b',N,cap',h1,h2,_⟩
 ·rw[h]at e;cases e
 ·rw[h1]at e;cases e;rw[h2];simp
theorem PlOK.frame{g:Wlk}{m m':Ar}{K:Kn WSt}{al:List Nat}{S:Nat->Prop}{s:WSt}{k:Int}{b:Nat}(h:PlOK g m K al S s k b)(hm:∀i,S i->m' i=m i):PlOK g m' K al S s k b:=by
 obtain⟨N,nx,ads,h1,h2,h3,h4⟩:=h.ex;exact⟨h.at_,N,nx,ads,(hm b h.at_).trans h1,h2.frame fun i hi=>hm i (h3 i hi),h3,h4⟩
theorem PlOK.up{g:Wlk}{m:Ar}{K K':Kn WSt}{al al':List Nat}{S S':Nat->Prop}{s:WSt}{k:Int}{b:Nat}(h:PlOK g m K al S s k b)(hK:∃r,K'.map (·.1)=K.map (·.1)++r)(ha:∃r,al'=al++r)(hS:∀i,S i->S' i):PlOK g m K' al' S' s k b:=by
 obtain⟨N,nx,ads,h1,h2,h3,h4⟩:=h.ex;exact⟨hS _ h.at_,N,nx,ads,h1,h2,fun i hi=>hS i (h3 i hi),h4.up hK ha⟩
theorem PI.frame{g:Wlk}{m m':Ar}{K:Kn WSt}{al:List Nat}{S:Nat->Prop}{d:D}(h:PI g m K al S d)(hm:∀i,S i\/i∈al\/InB d i->m' i=m i):PI g m' K al S d where
 len:=h.len
 nd:=h.nd
 row:=h.row.frame fun i hi=>hm i (.inr (.inr hi))
 rowS:=h.rowS
 inm b hb:=by rw[hm b (.inr (.inl hb))];exact h.inm b hb
 sm b hb:=by rw[hm b (.inl hb)];exact h.sm b hb
 pl j s k b h1 h2:=(h.pl j s k b h1 h2).frame fun i hi=>hm i (.inl hi)
 op j s b h1 h2:=by
  obtain⟨⟨N,xs,n,a1,a2⟩,a3⟩:=h.op j s b h1 h2;exact⟨⟨N,xs,n,(hm b (.inr (.inl (mgE h2)))).trans a1,a2⟩,a3⟩
theorem PI.write{g:Wlk}{m m':Ar}{K:Kn WSt}{al:List Nat}{S:Nat->Prop}{d:D}(h:PI g m K al S d){jx:Nat}{s:WSt}{bx N:Nat}{xs:List D}{n:Int}(h1:K[jx]? =some (s,none))(h2:al[jx]? =some bx)
 (hm':m'=mup m bx (.cs N xs))(hl:xs.length=6)(h4:xs[4]? =some (.bool true))(h5:xs[5]? =some (iD n)):PI g m' K al S d:=by
 have hbx:=mgE h2;have hS:=(h.op jx s bx h1 h2).2;have hne:∀i,i≠bx->m' i=m i:=fun i hi=>by rw[hm'];exact Qan hi
 have hat:m' bx=some (.cs N xs):=by rw[hm'];exact Qbb _ _ _
 have hr:∀i,InB d i->i≠bx:=fun i hi e=>(h.rowS i hi).2 (by rw[e];exact hbx)
 have hs:∀i,S i->i≠bx:=fun i hi e=>hS (by rw[←e];exact hi)
 refine⟨h.len,h.nd,h.row.frame fun i hi=>hne i (hr i hi),h.rowS,fun b hb=> ?_,fun b hb=> ?_,fun j s k b e1 e2=>(h.pl j s k b e1 e2).frame fun i hi=>hne i (hs i hi),fun j s' b e1 e2=> ?_⟩
 ·by_cases e:b=bx
  ·rw[e,hat];simp
  ·rw[hne b e];exact h.inm b hb
 ·rw[hne b (hs b hb)];exact h.sm b hb
 ·by_cases e:b=bx
  ·subst e;exact⟨⟨N,xs,n,hat,hl,h4,h5⟩,hS⟩
  ·obtain⟨⟨N',xs',n',a1,a2⟩,a3⟩:=h.op j s' b e1 e2;exact⟨⟨N',xs',n',(hne b e).trans a1,a2⟩,a3⟩
theorem PI.done{g:Wlk}{m m':Ar}{K:Kn WSt}{al:List Nat}{S:Nat->Prop}{d:D}(h:PI g m K al S d)(hnd:(K.map (·.1)).Nodup){jx:Nat}{s:WSt}{bx N:Nat}{nx:D}{ads:List Nat}{k:Int}(h1:K[jx]? =some (s,none))(h2:al[jx]? =some bx)
 (hm':m'=mup m bx (.cs N (plD g s nx false k)))(hrow:Qc8 1 m nx (ads.map QfY))(hnx:∀i,InB nx i->i∉al/\¬InB d i)(had:QkN K al (g.nx s) ads):
  PI g m' (QkH K s k) al (fun i=>S i\/i=bx\/InB nx i) d:=by
 have hbx:=mgE h2;have hS:=(h.op jx s bx h1 h2).2;have hne:∀i,i≠bx->m' i=m i:=fun i hi=>by rw[hm'];exact Qan hi
 have hat:m' bx=some (.cs N (plD g s nx false k)):=by rw[hm'];exact Qbb _ _ _
 have hr:∀i,InB d i->i≠bx:=fun i hi e=>(h.rowS i hi).2 (by rw[e];exact hbx)
 have hs:∀i,S i->i≠bx:=fun i hi e=>hS (by rw[←e];exact hi)
 have hx:∀i,InB nx i->i≠bx:=fun i hi e=>(hnx i hi).1 (by rw[e];exact hbx)
 have hK:∃r,(QkH K s k).map (·.1)=K.map (·.1)++r:=⟨[],by rw[QgY];simp⟩;have ha:∃r,al=al++r:=⟨[],by simp⟩;have hrow':Qc8 1 m' nx (ads.map QfY):=hrow.frame fun i hi=>hne i (hx i hi)
 have hset:∀(j:Nat) (s':WSt) (c:Option Int),(QkH K s k)[j]? =some (s',c)->(s'=s/\c=some k/\∃c0,K[j]? =some (s,c0))\/(s'≠s/\K[j]? =some (s',c)):=by
  intro j s' c hj;rw[QkH,gtm,omi]at hj;obtain⟨⟨x,c0⟩,e1,e2⟩:=hj;simp only at e2;split at e2
  ·rename_i e;cases e2;subst e;exact .inl ⟨rfl,rfl,c0,e1⟩
  ·rename_i e;cases e2;exact .inr ⟨e,e1⟩
 have hj:∀(j:Nat) (c0:Option Int),K[j]? =some (s,c0)->j=jx:=by
  intro j c0 hj;have a1:(K.map (·.1))[j]? =some s:=by rw[gtm,hj];rfl
  have a2:(K.map (·.1))[jx]? =some s:=by rw[gtm,h1];rfl
  have l1:=Qaa a1;exact(List.getElem?_inj l1 hnd).1 (a1.trans a2.symm)
 refine⟨by rw[h.len,QkH,List.length_map],h.nd,h.row.frame fun i hi=>hne i (hr i hi),fun b hb=>⟨?_,(h.rowS b hb).2⟩,fun b hb=> ?_,?_,?_,?_⟩
 ·rintro(e|e|e)
  ·exact(h.rowS b hb).1 e
  ·exact hr b hb e
  ·exact(hnx b e).2 hb
 ·by_cases e:b=bx
  ·rw[e,hat];simp
  ·rw[hne b e];exact h.inm b hb
 ·rintro b (e|e|e)
  ·rw[hne b (hs b e)];exact h.sm b e
  ·rw[e,hat];simp
  ·exact hrow'.key' e
 ·intro j s' k' b e1 e2;rcases hset j s' _ e1 with ⟨rfl,e3,c0,e4⟩|⟨e3,e4⟩
  ·cases e3;obtain rfl:=hj j c0 e4;rw[h2]at e2;cases e2;exact⟨.inr (.inl rfl),N,nx,ads,hat,hrow',fun i hi=> .inr (.inr hi),had.up hK ha⟩
  ·exact((h.pl j s' k' b e4 e2).frame fun i hi=>hne i (hs i hi)).up hK ha fun i hi=> .inl hi
 ·intro j s' b e1 e2;rcases hset j s' _ e1 with ⟨_,e3,_⟩|⟨e3,e4⟩
  ·cases e3
  ·have hb:b≠bx:=by
    intro e;rw[e]at e2;have l1:=Qaa e2;have:j=jx:=(List.getElem?_inj l1 h.nd).1 (e2.trans h2.symm);rw[this,h1]at e4;cases e4;exact e3 rfl
   obtain⟨⟨N',xs',n',a1,a2⟩,a3⟩:=h.op j s' b e4 e2;refine⟨⟨N',xs',n',(hne b hb).trans a1,a2⟩,?_⟩;rintro(e|e|e)
   ·exact a3 e
   ·exact hb e
   ·exact(hnx b e).1 (mgE e2)
theorem PI.new{g:Wlk}{m m':Ar}{K:Kn WSt}{al:List Nat}{S:Nat->Prop}{d d':D}(h:PI g m K al S d){s:WSt}{bx:Nat}(hb:m bx=none)(hop:OpP m' bx)(hm:∀i,S i\/i∈al->m' i=m i)
 (hrow:Qc8 1 m' d' ((al++[bx]).map QfY))(hd:∀i,InB d' i->i≠bx/\(InB d i\/m i=none)):PI g m' (K++[(s,none)]) (al++[bx]) S d':=by
 have hK:∃r,(K++[((s,none):WSt×Option Int)]).map (·.1)=K.map (·.1)++r:=⟨[s],by rw[List.map_append];rfl⟩;have ha:∃r,al++[bx]=al++r:=⟨_,rfl⟩;have hbs:¬S bx:=fun e=>h.sm bx e hb
 have hba:bx∉al:=fun e=>h.inm bx e hb
 refine⟨by simp[h.len],?_,hrow,fun b e=> ?_,fun b e=> ?_,fun b e=>by rw[hm b (.inl e)];exact h.sm b e,fun j s' k b e1 e2=> ?_,fun j s' b e1 e2=> ?_⟩
 ·rw[List.nodup_append];exact⟨h.nd,by simp,fun x hx y hy e=>by simp at hy;rw[e,hy]at hx;exact hba hx⟩
 ·obtain⟨e1,e2⟩:=hd b e;rcases e2 with e2|e2
  ·obtain⟨q1,q2⟩:=h.rowS b e2;exact⟨q1,fun hx=>by rcases List.mem_append.1 hx with hx|hx;exact q2 hx;simp at hx;exact e1 hx⟩
  ·exact⟨fun hs=>h.sm b hs e2,fun hx=>by rcases List.mem_append.1 hx with hx|hx;exact h.inm b hx e2;simp at hx;exact e1 hx⟩
 ·rcases List.mem_append.1 e with e|e
  ·rw[hm b (.inr e)];exact h.inm b e
  ·simp at e;subst e;obtain⟨N,xs,n,a1,_⟩:=hop;rw[a1];simp
 ·have hj:j<K.length:=by
   rcases Nat.lt_or_ge j K.length with hj|hj
   ·exact hj
   ·rw[List.getElem?_append_right hj]at e1;have:j-K.length=0:=by have:=Qaa e1;simp at this;omega
    rw[this]at e1;simp at e1
  rw[gal hj]at e1;rw[gal (by rw[h.len];exact hj)]at e2;exact((h.pl j s' k b e1 e2).frame fun i hi=>hm i (.inl hi)).up hK ha fun _ hi=>hi
 ·by_cases hj:j<K.length
  ·rw[gal hj]at e1;rw[gal (by rw[h.len];exact hj)]at e2;obtain⟨⟨N',xs',n',a1,a2⟩,a3⟩:=h.op j s' b e1 e2;exact⟨⟨N',xs',n',(hm b (.inr (mgE e2))).trans a1,a2⟩,a3⟩
  ·rw[List.getElem?_append_right (by rw[h.len];omega)]at e2;have:b=bx:=by
    have:=mgE e2;simpa using this
   subst this;exact⟨hop,hbs⟩
end
def msS(K:Kn WSt)(al:List Nat):Ssc:=(K.zip al).map fun q=>(Qud q.1.1,.s (.adr q.2 0))
theorem Qup{K:Kn WSt}{al:List Nat}(hl:al.length=K.length)(s:WSt)(b:Nat):msS (K++[(s,none)]) (al++[b])=msS K al++[(Qud s,.s (.adr b 0))]:=by
 rw[msS,List.zip_append hl.symm,List.map_append];rfl
theorem QwG(K:Kn WSt)(al:List Nat)(s:WSt)(k:Int):msS (QkH K s k) al=msS K al:=by
 rw[msS,msS,QkH,List.zip_map_left,List.map_map];apply List.map_congr_left;rintro⟨⟨x,c⟩,b⟩ _;simp only[Function.comp,Prod.map];split<;>rfl
theorem Quo{K:Kn WSt}{al:List Nat}(hl:al.length=K.length){s:WSt}(h:sfind (Qud s) (msS K al) 0=none):lkK K s=none:=by
 rw[QqM,msS,List.map_map]at h;rw[Qg3];intro hs;obtain⟨⟨x,c⟩,hx,e⟩:=List.mem_map.1 hs;simp only at e;obtain⟨j,hj⟩:=List.getElem?_of_mem hx;have hlt:=Qaa hj;have ha:al[j]? =some (al[j]'(by omega)):=lgE _;apply h;refine List.mem_map.2 ⟨((x,c),al[j]'(by omega)),mgE (i:=j) ?_,by simp[e]⟩;rw[List.getElem?_zip_eq_some];exact⟨hj,ha⟩
theorem Qkc{K:Kn WSt}(hnd:(K.map (·.1)).Nodup){j:Nat}{s:WSt}{c:Option Int}(h:K[j]? =some (s,c)):lkK K s=some c:=by
 induction K generalizing j with
 |nil=>simp at h
 |cons p K ih=>
  obtain⟨x,c'⟩:=p;simp only[List.map_cons,List.nodup_cons]at hnd;cases j with
  |zero=>simp at h;obtain⟨rfl,rfl⟩:=h;simp[lkK]
  |succ j=>
   simp only[List.getElem?_cons_succ]at h;have:x≠s:=fun e=>hnd.1 (by rw[e];exact List.mem_map.2 ⟨_,mgE h,rfl⟩)
   rw[lkK,if_neg this];exact ih hnd.2 h
theorem QpB{K:Kn WSt}{al:List Nat}{s:WSt}{i:Nat}{v:DV}(h:sfind (Qud s) (msS K al) 0=some (i,v)):∃c b,K[i]? =some (s,c)/\al[i]? =some b/\v= .s (.adr b 0):=by
 obtain⟨_,h2⟩:=QqN h;rw[Nat.sub_zero,msS,gtm,omi]at h2;obtain⟨⟨⟨x,c⟩,b⟩,h3,h4⟩:=h2;rw[List.getElem?_zip_eq_some]at h3;simp only[pmi]at h4;obtain⟨e1,e2⟩:=h4;have:=Que e1;subst this;exact⟨c,b,h3.1,h3.2,e2.symm⟩
theorem Qxt:∀a:Fin 512,IntKind.i64.wrap ((BitVec.ofInt 64 (a.val:Int) ^^^ BitVec.ofInt 64 1).toNat:Int)=if a.val%2=0 then (a.val:Int)+1 else (a.val:Int)-1:=by
 decide +kernel
theorem Qt7(P:Program)(hP:P=Tryd.prog)(t:Top)(a:Int)(h0:0<=a)(h1:a<2*t.links.length)(h2:(t.links.length:Int)<=256):Ret P QdI [Qa2 t,iA a] (iA (Qom t a)):=by
 have hx:IntKind.i64.wrap ((BitVec.ofInt 64 a ^^^ BitVec.ofInt 64 1).toNat:Int)=if a%2=0 then a+1 else a-1:=by
  have:=Qxt ⟨a.toNat,by omega⟩;simp only at this;rw[show((a.toNat:Nat):Int)=a by omega]at this;rw[this];by_cases hm:a%2=0
  ·rw[if_pos (by omega),if_pos hm]
  ·rw[if_neg (by omega),if_neg hm]
 generalize hb:(if a%2=0 then a+1 else a-1:Int)=b at hx;have ht:=QlJ P hP t b (by rw[←hb];split<;>omega) (by rw[←hb];split<;>omega) h2;have he:Qgb t b=Qom t a:=by
  rw[←hb];unfold Qgb Qom QeP;by_cases hm:a%2=0
  ·rw[if_pos hm,if_pos hm,if_neg (by omega),show(a+1)/2=a/2 by omega]
  ·rw[if_neg hm,if_neg hm,if_pos (by omega),show(a-1)/2=a/2 by omega]
 rw[he]at ht;refine Qag (hP▸mixed) (hP▸Qlv) (hP▸Qms) (nle rfl) fun Λ Λo K hK=> ?_
 clear hP he;generalize Qom t a=hd at*;obtain⟨nodes,ov,links⟩:=t;simp only[Qa2,Qaf,Qak]at*;generalize hol:ov.map QbA=ol at*;generalize hll:links.map QaL=ll at*;have hlo:Λ ol=ov.length:=by rw[Λo,←hol];simp
 have hls:Λ ll=links.length:=by rw[Λo,←hll];simp
 conv=>cbv
 repeat' first|exact gu|exact trivial|refine And.intro ?_ ?_|(intro hc;first|exact absurd hc (by decide)|(exfalso;omega)|((first|rw[wS (by omega) (by omega)]at hc|rw[Qad]at hc|skip);try (conv=>cbv)))|refine CallG.old ?_
 refine⟨.int .i64 b,?_,?_⟩
 ·rw[←hx];rfl
 rintro _ rfl
 conv=>cbv
 repeat' first|refine QdX ht rfl rfl ?_|exact gu|exact trivial|refine And.intro ?_ ?_|(intro hc;first|exact absurd hc (by decide)|(exfalso;omega)|((first|rw[wS (by omega) (by omega)]at hc|rw[Qad]at hc|skip);try (conv=>cbv)))|refine CallG.old ?_
 all_goals (subst hc;exact hK)
def Qyg(h:Hp)(ρ:Nat->Nat):Nat->Hp->Prop
 |_,[]=>True
 |n,k::r=>h[ρ n]? =some (rnB ρ k)/\Qyg h ρ (n+1) r
theorem Qpo{h:Hp}{ρ:Nat->Nat}:∀{hc:Hp} {n:Nat},Qyg h ρ n hc->∀i k,hc[i]? =some k->h[ρ (n+i)]? =some (rnB ρ k):=by
 intro hc;induction hc with
 |nil=>intro n _ i k h;simp at h
 |cons b r ih=>
  intro n ⟨h1,h2⟩ i k hk;cases i with
  |zero=>simp at hk;subst hk;exact h1
  |succ i=>
   simp at hk;have:=ih h2 i k hk;rw[show n+1+i=n+(i+1)by omega]at this;exact this
theorem QaI{P:Program}{m:Nat}{L:Lv}{h:Hp}{f:Nat}{xs:List X}{K:Lv->AV->Hp->Prop}{args:List AV}{hc:Hp}{R:AV->Hp->Prop}(σ:List Nat)(hf:FnS P f args hc R)(ha:Qh2 L xs=rnAs (rho σ h.length) args)(hlen:σ.length=hc.length)(hnd:σ.Nodup)
 (hh:Qyg h (rho σ h.length) 0 hc)(hcl:Qc3 hc.length hc=true)(hca:args.all (QeO hc.length)=true)(k:∀r hc',R r hc'->K L (rnA (rho σ h.length) r) (QgI h σ hc')):CallS P m false L h f xs K:=by
 refine .fn ?_;rw[ha];refine(hf.frame σ h hlen hnd (fun i b hb=>by have:=Qpo hh i b hb;rw[Nat.zero_add]at this;exact this) hcl fun x hx=>List.all_eq_true.1 hca x hx).mono ?_;rintro r h' ⟨r0,hc',h1,rfl,rfl⟩;exact k r0 hc' h1
theorem Qel{P:Program}{h:Hp}{f:Nat}{args':List AV}{K:AV->Hp->Prop}{args:List AV}{hc:Hp}{R:AV->Hp->Prop}(σ:List Nat)(hf:FnS P f args hc R)(ha:args'=rnAs (rho σ h.length) args)(hlen:σ.length=hc.length)(hnd:σ.Nodup)
 (hh:Qyg h (rho σ h.length) 0 hc)(hcl:Qc3 hc.length hc=true)(hca:args.all (QeO hc.length)=true)(k:∀r hc',R r hc'->K (rnA (rho σ h.length) r) (QgI h σ hc')):CallV P h f args' K:=by
 refine .fn ?_;rw[ha];refine(hf.frame σ h hlen hnd (fun i b hb=>by have:=Qpo hh i b hb;rw[Nat.zero_add]at this;exact this) hcl fun x hx=>List.all_eq_true.1 hca x hx).mono ?_;rintro r h' ⟨r0,hc',h1,rfl,rfl⟩;exact k r0 hc' h1
def Qr3(t:Top)(down:List Bool)(e:Int)(fr:Bool)(D:List Int):Bool:=
 decide ((D.length:Int)=t.nodes)&&decide (gt D e=0)&&((List.range D.length).all fun i=>decide (-1<=gt D (i:Nat)))&&
 ((List.range (2*t.links.length)).all fun a=> !(Qf5 t down e fr (a:Nat)&&decide (0<=gt D (yOf t fr (a:Nat))))||(decide (0<=gt D (xOf t fr (a:Nat)))&&decide (gt D (xOf t fr (a:Nat))<=gt D (yOf t fr (a:Nat))+Qbt t (a:Nat))))&&
 ((List.range D.length).all fun x=>decide ((x:Int)=e)||decide (gt D (x:Nat)<0)||(List.range (2*t.links.length)).any fun a=>Qf5 t down e fr (a:Nat)&&decide (xOf t fr (a:Nat)=(x:Nat))&&decide (0<=gt D (yOf t fr (a:Nat)))&&decide (gt D (x:Nat)=gt D (yOf t fr (a:Nat))+Qbt t (a:Nat)))
theorem Qfo{t:Top}{down:List Bool}{e:Int}{fr:Bool}{D:List Int}(h:Qr3 t down e fr D=true):IsDist t down e fr D:=by
 simp only[Qr3,Bool.and_eq_true,decide_eq_true_eq,List.all_eq_true,List.mem_range,Bool.or_eq_true,Bool.not_eq_true',List.any_eq_true]at h;obtain⟨⟨⟨⟨h1,h2⟩,h3⟩,h4⟩,h5⟩:=h;refine⟨h1,h2,fun i i0 i1=> ?_,fun a a0 a1=> ?_,fun x x0 x1 hx hd=> ?_⟩
 ·have:=h3 i.toNat (by omega);rw[show((i.toNat:Nat):Int)=i by omega]at this;exact this
 ·have:=h4 a.toNat (by omega);rw[show((a.toNat:Nat):Int)=a by omega]at this;intro ho hy;rcases this with h|h
  ·rw[ho,decide_eq_true hy]at h;cases h
  ·exact h
 ·have:=h5 x.toNat (by omega);rw[show((x.toNat:Nat):Int)=x by omega]at this;rcases this with (h|h)|⟨a,ha,⟨⟨q1,q2⟩,q3⟩,q4⟩
  ·exact absurd h hx
  ·omega
  ·exact⟨a,by omega,by omega,q1,q2,q3,q4⟩
def QaC:Top:=⟨4,[],[⟨0,1,1,1,0,1,0⟩,⟨1,2,1,1,0,1,0⟩,⟨2,3,1,1,0,1,0⟩,⟨3,0,1,1,0,1,0⟩]⟩
theorem Qfu:Qao QaC=true:=by decide
theorem QwV:Qat QaC [] 0 false=[0,1,2,1]:=Qfi Qfu (Qfo (by decide))
theorem QwW:Qat QaC [] 1 false=[1,0,1,2]:=Qfi Qfu (Qfo (by decide))
theorem QwX:Qat QaC [] 2 false=[2,1,0,1]:=Qfi Qfu (Qfo (by decide))
theorem QwY:Qat QaC [] 3 false=[1,2,1,0]:=Qfi Qfu (Qfo (by decide))
theorem QqP{t:Top}{x:Tab}{p:Pkt}(hv:Qke t x=true)(hd:0<=p.dst/\p.dst<t.nodes)(hh:0<=p.hops/\p.hops<255)(hs:p.stack=[]):
  (p.dst=x.node->Qga t x p=([],p,-1))/\(p.dst≠x.node->(ent x p.dst).arcs.length=0->Qga t x p=([],p,1))/\
  (p.dst≠x.node->0<(ent x p.dst).arcs.length->Qga t x p=((ent x p.dst).arcs,{p with stack:=(ent x p.dst).push,hops:=p.hops+1},0)):=by
 have e0:Qga t x p=Qdv t x p:=by
  unfold Qga;rw[if_pos ⟨hv,hd⟩,hs,if_neg (by simp)];rfl
 have hp:({p with stack:=[]}:Pkt)=p:=by cases p;simp only at hs;subst hs;rfl
 rw[e0];unfold Qdv;refine⟨fun h=> ?_,fun h h'=> ?_,fun h h'=> ?_⟩
 ·rw[if_pos h,hp]
 ·rw[if_neg h,if_neg (by omega),if_neg (by omega)]
 ·rw[if_neg h,if_neg (by omega),if_pos ⟨hd,h'⟩];have hsp:=Qc7.1 hv;have hg:x.to[p.dst.toNat]? =some (ent x p.dst):=by
   have hlt:p.dst.toNat<x.to.length:=by omega
   rw[ent,List.getD_eq_getElem?_getD,lgE hlt];rfl
  have he:=QdZ.1 (hsp.2.2.2.2 _ _ hg);unfold QcY Qds;cases hr:(ent x p.dst).rep with
  |true=>
   have:=he.2.2.1 hr;rw[if_pos rfl,if_neg (by simp;omega)];simp
  |false=>
   have:=he.2.2.2.1 hr;rw[if_neg (by simp)];have hn:(ent x p.dst).push=[]:=List.eq_nil_of_length_eq_zero this;rw[hn]
def Alike(a b:Ans):Prop:=a.1=b.1/\a.2.2=b.2.2/\(0<a.2.2\/a.2.1=b.2.1)
theorem Alike.refl(a:Ans):Alike a a:=⟨rfl,rfl,.inr rfl⟩
theorem Qqz{t:Top}{n:Int}{l:List Int}{i:Nat}{x:Int}(h:Qjs t n l i=true)(hx:l[i]? =some x):Qbm t x=n:=by
 simp only[Qjs,QgZ hx,Bool.and_eq_true,decide_eq_true_eq]at h;exact h.1
structure Bnd (t:Top) (x:Tab) (p:Pkt) (a:Ans):Prop where
 id:a.2.1.id=p.id
 src:a.2.1.src=p.src
 dst:a.2.1.dst=p.dst
 flow:a.2.1.flow=p.flow
 some:a.2.2=0↔0<a.1.length
 no:a.2.2≠0->(a.2.2= -1\/(1<=a.2.2/\a.2.2<=5/\a.2.2≠3))/\a.2.1.hops=p.hops
 yes:a.2.2=0->(∀y∈a.1,Qbm t y=x.node)/\a.2.1.stack.length<=32/\a.2.1.hops=p.hops+1/\0<=p.hops/\p.hops<255
theorem Qdd(t:Top)(x:Tab)(p:Pkt)(r:Int)(hr:r= -1\/(1<=r/\r<=5/\r≠3))(l:List Seg):Bnd t x p ([],{p with stack:=l},r):=
 ⟨rfl,rfl,rfl,rfl,by simp;omega,fun _=>⟨hr,rfl⟩,fun h=>by simp only at h;omega⟩
theorem QiB{t:Top}{x:Tab}{p:Pkt}{l:List Seg}{arcs:List Int}(hh:¬(p.hops<0\/255<=p.hops))(hl:l.length<=32)(ha:0<arcs.length)(ht:∀y∈arcs,Qbm t y=x.node):Bnd t x p (Qds p l arcs):=
 ⟨rfl,rfl,rfl,rfl,by simp[Qds];exact ha,fun h=>absurd rfl h,fun _=>⟨ht,hl,rfl,by omega,by omega⟩⟩
theorem Qph{t:Top}{x:Tab}{n:Int}(hv:Qke t x=true)(hn:0<=n/\n<t.nodes):∀y∈(ent x n).arcs,Qbm t y=x.node:=by
 have hs:=Qc7.1 hv;have hg:x.to[n.toNat]? =some (ent x n):=by
  have hlt:n.toNat<x.to.length:=by omega
  rw[ent,List.getD_eq_getElem?_getD,lgE hlt];rfl
 have he:=QdZ.1 (hs.2.2.2.2 _ _ hg);intro y hy;obtain⟨i,hi,rfl⟩:=List.getElem_of_mem hy;exact Qqz (Qgt.1 he.1 i hi) (lgE hi)
theorem Qmq{t:Top}{x:Tab}{p:Pkt}{l:List Seg}{n:Int}(hv:Qke t x=true)(hh:¬(p.hops<0\/255<=p.hops))(hl:l.length<=32)(hn:(0<=n/\n<t.nodes)/\0<(ent x n).arcs.length):Bnd t x p (QcY p l (ent x n)):=by
 unfold QcY;split
 ·split
  ·exact Qdd t x p 5 (by omega) p.stack
  ·exact QiB hh (by omega) hn.2 (Qph hv hn.1)
 ·exact QiB hh hl hn.2 (Qph hv hn.1)
theorem QiC{t:Top}{x:Tab}{p:Pkt}(hv:Qke t x=true):Bnd t x p (Qdv t x p):=by
 unfold Qdv;split
 ·exact Qdd t x p (-1) (by omega) []
 ·split
  ·exact Qdd t x p 4 (by omega) p.stack
  ·split
   ·rename_i h1 h2 h3;exact Qmq hv h2 (by simp) h3
   ·exact Qdd t x p 1 (by omega) p.stack
theorem Qu0{t:Top}{a n:Int}(hv:Qao t=true)(h:(0<=a/\a<2*t.links.length)/\Qgb t a=n):Qbm t a=n:=by
 unfold Qbm;rw[if_pos ⟨h.1.1,by unfold QbC;rw[if_pos hv];exact h.1.2⟩];exact h.2
theorem Qrr{t:Top}{x:Tab}{p:Pkt}{l:List Seg}(hv:Qke t x=true)(hl:l.length<=32):Bnd t x p (Qea t x p l):=by
 cases l with
 |nil=>exact QiC hv
 |cons s r=>
  simp only[Qea];split
  ·exact Qdd t x p 4 (by omega) p.stack
  ·rename_i hh;split
   ·split
    ·rename_i h3;exact Qmq hv hh hl h3
    ·exact QiC hv
   ·split
    ·split
     ·rename_i h3;split
      ·exact QiC hv
      ·exact QiB hh (by simp only[List.length_cons]at hl;omega) (by simp) fun y hy=>by
        rw[List.mem_singleton.1 hy];exact Qu0 (Qc7.1 hv).1 h3
     ·exact Qdd t x p 2 (by omega) p.stack
    ·exact Qdd t x p 1 (by omega) p.stack
theorem QmN{α:Type}(f:α->Bool)(l:List α):(l.dropWhile f).length<=l.length:=by
 induction l with
 |nil=>simp
 |cons a l ih=>rw[List.dropWhile_cons];split<;>simp only[List.length_cons]<;>omega
theorem Qo4(t:Top)(x:Tab)(p:Pkt):Bnd t x p (Qga t x p):=by
 unfold Qga;split
 ·rename_i h;split
  ·exact Qdd t x p 5 (by omega) p.stack
  ·exact Qrr h.1 (by have:=QmN (fun s=>decide (s=⟨1,x.node⟩)) p.stack;unfold Qfe;omega)
 ·exact Qdd t x p 1 (by omega) p.stack
abbrev QAg:=List Int×List Seg×Int
def fin(p:Pkt)(a:QAg):Ans:=
 if a.2.2= -1 then (a.1,{p with stack:=[]},a.2.2)else if a.2.2=0 then (a.1,{p with stack:=a.2.1,hops:=p.hops+1},a.2.2)else (a.1,p,a.2.2)
def ltK(K:List Int)(a b:Int):Prop:=K.getD a.toNat 0<K.getD b.toNat 0\/(K.getD a.toNat 0=K.getD b.toNat 0/\a<b)
instance (K:List Int) (a b:Int):Decidable (ltK K a b):=by unfold ltK;infer_instance
def leK(K:List Int)(a b:Int):Prop:=¬ltK K b a
theorem Qul(K:List Int)(a:Int):leK K a a:=by unfold leK ltK;omega
theorem Qgm{K:List Int}{a b c:Int}(h1:leK K a b)(h2:leK K b c):leK K a c:=by unfold leK ltK at *;omega
theorem Qyv{K:List Int}{a b:Int}(h:ltK K a b):leK K a b:=by unfold leK ltK at *;omega
theorem Qwz{K:List Int}{a b:Int}(h:leK K a b):K.getD a.toNat 0<=K.getD b.toNat 0:=by unfold leK ltK at *;omega
abbrev at' (O:List Int) (p:Nat):Int:=O.getD p 0
structure Pre (K O:List Int) (p:Nat):Prop where
 e1:∀c,0<c->c<O.length->c≠p->(c-1)/2≠p->leK K (at' O ((c-1)/2)) (at' O c)
 e2:∀c,0<p->0<c->c<O.length->(c-1)/2=p->leK K (at' O ((p-1)/2)) (at' O c)
def HO(K O:List Int):Prop:=∀c,0<c->c<O.length->leK K (at' O ((c-1)/2)) (at' O c)
def swp(O:List Int)(p q:Nat):List Int:=(O.set p (at' O q)).set q (at' O p)
theorem QeB(O:List Int)(p q:Nat):(swp O p q).length=O.length:=by simp[swp]
theorem QjL{O:List Int}{p q:Nat}(hp:p<O.length)(hq:q<O.length)(c:Nat):at' (swp O p q) c=if c=q then at' O p else if c=p then at' O q else at' O c:=by
 simp only[at',swp,List.getD_eq_getElem?_getD,List.getElem?_set,List.length_set];by_cases h1:c=q
 ·subst h1;simp[hq]
 ·have h1':¬q=c:=fun h=>h1 h.symm
  simp only[if_neg h1,if_neg h1'];by_cases h2:c=p
  ·subst h2;simp[hp]
  ·have h2':¬p=c:=fun h=>h2 h.symm
   simp only[if_neg h2,if_neg h2']
theorem HO.root{K O:List Int}(h:HO K O):∀c,c<O.length->leK K (at' O 0) (at' O c):=by
 intro c;induction c using Nat.strongRecOn with
 |_ c ih=>
  intro hc;by_cases h0:c=0
  ·subst h0;exact Qul _ _
  ·exact Qgm (ih ((c-1)/2) (by omega) (by omega)) (h c (by omega) hc)
theorem Pre.up{K O:List Int}{p:Nat}(h:Pre K O p)(hp0:0<p)(hp:p<O.length)(hlt:ltK K (at' O p) (at' O ((p-1)/2))):Pre K (swp O p ((p-1)/2)) ((p-1)/2):=by
 have hq:(p-1)/2<O.length:=by omega
 have hsw:=QjL hp hq;have hqp:(p-1)/2≠p:=by omega
 refine⟨fun c c0 cl cq cpq=> ?_,fun c q0 c0 cl cpq=> ?_⟩
 ·rw[QeB]at cl;rw[hsw,hsw,if_neg cpq,if_neg cq];by_cases h1:c=p
  ·exact absurd (by rw[h1]) cpq
  ·rw[if_neg h1];by_cases h2:(c-1)/2=p
   ·rw[if_pos h2];exact h.e2 c hp0 c0 cl h2
   ·rw[if_neg h2];exact h.e1 c c0 cl h1 h2
 ·rw[QeB]at cl;have hg:((p-1)/2-1)/2≠(p-1)/2:=by omega
  have hg2:((p-1)/2-1)/2≠p:=by omega
  have e0:leK K (at' O (((p-1)/2-1)/2)) (at' O ((p-1)/2)):=h.e1 ((p-1)/2) q0 hq hqp (by omega);rw[hsw,hsw,if_neg hg,if_neg hg2];by_cases h1:c=(p-1)/2
  ·omega
  ·rw[if_neg h1];by_cases h2:c=p
   ·rw[if_pos h2];exact e0
   ·rw[if_neg h2];have:=h.e1 c c0 cl h2 (by omega);rw[cpq]at this;exact Qgm e0 this
structure PreD (K O:List Int) (p:Nat):Prop where
 pre:Pre K O p
 top:0<p->leK K (at' O ((p-1)/2)) (at' O p)
theorem PreD.done{K O:List Int}{p:Nat}(h:PreD K O p)(hk:∀c,0<c->c<O.length->(c-1)/2=p->leK K (at' O p) (at' O c)):HO K O:=by
 intro c c0 cl;by_cases h1:c=p
 ·subst h1;exact h.top c0
 ·by_cases h2:(c-1)/2=p
  ·rw[h2];exact hk c c0 cl h2
  ·exact h.pre.e1 c c0 cl h1 h2
theorem PreD.down{K O:List Int}{p q:Nat}(h:PreD K O p)(hp:p<O.length)(hq:q<O.length)(q0:0<q)(hqp:(q-1)/2=p)(hlt:ltK K (at' O q) (at' O p))(hle:∀c,0<c->c<O.length->(c-1)/2=p->leK K (at' O q) (at' O c)):PreD K (swp O p q) q:=by
 have hsw:=QjL hp hq;have hne:p≠q:=by omega
 refine⟨⟨fun c c0 cl cq cpq=> ?_,fun c _ c0 cl cpq=> ?_⟩,fun _=> ?_⟩
 ·rw[QeB]at cl;rw[hsw,hsw,if_neg cpq,if_neg cq];by_cases h1:c=p
  ·subst h1;rw[if_neg (by omega),if_pos rfl];exact h.pre.e2 q c0 q0 hq hqp
  ·rw[if_neg h1];by_cases h2:(c-1)/2=p
   ·rw[if_pos h2];exact hle c c0 cl h2
   ·rw[if_neg h2];exact h.pre.e1 c c0 cl h1 h2
 ·rw[QeB]at cl;rw[hsw,hsw,hqp,if_neg hne,if_pos rfl,if_neg (by omega),if_neg (by omega)];have:=h.pre.e1 c c0 cl (by omega) (by omega);rw[cpq]at this;exact this
 ·rw[hsw,hsw,hqp,if_neg hne,if_pos rfl,if_pos rfl];exact Qyv hlt
theorem QaO{P:Program}{f:Nat}{fn:Func}{af:AF}{args:List AV}{h:Hp}{R:AV->Hp->Prop}(hm:P.follows .mixedOrders=true)(hf:P.funcs[f]? =some fn)(hc:QaJ P fn=some af)(hl:args.length<=af.nt)
 (hv:∀Λ:Len,(∀l,Λ l=(l.length:Int))->∀K:AV->Hp->Prop,(∀r h',R r h'->K r h')->vcH P Λ af args h K):FnS P f args h R:=Qn8 hm hf hc hl fun Λ h=>hv Λ h _ fun _ _ h=>h
abbrev hpH (vo n m:Nat) (ro:Bool) (ks ps es:List (List D)):Hp:=[.bx [.arr 1 0 0 n,.arr 2 0 0 n,.arr 3 vo 0 m],.da true 0 1 ks,.da true 0 1 ps,.da ro vo 1 es]
def Qar(x:Tab):List D:=[iD x.node,Qh1 x.to,QaU x.down]
abbrev Qnt (t:Top):Blk:= .bx [.d (iD t.nodes),.d (Qaf t.ov),.d (Qak t.links)]
abbrev Qzh:List CV:=[.ptr 5 0 0 0,.ptr 6 0 0 0,.ptr 3 0 0 0,.ptr 1 0 0 0,.ptr 2 0 0 0,.ptr 7 0 0 0]
abbrev QgK:List AV:=[.c (.ptr 5 0 0 0),.c (.ptr 6 0 0 0),.c (.ptr 3 0 0 0),.c (.ptr 1 0 0 0),.c (.ptr 2 0 0 0),.c (.ptr 7 0 0 0)]
abbrev HS (t:Top) (xs:List Tab) (m:Ar) (d:D) (v:Nat) (es:List (DV×DV)) (lo:Bool):Hp:=
 [.am m,Qnt t,.bx [.d (.list false 3 (xs.map Qar))],.bx [.d d],.mp v es,.bx [.mp 4],.bx [.d (.bool lo)],.bx [.fn false Qaz Qzh]]
abbrev msE (K:Kn WSt) (al:List Nat):List (DV×DV):=(msS K al).map Qh0
structure NmOK (s:WSt):Prop where
 (n:In64 s.1) (l:s.2.length<=1000) (i:InS s.2)
theorem QoU(P:Program)(hP:P=Tryd.prog)(t:Top)(xs:List Tab)(p:Pkt)(g:Wlk)(m:Ar)(d:D)(v:Nat)(K:Kn WSt)(al:List Nat)(S:Nat->Prop)(s:WSt)(hp:Int)(hT:Qbs m)(hs:NmOK s)(hI:PI g m K al S d)
 (hnd:(K.map (·.1)).Nodup)(c:Option Int)(hk:lkK K s=some c):
  FnS P Qaz ([iA s.1,Qdj {p with stack:=s.2,hops:=hp}]++QgK) (HS t xs m d v (msE K al) false) fun r h'=>∃a tl,r= .c (.d (.adr a 0))/\h'=HS t xs m d v (msE K al) c.isNone++tl/\Qme K al s a:=by
 have hpl:∀(j b:Nat) (c':Option Int),K[j]? =some (s,c')->al[j]? =some b->∃N xs,m b=some (.cs N xs)/\xs[4]? =some (.bool c.isNone):=by
  intro j b c' h1 h2;rw[Qkc hnd h1]at hk;obtain rfl:c'=c:=osj hk;cases c' with
  |some k=>
   obtain⟨N,nx,ads,h3,_⟩:=(hI.pl j s k b h1 h2).ex;exact⟨N,_,h3,rfl⟩
  |none=>
   obtain⟨⟨N,xs,n,h3,_,h4,_⟩,_⟩:=hI.op j s b h1 h2;exact⟨N,xs,h3,h4⟩
 have hadr:∀(j b:Nat) (c':Option Int),K[j]? =some (s,c')->al[j]? =some b->Qme K al s b:=fun j b c' h1 h2=>⟨j,by rw[gtm,h1];rfl,h2⟩
 obtain⟨n,st⟩:=s;have hnm:=Qso P hP m hT n st hs.n hs.l hs.i;have hlk:=fun(v:DV) (i:Nat)=> @QpB K al (n,st) i v
 have hno:= @Quo K al hI.len (n,st);refine QaO (hP▸mixed) (hP▸Qcg) (hP▸QeR) (nle rfl) fun Λ Λo Q hQ=> ?_
 clear hP;have fin:∀a tl lo,lo=c.isNone->Qme K al (n,st) a->Q (.c (.d (.adr a 0))) (HS t xs m d v (msE K al) lo++tl):=fun a tl lo h1 h2=>hQ _ _ ⟨a,tl,rfl,by rw[h1],h2⟩
 clear hQ;obtain⟨id,src,dst,flow,st0,hops⟩:=p;obtain⟨nodes,ov,links⟩:=t;simp only[HS,Qnt,msE,Qdj,QgK,Qf9,Qbn,Qaf,Qak,Qud]at*;generalize hkey:nameS n (List.map pr2 st)=key at*;generalize hesh:msS K al=ms at*;generalize hese:ms.map Qh0=es at*;generalize List.map Qal st=sl at*;generalize xs.map Qar=xl at*;generalize ov.map QbA=ol at*;generalize links.map QaL=ll at*;generalize c.isNone=ci at*
 conv=>cbv
 repeat' first|(left;intro(_:Unit);(conv=>cbv))|(refine QaI [0] hnm rfl rfl (by decide) ⟨rfl,trivial⟩ rfl rfl ?_;rintro r hc' ⟨rfl,rfl⟩;(conv=>cbv))|(refine Qmc hese (fun h0=>absurd (hno h0) (by rw[hk];simp)) (fun i v hv=> ?_);obtain⟨c',b,hK,hal,rfl⟩:=hlk v i hv;obtain⟨N,ys,hm1,hm2⟩:=hpl i b c' hK hal;have hra:=hadr i b c' hK hal;(conv=>cbv))|(refine⟨N,ys,_,hm1,hm2,?_⟩;(conv=>cbv))|exact gu|exact trivial|refine And.intro ?_ ?_|(intro hc;first|exact absurd hc (by decide)|(exfalso;omega)|((first|rw[wS (by omega) (by omega)]at hc|rw[Qad]at hc|skip);try (conv=>cbv)))|refine CallG.old ?_
 exact fin _ [_] _ rfl hra
abbrev Qcu (xs:List Tab):AV:= .c (.d (.list false 3 (xs.map Qar)))
def Compl(t:Top)(xs:List Tab):Prop:=Qao t=true/\(xs.length:Int)=t.nodes/\∀(i:Nat) (x:Tab),xs[i]? =some x->x.node=i/\Qke t x=true
def Qgh(t:Top)(xs:List Tab):Bool:=Qao t&&decide ((xs.length:Int)=t.nodes)&&(List.range xs.length).all fun i=>match xs[i]? with
 |some x=>decide (x.node=i)&&Qke t x
 |none=>false
theorem QbW{t:Top}{xs:List Tab}:Qgh t xs=true↔Compl t xs:=by
 simp only[Qgh,Compl,Bool.and_eq_true,decide_eq_true_eq,List.all_eq_true,List.mem_range,and_assoc];refine and_congr_right fun _=>and_congr_right fun _=>⟨fun h i x hx=> ?_,fun h i hi=> ?_⟩
 ·have:=h i (Qaa hx);rw[hx]at this;simpa using this
 ·have hx:xs[i]? =some (xs[i]'hi):=lgE hi;have:=h i _ hx;rw[hx];simpa using this
def QaH(t:Top)(xs:List Tab)(from_:Int):Int:=if Qgh t xs=true then (if 0<=from_/\from_<t.nodes then 0 else 2)else 1
theorem Qti(P:Program)(hP:P=Tryd.prog)(t:Top)(xs:List Tab)(from_:Int):Ret P Qhw [Qa2 t,Qcu xs,iA from_] (iA (QaH t xs from_)):=by
  refine Qag (hP▸mixed) (hP▸QlH) (hP▸QmE) (nle rfl) fun Λ Λo K hK=> ?_
  have hw:=Qnu P hP t;have hn:=Qgk P hP t from_;have hp:=fun x=>QgC P hP t x
  clear hP;have k0:Compl t xs->(0<=from_/\from_<t.nodes)->K (iA 0):=fun h h2=>by
    rw[QaH,if_pos (QbW.2 h),if_pos h2]at hK;exact hK
  have k2:Compl t xs->¬(0<=from_/\from_<t.nodes)->K (iA 2):=fun h h2=>by
    rw[QaH,if_pos (QbW.2 h),if_neg h2]at hK;exact hK
  have k1:¬Compl t xs->K (iA 1):=fun h=>by
    rw[QaH,if_neg fun e=>h (QbW.1 e)]at hK;exact hK
  clear hK;unfold Compl at k0 k1 k2;simp only[QqR,Qcu,Qh1,QaU]at*;generalize Qke t=tb at*;generalize Qao t=v at*;generalize elh:List.map Qar xs=el at*;have eln:Λ el=xs.length:=by rw[Λo,←elh];simp
  obtain⟨nodes,ov,links⟩:=t;simp only[Qa2,Qaf,Qak]at*;generalize hol:ov.map QbA=ol at*;generalize hll:links.map QaL=ll at*;have hlo:Λ ol=ov.length:=by rw[Λo,←hol];simp
  have hls:Λ ll=links.length:=by rw[Λo,←hll];simp
  conv=>cbv
  repeat' first|refine QaF hw rfl rfl ?_ ?_|(left;intro(_:Unit);(conv=>cbv))|exact gu|exact trivial|refine And.intro ?_ ?_|(intro hc;first|exact absurd hc (by decide)|(exfalso;omega)|((first|rw[wS (by omega) (by omega)]at hc|rw[Qad]at hc|skip);try (conv=>cbv)))|refine CallG.old ?_
  all_goals try simp only[decide_eq_true_eq,decide_eq_false_iff_not]at*
  all_goals try (refine k1 fun h=> ?_;obtain⟨h1,h2,_⟩:=h;first|omega|(rw[h1]at hc;cases hc;done))
  refine QcQ xs.length (fun(i:Int)=>[(2,iA from_),(3,.c (.ptr 0 0 0 0)),(19,.c (.d (.list false 3 el))),(20,iA (Λ el)),(21,iA i)]) (fun _=>[.bx [.d (.int .i64 nodes),.d (.list false 1 ol),.d (.list false 7 ll)]]) (fun k i=>i=k/\k<=xs.length/\∀(j:Nat) (x:Tab),j<k->xs[j]? =some x->x.node=j/\tb x=true) 0
    0 (fun(_:Unit)=>[(2,iA from_),(3,.c (.ptr 0 0 0 0))]) (fun _=>[.bx [.d (.int .i64 nodes),.d (.list false 1 ol),.d (.list false 7 ll)]]) (fun _=>∀(j:Nat) (x:Tab),xs[j]? =some x->x.node=j/\tb x=true) (Wk.cw) ⟨rfl,by omega,by simp⟩ (fun k s h=>h.2.1) ?_ ?_
  · rintro k i Q' ⟨hi,hk,hok⟩ norm jn ex rt
    by_cases hlt:k<xs.length
    · obtain⟨x,hx⟩:∃x,xs[k]? =some x:=⟨_,lgE hlt⟩
      have hxa:=Qhi elh hi hx;obtain⟨xn,xto,xdn⟩:=x;have hpx:=hp ⟨xn,xto,xdn⟩;simp only[Qar,Qh1,QaU]at hxa hpx;generalize List.map QaG xto=al at*;generalize List.map QaA xdn=pl at*
      conv=>cbv
      repeat' first|(refine rt _ _ ?_;(conv=>cbv))|refine QaF hpx rfl rfl ?_ ?_|(intro e he;cases osj (he.symm.trans hxa);(conv=>cbv))|(left;intro(_:Unit);(conv=>cbv))|exact gu|exact trivial|refine And.intro ?_ ?_|(intro hc;first|exact absurd hc (by decide)|(exfalso;omega)|((first|rw[wS (by omega) (by omega)]at hc|rw[Qad]at hc|skip);try (conv=>cbv)))|refine CallG.old ?_
      all_goals try simp only[decide_eq_true_eq,decide_eq_false_iff_not]at*
      all_goals first
        |(refine norm _ _ _ ?_ (Wk.ca)
          refine⟨by omega,by omega,fun j e hj he=> ?_⟩;rcases Nat.lt_or_ge j k with h|h
          · exact hok j e h he
          · obtain rfl:j=k:=by omega
            rw[hx]at he;cases he;exact⟨by simp only;omega,by assumption⟩)
        |(refine k1 fun h=> ?_
          have:=h.2.2 k _ hx
          first|(have h2:=this.1;simp only at h2;omega)|(rw[hc]at this;cases this.2;done)|skip)
      all_goals trace_state
    · conv=>cbv
      repeat' first|exact gu|exact trivial|refine And.intro ?_ ?_|(intro hc;first|exact absurd hc (by decide)|(exfalso;omega)|((first|rw[wS (by omega) (by omega)]at hc|rw[Qad]at hc|skip);try (conv=>cbv)))|refine CallG.old ?_
      refine jn _ _ () (fun j e he=>hok j e (by have:=Qaa he;omega) he) ?_;exact(Wk.ca)
  · rintro _ hall
    conv=>cbv
    repeat' first|refine QaF hn rfl rfl ?_ ?_|exact gu|exact trivial|refine And.intro ?_ ?_|(intro hc;first|exact absurd hc (by decide)|(exfalso;omega)|((first|rw[wS (by omega) (by omega)]at hc|rw[Qad]at hc|skip);try (conv=>cbv)))|refine CallG.old ?_
    all_goals try simp only[decide_eq_true_eq,decide_eq_false_iff_not]at*
    · exact k0 ⟨by assumption,by omega,hall⟩ (by assumption)
    · exact k2 ⟨by assumption,by omega,hall⟩ (by assumption)
structure Rsl where
 node:Int
 rs:Int
 path:List Int
 deriving DecidableEq
def QeM(r:Rsl):List D:=[iD r.node,iD r.rs,QaU r.path]
abbrev QxB (l:List Rsl):D:= .list false 3 (l.map QeM)
end Go.Ab
namespace Go.Ab
theorem FnS.cut{P:Program}{f:Nat}{args:List AV}{h:Hp}{R:AV->Hp->Prop}(hf:FnS P f args h R)(hc:∀r h',R r h'->QeO h.length r=true/\Qc3 h.length (h'.take h.length)=true):
  FnS P f args h fun r h1=>∃h2,R r (h1++h2)/\h1.length=h.length:=by
 refine⟨fun G ι w vs hr hv=> ?_⟩;refine(hf.out G ι w vs hr hv).mono fun e w2 ⟨v,r,G2,ι2,hc2,he,hR,hr2,hvr,hx⟩=> ?_
 have hl2:h.length<=hc2.length:=by
  rcases Nat.lt_or_ge hc2.length h.length with hb|hb
  ·obtain⟨k',h1,_⟩:=hx.keep hc2.length _ (lgE hb);have:=Qaa h1;omega
  ·exact hb
 obtain⟨c1,c2⟩:=hc r hc2 hR;have hlt:(hc2.take h.length).length=h.length:=by rw[List.length_take];omega
 let a:Act:=⟨#[v],[]⟩;have hfit:Fits 1 G ι h w (lkL [(0,r)]) hc2 a w2:=⟨G2,ι2,⟨hr2,rfl,fun i=>by
  cases i with
  |zero=>exact hvr
  |succ i=>exact .c _ _ (.u _)⟩,hx,Marks.nil _ _ _ _ _⟩
 obtain⟨G3,ι3,st⟩:=Wk.cut_fits (m:=h.length) (L':=[(0,r)]) (h':=hc2.take h.length) ⟨hc2.drop h.length,(List.take_append_drop _ _).symm⟩ (by omega) (by rw[hlt];exact c2)
  (by rw[hlt];exact⟨⟨rfl,c1⟩,trivial⟩) (Nat.le_refl _) hfit
 have hv0:=st.rel.env 0;exact⟨v,r,G3,ι3,hc2.take h.length,he,⟨hc2.drop h.length,by rw[List.take_append_drop];exact hR,hlt⟩,st.rel.hr,hv0,st.ext⟩
theorem Kept.unrn{ι ι2 ιc:Io}{w w2:World}{l:Nat}{k kc:Blk}{ρ:Nat->Nat}(hk:Kept ι ι2 w w2 l k (rnB ρ kc))(hi:ιc[l]? =ι2[l]?)(hm:∀m v es,kc≠ .mi m v es):Kept ι ιc w w2 l k kc:=by
 cases kc with
 |dead=>cases k<;>trivial
 |am m'=>
  cases k with
  |am m=>trivial
  |_=>simp[rnB,Kept]at hk
 |bx cs'=>
  cases k with
  |bx cs=>exact⟨by have:=hk.1;rw[Qdg]at this;exact this,by rw[hi];exact hk.2⟩
  |_=>simp[rnB,Kept]at hk
 |da r' v' sz' es'=>
  cases k with
  |da r v sz es=>
   rcases hk with hk|⟨a1,a2,a3,a4,a5,a6⟩
   ·exact .inl hk
   ·exact .inr ⟨a1,a2,a3,a4,by rw[hi];exact a5,a6⟩
  |_=>simp[rnB,Kept]at hk
 |mp v' es'=>
  cases k with
  |mp v es=>exact⟨by rw[hi];exact hk.1,hk.2⟩
  |_=>simp[rnB,Kept]at hk
 |mi m v es=>exact absurd rfl (hm m v es)
theorem FnS.gc{P:Program}{f:Nat}{args:List AV}{h:Hp}{R:AV->Hp->Prop}(hf:FnS P f args h R)(Q:AV->Hp->Prop)
   (hg:∀r h',R r h'->∃(σ:List Nat) (r':AV) (hc:Hp),Q r' hc/\σ.length=hc.length/\σ.Nodup/\(∀l∈σ,l<h'.length)/\(∀(i:Nat) (k:Blk),hc[i]? =some k->h'[rho σ h'.length i]? =some (rnB (rho σ h'.length) k))/\
      r=rnA (rho σ h'.length) r'/\Qc3 hc.length hc=true/\QeO hc.length r'=true/\h.length<=hc.length/\(∀i,i<h.length->rho σ h'.length i=i)/\∀k∈hc,∀m v es,k≠ .mi m v es):FnS P f args h Q:=by
  refine⟨fun G ι w vs hr hv=> ?_⟩;refine(hf.out G ι w vs hr hv).mono fun e w2 ⟨v,r,G2,ι2,h',he,hR,hr2,hvr,hx⟩=> ?_
  obtain⟨σ,r',hc,hQ,hlen,hnd,hlt,hh,hrr,hcl,hca,hle,hid,hmi⟩:=hg r h' hR;generalize hρ:rho σ h'.length=ρ at*;have rold:∀i,i<σ.length->σ[i]? =some (ρ i):=fun i hi=>by rw[←hρ];exact Qjz σ _ i hi
  have rnew:∀i,σ.length<=i->ρ i=h'.length+(i-σ.length):=fun i hi=>by rw[←hρ];exact Ql3 σ _ i hi
  have rmem:∀i,i<σ.length->ρ i∈σ:=fun i hi=>mgE (rold i hi)
  have rinj:∀i j,ρ i=ρ j->i=j:=by
    intro i j e;rcases Nat.lt_or_ge i σ.length with hi|hi<;>rcases Nat.lt_or_ge j σ.length with hj|hj
    · have h1:=rold i hi
      have h2:=rold j hj;rw[e,←h2]at h1;exact(List.getElem?_inj hi hnd).1 h1
    · have:=hlt _ (rmem i hi);have:=rnew j hj;omega
    · have:=hlt _ (rmem j hj);have:=rnew i hi;omega
    · have:=rnew i hi;have:=rnew j hj;omega
  let ιc:Io:=σ.map fun l=>(ι2[l]?).getD (0,0)
  have hιc:∀i,i<σ.length->ιc[i]? =ι2[ρ i]? :=by
    intro i hi;simp only[ιc,gtm,rold i hi,Option.map_some];rw[lgE (by rw[hr2.len];exact hlt _ (rmem i hi))];rfl
  have am:Among ρ ιc hc ι2 h':=⟨hh,fun i k hk=>(hιc i (by rw[hlen];exact Qaa hk)).symm⟩;have hrc:HR G2 ιc hc w2:=HR.down am hr2 (by simp[ιc,hlen]) (fun i j _ _ e=>rinj i j e) hcl;have hvc:VR G2 w2 ιc hc v r':=VR.unrn am (hrr▸hvr) hca;refine⟨v,r',G2,ιc,hc,he,hQ,hrc,hvc,?_⟩;exact
    { size:=hx.size
      quiet:=hx.quiet
      frame:=hx.frame
      gmono:=hx.gmono
      gnew:=hx.gnew
      onew:=fun b ho=>hx.onew b (QdL am ho)
      keep:=fun l k hk=>by
        obtain⟨k',h1,h2⟩:=hx.keep l k hk;have hl:=Qaa hk;have hkc:hc[l]? =some (hc[l]'(by omega)):=lgE _;have h3:=hh l _ hkc;rw[hid l hl,h1]at h3;cases h3;exact⟨_,hkc,h2.unrn (by rw[hιc l (by omega),hid l hl]) (hmi _ (List.getElem_mem _))⟩}
open Go.Proofs
def New(m:Ar)(d:D)(b:Nat):Prop:=m b=none\/InB d b
structure Fr (m:Ar) (d:D) (m':Ar) (d':D):Prop where
 same:∀i,¬New m d i->m' i=m i
 row:∀i,InB d' i->New m d i
theorem Fr.new{m m':Ar}{d d':D}(h:Fr m d m' d'){i:Nat}(hi:New m' d' i):New m d i:=by
 refine Classical.byContradiction fun hn=> ?_
 rcases hi with hi|hi
 ·rw[h.same i hn]at hi;exact hn (.inl hi)
 ·exact hn (h.row i hi)
theorem Fr.refl(m:Ar)(d:D):Fr m d m d:=⟨fun _ _=>rfl,fun _ h=> .inr h⟩
theorem Fr.trans{m m1 m2:Ar}{d d1 d2:D}(h:Fr m d m1 d1)(k:Fr m1 d1 m2 d2):Fr m d m2 d2:=
 ⟨fun i hi=>(k.same i fun e=>hi (h.new e)).trans (h.same i hi),fun i hi=>h.new (k.row i hi)⟩
theorem Fr.write{m m1 m2:Ar}{d d1:D}(h:Fr m d m1 d1)(hw:∀i,¬New m d i->m2 i=m1 i):Fr m d m2 d1:=
 ⟨fun i hi=>(hw i hi).trans (h.same i hi),h.row⟩
theorem Qnn{m m':Ar}{b N cap k:Nat}{e:List D}(he:e.length=1)(hk:k=1)(hc:k<=cap)(hN:cap*1<=N)(hm':m'=mup m b (.cs N [e].flatten)):Qc8 1 m' (.sl b 0 1 k cap) [e]:=by
 refine .inr ⟨b,N,cap,by rw[hk];rfl,by rw[hm',Qbb],fun x hx=> ?_,by simpa [←hk]using hc,hN⟩;simp at hx;rw[hx];exact he
theorem Qd1{b o z n c i:Nat}(h:InB (.sl b o z n c) i):i=b:=by
 obtain⟨_,_,_,_,e⟩:=h;cases e;rfl
theorem Qa3{z i:Nat}{l:List (List D)}(h:InB (.list true z l) i):False:=by
 obtain⟨_,_,_,_,e⟩:=h;cases e
theorem QpM{m m':Ar}{b b' N cap k:Nat}{e:List D}{es:List (List D)}(hs:∀x∈es,x.length=1)(he:e.length=1)(hk:k=es.length+1)(hc:k<=cap)(hN:cap*1<=N)(hm':m'=mup (mdel m b) b' (.cs N (es++[e]).flatten)):Qc8 1 m' (.sl b' 0 1 k cap) (es++[e]):=by
 refine .inr ⟨b',N,cap,by rw[hk];simp,by rw[hm',Qbb],fun x hx=> ?_,by rw[List.length_append];simpa [←hk]using hc,hN⟩;rcases List.mem_append.1 hx with hx|hx
 ·exact hs x hx
 ·simp at hx;rw[hx];exact he
theorem Qnd{m m':Ar}{b b' i:Nat}{x:AB}(hm':m'=mup (mdel m b) b' x)(h1:i≠b)(h2:mdel m b b'=none)(h3:m i≠none):m' i=m i:=by
 have:i≠b':=fun e=>by rw[←e,QbQ h1]at h2;exact h3 h2
 rw[hm',Qan this,QbQ h1]
theorem Qlk{m:Ar}{b i:Nat}(h:mdel m b i=none):i=b\/m i=none:=by
 by_cases e:i=b
 ·exact .inl e
 ·rw[QbQ e]at h;exact .inr h
theorem QAs{P:Program}{f:Nat}{args:List AV}{h:Hp}{R:AV->Hp->Prop}(n:Nat)(hl:h.length=n)(hf:FnS P f args h fun r h'=>∃h0 tl,h'=h0++tl/\h0.length=n/\QeO n r=true/\Qc3 n h0=true/\R r h0):FnS P f args h R:=by
 subst hl;refine(hf.cut fun r h' hr=> ?_).mono fun r h1 ⟨h2,hr,hl⟩=> ?_
 ·obtain⟨h0,tl,rfl,h1,h2,h3,_⟩:=hr;refine⟨h2,?_⟩;rw[←h1,List.take_left,h1];exact h3
 ·obtain⟨h0,tl,he,h3,_,_,hR⟩:=hr;have:h1=h0:=(List.append_inj he (by omega)).1;rw[this];exact hR
def Qz6(g:Wlk)(t:Top)(xs:List Tab)(m:Ar)(d:D)(al:List Nat)(S:Nat->Prop)(s:WSt)(K':Kn WSt)(r:AV)(h':Hp):Prop:=
 ∃m' d' v' al' S' a,r= .c (.d (.adr a 0))/\h'=HS t xs m' d' v' (msE K' al') false/\PI g m' K' al' S' d'/\Qme K' al' s a/\Fr m d m' d'/\(∃q,al'=al++q)/\(∀b∈al',b∈al\/New m d b)/\(∀i,S' i->S i\/New m d i)/\∀i,S i->S' i
def QAh(t:Top)(xs:List Tab)(m:Ar)(d:D)(al:List Nat)(r:AV)(h':Hp):Prop:=
 ∃m' d' v' es' a N ys n,r= .c (.d (.adr a 0))/\h'=HS t xs m' d' v' es' true/\m' a=some (.cs N ys)/\ys.length=6/\ys[5]? =some (iD n)/\(a∈al\/New m d a)/\Fr m d m' d'
def QvS(g:Wlk)(t:Top)(xs:List Tab)(m:Ar)(d:D)(al:List Nat)(S:Nat->Prop)(s:WSt)(o:Option (Kn WSt))(r:AV)(h':Hp):Prop:=
 match o with
 |some K'=>Qz6 g t xs m d al S s K' r h'
 |none=>QAh t xs m d al r h'
theorem Qtf{P:Program}{args:List AV}{g:Wlk}{t:Top}{xs:List Tab}{m:Ar}{d:D}{v:Nat}{es:List (DV×DV)}{al:List Nat}{S:Nat->Prop}{s:WSt}{o:Option (Kn WSt)}
 (hf:FnS P Qaz args (HS t xs m d v es false) fun r h'=>∃h0 tl,h'=h0++tl/\QvS g t xs m d al S s o r h0):FnS P Qaz args (HS t xs m d v es false) (QvS g t xs m d al S s o):=by
 refine QAs 8 rfl (hf.mono fun r h' ⟨h0,tl,e,hR⟩=>⟨h0,tl,e,?_⟩);have hR':=hR;cases o with
 |some K'=>
  obtain⟨m',d',v',al',S',a,rfl,rfl,_⟩:=hR;exact⟨rfl,rfl,rfl,hR'⟩
 |none=>
  obtain⟨m',d',v',es',a,N,ys,n,rfl,rfl,_⟩:=hR;exact⟨rfl,rfl,rfl,hR'⟩
theorem QdO(P:Program)(hP:P=Tryd.prog)(t:Top)(xs:List Tab)(p:Pkt)(g:Wlk)(m:Ar)(d:D)(v:Nat)(K:Kn WSt)(al:List Nat)(S:Nat->Prop)(s:WSt)(hp:Int)(hT:Qbs m)(hs:NmOK s)(hI:PI g m K al S d)
 (hnd:(K.map (·.1)).Nodup)(c:Option Int)(hk:lkK K s=some c):
  FnS P Qaz ([iA s.1,Qdj {p with stack:=s.2,hops:=hp}]++QgK) (HS t xs m d v (msE K al) false) (QvS g t xs m d al S s (match c with
   |some _=>some K
   |none=>none)):=by
 refine Qtf ((QoU P hP t xs p g m d v K al S s hp hT hs hI hnd c hk).mono fun r h' ⟨a,tl,h1,h2,h3⟩=>⟨_,tl,h2,?_⟩);cases c with
 |some k=>exact⟨m,d,v,al,S,a,h1,rfl,hI,h3,.refl _ _,⟨[],by simp⟩,fun b hb=> .inl hb,fun i hi=> .inl hi,fun i hi=>hi⟩
 |none=>
  obtain⟨j,e1,e2⟩:=h3;rw[gtm,omi]at e1;obtain⟨⟨x,c⟩,e3,e4⟩:=e1;simp only at e4;subst e4;have:c=none:=by
   have:=Qkc hnd e3;rw[hk]at this;exact(osj this).symm
  subst this;obtain⟨⟨N,ys,n,q1,q2,q3,q4⟩,_⟩:=hI.op j x a e3 e2;exact⟨m,d,v,_,a,N,ys,n,h1,rfl,q1,q2,q4,.inl (mgE e2),.refl _ _⟩
theorem Qbk{m m':Ar}{b:Nat}{x:AB}(h:m'=mup m b x):m' b=some x:=by rw[h];exact Qbb _ _ _
theorem Qjo{m m':Ar}{b i:Nat}{x:AB}(h:m'=mup m b x)(hi:i≠b):m' i=m i:=by rw[h];exact Qan hi
@[irreducible] def Stp (p:Prop):Prop:=p
theorem stp{p:Prop}(h:p):Stp p:=by unfold Stp;exact h
theorem unstp{p:Prop}(h:Stp p):p:=by unfold Stp at h;exact h
structure StpW (P:Program) (t:Top) (xs:List Tab) (p:Pkt) (g:Wlk) (s:WSt) (x:Tab) (st:List Seg) (hp:Int):Prop where
 at_:xs[s.1.toNat]? =some x
 nn:0<=s.1
 stp:Ret P QdS [Qa2 t,QqR x,Qdj {p with stack:=s.2,hops:=0}] (.tup [QaT (g.ar s),Qdj {p with stack:=st,hops:=hp},iA (g.rs s)])
 hd:∀a∈g.ar s,Ret P QdI [Qa2 t,iA a] (iA (g.to s a).1)
 tos:∀a∈g.ar s,(g.to s a).2=st
 len:(g.ar s).length<=1000
structure Reg (g:Wlk) (m:Ar) (d:D) (K:Kn WSt) (al:List Nat) (S:Nat->Prop) (s:WSt) (bx N0:Nat) (x0:List D) (m2:Ar) (d2:D):Prop where
 pi:PI g m2 (K++[(s,none)]) (al++[bx]) S d2
 fr:Fr m d m2 d2
 at_:m2 bx=some (.cs N0 x0)
 new:m bx=none
theorem QsE{g:Wlk}{m m1 m2:Ar}{d:D}{K:Kn WSt}{al:List Nat}{S:Nat->Prop}{s:WSt}{bx N0 bd Nd cap k:Nat}{x0:List D}{e:List D}(hI:PI g m K al S d)(hd:d= .list true 1 [])(hal:al.map QfY=[])(hbx:m bx=none)(hm1:m1=mup m bx (.cs N0 x0))
 (hx:x0.length=6/\x0[4]? =some (.bool true)/\∃n,x0[5]? =some (iD n))(he:e=QfY bx)(hb:m1 bd=none)(hk:k=1)(hc:k<=cap)(hN:cap*1<=Nd)(hm2:m2=mup m1 bd (.cs Nd [e].flatten)):
  Reg g m d K al S s bx N0 x0 m2 (.sl bd 0 1 k cap):=by
 subst he;have hne:bx≠bd:=fun e=>by rw[←e,hm1,Qbb]at hb;cases hb
 have hbm:m bd=none:=by rw[hm1,Qan (fun e=>hne e.symm)]at hb;exact hb
 have h0:al=[]:=by simpa using hal
 have hat:m2 bx=some (.cs N0 x0):=by rw[hm2,Qan hne,hm1,Qbb]
 have hsame:∀i,m i≠none->m2 i=m i:=fun i hi=>by
  rw[hm2,Qan (fun e=>hi (by rw[e];exact hbm)),hm1,Qan (fun e=>hi (by rw[e];exact hbx))]
 obtain⟨hx1,hx2,n,hx3⟩:=hx;refine⟨hI.new hbx ⟨N0,x0,n,hat,hx1,hx2,hx3⟩ (fun i hi=> ?_) ?_ fun i hi=> ?_,⟨fun i hi=>hsame i fun e=>hi (.inl e),fun i hi=> ?_⟩,hat,hbx⟩
 ·rcases hi with hi|hi
  ·exact hsame i (hI.sm i hi)
  ·exact hsame i (hI.inm i hi)
 ·rw[h0];exact Qnn rfl hk hc hN hm2
 ·rw[Qd1 hi];exact⟨fun e=>hne e.symm,.inr hbm⟩
 ·rw[Qd1 hi];exact .inl hbm
theorem QuG{g:Wlk}{m m1 m2:Ar}{d:D}{K:Kn WSt}{al:List Nat}{S:Nat->Prop}{s:WSt}{bx N0 b0 c0 bd Nd cap k nal:Nat}{x0:List D}{e:List D}(hI:PI g m K al S d)(hd:d= .sl b0 0 1 nal c0)(hnal:(al.map QfY).length=nal)(hs:∀x∈al.map QfY,x.length=1)(hmd:m b0≠none)(hbx:m bx=none)(hm1:m1=mup m bx (.cs N0 x0))
 (hx:x0.length=6/\x0[4]? =some (.bool true)/\∃n,x0[5]? =some (iD n))(he:e=QfY bx)(hb:mdel m1 b0 bd=none)(hk:k=nal+1)(hc:k<=cap)(hN:cap*1<=Nd)(hm2:m2=mup (mdel m1 b0) bd (.cs Nd (al.map QfY++[e]).flatten)):
  Reg g m d K al S s bx N0 x0 m2 (.sl bd 0 1 k cap):=by
 subst he;have hb0:b0≠bx:=fun e=>hmd (by rw[e];exact hbx)
 have hin:∀i,i=b0->InB d i:=fun i e=>by subst e;exact⟨_,_,_,_,hd⟩
 have hb':bd=b0\/m bd=none:=by
  rcases Qlk hb with e|e
  ·exact .inl e
  ·by_cases e2:bd=bx
   ·rw[e2,hm1,Qbb]at e;cases e
   ·rw[hm1,Qan e2]at e;exact .inr e
 have hne:bx≠bd:=fun e=>by
  rw[←e,QbQ (fun e=>hb0 e.symm),hm1,Qbb]at hb;cases hb
 have hat:m2 bx=some (.cs N0 x0):=by rw[hm2,Qan hne,QbQ (fun e=>hb0 e.symm),hm1,Qbb]
 have hsame:∀i,m i≠none->i≠b0->m2 i=m i:=fun i hi h0=>by
  have h1:i≠bx:=fun e=>hi (by rw[e];exact hbx)
  have h2:i≠bd:=fun e=>by
   rcases hb' with e2|e2
   ·exact h0 (e.trans e2)
   ·exact hi (by rw[e];exact e2)
  rw[hm2,Qan h2,QbQ h0,hm1,Qan h1]
 obtain⟨hx1,hx2,n,hx3⟩:=hx;have hnew:∀i,InB (.sl bd 0 1 k cap) i->New m d i:=fun i hi=>by
  rw[Qd1 hi];rcases hb' with e|e
  ·exact .inr (hin _ e)
  ·exact .inl e
 refine⟨hI.new hbx ⟨N0,x0,n,hat,hx1,hx2,hx3⟩ (fun i hi=> ?_) ?_ fun i hi=> ?_,⟨fun i hi=>hsame i (fun e=>hi (.inl e)) fun e=>hi (.inr (hin i e)),hnew⟩,hat,hbx⟩
 ·rcases hi with hi|hi
  ·exact hsame i (hI.sm i hi) fun e=>(hI.rowS i (hin i e)).1 hi
  ·exact hsame i (hI.inm i hi) fun e=>(hI.rowS i (hin i e)).2 hi
 ·rw[List.map_append];exact QpM hs rfl (by rw[hnal,hk]) hc hN hm2
 ·refine⟨fun e=>hne (e.symm.trans (Qd1 hi)),?_⟩;rcases hnew i hi with e|e
  ·exact .inr e
  ·exact .inl e
end Go.Ab
