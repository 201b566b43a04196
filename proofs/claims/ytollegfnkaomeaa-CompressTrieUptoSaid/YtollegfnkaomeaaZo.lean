/-
  Merged texts, part o.
-/
import Derived.Test.YtollegfnkaomeaaZn
import Derived.Calls
/-
  The engine: every step of the machine keeps the tape, and never takes a draw back. So a call (whatever its contract says) leaves the tape as it was and the count of draws no smaller.
-/
namespace Go.Ab
def Up (w w' : World) : Prop := w'.tape = w.tape ∧ w.drawn ≤ w'.drawn
theorem Up.refl (w : World) : Up w w := ⟨rfl, Nat.le_refl _⟩
theorem Up.trans {w w1 w2 : World} (h : Up w w1) (h' : Up w1 w2) : Up w w2 := ⟨h'.1.trans h.1, Nat.le_trans h.2 h'.2⟩
theorem Up.heap {w w1 : World} (h : Up w w1) (hp : Array Obj) : Up w { w1 with heap := hp } := h
theorem Up.os {w w1 : World} (h : Up w w1) (os : Os) : Up w { w1 with os := os } := h
def RUp {α : Type} (w0 : World) : Result α → Prop
 | .ok _ w => Up w0 w
 | .halt _ w => Up w0 w
theorem viewStore_up {p : Program} {w : World} {at_ : Addr} {u : TypeId} {a : Addr} {v : Value} {b : Bool} {w' : World} {l : List Addr}
  (h : w.viewStore p at_ u a v b = .ok (w', l)) : Up w w' := by
 unfold World.viewStore at h
 simp only [bind, Except.bind, pure, Except.pure] at h
 repeat' split at h
 all_goals first
  | (cases h; done)
  | (injection h with h; injection h with h1 h2; subst h1; exact ⟨rfl, Nat.le_refl _⟩)
theorem ask_up {α : Type} (k : Ask α) : ∀ w : World, Up w (w.ask k).2 := by
 induction k with
 | done a => exact fun w => Up.refl w
 | ask what range k ih =>
  intro w
  simp only [World.ask]
  split
  ·exact ih _ _
  ·exact Up.trans (w1 := { w with drawn := w.drawn + 1 }) ⟨rfl, Nat.le_succ _⟩ (ih _ _)
theorem sys_up (w : World) (c : Sys) : Up w (w.sys c).2 := by
 have h := ask_up (Kernel.perform c w.os) w
 unfold World.sys
 split
 ·exact Up.refl w
 ·next r os w1 _ e => rw [e] at h; exact h
theorem run_up {α : Type} (p : Program) (s : Sem α) : ∀ w0 w : World, Up w0 w → RUp w0 (s.run p w) := by
 induction s with
 | pure a => exact fun _ _ h => h
 | load m a k ih =>
  intro w0 w h
  simp only [Sem.run]
  split
  ·exact ih _ _ _ h
  ·split
   ·exact ih _ _ _ h
   ·exact h
 | store m a v k ih =>
  intro w0 w h
  cases v <;> simp only [Sem.run] <;> first | exact h | skip
  all_goals
   split
   ·split
    ·exact h
    ·exact ih _ _ h
   ·split
    ·next w1 _ e =>
     refine ih _ _ (h.trans ?_)
     unfold World.farStore at e
     split at e
     ·split at e
      ·next r e2 => injection e with e; subst e; exact viewStore_up e2
      ·cases e
     ·cases e
    ·exact h
 | new o k ih => exact fun _ _ h => ih _ _ _ h
 | shape r k ih => exact fun _ _ h => ih _ _ _ h
 | freeze a n k ih =>
  intro w0 w h
  simp only [Sem.run]
  refine ih _ _ (h.trans ?_)
  unfold World.freeze
  split <;> exact ⟨rfl, Nat.le_refl _⟩
 | frozen a k ih => exact fun _ _ h => ih _ _ _ h
 | getObj r k ih =>
  intro w0 w h
  simp only [Sem.run]
  split
  ·exact h
  ·exact ih _ _ _ h
  ·exact h
 | setObj r o k ih =>
  intro w0 w h
  simp only [Sem.run]
  split
  ·exact h
  ·exact ih _ _ h
  ·exact h
 | choose q k ih =>
  intro w0 w h
  simp only [Sem.run]
  split
  ·exact ih _ _ _ h
  ·exact ih _ _ _ (h.trans (w1 := w) (w2 := { w with drawn := w.drawn + 1 }) ⟨rfl, Nat.le_succ _⟩)
 | sys c k ih =>
  intro w0 w h
  simp only [Sem.run]
  exact ih _ _ _ (h.trans (sys_up w c))
 | program k ih => exact fun _ _ h => ih _ _ _ h
 | mark m k ih => exact fun _ _ h => ih _ _ h
 | halt x => exact fun _ _ h => h
theorem ok_up {α : Type} {p : Program} {s : Sem α} {w0 w w1 : World} {a : α} (h : Up w0 w) (e : s.run p w = .ok a w1) : Up w0 w1 := by
 have := run_up p s w0 w h; rw [e] at this; exact this
theorem halt_up {α : Type} {p : Program} {s : Sem α} {w0 w w1 : World} {a : Halt} (h : Up w0 w) (e : s.run p w = .halt a w1) : Up w0 w1 := by
 have := run_up p s w0 w h; rw [e] at this; exact this
def gw : GStep → World
 | .go _ w _ => w
 | .comm _ _ _ _ w _ => w
 | .spawn _ _ w _ => w
 | .count _ w _ => w
 | .timer _ _ w _ => w
 | .alone _ _ w _ => w
 | .newcoro _ _ _ w _ => w
 | .coroswitch _ _ _ w _ => w
 | .collect _ w _ => w
 | .watch _ w _ => w
 | .ended _ w _ => w
def GUp (w0 : World) (s : GStep) : Prop := Up w0 (gw s)
theorem GUp.after {w0 : World} {es : Array Event} {s : GStep} (h : GUp w0 s) : GUp w0 (GStep.after es s) := by
 cases s <;> exact h
theorem doReturn_up {p : Program} {main : Bool} {fr : Frame} {cs : List Frame} {d : Option Dying} {v : Value} {w0 w : World} (h : Up w0 w) :
  GUp w0 (doReturn p main fr cs d v w) := by
 unfold doReturn
 repeat' split
 all_goals exact h
theorem endPrinting_up {p : Program} {fr : Frame} {v : Value} {w0 w : World} (h : Up w0 w) : GUp w0 (endPrinting p fr v w) := by
 unfold endPrinting
 simp only []
 repeat' split
 all_goals exact h
theorem endWith_up {w0 w : World} {fd : Nat} {text : ByteArray} {o : Outcome} (h : Up w0 w) : GUp w0 (endWith w fd text o) := by
 unfold endWith
 have hs := h.trans (sys_up w (.write fd text))
 simp only []
 generalize w.sys (.write fd text) = r at hs
 obtain ⟨r, w1⟩ := r
 cases r <;> simp only [] <;> repeat' split
 all_goals exact hs
theorem endFatal_up {p : Program} {fr : Frame} {cs : List Frame} {d : Option Dying} {m : String} {w0 w : World} (h : Up w0 w) : GUp w0 (endFatal p fr cs d m w) := by
 unfold endFatal
 lift_lets
 intros
 split
 all_goals first
  | exact ok_up h (by assumption)
  | exact halt_up h (by assumption)
theorem writeOn_up {p : Program} {fr : Frame} {d : Dying} {f : Fatal} {w0 w : World} (h : Up w0 w) : GUp w0 (writeOn p fr d f w) := by
 unfold writeOn
 simp only [Sem.runT_eq]
 split
 ·exact h
 ·split
  all_goals
   next e =>
    injection e with e _
    first
     | exact ok_up h e
     | exact halt_up h e
theorem die_up {p : Program} {fr : Frame} {d : Dying} {w0 w : World} (h : Up w0 w) : GUp w0 (die p fr d w) := by
 unfold die
 simp only [Sem.runT_eq]
 split
 ·exact writeOn_up h
 ·split
  ·split
   ·exact h
   ·exact endWith_up h
  ·split
   ·exact h
   ·split
    all_goals first
     | exact ok_up h (by assumption)
     | exact halt_up h (by assumption)
   ·refine GUp.after ?_
    split
    all_goals first
     | exact ok_up h (by assumption)
     | exact halt_up h (by assumption)
     | exact endPrinting_up (halt_up h (by assumption))
     | skip
    exact h
   ·exact h
theorem callDeferred_up {p : Program} {fr : Frame} {cs : List Frame} {dy : Option Dying} {d : Deferred} {w0 w : World} (h : Up w0 w) :
  GUp w0 (callDeferred p fr cs dy d w) := by
 unfold callDeferred
 simp only [Sem.runT_eq]
 refine iteInduction (motive := GUp w0) (fun _ => h) (fun _ => GUp.after ?_)
 split
 all_goals first
  | exact ok_up h (by assumption)
  | exact halt_up h (by assumption)
  | exact endFatal_up (halt_up h (by assumption))
  | skip
 split
 all_goals exact ok_up h (by assumption)
theorem unwind_up {p : Program} {main : Bool} {fr : Frame} {cs : List Frame} {dy : Option Dying} {w0 w : World} (h : Up w0 w) :
  GUp w0 (unwind p main fr cs dy w) := by
 unfold unwind
 simp only [Sem.runT_eq]
 split
 ·refine GUp.after ?_
  split
  all_goals first
   | exact ok_up h (by assumption)
   | exact halt_up h (by assumption)
 ·exact callDeferred_up h
 ·split
  ·exact h
  ·split
   ·exact h
   ·split
    ·exact h
    ·split
     ·split
      ·exact h
      ·split
       all_goals first
        | exact ok_up h (by assumption)
        | exact halt_up h (by assumption)
     ·split
      ·exact endPrinting_up h
      ·exact h
  ·split
   ·exact doReturn_up h
   ·refine GUp.after ?_
    split
    all_goals first
     | exact doReturn_up (ok_up h (by assumption))
     | exact halt_up h (by assumption)
theorem early_up {p : Program} {fr : Frame} {cs : List Frame} {dy : Option Dying} {g : Nat} {w0 w : World} (h : Up w0 w) :
  GUp w0 (early p fr cs dy g w) := by
 have h1 : ∀ w, Up w0 w → GUp w0 (match w.heap[g]? with
  | some (.pending c elem) => .go { frame := fr, callers := cs, status := .running, dying := dy } { w with heap := w.heap.setIfInBounds g (.cells c elem) }
  |_ => .ended (.stuck "early: the variable does not wait" (fr.pos p)) w) := by
  intro w h
  split <;> exact h
 unfold early
 simp only []
 refine iteInduction (motive := GUp w0) (fun _ => h1 w h) (fun _ => ?_)
 split
 ·exact h
 ·refine iteInduction (motive := GUp w0) (fun _ => h1 w h) (fun _ => ?_)
  refine iteInduction (motive := GUp w0) (fun _ => h1 w h) (fun _ => ?_)
  split
  ·exact h
  ·exact h
  ·exact h
  ·exact h1 w h
  ·refine iteInduction (motive := GUp w0) (fun _ => h) (fun _ => ?_)
   refine iteInduction (motive := GUp w0) (fun _ => h1 w h) (fun _ => ?_)
   split
   ·exact h1 _ (ok_up h (by assumption))
   ·exact ok_up h (by assumption)
   ·exact halt_up h (by assumption)
theorem apply_up {p : Program} {b : Bool} {fr : Frame} {cs : List Frame} {dy : Option Dying} {s : Sem Next} {w0 w : World} (h : Up w0 w) :
  GUp w0 (stepG.apply p b fr cs dy s w) := by
 unfold stepG.apply
 simp only [Sem.runT_eq]
 refine GUp.after ?_
 have hr : (if b = true then (s.run p w, s.events p w #[]) else (s.run p w, #[])).1 = s.run p w := by split <;> rfl
 rw [hr]
 split
 all_goals first
  | exact ok_up h (by assumption)
  | exact halt_up h (by assumption)
  | exact endFatal_up (halt_up h (by assumption))
  | exact early_up (halt_up h (by assumption))
  | skip
 all_goals
  have hw := ok_up h (by assumption)
  first
   | (refine iteInduction (motive := GUp w0) (fun _ => hw) (fun _ => ?_); exact hw)
   | (split <;> exact hw)
theorem oper_up {p : Program} {b : Bool} {fr : Frame} {cs : List Frame} {dy : Option Dying} {w0 w : World} (h : Up w0 w) :
  GUp w0 (stepG.oper p b fr cs dy w) := by
 unfold stepG.oper
 split
 ·exact h
 ·split <;> exact apply_up h
theorem exec_up {p : Program} {main b : Bool} {fr : Frame} {cs : List Frame} {dy : Option Dying} {w0 w : World} (h : Up w0 w) :
  GUp w0 (stepG.exec p main b fr cs dy w) := by
 have hl : ∀ (c : Prop) [Decidable c] (jump : Option Code), GUp w0 (match fr.roundOf with
   | none => if c then .go { frame := { fr with mode := .returning }, callers := cs, status := .running, dying := dy } w else .ended (.stuck "exit, goto: no such block or label" (fr.pos p)) w
   | some l =>
    GStep.after (seen p fr.fn ((Instr.endRound l jump).events p w #[])) <| match (Instr.endRound l jump).run p w with
    | .ok v w => doReturn p main fr cs dy v w
    |.halt _ w => .ended (.stuck "range over a function: no such loop" (fr.pos p)) w) := by
  intro c _ jump
  split
  ·refine iteInduction (motive := GUp w0) (fun _ => h) (fun _ => h)
  ·refine GUp.after ?_
   split
   ·exact doReturn_up (ok_up h (by assumption))
   ·exact halt_up h (by assumption)
 unfold stepG.exec
 simp only [Sem.runT_eq]
 split
 all_goals first
  | exact h
  | exact hl _ _
  | exact apply_up h
  | skip
 ·split <;> exact h
 ·cases exitTo _ _ with
  | none => exact hl _ _
  | some k => exact h
 ·cases gotoIn _ _ with
  | none => exact hl _ _
  | some k => exact h
 ·refine GUp.after ?_
  split
  ·exact apply_up (ok_up h (by assumption))
  ·exact halt_up h (by assumption)
 ·refine GUp.after ?_
  split
  ·exact ok_up h (by assumption)
  ·exact halt_up h (by assumption)
  ·exact halt_up h (by assumption)
 ·cases Extern.next _ with
  | none => exact h
  | some e => exact apply_up h
 ·refine iteInduction (motive := GUp w0) (fun _ => h) (fun _ => ?_)
  split
  ·exact ok_up h (by assumption)
  ·exact halt_up h (by assumption)
 ·refine iteInduction (motive := GUp w0) (fun _ => oper_up h) (fun _ => h)
theorem stepG_up {p : Program} {main b : Bool} {g : Goroutine} {w0 w : World} (h : Up w0 w) : GUp w0 (stepG p main g w b) := by
 unfold stepG
 split
 split
 ·exact die_up h
 ·exact exec_up h
 ·exact unwind_up h
def SUp (w0 : World) : Stepped → Prop
 | .next m => Up w0 m.world
 | .ended _ _ => True
theorem communicate_up {p : Program} {rest : Rest} {gs : Array Goroutine} {i : Nat} {g : Goroutine} {cases : Array CommCase} {bl : Bool} {shape : CommShape} {w0 w : World} (h : Up w0 w) :
  SUp w0 (communicate p rest gs i g cases bl shape w).1 := by
 unfold communicate
 simp only []
 refine iteInduction (motive := fun x : Stepped × Array MemOp => SUp w0 x.1) (fun _ => trivial) (fun _ => ?_)
 refine iteInduction (motive := fun x : Stepped × Array MemOp => SUp w0 x.1) (fun _ => ?_) (fun _ => ?_)
 ·refine iteInduction (motive := fun x : Stepped × Array MemOp => SUp w0 x.1) (fun _ => ?_) (fun _ => h)
  split
  ·next e =>
   unfold waitingAt at e
   repeat' split at e
   all_goals first
    | (cases e; done)
    | (injection e with e; subst e; exact h)
  ·trivial
 ·split
  ·trivial
  ·have hw := ok_up h (by assumption)
   split
   ·split
    ·exact halt_up hw (by assumption)
    ·trivial
   ·exact hw
   ·exact hw
   ·split
    ·exact hw
    ·split
     ·have hv := ok_up hw (by assumption)
      exact hv
     ·trivial
   ·exact hw
   ·exact hw
   ·trivial
theorem look_up {p : Program} {gs : Array Goroutine} {rest : Rest} {w0 w : World} (h : Up w0 w) : SUp w0 (look p gs rest w) := by
 unfold look
 simp only []
 split
 ·refine iteInduction (motive := SUp w0) (fun _ => trivial) (fun _ => ?_)
  split
  ·trivial
  ·split
   ·have hv := ok_up h (by assumption)
    exact hv
   ·trivial
   ·trivial
 ·trivial
theorem timerOp_up {m : Machine} {op : TimerOp} {v : Value} {m' : Machine} {w0 : World} (h : Up w0 m.world) (e : timerOp m op = .ok (v, m')) : Up w0 m'.world := by
 have hd : ∀ w c, Up w0 w → Up w0 (drain w c).2 := by
  intro w c h
  unfold drain
  split <;> exact h
 have hre : ∀ (m : Machine) k t a b, Up w0 m.world → Up w0 (retime m k t a b).2.world := by
  intro m k t a b h
  unfold retime
  split
  next had w1 e =>
  split at e
  ·next c _ =>
   have := hd m.world c h
   rw [e] at this
   exact this
  ·injection e with _ e; subst e; exact h
 have hn : ∀ m var f v m', (∀ k t, Up w0 (f k t).2.world) → timerOp.named m var f = .ok (v, m') → Up w0 m'.world := by
  intro m var f v m' hf e
  unfold timerOp.named at e
  split at e
  ·next k _ =>
   injection e with e; have := hf k (m.rest.timers.getD k default); rw [e] at this; exact this
  ·cases e
 unfold timerOp at e
 split at e
 ·split at e
  ·injection e with e; injection e with _ e; subst e; exact h
  ·split at e
   ·split at e
    ·cases e
    ·injection e with e; injection e with _ e; subst e; exact h
   ·cases e
 ·exact hn _ _ _ _ _ (fun k t => hre m k t _ _ h) e
 ·split at e
  ·next m1 e1 =>
   refine hn _ _ _ _ _ (fun k t => hre m1 k t _ _ ?_) e
   unfold timerOp.opened at e1
   repeat' split at e1
   all_goals first
    | (cases e1; done)
    | (injection e1 with e1; subst e1; exact h)
  ·cases e
 ·injection e with e; injection e with _ e; subst e; exact h
theorem serve_up {p : Program} {m : Machine} {k : Nat} {w0 : World} (h : Up w0 m.world) : SUp w0 (serve p m k) := by
 unfold serve
 split
 ·trivial
 ·exact h
 ·simp only []
  split
  ·trivial
  ·exact h
theorem runT_up {p : Program} {m : Machine} {i : Nat} {b : Bool} {w0 : World} (h : Up w0 m.world) : SUp w0 (runT p m i b).1 := by
 unfold runT
 simp only []
 have hs : GUp w0 (stepG p (i == 0) (m.gs.swapAt! i { (default : Goroutine) with status := .finished }).1 m.world b) := stepG_up h
 generalize stepG p (i == 0) (m.gs.swapAt! i { (default : Goroutine) with status := .finished }).1 m.world b = s at hs
 cases s with
 | go g w es => exact hs
 | comm g cases bl shape w es => exact communicate_up hs
 | spawn g c w es => exact hs
 | count g w es =>
  simp only []
  exact iteInduction (motive := fun x : Stepped => SUp w0 x) (fun _ => trivial) (fun _ => hs)
 | timer g op w es =>
  simp only []
  split
  ·next e =>
   have ht := timerOp_up (w0 := w0) (m := Machine.mk w _ _) hs e
   exact ht
  ·exact hs
  ·trivial
  ·trivial
 | alone g on w es => exact hs
 | newcoro g c d w es => exact hs
 | coroswitch g c ex w es =>
  simp only []
  split
  ·exact hs
  ·exact hs
  ·trivial
 | collect g w es => exact look_up hs
 | watch g w es => exact hs
 | ended o w es => trivial
def MUp (w0 : World) : Move → Prop
 | .goroutine m _ => Up w0 m.world
 | .machine s _ => SUp w0 s
theorem adv_up {m : Machine} {w0 : World} (h : Up w0 m.world) (t : Nat) : Up w0 (m.advanceTo t).world := h
theorem askOn_up {p : Program} {m : Machine} {w0 : World} (h : Up w0 m.world) : MUp w0 (askOn p m) := by
 unfold askOn
 simp only []
 split
 ·trivial
 ·have hw := ok_up h (by assumption)
  refine iteInduction (motive := MUp w0) (fun _ => serve_up hw) (fun _ => ?_)
  split
  ·split
   ·exact hw
   ·refine iteInduction (motive := MUp w0) (fun _ => hw) (fun _ => ?_)
    split <;> trivial
  ·split
   ·split
    ·trivial
    ·have hv := ok_up hw (by assumption)
     refine iteInduction (motive := MUp w0) (fun _ => hv) (fun _ => ?_)
     split
     ·trivial
     ·have hu := ok_up hv (by assumption)
      exact hu
   ·split
    ·trivial
    ·have hx := ok_up hw (by assumption)
     split
     ·trivial
     ·have hv := ok_up hx (by assumption)
      refine iteInduction (motive := MUp w0) (fun _ => hv) (fun _ => ?_)
      split
      ·trivial
      ·have hu := ok_up hv (by assumption)
       exact hu
    ·have hx := ok_up hw (by assumption)
     exact hx
    ·have hx := ok_up hw (by assumption)
     split
     ·trivial
     ·rename_i e
      have hv := ok_up (adv_up (m := { world := _, gs := m.gs, rest := m.rest }) hx _) e
      refine iteInduction (motive := MUp w0) (fun _ => hv) (fun _ => ?_)
      split
      ·trivial
      ·have hu := ok_up hv (by assumption)
       exact hu
theorem ask_up' {p : Program} {m : Machine} {w0 : World} (h : Up w0 m.world) : MUp w0 (ask p m) := by
 unfold ask
 split
 ·split
  ·trivial
  ·have hw := ok_up h (by assumption)
   have hk := look_up (p := p) (gs := m.gs) (rest := m.rest) hw
   split
   ·next e => rw [e] at hk; exact askOn_up hk
   ·exact hk
  ·have hw := ok_up h (by assumption)
   exact askOn_up hw
 ·exact askOn_up h
theorem move_up {p : Program} {m : Machine} {w0 : World} (h : Up w0 m.world) : MUp w0 (move p m) := by
 unfold move
 split
 ·split
  ·exact h
  ·trivial
 ·split
  ·split
   ·exact h
   ·exact ask_up' h
  ·exact ask_up' h
theorem step_up {p : Program} {m : Machine} {w0 : World} (h : Up w0 m.world) : SUp w0 (step p m) := by
 unfold step stepT
 have hm := move_up (p := p) h
 split
 ·next e => rw [e] at hm; exact runT_up hm
 ·next e => rw [e] at hm; exact hm
theorem runN_up {p : Program} {w0 : World} (n : Nat) : ∀ m : Machine, Up w0 m.world → SUp w0 (runN p n m) := by
 induction n with
 | zero => exact fun _ h => h
 | succ n ih =>
  intro m h
  have hs := step_up (p := p) h
  rw [runN]
  split
  ·next e => rw [e] at hs; exact ih _ hs
  ·exact hs
theorem steps_up {p : Program} {m m' : Machine} (h : Steps p m m') : Up m.world m'.world := by
 obtain ⟨n, hn⟩ := h
 have := runN_up (p := p) n m (Up.refl _)
 rw [hn] at this
 exact this
theorem calls_up {P : Program} {f : FuncId} {args : Array Value} {w : World} {R : Ending → World → Prop} (h : Calls P f args w R) :
  Calls P f args w fun e w' => R e w' ∧ ∀ v, e = .returned v → Up w w' := by
 intro cs
 obtain ⟨e, w', fr, hR, hc, h1, h2⟩ := h cs
 refine ⟨e, w', fr, ⟨hR, ?_⟩, hc, h1, h2⟩
 intro v he
 subst he
 exact steps_up hc
end Go.Ab

