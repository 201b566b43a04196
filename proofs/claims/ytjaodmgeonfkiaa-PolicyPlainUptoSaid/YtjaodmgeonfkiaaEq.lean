/-
  The engine, part q: the operations of a region as steps, and their order.
-/
import Derived.Test.YtjaodmgeonfkiaaEp
namespace Go.Ab

def putE (e : Env) (d : Option Nat) (v : AV) : Env :=
  match d with
  | some d => upd e d v
  | none => e

/-- does the guard let the operation run? -/
def gv (e : Env) : Option (Nat × Bool) → Option Bool
  | none => some true
  | some (s, want) => match lk e s with
    | .c (.d (.bool b)) => some (b == want)
    | .tup [] => some false
    | _ => none

/-- a call that only looks at its arguments: its result is plain, or new memory -/
def LookS (P : Program) (f : Nat) (vargs : List AV) (r : AV) : Prop := (FnS P f vargs [] fun r' _ => scalA r' = true ∧ r' = r) ∨ FrS P f vargs r

/-- a call, whose result does not hang on the heap -/
def PureR (P : Program) (h : Hp) (f : Nat) (args : List AV) (r : AV) : Prop :=
  (∃ args', (args' = args.map fgA ∨ args' = args) ∧ args'.all pureA = true ∧ FnS P f args' [] fun r' _ => pureA r' = true ∧ r' = r) ∨
  (∃ vargs, viewAs h args = some vargs ∧ LookS P f vargs r)

theorem PureR.fn {P : Program} {h : Hp} {f : Nat} {args : List AV} {r : AV} (hp : PureR P h f args r) : FnS P f args h fun r' h' => h' = h ∧ r' = r := by
  rcases hp with ⟨args', h0, h1, h2⟩ | ⟨vargs, h1, h2⟩
  · rcases h0 with rfl | rfl
    · exact FnS.fg (FnS.lift h2 h1)
    · exact FnS.lift h2 h1
  · rcases h2 with h2 | h2
    · exact FnS.look h2 h1
    · exact FnS.fresh h2 h1

/-- one operation, from a state to the next -/
def StepR (P : Program) (o : AO) (e : Env) (h : Hp) (e' : Env) (h' : Hp) : Prop :=
  match gv e o.g with
  | some false => e' = putE e o.dst (.tup []) ∧ h' = h
  | some true => (∃ v, astep e h o.op = some (v, h') ∧ e' = putE e o.dst v) ∨
      (∃ f xs r, o.op = .call f xs ∧ PureR P h f (evs e xs) r ∧ e' = putE e o.dst r ∧ h' = h)
  | none => False

/-- where a guard's answer lies -/
def gslot (ops : Array Oper) (o : Oper) : Option (Option (Nat × Bool)) :=
  match o.guard with
  | none => some none
  | some (j, want) => match (ops[j]?).bind (·.dst) with
    | some d => some (some (d, want))
    | none => none

def compO (P : Program) (ops : Array Oper) (N : Nat) (o : Oper) : Option AO :=
  match gslot ops o with
  | some g => match o.dst with
    | some d => if d < N then some ⟨some d, compOp P o, g⟩ else none
    | none => some ⟨none, compOp P o, g⟩
  | none => none

/-- the abstract state of a function that began at a given state: slots, heap, and what has become of memory since -/
structure St (N : Nat) (G0 : Nat → Prop) (ι0 : Io) (h0 : Hp) (w0 : World) (G : Nat → Prop) (ι : Io) (e : Env) (h : Hp) (a : Act) (w : World) : Prop where
  rel : Rel N G ι e h a w
  ext : Ext G0 ι0 h0 w0 G ι h w

section
variable {P : Program} {N : Nat} {G0 : Nat → Prop} {ι0 : Io} {h0 : Hp} {w0 : World}

/-- some memory fits the abstract state -/
def Fits (N : Nat) (G0 : Nat → Prop) (ι0 : Io) (h0 : Hp) (w0 : World) (e : Env) (h : Hp) (a : Act) (w : World) : Prop := ∃ G ι, St N G0 ι0 h0 w0 G ι e h a w

theorem gv_wanted {ops : Array Oper} {o : Oper} {g : Option (Nat × Bool)} {G : Nat → Prop} {ι : Io} {e : Env} {h : Hp} {a : Act} {w : World} {b : Bool} (r : Rel N G ι e h a w) (hg : gslot ops o = some g)
    (hv : gv e g = some b) (hN : ∀ s q, g = some (s, q) → s < N) : Region.wanted o (yielded ops a.tmps) = b := by
  unfold gslot at hg
  unfold Region.wanted
  split at hg
  · rename_i hgd
    cases hg
    simp only [gv, Option.some.injEq] at hv
    simp [hgd, hv]
  · rename_i j want hgd
    split at hg
    · rename_i d hd
      cases hg
      have hdN := hN d want rfl
      have hval : a.tmps[d]? = some (a.tmps.getD d undef) := by
        rw [Array.getElem?_eq_getElem (by rw [r.size]; exact hdN)]
        simp [Array.getD_eq_getD_getElem?, r.size, hdN]
      have hvr := r.env d
      simp only [gv] at hv
      simp only [hgd, yielded, hd, Option.bind_some, hval]
      split at hv
      · rename_i b' hb'
        cases hv
        rw [hb'] at hvr
        rw [inv_bool hvr]
        cases b' <;> cases want <;> rfl
      · rename_i hb'
        cases hv
        rw [hb'] at hvr
        obtain ⟨cs, hcs, hn, _⟩ := inv_tup hvr
        rw [hcs]
        cases want <;> rfl
      · cases hv
    · cases hg

theorem compO_dst {ops : Array Oper} {o : Oper} {ao : AO} (hc : compO P ops N o = some ao) : ao.dst = o.dst ∧ (∀ d, o.dst = some d → d < N) ∧ ao.op = compOp P o ∧ gslot ops o = some ao.g := by
  unfold compO at hc
  split at hc
  · rename_i g hg
    split at hc
    · rename_i d hd
      split at hc
      · rename_i hlt
        cases hc
        exact ⟨hd.symm, fun d' hd' => by rw [hd] at hd'; cases hd'; exact hlt, rfl, hg⟩
      · cases hc
    · rename_i hd
      cases hc
      exact ⟨hd.symm, (fun d' hd' => by rw [hd] at hd'; cases hd'), rfl, hg⟩
  · cases hc

theorem St.step {G G' : Nat → Prop} {ι ι' : Io} {e : Env} {h h' : Hp} {a : Act} {w w' : World} {v : Value} {av : AV} {dst : Option Nat} (s : St N G0 ι0 h0 w0 G ι e h a w) (hd : ∀ d, dst = some d → d < N)
    (hr : HR G' ι' h' w') (hv : VR G' w' ι' h' v av) (hx : Ext G ι h w G' ι' h' w') : St N G0 ι0 h0 w0 G' ι' (putE e dst av) h' (a.put dst v) w' := by
  refine ⟨?_, s.ext.trans hx⟩
  cases dst with
  | none => exact s.rel.put_none hx hr v
  | some d => exact s.rel.put hx hr (hd d rfl) hv

theorem callFunc_run {f : Nat} {fn : Func} {args : Array Value} {w : World} (hf : P.funcs[f]? = some fn) (hb : fn.body.isSome = true) (hn : fn.name ≠ "runtime.NumGoroutine") :
    (callFunc f args).run P w = .ok (.enter f args) w := by
  have h2 : fn.body ≠ none := by intro hh; rw [hh] at hb; cases hb
  simp [callFunc, hf, hn, h2]

/-- the text's call of a function by its name -/
theorem call_exec {o : Oper} {c : Call} {f : Nat} {xs : List X} {a : Act} {w : World} (hop : o.op = .call c) (hc : compOp P o = .call f xs) :
    (execOp a.eval o).run P w = .ok (.enter f (c.args.map a.eval)) w ∧ cxs P c.argTypes.toList c.args.toList = some xs := by
  simp only [compOp, hop] at hc
  split at hc
  · exact absurd hc compB_call
  · rename_i f' hcal
    split at hc
    · rename_i fn l hfn hl
      split at hc
      · rename_i hcond
        cases hc
        refine ⟨?_, hl⟩
        have hev : a.eval (.func f) = .func (.func f) #[] #[] := rfl
        simp only [execOp, hop, resolve, hcal, hev, Deferred.ofValue, Sem.run_bind, Sem.run_pure, Result.andThen_ok, invoke, Array.empty_append, Array.append_empty]
        exact callFunc_run hfn hcond.1 hcond.2
      · cases hc
    · cases hc
  · split at hc <;> cases hc
  · cases hc

theorem compOp_call {o : Oper} {f : Nat} {xs : List X} (hc : compOp P o = .call f xs) : ∃ c, o.op = .call c := by
  cases hoo : o.op
  case call c => exact ⟨c, rfl⟩
  case makeMap t rs => exfalso; cases rs <;> (simp only [compOp, hoo] at hc; cases hc)
  case makeFunc fn first caps =>
    exfalso
    cases fn
    case func g =>
      simp only [compOp, hoo] at hc
      revert hc
      (repeat' split) <;> intro hc <;> cases hc
    all_goals (simp only [compOp, hoo] at hc; cases hc)
  all_goals
    exfalso
    simp only [compOp, hoo] at hc
    revert hc
    (repeat' split) <;> intro hc <;> cases hc

theorem step_sound {ops : Array Oper} {o : Oper} {ao : AO} {e e' : Env} {h h' : Hp} {a : Act} {w : World} {K : Act → World → Prop} {Q : Exit → Act → World → Prop} (hc : compO P ops N o = some ao)
    (hgN : ∀ s q, ao.g = some (s, q) → s < N)
    (hs : StepR P ao e h e' h') (hf : Fits N G0 ι0 h0 w0 e h a w) (hK : ∀ a' w', Fits N G0 ι0 h0 w0 e' h' a' w' → K a' w') :
    if Region.wanted o (yielded ops a.tmps) then o.wp P a w K Q ∨ (o.asks P a w ∧ LetsOut Q) else K (a.put o.dst undef) w := by
  obtain ⟨G, ι, st⟩ := hf
  obtain ⟨hd, hdN, hop, hg⟩ := compO_dst hc
  unfold StepR at hs
  split at hs
  · rename_i hgv
    rw [gv_wanted st.rel hg hgv hgN]
    simp only [Bool.false_eq_true, if_false]
    obtain ⟨rfl, rfl⟩ := hs
    refine hK _ _ ⟨G, ι, ?_⟩
    rw [hd]
    exact st.step hdN st.rel.hr (.tup #[] [] rfl (by simp)) (Ext.refl _ _ _ _)
  · rename_i hgv
    rw [gv_wanted st.rel hg hgv hgN]
    simp only [if_true]
    left
    rcases hs with ⟨v, hs, rfl⟩ | ⟨f, xs, rv, hcall, hp, rfl, rfl⟩
    · rw [hop] at hs
      obtain ⟨v', w', G', ι', hrun, k1, k2, k3⟩ := op_sound st.rel hs
      unfold Oper.wp
      rw [hd] at hK
      rcases hrun with hrun | ⟨hrun, rfl⟩
      · rw [hrun]; exact hK _ _ ⟨G', ι', st.step hdN k1 k2 k3⟩
      · rw [hrun]; exact hK _ _ ⟨G', ι', st.step hdN k1 k2 k3⟩
    · rw [hop] at hcall
      obtain ⟨c, hoo⟩ := compOp_call hcall
      · obtain ⟨q1, q2⟩ := call_exec (a := a) (w := w) hoo hcall
        obtain ⟨t1, t2⟩ := args_sound st.rel q2
        unfold Oper.wp
        rw [q1, Oper.upon_enter]
        have hargs : c.args.map a.eval = (c.args.toList.map a.eval).toArray := by apply Array.ext'; simp
        rw [hargs]
        refine ((hp.fn).out G ι w _ st.rel.hr ⟨t1, t2⟩).mono fun en w' ⟨v, r, G', ι', h', k0, k1, k2, k3, k4⟩ => ?_
        obtain ⟨rfl, rfl⟩ := k1
        subst k0
        rw [hd] at hK
        exact hK _ _ ⟨G', ι', st.step hdN k2 k3 k4⟩
  · exact hs.elim

end
end Go.Ab
