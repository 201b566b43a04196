/-
  Merged texts, part g.
-/
import Derived.Test.YtollegfnkaomeaaZf
import Derived.Orders
import Derived.RangeFuncBound
import Derived.RangeFuncLeaves
import Derived.OrdersIn
/-
  The engine, part p: calls, and one operation of a region as a step.
-/
namespace Go.Ab
def pureC : CV → Bool
 | .u => true
 | .d _ => true
 | .cl _ _ _ => true
 | .rp _ => true
 | .fn _ _ [] => true
 | _ => false
def pureA : AV → Bool
 | .c x => pureC x
 | .agg l => l.all pureC
 | .tup l => pureAs l
where
  pureAs : List AV → Bool
    | [] => true
    | x :: r => pureA x && pureAs r
def scalC : CV → Bool
 | .d (.bool _) => true
 | .d (.int _ _) => true
 | .d (.str _) => true
 | _ => false
def scalA : AV → Bool
 | .c x => scalC x
 | .agg l => l.all scalC
 | .tup l => scalAs l
where
  scalAs : List AV → Bool
    | [] => true
    | x :: r => scalA x && scalAs r
theorem scalC_move {G G' : Nat → Prop} {w w' : World} {ι ι' : Io} {h h' : Hp} {v : Value} {x : CV} (hs : scalC x = true) (hx : CR G w ι h v x) : CR G' w' ι' h' v x := by
 cases hx with
 | d _ x hd =>
  cases hd with
  | bool b => exact .d _ _ (.bool b)
  | int k n => exact .d _ _ (.int k n)
  | str s => exact .d _ _ (.str s)
  | _ => simp [scalC] at hs
 | _ => simp [scalC] at hs
theorem pureAs_get {l : List AV} (hs : pureA.pureAs l = true) : ∀ (i : Nat) (x : AV), l[i]? = some x → pureA x = true := by
 induction l with
 | nil => intro i x hx; simp at hx
 | cons y r ih =>
  intro i x hx
  simp only [pureA.pureAs, Bool.and_eq_true] at hs
  cases i with
  | zero => simp at hx; subst hx; exact hs.1
  | succ i => simp at hx; exact ih hs.2 i x hx
theorem scalAs_get {l : List AV} (hs : scalA.scalAs l = true) : ∀ (i : Nat) (x : AV), l[i]? = some x → scalA x = true := by
 induction l with
 | nil => intro i x hx; simp at hx
 | cons y r ih =>
  intro i x hx
  simp only [scalA.scalAs, Bool.and_eq_true] at hs
  cases i with
  | zero => simp at hx; subst hx; exact hs.1
  | succ i => simp at hx; exact ih hs.2 i x hx
theorem scalA_move {G G' : Nat → Prop} {w w' : World} {ι ι' : Io} {h h' : Hp} {v : Value} {x : AV} (hs : scalA x = true) (hx : VR G w ι h v x) : VR G' w' ι' h' v x := by
 induction hx with
 | c v x hc => exact .c _ _ (scalC_move hs hc)
 | agg cs l hn hc =>
  simp only [scalA, List.all_eq_true] at hs
  exact .agg _ _ hn fun i v x hv hx => scalC_move (hs x (List.mem_of_getElem? hx)) (hc i v x hv hx)
 | tup cs l hn _ ih =>
  simp only [scalA] at hs
  exact .tup _ _ hn fun i v x hv hx => ih i v x hv hx (scalAs_get hs i x hx)
theorem pureC_move {G G' : Nat → Prop} {w w' : World} {ι ι' : Io} {h h' : Hp} {v : Value} {x : CV} (hs : pureC x = true) (hg : ∀ b, G b → G' b ∧ w'.heap[b]? = w.heap[b]?)
  (hx : CR G w ι h v x) : CR G' w' ι' h' v x := by
 cases hx with
 | u => exact .u _
 | d _ x hd => exact .d _ _ (hd.mono hg)
 | cl _ nl sz l hd hc => exact .cl _ _ _ _ (hd.mono hg) hc
 | rp b o cs hG hc =>
  refine .rp b o cs (hg b hG).1 fun j x hx => ?_
  obtain ⟨v, hv, hd⟩ := hc j x hx
  exact ⟨v, by rw [cell_same (hg b hG).2]; exact hv, hd.mono hg⟩
 | ptr => simp [pureC] at hs
 | arr => simp [pureC] at hs
 | mp => simp [pureC] at hs
 | it => simp [pureC] at hs
 | fn v b f vs caps hv hn hc =>
  cases caps with
  | nil => exact .fn v b f vs [] hv hn (by simp)
  | cons => simp [pureC] at hs
theorem pureA_move {G G' : Nat → Prop} {w w' : World} {ι ι' : Io} {h h' : Hp} {v : Value} {x : AV} (hs : pureA x = true) (hg : ∀ b, G b → G' b ∧ w'.heap[b]? = w.heap[b]?)
  (hx : VR G w ι h v x) : VR G' w' ι' h' v x := by
 induction hx with
 | c v x hc => exact .c _ _ (pureC_move hs hg hc)
 | agg cs l hn hc =>
  simp only [pureA, List.all_eq_true] at hs
  exact .agg _ _ hn fun i v x hv hx => pureC_move (hs x (List.mem_of_getElem? hx)) hg (hc i v x hv hx)
 | tup cs l hn _ ih =>
  simp only [pureA] at hs
  exact .tup _ _ hn fun i v x hv hx => ih i v x hv hx (pureAs_get hs i x hx)
def VRs (G : Nat → Prop) (w : World) (ι : Io) (h : Hp) (vs : List Value) (avs : List AV) : Prop :=
 vs.length = avs.length ∧ ∀ (i : Nat) (v : Value) (x : AV), vs[i]? = some v → avs[i]? = some x → VR G w ι h v x
def CallsF (P : Program) (f : Nat) (vs : Array Value) (w : World) (R : Ending → World → Prop) : Prop :=
 ((∃ fn, P.funcs[f]? = some fn) ∧ Calls P f vs w R) ∨ ∃ l, f = 8589934592 + l ∧ P.funcs[f]? = none ∧ YieldAt Fence.wide 0 P l vs w R
theorem CallsF.mono {P : Program} {f : Nat} {vs : Array Value} {w : World} {R R' : Ending → World → Prop} (h : CallsF P f vs w R) (hr : ∀ e w, R e w → R' e w) : CallsF P f vs w R' := by
 rcases h with h | ⟨l, h1, h2, h3⟩
 ·exact .inl ⟨h.1, h.2.mono hr⟩
 ·exact .inr ⟨l, h1, h2, h3.mono hr⟩
theorem CallsF.of {P : Program} {f : Nat} {fn : Func} {vs : Array Value} {w : World} {R : Ending → World → Prop} (hf : P.funcs[f]? = some fn) (h : Calls P f vs w R) : CallsF P f vs w R := .inl ⟨⟨fn, hf⟩, h⟩
theorem CallsF.calls {P : Program} {f : Nat} {fn : Func} {vs : Array Value} {w : World} {R : Ending → World → Prop} (h : CallsF P f vs w R) (hf : P.funcs[f]? = some fn) : Calls P f vs w R := by
 rcases h with h | ⟨l, _, h2, _⟩
 ·exact h.2
 ·rw [hf] at h2; cases h2
structure NoFn (P : Program) (l : Nat) : Prop where
 no : P.funcs[8589934592 + l]? = none
theorem CallsF.yl {P : Program} {l : Nat} {vs : Array Value} {w : World} {R : Ending → World → Prop} (h : CallsF P (8589934592 + l) vs w R) (hn : NoFn P l) : YieldAt Fence.wide 0 P l vs w R := by
 rcases h with ⟨⟨fn, h⟩, _⟩ | ⟨l', e, _, h3⟩
 ·rw [hn.no] at h; cases h
 ·have : l = l' := by omega
  subst this
  exact h3
structure FnS (P : Program) (f : Nat) (args : List AV) (h : Hp) (R : AV → Hp → Prop) : Prop where
 out : ∀ (G : Nat → Prop) (ι : Io) (w : World) (vs : List Value), HR G ι h w → VRs G w ι h vs args →
  CallsF P f vs.toArray w fun e w' => ∃ v r G' ι' h', e = .returned v ∧ R r h' ∧ HR G' ι' h' w' ∧ VR G' w' ι' h' v r ∧ Ext G ι h w G' ι' h' w'
theorem FnS.mono {P : Program} {f : Nat} {args : List AV} {h : Hp} {R R' : AV → Hp → Prop} (hf : FnS P f args h R) (hr : ∀ r h', R r h' → R' r h') : FnS P f args h R' :=
 ⟨fun G ι w vs a b => (hf.out G ι w vs a b).mono fun _ _ ⟨v, r, G', ι', h', h1, h2, h3⟩ => ⟨v, r, G', ι', h', h1, hr r h' h2, h3⟩⟩
theorem FnS.fg {P : Program} {f : Nat} {args : List AV} {h : Hp} {R : AV → Hp → Prop} (hf : FnS P f (args.map fgA) h R) : FnS P f args h R :=
 ⟨fun G ι w vs hr hv => hf.out G ι w vs hr ⟨by rw [hv.1, List.length_map], fun i v x h1 h2 => by
  simp only [List.getElem?_map, Option.map_eq_some_iff] at h2
  obtain ⟨y, hy, rfl⟩ := h2
  exact (hv.2 i v y h1 hy).fg⟩⟩
theorem FnS.lift {P : Program} {f : Nat} {args : List AV} {h : Hp} {R : AV → Prop} (hf : FnS P f args [] fun r _ => pureA r = true ∧ R r) (ha : args.all pureA = true) :
  FnS P f args h fun r h' => h' = h ∧ R r := by
 refine ⟨fun G ι w vs hr hv => ?_⟩
 have hv' : VRs G w [] [] vs args := ⟨hv.1, fun i v x h1 h2 => by
  rw [List.all_eq_true] at ha
  exact pureA_move (ha x (List.mem_of_getElem? h2)) (fun b hb => ⟨hb, rfl⟩) (hv.2 i v x h1 h2)⟩
 refine (hf.out G [] w vs (HR_nil fun b hb => (hr.g b hb).1) hv').mono fun e w' ⟨v, r, G', ι', h', h1, h2, h3, h4, h5⟩ => ?_
 obtain ⟨k1, k2⟩ := Ext.of_pure hr h5 h3
 refine ⟨v, r, _, ι, h, h1, ⟨rfl, h2.2⟩, k2, pureA_move h2.1 (fun b hb => ⟨?_, rfl⟩) h4, k1⟩
 rcases h5.gnew b hb with h | h | h
 ·exact .inl h
 ·exact .inr ⟨hb, h⟩
 ·obtain ⟨l, blk, h1, _⟩ := h; simp at h1
def viewC (h : Hp) : CV → Option CV
 | .arr l v i n => match view h (.c (.arr l v i n)) with
  | some (sz, es) => some (.d (.list false sz es))
  | none => none
 | x => if pureC x then some (fgC x) else none
def viewCs (h : Hp) : List CV → Option (List CV)
 | [] => some []
 | x :: r => match viewC h x, viewCs h r with
  | some y, some l => some (y :: l)
  | _, _ => none
def viewA (h : Hp) : AV → Option AV
 | .c x => (viewC h x).map .c
 | .agg l => (viewCs h l).map .agg
 | .tup _ => none
def viewAs (h : Hp) : List AV → Option (List AV)
 | [] => some []
 | x :: r => match viewA h x, viewAs h r with
  | some y, some l => some (y :: l)
  | _, _ => none
def below (w : World) : Nat → Prop := fun b => b < w.heap.size
theorem viewC_sound {G : Nat → Prop} {ι : Io} {h : Hp} {w : World} {v : Value} {x y : CV} (hr : HR G ι h w) (hx : CR G w ι h v x) (hv : viewC h x = some y) : CR (below w) w [] [] v y := by
 have hg : ∀ b, G b → below w b ∧ w.heap[b]? = w.heap[b]? := fun b hb => ⟨(hr.g b hb).1, rfl⟩
 unfold viewC at hv
 split at hv
 ·rename_i l ver i n
  split at hv
  ·rename_i sz es hes
   cases hv
   have hf : ∃ h', frz h (.arr l ver i n) = some (.list false sz es, h') := by
    simp only [view] at hes
    split at hes
    ·rename_i v' sz' es' hb
     split at hes
     ·rename_i hvv
      cases hes
      exact ⟨h.set l .dead, by simp [frz, hb, hvv]⟩
     ·cases hes
    ·cases hes
   obtain ⟨h', hf⟩ := hf
   obtain ⟨G', k1, k2, _⟩ := frz_sound hr hx hf
   exact .d _ _ (k2.mono fun b hb => ⟨(k1.g b hb).1, rfl⟩)
  ·cases hv
 ·split at hv
  ·rename_i hp
   cases hv
   exact (pureC_move hp hg hx).fg
  ·cases hv
theorem viewCs_get {h : Hp} : ∀ {xs ys : List CV}, viewCs h xs = some ys → xs.length = ys.length ∧ ∀ (i : Nat) (x y : CV), xs[i]? = some x → ys[i]? = some y → viewC h x = some y := by
 intro xs
 induction xs with
 | nil => intro ys hv; simp only [viewCs, Option.some.injEq] at hv; subst hv; simp
 | cons x xs ih =>
  intro ys hv
  simp only [viewCs] at hv
  split at hv
  ·rename_i y l hy hl
   cases hv
   obtain ⟨h1, h2⟩ := ih hl
   refine ⟨by simp [h1], fun i a b ha hb => ?_⟩
   cases i with
   | zero => simp at ha hb; subst ha hb; exact hy
   | succ i => simp at ha hb; exact h2 i a b ha hb
  ·cases hv
theorem viewA_sound {G : Nat → Prop} {ι : Io} {h : Hp} {w : World} {v : Value} {x y : AV} (hr : HR G ι h w) (hx : VR G w ι h v x) (hv : viewA h x = some y) : VR (below w) w [] [] v y := by
 cases hx with
 | c _ x hc =>
  simp only [viewA, Option.map_eq_some_iff] at hv
  obtain ⟨z, hz, rfl⟩ := hv
  exact .c _ _ (viewC_sound hr hc hz)
 | agg cs l hn hc =>
  simp only [viewA, Option.map_eq_some_iff] at hv
  obtain ⟨z, hz, rfl⟩ := hv
  obtain ⟨h1, h2⟩ := viewCs_get hz
  refine .agg _ _ (by omega) fun i v y hv hy => ?_
  have hi := get_lt hy
  have hx : l[i]? = some l[i] := List.getElem?_eq_getElem (by omega)
  exact viewC_sound hr (hc i v _ hv hx) (h2 i _ y hx hy)
 | tup => simp [viewA] at hv
theorem viewAs_get {h : Hp} : ∀ {xs ys : List AV}, viewAs h xs = some ys → xs.length = ys.length ∧ ∀ (i : Nat) (x y : AV), xs[i]? = some x → ys[i]? = some y → viewA h x = some y := by
 intro xs
 induction xs with
 | nil => intro ys hv; simp only [viewAs, Option.some.injEq] at hv; subst hv; simp
 | cons x xs ih =>
  intro ys hv
  simp only [viewAs] at hv
  split at hv
  ·rename_i y l hy hl
   cases hv
   obtain ⟨h1, h2⟩ := ih hl
   refine ⟨by simp [h1], fun i a b ha hb => ?_⟩
   cases i with
   | zero => simp at ha hb; subst ha hb; exact hy
   | succ i => simp at ha hb; exact h2 i a b ha hb
  ·cases hv
theorem FnS.look {P : Program} {f : Nat} {args vargs : List AV} {h : Hp} {R : AV → Prop} (hf : FnS P f vargs [] fun r _ => scalA r = true ∧ R r) (ha : viewAs h args = some vargs) :
  FnS P f args h fun r h' => h' = h ∧ R r := by
 refine ⟨fun G ι w vs hr hv => ?_⟩
 obtain ⟨a1, a2⟩ := viewAs_get ha
 have hv' : VRs (below w) w [] [] vs vargs := ⟨by rw [hv.1, a1], fun i v y h1 h2 => by
  have hi := get_lt h2
  have hx : args[i]? = some (args[i]'(by omega)) := List.getElem?_eq_getElem (by omega)
  exact viewA_sound hr (hv.2 i v _ h1 hx) (a2 i _ y hx h2)⟩
 refine (hf.out (below w) [] w vs (HR_nil fun b hb => hb) hv').mono fun e w' ⟨v, r, G', ι', h', h1, h2, h3, h4, h5⟩ => ?_
 obtain ⟨k1, k2⟩ := Ext.of_pure hr h5 h3
 exact ⟨v, r, _, ι, h, h1, ⟨rfl, h2.2⟩, k2, scalA_move h2.1 h4, k1⟩
structure FrS (P : Program) (f : Nat) (vargs : List AV) (r : AV) : Prop where
 pure : pureA r = true
 out : ∀ (w : World) (vs : List Value), VRs (below w) w [] [] vs vargs →
  CallsF P f vs.toArray w fun e w' => ∃ v, e = .returned v ∧ Quiet w w' ∧ w.heap.size ≤ w'.heap.size ∧ (∀ b, b < w.heap.size → w'.heap[b]? = w.heap[b]?) ∧
   VR (fun b => w.heap.size ≤ b ∧ b < w'.heap.size) w' [] [] v r
theorem FnS.fresh {P : Program} {f : Nat} {args vargs : List AV} {h : Hp} {r : AV} (hf : FrS P f vargs r) (ha : viewAs h args = some vargs) : FnS P f args h fun r' h' => h' = h ∧ r' = r := by
  refine ⟨fun G ι w vs hr hv => ?_⟩
  obtain ⟨a1, a2⟩ := viewAs_get ha
  have hv' : VRs (below w) w [] [] vs vargs := ⟨by rw [hv.1, a1], fun i v y h1 h2 => by
    have hi := get_lt h2
    have hx : args[i]? = some (args[i]'(by omega)) := List.getElem?_eq_getElem (by omega)
    exact viewA_sound hr (hv.2 i v _ h1 hx) (a2 i _ y hx h2)⟩
  refine (hf.out w vs hv').mono fun e w' ⟨v, he, hq, hs, hsame, hvr⟩ => ?_
  have hnew : HR (fun b => w.heap.size ≤ b ∧ b < w'.heap.size) [] [] w' := HR_nil fun b hb => hb.2
  have hext : Ext (fun _ => False) [] [] w (fun b => w.heap.size ≤ b ∧ b < w'.heap.size) [] [] w' :=
    { size := hs
      quiet := hq
      frame := fun b hb _ => hsame b hb
      gmono := fun _ hb => hb.elim
      gnew := fun b hb => .inr (.inl hb.1)
      onew := fun b ⟨l, blk, h1, _⟩ => by simp at h1
      keep := fun l k hk => by simp at hk }
  obtain ⟨k1, k2⟩ := Ext.of_pure hr hext hnew
  refine ⟨v, r, _, ι, h, he, ⟨rfl, rfl⟩, k2, pureA_move hf.pure (fun b hb => ⟨.inr ⟨hb, hb.1⟩, rfl⟩) hvr, k1⟩
end Go.Ab

/-
  The engine, part q: the operations of a region as steps, and their order.
-/
namespace Go.Ab
def Fen : Option Nat → Fence
 | none => Fence.wide
 | some l => Fence.wide.inRound l
theorem Fen.fn (ro : Option Nat) (f : Nat) : (Fen ro).fn f := by cases ro <;> trivial
theorem Fen.round (ro : Option Nat) : (Fen ro).round = ro := by cases ro <;> rfl
theorem Fen.depth (ro : Option Nat) (n : Nat) : (Fen ro).depth.isSome = true → 1 ≤ n := by cases ro <;> exact fun h => by cases h
theorem Fen.calls {P : Program} {f : Nat} {vs : Array Value} {w : World} {R : Ending → World → Prop} (h : Calls P f vs w R) (ro : Option Nat) (n : Nat) : CallsIn (Fen ro) n P f vs w R := by
 have := (callsIn_wide (n := n)).2 h
 cases ro <;> exact this
theorem Fen.rounds {P : Program} {l : Nat} {f : FuncId} {tmps : Array Value} {assign body : Code} {w : World} {R : Ending → World → Prop} (h : RoundIn Fence.wide 0 P l f tmps assign body w R) (ro : Option Nat) : RoundIn (Fen ro) 0 P l f tmps assign body w R := by
 cases ro <;> exact h
section
variable {P : Program} {o : Oper} {a : Act} {w w' : World} {K : Act → World → Prop} {Q : Exit → Act → World → Prop} {ro : Option Nat}
theorem oW_of (hnd : ∀ c, o.op ≠ .defer c) (h : o.uponIn (Fen ro) 0 P a K Q ((execOp a.eval o).run P w)) : o.wpIn (Fen ro) 0 P a w K Q :=
 ⟨fun f _ => Fen.fn ro f, by rw [Oper.semAt_eq _ _ _ hnd]; exact h⟩
theorem oW_value (hnd : ∀ c, o.op ≠ .defer c) {v : Value} (hr : (execOp a.eval o).run P w = .ok (.value v) w') (hk : K (a.put o.dst v) w') : o.wpIn (Fen ro) 0 P a w K Q :=
 oW_of hnd (by rw [hr]; exact hk)
theorem oW_skip (hnd : ∀ c, o.op ≠ .defer c) (hr : (execOp a.eval o).run P w = .ok .skip w') (hk : K (a.put o.dst undef) w') : o.wpIn (Fen ro) 0 P a w K Q :=
 oW_of hnd (by rw [hr]; exact hk)
theorem oW_enter (hnd : ∀ c, o.op ≠ .defer c) {f : Nat} {vs : Array Value} {R : Ending → World → Prop} (hr : (execOp a.eval o).run P w = .ok (.enter f vs) w') (hc : Calls P f vs w' R) (hk : ∀ e w2, R e w2 → ∃ v, e = .returned v ∧ K (a.put o.dst v) w2) : o.wpIn (Fen ro) 0 P a w K Q :=
 oW_of hnd (by
  rw [hr]
  refine ⟨Fen.depth ro 0, Fen.calls (hc.mono fun e w2 he => ?_) ro _⟩
  obtain ⟨v, rfl, h⟩ := hk e w2 he
  exact h)
theorem oW_round (hnd : ∀ c, o.op ≠ .defer c) {l : Nat} {f : FuncId} {tmps : Array Value} {asn body : Code} {R : Ending → World → Prop} (hr : (execOp a.eval o).run P w = .ok (.round l f tmps asn body) w') (hc : RoundIn Fence.wide 0 P l f tmps asn body w' R) (hk : ∀ e w2, R e w2 → ∃ v, e = .returned v ∧ K (a.put o.dst v) w2) : o.wpIn (Fen ro) 0 P a w K Q :=
 oW_of hnd (by
  rw [hr]
  refine ⟨Fen.depth ro 0, Fen.rounds (hc.mono fun e w2 he => ?_) ro⟩
  obtain ⟨v, rfl, h⟩ := hk e w2 he
  exact h)
theorem nd_of (h : compOp P o ≠ .bad) : ∀ c, o.op ≠ .defer c := fun c hc => h (by simp only [compOp, hc])
theorem nd_step {e : Env} {h : Hp} {r : AV × Hp} (hs : astep e h (compOp P o) = some r) : ∀ c, o.op ≠ .defer c :=
 nd_of fun hb => by rw [hb] at hs; cases hs
end
def putE (e : Env) (d : Option Nat) (v : AV) : Env :=
 match d with
 | some d => upd e d v
 | none => e
def gv (e : Env) : Option (Nat × Bool) → Option Bool
 | none => some true
 | some (s, want) => match lk e s with
  | .c (.d (.bool b)) => some (b == want)
  | .tup [] => some false
  | _ => none
def LookS (P : Program) (f : Nat) (vargs : List AV) (r : AV) : Prop := (FnS P f vargs [] fun r' _ => scalA r' = true ∧ r' = r) ∨ FrS P f vargs r
def agreeS (h h' : Hp) : CV → Prop
 | .ptr l _ _ _ => h'[l]? = h[l]?
 | .arr l _ _ _ => h'[l]? = h[l]?
 | .mp l => h'[l]? = h[l]?
 | .it l => h'[l]? = h[l]?
 | _ => True
def agreeC (h h' : Hp) : CV → Prop
 | .ptr l _ _ _ => h'[l]? = h[l]?
 | .arr l _ _ _ => h'[l]? = h[l]?
 | .mp l => h'[l]? = h[l]?
 | .it l => h'[l]? = h[l]?
 | .fn _ _ caps => ∀ c ∈ caps, agreeS h h' c
 | _ => True
theorem agreeS_refl (h : Hp) (x : CV) : agreeS h h x := by cases x <;> simp [agreeS]
theorem agreeS_symm {h h' : Hp} {x : CV} (hx : agreeS h h' x) : agreeS h' h x := by cases x <;> simp_all [agreeS]
theorem agreeC_refl (h : Hp) (x : CV) : agreeC h h x := by
 cases x <;> first | rfl | trivial | exact fun c _ => agreeS_refl h c
def agreeA (h h' : Hp) : AV → Prop
 | .c x => agreeC h h' x
 | .agg l => ∀ x ∈ l, agreeC h h' x
 | .tup _ => True
theorem agreeS_trans {h h1 h2 : Hp} {x : CV} (ha : agreeS h h1 x) (hb : agreeS h1 h2 x) : agreeS h h2 x := by
 cases x <;> first | exact hb.trans ha | trivial
theorem agreeC_trans {h h1 h2 : Hp} {x : CV} (ha : agreeC h h1 x) (hb : agreeC h1 h2 x) : agreeC h h2 x := by
 cases x <;> first | exact hb.trans ha | trivial | exact fun c hc => agreeS_trans (ha c hc) (hb c hc)
theorem agreeA_refl (h : Hp) (x : AV) : agreeA h h x := by
 cases x with
 | c x => exact agreeC_refl h x
 | agg l => exact fun x _ => agreeC_refl h x
 | tup => trivial
theorem agreeA_trans {h h1 h2 : Hp} {x : AV} (ha : agreeA h h1 x) (hb : agreeA h1 h2 x) : agreeA h h2 x := by
 cases x with
 | c x => exact agreeC_trans ha hb
 | agg l => exact fun x hx => agreeC_trans (ha x hx) (hb x hx)
 | tup => trivial
def AgR (P : Program) (h : Hp) (f : Nat) (args : List AV) (r : AV) : Prop := ∀ h', (∀ x ∈ args, agreeA h h' x) → FnS P f args h' fun r' h'' => h'' = h' ∧ r' = r
def PureR (P : Program) (h : Hp) (f : Nat) (args : List AV) (r : AV) : Prop :=
 (∃ args', (args' = args.map fgA ∨ args' = args) ∧ args'.all pureA = true ∧ FnS P f args' [] fun r' _ => pureA r' = true ∧ r' = r) ∨
 (∃ vargs, viewAs h args = some vargs ∧ LookS P f vargs r) ∨ AgR P h f args r
theorem PureR.fn {P : Program} {h : Hp} {f : Nat} {args : List AV} {r : AV} (hp : PureR P h f args r) : FnS P f args h fun r' h' => h' = h ∧ r' = r := by
 rcases hp with ⟨args', h0, h1, h2⟩ | ⟨vargs, h1, h2⟩ | hp
 rotate_left 2
 ·exact hp h fun x _ => agreeA_refl h x
 ·rcases h0 with rfl | rfl
  ·exact FnS.fg (FnS.lift h2 h1)
  ·exact FnS.lift h2 h1
 ·rcases h2 with h2 | h2
  ·exact FnS.look h2 h1
  ·exact FnS.fresh h2 h1
def roS (p : Nat → Prop) : CV → Prop
 | .ptr l _ _ _ => p l
 | .arr l _ _ _ => p l
 | .mp l => p l
 | .it l => p l
 | _ => True
def roC (p : Nat → Prop) : CV → Prop
 | .ptr l _ _ _ => p l
 | .arr l _ _ _ => p l
 | .mp l => p l
 | .it l => p l
 | .fn _ _ caps => ∀ c ∈ caps, roS p c
 | _ => True
theorem roS_and {p q : Nat → Prop} {x : CV} (h1 : roS p x) (h2 : roS q x) : roS (fun l => p l ∧ q l) x := by cases x <;> first | exact ⟨h1, h2⟩ | exact trivial
theorem roS_true (x : CV) : roS (fun _ => True) x := by cases x <;> trivial
def roA (p : Nat → Prop) : AV → Prop
 | .c x => roC p x
 | .agg l => ∀ x ∈ l, roC p x
 | .tup _ => True
def SameR (h h' : Hp) (args : List AV) : Prop :=
 ∃ p : Nat → Prop, (∀ x ∈ args, roA p x) ∧ (∀ l, p l → h'[l]? = h[l]?) ∧ ∀ l cs, p l → h[l]? = some (.bx cs) → ∀ c ∈ cs, roC p c
def RoR (P : Program) (h : Hp) (f : Nat) (args : List AV) (r : AV) : Prop := ∀ h', SameR h h' args → FnS P f args h' fun r' h'' => h'' = h' ∧ r' = r
theorem roC_and {p q : Nat → Prop} {x : CV} (h1 : roC p x) (h2 : roC q x) : roC (fun l => p l ∧ q l) x := by cases x <;> first | exact ⟨h1, h2⟩ | exact trivial | exact fun c hc => roS_and (h1 c hc) (h2 c hc)
theorem roA_and {p q : Nat → Prop} {x : AV} (h1 : roA p x) (h2 : roA q x) : roA (fun l => p l ∧ q l) x := by
 cases x with
 | c x => exact roC_and h1 h2
 | agg l => exact fun x hx => roC_and (h1 x hx) (h2 x hx)
 | tup => trivial
theorem roC_true (x : CV) : roC (fun _ => True) x := by cases x <;> first | trivial | exact fun c _ => roS_true c
theorem SameR.refl (h : Hp) (args : List AV) : SameR h h args :=
 ⟨fun _ => True, fun x _ => (by cases x with
  | c x => exact roC_true x
  | agg l => exact fun x _ => roC_true x
  | tup => trivial), fun _ _ => rfl, fun _ _ _ _ c _ => roC_true c⟩
theorem SameR.trans {h h1 h2 : Hp} {args : List AV} (a : SameR h h1 args) (b : SameR h1 h2 args) : SameR h h2 args := by
 obtain ⟨p, p1, p2, p3⟩ := a
 obtain ⟨q, q1, q2, q3⟩ := b
 refine ⟨fun l => p l ∧ q l, fun x hx => roA_and (p1 x hx) (q1 x hx), fun l hl => (q2 l hl.2).trans (p2 l hl.1), fun l cs hl hc c hcc => roC_and (p3 l cs hl.1 hc c hcc) (q3 l cs hl.2 ((p2 l hl.1).trans hc) c hcc)⟩
theorem RoR.fn {P : Program} {h : Hp} {f : Nat} {args : List AV} {r : AV} (hp : RoR P h f args r) : FnS P f args h fun r' h' => h' = h ∧ r' = r := hp h (.refl h args)
theorem RoR.same {P : Program} {h h' : Hp} {f : Nat} {args : List AV} {r : AV} (hp : RoR P h f args r) (hs : SameR h h' args) : RoR P h' f args r := fun h2 h3 => hp h2 (hs.trans h3)
def CalR (P : Program) (h : Hp) (f : Nat) (args : List AV) (r : AV) : Prop := PureR P h f args r ∨ RoR P h f args r
theorem CalR.fn {P : Program} {h : Hp} {f : Nat} {args : List AV} {r : AV} (hp : CalR P h f args r) : FnS P f args h fun r' h' => h' = h ∧ r' = r := hp.elim PureR.fn RoR.fn
def StepR (P : Program) (o : AO) (e : Env) (h : Hp) (e' : Env) (h' : Hp) : Prop :=
 match gv e o.g with
 | some false => e' = putE e o.dst (.tup []) ∧ h' = h
 | some true => (∃ v, astep e h o.op = some (v, h') ∧ e' = putE e o.dst v) ∨
   (∃ f xs r, o.op = .call f xs ∧ CalR P h f (evs e xs) r ∧ e' = putE e o.dst r ∧ h' = h)
 | none => False
def gslot (ops : Array Oper) (o : Oper) : Option (Option (Nat × Bool)) :=
 match o.guard with
 | none => some none
 | some (j, want) => match (ops[j]?).bind (·.dst) with
  | some d => some (some (d, want))
  | none => none
def compO (P : Program) (ops : Array Oper) (N : Nat) (o : Oper) : Option AO :=
 match gslot ops o with
 | some g => match o.dst with
  | some d => if d < N then some ⟨some d, compOp P o, g⟩ else none
  | none => some ⟨none, compOp P o, g⟩
 | none => none
structure Mrk (w0 : World) (G : Nat → Prop) (ι : Io) (h : Hp) (w : World) (b : Nat) : Prop where
 lo : w0.heap.size ≤ b
 at_ : w.heap[b]? = some (.deferred (some []))
 ng : ¬ G b
 no : ¬ owned ι h b
def mkD (b : Nat) : Deferred := { target := .collected b, args := #[] }
def Marks (w0 : World) (G : Nat → Prop) (ι : Io) (h : Hp) (ds : List Deferred) (w : World) : Prop := ∃ bs : List Nat, ds = bs.map mkD ∧ bs.Nodup ∧ ∀ b ∈ bs, Mrk w0 G ι h w b
theorem Marks.nil (w0 : World) (G : Nat → Prop) (ι : Io) (h : Hp) (w : World) : Marks w0 G ι h [] w := ⟨[], rfl, by simp, by simp⟩
theorem Marks.ext {w0 w w' : World} {G G' : Nat → Prop} {ι ι' : Io} {h h' : Hp} {ds : List Deferred} (hm : Marks w0 G ι h ds w) (hx : Ext G ι h w G' ι' h' w') : Marks w0 G' ι' h' ds w' := by
 obtain ⟨bs, e, hn, hb⟩ := hm
 refine ⟨bs, e, hn, fun b hbb => ?_⟩
 obtain ⟨h1, h2, h3, h4⟩ := hb b hbb
 have hlt : b < w.heap.size := (Array.getElem?_eq_some_iff.1 h2).1
 refine ⟨h1, by rw [hx.frame b hlt h4]; exact h2, fun hg => ?_, fun ho => ?_⟩
 ·rcases hx.gnew b hg with h | h | h
  ·exact h3 h
  ·omega
  ·exact h4 h
 ·rcases hx.onew b ho with h | h
  ·exact h4 h
  ·omega
theorem Marks.sub {w0 w : World} {G : Nat → Prop} {ι ι' : Io} {h h' : Hp} {ds : List Deferred} (hm : Marks w0 G ι h ds w) (ho : ∀ b, owned ι' h' b → owned ι h b) : Marks w0 G ι' h' ds w := by
 obtain ⟨bs, e, hn, hb⟩ := hm
 exact ⟨bs, e, hn, fun b hbb => ⟨(hb b hbb).lo, (hb b hbb).at_, (hb b hbb).ng, fun h => (hb b hbb).no (ho b h)⟩⟩
structure St (N : Nat) (G0 : Nat → Prop) (ι0 : Io) (h0 : Hp) (w0 : World) (G : Nat → Prop) (ι : Io) (e : Env) (h : Hp) (a : Act) (w : World) : Prop where
 rel : Rel N G ι e h a w
 ext : Ext G0 ι0 h0 w0 G ι h w
 dfr : Marks w0 G ι h a.defers w
section
variable {P : Program} {N : Nat} {G0 : Nat → Prop} {ι0 : Io} {h0 : Hp} {w0 : World}
def Fits (N : Nat) (G0 : Nat → Prop) (ι0 : Io) (h0 : Hp) (w0 : World) (e : Env) (h : Hp) (a : Act) (w : World) : Prop := ∃ G ι, St N G0 ι0 h0 w0 G ι e h a w
theorem gv_wanted {ops : Array Oper} {o : Oper} {g : Option (Nat × Bool)} {G : Nat → Prop} {ι : Io} {e : Env} {h : Hp} {a : Act} {w : World} {b : Bool} (r : Rel N G ι e h a w) (hg : gslot ops o = some g)
  (hv : gv e g = some b) (hN : ∀ s q, g = some (s, q) → s < N) : Region.wanted o (yielded ops a.tmps) = b := by
 unfold gslot at hg
 unfold Region.wanted
 split at hg
 ·rename_i hgd
  cases hg
  simp only [gv, Option.some.injEq] at hv
  simp [hgd, hv]
 ·rename_i j want hgd
  split at hg
  ·rename_i d hd
   cases hg
   have hdN := hN d want rfl
   have hval : a.tmps[d]? = some (a.tmps.getD d undef) := by
    rw [Array.getElem?_eq_getElem (by rw [r.size]; exact hdN)]
    simp [Array.getD_eq_getD_getElem?, r.size, hdN]
   have hvr := r.env d
   simp only [gv] at hv
   simp only [hgd, yielded, hd, Option.bind_some, hval]
   split at hv
   ·rename_i b' hb'
    cases hv
    rw [hb'] at hvr
    rw [inv_bool hvr]
    cases b' <;> cases want <;> rfl
   ·rename_i hb'
    cases hv
    rw [hb'] at hvr
    obtain ⟨cs, hcs, hn, _⟩ := inv_tup hvr
    rw [hcs]
    cases want <;> rfl
   ·cases hv
  ·cases hg
theorem compO_dst {ops : Array Oper} {o : Oper} {ao : AO} (hc : compO P ops N o = some ao) : ao.dst = o.dst ∧ (∀ d, o.dst = some d → d < N) ∧ ao.op = compOp P o ∧ gslot ops o = some ao.g := by
 unfold compO at hc
 split at hc
 ·rename_i g hg
  split at hc
  ·rename_i d hd
   split at hc
   ·rename_i hlt
    cases hc
    exact ⟨hd.symm, fun d' hd' => by rw [hd] at hd'; cases hd'; exact hlt, rfl, hg⟩
   ·cases hc
  ·rename_i hd
   cases hc
   exact ⟨hd.symm, (fun d' hd' => by rw [hd] at hd'; cases hd'), rfl, hg⟩
 ·cases hc
theorem St.step {G G' : Nat → Prop} {ι ι' : Io} {e : Env} {h h' : Hp} {a : Act} {w w' : World} {v : Value} {av : AV} {dst : Option Nat} (s : St N G0 ι0 h0 w0 G ι e h a w) (hd : ∀ d, dst = some d → d < N)
  (hr : HR G' ι' h' w') (hv : VR G' w' ι' h' v av) (hx : Ext G ι h w G' ι' h' w') : St N G0 ι0 h0 w0 G' ι' (putE e dst av) h' (a.put dst v) w' := by
 refine ⟨?_, s.ext.trans hx, ?_⟩
 ·cases dst with
  | none => exact s.rel.put_none hx hr v
  | some d => exact s.rel.put hx hr (hd d rfl) hv
 ·have := s.dfr.ext hx
  cases dst <;> exact this
theorem callFunc_run {f : Nat} {fn : Func} {args : Array Value} {w : World} (hf : P.funcs[f]? = some fn) (hb : fn.body.isSome = true) (hn : fn.name ≠ "runtime.NumGoroutine") :
  (callFunc f args).run P w = .ok (.enter f args) w := by
 have h2 : fn.body ≠ none := by intro hh; rw [hh] at hb; cases hb
 simp [callFunc, hf, hn, h2]
theorem call_exec {o : Oper} {c : Call} {f : Nat} {xs : List X} {a : Act} {w : World} (hop : o.op = .call c) (hc : compOp P o = .call f xs) :
  (execOp a.eval o).run P w = .ok (.enter f (c.args.map a.eval)) w ∧ cxs P c.argTypes.toList c.args.toList = some xs := by
 simp only [compOp, hop] at hc
 split at hc
 ·exact absurd hc compB_call
 ·rename_i f' hcal
  split at hc
  ·rename_i fn l hfn hl
   split at hc
   ·rename_i hcond
    cases hc
    refine ⟨?_, hl⟩
    have hev : a.eval (.func f) = .func (.func f) #[] #[] := rfl
    simp only [execOp, hop, resolve, hcal, hev, Deferred.ofValue, Sem.run_bind, Sem.run_pure, Result.andThen_ok, invoke, Array.empty_append, Array.append_empty]
    exact callFunc_run hfn hcond.1 hcond.2
   ·cases hc
  ·cases hc
 ·split at hc <;> cases hc
 ·split at hc <;> cases hc
 ·cases hc
theorem compOp_fn {o : Oper} {c : Call} {f : Nat} {xs : List X} (hop : o.op = .call c) (hc : compOp P o = .call f xs) : ∃ fn, P.funcs[f]? = some fn := by
 simp only [compOp, hop] at hc
 split at hc
 ·exact absurd hc compB_call
 ·rename_i f' hcal
  split at hc
  ·rename_i fn l hfn hl
   split at hc
   ·cases hc
    exact ⟨fn, hfn⟩
   ·cases hc
  ·cases hc
 ·split at hc <;> cases hc
 ·split at hc <;> cases hc
 ·cases hc
theorem compOp_call {o : Oper} {f : Nat} {xs : List X} (hc : compOp P o = .call f xs) : ∃ c, o.op = .call c := by
 cases hoo : o.op
 case call c => exact ⟨c, rfl⟩
 case makeMap t rs => exfalso; cases rs <;> (simp only [compOp, hoo] at hc; cases hc)
 case makeFunc fn first caps =>
  exfalso
  cases fn
  case func g =>
   simp only [compOp, hoo] at hc
   revert hc
   (repeat' split) <;> intro hc <;> cases hc
  all_goals (simp only [compOp, hoo] at hc; cases hc)
 all_goals
  exfalso
  simp only [compOp, hoo] at hc
  revert hc
  (repeat' split) <;> intro hc <;> cases hc
theorem step_sound {ro : Option Nat} {ops : Array Oper} {o : Oper} {ao : AO} {e e' : Env} {h h' : Hp} {a : Act} {w : World} {K : Act → World → Prop} {Q : Exit → Act → World → Prop} (hc : compO P ops N o = some ao)
  (hgN : ∀ s q, ao.g = some (s, q) → s < N)
  (hs : StepR P ao e h e' h') (hf : Fits N G0 ι0 h0 w0 e h a w) (hK : ∀ a' w', Fits N G0 ι0 h0 w0 e' h' a' w' → K a' w') :
  if Region.wanted o (yielded ops a.tmps) then o.wpIn (Fen ro) 0 P a w K Q else (∀ f, o.about P w a.eval = some f → (Fen ro).fn f) ∧ K (a.put o.dst undef) w := by
 obtain ⟨G, ι, st⟩ := hf
 obtain ⟨hd, hdN, hop, hg⟩ := compO_dst hc
 unfold StepR at hs
 split at hs
 ·rename_i hgv
  rw [gv_wanted st.rel hg hgv hgN]
  simp only [Bool.false_eq_true, if_false]
  obtain ⟨rfl, rfl⟩ := hs
  refine ⟨fun f _ => Fen.fn ro f, hK _ _ ⟨G, ι, ?_⟩⟩
  rw [hd]
  exact st.step hdN st.rel.hr (.tup #[] [] rfl (by simp)) (Ext.refl _ _ _ _)
 ·rename_i hgv
  rw [gv_wanted st.rel hg hgv hgN]
  simp only [if_true]
  rcases hs with ⟨v, hs, rfl⟩ | ⟨f, xs, rv, hcall, hp, rfl, rfl⟩
  ·rw [hop] at hs
   obtain ⟨v', w', G', ι', hrun, k1, k2, k3⟩ := op_sound st.rel hs
   rw [hd] at hK
   rcases hrun with hrun | ⟨hrun, rfl⟩
   ·exact oW_value (nd_step hs) hrun (hK _ _ ⟨G', ι', st.step hdN k1 k2 k3⟩)
   ·exact oW_skip (nd_step hs) hrun (hK _ _ ⟨G', ι', st.step hdN k1 k2 k3⟩)
  ·rw [hop] at hcall
   obtain ⟨c, hoo⟩ := compOp_call hcall
   obtain ⟨q1, q2⟩ := call_exec (a := a) (w := w) hoo hcall
   obtain ⟨fn, hfn⟩ := compOp_fn hoo hcall
   obtain ⟨t1, t2⟩ := args_sound st.rel q2
   have hargs : c.args.map a.eval = (c.args.toList.map a.eval).toArray := by apply Array.ext'; simp
   rw [hargs] at q1
   refine oW_enter (fun c' hc' => by rw [hoo] at hc'; cases hc') q1 (((hp.fn).out G ι w _ st.rel.hr ⟨t1, t2⟩).calls hfn) fun en w' ⟨v, r, G', ι', h', k0, k1, k2, k3, k4⟩ => ?_
   obtain ⟨rfl, rfl⟩ := k1
   rw [hd] at hK
   exact ⟨v, k0, hK _ _ ⟨G', ι', st.step hdN k2 k3 k4⟩⟩
 ·exact hs.elim
end
end Go.Ab

/-
  The engine, part r: operations that may change places.
-/
namespace Go.Ab
def slotX : X → List Nat
 | .t n => [n]
 | .k _ => []
def xsOf : AOp → List X
 | .mv x => [x]
 | .pick c a b => [c, a, b]
 | .box x => [x]
 | .build _ ps => ps.map (·.2.2)
 | .bsl _ _ _ ps => ps.map (·.2)
 | .ld x _ => [x]
 | .st x v _ => [x, v]
 | .nilc x => [x]
 | .bin _ a b => [a, b]
 | .beq _ a b => [a, b]
 | .eqa _ _ _ a b => [a, b]
 | .isnil _ _ x => [x]
 | .un _ x => [x]
 | .cvi _ x => [x]
 | .bts x => [x]
 | .sl _ x lo hi mx => x :: (lo.toList ++ hi.toList ++ mx.toList)
 | .sls x lo hi => x :: (lo.toList ++ hi.toList)
 | .fa x _ => [x]
 | .fld x _ _ => [x]
 | .ias _ x i => [x, i]
 | .iaa _ _ x i => [x, i]
 | .ixs x i => [x, i]
 | .ixa _ _ _ x i => [x, i]
 | .ext x _ => [x]
 | .len x => [x]
 | .lens x => [x]
 | .cap x => [x]
 | .app _ _ _ x y => [x, y]
 | .mo _ xs => xs
 | .mks _ _ _ l c => [l, c]
 | .mkf _ _ xs => xs
 | .call _ xs => xs
 | .callv x xs => x :: xs
 | .ivk _ x xs => x :: xs
 | .rng x => [x]
 | .nx x => [x]
 | .ent x => [x]
 | .bad => []
def cls : AOp → Nat
 | .box _ => 1
 | .bsl _ _ _ _ => 1
 | .mks _ _ _ _ _ => 1
 | .st _ _ _ => 2
 | .app _ _ _ _ _ => 2
 | .mo (.lk _ _ _ _ _) _ => 0
 | .mo .lnm _ => 0
 | .mo (.mm _) _ => 0
 | .mo (.mki _) _ => 0
 | .mo (.lit _) _ => 0
 | .mo (.tya _ _ _) _ => 0
 | .mo _ _ => 2
 | .callv _ _ => 2
 | .ivk _ _ _ => 2
 | .rng _ => 2
 | .nx _ => 2
 | .ent _ => 2
 | _ => 0
theorem evs_congr {e e' : Env} {xs : List X} (h : ∀ x ∈ xs, ev e x = ev e' x) : evs e xs = evs e' xs := by
 induction xs with
 | nil => rfl
 | cons x r ih => simp only [evs, h x (by simp), ih fun y hy => h y (by simp [hy])]
theorem oint_congr {e e' : Env} {x : Option X} (h : ∀ y ∈ x.toList, ev e y = ev e' y) : oint e x = oint e' x := by
 cases x with
 | none => rfl
 | some y => simp only [oint, h y (by simp)]
theorem partsOf_congr {e e' : Env} {ps : List (Nat × Nat × X)} (h : ∀ x ∈ ps.map (·.2.2), ev e x = ev e' x) : partsOf e ps = partsOf e' ps := by
 induction ps with
 | nil => rfl
 | cons p r ih =>
  obtain ⟨o, s, x⟩ := p
  simp only [partsOf, h x (by simp), ih fun y hy => h y (by simp only [List.map_cons, List.mem_cons]; exact .inr hy)]
theorem elemsOf_congr {e e' : Env} {ps : List (Nat × X)} (h : ∀ x ∈ ps.map (·.2), ev e x = ev e' x) : ∀ hp, elemsOf hp e ps = elemsOf hp e' ps := by
 induction ps with
 | nil => intro hp; rfl
 | cons p r ih =>
  intro hp
  obtain ⟨o, x⟩ := p
  have ih := ih fun y hy => h y (by simp only [List.map_cons, List.mem_cons]; exact .inr hy)
  simp only [elemsOf, h x (by simp), ih]
theorem astep_congr {e e' : Env} {h : Hp} {op : AOp} (hx : ∀ x ∈ xsOf op, ev e x = ev e' x) : astep e h op = astep e' h op := by
 cases op
 case build z ps => simp only [astep, partsOf_congr hx]
 case bsl sz z n ps => simp only [astep, elemsOf_congr hx]
 case ld x n => cases n <;> simp only [astep, hx x (by simp [xsOf])]
 case fld x n k => cases k <;> simp only [astep, hx x (by simp [xsOf])]
 case sl sz x lo hi mx =>
  simp only [astep, hx x (by simp [xsOf]), oint_congr (x := lo) fun y hy => hx y (by simp only [xsOf, List.mem_cons, List.mem_append]; exact .inr (.inl (.inl hy))),
   oint_congr (x := hi) fun y hy => hx y (by simp only [xsOf, List.mem_cons, List.mem_append]; exact .inr (.inl (.inr hy))),
   oint_congr (x := mx) fun y hy => hx y (by simp only [xsOf, List.mem_cons, List.mem_append]; exact .inr (.inr hy))]
 case sls x lo hi =>
  simp only [astep, hx x (by simp [xsOf]), oint_congr (x := lo) fun y hy => hx y (by simp only [xsOf, List.mem_cons, List.mem_append]; exact .inr (.inl hy)),
   oint_congr (x := hi) fun y hy => hx y (by simp only [xsOf, List.mem_cons, List.mem_append]; exact .inr (.inr hy))]
 case mkf b f xs => simp only [astep, evs_congr (xs := xs) hx]
 case call => rfl
 case callv => rfl
 case ivk => rfl
 case rng => rfl
 case nx => rfl
 case ent => rfl
 case bad => rfl
 case mv x => simp only [astep, hx x (by simp [xsOf])]
 case box x => simp only [astep, hx x (by simp [xsOf])]
 case nilc x => simp only [astep, hx x (by simp [xsOf])]
 case isnil k n x => simp only [astep, hx x (by simp [xsOf])]
 case un o x => simp only [astep, hx x (by simp [xsOf])]
 case cvi k x => simp only [astep, hx x (by simp [xsOf])]
 case bts x => simp only [astep, hx x (by simp [xsOf])]
 case fa x o => simp only [astep, hx x (by simp [xsOf])]
 case ext x i => simp only [astep, hx x (by simp [xsOf])]
 case len x => simp only [astep, hx x (by simp [xsOf])]
 case lens x => simp only [astep, hx x (by simp [xsOf])]
 case cap x => simp only [astep, hx x (by simp [xsOf])]
 case pick c a b => simp only [astep, hx c (by simp [xsOf]), hx a (by simp [xsOf]), hx b (by simp [xsOf])]
 case st a b n => simp only [astep, hx a (by simp [xsOf]), hx b (by simp [xsOf])]
 case bin o a b => simp only [astep, hx a (by simp [xsOf]), hx b (by simp [xsOf])]
 case beq o a b => simp only [astep, hx a (by simp [xsOf]), hx b (by simp [xsOf])]
 case eqa o n l a b => simp only [astep, hx a (by simp [xsOf]), hx b (by simp [xsOf])]
 case ias s a b => simp only [astep, hx a (by simp [xsOf]), hx b (by simp [xsOf])]
 case iaa n s a b => simp only [astep, hx a (by simp [xsOf]), hx b (by simp [xsOf])]
 case ixs a b => simp only [astep, hx a (by simp [xsOf]), hx b (by simp [xsOf])]
 case ixa n s g a b => simp only [astep, hx a (by simp [xsOf]), hx b (by simp [xsOf])]
 case app s y z a b => simp only [astep, hx a (by simp [xsOf]), hx b (by simp [xsOf])]
 case mo o xs => simp only [astep, evs_congr (xs := xs) fun x hx' => hx x (by simpa [xsOf] using hx')]
 case mks s y z a b => simp only [astep, hx a (by simp [xsOf]), hx b (by simp [xsOf])]
theorem solid_agree {h h' : Hp} {x : CV} (ha : agreeC h h' x) : solid h' x = solid h x := by
 cases x <;> simp_all [solid, agreeC]
theorem cellsOk_agree {h h' : Hp} {l : List CV} (ha : ∀ x ∈ l, agreeC h h' x) : cellsOk h' l = cellsOk h l := by
 unfold cellsOk
 induction l with
 | nil => rfl
 | cons x r ih => simp only [List.all_cons, solid_agree (ha x (by simp)), ih fun y hy => ha y (by simp [hy])]
def sameAm (h h' : Hp) : Prop := ∀ b o : Nat, amRd h' b o = amRd h b o
theorem sameAm.refl (h : Hp) : sameAm h h := fun _ _ => rfl
theorem sameAm.symm {h h' : Hp} (hs : sameAm h h') : sameAm h' h := fun b o => (hs b o).symm
theorem sameAm.of0 {h h' : Hp} (hs : h'[0]? = h[0]?) : sameAm h h' := by
 intro b o
 unfold amRd
 cases h with
 | nil => cases h' with
  | nil => rfl
  | cons y r => simp at hs
 | cons x r => cases h' with
  | nil => simp at hs
  | cons y r' => simp at hs; subst hs; cases y <;> rfl
theorem sameAm.push {h : Hp} {k : Blk} (hk : ∀ m, k ≠ .am m) : sameAm h (h ++ [k]) := by
 intro b o
 cases h with
 | cons x r => cases x <;> rfl
 | nil => cases k <;> first | rfl | exact absurd rfl (hk _)
def isAdr : AV → Prop
 | .c (.d (.adr _ _)) => True
 | _ => False
theorem rd_agree {h h' : Hp} {x : AV} (ha : agreeA h h' x) (hs : ¬ isAdr x ∨ sameAm h h') : rd h' x = rd h x := by
  cases x with
  | c x =>
    cases x with
    | d d =>
      cases d with
      | adr b o => rcases hs with hs | hs
                   · exact absurd trivial hs
                   · exact hs b o
      | _ => rfl
    | _ => simp_all [rd, agreeA, agreeC]
  | agg => rfl
  | tup => rfl
theorem lenv_agree {h h' : Hp} {x : AV} (ha : view h' x = view h x) : lenv h' x = lenv h x := by
 unfold lenv
 split
 ·rfl
 ·rw [ha]
theorem view_agree {h h' : Hp} {x : AV} (ha : agreeA h h' x) : view h' x = view h x := by
 cases x with
 | c x =>
  cases x with
  | d x => cases x <;> rfl
  | _ => simp_all [view, agreeA, agreeC]
 | agg => rfl
 | tup => rfl
theorem isNil_agree {h h' : Hp} {k : Nat} {x : AV} (ha : agreeA h h' x) : isNil h' k x = isNil h k x := by
 cases x with
 | c x =>
  cases x with
  | ptr l v i j =>
   have := solid_agree (h := h) (h' := h') (x := .ptr l v i j) ha
   rcases k with _ | _ | _ | k
   ·rfl
   ·simp only [isNil, this]
   ·rfl
   ·rfl
  | arr l v i j =>
   have ha : h'[l]? = h[l]? := ha
   rcases k with _ | _ | _ | k
   ·simp only [isNil, ha]
   ·rfl
   ·rfl
   ·rfl
  | d x =>
   rcases k with _ | _ | _ | k
   ·cases x with
    | list nl sz l => cases nl <;> cases l <;> rfl
    | _ => rfl
   ·cases x <;> rfl
   ·cases x <;> rfl
   ·cases x <;> rfl
  | cl nl sz l =>
   rcases k with _ | _ | _ | k
   ·cases nl <;> cases l <;> rfl
   ·rfl
   ·rfl
   ·rfl
  | _ => rcases k with _ | _ | _ | k <;> rfl
 | agg => rcases k with _ | _ | _ | k <;> rfl
 | tup => rcases k with _ | _ | _ | k <;> rfl
theorem ixv_agree {h h' : Hp} {sz : Nat} {x : AV} {i : Int} (ha : agreeA h h' x) : ixv h' sz x i = ixv h sz x i := by
 cases x with
 | c x =>
  cases x with
  | d x => cases x <;> rfl
  | _ => simp_all [ixv, agreeA, agreeC]
 | agg => rfl
 | tup => rfl
theorem cells_agree {h h' : Hp} {x : AV} {cs : List CV} (ha : agreeA h h' x) (hc : cells x = some cs) : ∀ y ∈ cs, agreeC h h' y := by
 cases x with
 | c x =>
  intro y hy
  have hcs : cs = [x] := by cases x <;> simp_all [cells]
  subst hcs
  simp at hy; subst hy; exact ha
 | agg l => simp only [cells, Option.some.injEq] at hc; subst hc; exact ha
 | tup => simp [cells] at hc
theorem parts_agree {h h' : Hp} {e : Env} : ∀ {ps : List (Nat × Nat × X)} {as : List (Nat × Nat × List CV)}, (∀ x ∈ ps.map (·.2.2), agreeA h h' (ev e x)) → partsOf e ps = some as →
  as.all (fun a => cellsOk h' a.2.2) = as.all (fun a => cellsOk h a.2.2) := by
 intro ps
 induction ps with
 | nil => intro as _ hp; simp only [partsOf, Option.some.injEq] at hp; subst hp; rfl
 | cons p r ih =>
  intro as ha hp
  obtain ⟨o, s, x⟩ := p
  simp only [partsOf] at hp
  split at hp
  ·rename_i cs l hcs hl
   cases hp
   simp only [List.all_cons, cellsOk_agree (cells_agree (ha x (by simp)) hcs), ih (fun y hy => ha y (by simp only [List.map_cons, List.mem_cons]; exact .inr hy)) hl]
  ·cases hp
theorem mp {α : Type} {f : α → AV} {o : Option α} {h h' h1 : Hp} {v : AV} (hs : (o.map fun a => (f a, h)) = some (v, h1)) : h1 = h ∧ (o.map fun a => (f a, h')) = some (v, h') := by
 simp only [Option.map_eq_some_iff, Prod.mk.injEq] at hs ⊢
 obtain ⟨a, h0, h2, h3⟩ := hs
 exact ⟨h3.symm, a, h0, h2, trivial⟩
theorem sp {a v : AV} {h h' h1 : Hp} (hs : some (a, h) = some (v, h1)) : h1 = h ∧ some (a, h') = some (v, h') := by
 simp only [Option.some.injEq, Prod.mk.injEq] at hs ⊢
 exact ⟨hs.2.symm, hs.1, trivial⟩
theorem astep_agree {e : Env} {h h' h1 : Hp} {op : AOp} {v : AV} (hc : cls op = 0) (hx : ∀ x ∈ xsOf op, agreeA h h' (ev e x)) (hsa : ∀ x n, op = .ld x n → ¬ isAdr (ev e x) ∨ sameAm h h') (hs : astep e h op = some (v, h1)) : h1 = h ∧ astep e h' op = some (v, h') := by
 cases op
 case box => simp [cls] at hc
 case bsl => simp [cls] at hc
 case mks => simp [cls] at hc
 case st => simp [cls] at hc
 case app => simp [cls] at hc
 case mo o xs =>
  cases o
  case apz => simp [cls] at hc
  case mkm => simp [cls] at hc
  case up => simp [cls] at hc
  case clr => simp [cls] at hc
  case lit d =>
   simp only [astep] at hs ⊢
   revert hs
   generalize evs e xs = l
   intro hs
   cases l with
   | nil => simp only [mstep, Option.some.injEq, Prod.mk.injEq] at hs ⊢; obtain ⟨rfl, rfl⟩ := hs; simp
   | cons x r => simp [mstep] at hs
  case mki t =>
   simp only [astep] at hs ⊢
   revert hs
   generalize evs e xs = l
   intro hs
   match l, hs with
   | [.c c], hs => simp only [mstep, Option.some.injEq, Prod.mk.injEq] at hs ⊢; obtain ⟨rfl, rfl⟩ := hs; simp
   | [.agg c], hs => simp only [mstep, Option.some.injEq, Prod.mk.injEq] at hs ⊢; obtain ⟨rfl, rfl⟩ := hs; simp
   | [.tup _], hs => simp [mstep] at hs
   | [], hs => simp [mstep] at hs
   | _ :: _ :: _, hs => simp [mstep] at hs
  case tya t ok z =>
   simp only [astep] at hs ⊢
   revert hs
   generalize evs e xs = l
   intro hs
   match l, hs with
   | [.c (.fn b f caps)], hs =>
    simp only [mstep, Option.map_eq_some_iff, Prod.mk.injEq] at hs ⊢
    obtain ⟨v0, q1, rfl, rfl⟩ := hs
    exact ⟨rfl, v0, q1, rfl, trivial⟩
   | [.c (.u)], hs => simp [mstep] at hs
   | [.c (.d _)], hs => simp [mstep] at hs
   | [.c (.cl _ _ _)], hs => simp [mstep] at hs
   | [.c (.rp _)], hs => simp [mstep] at hs
   | [.c (.ptr _ _ _ _)], hs => simp [mstep] at hs
   | [.c (.arr _ _ _ _)], hs => simp [mstep] at hs
   | [.c (.mp _)], hs => simp [mstep] at hs
   | [.c (.it _)], hs => simp [mstep] at hs
   | [.agg _], hs => simp [mstep] at hs
   | [.tup _], hs => simp [mstep] at hs
   | [], hs => simp [mstep] at hs
   | _ :: _ :: _, hs => simp [mstep] at hs
  case mm mx =>
   simp only [astep] at hs ⊢
   obtain ⟨x, y, rfl⟩ : ∃ x y, xs = [x, y] := by
    match xs with
    | [x, y] => exact ⟨x, y, rfl⟩
    | [] => simp [evs, mstep] at hs
    | [x] => simp [evs, mstep] at hs
    | _ :: _ :: _ :: _ => simp [evs, mstep] at hs
   simp only [evs] at hs ⊢
   obtain ⟨k, n1, n2, g1, g2, rfl, rfl⟩ := mstep_mm hs
   refine ⟨rfl, ?_⟩
   simp only [g1, g2, mstep, if_true]
  case del => simp [cls] at hc
  case lk sc n ls ok z =>
   simp only [astep] at hs ⊢
   obtain ⟨x, y, rfl⟩ : ∃ x y, xs = [x, y] := by
    match xs with
    | [x, y] => exact ⟨x, y, rfl⟩
    | [] => simp [evs, mstep] at hs
    | [x] => simp [evs, mstep] at hs
    | _ :: _ :: _ :: _ => simp [evs, mstep] at hs
   simp only [evs] at hs ⊢
   rcases mstep_lk hs with ⟨l, ver, es, kd, r0, g1, g2, g3, g4, rfl, rfl⟩ | ⟨es, kd, b, g1, g2, g3, g4, rfl, rfl⟩ | ⟨kd, g1, g2, rfl, rfl⟩
   ·have hag := hx x (by simp [xsOf])
    rw [g1] at hag
    have g2' : h'[l]? = some (.mp ver es) := by rw [← g2]; exact hag
    refine ⟨rfl, ?_⟩
    simp only [g1, mstep, g2', g3, g4]
    cases r0 with
    | none => rfl
    | some p => rfl
   ·refine ⟨rfl, ?_⟩
    simp only [g1, mstep, g2, g3, g4]
    cases b <;> rfl
   ·refine ⟨rfl, ?_⟩
    simp only [g1, mstep, g2]
  case lnm =>
   simp only [astep] at hs ⊢
   obtain ⟨x, rfl⟩ : ∃ x, xs = [x] := by
    match xs with
    | [x] => exact ⟨x, rfl⟩
    | [] => simp [evs, mstep] at hs
    | _ :: _ :: _ => simp [evs, mstep] at hs
   simp only [evs] at hs ⊢
   obtain ⟨l, ver, es, g1, g2, rfl, rfl⟩ := mstep_lnm hs
   have hag := hx x (by simp [xsOf])
   rw [g1] at hag
   have g2' : h'[l]? = some (.mp ver es) := by rw [← g2]; exact hag
   refine ⟨rfl, ?_⟩
   simp only [g1, mstep, g2']
 case callv => simp [cls] at hc
 case ivk => simp [cls] at hc
 case rng => simp [cls] at hc
 case nx => simp [cls] at hc
 case ent => simp [cls] at hc
 case call => simp [astep] at hs
 case bad => simp [astep] at hs
 case ld x n =>
  have hrd := rd_agree (hx x (by simp [xsOf])) (hsa x n rfl)
  cases n with
  | none =>
   simp only [astep, hrd] at hs ⊢
   split at hs
   ·exact sp hs
   ·cases hs
  | some n =>
   simp only [astep, hrd] at hs ⊢
   split at hs
   ·split at hs
    ·rename_i hn; simp only [hn, if_true]; exact sp hs
    ·cases hs
   ·cases hs
 case build z ps =>
  simp only [astep] at hs ⊢
  split at hs
  ·rename_i as has
   simp only [parts_agree hx has]
   split at hs
   ·rename_i hn; simp only [hn, if_true]; exact mp hs
   ·cases hs
  ·cases hs
 case nilc x =>
  have hxx := hx x (by simp [xsOf])
  simp only [astep] at hs ⊢
  revert hxx hs
  generalize ev e x = xv
  intro hs hxx
  split at hs
  ·exact sp hs
  ·rename_i l v i j
   simp only [solid_agree (h := h) (h' := h') (x := .ptr l v i j) hxx]
   split at hs
   ·rename_i hn; simp only [hn, if_true]; exact sp hs
   ·cases hs
  ·exact sp hs
  ·cases hs
 case isnil k n x => simp only [astep, isNil_agree (hx x (by simp [xsOf]))] at hs ⊢; exact mp hs
 case bts x =>
  simp only [astep, view_agree (hx x (by simp [xsOf]))] at hs ⊢
  split at hs
  ·exact mp hs
  ·cases hs
 case len x =>
  simp only [astep, lenv_agree (view_agree (hx x (by simp [xsOf])))] at hs ⊢
  split at hs
  ·exact sp hs
  ·cases hs
 case ias sz x i =>
  simp only [astep, ixv_agree (hx x (by simp [xsOf]))] at hs ⊢
  split at hs
  ·exact mp hs
  ·cases hs
 case fa x o =>
  have hxx := hx x (by simp [xsOf])
  simp only [astep] at hs ⊢
  revert hxx hs
  generalize ev e x = xv
  intro hs hxx
  split at hs
  ·exact sp hs
  ·rename_i l v i j
   simp only [solid_agree (h := h) (h' := h') (x := .ptr l v i j) hxx]
   split at hs
   ·rename_i hn; simp only [hn, if_true]; exact sp hs
   ·cases hs
  ·exact sp hs
  ·cases hs
 case iaa n sz x i =>
  have hxx := hx x (by simp [xsOf])
  simp only [astep] at hs ⊢
  revert hxx hs
  generalize ev e x = xv
  generalize ev e i = iv
  intro hs hxx
  split at hs
  ·split at hs
   ·rename_i hm
    simp only [hm, and_self, if_true]
    split at hs
    ·exact sp hs
    ·rename_i l v p j
     simp only [solid_agree (h := h) (h' := h') (x := .ptr l v p j) hxx]
     split at hs
     ·rename_i hn; simp only [hn, if_true]; exact sp hs
     ·cases hs
    ·exact sp hs
    ·cases hs
   ·cases hs
  ·cases hs
 case sl sz x lo hi mx =>
  have hxx := hx x (by simp [xsOf])
  simp only [astep] at hs ⊢
  revert hxx hs
  generalize ev e x = xv
  intro hs hxx
  split at hs
  ·split at hs
   ·rename_i l v i n
    simp only [agreeA, agreeC] at hxx
    simp only [hxx]
    split at hs
    ·split at hs
     ·rename_i hn; simp only [hn, and_self, if_true]; exact mp hs
     ·cases hs
    ·cases hs
   ·exact mp hs
  ·cases hs
 case fld x o n =>
  cases n with
  | none =>
   simp only [astep] at hs ⊢
   split at hs
   ·exact mp hs
   ·cases hs
  | some n =>
   simp only [astep] at hs ⊢
   split at hs
   ·split at hs
    ·rename_i hn; simp only [hn, if_true]; exact sp hs
    ·cases hs
   ·cases hs
 case mv x => exact sp hs
 case pick c a b =>
  simp only [astep] at hs ⊢
  split at hs
  ·exact sp hs
  ·cases hs
 case bin o a b =>
  simp only [astep] at hs ⊢
  split at hs
  ·exact mp hs
  ·cases hs
 case beq o a b =>
  simp only [astep] at hs ⊢
  split at hs
  ·exact sp hs
  ·cases hs
 case eqa o n l a b =>
  simp only [astep] at hs ⊢
  split at hs
  ·split at hs
   ·rename_i hn; simp only [hn, and_self, if_true]; exact mp hs
   ·cases hs
  ·cases hs
 case un o x =>
  simp only [astep] at hs ⊢
  split at hs
  ·exact mp hs
  ·cases hs
 case cvi k x =>
  simp only [astep] at hs ⊢
  split at hs
  ·exact sp hs
  ·cases hs
 case sls x lo hi =>
  simp only [astep] at hs ⊢
  split at hs
  ·exact mp hs
  ·cases hs
 case ixs a b =>
  simp only [astep] at hs ⊢
  split at hs
  ·split at hs
   ·rename_i hn; simp only [hn, if_true]; exact mp hs
   ·cases hs
  ·cases hs
 case ixa n s g a b =>
  simp only [astep] at hs ⊢
  split at hs
  ·split at hs
   ·rename_i hn
    simp only [hn, and_self, if_true]
    cases g with
    | false => simp only [Bool.false_eq_true, if_false] at hs ⊢; exact mp hs
    | true =>
     simp only [if_true] at hs ⊢
     split at hs
     ·rename_i hm; simp only [hm, if_true]; exact sp hs
     ·cases hs
   ·cases hs
  ·cases hs
 case ext x i =>
  simp only [astep] at hs ⊢
  split at hs
  ·exact mp hs
  ·cases hs
 case lens x =>
  simp only [astep] at hs ⊢
  split at hs
  ·exact sp hs
  ·cases hs
 case cap x =>
  simp only [astep] at hs ⊢
  split at hs
  ·exact sp hs
  ·exact sp hs
  ·cases hs
 case mkf b f xs => exact mp hs
def hfree : AOp → Bool
 | .mv _ => true
 | .pick _ _ _ => true
 | .bin _ _ _ => true
 | .beq _ _ _ => true
 | .eqa _ _ _ _ _ => true
 | .un _ _ => true
 | .cvi _ _ => true
 | .sls _ _ _ => true
 | .fld _ _ _ => true
 | .ixs _ _ => true
 | .ixa _ _ _ _ _ => true
 | .ext _ _ => true
 | .lens _ => true
 | .cap _ => true
 | .mkf _ _ _ => true
 | _ => false
theorem hfree_cls {op : AOp} (h : hfree op = true) : cls op = 0 := by
 cases op <;> simp_all [hfree, cls]
theorem astep_hfree {e : Env} {h h' h1 : Hp} {op : AOp} {v : AV} (hc : hfree op = true) (hs : astep e h op = some (v, h1)) : h1 = h ∧ astep e h' op = some (v, h') := by
 cases op
 case box => simp [hfree] at hc
 case bsl => simp [hfree] at hc
 case mks => simp [hfree] at hc
 case st => simp [hfree] at hc
 case app => simp [hfree] at hc
 case mo => simp [hfree] at hc
 case callv => simp [hfree] at hc
 case ivk => simp [hfree] at hc
 case rng => simp [hfree] at hc
 case nx => simp [hfree] at hc
 case ent => simp [hfree] at hc
 case call => simp [hfree] at hc
 case bad => simp [hfree] at hc
 case ld => simp [hfree] at hc
 case build => simp [hfree] at hc
 case nilc => simp [hfree] at hc
 case isnil => simp [hfree] at hc
 case bts => simp [hfree] at hc
 case len => simp [hfree] at hc
 case ias => simp [hfree] at hc
 case fa => simp [hfree] at hc
 case iaa => simp [hfree] at hc
 case sl => simp [hfree] at hc
 case fld x o n =>
  cases n with
  | none =>
   simp only [astep] at hs ⊢
   split at hs
   ·exact mp hs
   ·cases hs
  | some n =>
   simp only [astep] at hs ⊢
   split at hs
   ·split at hs
    ·rename_i hn; simp only [hn, if_true]; exact sp hs
    ·cases hs
   ·cases hs
 case mv x => exact sp hs
 case pick c a b =>
  simp only [astep] at hs ⊢
  split at hs
  ·exact sp hs
  ·cases hs
 case bin o a b =>
  simp only [astep] at hs ⊢
  split at hs
  ·exact mp hs
  ·cases hs
 case beq o a b =>
  simp only [astep] at hs ⊢
  split at hs
  ·exact sp hs
  ·cases hs
 case eqa o n l a b =>
  simp only [astep] at hs ⊢
  split at hs
  ·split at hs
   ·rename_i hn; simp only [hn, and_self, if_true]; exact mp hs
   ·cases hs
  ·cases hs
 case un o x =>
  simp only [astep] at hs ⊢
  split at hs
  ·exact mp hs
  ·cases hs
 case cvi k x =>
  simp only [astep] at hs ⊢
  split at hs
  ·exact sp hs
  ·cases hs
 case sls x lo hi =>
  simp only [astep] at hs ⊢
  split at hs
  ·exact mp hs
  ·cases hs
 case ixs a b =>
  simp only [astep] at hs ⊢
  split at hs
  ·split at hs
   ·rename_i hn; simp only [hn, if_true]; exact mp hs
   ·cases hs
  ·cases hs
 case ixa n s g a b =>
  simp only [astep] at hs ⊢
  split at hs
  ·split at hs
   ·rename_i hn
    simp only [hn, and_self, if_true]
    cases g with
    | false => simp only [Bool.false_eq_true, if_false] at hs ⊢; exact mp hs
    | true =>
     simp only [if_true] at hs ⊢
     split at hs
     ·rename_i hm; simp only [hm, if_true]; exact sp hs
     ·cases hs
   ·cases hs
  ·cases hs
 case ext x i =>
  simp only [astep] at hs ⊢
  split at hs
  ·exact mp hs
  ·cases hs
 case lens x =>
  simp only [astep] at hs ⊢
  split at hs
  ·exact sp hs
  ·cases hs
 case cap x =>
  simp only [astep] at hs ⊢
  split at hs
  ·exact sp hs
  ·exact sp hs
  ·cases hs
 case mkf b f xs => exact mp hs
end Go.Ab

/-
  The engine, part s: a region whose order is drawn comes to what its text's order comes to.
-/
namespace Go.Ab
theorem viewC_agree {h h' : Hp} {x : CV} (ha : agreeC h h' x) : viewC h' x = viewC h x := by
 cases x with
 | arr l v i n =>
  have : view h' (.c (.arr l v i n)) = view h (.c (.arr l v i n)) := view_agree ha
  simp only [viewC, this]
 | _ => rfl
theorem viewCs_agree {h h' : Hp} {l : List CV} (ha : ∀ x ∈ l, agreeC h h' x) : viewCs h' l = viewCs h l := by
 induction l with
 | nil => rfl
 | cons x r ih => simp only [viewCs, viewC_agree (ha x (by simp)), ih fun y hy => ha y (by simp [hy])]
theorem viewA_agree {h h' : Hp} {x : AV} (ha : agreeA h h' x) : viewA h' x = viewA h x := by
 cases x with
 | c x => simp only [viewA, viewC_agree ha]
 | agg l => simp only [viewA, viewCs_agree ha]
 | tup => rfl
theorem viewAs_agree {h h' : Hp} {l : List AV} (ha : ∀ x ∈ l, agreeA h h' x) : viewAs h' l = viewAs h l := by
 induction l with
 | nil => rfl
 | cons x r ih => simp only [viewAs, viewA_agree (ha x (by simp)), ih fun y hy => ha y (by simp [hy])]
theorem PureR.agree {P : Program} {h h' : Hp} {f : Nat} {args : List AV} {r : AV} (hp : PureR P h f args r) (ha : ∀ x ∈ args, agreeA h h' x) : PureR P h' f args r := by
 rcases hp with hp | ⟨vargs, h1, h2⟩ | hp
 ·exact .inl hp
 ·exact .inr (.inl ⟨vargs, by rw [viewAs_agree ha]; exact h1, h2⟩)
 ·exact .inr (.inr fun h2 h3 => hp h2 fun x hx => agreeA_trans (ha x hx) (h3 x hx))
def Eff (P : Program) (o : AO) (e : Env) (h : Hp) (v : AV) (h' : Hp) : Prop :=
 (gv e o.g = some false ∧ v = .tup [] ∧ h' = h) ∨
 (gv e o.g = some true ∧ (astep e h o.op = some (v, h') ∨ (∃ f xs, o.op = .call f xs ∧ CalR P h f (evs e xs) v ∧ h' = h)))
theorem StepR.eff {P : Program} {o : AO} {e e' : Env} {h h' : Hp} (hs : StepR P o e h e' h') : ∃ v, Eff P o e h v h' ∧ e' = putE e o.dst v := by
 unfold StepR at hs
 split at hs
 ·rename_i hg; exact ⟨_, .inl ⟨hg, rfl, hs.2⟩, hs.1⟩
 ·rename_i hg
  rcases hs with ⟨v, h1, h2⟩ | ⟨f, xs, r, h1, h2, h3, h4⟩
  ·exact ⟨v, .inr ⟨hg, .inl h1⟩, h2⟩
  ·exact ⟨r, .inr ⟨hg, .inr ⟨f, xs, h1, h2, h4⟩⟩, h3⟩
 ·exact hs.elim
theorem Eff.step {P : Program} {o : AO} {e : Env} {h h' : Hp} {v : AV} (hs : Eff P o e h v h') : StepR P o e h (putE e o.dst v) h' := by
 unfold StepR
 rcases hs with ⟨hg, rfl, rfl⟩ | ⟨hg, hs⟩
 ·rw [hg]; exact ⟨rfl, rfl⟩
 ·rw [hg]
  rcases hs with hs | ⟨f, xs, h1, h2, rfl⟩
  ·exact .inl ⟨v, hs, rfl⟩
  ·exact .inr ⟨f, xs, v, h1, h2, rfl, rfl⟩
def slotsOf (o : AO) : List Nat :=
 (match o.g with
 | some (s, _) => [s]
 | none => []) ++ (xsOf o.op).flatMap slotX
theorem ev_of_slots {e e' : Env} {x : X} (h : ∀ n ∈ slotX x, e n = e' n) : ev e x = ev e' x := by
 cases x with
 | t n => exact h n (by simp [slotX])
 | k v => rfl
theorem Eff.congr {P : Program} {o : AO} {e e' : Env} {h h' : Hp} {v : AV} (hs : Eff P o e h v h') (he : ∀ n ∈ slotsOf o, e n = e' n) : Eff P o e' h v h' := by
 have hx : ∀ x ∈ xsOf o.op, ev e x = ev e' x := fun x hx => ev_of_slots fun n hn => he n (by
  simp only [slotsOf, List.mem_append, List.mem_flatMap]; exact .inr ⟨x, hx, hn⟩)
 have hg : gv e o.g = gv e' o.g := by
  cases hgo : o.g with
  | none => rfl
  | some p =>
   obtain ⟨s, q⟩ := p
   have : e s = e' s := he s (by simp [slotsOf, hgo])
   simp only [gv, lk, this]
 unfold Eff at hs ⊢
 rw [← hg, ← astep_congr hx]
 rcases hs with h0 | ⟨h0, h1 | ⟨f, xs, h2, h3, h4⟩⟩
 ·exact .inl h0
 ·exact .inr ⟨h0, .inl h1⟩
 ·refine .inr ⟨h0, .inr ⟨f, xs, h2, ?_, h4⟩⟩
  rw [h2] at hx
  rw [← evs_congr (xs := xs) hx]; exact h3
theorem Eff.same {P : Program} {o : AO} {e : Env} {h h' : Hp} {v : AV} (hs : Eff P o e h v h') (hc : cls o.op = 0) : h' = h := by
 rcases hs with ⟨_, _, rfl⟩ | ⟨_, h1 | ⟨f, xs, h2, h3, rfl⟩⟩
 ·rfl
 ·exact (astep_agree (h' := h) hc (fun x _ => by
   cases ev e x with
   | c y => exact agreeC_refl _ y
   | agg l => exact fun y _ => agreeC_refl _ y
   | tup => trivial) (fun _ _ _ => .inr (sameAm.refl _)) h1).1
 ·rfl
def Shut (h h' : Hp) : Prop := ∀ (l : Nat) (cs : List CV), h'[l]? = h[l]? → h[l]? = some (Blk.bx cs) → ∀ c ∈ cs, agreeC h h' c
theorem agreeC_ro {h h' : Hp} {x : CV} (ha : agreeC h h' x) : roC (fun l => h'[l]? = h[l]?) x := by
 cases x <;> first | exact ha | exact fun c hc => (by have := ha c hc; cases c <;> exact this)
theorem agreeA_ro {h h' : Hp} {x : AV} (ha : agreeA h h' x) : roA (fun l => h'[l]? = h[l]?) x := by
 cases x with
 | c x => exact agreeC_ro ha
 | agg l => exact fun x hx => agreeC_ro (ha x hx)
 | tup => trivial
theorem CalR.agree {P : Program} {h h' : Hp} {f : Nat} {args : List AV} {r : AV} (hp : CalR P h f args r) (ha : ∀ x ∈ args, agreeA h h' x) (hs : Shut h h') : CalR P h' f args r :=
 hp.elim (fun hp => .inl (hp.agree ha)) fun hp => .inr (hp.same ⟨fun l => h'[l]? = h[l]?, fun x hx => agreeA_ro (ha x hx), fun _ h => h, fun l cs hl hc c hcc => agreeC_ro (hs l cs hl hc c hcc)⟩)
theorem Eff.agree {P : Program} {o : AO} {e : Env} {h h1 h' : Hp} {v : AV} (hs : Eff P o e h v h1) (hc : cls o.op = 0) (hx : ∀ x ∈ xsOf o.op, agreeA h h' (ev e x)) (hsh : Shut h h') (hsa : sameAm h h') : Eff P o e h' v h' := by
 rcases hs with ⟨h0, h1, _⟩ | ⟨h0, h1 | ⟨f, xs, h2, h3, _⟩⟩
 ·exact .inl ⟨h0, h1, rfl⟩
 ·exact .inr ⟨h0, .inl (astep_agree hc hx (fun _ _ _ => .inr hsa) h1).2⟩
 ·refine .inr ⟨h0, .inr ⟨f, xs, h2, h3.agree ?_ hsh, rfl⟩⟩
  intro y hy
  obtain ⟨i, hi⟩ := List.mem_iff_getElem?.1 hy
  obtain ⟨x, hx1, rfl⟩ := (evs_get (e := e) (xs := xs)).2 i y hi
  exact hx x (by rw [h2]; exact List.mem_of_getElem? hx1)
theorem Eff.hfree {P : Program} {o : AO} {e : Env} {h h1 : Hp} {v : AV} (hs : Eff P o e h v h1) (hc : Go.Ab.hfree o.op = true) : h1 = h ∧ ∀ h', Eff P o e h' v h' := by
 rcases hs with ⟨h0, h1, h2⟩ | ⟨h0, h1 | ⟨f, xs, h2, h3, _⟩⟩
 ·exact ⟨h2, fun h' => .inl ⟨h0, h1, rfl⟩⟩
 ·exact ⟨(astep_hfree (h' := h) hc h1).1, fun h' => .inr ⟨h0, .inl (astep_hfree hc h1).2⟩⟩
 ·rw [h2] at hc; simp [Go.Ab.hfree] at hc
def StepD (P : Program) (o : AO) (e : Env) (h : Hp) (e' : Env) (h' : Hp) : Prop :=
 StepR P o e h e' h' ∧ (cls o.op = 1 → h' = h ∨ ∃ k, h' = h ++ [k])
def compat (a b : AO) : Bool :=
 (match a.dst with
 | some d => !(slotsOf b).contains d && b.dst != some d
 | none => true) &&
 (match b.dst with
 | some d => !(slotsOf a).contains d
 | none => true) &&
 (((cls a.op == 0 && decide (cls b.op ≤ 1)) || (decide (cls a.op ≤ 1) && cls b.op == 0)) || (hfree a.op || hfree b.op))
def flatC : CV → Bool
 | .ptr _ _ _ _ => false
 | .arr _ _ _ _ => false
 | .mp _ => false
 | .it _ => false
 | .fn _ _ (_ :: _) => false
 | _ => true
def flatA : AV → Bool
 | .c x => flatC x
 | .agg l => l.all flatC
 | .tup _ => true
def constOk (o : AO) : Bool := (xsOf o.op).all fun
 | .k v => flatA v
 | .t _ => true
theorem flatC_agree {h h' : Hp} {x : CV} (hx : flatC x = true) : agreeC h h' x := by
 cases x with
 | fn b f caps =>
  cases caps with
  | nil => exact fun c hc => by cases hc
  | cons => simp [flatC] at hx
 | _ => simp_all [flatC, agreeC]
theorem flatA_agree {h h' : Hp} {x : AV} (hx : flatA x = true) : agreeA h h' x := by
 cases x with
 | c x => exact flatC_agree hx
 | agg l =>
  simp only [flatA, List.all_eq_true] at hx
  exact fun y hy => flatC_agree (hx y hy)
 | tup => trivial
theorem agreeC_symm {h h' : Hp} {x : CV} (hx : agreeC h h' x) : agreeC h' h x := by
 cases x <;> first | exact fun c hc => agreeS_symm (hx c hc) | simp_all [agreeC]
theorem agreeA_symm {h h' : Hp} {x : AV} (hx : agreeA h h' x) : agreeA h' h x := by
 cases x with
 | c x => exact agreeC_symm hx
 | agg l => exact fun y hy => agreeC_symm (hx y hy)
 | tup => trivial
def WF (e : Env) (h : Hp) : Prop := (∀ n k, agreeA h (h ++ [k]) (e n)) ∧ ∀ (k : Blk) (l : Nat) (cs : List CV), h[l]? = some (Blk.bx cs) → ∀ c ∈ cs, agreeC h (h ++ [k]) c
theorem WF.ops {e : Env} {h : Hp} (hw : WF e h) {o : AO} (hc : constOk o = true) (k : Blk) : ∀ x ∈ xsOf o.op, agreeA h (h ++ [k]) (ev e x) := by
 intro x hx
 cases x with
 | t n => exact hw.1 n k
 | k v =>
  simp only [constOk, List.all_eq_true] at hc
  exact flatA_agree (hc _ hx)
theorem CR.wfS {G : Nat → Prop} {w : World} {ι : Io} {h : Hp} {v : Value} {x : CV} (hx : CR G w ι h v x) (k : Blk) : agreeS h (h ++ [k]) x := by
 cases hx with
 | ptr _ l ver i j blk hb => simp only [agreeS, hb]; exact get_snoc_old hb
 | arr _ l ver i j blk hb => simp only [agreeS, hb]; exact get_snoc_old hb
 | mp _ l blk hb => simp only [agreeS, hb]; exact get_snoc_old hb
 | it _ l blk hb => simp only [agreeS, hb]; exact get_snoc_old hb
 | _ => trivial
theorem CR.wf {G : Nat → Prop} {w : World} {ι : Io} {h : Hp} {v : Value} {x : CV} (hx : CR G w ι h v x) (k : Blk) : agreeC h (h ++ [k]) x := by
 cases hx with
 | ptr _ l ver i j blk hb => simp only [agreeC, hb]; exact get_snoc_old hb
 | arr _ l ver i j blk hb => simp only [agreeC, hb]; exact get_snoc_old hb
 | mp _ l blk hb => simp only [agreeC, hb]; exact get_snoc_old hb
 | it _ l blk hb => simp only [agreeC, hb]; exact get_snoc_old hb
 | fn _ b f vs caps hv hn hc =>
  intro c hcm
  obtain ⟨i, hi⟩ := List.mem_iff_getElem?.1 hcm
  have hl := get_lt hi
  exact (hc i _ c (Array.getElem?_eq_getElem (by omega)) hi).wfS k
 | _ => trivial
theorem VR.wf {G : Nat → Prop} {w : World} {ι : Io} {h : Hp} {v : Value} {x : AV} (hx : VR G w ι h v x) (k : Blk) : agreeA h (h ++ [k]) x := by
 cases hx with
 | c _ x hc => exact hc.wf k
 | agg cs l hn hc =>
  intro y hy
  obtain ⟨i, hi⟩ := List.mem_iff_getElem?.1 hy
  have hl := get_lt hi
  exact (hc i _ y (Array.getElem?_eq_getElem (by omega)) hi).wf k
 | tup => trivial
theorem putE_other {e : Env} {d : Option Nat} {v : AV} {n : Nat} (h : d ≠ some n) : putE e d v n = e n := by
 cases d with
 | none => rfl
 | some d => simp only [putE, upd]; rw [if_neg]; intro hd; exact h (by rw [hd])
theorem putE_comm {e : Env} {a b : Option Nat} {u v : AV} (h : ∀ d, a = some d → b ≠ some d) : putE (putE e a u) b v = putE (putE e b v) a u := by
 cases a with
 | none => rfl
 | some x =>
  cases b with
  | none => rfl
  | some y =>
   have hxy : x ≠ y := fun e => h x rfl (by rw [e])
   funext n
   simp only [putE, upd]
   by_cases h1 : y = n
   ·subst h1; simp [hxy]
   ·by_cases h2 : x = n
    ·subst h2; simp [h1]
    ·simp [h1, h2]
theorem compat_spec {a b : AO} (h : compat a b = true) : (∀ d, a.dst = some d → d ∉ slotsOf b ∧ b.dst ≠ some d) ∧ (∀ d, b.dst = some d → d ∉ slotsOf a) ∧
  (((cls a.op = 0 ∧ cls b.op ≤ 1) ∨ (cls a.op ≤ 1 ∧ cls b.op = 0)) ∨ (hfree a.op = true ∨ hfree b.op = true)) := by
 simp only [compat, Bool.and_eq_true, Bool.or_eq_true, beq_iff_eq, decide_eq_true_eq] at h
 obtain ⟨⟨h1, h2⟩, h3⟩ := h
 refine ⟨fun d hd => ?_, fun d hd => ?_, h3⟩
 ·rw [hd] at h1
  simp only [Bool.and_eq_true, Bool.not_eq_true', bne_iff_ne] at h1
  exact ⟨by simpa using h1.1, h1.2⟩
 ·rw [hd] at h2
  simpa using h2
theorem Eff.noam {P : Program} {o : AO} {e : Env} {h : Hp} {v : AV} {k : Blk} (hs : Eff P o e h v (h ++ [k])) (hc : cls o.op = 1) : ∀ m, k ≠ .am m := by
 have last : ∀ (h1 : Hp) (x : Blk), h1 ++ [x] = h ++ [k] → x = k := fun h1 x hx => by
  have := congrArg List.getLast? hx
  simpa using this
 rcases hs with ⟨_, _, h2⟩ | ⟨_, hs | ⟨f, xs, h2, _⟩⟩
 ·have := congrArg List.length h2; simp at this
 ·intro m hm
  subst hm
  generalize o.op = op at hs hc
  cases op
  case box x =>
   simp only [astep] at hs
   split at hs
   ·split at hs
    ·simp only [Option.some.injEq, Prod.mk.injEq] at hs
     have := last _ _ hs.2; cases this
    ·cases hs
   ·cases hs
  case bsl sz z n ps =>
   simp only [astep] at hs
   split at hs
   ·split at hs
    ·split at hs
     ·simp only [Option.some.injEq, Prod.mk.injEq] at hs
      have := last _ _ hs.2; cases this
     ·cases hs
    ·cases hs
   ·cases hs
  case mks sz y z a b =>
   simp only [astep] at hs
   split at hs
   ·split at hs
    ·simp only [Option.some.injEq, Prod.mk.injEq] at hs
     have := last _ _ hs.2; cases this
    ·cases hs
   ·cases hs
  case mo oo xs => cases oo <;> simp [cls] at hc
  all_goals simp [cls] at hc
 ·rw [h2] at hc; simp [cls] at hc
theorem commute {P : Program} {a b : AO} {e e1 e2 : Env} {h h1 h2 : Hp} (ha : StepD P a e h e1 h1) (hb : StepD P b e1 h1 e2 h2) (hc : compat a b = true) (hw : WF e h) (ka : constOk a = true) (kb : constOk b = true) :
  ∃ e1' h1', StepD P b e h e1' h1' ∧ StepD P a e1' h1' e2 h2 := by
 obtain ⟨c1, c2, c3⟩ := compat_spec hc
 obtain ⟨va, ea, rfl⟩ := ha.1.eff
 obtain ⟨vb, eb, rfl⟩ := hb.1.eff
 have eb' : Eff P b e h1 vb h2 := eb.congr fun n hn => putE_other fun hd => (c1 n hd).1 hn
 have hcomm : putE (putE e a.dst va) b.dst vb = putE (putE e b.dst vb) a.dst va := putE_comm fun d hd => (c1 d hd).2
 rw [hcomm]
 have fin : ∀ {h'}, Eff P a e h' va h2 → Eff P b e h vb h' → (cls b.op = 1 → h' = h ∨ ∃ k, h' = h ++ [k]) → (cls a.op = 1 → h2 = h' ∨ ∃ k, h2 = h' ++ [k]) →
   ∃ e1' h1', StepD P b e h e1' h1' ∧ StepD P a e1' h1' (putE (putE e b.dst vb) a.dst va) h2 := by
  intro h' k1 k2 k3 k4
  refine ⟨_, h', ⟨k2.step, k3⟩, ⟨?_, k4⟩⟩
  refine Eff.step (k1.congr fun n hn => (putE_other fun hd => c2 n hd hn).symm)
 rcases c3 with (⟨ca, cb⟩ | ⟨ca, cb⟩) | (ca | cb)
 ·have := ea.same ca
  subst this
  have hb2 : h2 = h1 ∨ ∃ k, h2 = h1 ++ [k] := by
   rcases Nat.eq_zero_or_pos (cls b.op) with hb0 | hb0
   ·exact .inl (eb'.same hb0)
   ·exact hb.2 (by omega)
  rcases hb2 with rfl | ⟨k, rfl⟩
  ·exact fin ea eb' (fun _ => .inl rfl) (fun h => by omega)
  ·have hb1 : cls b.op = 1 := by
    rcases Nat.eq_zero_or_pos (cls b.op) with hb0 | hb0
    ·have := congrArg List.length (eb'.same hb0); simp at this
    ·omega
   exact fin (ea.agree ca (hw.ops ka k) (fun l cs _ hc => hw.2 k l cs hc) (sameAm.push (eb'.noam hb1))) eb' (fun _ => .inr ⟨k, rfl⟩) (fun h => by omega)
 ·have := eb'.same cb
  subst this
  have ha2 : h2 = h ∨ ∃ k, h2 = h ++ [k] := by
   rcases Nat.eq_zero_or_pos (cls a.op) with hb0 | hb0
   ·exact .inl (ea.same hb0)
   ·exact ha.2 (by omega)
  rcases ha2 with rfl | ⟨k, rfl⟩
  ·exact fin ea eb' (fun h => by omega) (fun _ => .inl rfl)
  ·have ha1 : cls a.op = 1 := by
    rcases Nat.eq_zero_or_pos (cls a.op) with hb0 | hb0
    ·have := congrArg List.length (ea.same hb0); simp at this
    ·omega
   refine fin ea (eb'.agree cb (fun x hx => agreeA_symm (hw.ops kb k x hx)) (fun l cs hl hc c hcc => agreeC_symm (hw.2 k l cs (hl.trans hc) c hcc)) (sameAm.push (ea.noam ha1)).symm) (fun h => by omega) (fun _ => .inr ⟨k, rfl⟩)
 ·obtain ⟨k1, k2⟩ := ea.hfree ca
  subst k1
  exact fin (k2 h2) eb' hb.2 (fun h => by have := hfree_cls ca; omega)
 ·obtain ⟨k1, k2⟩ := eb'.hfree cb
  subst k1
  exact fin ea (k2 h) (fun h => by have := hfree_cls cb; omega) ha.2
def RunI (P : Program) (aops : List AO) : List Nat → Env → Hp → Env → Hp → Prop
 | [], e, h, e', h' => e' = e ∧ h' = h
 | i :: r, e, h, e', h' => ∃ o e1 h1, aops[i]? = some o ∧ StepD P o e h e1 h1 ∧ RunI P aops r e1 h1 e' h'
section
variable {P : Program} {N : Nat} {G0 : Nat → Prop} {ι0 : Io} {h0 : Hp} {w0 : World}
theorem Fits.wf {e : Env} {h : Hp} {a : Act} {w : World} (hf : Fits N G0 ι0 h0 w0 e h a w) : WF e h := by
 obtain ⟨G, ι, st⟩ := hf
 refine ⟨fun n k => (st.rel.env n).wf k, fun k l cs hl c hc => ?_⟩
 obtain ⟨_, _, _, _, _, _, _, _, _, hcs⟩ := st.rel.hr.blk l _ hl
 obtain ⟨i, hi⟩ := List.mem_iff_getElem?.1 hc
 obtain ⟨v, _, hv⟩ := hcs i c hi
 exact hv.wf k
theorem step_fits {ops : Array Oper} {o : Oper} {ao : AO} {e e' : Env} {h h' : Hp} {a : Act} {w : World} (hc : compO P ops N o = some ao)
  (hs : StepR P ao e h e' h') (hf : Fits N G0 ι0 h0 w0 e h a w) : ∃ a' w', Fits N G0 ι0 h0 w0 e' h' a' w' := by
 obtain ⟨G, ι, st⟩ := hf
 obtain ⟨hd, hdN, hop, hg⟩ := compO_dst hc
 obtain ⟨v, he, rfl⟩ := hs.eff
 rcases he with ⟨_, rfl, rfl⟩ | ⟨_, hs | ⟨f, xs, h1, h2, rfl⟩⟩
 ·rw [hd]; exact ⟨_, w, G, ι, st.step (v := undef) hdN st.rel.hr (.tup #[] [] rfl (by simp)) (Ext.refl _ _ _ _)⟩
 ·rw [hop] at hs
  obtain ⟨v', w', G', ι', _, k1, k2, k3⟩ := op_sound st.rel hs
  rw [hd]; exact ⟨_, w', G', ι', st.step hdN k1 k2 k3⟩
 ·rw [hop] at h1
  obtain ⟨c, hoo⟩ := compOp_call h1
  obtain ⟨_, q2⟩ := call_exec (a := a) (w := w) hoo h1
  obtain ⟨t1, t2⟩ := args_sound st.rel q2
  obtain ⟨fn, hfn⟩ := compOp_fn hoo h1
  obtain ⟨en, w', fr, ⟨v', r, G', ι', h', k0, k1, k2, k3, k4⟩, _⟩ := ((h2.fn).out G ι w _ st.rel.hr ⟨t1, t2⟩).calls hfn []
  obtain ⟨rfl, rfl⟩ := k1
  rw [hd]; exact ⟨_, w', G', ι', st.step hdN k2 k3 k4⟩
def compOs (P : Program) (ops : Array Oper) (N : Nat) : List Oper → Option (List AO)
 | [] => some []
 | o :: r => match compO P ops N o, compOs P ops N r with
  | some a, some l => some (a :: l)
  | _, _ => none
theorem compOs_get {ops : Array Oper} : ∀ {os : List Oper} {aos : List AO}, compOs P ops N os = some aos → os.length = aos.length ∧
  ∀ (i : Nat) (o : Oper) (ao : AO), os[i]? = some o → aos[i]? = some ao → compO P ops N o = some ao := by
 intro os
 induction os with
 | nil => intro aos h; simp only [compOs, Option.some.injEq] at h; subst h; simp
 | cons o os ih =>
  intro aos h
  simp only [compOs] at h
  split at h
  ·rename_i a l ha hl
   cases h
   obtain ⟨h1, h2⟩ := ih hl
   refine ⟨by simp [h1], fun i x y hx hy => ?_⟩
   cases i with
   | zero => simp at hx hy; subst hx hy; exact ha
   | succ i => simp at hx hy; exact h2 i x y hx hy
  ·cases h
def gOk (N : Nat) (o : AO) : Bool :=
 match o.g with
 | some (s, _) => decide (s < N)
 | none => true
theorem gOk_spec {o : AO} (h : gOk N o = true) : ∀ s q, o.g = some (s, q) → s < N := by
 intro s q hg
 simp only [gOk, hg, decide_eq_true_eq] at h
 exact h
theorem front {ops : Array Oper} {aops : List AO} (hcomp : compOs P ops N ops.toList = some aops) (hk : aops.all constOk = true) : ∀ (l1 : List Nat) (i : Nat) (l2 : List Nat) (e : Env) (h : Hp) (e' : Env) (h' : Hp) (a : Act) (w : World),
  Fits N G0 ι0 h0 w0 e h a w → (∀ j ∈ l1, ∀ x y, aops[j]? = some x → aops[i]? = some y → compat x y = true) → RunI P aops (l1 ++ i :: l2) e h e' h' →
  ∃ o e1 h1, aops[i]? = some o ∧ StepD P o e h e1 h1 ∧ RunI P aops (l1 ++ l2) e1 h1 e' h' := by
 intro l1
 induction l1 with
 | nil => intro i l2 e h e' h' a w _ _ hr; exact hr
 | cons j l1 ih =>
  intro i l2 e h e' h' a w hf hc hr
  obtain ⟨x, e1, h1, hx, hstep, hrest⟩ := hr
  obtain ⟨c1, c2⟩ := compOs_get hcomp
  have hjl := get_lt hx
  have hox : ops.toList[j]? = some (ops.toList[j]'(by omega)) := List.getElem?_eq_getElem (by omega)
  have hcx := c2 j _ x hox hx
  obtain ⟨a1, w1, hf1⟩ := step_fits hcx hstep.1 hf
  obtain ⟨o, e2, h2, ho, hs2, hr2⟩ := ih i l2 e1 h1 e' h' a1 w1 hf1 (fun k hk' => hc k (by simp [hk'])) hrest
  rw [List.all_eq_true] at hk
  obtain ⟨e1', h1', k1, k2⟩ := commute hstep hs2 (hc j (by simp) x o hx ho) hf.wf (hk x (List.mem_of_getElem? hx)) (hk o (List.mem_of_getElem? ho))
  exact ⟨o, e1', h1', ho, k1, x, e2, h2, hx, k2, hr2⟩
def direct (o : Oper) : List Nat := (o.after.toList.filter fun ed => Region.binds .any ed).map (·.on)
end
end Go.Ab

/-
  The engine, part t: regions.
-/
namespace Go.Ab
section
variable {P : Program} {ro : Option Nat} {N : Nat} {G0 : Nat → Prop} {ι0 : Io} {h0 : Hp} {w0 : World}
def mask (o : Oper) (acc : List Nat) : Nat := (direct o).foldl (fun s j => s ||| 2 ^ j ||| acc.getD j 0) 0
def masks : List Oper → List Nat → List Nat
 | [], acc => acc
 | o :: r, acc => masks r (acc ++ [mask o acc])
theorem foldl_mask {acc : List Nat} {j : Nat} : ∀ (l : List Nat) (s : Nat), (l.foldl (fun s j => s ||| 2 ^ j ||| acc.getD j 0) s).testBit j = true →
  s.testBit j = true ∨ j ∈ l ∨ ∃ m ∈ l, (acc.getD m 0).testBit j = true := by
 intro l
 induction l with
 | nil => intro s h; exact .inl h
 | cons x l ih =>
  intro s h
  simp only [List.foldl_cons] at h
  rcases ih _ h with h | h | ⟨m, hm, h⟩
  ·simp only [Nat.testBit_or, Bool.or_eq_true, Nat.testBit_two_pow, decide_eq_true_eq] at h
   rcases h with (h | h) | h
   ·exact .inl h
   ·exact .inr (.inl (by simp [h]))
   ·exact .inr (.inr ⟨x, by simp, h⟩)
  ·exact .inr (.inl (by simp [h]))
  ·exact .inr (.inr ⟨m, by simp [hm], h⟩)
theorem masks_old : ∀ (os : List Oper) (acc : List Nat) (i : Nat), i < acc.length → (masks os acc)[i]? = acc[i]? := by
 intro os
 induction os with
 | nil => intro acc i _; rfl
 | cons o os ih =>
  intro acc i hi
  simp only [masks]
  rw [ih _ i (by simp; omega), List.getElem?_append_left hi]
theorem masks_bit : ∀ (os : List Oper) (acc : List Nat) (k : Nat) (o : Oper) (j : Nat), os[k]? = some o → ((masks os acc).getD (acc.length + k) 0).testBit j = true →
  j ∈ direct o ∨ ∃ m ∈ direct o, m < acc.length + k ∧ ((masks os acc).getD m 0).testBit j = true := by
 intro os
 induction os with
 | nil => intro acc k o j hk; simp at hk
 | cons o' os ih =>
  intro acc k o j hk hb
  cases k with
  | zero =>
   simp at hk; subst hk
   have hm : (masks (o' :: os) acc)[acc.length]? = some (mask o' acc) := by
    simp only [masks]
    rw [masks_old _ _ _ (by simp)]; simp
   simp only [List.getD_eq_getElem?_getD, Nat.add_zero, hm, Option.getD_some, mask] at hb
   rcases foldl_mask _ _ hb with h | h | ⟨m, h1, h2⟩
   ·simp at h
   ·exact .inl h
   ·right
    have hml : m < acc.length := by
     rcases Nat.lt_or_ge m acc.length with h | h
     ·exact h
     ·rw [List.getD_eq_getElem?_getD, List.getElem?_eq_none h] at h2; simp at h2
    refine ⟨m, h1, by omega, ?_⟩
    rw [List.getD_eq_getElem?_getD, masks_old _ _ _ hml, ← List.getD_eq_getElem?_getD]; exact h2
  | succ k =>
   simp at hk
   simp only [masks] at hb ⊢
   have := ih (acc ++ [mask o' acc]) k o j hk (by simp only [List.length_append, List.length_singleton]; rw [show acc.length + 1 + k = acc.length + (k + 1) by omega]; exact hb)
   simp only [List.length_append, List.length_singleton] at this
   rw [show acc.length + 1 + k = acc.length + (k + 1) by omega] at this
   exact this
def drawOk (os : List Oper) (aos : List AO) : Bool :=
 let ms := masks os []
 (List.range os.length).all fun i =>
  (match os[i]? with
  | some o => (direct o).all fun j => decide (j < i)
  | none => true) &&
  (List.range i).all fun j => (ms.getD i 0).testBit j || (match aos[j]?, aos[i]? with
   | some x, some y => compat x y
   | _, _ => false)
def Closed (ops : Array Oper) (listed : Array Bool) : Prop :=
 ∀ i o, ops.toList[i]? = some o → listed.getD i true = true → ∀ j ∈ direct o, listed.getD j false = true
theorem before_listed {ops : Array Oper} {listed : Array Bool} (hsz : listed.size = ops.size) (hcl : Closed ops listed) : ∀ (i : Nat) (o : Oper) (j : Nat), ops.toList[i]? = some o →
  (∀ m ∈ direct o, listed.getD m false = true) → ((masks ops.toList []).getD i 0).testBit j = true → listed.getD j false = true := by
 intro i
 induction i using Nat.strongRecOn with
 | _ i ih =>
  intro o j ho hd hb
  have := masks_bit ops.toList [] i o j ho (by simpa using hb)
  rcases this with h | ⟨m, h1, h2, h3⟩
  ·exact hd j h
  ·simp only [List.length_nil, Nat.zero_add] at h2
   have hml : m < ops.toList.length := Nat.lt_trans h2 (get_lt ho)
   have hom : ops.toList[m]? = some ops.toList[m] := List.getElem?_eq_getElem hml
   have hlm := hd m h1
   have hlm' : listed.getD m true = true := by
    have hms : m < listed.size := by rw [hsz]; simpa using hml
    simp only [Array.getD_eq_getD_getElem?, Array.getElem?_eq_getElem hms, Option.getD_some] at hlm ⊢
    exact hlm
   exact ih m h2 _ j hom (hcl m _ hom hlm') h3
theorem direct_all {o : Oper} {listed : Array Bool} (h : (o.after.all fun ed => !Region.binds .any ed || listed.getD ed.on false) = true) : ∀ m ∈ direct o, listed.getD m false = true := by
 intro m hm
 simp only [direct, List.mem_map, List.mem_filter] at hm
 obtain ⟨ed, ⟨h1, h2⟩, rfl⟩ := hm
 have := Array.all_eq_true_iff_forall_mem.1 h ed (by simpa using h1)
 simpa [h2] using this
theorem direct_all' {o : Oper} {listed : Array Bool} (h : ∀ m ∈ direct o, listed.getD m false = true) : (o.after.all fun ed => !Region.binds .any ed || listed.getD ed.on false) = true := by
 apply Array.all_eq_true_iff_forall_mem.2
 intro ed hed
 by_cases hb : Region.binds .any ed = true
 ·have := h ed.on (by simp only [direct, List.mem_map, List.mem_filter]; exact ⟨ed, ⟨by simpa using hed, hb⟩, rfl⟩)
  simp [this]
 ·simp [hb]
structure Rem (ops : Array Oper) (listed : Array Bool) (rem : List Nat) : Prop where
 size : listed.size = ops.size
 mem : ∀ i, i ∈ rem ↔ i < ops.size ∧ listed.getD i true = false
 sorted : rem.Pairwise (· < ·)
theorem ready_mem {ops : Array Oper} {listed : Array Bool} {i : Nat} : i ∈ Region.ready .any ops listed ↔ i < ops.size ∧ listed.getD i true = false ∧
  ∃ o, ops.toList[i]? = some o ∧ ∀ m ∈ direct o, listed.getD m false = true := by
 simp only [Region.ready, List.mem_filter, List.mem_range, Bool.and_eq_true, Bool.not_eq_true']
 constructor
 ·rintro ⟨h1, h2, h3⟩
  refine ⟨h1, h2, ?_⟩
  have ho : ops[i]? = some ops[i] := Array.getElem?_eq_getElem h1
  rw [ho] at h3
  simp only [Option.map_some, Option.getD_some] at h3
  exact ⟨ops[i], by simp, direct_all h3⟩
 ·rintro ⟨h1, h2, o, h3, h4⟩
  refine ⟨h1, h2, ?_⟩
  have ho : ops[i]? = some o := by simpa using h3
  rw [ho]
  simp only [Option.map_some, Option.getD_some]
  exact direct_all' h4
theorem rem_step {ops : Array Oper} {listed : Array Bool} {l1 l2 : List Nat} {i : Nat} {o : Oper} (hr : Rem ops listed (l1 ++ i :: l2)) (hc : Closed ops listed) (hin : i < ops.size) (ho : ops.toList[i]? = some o) (hdir : ∀ m ∈ direct o, listed.getD m false = true)
  (hd1 : ∀ i o, ops.toList[i]? = some o → ∀ j ∈ direct o, j < i) : Rem ops (listed.setIfInBounds i true) (l1 ++ l2) ∧ Closed ops (listed.setIfInBounds i true) := by
 have hpair := hr.sorted
 rw [List.pairwise_append] at hpair
 have hl1 : ∀ j ∈ l1, j < i := fun j hj => hpair.2.2 j hj i (by simp)
 have hl2 : ∀ j ∈ l2, i < j := fun j hj => (List.pairwise_cons.1 hpair.2.1).1 j hj
 refine ⟨⟨by simp [hr.size], fun j => ?_, ?_⟩, ?_⟩
 ·have hm := hr.mem j
  simp only [List.mem_append, List.mem_cons] at hm ⊢
  simp only [Array.getD_eq_getD_getElem?, Array.getElem?_setIfInBounds] at hm ⊢
  by_cases hji : i = j
  ·subst hji
   simp only [if_true, hr.size, hin, Option.getD_some]
   constructor
   ·rintro (h | h)
    ·have := hl1 _ h; omega
    ·have := hl2 _ h; omega
   ·rintro ⟨_, h⟩; cases h
  ·simp only [hji, if_false]
   rw [← hm]
   constructor
   ·rintro (h | h)
    ·exact .inl h
    ·exact .inr (.inr h)
   ·rintro (h | h | h)
    ·exact .inl h
    ·exact absurd h.symm hji
    ·exact .inr h
 ·rw [List.pairwise_append]
  exact ⟨hpair.1, (List.pairwise_cons.1 hpair.2.1).2, fun x hx y hy => hpair.2.2 x hx y (by simp [hy])⟩
 ·intro k ok hok hlk j hj
  have hjk := hd1 k ok hok j hj
  have hkn : k < ops.size := by simpa using get_lt hok
  simp only [Array.getD_eq_getD_getElem?, Array.getElem?_setIfInBounds] at hlk ⊢
  by_cases hik : i = k
  ·subst hik
   have : ok = o := by rw [ho] at hok; cases hok; rfl
   subst this
   have hlj := hdir j hj
   have hne : i ≠ j := by omega
   simp only [hne, if_false]
   simpa [Array.getD_eq_getD_getElem?] using hlj
  ·simp only [hik, if_false] at hlk
   have hlj := hc k ok hok (by simpa [Array.getD_eq_getD_getElem?] using hlk) j hj
   by_cases hij : i = j
   ·subst hij; simp [hr.size, hin]
   ·simp only [hij, if_false]; simpa [Array.getD_eq_getD_getElem?] using hlj
def Bar (ops : Array Oper) (b : Nat) : Prop := (∀ j, j < b → ((masks ops.toList []).getD b 0).testBit j = true) ∧ ∀ i, b < i → i < ops.size → ((masks ops.toList []).getD i 0).testBit b = true
def PlanK (ro : Option Nat) (P : Program) (N : Nat) (G0 : Nat → Prop) (ι0 : Io) (h0 : Hp) (w0 : World) (ops : Array Oper) (aops : List AO) (Q : Exit → Act → World → Prop) : List (Nat × List Nat) → Env → Hp → Prop
 | [], e, h => ∀ a w, Fits N G0 ι0 h0 w0 e h a w → Q .normal a w
 | (b, is) :: r, e, h => Bar ops b ∧ ∀ (a : Act) (w : World) (K : Act → World → Prop), Fits N G0 ι0 h0 w0 e h a w →
   (∀ e2 h2 e3 h3 a' w', Fits N G0 ι0 h0 w0 e2 h2 a' w' → RunI P aops is e2 h2 e3 h3 → PlanK ro P N G0 ι0 h0 w0 ops aops Q r e3 h3 → K a' w') → wpOpIn (Fen ro) 0 P ops Q b K a w
def flatP : List (Nat × List Nat) → List Nat
 | [] => []
 | (b, is) :: r => b :: (is ++ flatP r)
theorem any_sound {ops : Array Oper} {aops : List AO} {Q : Exit → Act → World → Prop} (hcomp : compOs P ops N ops.toList = some aops) (hg : aops.all (gOk N) = true) (hk : aops.all constOk = true)
  (hd : drawOk ops.toList aops = true) : ∀ (fuel : Nat) (listed : Array Bool) (cur : List Nat) (bs : List (Nat × List Nat)) (e : Env) (h : Hp) (e1 : Env) (h1 : Hp) (a : Act) (w : World),
  Rem ops listed (cur ++ flatP bs) → (cur ++ flatP bs).length ≤ fuel → Closed ops listed → Fits N G0 ι0 h0 w0 e h a w → RunI P aops cur e h e1 h1 → PlanK ro P N G0 ι0 h0 w0 ops aops Q bs e1 h1 → wpAnyIn (Fen ro) 0 P .any ops Q fuel listed a w := by
 have hd' : ∀ i o, ops.toList[i]? = some o → (∀ j ∈ direct o, j < i) ∧ ∀ j, j < i → ((masks ops.toList []).getD i 0).testBit j = true ∨ ∃ x y, aops[j]? = some x ∧ aops[i]? = some y ∧ compat x y = true := by
  intro i o ho
  simp only [drawOk, List.all_eq_true, List.mem_range, Bool.and_eq_true, Bool.or_eq_true] at hd
  obtain ⟨h1, h2⟩ := hd i (get_lt ho)
  rw [ho] at h1
  simp only [List.all_eq_true, decide_eq_true_eq] at h1
  refine ⟨h1, fun j hj => ?_⟩
  rcases h2 j hj with h3 | h3
  ·exact .inl h3
  ·right
   split at h3
   ·rename_i x y hx hy; exact ⟨x, y, hx, hy, h3⟩
   ·cases h3
 have hd1 : ∀ i o, ops.toList[i]? = some o → ∀ j ∈ direct o, j < i := fun i o ho => (hd' i o ho).1
 have hempty : ∀ listed rem, Rem ops listed rem → Closed ops listed → Region.ready .any ops listed = [] → rem = [] := by
  intro listed rem hr _ hready
  cases rem with
  | nil => rfl
  | cons i rem =>
   exfalso
   have hi := (hr.mem i).1 (by simp)
   have ho : ops.toList[i]? = some (ops.toList[i]'(by simpa using hi.1)) := List.getElem?_eq_getElem _
   have : i ∈ Region.ready .any ops listed := by
    rw [ready_mem]
    refine ⟨hi.1, hi.2, _, ho, fun m hm => ?_⟩
    have hmi := (hd' i _ ho).1 m hm
    have hnot : m ∉ i :: rem := by
     intro hmem
     simp only [List.mem_cons] at hmem
     rcases hmem with h | h
     ·omega
     ·have := (List.pairwise_cons.1 hr.sorted).1 m h; omega
    have hms : m < ops.size := by omega
    have : ¬ (listed.getD m true = false) := fun hf => hnot ((hr.mem m).2 ⟨hms, hf⟩)
    simp only [Array.getD_eq_getD_getElem?, Array.getElem?_eq_getElem (show m < listed.size by rw [hr.size]; exact hms), Option.getD_some] at this ⊢
    simpa using this
   rw [hready] at this
   cases this
 have hnil : ∀ cur (bs : List (Nat × List Nat)), cur ++ flatP bs = [] → cur = [] ∧ bs = [] := by
  intro cur bs h
  obtain ⟨h1, h2⟩ := List.append_eq_nil_iff.1 h
  refine ⟨h1, ?_⟩
  cases bs with
  | nil => rfl
  | cons x r => simp [flatP] at h2
 have hdone : ∀ listed rem i o j, Rem ops listed rem → Closed ops listed → ops.toList[i]? = some o → (∀ m ∈ direct o, listed.getD m false = true) → ((masks ops.toList []).getD i 0).testBit j = true → j ∈ rem → False := by
  intro listed rem i o j hr hc ho hdir hb hj
  have := before_listed hr.size hc i o j ho hdir hb
  have hj' := (hr.mem j).1 hj
  simp only [Array.getD_eq_getD_getElem?, Array.getElem?_eq_getElem (show j < listed.size by rw [hr.size]; exact hj'.1), Option.getD_some] at this hj'
  rw [this] at hj'; simp at hj'
 intro fuel
 induction fuel with
 | zero =>
  intro listed cur bs e h e1 h1 a w hr hl hc hf hrun hpl
  obtain ⟨rfl, rfl⟩ := hnil cur bs (List.eq_nil_of_length_eq_zero (by omega))
  obtain ⟨rfl, rfl⟩ := hrun
  refine ⟨?_, hpl a w hf⟩
  apply List.eq_nil_iff_forall_not_mem.2
  intro i hi
  rw [ready_mem] at hi
  have := (hr.mem i).2 ⟨hi.1, hi.2.1⟩
  cases this
 | succ fuel ih =>
  intro listed cur bs e h e' h' a w hr hl hc hf hrun hpl
  refine ⟨fun hready => ?_, fun i hi => ?_⟩
  ·obtain ⟨rfl, rfl⟩ := hnil _ _ (hempty listed _ hr hc hready)
   obtain ⟨rfl, rfl⟩ := hrun
   exact hpl a w hf
  ·rw [ready_mem] at hi
   obtain ⟨hin, hil, o, ho, hdir⟩ := hi
   have himem := (hr.mem i).2 ⟨hin, hil⟩
   rcases List.mem_append.1 himem with hicur | hibs
   ·obtain ⟨l1, l2, hrem⟩ := List.append_of_mem hicur
    subst hrem
    have hpair := hr.sorted
    rw [List.append_assoc, List.cons_append] at hr hpair
    rw [List.pairwise_append] at hpair
    have hl1 : ∀ j ∈ l1, j < i := fun j hj => hpair.2.2 j hj i (by simp)
    have hcompat : ∀ j ∈ l1, ∀ x y, aops[j]? = some x → aops[i]? = some y → compat x y = true := by
     intro j hj x y hx hy
     rcases (hd' i o ho).2 j (hl1 j hj) with hb | ⟨x', y', hx', hy', hcc⟩
     ·exact (hdone listed _ i o j hr hc ho hdir hb (by simp [hj])).elim
     ·rw [hx] at hx'; rw [hy] at hy'; cases hx'; cases hy'; exact hcc
    obtain ⟨ao, e1, h1, hao, hstep, hrest⟩ := front hcomp hk l1 i l2 e h e' h' a w hf hcompat hrun
    have hco := (compOs_get hcomp).2 i o ao ho hao
    have hgo := gOk_spec (N := N) (by rw [List.all_eq_true] at hg; exact hg ao (List.mem_of_getElem? hao))
    have hoi : ops[i]? = some o := by simpa using ho
    obtain ⟨hr2, hc2⟩ := rem_step hr hc hin ho hdir hd1
    unfold wpOpIn
    simp only [hoi]
    exact step_sound hco hgo hstep.1 hf fun a' w' hf' => ih (listed.setIfInBounds i true) (l1 ++ l2) bs e1 h1 e' h' a' w' (by rw [List.append_assoc]; exact hr2) (by simp at hl ⊢; omega) hc2 hf' hrest hpl
   ·cases bs with
    | nil => cases hibs
    | cons q r =>
     obtain ⟨b, is⟩ := q
     simp only [flatP, List.mem_cons] at hibs
     obtain ⟨hbar, hpl⟩ := hpl
     have hpair := hr.sorted
     rw [List.pairwise_append] at hpair
     have hib : i = b := by
      rcases hibs with h | h
      ·exact h
      ·exfalso
       have hbi : b < i := (List.pairwise_cons.1 hpair.2.1).1 i (by simpa using h)
       exact hdone listed _ i o b hr hc ho hdir (hbar.2 i hbi hin) (by simp [flatP])
     subst hib
     have hcur : cur = [] := by
      cases cur with
      | nil => rfl
      | cons j cur =>
       exfalso
       have hji : j < i := hpair.2.2 j (by simp) i (by simp [flatP])
       exact hdone listed _ i o j hr hc ho hdir (hbar.1 j hji) (by simp)
     subst hcur
     obtain ⟨rfl, rfl⟩ := hrun
     obtain ⟨hr2, hc2⟩ := rem_step (l1 := []) (by simpa [flatP] using hr) hc hin ho hdir hd1
     refine hpl a w _ hf fun e2 h2 e3 h3 a' w' hf2 hrun2 hpl2 => ?_
     exact ih (listed.setIfInBounds i true) is r e2 h2 e3 h3 a' w' hr2 (by simp [flatP] at hl ⊢; omega) hc2 hf2 hrun2 hpl2
theorem Fits.same_heap {e : Env} {h : Hp} {a : Act} {w w' : World} (hf : Fits N G0 ι0 h0 w0 e h a w) (hw : w'.heap = w.heap) (hq : Quiet w w' := by first | exact ⟨rfl, rfl, rfl, Nat.le_refl _⟩ | exact ⟨rfl, rfl, rfl, Nat.le_succ _⟩ | assumption | (subst_vars; exact ⟨rfl, rfl, rfl, Nat.le_refl _⟩) | (subst_vars; exact ⟨rfl, rfl, rfl, Nat.le_succ _⟩)) : Fits N G0 ι0 h0 w0 e h a w' := by
 obtain ⟨G, ι, st⟩ := hf
 have hx := Ext.same_heap (G := G) (ι := ι) (h := h) hw
 exact ⟨G, ι, ⟨{ hr := st.rel.hr.same_heap hw, size := st.rel.size, env := fun i => (st.rel.env i).ext hx st.rel.hr }, st.ext.trans hx, st.dfr.ext hx⟩⟩
theorem region_draw {id : Nat} {ops : Array Oper} {aops : List AO} {Q : Exit → Act → World → Prop} {e e' : Env} {h h' : Hp} {a : Act} {w : World} {cur : List Nat} {bs : List (Nat × List Nat)} (hm : P.follows .mixedOrders = true)
  (hcomp : compOs P ops N ops.toList = some aops) (hg : aops.all (gOk N) = true) (hk : aops.all constOk = true) (hd : drawOk ops.toList aops = true) (hf : Fits N G0 ι0 h0 w0 e h a w)
  (hall : cur ++ flatP bs = List.range ops.size) (hrun : RunI P aops cur e h e' h') (hpl : PlanK ro P N G0 ι0 h0 w0 ops aops Q bs e' h') : (Code.region id ops true).wpIn (Fen ro) 0 P Q a w := by
 refine wpIn_region_any hm (any_sound hcomp hg hk hd ops.size (Array.replicate ops.size false) cur bs e h e' h' a _ ?_ (by simp [hall]) ?_ (hf.same_heap rfl) hrun hpl)
 ·rw [hall]
  refine ⟨by simp, fun i => ?_, List.pairwise_lt_range⟩
  simp only [List.mem_range, Array.getD_eq_getD_getElem?, Array.getElem?_replicate]
  constructor
  ·intro hi; exact ⟨hi, by simp [hi]⟩
  ·exact fun hi => hi.1
 ·intro i o ho hl
  have hi : i < ops.size := by simpa using get_lt ho
  simp [Array.getD_eq_getD_getElem?, hi] at hl
end
end Go.Ab

/-
  The engine, part u: conditions. What has to be shown of a text, as a proposition that is computed step by step: every number that is computed gets a name and an equation, every test parts the way.
-/
namespace Go.Ab
@[irreducible] def nI (n : Nat) : Int := n
abbrev Len := List (List D) → Int
theorem nI_eq (n : Nat) : nI n = (n : Int) := by unfold nI; rfl
abbrev Lv := List (Nat × AV)
def lkL : Lv → Env
 | [] => fun _ => .c .u
 | (i, v) :: r => upd (lkL r) i v
def lkN : Lv → Nat → AV
 | [], _ => .c .u
 | (i, v) :: r, n => match Nat.beq i n with
  | true => v
  | false => lkN r n
theorem lkN_eq : ∀ (L : Lv) (n : Nat), lkN L n = lkL L n := by
 intro L
 induction L with
 | nil => intro n; rfl
 | cons p r ih =>
  intro n
  obtain ⟨i, v⟩ := p
  simp only [lkN, lkL, upd]
  by_cases h : i = n
  ·subst h; simp
  ·have : Nat.beq i n = false := by
    cases hb : Nat.beq i n with
    | false => rfl
    | true => exact absurd (Nat.eq_of_beq_eq_true hb) h
   simp [this, h, ih]
def evN (L : Lv) : X → AV
 | .t n => lkN L n
 | .k v => v
theorem evN_eq (L : Lv) (x : X) : evN L x = ev (lkL L) x := by
 cases x with
 | t n => exact lkN_eq L n
 | k v => rfl
def evsN (L : Lv) : List X → List AV
 | [] => []
 | x :: r => evN L x :: evsN L r
theorem evsN_eq (L : Lv) (xs : List X) : evsN L xs = evs (lkL L) xs := by
 induction xs with
 | nil => rfl
 | cons x r ih => simp only [evsN, evs, evN_eq, ih]
def putL (L : Lv) : Option Nat → AV → Lv
 | some d, v => (d, v) :: L
 | none, _ => L
theorem putL_eq (L : Lv) (d : Option Nat) (v : AV) : lkL (putL L d v) = putE (lkL L) d v := by
 cases d <;> rfl
def bArgs (b : Bool) (xs ys : List AV) : List AV := match b with
 | false => xs ++ ys
 | true => ys ++ xs
def refsC (n : Nat) : CV → Bool
 | .ptr l _ _ _ => Nat.ble (l + 1) n
 | .arr l _ _ _ => Nat.ble (l + 1) n
 | .mp l => Nat.ble (l + 1) n
 | .it l => Nat.ble (l + 1) n
 | .fn _ _ caps => refsCs n caps
 | _ => true
where
  refsCs (n : Nat) : List CV → Bool
  | [] => true
  | x :: r => match refsC n x with
    | true => refsCs n r
    | false => false
abbrev refsCs (n : Nat) : List CV → Bool := refsC.refsCs n
def refsA (n : Nat) : AV → Bool
 | .c x => refsC n x
 | .agg l => refsCs n l
 | .tup [] => true
 | .tup _ => false
def refsB (n : Nat) : Blk → Bool
 | .bx cs => refsCs n cs
 | .mi m _ _ => Nat.ble (m + 1) n
 | _ => true
def refsH (n : Nat) : Hp → Bool
 | [] => true
 | b :: r => match refsB n b with
  | true => refsH n r
  | false => false
def KeepL (n : Nat) (L : Lv) : Lv → Prop
 | [] => True
 | (i, v) :: r => (lkN L i = v ∧ refsA n v = true) ∧ KeepL n L r
inductive FzC (l v sz : Nat) (es : List (List D)) : CV → CV → Prop
 | keep (x : CV) : FzC l v sz es x x
 | arr (n : Nat) (hn : n = es.length) : FzC l v sz es (.arr l v 0 n) (.d (.list false sz es))
 | drop (x : CV) : FzC l v sz es x .u
def FzCs (l v sz : Nat) (es : List (List D)) : List CV → List CV → Prop
 | [], [] => True
 | x :: xs, y :: ys => FzC l v sz es x y ∧ FzCs l v sz es xs ys
 | _, _ => False
inductive FzA (l v sz : Nat) (es : List (List D)) : AV → AV → Prop
 | same (x : AV) : FzA l v sz es x x
 | c (x y : CV) (h : FzC l v sz es x y) : FzA l v sz es (.c x) (.c y)
 | agg (xs ys : List CV) (h : FzCs l v sz es xs ys) : FzA l v sz es (.agg xs) (.agg ys)
 | fn (b : Bool) (f : Nat) (xs ys : List CV) (h : FzCs l v sz es xs ys) : FzA l v sz es (.c (.fn b f xs)) (.c (.fn b f ys))
inductive FzB (l v sz : Nat) (es : List (List D)) : Blk → Blk → Prop
 | same (b : Blk) : FzB l v sz es b b
 | bx (xs ys : List CV) (h : FzCs l v sz es xs ys) : FzB l v sz es (.bx xs) (.bx ys)
def FzH (l v sz : Nat) (es : List (List D)) : Nat → Hp → Hp → Prop
 | _, [], [] => True
 | n, b :: h, b' :: h' => ((n = l ∧ b' = .dead) ∨ (n ≠ l ∧ FzB l v sz es b b')) ∧ FzH l v sz es (n + 1) h h'
 | _, _, _ => False
inductive Wk (m : Nat) : Lv → Hp → Lv → Hp → Prop
 | cut {L : Lv} {h : Hp} {L' : Lv} {h' : Hp} (heap : ∃ t, h = h' ++ t) (least : m ≤ h'.length) (refs : refsH h'.length h' = true) (env : KeepL h'.length L L') : Wk m L h L' h'
 | same {L : Lv} {h : Hp} {L' : Lv} {h' : Hp} (hh : h' = h) (env : ∀ i, lkL L' i = .c .u ∨ lkL L' i = lkL L i) : Wk m L h L' h'
 | nilS {L : Lv} {h : Hp} (i sz : Nat) (hi : lkN L i = .c (.d (.list true sz []))) : Wk m L h ((i, .c (.arr h.length 0 0 0)) :: L) (h ++ [.da false 0 sz []])
 | nilB {L : Lv} {h : Hp} (l j sz : Nat) (cs : List CV) (hl : h[l]? = some (.bx cs)) (hj : cs[j]? = some (.d (.list true sz []))) :
   Wk m L h L (List.set (h ++ [Blk.da false 0 sz []]) l (Blk.bx (cs.set j (.arr h.length 0 0 0))))
 | rst {L : Lv} {h : Hp} (l v sz sz' : Nat) (r : Bool) (es : List (List D)) (hl : h[l]? = some (.da r v sz es)) : Wk m L h L (h.set l (.da false (v + 1) sz' []))
 | nilK {L : Lv} {h : Hp} (l b j v sz sz' : Nat) (cs : List CV) (hl : h[l]? = some (.da false v sz [])) (hb : h[b]? = some (.bx cs)) (hj : cs[j]? = some (.d (.list true sz' []))) :
   Wk m L h L (h.set b (.bx (cs.set j (.arr l v 0 0))))
 | fz {L : Lv} {h : Hp} {L' : Lv} {h' : Hp} (l v sz : Nat) (r : Bool) (es : List (List D)) (hl : h[l]? = some (.da r v sz es)) (env : ∀ i, lkL L' i = .c .u ∨ FzA l v sz es (lkL L i) (lkL L' i)) (heap : FzH l v sz es 0 h h') : Wk m L h L' h'
 | fg {L : Lv} {h : Hp} (i : Nat) : Wk m L h ((i, fgA (lkN L i)) :: L) h
 | trans {L : Lv} {h : Hp} {L1 : Lv} {h1 : Hp} {L2 : Lv} {h2 : Hp} (a : Wk m L h L1 h1) (b : Wk m L1 h1 L2 h2) : Wk m L h L2 h2
inductive CallS (P : Program) (m : Nat) : Bool → Lv → Hp → Nat → List X → (Lv → AV → Hp → Prop) → Prop
 | pure {d : Bool} {L : Lv} {h : Hp} {f : Nat} {xs : List X} {K : Lv → AV → Hp → Prop} {r : AV} (hp : PureR P h f (evsN L xs) r) (k : K L r h) : CallS P m d L h f xs K
 | ro {d : Bool} {L : Lv} {h : Hp} {f : Nat} {xs : List X} {K : Lv → AV → Hp → Prop} {r : AV} (hm : 0 < m) (hp : RoR P h f (evsN L xs) r) (k : K L r h) : CallS P m d L h f xs K
 | fn {L : Lv} {h : Hp} {f : Nat} {xs : List X} {K : Lv → AV → Hp → Prop} (hf : FnS P f (evsN L xs) h (K L)) : CallS P m false L h f xs K
 | wk {L : Lv} {h : Hp} {L1 : Lv} {h1 : Hp} {f : Nat} {xs : List X} {K : Lv → AV → Hp → Prop} (hw : Wk m L h L1 h1) (k : CallS P m false L1 h1 f xs K) : CallS P m false L h f xs K
inductive CallV (P : Program) (h : Hp) (f : Nat) (args : List AV) (K : AV → Hp → Prop) : Prop
 | pure {r : AV} (hp : PureR P h f args r) (k : K r h)
 | fn (hf : FnS P f args h K)
def vInt (op : BinOp) (k : IntKind) (a b : Int) (K : AV → Prop) : Prop :=
 match op with
 | .add => ∀ c, c = k.wrap (a + b) → K (.c (.d (.int k c)))
 | .sub => ∀ c, c = k.wrap (a - b) → K (.c (.d (.int k c)))
 | .mul => ∀ c, c = k.wrap (a * b) → K (.c (.d (.int k c)))
 | .quo => (Unit → b ≠ 0) ∧ ∀ c, c = k.wrap (a.tdiv b) → K (.c (.d (.int k c)))
 | .rem => (Unit → b ≠ 0) ∧ ∀ c, c = a.tmod b → K (.c (.d (.int k c)))
 | .eql => (a = b → K (.c (.d (.bool true)))) ∧ (¬ a = b → K (.c (.d (.bool false))))
 | .neq => (¬ a = b → K (.c (.d (.bool true)))) ∧ (a = b → K (.c (.d (.bool false))))
 | .lss => (a < b → K (.c (.d (.bool true)))) ∧ (¬ a < b → K (.c (.d (.bool false))))
 | .leq => (a ≤ b → K (.c (.d (.bool true)))) ∧ (¬ a ≤ b → K (.c (.d (.bool false))))
 | .gtr => (b < a → K (.c (.d (.bool true)))) ∧ (¬ b < a → K (.c (.d (.bool false))))
 | .geq => (b ≤ a → K (.c (.d (.bool true)))) ∧ (¬ b ≤ a → K (.c (.d (.bool false))))
 | op => ∃ d, binD op (.int k a) (.int k b) = some d ∧ ∀ d', d' = d → K (.c (.d d'))
def vBin (op : BinOp) : AV → AV → (AV → Prop) → Prop
 | .c (.d (.int k a)), .c (.d (.int k' b)), K => match op with
  | .shl => (Unit → 0 ≤ b) ∧ ∀ c, c = k.wrap (a * 2 ^ (min b.toNat k.bits)) → K (.c (.d (.int k c)))
  | .shr => (Unit → 0 ≤ b) ∧ ∀ c, c = a.fdiv (2 ^ (min b.toNat k.bits)) → K (.c (.d (.int k c)))
  | op => if k = k' then vInt op k a b K else False
 | .c (.d (.str a)), .c (.d (.str b)), K => match op with
  | .add => (Unit → a.length + b.length < 9223372036854775808) ∧ ∀ c, c = a ++ b → K (.c (.d (.str c)))
  | .eql => (a = b → K (.c (.d (.bool true)))) ∧ (¬ a = b → K (.c (.d (.bool false))))
  | .neq => (¬ a = b → K (.c (.d (.bool true)))) ∧ (a = b → K (.c (.d (.bool false))))
  | _ => False
 | _, _, _ => False
theorem vInt_sound {op : BinOp} {k : IntKind} {a b : Int} {K : AV → Prop} (h1 : op ≠ .shl) (h2 : op ≠ .shr) (hv : vInt op k a b K) : ∃ d, binD op (.int k a) (.int k b) = some d ∧ K (.c (.d d)) := by
 cases op
 case shl => exact absurd rfl h1
 case shr => exact absurd rfl h2
 case add => exact ⟨_, by simp [binD], hv _ rfl⟩
 case sub => exact ⟨_, by simp [binD], hv _ rfl⟩
 case mul => exact ⟨_, by simp [binD], hv _ rfl⟩
 case quo => exact ⟨_, by simp only [binD, if_true, hv.1 (), if_false], hv.2 _ rfl⟩
 case rem => exact ⟨_, by simp only [binD, if_true, hv.1 (), if_false], hv.2 _ rfl⟩
 case eql =>
  by_cases h : a = b
  ·exact ⟨.bool true, by simp [binD, h], hv.1 h⟩
  ·exact ⟨.bool false, by simp [binD, h], hv.2 h⟩
 case neq =>
  by_cases h : a = b
  ·exact ⟨.bool false, by simp [binD, h], hv.2 h⟩
  ·exact ⟨.bool true, by simp [binD, h], hv.1 h⟩
 case lss =>
  by_cases h : a < b
  ·exact ⟨.bool true, by simp [binD, h], hv.1 h⟩
  ·exact ⟨.bool false, by simp only [binD, if_true, h, decide_false], hv.2 h⟩
 case leq =>
  by_cases h : a ≤ b
  ·exact ⟨.bool true, by simp [binD, h], hv.1 h⟩
  ·exact ⟨.bool false, by simp only [binD, if_true, h, decide_false], hv.2 h⟩
 case gtr =>
  by_cases h : b < a
  ·exact ⟨.bool true, by simp [binD, h], hv.1 h⟩
  ·exact ⟨.bool false, by simp only [binD, if_true, gt_iff_lt, h, decide_false], hv.2 h⟩
 case geq =>
  by_cases h : b ≤ a
  ·exact ⟨.bool true, by simp [binD, h], hv.1 h⟩
  ·exact ⟨.bool false, by simp only [binD, if_true, ge_iff_le, h, decide_false], hv.2 h⟩
 all_goals
  obtain ⟨d, hd, hk⟩ := hv
  exact ⟨d, hd, hk d rfl⟩
theorem vBin_sound {op : BinOp} {x y : AV} {K : AV → Prop} (hv : vBin op x y K) : ∃ a b d, x = .c (.d a) ∧ y = .c (.d b) ∧ binD op a b = some d ∧ K (.c (.d d)) := by
 unfold vBin at hv
 split at hv
 ·rename_i k a k' b
  split at hv
  ·exact ⟨_, _, _, rfl, rfl, by simp only [binD]; rw [if_neg (by have := hv.1 (); omega)], hv.2 _ rfl⟩
  ·exact ⟨_, _, _, rfl, rfl, by simp only [binD]; rw [if_neg (by have := hv.1 (); omega)], hv.2 _ rfl⟩
  ·rename_i h1 h2
   split at hv
   ·rename_i hk
    subst hk
    obtain ⟨d, hd, hk⟩ := vInt_sound h1 h2 hv
    exact ⟨_, _, d, rfl, rfl, hd, hk⟩
   ·exact hv.elim
 ·rename_i a b
  split at hv
  ·exact ⟨_, _, _, rfl, rfl, by simp only [binD]; rw [if_pos (hv.1 ())], hv.2 _ rfl⟩
  ·by_cases h : a = b
   ·exact ⟨_, _, .bool true, rfl, rfl, by simp [binD, h], hv.1 h⟩
   ·exact ⟨_, _, .bool false, rfl, rfl, by simp [binD, h], hv.2 h⟩
  ·by_cases h : a = b
   ·exact ⟨_, _, .bool false, rfl, rfl, by simp [binD, h], hv.2 h⟩
   ·exact ⟨_, _, .bool true, rfl, rfl, by simp [binD, h], hv.1 h⟩
  ·exact hv.elim
 ·exact hv.elim
def eqP (xs ys : List CV) : List (Nat × Nat) → Option Prop
 | [] => some True
 | (o, k) :: r => match xs[o]?, ys[o]? with
  | some (.d (.int k1 a)), some (.d (.int k2 b)) => match k with
   | 0 => if k1 = k2 then
     (match eqP xs ys r with
     | some p => some (a = b ∧ p)
     | none => none) else none
   | _ => none
  | some (.d (.bool a)), some (.d (.bool b)) => match k with
   | 1 => (match eqP xs ys r with
     | some p => some (a = b ∧ p)
     | none => none)
   | _ => none
  | some (.d (.str a)), some (.d (.str b)) => match k with
   | 2 => (match eqP xs ys r with
     | some p => some (a = b ∧ p)
     | none => none)
   | _ => none
  | _, _ => none
theorem eqP_sound {xs ys : List CV} : ∀ {ls : List (Nat × Nat)} {p : Prop}, eqP xs ys ls = some p → ∃ b, eqc xs ys ls = some b ∧ (b = true ↔ p) := by
 intro ls
 induction ls with
 | nil => intro p h; simp only [eqP, Option.some.injEq] at h; subst h; exact ⟨true, rfl, by simp⟩
 | cons q r ih =>
  intro p h
  obtain ⟨o, k⟩ := q
  simp only [eqP] at h
  split at h
  ·rename_i k1 a k2 b h1 h2
   split at h
   ·split at h
    ·rename_i hk
     subst hk
     split at h
     ·rename_i p' hp'
      cases h
      obtain ⟨c, hc, hi⟩ := ih hp'
      exact ⟨(a == b) && c, by simp [eqc, h1, h2, deq, hc], by simp [hi]⟩
     ·cases h
    ·cases h
   ·cases h
  ·rename_i a b h1 h2
   split at h
   ·split at h
    ·rename_i p' hp'
     cases h
     obtain ⟨c, hc, hi⟩ := ih hp'
     exact ⟨(a == b) && c, by simp [eqc, h1, h2, deq, hc], by simp [hi]⟩
    ·cases h
   ·cases h
  ·rename_i a b h1 h2
   split at h
   ·split at h
    ·rename_i p' hp'
     cases h
     obtain ⟨c, hc, hi⟩ := ih hp'
     exact ⟨(a == b) && c, by simp [eqc, h1, h2, deq, hc], by simp [hi]⟩
    ·cases h
   ·cases h
  ·cases h
def vSl (Λ : Len) (sz : Nat) (x : AV) (lo hi mx : Option Int) (K : AV → Prop) : Prop :=
 match x with
 | .c (.d (.list nl sz' l)) => match Nat.beq sz' sz with
  | true => (match lo, hi, mx with
   | some a, none, none => (Unit → 0 ≤ a ∧ a ≤ Λ l) ∧ ∀ l', l' = l.drop a.toNat → K (.c (.d (.list nl sz l')))
   | none, some b, none => (Unit → 0 ≤ b ∧ b ≤ Λ l) ∧ ∀ l', l' = l.take b.toNat → K (.c (.d (.list nl sz l')))
   | some a, some b, none => (Unit → 0 ≤ a ∧ a ≤ b ∧ b ≤ Λ l) ∧ ∀ l', l' = (l.take b.toNat).drop a.toNat → K (.c (.d (.list nl sz l')))
   | none, none, none => K (.c (.d (.list nl sz l)))
   | none, some b, some m => (Unit → 0 ≤ b ∧ b = m ∧ m ≤ Λ l) ∧ ∀ l', l' = l.take b.toNat → K (.c (.cl nl sz l'))
   | _, _, _ => False)
  | false => False
 | .c (.arr l v i n) => (match lo, hi, mx with
  | some a, none, none => (Unit → 0 ≤ a ∧ a ≤ nI n) ∧ ∀ i' n', i' = i + a.toNat → n' = n - a.toNat → K (.c (.arr l v i' n'))
  | none, some b, none => (Unit → 0 ≤ b ∧ b ≤ nI n) ∧ ∀ n', n' = b.toNat → K (.c (.arr l v i n'))
  | some a, some b, none => (Unit → 0 ≤ a ∧ a ≤ b ∧ b ≤ nI n) ∧ ∀ i' n', i' = i + a.toNat → n' = b.toNat - a.toNat → K (.c (.arr l v i' n'))
  | none, none, none => K (.c (.arr l v i n))
  | _, _, _ => False)
 | x => match slv sz x lo hi mx with
  | some r => K r
  | none => False
theorem slb_lo {n : Nat} {a : Int} (h : 0 ≤ a ∧ a ≤ n) : slb n (some a) none none = some (a.toNat, n, none) := by
 unfold slb; simp [h]
theorem slb_hi {n : Nat} {b : Int} (h : 0 ≤ b ∧ b ≤ n) : slb n none (some b) none = some (0, b.toNat, none) := by
 unfold slb; simp [h]
theorem slb_no {n : Nat} : slb n none none none = some (0, n, none) := by
 unfold slb; simp
theorem slb_both {n : Nat} {a b : Int} (h : 0 ≤ a ∧ a ≤ b ∧ b ≤ n) : slb n (some a) (some b) none = some (a.toNat, b.toNat, none) := by
 have h1 : 0 ≤ b ∧ b ≤ (n : Int) := ⟨by omega, h.2.2⟩
 have h2 : 0 ≤ a ∧ a ≤ ((b.toNat : Nat) : Int) := ⟨h.1, by omega⟩
 unfold slb; simp only [Option.getD_none, h1, and_self, if_true, h2]
theorem slb_clip {n : Nat} {b : Int} (h : 0 ≤ b ∧ b ≤ n) : slb n none (some b) (some b) = some (0, b.toNat, some b.toNat) := by
 have h2 : 0 ≤ b ∧ b ≤ ((b.toNat : Nat) : Int) := ⟨h.1, by omega⟩
 unfold slb; simp only [h, and_self, if_true, Option.getD_some, h2]
theorem vSl_sound {Λ : Len} (hΛ : ∀ l, Λ l = (l.length : Int)) {sz : Nat} {x : AV} {lo hi mx : Option Int} {K : AV → Prop} (hv : vSl Λ sz x lo hi mx K) : ∃ r, slv sz x lo hi mx = some r ∧ K r := by
 unfold vSl at hv
 simp only [nI_eq, hΛ] at hv
 split at hv
 ·rename_i nl sz' l
  split at hv
  ·rename_i hsz
   have hsz : sz' = sz := by simpa [Nat.beq_eq] using hsz
   subst hsz
   split at hv
   ·exact ⟨_, by simp [slv, slb_lo (hv.1 ())], hv.2 _ rfl⟩
   ·exact ⟨_, by simp [slv, slb_hi (hv.1 ())], hv.2 _ rfl⟩
   ·exact ⟨_, by simp [slv, slb_both (hv.1 ())], hv.2 _ rfl⟩
   ·exact ⟨_, by simp [slv, slb_no], hv⟩
   ·obtain ⟨h0, h4⟩ := hv
    obtain ⟨h1, rfl, h3⟩ := h0 ()
    exact ⟨_, by simp [slv, slb_clip ⟨h1, h3⟩], h4 _ rfl⟩
   ·exact hv.elim
  ·exact hv.elim
 ·split at hv
  ·exact ⟨_, by simp [slv, slb_lo (hv.1 ())], hv.2 _ _ rfl rfl⟩
  ·exact ⟨_, by simp [slv, slb_hi (hv.1 ())], hv.2 _ rfl⟩
  ·exact ⟨_, by simp [slv, slb_both (hv.1 ())], hv.2 _ _ rfl rfl⟩
  ·exact ⟨_, by simp [slv, slb_no], hv⟩
  ·exact hv.elim
 ·split at hv
  ·rename_i r hr; exact ⟨r, hr, hv⟩
  ·exact hv.elim
def vIx (Λ : Len) (h : Hp) (sz : Nat) (x : AV) (i : Int) (K : AV → Prop) : Prop :=
 match x with
 | .c (.d (.list _ sz' l)) => match Nat.beq sz' sz with
  | true => (Unit → 0 ≤ i ∧ i < Λ l) ∧ ∀ e, l[i.toNat]? = some e → K (.c (.rp e))
  | false => False
 | .c (.cl _ sz' l) => match Nat.beq sz' sz with
  | true => (Unit → 0 ≤ i ∧ i < Λ l) ∧ ∀ e, l[i.toNat]? = some e → K (.c (.rp e))
  | false => False
 | .c (.arr l v k n) => match h[l]? with
  | some (.da _ v' sz' _) => match Nat.beq sz' sz with
   | true => (Unit → v' = v ∧ 0 ≤ i ∧ i < nI n) ∧ ∀ p, p = k + i.toNat → K (.c (.ptr l v p 0))
   | false => False
  | _ => False
 | _ => False
theorem vIx_sound {Λ : Len} (hΛ : ∀ l, Λ l = (l.length : Int)) {h : Hp} {sz : Nat} {x : AV} {i : Int} {K : AV → Prop} (hv : vIx Λ h sz x i K) : ∃ r, ixv h sz x i = some r ∧ K r := by
 unfold vIx at hv
 simp only [nI_eq, hΛ] at hv
 split at hv
 ·rename_i nl sz' l
  split at hv
  ·rename_i hsz
   have hsz : sz' = sz := by simpa [Nat.beq_eq] using hsz
   subst hsz
   have h01 := hv.1 ()
   have hlt : i.toNat < l.length := by omega
   exact ⟨_, by simp [ixv, h01.1, List.getElem?_eq_getElem hlt], hv.2 _ (List.getElem?_eq_getElem hlt)⟩
  ·exact hv.elim
 ·rename_i nl sz' l
  split at hv
  ·rename_i hsz
   have hsz : sz' = sz := by simpa [Nat.beq_eq] using hsz
   subst hsz
   have h01 := hv.1 ()
   have hlt : i.toNat < l.length := by omega
   exact ⟨_, by simp [ixv, h01.1, List.getElem?_eq_getElem hlt], hv.2 _ (List.getElem?_eq_getElem hlt)⟩
  ·exact hv.elim
 ·rename_i l v k n
  split at hv
  ·rename_i v' sz' es hes
   split at hv
   ·rename_i h2
    have h2 : sz' = sz := by simpa [Nat.beq_eq] using h2
    obtain ⟨h1, h3⟩ := hv.1 ()
    subst h1 h2
    exact ⟨_, by simp [ixv, hes, h3], hv.2 _ rfl⟩
   ·exact hv.elim
  ·exact hv.elim
 ·exact hv.elim
def vAll (k : Int) (f : Nat → Prop) : Nat → Prop
 | 0 => True
 | n + 1 => vAll k f n ∧ (k = nI n → f n)
theorem vAll_sound {k : Int} {f : Nat → Prop} : ∀ {n : Nat}, vAll k f n → 0 ≤ k → k < n → f k.toNat := by
 intro n
 induction n with
 | zero => intro _ h1 h2; omega
 | succ n ih =>
  intro hv h1 h2
  by_cases h : k = n
  ·have := hv.2 (by rw [nI_eq]; exact h)
   rw [h]; exact this
  ·exact ih hv.1 h1 (by omega)
def vRd (h : Hp) (x : AV) (K : List CV → Prop) : Prop :=
 match x with
 | .c (.ptr l v i j) => match h[l]? with
  | some (.bx cs) => (match i with
   | 0 => K (cs.drop j)
   | _ + 1 => False)
  | some (.da _ v' _ es) => (Unit → v' = v ∧ i < es.length) ∧ ∀ e, es[i]? = some e → K ((e.drop j).map .d)
  | _ => False
 | .c (.rp cs) => K (cs.map cvD)
 | _ => False
theorem vRd_sound {h : Hp} {x : AV} {K : List CV → Prop} (hv : vRd h x K) : ∃ cs, rd h x = some cs ∧ K cs := by
 unfold vRd at hv
 split at hv
 ·rename_i l v i j
  split at hv
  ·rename_i cs hcs
   split at hv
   ·exact ⟨_, by simp [rd, hcs], hv⟩
   ·exact hv.elim
  ·rename_i v' sz es hes
   obtain ⟨hlt0, hk⟩ := hv
   obtain ⟨h1, hlt⟩ := hlt0 ()
   clear hlt0
   subst h1
   have he : es[i]? = some (es[i]'hlt) := List.getElem?_eq_getElem hlt
   exact ⟨_, by simp only [rd, hes, he, if_true], hk _ he⟩
  ·exact hv.elim
 ·exact ⟨_, rfl, hv⟩
 ·exact hv.elim
def vSt (h : Hp) (p : AV) (cs : List CV) (K : Hp → Prop) : Prop :=
 match p with
 | .c (.ptr l v i j) => match h[l]? with
  | some (.bx _) => (match wr h p cs with
   | some h' => K h'
   | none => False)
  | some (.da r v' sz es) => (match toDs cs with
   | some ds => (Unit → v' = v ∧ i < es.length ∧ j + ds.length ≤ sz) ∧ ∀ e, es[i]? = some e → ∀ es', es' = es.set i (e.take j ++ (ds ++ e.drop (j + ds.length))) → K (h.set l (.da r v' sz es'))
   | none => False)
  | _ => False
 | _ => False
theorem vSt_sound {h : Hp} {p : AV} {cs : List CV} {K : Hp → Prop} (hv : vSt h p cs K) : ∃ h', (wr h p cs = some h' ∨ (wr h p cs = none ∧ wrd h p cs = some h')) ∧ K h' := by
 unfold vSt at hv
 split at hv
 ·rename_i l v i j
  split at hv
  ·split at hv
   ·rename_i h' hw; exact ⟨h', .inl hw, hv⟩
   ·exact hv.elim
  ·rename_i v' sz es hes
   split at hv
   ·rename_i ds hds
    obtain ⟨hlt0, hk⟩ := hv
    obtain ⟨h1, hlt, hj⟩ := hlt0 ()
    clear hlt0
    subst h1
    have he : es[i]? = some es[i] := List.getElem?_eq_getElem hlt
    exact ⟨_, .inr ⟨by simp [wr, hes], by simp only [wrd, hes, he, hds, hj, if_true]⟩, hk _ he _ rfl⟩
   ·exact hv.elim
  ·exact hv.elim
 ·exact hv.elim
def vApp (h : Hp) (sz bytes : Nat) (x : AV) (ys : List (List D)) (K : AV → Hp → Prop) : Prop :=
 match x with
 | .c (.d (.list true sz' _)) => (match Nat.beq sz' sz with
  | true => (Unit → ys.length * bytes ≤ 140737488355328) ∧ ∀ n r es, n = ys.length → r = nz ys → es = ys → K (.c (.arr h.length 0 0 n)) (h ++ [.da r 0 sz es])
  | false => False)
 | .c (.cl nl sz' l) => (match Nat.beq sz' sz with
  | true => (Unit → (l.length + ys.length) * bytes ≤ 140737488355328) ∧ (ys = [] → K (.c (.cl nl sz' l)) h) ∧
    (ys ≠ [] → ∀ n es, n = l.length + ys.length → es = l ++ ys → K (.c (.arr h.length 0 0 n)) (h ++ [.da true 0 sz es]))
  | false => False)
 | .c (.arr l v i n) => match h[l]? with
  | some (.da r v' sz' es) => (match Nat.beq sz' sz with
   | true => (Unit → v' = v ∧ (n + ys.length) * bytes ≤ 140737488355328) ∧ ∀ m r' es', m = n + ys.length → r' = (r || nz ys) → es' = (es.drop i).take n ++ ys → K (.c (.arr l (v + 1) 0 m)) (h.set l (.da r' (v + 1) sz es'))
   | false => False)
  | _ => False
 | _ => False
theorem vApp_sound {h : Hp} {sz bytes : Nat} {x : AV} {ys : List (List D)} {K : AV → Hp → Prop} (hv : vApp h sz bytes x ys K) : ∃ r h', appv h sz bytes x ys = some (r, h') ∧ K r h' := by
 unfold vApp at hv
 split at hv
 ·rename_i sz' l
  split at hv
  ·rename_i h1
   have h1 : sz' = sz := by simpa [Nat.beq_eq] using h1
   subst h1
   obtain ⟨hb, hv⟩ := hv
   have hb := hb ()
   exact ⟨_, _, by simp only [appv, true_and]; rw [if_pos hb], hv _ _ _ rfl rfl rfl⟩
  ·exact hv.elim
 ·rename_i nl sz' l
  split at hv
  ·rename_i h1
   have h1 : sz' = sz := by simpa [Nat.beq_eq] using h1
   subst h1
   obtain ⟨hb, hv1, hv2⟩ := hv
   have hb := hb ()
   cases ys with
   | nil => exact ⟨_, _, by simp only [appv, true_and]; rw [if_pos hb], hv1 rfl⟩
   | cons y r => exact ⟨_, _, by simp only [appv, true_and]; rw [if_pos hb]; rfl, hv2 (by simp) _ _ rfl rfl⟩
  ·exact hv.elim
 ·rename_i l v i n
  split at hv
  ·rename_i rl v' sz' es hes
   split at hv
   ·rename_i h2
    have h2 : sz' = sz := by simpa [Nat.beq_eq] using h2
    obtain ⟨h1, hb⟩ := hv.1 ()
    subst h1 h2
    exact ⟨_, _, by simp only [appv, hes, true_and]; rw [if_pos hb], hv.2 _ _ _ rfl rfl rfl⟩
   ·exact hv.elim
  ·exact hv.elim
 ·exact hv.elim
end Go.Ab

/-
  The engine: arenas, part a: the conditions of operations on values that lead into an arena.
-/
namespace Go.Ab
def toKs : List CV → Option (List D)
 | [] => some []
 | x :: r => match toK x, toKs r with
  | some d, some ds => some (d :: ds)
  | _, _ => none
theorem toKs_get {cs : List CV} : ∀ {ds : List D}, toKs cs = some ds → ds.length = cs.length ∧ ∀ (i : Nat) (x : CV) (d : D), cs[i]? = some x → ds[i]? = some d → toK x = some d := by
 induction cs with
 | nil => intro ds h; simp only [toKs, Option.some.injEq] at h; subst h; simp
 | cons x r ih =>
  intro ds h
  simp only [toKs] at h
  split at h
  ·rename_i d ds' hd hds
   cases h
   obtain ⟨h1, h2⟩ := ih hds
   refine ⟨by simp [h1], fun i y e hy he => ?_⟩
   cases i with
   | zero => simp at hy he; subst hy he; exact hd
   | succ i => simp at hy he; exact h2 i y e hy he
  ·cases h
theorem toKs_ok {h : Hp} {cs : List CV} : ∀ {ds : List D}, toKs cs = some ds → cellsOk h cs = true := by
 induction cs with
 | nil => intro ds _; rfl
 | cons x r ih =>
  intro ds hd
  simp only [toKs] at hd
  split at hd
  ·rename_i d ds' h1 h2
   simp only [cellsOk, List.all_cons, Bool.and_eq_true]
   refine ⟨?_, ih h2⟩
   cases x <;> simp_all [toK, solid]
  ·cases hd
def isA : AV → Bool
 | .c (.d (.adr _ _)) => true
 | .c (.d (.sl _ _ _ _ _)) => true
 | _ => false
def hasAm : Hp → Bool
 | .am _ :: _ => true
 | _ => false
inductive AK where
 | no
 | yes
 | both
def AK.of : Bool → AK
 | true => .yes
 | false => .no
def arOp (L : Lv) (h : Hp) : AOp → AK
 | .nilc x => .of (isA (evN L x))
 | .fa x _ => .of (isA (evN L x))
 | .iaa _ _ x (.t _) => .of (isA (evN L x))
 | .ias _ x _ => .of (isA (evN L x))
 | .len x => .of (isA (evN L x))
 | .isnil _ _ x => .of (isA (evN L x))
 | .ld x _ => .of (isA (evN L x))
 | .st x _ _ => .of (isA (evN L x))
 | .box _ => match hasAm h with
  | true => .both
  | false => .no
 | .mks _ _ _ _ _ => match hasAm h with
  | true => .both
  | false => .no
 | .app _ _ _ x _ => match hasAm h with
  | true => (match evN L x with
   | .c (.d (.sl _ _ _ _ _)) => .yes
   | .c (.d (.list true _ _)) => .both
   | _ => .no)
  | false => .no
 | .rng _ => .yes
 | .nx _ => .yes
 | .ent _ => .yes
 | _ => .no
def arR (L : Lv) : AOp → Bool
 | .nilc x => isA (evN L x)
 | .fa x _ => isA (evN L x)
 | .iaa _ _ x (.t _) => isA (evN L x)
 | .ias _ x _ => isA (evN L x)
 | .len x => isA (evN L x)
 | .isnil _ _ x => isA (evN L x)
 | .ld x _ => isA (evN L x)
 | .st x _ _ => isA (evN L x)
 | _ => false
def vAr (op : AOp) (L : Lv) (h : Hp) (K : AV → Hp → Prop) : Prop :=
 match op with
 | .nilc x => match evN L x with
  | .c (.d (.adr b o)) => K (.c (.d (.adr b o))) h
  | _ => False
 | .fa x n => match evN L x with
  | .c (.d (.adr b o)) => K (.c (.d (.adr b (o + n)))) h
  | _ => False
 | .iaa n sz x (.t i) => match lkN L i, evN L x with
  | .c (.d (.int _ k)), .c (.d (.adr b o)) => (Unit → 0 ≤ k ∧ k < nI n) ∧ vAll k (fun j => K (.c (.d (.adr b (o + j * sz)))) h) n
  | _, _ => False
 | .ias sz x i => match evN L i, evN L x with
  | .c (.d (.int _ k)), .c (.d (.sl b o sz' n _)) => (match Nat.beq sz' sz with
   | true => (Unit → 0 ≤ k ∧ k < nI n) ∧ ∀ p, p = o + k.toNat * sz → K (.c (.d (.adr b p))) h
   | false => False)
  | _, _ => False
 | .len x => match evN L x with
  | .c (.d (.sl _ _ _ n _)) => ∀ c : Int, c = nI n → K (.c (.d (.int .i64 c))) h
  | _ => False
 | .isnil kd ne x => match kd, evN L x with
  | 1, .c (.d (.adr _ _)) => K (.c (.d (.bool ne))) h
  | 0, .c (.d (.sl _ _ _ _ _)) => K (.c (.d (.bool ne))) h
  | _, _ => False
 | .ld x n => match h, evN L x with
  | .am m :: r, .c (.d (.adr b o)) => (match n with
   | none => ∃ N xs c, m b = some (.cs N xs) ∧ xs[o]? = some c ∧ K (.c (.d c)) (.am m :: r)
   | some n => ∃ N xs ds, m b = some (.cs N xs) ∧ (xs.drop o).take n = ds ∧ ds.length = n ∧ K (.agg (ds.map .d)) (.am m :: r))
  | _, _ => False
 | .st x v n => match h, evN L x, cells (evN L v) with
  | .am m :: r, .c (.d (.adr b o)), some cs => (match toDs cs with
   | some ds => ds.length = n ∧ ∃ N xs, m b = some (.cs N xs) ∧ o + ds.length ≤ xs.length ∧ ∀ m', m' = mup m b (.cs N (xs.take o ++ (ds ++ xs.drop (o + ds.length)))) → K (.c .u) (.am m' :: r)
   | none => False)
  | _, _, _ => False
 | .box x => match h, cells (evN L x) with
  | .am m :: r, some cs => (match toKs cs with
   | some ds => ∀ b N m', m b = none → ds.length ≤ N → m' = mup m b (.cs N ds) → K (.c (.d (.adr b 0))) (.am m' :: r)
   | none => False)
  | _, _ => False
 | .mks sz bytes z l c => match h, evN L l, evN L c with
  | .am m :: r, .c (.d (.int _ n)), .c (.d (.int _ k)) => (Unit → 0 ≤ n ∧ n = k ∧ k ≤ 9223372036854775807 ∧ k.toNat * bytes ≤ 140737488355328) ∧
    ∀ b q N es m', m b = none → q = n.toNat → q * sz ≤ N → es = List.replicate n.toNat z → m' = mup m b (.cs N es.flatten) → K (.c (.d (.sl b 0 sz q q))) (.am m' :: r)
  | _, _, _ => False
 | .app sz bytes _ x y => match h, view h (evN L y) with
  | .am m :: r, some (sz', ys) => (match Nat.beq sz' sz with
   | true => (match evN L x with
    | .c (.d (.list true sz2 _)) => (match Nat.beq sz2 sz with
     | true => (Unit → ys ≠ [] ∧ ys.length * bytes ≤ 140737488355328) ∧
       ∀ b N cap k m', m b = none → k = ys.length → k ≤ cap → cap * sz ≤ N → m' = mup m b (.cs N ys.flatten) → K (.c (.d (.sl b 0 sz k cap))) (.am m' :: r)
     | false => False)
    | .c (.d (.sl b o sz2 n cap)) => (match Nat.beq sz2 sz with
     | true => ∃ N es, m b = some (.cs N es.flatten) ∧ o = 0 ∧ es.length = n ∧ (∀ e ∈ es, e.length = sz) ∧ n ≤ cap ∧ cap * sz ≤ N ∧ (Unit → ys ≠ [] ∧ (n + ys.length) * bytes ≤ 140737488355328) ∧
       ∀ b' N' cap' k m', mdel m b b' = none → k = n + ys.length → k ≤ cap' → cap' * sz ≤ N' → m' = mup (mdel m b) b' (.cs N' (es ++ ys).flatten) → K (.c (.d (.sl b' 0 sz k cap'))) (.am m' :: r)
     | false => False)
    | _ => False)
   | false => False)
  | _, _ => False
 | .rng x => match evN L x with
  | .c (.mp l) => (match h[l]? with
   | some (.mp v es) => K (.c (.it h.length)) (h ++ [.mi l v ((.g [], .g []) :: es)])
   | _ => False)
  | _ => False
 | .nx x => match evN L x with
  | .c (.it i) => (match h[i]? with
   | some (.mi l v (_ :: rest)) => (match h[l]? with
    | some (.mp v' _) => (Unit → v' = v) ∧ (rest = [] → K (.tup [.c (.d (.bool false))]) h) ∧
      ∀ j k y rest', rest[j]? = some (k, y) → rest' = rest.eraseIdx j → K (.tup [.c (.d (.bool true)), avDV k, avDV y]) (h.set i (.mi l v ((k, y) :: rest')))
    | _ => False)
   | _ => False)
  | _ => False
 | .ent x => match evN L x with
  | .c (.it i) => (match h[i]? with
   | some (.mi l v ((k, y) :: _)) => (match h[l]? with
    | some (.mp v' _) => (Unit → v' = v) ∧ realK k = true ∧ K (.tup [avDV k, avDV y]) h
    | _ => False)
   | _ => False)
  | _ => False
 | _ => False
theorem vAr_step {op : AOp} {L : Lv} {h : Hp} {K : AV → Hp → Prop} (ha : arR L op = true) (hv : vAr op L h K) : ∃ v h', astep (lkL L) h op = some (v, h') ∧ cls op ≠ 1 ∧ K v h' := by
 cases op with
 | nilc x =>
  simp only [vAr, evN_eq] at hv
  split at hv
  ·rename_i b o hx
   exact ⟨_, _, by simp only [astep, hx], by simp [cls], hv⟩
  ·exact hv.elim
 | fa x n =>
  simp only [vAr, evN_eq] at hv
  split at hv
  ·rename_i b o hx
   exact ⟨_, _, by simp only [astep, hx], by simp [cls], hv⟩
  ·exact hv.elim
 | iaa n sz x i =>
  cases i with
  | k v => cases ha
  | t i =>
   simp only [vAr, evN_eq, lkN_eq] at hv
   split at hv
   ·rename_i kk k b o h1 h2
    have h01 := hv.1 ()
    rw [nI_eq] at h01
    have hk := vAll_sound hv.2 h01.1 h01.2
    have h1' : ev (lkL L) (.t i) = .c (.d (.int kk k)) := h1
    exact ⟨_, _, by simp only [astep, h1', h2, h01, and_self, if_true], by simp [cls], hk⟩
   ·exact hv.elim
 | ias sz x i =>
  simp only [vAr, evN_eq] at hv
  split at hv
  ·rename_i kk k b o sz' n cap h1 h2
   split at hv
   ·rename_i hsz
    have hsz := Nat.eq_of_beq_eq_true hsz
    subst hsz
    have h01 := hv.1 ()
    rw [nI_eq] at h01
    exact ⟨_, _, by simp only [astep, h1, h2, ixv, h01, and_self, if_true, Option.map_some], by simp [cls], hv.2 _ rfl⟩
   ·exact hv.elim
  ·exact hv.elim
 | len x =>
  simp only [vAr, evN_eq] at hv
  split at hv
  ·rename_i b o sz n cap hx
   exact ⟨_, _, by simp only [astep, hx, lenv], by simp [cls], hv _ (nI_eq _).symm⟩
  ·exact hv.elim
 | isnil kd ne x =>
  simp only [vAr, evN_eq] at hv
  split at hv
  ·rename_i b o hx
   refine ⟨_, _, by simp only [astep, hx, isNil, Option.map_some]; rfl, by simp [cls], ?_⟩
   cases ne <;> exact hv
  ·rename_i b o sz n cap hx
   refine ⟨_, _, by simp only [astep, hx, isNil, Option.map_some]; rfl, by simp [cls], ?_⟩
   cases ne <;> exact hv
  ·exact hv.elim
 | ld x n =>
  simp only [vAr, evN_eq] at hv
  split at hv
  ·rename_i m r b o hx
   split at hv
   ·obtain ⟨N, xs, c, h1, h2, h3⟩ := hv
    refine ⟨_, _, ?_, by simp [cls], h3⟩
    have hd : xs.drop o = c :: xs.drop (o + 1) := by
     obtain ⟨hlt, rfl⟩ := List.getElem?_eq_some_iff.1 h2
     exact List.drop_eq_getElem_cons hlt
    simp only [astep, hx, rd, amRd, h1, hd, List.map_cons]
   ·obtain ⟨N, xs, ds, h1, h2, h3, h4⟩ := hv
    refine ⟨_, _, ?_, by simp [cls], h4⟩
    subst h2
    rw [List.length_take, List.length_drop] at h3
    simp only [astep, hx, rd, amRd, h1, List.length_map, List.length_drop]
    rw [if_pos (by omega), List.map_take]
  ·exact hv.elim
 | st x v n =>
  simp only [vAr, evN_eq] at hv
  split at hv
  ·rename_i m r b o cs hx hcs
   split at hv
   ·rename_i ds hds
    obtain ⟨h1, N, xs, h2, h3, h4⟩ := hv
    refine ⟨_, _, ?_, by simp [cls], h4 _ rfl⟩
    have hl : cs.length = n := by rw [← h1]; exact (toDs_get hds).1.symm
    simp only [astep, hcs, hx, wr, wrd, h2, hds, hl, toDs_ok hds, and_self, if_true, if_pos h3, Option.map_some]
   ·exact hv.elim
  ·exact hv.elim
 | _ => cases ha
end Go.Ab

