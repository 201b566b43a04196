/-
  The engine, part p: calls, and one operation of a region as a step.
-/
import Derived.Test.YtjaodmgeonfkiaaEo
import Derived.Orders
namespace Go.Ab

/-- values that lead into no block of the abstract heap -/
def pureC : CV → Bool
  | .u => true
  | .d _ => true
  | .cl _ _ _ => true
  | .rp _ => true
  | .fn _ [] => true
  | _ => false

def pureA : AV → Bool
  | .c x => pureC x
  | .agg l => l.all pureC
  | .tup l => pureAs l
where
  pureAs : List AV → Bool
    | [] => true
    | x :: r => pureA x && pureAs r

/-- plain numbers, bools, strings -/
def scalC : CV → Bool
  | .d (.bool _) => true
  | .d (.int _ _) => true
  | .d (.str _) => true
  | _ => false

def scalA : AV → Bool
  | .c x => scalC x
  | .agg l => l.all scalC
  | .tup l => scalAs l
where
  scalAs : List AV → Bool
    | [] => true
    | x :: r => scalA x && scalAs r

theorem scalC_move {G G' : Nat → Prop} {w w' : World} {ι ι' : Io} {h h' : Hp} {v : Value} {x : CV} (hs : scalC x = true) (hx : CR G w ι h v x) : CR G' w' ι' h' v x := by
  cases hx with
  | d _ x hd =>
    cases hd with
    | bool b => exact .d _ _ (.bool b)
    | int k n => exact .d _ _ (.int k n)
    | str s => exact .d _ _ (.str s)
    | _ => simp [scalC] at hs
  | _ => simp [scalC] at hs

theorem pureAs_get {l : List AV} (hs : pureA.pureAs l = true) : ∀ (i : Nat) (x : AV), l[i]? = some x → pureA x = true := by
  induction l with
  | nil => intro i x hx; simp at hx
  | cons y r ih =>
    intro i x hx
    simp only [pureA.pureAs, Bool.and_eq_true] at hs
    cases i with
    | zero => simp at hx; subst hx; exact hs.1
    | succ i => simp at hx; exact ih hs.2 i x hx

theorem scalAs_get {l : List AV} (hs : scalA.scalAs l = true) : ∀ (i : Nat) (x : AV), l[i]? = some x → scalA x = true := by
  induction l with
  | nil => intro i x hx; simp at hx
  | cons y r ih =>
    intro i x hx
    simp only [scalA.scalAs, Bool.and_eq_true] at hs
    cases i with
    | zero => simp at hx; subst hx; exact hs.1
    | succ i => simp at hx; exact ih hs.2 i x hx

theorem scalA_move {G G' : Nat → Prop} {w w' : World} {ι ι' : Io} {h h' : Hp} {v : Value} {x : AV} (hs : scalA x = true) (hx : VR G w ι h v x) : VR G' w' ι' h' v x := by
  induction hx with
  | c v x hc => exact .c _ _ (scalC_move hs hc)
  | agg cs l hn hc =>
    simp only [scalA, List.all_eq_true] at hs
    exact .agg _ _ hn fun i v x hv hx => scalC_move (hs x (List.mem_of_getElem? hx)) (hc i v x hv hx)
  | tup cs l hn _ ih =>
    simp only [scalA] at hs
    exact .tup _ _ hn fun i v x hv hx => ih i v x hv hx (scalAs_get hs i x hx)

theorem pureC_move {G G' : Nat → Prop} {w w' : World} {ι ι' : Io} {h h' : Hp} {v : Value} {x : CV} (hs : pureC x = true) (hg : ∀ b, G b → G' b ∧ w'.heap[b]? = w.heap[b]?)
    (hx : CR G w ι h v x) : CR G' w' ι' h' v x := by
  cases hx with
  | u => exact .u _
  | d _ x hd => exact .d _ _ (hd.mono hg)
  | cl _ nl sz l hd hc => exact .cl _ _ _ _ (hd.mono hg) hc
  | rp b o cs hG hc =>
    refine .rp b o cs (hg b hG).1 fun j x hx => ?_
    obtain ⟨v, hv, hd⟩ := hc j x hx
    exact ⟨v, by rw [cell_same (hg b hG).2]; exact hv, hd.mono hg⟩
  | ptr => simp [pureC] at hs
  | arr => simp [pureC] at hs
  | mp => simp [pureC] at hs
  | it => simp [pureC] at hs
  | fn f vs caps hn hc =>
    cases caps with
    | nil => exact .fn f vs [] hn (by simp)
    | cons => simp [pureC] at hs

theorem pureA_move {G G' : Nat → Prop} {w w' : World} {ι ι' : Io} {h h' : Hp} {v : Value} {x : AV} (hs : pureA x = true) (hg : ∀ b, G b → G' b ∧ w'.heap[b]? = w.heap[b]?)
    (hx : VR G w ι h v x) : VR G' w' ι' h' v x := by
  induction hx with
  | c v x hc => exact .c _ _ (pureC_move hs hg hc)
  | agg cs l hn hc =>
    simp only [pureA, List.all_eq_true] at hs
    exact .agg _ _ hn fun i v x hv hx => pureC_move (hs x (List.mem_of_getElem? hx)) hg (hc i v x hv hx)
  | tup cs l hn _ ih =>
    simp only [pureA] at hs
    exact .tup _ _ hn fun i v x hv hx => ih i v x hv hx (pureAs_get hs i x hx)

/-- arguments that are related, one by one -/
def VRs (G : Nat → Prop) (w : World) (ι : Io) (h : Hp) (vs : List Value) (avs : List AV) : Prop :=
  vs.length = avs.length ∧ ∀ (i : Nat) (v : Value) (x : AV), vs[i]? = some v → avs[i]? = some x → VR G w ι h v x

/-- A CONTRACT: called on arguments that are related, over the abstract heap 'h', function 'f' returns what 'R' allows. -/
structure FnS (P : Program) (f : Nat) (args : List AV) (h : Hp) (R : AV → Hp → Prop) : Prop where
  out : ∀ (G : Nat → Prop) (ι : Io) (w : World) (vs : List Value), HR G ι h w → VRs G w ι h vs args →
    Calls P f vs.toArray w fun e w' => ∃ v r G' ι' h', e = .returned v ∧ R r h' ∧ HR G' ι' h' w' ∧ VR G' w' ι' h' v r ∧ Ext G ι h w G' ι' h' w'

theorem FnS.mono {P : Program} {f : Nat} {args : List AV} {h : Hp} {R R' : AV → Hp → Prop} (hf : FnS P f args h R) (hr : ∀ r h', R r h' → R' r h') : FnS P f args h R' :=
  ⟨fun G ι w vs a b => (hf.out G ι w vs a b).mono fun _ _ ⟨v, r, G', ι', h', h1, h2, h3⟩ => ⟨v, r, G', ι', h', h1, hr r h' h2, h3⟩⟩

theorem HR_nil {w : World} {G1 : Nat → Prop} (hg : ∀ b, G1 b → b < w.heap.size) : HR G1 [] [] w where
  len := rfl
  inj := by intro l l' b o o' k k' h1; simp at h1
  g b hb := ⟨hg b hb, fun ⟨l, o, blk, h1, _⟩ => by simp at h1⟩
  blk := by intro l k hk; simp at hk

/-- what a call that owned nothing leaves to its caller -/
theorem Ext.of_pure {G G1 G2 : Nat → Prop} {ι ι2 : Io} {h h2 : Hp} {w w2 : World} (r : HR G ι h w) (e : Ext G1 [] [] w G2 ι2 h2 w2) (r2 : HR G2 ι2 h2 w2) :
    Ext G ι h w (fun b => G b ∨ (G2 b ∧ w.heap.size ≤ b)) ι h w2 ∧ HR (fun b => G b ∨ (G2 b ∧ w.heap.size ≤ b)) ι h w2 := by
  have hsame : ∀ b, b < w.heap.size → w2.heap[b]? = w.heap[b]? := fun b hb => e.frame b hb fun ⟨l, o, blk, h1, _⟩ => by simp at h1
  have hext : Ext G ι h w (fun b => G b ∨ (G2 b ∧ w.heap.size ≤ b)) ι h w2 :=
    { size := e.size
      quiet := e.quiet
      frame := fun b hb _ => hsame b hb
      gmono := fun _ h => .inl h
      gnew := fun b hb => by rcases hb with h | h; exact .inl h; exact .inr (.inl h.2)
      onew := fun b hb => .inl hb
      keep := fun l k hk => ⟨k, hk, by
        cases k with
        | dead => trivial
        | bx cs => exact ⟨rfl, rfl⟩
        | mi => exact ⟨rfl, rfl, rfl⟩
        | mp v es => exact ⟨rfl, .inr ⟨rfl, rfl, fun b o' hb => hsame b (owned_lt r ⟨l, o', _, hb, hk, rfl⟩)⟩⟩
        | da rl v sz es =>
          refine .inr ⟨rfl, rfl, rfl, rfl, rfl, fun hrl b o' hb => bsize_same (hsame b ?_)⟩
          exact owned_lt r ⟨l, o', _, hb, hk, hrl⟩⟩ }
  refine ⟨hext, { len := r.len, inj := r.inj, g := ?_, blk := ?_ }⟩
  · intro b hb
    rcases hb with hb | hb
    · have := r.g b hb; exact ⟨Nat.lt_of_lt_of_le this.1 e.size, this.2⟩
    · exact ⟨(r2.g b hb.1).1, fun ho => by have := owned_lt r ho; omega⟩
  · intro l k hk
    cases hl : k.live with
    | false => exact BR.of_dead (r.blk l k hk) hl
    | true => exact BR.ext hext r hk rfl fun b o hb => hsame b (owned_lt r ⟨l, o, k, hb, hk, hl⟩)

/-- a contract on arguments of which less is known -/
theorem FnS.fg {P : Program} {f : Nat} {args : List AV} {h : Hp} {R : AV → Hp → Prop} (hf : FnS P f (args.map fgA) h R) : FnS P f args h R :=
  ⟨fun G ι w vs hr hv => hf.out G ι w vs hr ⟨by rw [hv.1, List.length_map], fun i v x h1 h2 => by
    simp only [List.getElem?_map, Option.map_eq_some_iff] at h2
    obtain ⟨y, hy, rfl⟩ := h2
    exact (hv.2 i v y h1 hy).fg⟩⟩

/-- a contract over the empty heap serves over every heap, where nothing of it is handed over -/
theorem FnS.lift {P : Program} {f : Nat} {args : List AV} {h : Hp} {R : AV → Prop} (hf : FnS P f args [] fun r _ => pureA r = true ∧ R r) (ha : args.all pureA = true) :
    FnS P f args h fun r h' => h' = h ∧ R r := by
  refine ⟨fun G ι w vs hr hv => ?_⟩
  have hv' : VRs G w [] [] vs args := ⟨hv.1, fun i v x h1 h2 => by
    rw [List.all_eq_true] at ha
    exact pureA_move (ha x (List.mem_of_getElem? h2)) (fun b hb => ⟨hb, rfl⟩) (hv.2 i v x h1 h2)⟩
  refine (hf.out G [] w vs (HR_nil fun b hb => (hr.g b hb).1) hv').mono fun e w' ⟨v, r, G', ι', h', h1, h2, h3, h4, h5⟩ => ?_
  obtain ⟨k1, k2⟩ := Ext.of_pure hr h5 h3
  refine ⟨v, r, _, ι, h, h1, ⟨rfl, h2.2⟩, k2, pureA_move h2.1 (fun b hb => ⟨?_, rfl⟩) h4, k1⟩
  rcases h5.gnew b hb with h | h | h
  · exact .inl h
  · exact .inr ⟨hb, h⟩
  · obtain ⟨l, o, blk, h1, _⟩ := h; simp at h1

/-- an argument as its callee sees it: an owned array is a list -/
def viewC (h : Hp) : CV → Option CV
  | .arr l v i n => match view h (.c (.arr l v i n)) with
    | some (sz, es) => some (.d (.list false sz es))
    | none => none
  | x => if pureC x then some (fgC x) else none

def viewCs (h : Hp) : List CV → Option (List CV)
  | [] => some []
  | x :: r => match viewC h x, viewCs h r with
    | some y, some l => some (y :: l)
    | _, _ => none

def viewA (h : Hp) : AV → Option AV
  | .c x => (viewC h x).map .c
  | .agg l => (viewCs h l).map .agg
  | .tup _ => none

def viewAs (h : Hp) : List AV → Option (List AV)
  | [] => some []
  | x :: r => match viewA h x, viewAs h r with
    | some y, some l => some (y :: l)
    | _, _ => none

/-- every block of memory -/
def below (w : World) : Nat → Prop := fun b => b < w.heap.size

theorem viewC_sound {G : Nat → Prop} {ι : Io} {h : Hp} {w : World} {v : Value} {x y : CV} (hr : HR G ι h w) (hx : CR G w ι h v x) (hv : viewC h x = some y) : CR (below w) w [] [] v y := by
  have hg : ∀ b, G b → below w b ∧ w.heap[b]? = w.heap[b]? := fun b hb => ⟨(hr.g b hb).1, rfl⟩
  unfold viewC at hv
  split at hv
  · rename_i l ver i n
    split at hv
    · rename_i sz es hes
      cases hv
      have hf : ∃ h', frz h (.arr l ver i n) = some (.list false sz es, h') := by
        simp only [view] at hes
        split at hes
        · rename_i v' sz' es' hb
          split at hes
          · rename_i hvv
            cases hes
            exact ⟨h.set l .dead, by simp [frz, hb, hvv]⟩
          · cases hes
        · cases hes
      obtain ⟨h', hf⟩ := hf
      obtain ⟨G', k1, k2, _⟩ := frz_sound hr hx hf
      exact .d _ _ (k2.mono fun b hb => ⟨(k1.g b hb).1, rfl⟩)
    · cases hv
  · split at hv
    · rename_i hp
      cases hv
      exact (pureC_move hp hg hx).fg
    · cases hv

theorem viewCs_get {h : Hp} : ∀ {xs ys : List CV}, viewCs h xs = some ys → xs.length = ys.length ∧ ∀ (i : Nat) (x y : CV), xs[i]? = some x → ys[i]? = some y → viewC h x = some y := by
  intro xs
  induction xs with
  | nil => intro ys hv; simp only [viewCs, Option.some.injEq] at hv; subst hv; simp
  | cons x xs ih =>
    intro ys hv
    simp only [viewCs] at hv
    split at hv
    · rename_i y l hy hl
      cases hv
      obtain ⟨h1, h2⟩ := ih hl
      refine ⟨by simp [h1], fun i a b ha hb => ?_⟩
      cases i with
      | zero => simp at ha hb; subst ha hb; exact hy
      | succ i => simp at ha hb; exact h2 i a b ha hb
    · cases hv

theorem viewA_sound {G : Nat → Prop} {ι : Io} {h : Hp} {w : World} {v : Value} {x y : AV} (hr : HR G ι h w) (hx : VR G w ι h v x) (hv : viewA h x = some y) : VR (below w) w [] [] v y := by
  cases hx with
  | c _ x hc =>
    simp only [viewA, Option.map_eq_some_iff] at hv
    obtain ⟨z, hz, rfl⟩ := hv
    exact .c _ _ (viewC_sound hr hc hz)
  | agg cs l hn hc =>
    simp only [viewA, Option.map_eq_some_iff] at hv
    obtain ⟨z, hz, rfl⟩ := hv
    obtain ⟨h1, h2⟩ := viewCs_get hz
    refine .agg _ _ (by omega) fun i v y hv hy => ?_
    have hi := get_lt hy
    have hx : l[i]? = some l[i] := List.getElem?_eq_getElem (by omega)
    exact viewC_sound hr (hc i v _ hv hx) (h2 i _ y hx hy)
  | tup => simp [viewA] at hv

theorem viewAs_get {h : Hp} : ∀ {xs ys : List AV}, viewAs h xs = some ys → xs.length = ys.length ∧ ∀ (i : Nat) (x y : AV), xs[i]? = some x → ys[i]? = some y → viewA h x = some y := by
  intro xs
  induction xs with
  | nil => intro ys hv; simp only [viewAs, Option.some.injEq] at hv; subst hv; simp
  | cons x xs ih =>
    intro ys hv
    simp only [viewAs] at hv
    split at hv
    · rename_i y l hy hl
      cases hv
      obtain ⟨h1, h2⟩ := ih hl
      refine ⟨by simp [h1], fun i a b ha hb => ?_⟩
      cases i with
      | zero => simp at ha hb; subst ha hb; exact hy
      | succ i => simp at ha hb; exact h2 i a b ha hb
    · cases hv

/-- arguments that are owned arrays are only looked at, where the result is plain -/
theorem FnS.look {P : Program} {f : Nat} {args vargs : List AV} {h : Hp} {R : AV → Prop} (hf : FnS P f vargs [] fun r _ => scalA r = true ∧ R r) (ha : viewAs h args = some vargs) :
    FnS P f args h fun r h' => h' = h ∧ R r := by
  refine ⟨fun G ι w vs hr hv => ?_⟩
  obtain ⟨a1, a2⟩ := viewAs_get ha
  have hv' : VRs (below w) w [] [] vs vargs := ⟨by rw [hv.1, a1], fun i v y h1 h2 => by
    have hi := get_lt h2
    have hx : args[i]? = some (args[i]'(by omega)) := List.getElem?_eq_getElem (by omega)
    exact viewA_sound hr (hv.2 i v _ h1 hx) (a2 i _ y hx h2)⟩
  refine (hf.out (below w) [] w vs (HR_nil fun b hb => hb) hv').mono fun e w' ⟨v, r, G', ι', h', h1, h2, h3, h4, h5⟩ => ?_
  obtain ⟨k1, k2⟩ := Ext.of_pure hr h5 h3
  exact ⟨v, r, _, ι, h, h1, ⟨rfl, h2.2⟩, k2, scalA_move h2.1 h4, k1⟩

/-- A CONTRACT WHOSE RESULT IS NEW MEMORY: its arguments may be arrays that are still owned. -/
structure FrS (P : Program) (f : Nat) (vargs : List AV) (r : AV) : Prop where
  pure : pureA r = true
  out : ∀ (w : World) (vs : List Value), VRs (below w) w [] [] vs vargs →
    Calls P f vs.toArray w fun e w' => ∃ v, e = .returned v ∧ Quiet w w' ∧ w.heap.size ≤ w'.heap.size ∧ (∀ b, b < w.heap.size → w'.heap[b]? = w.heap[b]?) ∧
      VR (fun b => w.heap.size ≤ b ∧ b < w'.heap.size) w' [] [] v r

theorem FnS.fresh {P : Program} {f : Nat} {args vargs : List AV} {h : Hp} {r : AV} (hf : FrS P f vargs r) (ha : viewAs h args = some vargs) : FnS P f args h fun r' h' => h' = h ∧ r' = r := by
  refine ⟨fun G ι w vs hr hv => ?_⟩
  obtain ⟨a1, a2⟩ := viewAs_get ha
  have hv' : VRs (below w) w [] [] vs vargs := ⟨by rw [hv.1, a1], fun i v y h1 h2 => by
    have hi := get_lt h2
    have hx : args[i]? = some (args[i]'(by omega)) := List.getElem?_eq_getElem (by omega)
    exact viewA_sound hr (hv.2 i v _ h1 hx) (a2 i _ y hx h2)⟩
  refine (hf.out w vs hv').mono fun e w' ⟨v, he, hq, hs, hsame, hvr⟩ => ?_
  have hnew : HR (fun b => w.heap.size ≤ b ∧ b < w'.heap.size) [] [] w' := HR_nil fun b hb => hb.2
  have hext : Ext (fun _ => False) [] [] w (fun b => w.heap.size ≤ b ∧ b < w'.heap.size) [] [] w' :=
    { size := hs
      quiet := hq
      frame := fun b hb _ => hsame b hb
      gmono := fun _ hb => hb.elim
      gnew := fun b hb => .inr (.inl hb.1)
      onew := fun b ⟨l, o, blk, h1, _⟩ => by simp at h1
      keep := fun l k hk => by simp at hk }
  obtain ⟨k1, k2⟩ := Ext.of_pure hr hext hnew
  refine ⟨v, r, _, ι, h, he, ⟨rfl, rfl⟩, k2, pureA_move hf.pure (fun b hb => ⟨.inr ⟨hb, hb.1⟩, rfl⟩) hvr, k1⟩

end Go.Ab
