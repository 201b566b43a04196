/-
  The engine, part s: a region whose order is drawn comes to what its text's order comes to.
-/
import Derived.Test.YtjaodmgeonfkiaaEr
namespace Go.Ab

theorem viewC_agree {h h' : Hp} {x : CV} (ha : agreeC h h' x) : viewC h' x = viewC h x := by
  cases x with
  | arr l v i n =>
    have : view h' (.c (.arr l v i n)) = view h (.c (.arr l v i n)) := view_agree ha
    simp only [viewC, this]
  | _ => rfl

theorem viewCs_agree {h h' : Hp} {l : List CV} (ha : ∀ x ∈ l, agreeC h h' x) : viewCs h' l = viewCs h l := by
  induction l with
  | nil => rfl
  | cons x r ih => simp only [viewCs, viewC_agree (ha x (by simp)), ih fun y hy => ha y (by simp [hy])]

theorem viewA_agree {h h' : Hp} {x : AV} (ha : agreeA h h' x) : viewA h' x = viewA h x := by
  cases x with
  | c x => simp only [viewA, viewC_agree ha]
  | agg l => simp only [viewA, viewCs_agree ha]
  | tup => rfl

theorem viewAs_agree {h h' : Hp} {l : List AV} (ha : ∀ x ∈ l, agreeA h h' x) : viewAs h' l = viewAs h l := by
  induction l with
  | nil => rfl
  | cons x r ih => simp only [viewAs, viewA_agree (ha x (by simp)), ih fun y hy => ha y (by simp [hy])]

theorem PureR.agree {P : Program} {h h' : Hp} {f : Nat} {args : List AV} {r : AV} (hp : PureR P h f args r) (ha : ∀ x ∈ args, agreeA h h' x) : PureR P h' f args r := by
  rcases hp with hp | ⟨vargs, h1, h2⟩
  · exact .inl hp
  · exact .inr ⟨vargs, by rw [viewAs_agree ha]; exact h1, h2⟩

/-- what an operation yields, and the heap behind it -/
def Eff (P : Program) (o : AO) (e : Env) (h : Hp) (v : AV) (h' : Hp) : Prop :=
  (gv e o.g = some false ∧ v = .tup [] ∧ h' = h) ∨
  (gv e o.g = some true ∧ (astep e h o.op = some (v, h') ∨ (∃ f xs, o.op = .call f xs ∧ PureR P h f (evs e xs) v ∧ h' = h)))

theorem StepR.eff {P : Program} {o : AO} {e e' : Env} {h h' : Hp} (hs : StepR P o e h e' h') : ∃ v, Eff P o e h v h' ∧ e' = putE e o.dst v := by
  unfold StepR at hs
  split at hs
  · rename_i hg; exact ⟨_, .inl ⟨hg, rfl, hs.2⟩, hs.1⟩
  · rename_i hg
    rcases hs with ⟨v, h1, h2⟩ | ⟨f, xs, r, h1, h2, h3, h4⟩
    · exact ⟨v, .inr ⟨hg, .inl h1⟩, h2⟩
    · exact ⟨r, .inr ⟨hg, .inr ⟨f, xs, h1, h2, h4⟩⟩, h3⟩
  · exact hs.elim

theorem Eff.step {P : Program} {o : AO} {e : Env} {h h' : Hp} {v : AV} (hs : Eff P o e h v h') : StepR P o e h (putE e o.dst v) h' := by
  unfold StepR
  rcases hs with ⟨hg, rfl, rfl⟩ | ⟨hg, hs⟩
  · rw [hg]; exact ⟨rfl, rfl⟩
  · rw [hg]
    rcases hs with hs | ⟨f, xs, h1, h2, rfl⟩
    · exact .inl ⟨v, hs, rfl⟩
    · exact .inr ⟨f, xs, v, h1, h2, rfl, rfl⟩

/-- the slots that an operation looks at -/
def slotsOf (o : AO) : List Nat :=
  (match o.g with
  | some (s, _) => [s]
  | none => []) ++ (xsOf o.op).flatMap slotX

theorem ev_of_slots {e e' : Env} {x : X} (h : ∀ n ∈ slotX x, e n = e' n) : ev e x = ev e' x := by
  cases x with
  | t n => exact h n (by simp [slotX])
  | k v => rfl

theorem Eff.congr {P : Program} {o : AO} {e e' : Env} {h h' : Hp} {v : AV} (hs : Eff P o e h v h') (he : ∀ n ∈ slotsOf o, e n = e' n) : Eff P o e' h v h' := by
  have hx : ∀ x ∈ xsOf o.op, ev e x = ev e' x := fun x hx => ev_of_slots fun n hn => he n (by
    simp only [slotsOf, List.mem_append, List.mem_flatMap]; exact .inr ⟨x, hx, hn⟩)
  have hg : gv e o.g = gv e' o.g := by
    cases hgo : o.g with
    | none => rfl
    | some p =>
      obtain ⟨s, q⟩ := p
      have : e s = e' s := he s (by simp [slotsOf, hgo])
      simp only [gv, lk, this]
  unfold Eff at hs ⊢
  rw [← hg, ← astep_congr hx]
  rcases hs with h0 | ⟨h0, h1 | ⟨f, xs, h2, h3, h4⟩⟩
  · exact .inl h0
  · exact .inr ⟨h0, .inl h1⟩
  · refine .inr ⟨h0, .inr ⟨f, xs, h2, ?_, h4⟩⟩
    rw [h2] at hx
    rw [← evs_congr (xs := xs) hx]; exact h3

theorem Eff.same {P : Program} {o : AO} {e : Env} {h h' : Hp} {v : AV} (hs : Eff P o e h v h') (hc : cls o.op = 0) : h' = h := by
  rcases hs with ⟨_, _, rfl⟩ | ⟨_, h1 | ⟨f, xs, h2, h3, rfl⟩⟩
  · rfl
  · exact (astep_agree (h' := h) hc (fun x _ => by
      cases ev e x with
      | c y => cases y <;> simp [agreeA, agreeC]
      | agg l => intro y _; cases y <;> simp [agreeC]
      | tup => trivial) h1).1
  · rfl

theorem Eff.agree {P : Program} {o : AO} {e : Env} {h h1 h' : Hp} {v : AV} (hs : Eff P o e h v h1) (hc : cls o.op = 0) (hx : ∀ x ∈ xsOf o.op, agreeA h h' (ev e x)) : Eff P o e h' v h' := by
  rcases hs with ⟨h0, h1, _⟩ | ⟨h0, h1 | ⟨f, xs, h2, h3, _⟩⟩
  · exact .inl ⟨h0, h1, rfl⟩
  · exact .inr ⟨h0, .inl (astep_agree hc hx h1).2⟩
  · refine .inr ⟨h0, .inr ⟨f, xs, h2, h3.agree ?_, rfl⟩⟩
    intro y hy
    obtain ⟨i, hi⟩ := List.mem_iff_getElem?.1 hy
    obtain ⟨x, hx1, rfl⟩ := (evs_get (e := e) (xs := xs)).2 i y hi
    exact hx x (by rw [h2]; exact List.mem_of_getElem? hx1)

theorem Eff.hfree {P : Program} {o : AO} {e : Env} {h h1 : Hp} {v : AV} (hs : Eff P o e h v h1) (hc : Go.Ab.hfree o.op = true) : h1 = h ∧ ∀ h', Eff P o e h' v h' := by
  rcases hs with ⟨h0, h1, h2⟩ | ⟨h0, h1 | ⟨f, xs, h2, h3, _⟩⟩
  · exact ⟨h2, fun h' => .inl ⟨h0, h1, rfl⟩⟩
  · exact ⟨(astep_hfree (h' := h) hc h1).1, fun h' => .inr ⟨h0, .inl (astep_hfree hc h1).2⟩⟩
  · rw [h2] at hc; simp [Go.Ab.hfree] at hc

/-- a step in a region whose order is drawn -/
def StepD (P : Program) (o : AO) (e : Env) (h : Hp) (e' : Env) (h' : Hp) : Prop :=
  StepR P o e h e' h' ∧ (cls o.op = 1 → h' = h ∨ ∃ k, h' = h ++ [k])

/-- may two neighbours change places? -/
def compat (a b : AO) : Bool :=
  (match a.dst with
  | some d => !(slotsOf b).contains d && b.dst != some d
  | none => true) &&
  (match b.dst with
  | some d => !(slotsOf a).contains d
  | none => true) &&
  (((cls a.op == 0 && decide (cls b.op ≤ 1)) || (decide (cls a.op ≤ 1) && cls b.op == 0)) || (hfree a.op || hfree b.op))

def flatC : CV → Bool
  | .ptr _ _ _ _ => false
  | .arr _ _ _ _ => false
  | .mp _ => false
  | .it _ => false
  | _ => true

def flatA : AV → Bool
  | .c x => flatC x
  | .agg l => l.all flatC
  | .tup _ => true

def constOk (o : AO) : Bool := (xsOf o.op).all fun
  | .k v => flatA v
  | .t _ => true

theorem flatC_agree {h h' : Hp} {x : CV} (hx : flatC x = true) : agreeC h h' x := by
  cases x <;> simp_all [flatC, agreeC]

theorem flatA_agree {h h' : Hp} {x : AV} (hx : flatA x = true) : agreeA h h' x := by
  cases x with
  | c x => exact flatC_agree hx
  | agg l =>
    simp only [flatA, List.all_eq_true] at hx
    exact fun y hy => flatC_agree (hx y hy)
  | tup => trivial

theorem agreeC_symm {h h' : Hp} {x : CV} (hx : agreeC h h' x) : agreeC h' h x := by
  cases x <;> simp_all [agreeC]
theorem agreeA_symm {h h' : Hp} {x : AV} (hx : agreeA h h' x) : agreeA h' h x := by
  cases x with
  | c x => exact agreeC_symm hx
  | agg l => exact fun y hy => agreeC_symm (hx y hy)
  | tup => trivial

/-- nothing leads beyond the heap -/
def WF (e : Env) (h : Hp) : Prop := ∀ n k, agreeA h (h ++ [k]) (e n)

theorem WF.ops {e : Env} {h : Hp} (hw : WF e h) {o : AO} (hc : constOk o = true) (k : Blk) : ∀ x ∈ xsOf o.op, agreeA h (h ++ [k]) (ev e x) := by
  intro x hx
  cases x with
  | t n => exact hw n k
  | k v =>
    simp only [constOk, List.all_eq_true] at hc
    exact flatA_agree (hc _ hx)

theorem CR.wf {G : Nat → Prop} {w : World} {ι : Io} {h : Hp} {v : Value} {x : CV} (hx : CR G w ι h v x) (k : Blk) : agreeC h (h ++ [k]) x := by
  cases hx with
  | ptr _ l ver i j blk hb => simp only [agreeC, hb]; exact get_snoc_old hb
  | arr _ l ver i j blk hb => simp only [agreeC, hb]; exact get_snoc_old hb
  | mp _ l blk hb => simp only [agreeC, hb]; exact get_snoc_old hb
  | it _ l blk hb => simp only [agreeC, hb]; exact get_snoc_old hb
  | _ => trivial

theorem VR.wf {G : Nat → Prop} {w : World} {ι : Io} {h : Hp} {v : Value} {x : AV} (hx : VR G w ι h v x) (k : Blk) : agreeA h (h ++ [k]) x := by
  cases hx with
  | c _ x hc => exact hc.wf k
  | agg cs l hn hc =>
    intro y hy
    obtain ⟨i, hi⟩ := List.mem_iff_getElem?.1 hy
    have hl := get_lt hi
    exact (hc i _ y (Array.getElem?_eq_getElem (by omega)) hi).wf k
  | tup => trivial

theorem putE_other {e : Env} {d : Option Nat} {v : AV} {n : Nat} (h : d ≠ some n) : putE e d v n = e n := by
  cases d with
  | none => rfl
  | some d => simp only [putE, upd]; rw [if_neg]; intro hd; exact h (by rw [hd])

theorem putE_comm {e : Env} {a b : Option Nat} {u v : AV} (h : ∀ d, a = some d → b ≠ some d) : putE (putE e a u) b v = putE (putE e b v) a u := by
  cases a with
  | none => rfl
  | some x =>
    cases b with
    | none => rfl
    | some y =>
      have hxy : x ≠ y := fun e => h x rfl (by rw [e])
      funext n
      simp only [putE, upd]
      by_cases h1 : y = n
      · subst h1; simp [hxy]
      · by_cases h2 : x = n
        · subst h2; simp [h1]
        · simp [h1, h2]

theorem compat_spec {a b : AO} (h : compat a b = true) : (∀ d, a.dst = some d → d ∉ slotsOf b ∧ b.dst ≠ some d) ∧ (∀ d, b.dst = some d → d ∉ slotsOf a) ∧
    (((cls a.op = 0 ∧ cls b.op ≤ 1) ∨ (cls a.op ≤ 1 ∧ cls b.op = 0)) ∨ (hfree a.op = true ∨ hfree b.op = true)) := by
  simp only [compat, Bool.and_eq_true, Bool.or_eq_true, beq_iff_eq, decide_eq_true_eq] at h
  obtain ⟨⟨h1, h2⟩, h3⟩ := h
  refine ⟨fun d hd => ?_, fun d hd => ?_, h3⟩
  · rw [hd] at h1
    simp only [Bool.and_eq_true, Bool.not_eq_true', bne_iff_ne] at h1
    exact ⟨by simpa using h1.1, h1.2⟩
  · rw [hd] at h2
    simpa using h2

theorem commute {P : Program} {a b : AO} {e e1 e2 : Env} {h h1 h2 : Hp} (ha : StepD P a e h e1 h1) (hb : StepD P b e1 h1 e2 h2) (hc : compat a b = true) (hw : WF e h) (ka : constOk a = true) (kb : constOk b = true) :
    ∃ e1' h1', StepD P b e h e1' h1' ∧ StepD P a e1' h1' e2 h2 := by
  obtain ⟨c1, c2, c3⟩ := compat_spec hc
  obtain ⟨va, ea, rfl⟩ := ha.1.eff
  obtain ⟨vb, eb, rfl⟩ := hb.1.eff
  have eb' : Eff P b e h1 vb h2 := eb.congr fun n hn => putE_other fun hd => (c1 n hd).1 hn
  have hcomm : putE (putE e a.dst va) b.dst vb = putE (putE e b.dst vb) a.dst va := putE_comm fun d hd => (c1 d hd).2
  rw [hcomm]
  have fin : ∀ {h'}, Eff P a e h' va h2 → Eff P b e h vb h' → (cls b.op = 1 → h' = h ∨ ∃ k, h' = h ++ [k]) → (cls a.op = 1 → h2 = h' ∨ ∃ k, h2 = h' ++ [k]) →
      ∃ e1' h1', StepD P b e h e1' h1' ∧ StepD P a e1' h1' (putE (putE e b.dst vb) a.dst va) h2 := by
    intro h' k1 k2 k3 k4
    refine ⟨_, h', ⟨k2.step, k3⟩, ⟨?_, k4⟩⟩
    refine Eff.step (k1.congr fun n hn => (putE_other fun hd => c2 n hd hn).symm)
  rcases c3 with (⟨ca, cb⟩ | ⟨ca, cb⟩) | (ca | cb)
  · have := ea.same ca
    subst this
    have hb2 : h2 = h1 ∨ ∃ k, h2 = h1 ++ [k] := by
      rcases Nat.eq_zero_or_pos (cls b.op) with hb0 | hb0
      · exact .inl (eb'.same hb0)
      · exact hb.2 (by omega)
    rcases hb2 with rfl | ⟨k, rfl⟩
    · exact fin ea eb' (fun _ => .inl rfl) (fun h => by omega)
    · exact fin (ea.agree ca (hw.ops ka k)) eb' (fun _ => .inr ⟨k, rfl⟩) (fun h => by omega)
  · have := eb'.same cb
    subst this
    have ha2 : h2 = h ∨ ∃ k, h2 = h ++ [k] := by
      rcases Nat.eq_zero_or_pos (cls a.op) with hb0 | hb0
      · exact .inl (ea.same hb0)
      · exact ha.2 (by omega)
    rcases ha2 with rfl | ⟨k, rfl⟩
    · exact fin ea eb' (fun h => by omega) (fun _ => .inl rfl)
    · refine fin ea (eb'.agree cb fun x hx => agreeA_symm (hw.ops kb k x hx)) (fun h => by omega) (fun _ => .inr ⟨k, rfl⟩)
  · obtain ⟨k1, k2⟩ := ea.hfree ca
    subst k1
    exact fin (k2 h2) eb' hb.2 (fun h => by have := hfree_cls ca; omega)
  · obtain ⟨k1, k2⟩ := eb'.hfree cb
    subst k1
    exact fin ea (k2 h) (fun h => by have := hfree_cls cb; omega) ha.2

/-- the operations with these numbers, one behind the other -/
def RunI (P : Program) (aops : List AO) : List Nat → Env → Hp → Env → Hp → Prop
  | [], e, h, e', h' => e' = e ∧ h' = h
  | i :: r, e, h, e', h' => ∃ o e1 h1, aops[i]? = some o ∧ StepD P o e h e1 h1 ∧ RunI P aops r e1 h1 e' h'

section
variable {P : Program} {N : Nat} {G0 : Nat → Prop} {ι0 : Io} {h0 : Hp} {w0 : World}

theorem Fits.wf {e : Env} {h : Hp} {a : Act} {w : World} (hf : Fits N G0 ι0 h0 w0 e h a w) : WF e h := by
  obtain ⟨G, ι, st⟩ := hf
  exact fun n k => (st.rel.env n).wf k

/-- a step leads to a state that some memory fits -/
theorem step_fits {ops : Array Oper} {o : Oper} {ao : AO} {e e' : Env} {h h' : Hp} {a : Act} {w : World} (hc : compO P ops N o = some ao)
    (hs : StepR P ao e h e' h') (hf : Fits N G0 ι0 h0 w0 e h a w) : ∃ a' w', Fits N G0 ι0 h0 w0 e' h' a' w' := by
  obtain ⟨G, ι, st⟩ := hf
  obtain ⟨hd, hdN, hop, hg⟩ := compO_dst hc
  obtain ⟨v, he, rfl⟩ := hs.eff
  rcases he with ⟨_, rfl, rfl⟩ | ⟨_, hs | ⟨f, xs, h1, h2, rfl⟩⟩
  · rw [hd]; exact ⟨_, w, G, ι, st.step (v := undef) hdN st.rel.hr (.tup #[] [] rfl (by simp)) (Ext.refl _ _ _ _)⟩
  · rw [hop] at hs
    obtain ⟨v', w', G', ι', _, k1, k2, k3⟩ := op_sound st.rel hs
    rw [hd]; exact ⟨_, w', G', ι', st.step hdN k1 k2 k3⟩
  · rw [hop] at h1
    obtain ⟨c, hoo⟩ := compOp_call h1
    obtain ⟨_, q2⟩ := call_exec (a := a) (w := w) hoo h1
    obtain ⟨t1, t2⟩ := args_sound st.rel q2
    obtain ⟨en, w', fr, ⟨v', r, G', ι', h', k0, k1, k2, k3, k4⟩, _⟩ := (h2.fn).out G ι w _ st.rel.hr ⟨t1, t2⟩ []
    obtain ⟨rfl, rfl⟩ := k1
    rw [hd]; exact ⟨_, w', G', ι', st.step hdN k2 k3 k4⟩

/-- the operations of a region, compiled -/
def compOs (P : Program) (ops : Array Oper) (N : Nat) : List Oper → Option (List AO)
  | [] => some []
  | o :: r => match compO P ops N o, compOs P ops N r with
    | some a, some l => some (a :: l)
    | _, _ => none

theorem compOs_get {ops : Array Oper} : ∀ {os : List Oper} {aos : List AO}, compOs P ops N os = some aos → os.length = aos.length ∧
    ∀ (i : Nat) (o : Oper) (ao : AO), os[i]? = some o → aos[i]? = some ao → compO P ops N o = some ao := by
  intro os
  induction os with
  | nil => intro aos h; simp only [compOs, Option.some.injEq] at h; subst h; simp
  | cons o os ih =>
    intro aos h
    simp only [compOs] at h
    split at h
    · rename_i a l ha hl
      cases h
      obtain ⟨h1, h2⟩ := ih hl
      refine ⟨by simp [h1], fun i x y hx hy => ?_⟩
      cases i with
      | zero => simp at hx hy; subst hx hy; exact ha
      | succ i => simp at hx hy; exact h2 i x y hx hy
    · cases h

def gOk (N : Nat) (o : AO) : Bool :=
  match o.g with
  | some (s, _) => decide (s < N)
  | none => true

theorem gOk_spec {o : AO} (h : gOk N o = true) : ∀ s q, o.g = some (s, q) → s < N := by
  intro s q hg
  simp only [gOk, hg, decide_eq_true_eq] at h
  exact h

/-- an operation that may come first is taken first -/
theorem front {ops : Array Oper} {aops : List AO} (hcomp : compOs P ops N ops.toList = some aops) (hk : aops.all constOk = true) : ∀ (l1 : List Nat) (i : Nat) (l2 : List Nat) (e : Env) (h : Hp) (e' : Env) (h' : Hp) (a : Act) (w : World),
    Fits N G0 ι0 h0 w0 e h a w → (∀ j ∈ l1, ∀ x y, aops[j]? = some x → aops[i]? = some y → compat x y = true) → RunI P aops (l1 ++ i :: l2) e h e' h' →
    ∃ o e1 h1, aops[i]? = some o ∧ StepD P o e h e1 h1 ∧ RunI P aops (l1 ++ l2) e1 h1 e' h' := by
  intro l1
  induction l1 with
  | nil => intro i l2 e h e' h' a w _ _ hr; exact hr
  | cons j l1 ih =>
    intro i l2 e h e' h' a w hf hc hr
    obtain ⟨x, e1, h1, hx, hstep, hrest⟩ := hr
    obtain ⟨c1, c2⟩ := compOs_get hcomp
    have hjl := get_lt hx
    have hox : ops.toList[j]? = some (ops.toList[j]'(by omega)) := List.getElem?_eq_getElem (by omega)
    have hcx := c2 j _ x hox hx
    obtain ⟨a1, w1, hf1⟩ := step_fits hcx hstep.1 hf
    obtain ⟨o, e2, h2, ho, hs2, hr2⟩ := ih i l2 e1 h1 e' h' a1 w1 hf1 (fun k hk' => hc k (by simp [hk'])) hrest
    rw [List.all_eq_true] at hk
    obtain ⟨e1', h1', k1, k2⟩ := commute hstep hs2 (hc j (by simp) x o hx ho) hf.wf (hk x (List.mem_of_getElem? hx)) (hk o (List.mem_of_getElem? ho))
    exact ⟨o, e1', h1', ho, k1, x, e2, h2, hx, k2, hr2⟩

/-- what comes before an operation, by the edges that bind always -/
def direct (o : Oper) : List Nat := (o.after.toList.filter fun ed => Region.binds .any ed).map (·.on)

end
end Go.Ab
