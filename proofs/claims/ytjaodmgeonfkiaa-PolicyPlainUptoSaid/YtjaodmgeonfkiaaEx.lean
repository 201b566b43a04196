/-
  The engine, part x: the condition of a text, and that it suffices; functions.
-/
import Derived.Test.YtjaodmgeonfkiaaEw
namespace Go.Ab

inductive Ex where
  | normal
  | exit (id : Nat)
  | ret
  deriving DecidableEq

abbrev Post := Ex → Lv → Hp → Prop

/-- a loop: what holds at the head of every round, and a number that every round lowers -/
inductive LoopI (m : Nat) (body : Lv → Hp → Post → Prop) (L : Lv) (h : Hp) (Q : Post) : Prop
  | mk (I : Nat → Lv → Hp → Prop) (n : Nat) (L1 : Lv) (h1 : Hp) (wk : Wk m L h L1 h1) (start : I n L1 h1)
      (round : ∀ n L h, I n L h → body L h fun x L' h' => match x with
        | .normal => ∃ n' L1 h1, n' < n ∧ Wk m L' h' L1 h1 ∧ I n' L1 h1
        | .exit i => ∃ L1 h1, Wk m L' h' L1 h1 ∧ Q (.exit i) L1 h1
        | .ret => Q .ret L' h')

def vcC (P : Program) (Λ : Len) (m : Nat) : AC → Lv → Hp → Post → Prop
  | .skip, L, h, Q => Q .normal L h
  | .reg d ops, L, h, Q => vcOps P Λ m d ops L h fun L h => Q .normal L h
  | .seq a b, L, h, Q => vcC P Λ m a L h fun x L h => match x with
    | .normal => vcC P Λ m b L h Q
    | x => Q x L h
  | .cond c a b, L, h, Q => match evN L c with
    | .c (.d (.bool t)) => (match t with
      | true => vcC P Λ m a L h Q
      | false => vcC P Λ m b L h Q)
    | _ => False
  | .block id c, L, h, Q => vcC P Λ m c L h fun x L h => match x with
    | .exit i => (match Nat.beq i id with
      | true => Q .normal L h
      | false => Q (.exit i) L h)
    | x => Q x L h
  | .loop c, L, h, Q => LoopI m (vcC P Λ m c) L h Q
  | .exit id, L, h, Q => Q (.exit id) L h
  | .ret, L, h, Q => Q .ret L h

/-- does an operation come behind all earlier ones and ahead of all later ones, whatever is drawn? -/
def barB (ms : List Nat) (n b : Nat) : Bool := ((List.range b).all fun j => (ms.getD b 0).testBit j) && (List.range n).all fun i => decide (i ≤ b) || (ms.getD i 0).testBit b

def isCall : AOp → Bool
  | .call .. => true
  | .callv .. => true
  | _ => false

/-- a region whose order is drawn, parted at such calls -/
def splitD (ms : List Nat) (n : Nat) : Nat → List AO → List AO × List (AO × List AO)
  | _, [] => ([], [])
  | k, o :: r => match splitD ms n (k + 1) r with
    | (c, bs) => match isCall o.op && barB ms n k with
      | true => ([], (o, c) :: bs)
      | false => (o :: c, bs)

def acSegs : List AO → List (AO × List AO) → AC
  | c, [] => .reg true c
  | c, (o, c') :: r => .seq (.reg true c) (.seq (.reg false [o]) (acSegs c' r))

def acDraw (ops : Array Oper) (aos : List AO) : AC := match splitD (masks ops.toList []) ops.size 0 aos with
  | (c, bs) => acSegs c bs

def compC (P : Program) (N : Nat) : Code → Option AC
  | .skip => some .skip
  | .label _ => some .skip
  | .region _ ops draw => match compOs P ops N ops.toList with
    | some aos => if aos.all (gOk N) = true ∧ (draw = true → aos.all constOk = true ∧ drawOk ops.toList aos = true) then some (match draw with | true => acDraw ops aos | false => .reg false aos) else none
    | none => none
  | .seq a b => match compC P N a, compC P N b with
    | some x, some y => some (.seq x y)
    | _, _ => none
  | .cond c a b => match cx P 0 c, compC P N a, compC P N b with
    | some c, some x, some y => some (.cond c x y)
    | _, _, _ => none
  | .block id c => match compC P N c with
    | some x => some (.block id x)
    | none => none
  | .loop c => match compC P N c with
    | some x => some (.loop x)
    | none => none
  | .scope c => compC P N c
  | .exit id => some (.exit id)
  | .ret => some .ret
  | _ => none

section
variable {P : Program} {N : Nat} {G0 : Nat → Prop} {ι0 : Io} {h0 : Hp} {w0 : World}

/-- the model's ways out, as the conditions have them -/
def exq (Q : Post) : Exit → Lv → Hp → Prop
  | .normal => Q .normal
  | .exit i => Q (.exit i)
  | .ret => Q .ret
  | _ => fun _ _ => False

/-- what is said of the model's state at a way out -/
def out (N : Nat) (G0 : Nat → Prop) (ι0 : Io) (h0 : Hp) (w0 : World) (Q : Post) : Exit → Act → World → Prop :=
  fun x a w => ∃ L h, exq Q x L h ∧ Fits N G0 ι0 h0 w0 (lkL L) h a w

theorem least {p : Nat → Prop} : ∀ n, p n → ∃ m, p m ∧ ∀ k, p k → m ≤ k := by
  intro n
  induction n using Nat.strongRecOn with
  | _ n ih =>
    intro hn
    by_cases h : ∃ k, k < n ∧ p k
    · obtain ⟨k, hk, hpk⟩ := h; exact ih k hk hpk
    · exact ⟨n, hn, fun k hk => by
        rcases Nat.lt_or_ge k n with h' | h'
        · exact absurd ⟨k, h', hk⟩ h
        · exact h'⟩

theorem wp_loop_ghost {c : Code} {Q : Exit → Act → World → Prop} (I : Nat → Act → World → Prop)
    (round : ∀ n a w, I n a w → c.wp P (Exit.then (fun a' w' => ∃ n', n' < n ∧ I n' a' w') Q) a w) : ∀ n a w, I n a w → (Code.loop c).wp P Q a w := by
  intro n a w h
  classical
  have hex : ∀ a w, (∃ n, I n a w) → ∃ m, I m a w ∧ ∀ k, I k a w → m ≤ k := fun a w ⟨n, hn⟩ => least n hn
  let μ : Act → World → Nat := fun a w => if h : ∃ n, I n a w then Classical.choose (hex a w h) else 0
  have hμ : ∀ a w, (∃ n, I n a w) → I (μ a w) a w := fun a w h => by simp only [μ, dif_pos h]; exact (Classical.choose_spec (hex a w h)).1
  have hμ' : ∀ a w n, I n a w → μ a w ≤ n := fun a w n h => by
    have h0 : ∃ n, I n a w := ⟨n, h⟩
    simp only [μ, dif_pos h0]; exact (Classical.choose_spec (hex a w h0)).2 n h
  refine wp_loop (fun a w => ∃ n, I n a w) μ ⟨n, h⟩ fun a w hI => ?_
  refine wp_mono (round _ a w (hμ a w hI)) fun x a' w' hx => ?_
  cases x with
  | normal => obtain ⟨n', h1, h2⟩ := hx; exact ⟨⟨n', h2⟩, Nat.lt_of_le_of_lt (hμ' a' w' n' h2) h1⟩
  | _ => exact hx

def BarsOk (ms : List Nat) (n : Nat) : Nat → List (AO × List AO) → Prop
  | _, [] => True
  | k, (_, c) :: r => barB ms n k = true ∧ BarsOk ms n (k + 1 + c.length) r

def flatB : List (AO × List AO) → List AO
  | [] => []
  | (o, c) :: r => o :: (c ++ flatB r)

def idxP : Nat → List (AO × List AO) → List (Nat × List Nat)
  | _, [] => []
  | k, (_, c) :: r => (k, List.range' (k + 1) c.length) :: idxP (k + 1 + c.length) r

theorem splitD_spec {ms : List Nat} {n : Nat} : ∀ (aos : List AO) (k : Nat) (c : List AO) (bs : List (AO × List AO)), splitD ms n k aos = (c, bs) → aos = c ++ flatB bs ∧ BarsOk ms n (k + c.length) bs := by
  intro aos
  induction aos with
  | nil => intro k c bs h; cases h; exact ⟨rfl, trivial⟩
  | cons o r ih =>
    intro k c bs h
    simp only [splitD] at h
    generalize hs : splitD ms n (k + 1) r = p at h
    obtain ⟨c', bs'⟩ := p
    obtain ⟨h1, h2⟩ := ih (k + 1) c' bs' hs
    simp only at h
    split at h
    · rename_i hb
      simp only [Bool.and_eq_true] at hb
      cases h
      exact ⟨by simp [flatB, h1], hb.2, h2⟩
    · cases h
      refine ⟨by simp [h1], ?_⟩
      simp only [List.length_cons]
      rw [show k + (c'.length + 1) = k + 1 + c'.length by omega]; exact h2

theorem flat_idx : ∀ (bs : List (AO × List AO)) (k : Nat), flatP (idxP k bs) = List.range' k (flatB bs).length := by
  intro bs
  induction bs with
  | nil => intro k; rfl
  | cons q r ih =>
    intro k
    obtain ⟨o, c⟩ := q
    simp only [idxP, flatP, flatB, List.length_cons, List.length_append, List.range'_succ, ih]
    congr 1
    rw [List.range'_append_1]

/-- one operation outside any drawn order -/
theorem op_wp {ops : Array Oper} {m b : Nat} (hm : h0.length ≤ m) {Q : Exit → Act → World → Prop} {o : Oper} {ao : AO} {L : Lv} {h : Hp} {K : Lv → Hp → Prop} {K' : Act → World → Prop} {a : Act} {w : World} (hok : ops[b]? = some o) (hao : compO P ops N o = some ao) (hg : gOk N ao = true)
    (hv : runO P m false [ao] L h K) (hf : Fits N G0 ι0 h0 w0 (lkL L) h a w) (hK : ∀ L' h' a' w', K L' h' → Fits N G0 ι0 h0 w0 (lkL L') h' a' w' → K' a' w') : wpOp P ops Q b K' a w := by
  unfold wpOp
  simp only [hok]
  obtain ⟨G, ι, st⟩ := hf
  obtain ⟨hd, hdN, hop, hgs⟩ := compO_dst hao
  have hgN := gOk_spec hg
  rcases hv with ⟨hgv, hv⟩ | ⟨hgv, hv⟩
  · rw [gv_wanted st.rel hgs hgv hgN]
    simp only [if_true]
    left
    refine did_sound hm hao hv ⟨G, ι, st⟩ fun L' v h' a' w' hk' hf' => ?_
    exact hK _ _ _ _ hk' (by rw [putL_eq]; exact hf')
  · rw [gv_wanted st.rel hgs hgv hgN]
    simp only [Bool.false_eq_true, if_false]
    refine hK _ _ _ _ hv ⟨G, ι, ?_⟩
    rw [putL_eq, hd]
    exact st.step hdN st.rel.hr (.tup #[] [] rfl (by simp)) (Ext.refl _ _ _ _)

theorem RunI.of_take {aops : List AO} {n : Nat} : ∀ {l : List Nat} {e : Env} {h : Hp} {e' : Env} {h' : Hp}, RunI P (aops.take n) l e h e' h' → RunI P aops l e h e' h' := by
  intro l
  induction l with
  | nil => intro e h e' h' hr; exact hr
  | cons i r ih =>
    intro e h e' h' ⟨o, e1, h1, ho, hs, hr⟩
    refine ⟨o, e1, h1, ?_, hs, ih hr⟩
    rw [List.getElem?_take] at ho
    split at ho
    · exact ho
    · cases ho

theorem segs_plan {S : AC → Lv → Hp → Post → Prop} {m : Nat} {ops : Array Oper} {aops : List AO} {Q : Post} (hm : h0.length ≤ m)
    (hseq : ∀ a b L h Q, S (.seq a b) L h Q → S a L h fun x L h => match x with | .normal => S b L h Q | x => Q x L h) (hreg : ∀ d ops L h Q, S (.reg d ops) L h Q → runO P m d ops L h fun L h => Q .normal L h)
    (hcomp : compOs P ops N ops.toList = some aops) (hg : aops.all (gOk N) = true) : ∀ (bs : List (AO × List AO)) (c : List AO) (k : Nat) (L : Lv) (h : Hp), (∀ i, (c ++ flatB bs)[i]? = aops[k + i]?) → BarsOk (masks ops.toList []) ops.size (k + c.length) bs → S (acSegs c bs) L h Q →
    ∃ e' h', RunI P aops (List.range' k c.length) (lkL L) h e' h' ∧ PlanK P N G0 ι0 h0 w0 ops aops (out N G0 ι0 h0 w0 Q) (idxP (k + c.length) bs) e' h' := by
  intro bs
  induction bs with
  | nil =>
    intro c k L h hi _ hs
    obtain ⟨L', h', h1, h2⟩ := runO_run (aops := aops) c k L h _ (by simpa [flatB] using hi) (hreg _ _ _ _ _ hs)
    exact ⟨_, _, h1, fun a w hf => ⟨L', h', h2, hf⟩⟩
  | cons q r ih =>
    intro c k L h hi hb hs
    obtain ⟨o, c'⟩ := q
    obtain ⟨hb1, hb2⟩ := hb
    have hci : ∀ i, c[i]? = aops[k + i]? ∨ c.length ≤ i := fun i => by
      rcases Nat.lt_or_ge i c.length with hlt | hge
      · left; rw [← hi i, List.getElem?_append_left hlt]
      · exact .inr hge
    have hrun : runO P m true c L h fun L h => S (.seq (.reg false [o]) (acSegs c' r)) L h Q := hreg _ _ _ _ _ (hseq _ _ _ _ _ hs)
    obtain ⟨L1, h1, q1, q2⟩ : ∃ L' h', RunI P aops (List.range' k c.length) (lkL L) h (lkL L') h' ∧ S (.seq (.reg false [o]) (acSegs c' r)) L' h' Q := by
      have hc2 : ∀ i, c[i]? = ((aops.take (k + c.length)))[k + i]? := fun i => by
        rcases hci i with h | h
        · rcases Nat.lt_or_ge i c.length with hlt | hge
          · rw [List.getElem?_take_of_lt (by omega), h]
          · rw [List.getElem?_eq_none hge, List.getElem?_eq_none (by simp; omega)]
        · rw [List.getElem?_eq_none h, List.getElem?_eq_none (by simp; omega)]
      obtain ⟨L', h', q1, q2⟩ := runO_run (aops := aops.take (k + c.length)) c k L h _ hc2 hrun
      exact ⟨L', h', RunI.of_take q1, q2⟩
    refine ⟨_, _, q1, ?_⟩
    have hob : aops[k + c.length]? = some o := by rw [← hi c.length]; simp [flatB]
    have hlen := (compOs_get hcomp).1
    obtain ⟨oo, hoo⟩ : ∃ oo, ops.toList[k + c.length]? = some oo := ⟨_, List.getElem?_eq_getElem (by have := get_lt hob; omega)⟩
    have hao := (compOs_get hcomp).2 _ oo o hoo hob
    have hgo : gOk N o = true := by rw [List.all_eq_true] at hg; exact hg o (List.mem_of_getElem? hob)
    have hone : runO P m false [o] L1 h1 fun L h => S (acSegs c' r) L h Q := hreg _ _ _ _ _ (hseq _ _ _ _ _ q2)
    refine ⟨?_, fun a w K hf hK => ?_⟩
    · simp only [barB, Bool.and_eq_true, List.all_eq_true, List.mem_range, Bool.or_eq_true, decide_eq_true_eq] at hb1
      exact ⟨hb1.1, fun i h1 h2 => (hb1.2 i h2).resolve_left (by omega)⟩
    · refine op_wp hm (by simpa using hoo) hao hgo hone hf fun L' h' a' w' hk hf' => ?_
      obtain ⟨e3, h3, p1, p2⟩ := ih c' (k + c.length + 1) L' h' (fun i => by
        have := hi (c.length + 1 + i)
        rw [List.getElem?_append_right (by omega)] at this
        rw [show c.length + 1 + i - c.length = i + 1 by omega] at this
        simp only [flatB, List.getElem?_cons_succ] at this
        rw [this]; congr 1; omega) hb2 hk
      exact hK _ _ _ _ _ _ hf' p1 p2

theorem region_segs {S : AC → Lv → Hp → Post → Prop} {m id : Nat} {ops : Array Oper} {aops : List AO} {Q : Post} {L : Lv} {h : Hp} {a : Act} {w : World} (hmo : P.follows .mixedOrders = true) (hm : h0.length ≤ m)
    (hseq : ∀ a b L h Q, S (.seq a b) L h Q → S a L h fun x L h => match x with | .normal => S b L h Q | x => Q x L h) (hreg : ∀ d ops L h Q, S (.reg d ops) L h Q → runO P m d ops L h fun L h => Q .normal L h)
    (hcomp : compOs P ops N ops.toList = some aops) (hg : aops.all (gOk N) = true) (hk : aops.all constOk = true) (hd : drawOk ops.toList aops = true) (hf : Fits N G0 ι0 h0 w0 (lkL L) h a w) (hs : S (acDraw ops aops) L h Q) : (Code.region id ops true).wp P (out N G0 ι0 h0 w0 Q) a w := by
  unfold acDraw at hs
  generalize hsp : splitD (masks ops.toList []) ops.size 0 aops = p at hs
  obtain ⟨c, bs⟩ := p
  obtain ⟨h1, h2⟩ := splitD_spec aops 0 c bs hsp
  obtain ⟨e', h', q1, q2⟩ := segs_plan hm hseq hreg hcomp hg bs c 0 L h (fun i => by rw [← h1]; simp) h2 hs
  refine region_draw hmo hcomp hg hk hd hf ?_ q1 q2
  rw [flat_idx, Nat.zero_add]
  have hlen := (compOs_get hcomp).1
  have : ops.size = c.length + (flatB bs).length := by
    rw [← List.length_append, ← h1, ← hlen]; simp
  rw [this, List.range_eq_range']
  have := List.range'_append_1 (s := 0) (m := c.length) (n := (flatB bs).length)
  simpa using this

theorem vcC_sound {Λ : Len} (hΛ : ∀ l, Λ l = (l.length : Int)) {m : Nat} (hm : P.follows .mixedOrders = true) (hm0 : h0.length ≤ m) : ∀ (c : Code) (ac : AC) (L : Lv) (h : Hp) (Q : Post) (a : Act) (w : World), compC P N c = some ac → vcC P Λ m ac L h Q →
    Fits N G0 ι0 h0 w0 (lkL L) h a w → c.wp P (out N G0 ι0 h0 w0 Q) a w := by
  intro c
  induction c with
  | skip =>
    intro ac L h Q a w hc hv hf
    simp only [compC, Option.some.injEq] at hc; subst hc
    exact wp_skip ⟨L, h, hv, hf⟩
  | label l =>
    intro ac L h Q a w hc hv hf
    simp only [compC, Option.some.injEq] at hc; subst hc
    exact wp_label ⟨L, h, hv, hf⟩
  | region id ops draw =>
    intro ac L h Q a w hc hv hf
    simp only [compC] at hc
    split at hc
    · rename_i aos haos
      split at hc
      · rename_i hcond
        cases hc
        cases draw with
        | false =>
          refine wp_region ?_
          rw [List.range_eq_range']
          have := region_seq (ops := ops) (Q := out N G0 ι0 h0 w0 Q) hm0 ops.toList aos 0 L h _ a w (by simp) haos hcond.1 (vcOps_runO hΛ hv) hf (fun L' h' a' w' hk hf' => ⟨L', h', hk, hf'⟩)
          simpa using this
        | true =>
          exact region_segs (S := fun ac L h Q => vcC P Λ m ac L h Q) hm hm0 (fun _ _ _ _ _ h => h) (fun _ _ _ _ _ h => vcOps_runO hΛ h) haos hcond.1 (hcond.2 rfl).1 (hcond.2 rfl).2 hf hv
      · cases hc
    · cases hc
  | seq x y ihx ihy =>
    intro ac L h Q a w hc hv hf
    simp only [compC] at hc
    split at hc
    · rename_i cx' cy' hx hy
      cases hc
      refine wp_seq (wp_mono (ihx cx' L h _ a w hx hv hf) fun e a' w' ⟨L', h', hq, hf'⟩ => ?_)
      cases e with
      | normal => exact ihy cy' L' h' Q a' w' hy hq hf'
      | exit i => exact ⟨L', h', hq, hf'⟩
      | ret => exact ⟨L', h', hq, hf'⟩
      | goto => exact hq.elim
      | panic => exact hq.elim
      | outgrown => exact hq.elim
    · cases hc
  | cond c x y ihx ihy =>
    intro ac L h Q a w hc hv hf
    simp only [compC] at hc
    split at hc
    · rename_i c' cx' cy' hcc hx hy
      cases hc
      simp only [vcC] at hv
      split at hv
      · rename_i t ht
        obtain ⟨G, ι, st⟩ := hf
        have hr := cx_sound hcc st.rel
        rw [evN_eq] at ht
        rw [ht] at hr
        have he := inv_bool hr
        cases t with
        | true => exact wp_cond_true he (ihx cx' L h Q a w hx hv ⟨G, ι, st⟩)
        | false => exact wp_cond_false he (ihy cy' L h Q a w hy hv ⟨G, ι, st⟩)
      · exact hv.elim
    · cases hc
  | block id c ih =>
    intro ac L h Q a w hc hv hf
    simp only [compC] at hc
    split at hc
    · rename_i c' hcc
      cases hc
      refine wp_block (wp_mono (ih c' L h _ a w hcc hv hf) fun e a' w' ⟨L', h', hq, hf'⟩ => ?_)
      cases e with
      | normal => exact ⟨L', h', hq, hf'⟩
      | ret => exact ⟨L', h', hq, hf'⟩
      | exit i =>
        simp only [exq] at hq
        simp only [Exit.inBlock]
        split at hq
        · rename_i hb
          have : i = id := Nat.eq_of_beq_eq_true hb
          rw [if_pos this]; exact ⟨L', h', hq, hf'⟩
        · rename_i hb
          have : ¬ i = id := fun e => by subst e; simp at hb
          rw [if_neg this]; exact ⟨L', h', hq, hf'⟩
      | goto => exact hq.elim
      | panic => exact hq.elim
      | outgrown => exact hq.elim
    · cases hc
  | loop c ih =>
    intro ac L h Q a w hc hv hf
    simp only [compC] at hc
    split at hc
    · rename_i c' hcc
      cases hc
      simp only [vcC] at hv
      obtain ⟨I, n, L1, h1, hwk, hstart, hround⟩ := hv
      refine wp_loop_ghost (fun n a w => ∃ L h, I n L h ∧ Fits N G0 ι0 h0 w0 (lkL L) h a w) ?_ n a w ⟨L1, h1, hstart, hwk.fits hm0 hf⟩
      intro n a w ⟨L2, h2, hI, hf2⟩
      refine wp_mono (ih c' L2 h2 _ a w hcc (hround n L2 h2 hI) hf2) fun e a' w' ⟨L', h', hq, hf'⟩ => ?_
      cases e with
      | normal =>
        obtain ⟨n', L3, h3, h4, h5, h6⟩ := hq
        exact ⟨n', h4, L3, h3, h6, h5.fits hm0 hf'⟩
      | exit i =>
        obtain ⟨L3, h3, h4, h5⟩ := hq
        exact ⟨L3, h3, h5, h4.fits hm0 hf'⟩
      | ret => exact ⟨L', h', hq, hf'⟩
      | goto => exact hq.elim
      | panic => exact hq.elim
      | outgrown => exact hq.elim
    · cases hc
  | scope c ih =>
    intro ac L h Q a w hc hv hf
    simp only [compC] at hc
    refine wp_scope_straight (wp_mono (ih ac L h Q a w hc hv hf) fun e a' w' hq => ?_)
    obtain ⟨L', h', hq, hf'⟩ := hq
    cases e with
    | normal => exact ⟨L', h', hq, hf'⟩
    | exit i => exact ⟨L', h', hq, hf'⟩
    | ret => exact ⟨L', h', hq, hf'⟩
    | goto => exact hq.elim
    | panic => exact hq.elim
    | outgrown => exact hq.elim
  | exit id =>
    intro ac L h Q a w hc hv hf
    simp only [compC, Option.some.injEq] at hc; subst hc
    exact wp_exit ⟨L, h, hv, hf⟩
  | ret =>
    intro ac L h Q a w hc hv hf
    simp only [compC, Option.some.injEq] at hc; subst hc
    exact wp_ret ⟨L, h, hv, hf⟩
  | goto l => intro ac L h Q a w hc; simp [compC] at hc
  | rangeFunc => intro ac L h Q a w hc; simp [compC] at hc
  | refuse => intro ac L h Q a w hc; simp [compC] at hc

end
end Go.Ab
