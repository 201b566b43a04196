/-
  The engine, part t: regions.
-/
import Derived.Test.YtjaodmgeonfkiaaEs
namespace Go.Ab

section
variable {P : Program} {N : Nat} {G0 : Nat → Prop} {ι0 : Io} {h0 : Hp} {w0 : World}

def mask (o : Oper) (acc : List Nat) : Nat := (direct o).foldl (fun s j => s ||| 2 ^ j ||| acc.getD j 0) 0

def masks : List Oper → List Nat → List Nat
  | [], acc => acc
  | o :: r, acc => masks r (acc ++ [mask o acc])

theorem foldl_mask {acc : List Nat} {j : Nat} : ∀ (l : List Nat) (s : Nat), (l.foldl (fun s j => s ||| 2 ^ j ||| acc.getD j 0) s).testBit j = true →
    s.testBit j = true ∨ j ∈ l ∨ ∃ m ∈ l, (acc.getD m 0).testBit j = true := by
  intro l
  induction l with
  | nil => intro s h; exact .inl h
  | cons x l ih =>
    intro s h
    simp only [List.foldl_cons] at h
    rcases ih _ h with h | h | ⟨m, hm, h⟩
    · simp only [Nat.testBit_or, Bool.or_eq_true, Nat.testBit_two_pow, decide_eq_true_eq] at h
      rcases h with (h | h) | h
      · exact .inl h
      · exact .inr (.inl (by simp [h]))
      · exact .inr (.inr ⟨x, by simp, h⟩)
    · exact .inr (.inl (by simp [h]))
    · exact .inr (.inr ⟨m, by simp [hm], h⟩)

theorem masks_old : ∀ (os : List Oper) (acc : List Nat) (i : Nat), i < acc.length → (masks os acc)[i]? = acc[i]? := by
  intro os
  induction os with
  | nil => intro acc i _; rfl
  | cons o os ih =>
    intro acc i hi
    simp only [masks]
    rw [ih _ i (by simp; omega), List.getElem?_append_left hi]

theorem masks_bit : ∀ (os : List Oper) (acc : List Nat) (k : Nat) (o : Oper) (j : Nat), os[k]? = some o → ((masks os acc).getD (acc.length + k) 0).testBit j = true →
    j ∈ direct o ∨ ∃ m ∈ direct o, m < acc.length + k ∧ ((masks os acc).getD m 0).testBit j = true := by
  intro os
  induction os with
  | nil => intro acc k o j hk; simp at hk
  | cons o' os ih =>
    intro acc k o j hk hb
    cases k with
    | zero =>
      simp at hk; subst hk
      have hm : (masks (o' :: os) acc)[acc.length]? = some (mask o' acc) := by
        simp only [masks]
        rw [masks_old _ _ _ (by simp)]; simp
      simp only [List.getD_eq_getElem?_getD, Nat.add_zero, hm, Option.getD_some, mask] at hb
      rcases foldl_mask _ _ hb with h | h | ⟨m, h1, h2⟩
      · simp at h
      · exact .inl h
      · right
        have hml : m < acc.length := by
          rcases Nat.lt_or_ge m acc.length with h | h
          · exact h
          · rw [List.getD_eq_getElem?_getD, List.getElem?_eq_none h] at h2; simp at h2
        refine ⟨m, h1, by omega, ?_⟩
        rw [List.getD_eq_getElem?_getD, masks_old _ _ _ hml, ← List.getD_eq_getElem?_getD]; exact h2
    | succ k =>
      simp at hk
      simp only [masks] at hb ⊢
      have := ih (acc ++ [mask o' acc]) k o j hk (by simp only [List.length_append, List.length_singleton]; rw [show acc.length + 1 + k = acc.length + (k + 1) by omega]; exact hb)
      simp only [List.length_append, List.length_singleton] at this
      rw [show acc.length + 1 + k = acc.length + (k + 1) by omega] at this
      exact this

/-- may every two operations that are not ordered change places? -/
def drawOk (os : List Oper) (aos : List AO) : Bool :=
  let ms := masks os []
  (List.range os.length).all fun i =>
    (match os[i]? with
    | some o => (direct o).all fun j => decide (j < i)
    | none => true) &&
    (List.range i).all fun j => (ms.getD i 0).testBit j || (match aos[j]?, aos[i]? with
      | some x, some y => compat x y
      | _, _ => false)

/-- what has been listed is closed downward -/
def Closed (ops : Array Oper) (listed : Array Bool) : Prop :=
  ∀ i o, ops.toList[i]? = some o → listed.getD i true = true → ∀ j ∈ direct o, listed.getD j false = true

theorem before_listed {ops : Array Oper} {listed : Array Bool} (hsz : listed.size = ops.size) (hcl : Closed ops listed) : ∀ (i : Nat) (o : Oper) (j : Nat), ops.toList[i]? = some o →
    (∀ m ∈ direct o, listed.getD m false = true) → ((masks ops.toList []).getD i 0).testBit j = true → listed.getD j false = true := by
  intro i
  induction i using Nat.strongRecOn with
  | _ i ih =>
    intro o j ho hd hb
    have := masks_bit ops.toList [] i o j ho (by simpa using hb)
    rcases this with h | ⟨m, h1, h2, h3⟩
    · exact hd j h
    · simp only [List.length_nil, Nat.zero_add] at h2
      have hml : m < ops.toList.length := Nat.lt_trans h2 (get_lt ho)
      have hom : ops.toList[m]? = some ops.toList[m] := List.getElem?_eq_getElem hml
      have hlm := hd m h1
      have hlm' : listed.getD m true = true := by
        have hms : m < listed.size := by rw [hsz]; simpa using hml
        simp only [Array.getD_eq_getD_getElem?, Array.getElem?_eq_getElem hms, Option.getD_some] at hlm ⊢
        exact hlm
      exact ih m h2 _ j hom (hcl m _ hom hlm') h3

theorem direct_all {o : Oper} {listed : Array Bool} (h : (o.after.all fun ed => !Region.binds .any ed || listed.getD ed.on false) = true) : ∀ m ∈ direct o, listed.getD m false = true := by
  intro m hm
  simp only [direct, List.mem_map, List.mem_filter] at hm
  obtain ⟨ed, ⟨h1, h2⟩, rfl⟩ := hm
  have := Array.all_eq_true_iff_forall_mem.1 h ed (by simpa using h1)
  simpa [h2] using this

theorem direct_all' {o : Oper} {listed : Array Bool} (h : ∀ m ∈ direct o, listed.getD m false = true) : (o.after.all fun ed => !Region.binds .any ed || listed.getD ed.on false) = true := by
  apply Array.all_eq_true_iff_forall_mem.2
  intro ed hed
  by_cases hb : Region.binds .any ed = true
  · have := h ed.on (by simp only [direct, List.mem_map, List.mem_filter]; exact ⟨ed, ⟨by simpa using hed, hb⟩, rfl⟩)
    simp [this]
  · simp [hb]

/-- the operations that are still to come -/
structure Rem (ops : Array Oper) (listed : Array Bool) (rem : List Nat) : Prop where
  size : listed.size = ops.size
  mem : ∀ i, i ∈ rem ↔ i < ops.size ∧ listed.getD i true = false
  sorted : rem.Pairwise (· < ·)

theorem ready_mem {ops : Array Oper} {listed : Array Bool} {i : Nat} : i ∈ Region.ready .any ops listed ↔ i < ops.size ∧ listed.getD i true = false ∧
    ∃ o, ops.toList[i]? = some o ∧ ∀ m ∈ direct o, listed.getD m false = true := by
  simp only [Region.ready, List.mem_filter, List.mem_range, Bool.and_eq_true, Bool.not_eq_true']
  constructor
  · rintro ⟨h1, h2, h3⟩
    refine ⟨h1, h2, ?_⟩
    have ho : ops[i]? = some ops[i] := Array.getElem?_eq_getElem h1
    rw [ho] at h3
    simp only [Option.map_some, Option.getD_some] at h3
    exact ⟨ops[i], by simp, direct_all h3⟩
  · rintro ⟨h1, h2, o, h3, h4⟩
    refine ⟨h1, h2, ?_⟩
    have ho : ops[i]? = some o := by simpa using h3
    rw [ho]
    simp only [Option.map_some, Option.getD_some]
    exact direct_all' h4

theorem rem_step {ops : Array Oper} {listed : Array Bool} {l1 l2 : List Nat} {i : Nat} {o : Oper} (hr : Rem ops listed (l1 ++ i :: l2)) (hc : Closed ops listed) (hin : i < ops.size) (ho : ops.toList[i]? = some o) (hdir : ∀ m ∈ direct o, listed.getD m false = true)
    (hd1 : ∀ i o, ops.toList[i]? = some o → ∀ j ∈ direct o, j < i) : Rem ops (listed.setIfInBounds i true) (l1 ++ l2) ∧ Closed ops (listed.setIfInBounds i true) := by
  have hpair := hr.sorted
  rw [List.pairwise_append] at hpair
  have hl1 : ∀ j ∈ l1, j < i := fun j hj => hpair.2.2 j hj i (by simp)
  have hl2 : ∀ j ∈ l2, i < j := fun j hj => (List.pairwise_cons.1 hpair.2.1).1 j hj
  refine ⟨⟨by simp [hr.size], fun j => ?_, ?_⟩, ?_⟩
  · have hm := hr.mem j
    simp only [List.mem_append, List.mem_cons] at hm ⊢
    simp only [Array.getD_eq_getD_getElem?, Array.getElem?_setIfInBounds] at hm ⊢
    by_cases hji : i = j
    · subst hji
      simp only [if_true, hr.size, hin, Option.getD_some]
      constructor
      · rintro (h | h)
        · have := hl1 _ h; omega
        · have := hl2 _ h; omega
      · rintro ⟨_, h⟩; cases h
    · simp only [hji, if_false]
      rw [← hm]
      constructor
      · rintro (h | h)
        · exact .inl h
        · exact .inr (.inr h)
      · rintro (h | h | h)
        · exact .inl h
        · exact absurd h.symm hji
        · exact .inr h
  · rw [List.pairwise_append]
    exact ⟨hpair.1, (List.pairwise_cons.1 hpair.2.1).2, fun x hx y hy => hpair.2.2 x hx y (by simp [hy])⟩
  · intro k ok hok hlk j hj
    have hjk := hd1 k ok hok j hj
    have hkn : k < ops.size := by simpa using get_lt hok
    simp only [Array.getD_eq_getD_getElem?, Array.getElem?_setIfInBounds] at hlk ⊢
    by_cases hik : i = k
    · subst hik
      have : ok = o := by rw [ho] at hok; cases hok; rfl
      subst this
      have hlj := hdir j hj
      have hne : i ≠ j := by omega
      simp only [hne, if_false]
      simpa [Array.getD_eq_getD_getElem?] using hlj
    · simp only [hik, if_false] at hlk
      have hlj := hc k ok hok (by simpa [Array.getD_eq_getD_getElem?] using hlk) j hj
      by_cases hij : i = j
      · subst hij; simp [hr.size, hin]
      · simp only [hij, if_false]; simpa [Array.getD_eq_getD_getElem?] using hlj

/-- an operation that comes behind all earlier ones and ahead of all later ones, whatever is drawn -/
def Bar (ops : Array Oper) (b : Nat) : Prop := (∀ j, j < b → ((masks ops.toList []).getD b 0).testBit j = true) ∧ ∀ i, b < i → i < ops.size → ((masks ops.toList []).getD i 0).testBit b = true

/-- what comes behind the first part of a region: such an operation, then a part whose order is drawn, and so on -/
def PlanK (P : Program) (N : Nat) (G0 : Nat → Prop) (ι0 : Io) (h0 : Hp) (w0 : World) (ops : Array Oper) (aops : List AO) (Q : Exit → Act → World → Prop) : List (Nat × List Nat) → Env → Hp → Prop
  | [], e, h => ∀ a w, Fits N G0 ι0 h0 w0 e h a w → Q .normal a w
  | (b, is) :: r, e, h => Bar ops b ∧ ∀ (a : Act) (w : World) (K : Act → World → Prop), Fits N G0 ι0 h0 w0 e h a w →
      (∀ e2 h2 e3 h3 a' w', Fits N G0 ι0 h0 w0 e2 h2 a' w' → RunI P aops is e2 h2 e3 h3 → PlanK P N G0 ι0 h0 w0 ops aops Q r e3 h3 → K a' w') → wpOp P ops Q b K a w

def flatP : List (Nat × List Nat) → List Nat
  | [] => []
  | (b, is) :: r => b :: (is ++ flatP r)

theorem any_sound {ops : Array Oper} {aops : List AO} {Q : Exit → Act → World → Prop} (hcomp : compOs P ops N ops.toList = some aops) (hg : aops.all (gOk N) = true) (hk : aops.all constOk = true)
    (hd : drawOk ops.toList aops = true) : ∀ (fuel : Nat) (listed : Array Bool) (cur : List Nat) (bs : List (Nat × List Nat)) (e : Env) (h : Hp) (e1 : Env) (h1 : Hp) (a : Act) (w : World),
    Rem ops listed (cur ++ flatP bs) → (cur ++ flatP bs).length ≤ fuel → Closed ops listed → Fits N G0 ι0 h0 w0 e h a w → RunI P aops cur e h e1 h1 → PlanK P N G0 ι0 h0 w0 ops aops Q bs e1 h1 → wpAny P .any ops Q fuel listed a w := by
  have hd' : ∀ i o, ops.toList[i]? = some o → (∀ j ∈ direct o, j < i) ∧ ∀ j, j < i → ((masks ops.toList []).getD i 0).testBit j = true ∨ ∃ x y, aops[j]? = some x ∧ aops[i]? = some y ∧ compat x y = true := by
    intro i o ho
    simp only [drawOk, List.all_eq_true, List.mem_range, Bool.and_eq_true, Bool.or_eq_true] at hd
    obtain ⟨h1, h2⟩ := hd i (get_lt ho)
    rw [ho] at h1
    simp only [List.all_eq_true, decide_eq_true_eq] at h1
    refine ⟨h1, fun j hj => ?_⟩
    rcases h2 j hj with h3 | h3
    · exact .inl h3
    · right
      split at h3
      · rename_i x y hx hy; exact ⟨x, y, hx, hy, h3⟩
      · cases h3
  have hd1 : ∀ i o, ops.toList[i]? = some o → ∀ j ∈ direct o, j < i := fun i o ho => (hd' i o ho).1
  have hempty : ∀ listed rem, Rem ops listed rem → Closed ops listed → Region.ready .any ops listed = [] → rem = [] := by
    intro listed rem hr _ hready
    cases rem with
    | nil => rfl
    | cons i rem =>
      exfalso
      have hi := (hr.mem i).1 (by simp)
      have ho : ops.toList[i]? = some (ops.toList[i]'(by simpa using hi.1)) := List.getElem?_eq_getElem _
      have : i ∈ Region.ready .any ops listed := by
        rw [ready_mem]
        refine ⟨hi.1, hi.2, _, ho, fun m hm => ?_⟩
        have hmi := (hd' i _ ho).1 m hm
        have hnot : m ∉ i :: rem := by
          intro hmem
          simp only [List.mem_cons] at hmem
          rcases hmem with h | h
          · omega
          · have := (List.pairwise_cons.1 hr.sorted).1 m h; omega
        have hms : m < ops.size := by omega
        have : ¬ (listed.getD m true = false) := fun hf => hnot ((hr.mem m).2 ⟨hms, hf⟩)
        simp only [Array.getD_eq_getD_getElem?, Array.getElem?_eq_getElem (show m < listed.size by rw [hr.size]; exact hms), Option.getD_some] at this ⊢
        simpa using this
      rw [hready] at this
      cases this
  have hnil : ∀ cur (bs : List (Nat × List Nat)), cur ++ flatP bs = [] → cur = [] ∧ bs = [] := by
    intro cur bs h
    obtain ⟨h1, h2⟩ := List.append_eq_nil_iff.1 h
    refine ⟨h1, ?_⟩
    cases bs with
    | nil => rfl
    | cons x r => simp [flatP] at h2
  have hdone : ∀ listed rem i o j, Rem ops listed rem → Closed ops listed → ops.toList[i]? = some o → (∀ m ∈ direct o, listed.getD m false = true) → ((masks ops.toList []).getD i 0).testBit j = true → j ∈ rem → False := by
    intro listed rem i o j hr hc ho hdir hb hj
    have := before_listed hr.size hc i o j ho hdir hb
    have hj' := (hr.mem j).1 hj
    simp only [Array.getD_eq_getD_getElem?, Array.getElem?_eq_getElem (show j < listed.size by rw [hr.size]; exact hj'.1), Option.getD_some] at this hj'
    rw [this] at hj'; simp at hj'
  intro fuel
  induction fuel with
  | zero =>
    intro listed cur bs e h e1 h1 a w hr hl hc hf hrun hpl
    obtain ⟨rfl, rfl⟩ := hnil cur bs (List.eq_nil_of_length_eq_zero (by omega))
    obtain ⟨rfl, rfl⟩ := hrun
    refine ⟨?_, hpl a w hf⟩
    apply List.eq_nil_iff_forall_not_mem.2
    intro i hi
    rw [ready_mem] at hi
    have := (hr.mem i).2 ⟨hi.1, hi.2.1⟩
    cases this
  | succ fuel ih =>
    intro listed cur bs e h e' h' a w hr hl hc hf hrun hpl
    refine ⟨fun hready => ?_, fun i hi => ?_⟩
    · obtain ⟨rfl, rfl⟩ := hnil _ _ (hempty listed _ hr hc hready)
      obtain ⟨rfl, rfl⟩ := hrun
      exact hpl a w hf
    · rw [ready_mem] at hi
      obtain ⟨hin, hil, o, ho, hdir⟩ := hi
      have himem := (hr.mem i).2 ⟨hin, hil⟩
      rcases List.mem_append.1 himem with hicur | hibs
      · obtain ⟨l1, l2, hrem⟩ := List.append_of_mem hicur
        subst hrem
        have hpair := hr.sorted
        rw [List.append_assoc, List.cons_append] at hr hpair
        rw [List.pairwise_append] at hpair
        have hl1 : ∀ j ∈ l1, j < i := fun j hj => hpair.2.2 j hj i (by simp)
        have hcompat : ∀ j ∈ l1, ∀ x y, aops[j]? = some x → aops[i]? = some y → compat x y = true := by
          intro j hj x y hx hy
          rcases (hd' i o ho).2 j (hl1 j hj) with hb | ⟨x', y', hx', hy', hcc⟩
          · exact (hdone listed _ i o j hr hc ho hdir hb (by simp [hj])).elim
          · rw [hx] at hx'; rw [hy] at hy'; cases hx'; cases hy'; exact hcc
        obtain ⟨ao, e1, h1, hao, hstep, hrest⟩ := front hcomp hk l1 i l2 e h e' h' a w hf hcompat hrun
        have hco := (compOs_get hcomp).2 i o ao ho hao
        have hgo := gOk_spec (N := N) (by rw [List.all_eq_true] at hg; exact hg ao (List.mem_of_getElem? hao))
        have hoi : ops[i]? = some o := by simpa using ho
        obtain ⟨hr2, hc2⟩ := rem_step hr hc hin ho hdir hd1
        unfold wpOp
        simp only [hoi]
        exact step_sound hco hgo hstep.1 hf fun a' w' hf' => ih (listed.setIfInBounds i true) (l1 ++ l2) bs e1 h1 e' h' a' w' (by rw [List.append_assoc]; exact hr2) (by simp at hl ⊢; omega) hc2 hf' hrest hpl
      · cases bs with
        | nil => cases hibs
        | cons q r =>
          obtain ⟨b, is⟩ := q
          simp only [flatP, List.mem_cons] at hibs
          obtain ⟨hbar, hpl⟩ := hpl
          have hpair := hr.sorted
          rw [List.pairwise_append] at hpair
          have hib : i = b := by
            rcases hibs with h | h
            · exact h
            · exfalso
              have hbi : b < i := (List.pairwise_cons.1 hpair.2.1).1 i (by simpa using h)
              exact hdone listed _ i o b hr hc ho hdir (hbar.2 i hbi hin) (by simp [flatP])
          subst hib
          have hcur : cur = [] := by
            cases cur with
            | nil => rfl
            | cons j cur =>
              exfalso
              have hji : j < i := hpair.2.2 j (by simp) i (by simp [flatP])
              exact hdone listed _ i o j hr hc ho hdir (hbar.1 j hji) (by simp)
          subst hcur
          obtain ⟨rfl, rfl⟩ := hrun
          obtain ⟨hr2, hc2⟩ := rem_step (l1 := []) (by simpa [flatP] using hr) hc hin ho hdir hd1
          refine hpl a w _ hf fun e2 h2 e3 h3 a' w' hf2 hrun2 hpl2 => ?_
          exact ih (listed.setIfInBounds i true) is r e2 h2 e3 h3 a' w' hr2 (by simp [flatP] at hl ⊢; omega) hc2 hf2 hrun2 hpl2

theorem Fits.same_heap {e : Env} {h : Hp} {a : Act} {w w' : World} (hf : Fits N G0 ι0 h0 w0 e h a w) (hw : w'.heap = w.heap) (hq : Quiet w w' := by first | exact ⟨rfl, rfl⟩ | assumption | (subst_vars; exact ⟨rfl, rfl⟩)) : Fits N G0 ι0 h0 w0 e h a w' := by
  obtain ⟨G, ι, st⟩ := hf
  have hx := Ext.same_heap (G := G) (ι := ι) (h := h) hw
  exact ⟨G, ι, ⟨{ hr := st.rel.hr.same_heap hw, dfr := st.rel.dfr, size := st.rel.size, env := fun i => (st.rel.env i).ext hx st.rel.hr }, st.ext.trans hx⟩⟩

/-- A REGION WHOSE ORDER IS DRAWN. -/
theorem region_draw {id : Nat} {ops : Array Oper} {aops : List AO} {Q : Exit → Act → World → Prop} {e e' : Env} {h h' : Hp} {a : Act} {w : World} {cur : List Nat} {bs : List (Nat × List Nat)} (hm : P.follows .mixedOrders = true)
    (hcomp : compOs P ops N ops.toList = some aops) (hg : aops.all (gOk N) = true) (hk : aops.all constOk = true) (hd : drawOk ops.toList aops = true) (hf : Fits N G0 ι0 h0 w0 e h a w)
    (hall : cur ++ flatP bs = List.range ops.size) (hrun : RunI P aops cur e h e' h') (hpl : PlanK P N G0 ι0 h0 w0 ops aops Q bs e' h') : (Code.region id ops true).wp P Q a w := by
  refine wp_region_any hm (any_sound hcomp hg hk hd ops.size (Array.replicate ops.size false) cur bs e h e' h' a _ ?_ (by simp [hall]) ?_ (hf.same_heap rfl) hrun hpl)
  · rw [hall]
    refine ⟨by simp, fun i => ?_, List.pairwise_lt_range⟩
    simp only [List.mem_range, Array.getD_eq_getD_getElem?, Array.getElem?_replicate]
    constructor
    · intro hi; exact ⟨hi, by simp [hi]⟩
    · exact fun hi => hi.1
  · intro i o ho hl
    have hi : i < ops.size := by simpa using get_lt ho
    simp [Array.getD_eq_getD_getElem?, hi] at hl

end
end Go.Ab
