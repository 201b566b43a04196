/-
  The engine, part g: slices: slicing, indexing, making, appending.
-/
import Derived.Test.YtjaodmgeonfkiaaEf
namespace Go.Ab

section
variable {P : Program} {w : World} {G : Nat → Prop} {ι : Io} {h : Hp}

/-- the bounds of a slice expression over n elements -/
def slb (n : Nat) (lo hi mx : Option Int) : Option (Nat × Nat × Option Nat) :=
  match (match mx with
    | none => some none
    | some m => if 0 ≤ m ∧ m ≤ n then some (some m.toNat) else none : Option (Option Nat)) with
  | none => none
  | some m =>
    match (match hi, m with
      | none, none => some n
      | none, some _ => none
      | some x, _ => if 0 ≤ x ∧ x ≤ (m.getD n : Nat) then some x.toNat else none : Option Nat) with
    | none => none
    | some hh =>
      match (match lo with
        | none => some 0
        | some x => if 0 ≤ x ∧ x ≤ hh then some x.toNat else none : Option Nat) with
      | none => none
      | some ll => some (ll, hh, m)

/-- an optional operand and its number -/
inductive IR : Option Value → Option Int → Prop
  | none : IR none none
  | some (k : IntKind) (n : Int) : IR (some (.int k n)) (some n)

theorem bound_run {k : IntKind} {x : Int} {y : Nat} {code : BoundsCode} (h1 : 0 ≤ x ∧ x ≤ y) : (Instr.sliceBound (.int k x) y code).run P w = .ok x.toNat w := by
  simp [Instr.sliceBound, asIntOf, h1]

theorem slb_run {isS : Bool} {n cap : Nat} {lo hi mx : Option Int} {vlo vhi vmx : Option Value} {l hh : Nat} {m : Option Nat} (hlo : IR vlo lo) (hhi : IR vhi hi) (hmx : IR vmx mx)
    (hs : slb n lo hi mx = some (l, hh, m)) (hcap : n ≤ cap) :
    (Instr.sliceBounds isS n cap vlo vhi vmx).run P w = .ok (l, hh, m.getD cap) w ∧ l ≤ hh ∧ hh ≤ n ∧ (∀ m', m = some m' → hh ≤ m' ∧ m' ≤ n) := by
  unfold slb at hs
  split at hs
  · cases hs
  · rename_i m0 hm0
    split at hs
    · cases hs
    · rename_i h0 hh0
      split at hs
      · cases hs
      · rename_i l0 hl0
        simp only [Option.some.injEq, Prod.mk.injEq] at hs
        obtain ⟨rfl, rfl, rfl⟩ := hs
        have hm1 : (∀ m', m0 = some m' → m' ≤ n) := by
          intro m' hm'
          subst hm'
          cases mx with
          | none => simp at hm0
          | some x =>
            simp only at hm0
            split at hm0
            · rename_i hx; simp only [Option.some.injEq] at hm0; omega
            · cases hm0
        have hl1 : l0 ≤ h0 := by
          cases lo with
          | none => simp at hl0; omega
          | some x =>
            simp only at hl0
            split at hl0
            · rename_i hx; simp only [Option.some.injEq] at hl0; omega
            · cases hl0
        have hh1 : h0 ≤ m0.getD n := by
          cases hi with
          | none =>
            cases m0 with
            | none => simp at hh0; simp; omega
            | some m => simp at hh0
          | some x =>
            simp only at hh0
            split at hh0
            · rename_i hx; simp only [Option.some.injEq] at hh0; omega
            · cases hh0
        refine ⟨?_, hl1, ?_, ?_⟩
        · have b1 : ∀ (k : IntKind) (x : Int) (code : BoundsCode), mx = some x → (Instr.sliceBound (.int k x) cap code).run P w = .ok (m0.getD cap) w := by
            intro k x code hx
            subst hx
            simp only at hm0
            split at hm0
            · rename_i hx
              simp only [Option.some.injEq] at hm0; subst hm0
              exact bound_run ⟨hx.1, by omega⟩
            · cases hm0
          have b2 : ∀ (k : IntKind) (x : Int) (code : BoundsCode), hi = some x → (Instr.sliceBound (.int k x) (m0.getD cap) code).run P w = .ok h0 w := by
            intro k x code hx
            subst hx
            simp only at hh0
            split at hh0
            · rename_i hx
              simp only [Option.some.injEq] at hh0; subst hh0
              refine bound_run ⟨hx.1, ?_⟩
              cases m0 with
              | none => simp at hx ⊢; omega
              | some m => simpa using hx.2
            · cases hh0
          have b3 : ∀ (k : IntKind) (x : Int) (code : BoundsCode), lo = some x → (Instr.sliceBound (.int k x) h0 code).run P w = .ok l0 w := by
            intro k x code hx
            subst hx
            simp only at hl0
            split at hl0
            · rename_i hx; simp only [Option.some.injEq] at hl0; subst hl0; exact bound_run hx
            · cases hl0
          have c1 : mx = none → m0.getD cap = cap := by intro hx; subst hx; simp at hm0; subst hm0; rfl
          have c2 : hi = none → mx = none ∧ h0 = n := by
            intro hx; subst hx
            cases m0 with
            | none =>
              simp at hh0
              cases mx with
              | none => exact ⟨rfl, hh0.symm⟩
              | some x => simp only at hm0; split at hm0 <;> simp at hm0
            | some m => simp at hh0
          have c3 : lo = none → l0 = 0 := by intro hx; subst hx; simp at hl0; exact hl0.symm
          cases hmx with
          | none =>
            have c1 := c1 rfl
            rw [c1] at b2 ⊢
            cases hhi with
            | none =>
              obtain ⟨_, rfl⟩ := c2 rfl
              cases hlo with
              | none => rw [c3 rfl]; simp [Instr.sliceBounds]
              | some k x => simp [Instr.sliceBounds, b3 k x _ rfl]
            | some k' x' =>
              cases hlo with
              | none => rw [c3 rfl]; simp [Instr.sliceBounds, b2 k' x' _ rfl]
              | some k x => simp [Instr.sliceBounds, b2 k' x' _ rfl, b3 k x _ rfl]
          | some k2 x2 =>
            cases hhi with
            | none => exact absurd (c2 rfl).1 (by simp)
            | some k' x' =>
              cases hlo with
              | none => rw [c3 rfl]; simp [Instr.sliceBounds, b1 k2 x2 _ rfl, b2 k' x' _ rfl]
              | some k x => simp [Instr.sliceBounds, b1 k2 x2 _ rfl, b2 k' x' _ rfl, b3 k x _ rfl]
        · cases m0 with
          | none => simpa using hh1
          | some m => simp at hh1; have := hm1 m rfl; omega
        · intro m' hm'
          subst hm'
          exact ⟨by simpa using hh1, hm1 m' rfl⟩

/-- what a slice expression makes of a slice -/
def slv (sz : Nat) (av : AV) (lo hi mx : Option Int) : Option AV :=
  match av with
  | .c (.d (.list nl sz' l)) => if sz' = sz then
      match slb l.length lo hi mx with
      | some (a, b, m) => if m = some b then some (.c (.cl nl sz ((l.take b).drop a))) else some (.c (.d (.list nl sz ((l.take b).drop a))))
      | none => none
    else none
  | .c (.cl nl sz' l) => if sz' = sz then
      match slb l.length lo hi mx with
      | some (a, b, m) => if m = some b ∨ (m = none ∧ b = l.length) then some (.c (.cl nl sz ((l.take b).drop a))) else some (.c (.d (.list nl sz ((l.take b).drop a))))
      | none => none
    else none
  | .c (.arr l v i n) =>
    match slb n lo hi mx with
    | some (a, b, _) => some (.c (.arr l v (i + a) (b - a)))
    | none => none
  | _ => none

theorem take_drop_get {α : Type} {l : List α} {a b p : Nat} {x : α} (h : ((l.take b).drop a)[p]? = some x) : l[a + p]? = some x ∧ a + p < b := by
  rw [List.getElem?_drop, List.getElem?_take] at h
  split at h
  · exact ⟨h, by omega⟩
  · cases h

theorem dr_slice {v : Value} {nl : Bool} {sz : Nat} {l : List (List D)} {t el : TypeId} {ti : TypeInfo} {lo hi mx : Option Int} {vlo vhi vmx : Option Value} {a b : Nat} {m : Option Nat}
    (hd : DR G w v (.list nl sz l)) (hu : P.underlying t = some (.slice el)) (hi' : P.info? el = some ti) (hsz : ti.size = sz)
    (hlo : IR vlo lo) (hhi : IR vhi hi) (hmx : IR vmx mx) (hs : slb l.length lo hi mx = some (a, b, m)) :
    ∃ v', (Instr.sliceAt t v vlo vhi vmx).run P w = .ok v' w ∧ DR G w v' (.list nl sz ((l.take b).drop a)) ∧ capOf v' = (m.getD (capOf v)) - a := by
  cases hd with
  | nils nl =>
    obtain ⟨h1, h2, h3, h4⟩ := slb_run (P := P) (w := w) (isS := true) hlo hhi hmx hs (Nat.le_refl 0)
    have ha : a = 0 := by simp at h3; omega
    have hb : b = 0 := by simpa using h3
    have hm : m.getD 0 = 0 := by
      cases m with
      | none => rfl
      | some m' => have := h4 m' rfl; simp at this ⊢; omega
    refine ⟨.slice none 0 0, ?_, by simpa using DR.nils _ sz, ?_⟩
    · subst ha hb
      simp only [List.length_nil] at h1
      simp [Instr.sliceAt, r_und hu, Instr.slice, h1, r_size hi', hm]
    · simp [capOf, hm]
  | emp a' =>
    obtain ⟨h1, h2, h3, h4⟩ := slb_run (P := P) (w := w) (isS := true) hlo hhi hmx hs (Nat.le_refl 0)
    have ha : a = 0 := by simp at h3; omega
    have hb : b = 0 := by simpa using h3
    have hm : m.getD 0 = 0 := by
      cases m with
      | none => rfl
      | some m' => have := h4 m' rfl; simp at this ⊢; omega
    refine ⟨.slice (some a') 0 0, ?_, by simpa using DR.emp a' sz, ?_⟩
    · subst ha hb
      simp only [List.length_nil] at h1
      simp [Instr.sliceAt, r_und hu, Instr.slice, h1, r_size hi', hm]
    · simp [capOf, hm]
  | sl bb off cap _ _ g hG hcap hmax hszs hc hr =>
    obtain ⟨h1, h2, h3, h4⟩ := slb_run (P := P) (w := w) (isS := true) hlo hhi hmx hs hcap
    refine ⟨.slice (some (if m.getD cap = a then ⟨bb, off, none⟩ else ⟨bb, off + a * sz, none⟩)) (b - a) (m.getD cap - a), ?_, ?_, ?_⟩
    · simp only [Instr.sliceAt, Sem.run_bind, r_und hu, Result.andThen_ok, Instr.slice, h1, r_size hi', Sem.run_pure, hsz, Option.map_some, add_none]
      split <;> rfl
    · have hlen : ((l.take b).drop a).length = b - a := by simp; omega
      have hmc : b - a ≤ m.getD cap - a := by
        cases m with
        | none => simp; omega
        | some m' => have := (h4 m' rfl); simp; omega
      by_cases hma : m.getD cap = a
      · have hba : b - a = 0 := by omega
        have : (l.take b).drop a = [] := by apply List.eq_nil_of_length_eq_zero; omega
        rw [if_pos hma, hba, this]
        exact DR.sl bb off _ sz [] (fun _ _ => undef) (fun h => absurd rfl h) (by simp) (by simp) (by simp) (by simp) (by simp)
      · rw [if_neg hma]
        have := DR.sl (G := G) (w := w) bb (off + a * sz) (m.getD cap - a) sz ((l.take b).drop a) (fun i j => g (a + i) j) ?_ (by omega) (by simp; omega) ?_ ?_ ?_
        · rw [hlen] at this; exact this
        · intro hne
          apply hG
          intro h0; subst h0; simp at hne
        · intro i e he; exact hszs _ e (take_drop_get he).1
        · intro i e j x he hx
          have := hc _ e j x (take_drop_get he).1 hx
          rw [← this]
          congr 2
          rw [Nat.add_mul]; omega
        · intro i e j x he hx
          exact hr _ e j x (take_drop_get he).1 hx
    · simp [capOf]

theorem s_sl {v : Value} {av av' : AV} {sz : Nat} {t el : TypeId} {ti : TypeInfo} {lo hi mx : Option Int} {vlo vhi vmx : Option Value} (hv : VR G w ι h v av)
    (hu : P.underlying t = some (.slice el)) (hi' : P.info? el = some ti) (hsz : ti.size = sz) (hlo : IR vlo lo) (hhi : IR vhi hi) (hmx : IR vmx mx)
    (hs : slv sz av lo hi mx = some av') (hso : ∀ l v i n, av = .c (.arr l v i n) → ∃ r es, h[l]? = some (.da r v sz es)) :
    ∃ v', (Instr.sliceAt t v vlo vhi vmx).run P w = .ok v' w ∧ VR G w ι h v' av' := by
  cases hv with
  | agg => simp [slv] at hs
  | tup => simp [slv] at hs
  | c _ x hc =>
    cases hc with
    | u => simp [slv] at hs
    | rp => simp [slv] at hs
    | ptr => simp [slv] at hs
    | fn => simp [slv] at hs
    | mp => simp [slv] at hs
    | it => simp [slv] at hs
    | d _ x hd =>
      cases x with
      | list nl sz' l =>
        simp only [slv] at hs
        split at hs
        · rename_i hz; subst hz
          split at hs
          · rename_i a b m hb
            obtain ⟨v', k1, k2, k3⟩ := dr_slice hd hu hi' hsz hlo hhi hmx hb
            split at hs
            · rename_i hm
              cases hs
              refine ⟨v', k1, .c _ _ (.cl _ _ _ _ k2 ?_)⟩
              rw [k3, hm]
              have : slb l.length lo hi mx = some (a, b, m) := hb
              have hx := slb_run (P := P) (w := w) (isS := true) hlo hhi hmx hb (Nat.le_refl _)
              simp; omega
            · cases hs
              exact ⟨v', k1, .c _ _ (.d _ _ k2)⟩
          · cases hs
        · cases hs
      | _ => simp [slv] at hs
    | cl _ nl sz' l hd hcap =>
      simp only [slv] at hs
      split at hs
      · rename_i hz; subst hz
        split at hs
        · rename_i a b m hb
          obtain ⟨v', k1, k2, k3⟩ := dr_slice hd hu hi' hsz hlo hhi hmx hb
          have hx := slb_run (P := P) (w := w) (isS := true) hlo hhi hmx hb (Nat.le_refl _)
          split at hs
          · rename_i hm
            cases hs
            refine ⟨v', k1, .c _ _ (.cl _ _ _ _ k2 ?_)⟩
            rw [k3, hcap]
            rcases hm with rfl | ⟨rfl, rfl⟩
            · simp; omega
            · simp
          · cases hs
            exact ⟨v', k1, .c _ _ (.d _ _ k2)⟩
        · cases hs
      · cases hs
    | arr _ l ver i n blk hb ha hk hk0 =>
      obtain ⟨rl, es, hes⟩ := hso l ver i n rfl
      rw [hes] at hb; cases hb
      simp only [slv] at hs
      split at hs
      · rename_i a bb m hbb
        cases hs
        cases rl with
        | false =>
          obtain ⟨hi0, hn0, rfl⟩ := hk0 sz es rfl
          subst hi0 hn0
          obtain ⟨h1, h2, h3, h4⟩ := slb_run (P := P) (w := w) (isS := true) hlo hhi hmx hbb (Nat.le_refl 0)
          have hm : m.getD 0 = 0 := by
            cases m with
            | none => rfl
            | some m' => have := (h4 m' rfl); simp at this ⊢; omega
          have ha0 : a = 0 := by omega
          have hb0 : bb = 0 := by omega
          subst ha0 hb0
          refine ⟨.slice none 0 0, ?_, .c _ _ (.arr _ _ _ _ _ _ hes ha (fun sz' es' he => by cases he) fun sz' es' he => ⟨rfl, rfl, rfl⟩)⟩
          simp [Instr.sliceAt, r_und hu, Instr.slice, h1, r_size hi', hm]
        | true =>
        obtain ⟨b, o, cap, g1, g2, g3, g4, g5⟩ := hk sz es rfl
        rcases g5 with rfl | ⟨rfl, rfl, o', rfl⟩
        · obtain ⟨h1, h2, h3, h4⟩ := slb_run (P := P) (w := w) (isS := true) hlo hhi hmx hbb g3
          have hmc : m.getD cap ≤ cap := by
            cases m with
            | none => simp
            | some m' => have := (h4 m' rfl); simp; omega
          have hbm : bb ≤ m.getD cap := by
            cases m with
            | none => simp; omega
            | some m' => have := (h4 m' rfl); simp; omega
          refine ⟨.slice (some (if m.getD cap = a then ⟨b, o + i * sz, none⟩ else ⟨b, o + i * sz + a * sz, none⟩)) (bb - a) (m.getD cap - a), ?_, ?_⟩
          · simp only [Instr.sliceAt, Sem.run_bind, r_und hu, Result.andThen_ok, Instr.slice, h1, r_size hi', Sem.run_pure, hsz, Option.map_some, add_none]
            split <;> rfl
          · refine .c _ _ (.arr _ _ _ _ _ _ hes ha (fun sz' es' he => ?_) fun sz' es' he => by cases he)
            cases he
            refine ⟨b, o, m.getD cap - a, g1, by omega, by omega, ?_, ?_⟩
            · refine Nat.le_trans ?_ g4
              apply Nat.add_le_add_left
              apply Nat.mul_le_mul_right
              omega
            · by_cases hma : m.getD cap = a
              · right; rw [if_pos hma]; refine ⟨by omega, by omega, o + i * sz, ?_⟩
                rw [show bb - a = 0 by omega, show m.getD cap - a = 0 by omega]
              · left; rw [if_neg hma, Nat.add_mul, Nat.add_assoc]
        · obtain ⟨h1, h2, h3, h4⟩ := slb_run (P := P) (w := w) (isS := true) hlo hhi hmx hbb (Nat.le_refl 0)
          have hm : m.getD 0 = 0 := by
            cases m with
            | none => rfl
            | some m' => have := (h4 m' rfl); simp at this ⊢; omega
          have ha0 : a = 0 := by omega
          have hb0 : bb = 0 := by omega
          subst ha0 hb0
          refine ⟨.slice (some ⟨b, o', none⟩) 0 0, ?_, ?_⟩
          · simp [Instr.sliceAt, r_und hu, Instr.slice, h1, r_size hi', hm]
          · refine .c _ _ (.arr _ _ _ _ _ _ hes ha (fun sz' es' he => ?_) fun sz' es' he => by cases he)
            cases he
            exact ⟨b, o, 0, g1, by omega, by omega, by simpa using g4, .inr ⟨rfl, rfl, o', rfl⟩⟩
      · cases hs

/-- the address of an element -/
def ixv (h : Hp) (sz : Nat) (av : AV) (i : Int) : Option AV :=
  match av with
  | .c (.d (.list _ sz' l)) => if sz' = sz ∧ 0 ≤ i then (l[i.toNat]?).map fun e => .c (.rp e) else none
  | .c (.cl _ sz' l) => if sz' = sz ∧ 0 ≤ i then (l[i.toNat]?).map fun e => .c (.rp e) else none
  | .c (.arr l v k n) => match h[l]? with
    | some (.da _ v' sz' _) => if v' = v ∧ sz' = sz ∧ 0 ≤ i ∧ i < n then some (.c (.ptr l v (k + i.toNat) 0)) else none
    | _ => none
  | _ => none

theorem dr_index {v : Value} {nl : Bool} {sz : Nat} {l : List (List D)} {t el : TypeId} {ti : TypeInfo} {k : IntKind} {i : Int} {e : List D}
    (hd : DR G w v (.list nl sz l)) (hu : P.underlying t = some (.slice el)) (hi' : P.info? el = some ti) (hsz : ti.size = sz) (h0 : 0 ≤ i) (he : l[i.toNat]? = some e) :
    ∃ v', (Instr.indexAt t v (.int k i)).run P w = .ok v' w ∧ CR G w ι h v' (.rp e) := by
  have hl := get_lt he
  cases hd with
  | nils => simp at hl
  | emp => simp at hl
  | sl bb off cap _ _ g hG hcap hmax hszs hc hr =>
    refine ⟨.pointer (some ⟨bb, off + i.toNat * sz, none⟩), ?_, .rp _ _ _ (hG (by intro h0; subst h0; simp at hl)) fun j x hx => ⟨_, ?_, hr _ e j x he hx⟩⟩
    · have : i < (l.length : Int) := by omega
      simp [Instr.indexAt, asIntOf, r_und hu, h0, this, r_size hi', hsz, add_none]
    · rw [← hc _ e j x he hx]

theorem s_ias {v : Value} {av av' : AV} {sz : Nat} {t el : TypeId} {ti : TypeInfo} {k : IntKind} {i : Int} (hv : VR G w ι h v av)
    (hu : P.underlying t = some (.slice el)) (hi' : P.info? el = some ti) (hsz : ti.size = sz) (hs : ixv h sz av i = some av') :
    ∃ v', (Instr.indexAt t v (.int k i)).run P w = .ok v' w ∧ VR G w ι h v' av' := by
  cases hv with
  | agg => simp [ixv] at hs
  | tup => simp [ixv] at hs
  | c _ x hc =>
    cases hc with
    | u => simp [ixv] at hs
    | rp => simp [ixv] at hs
    | ptr => simp [ixv] at hs
    | fn => simp [ixv] at hs
    | mp => simp [ixv] at hs
    | it => simp [ixv] at hs
    | d _ x hd =>
      cases x with
      | list nl sz' l =>
        simp only [ixv] at hs
        split at hs
        · rename_i hz
          obtain ⟨rfl, h0⟩ := hz
          simp only [Option.map_eq_some_iff] at hs
          obtain ⟨e, he, rfl⟩ := hs
          obtain ⟨v', k1, k2⟩ := dr_index (ι := ι) (h := h) (k := k) hd hu hi' hsz h0 he
          exact ⟨v', k1, .c _ _ k2⟩
        · cases hs
      | _ => simp [ixv] at hs
    | cl _ nl sz' l hd hcap =>
      simp only [ixv] at hs
      split at hs
      · rename_i hz
        obtain ⟨rfl, h0⟩ := hz
        simp only [Option.map_eq_some_iff] at hs
        obtain ⟨e, he, rfl⟩ := hs
        obtain ⟨v', k1, k2⟩ := dr_index (ι := ι) (h := h) (k := k) hd hu hi' hsz h0 he
        exact ⟨v', k1, .c _ _ k2⟩
      · cases hs
    | arr _ l ver p n blk hb ha hk hk0 =>
      simp only [ixv, hb] at hs
      cases blk with
      | bx => simp at hs
      | dead => simp at hs
      | mp => simp at hs
      | mi => simp at hs
      | da rl v' sz' es =>
        simp only at hs
        split at hs
        · rename_i hz
          obtain ⟨rfl, rfl, h0, hn⟩ := hz
          cases hs
          cases rl with
          | false => obtain ⟨_, hn0, _⟩ := hk0 sz' es rfl; omega
          | true =>
          obtain ⟨b, o, cap, g1, g2, g3, g4, g5⟩ := hk sz' es rfl
          rcases g5 with rfl | ⟨rfl, rfl, o', rfl⟩
          · refine ⟨.pointer (some ⟨b, o + p * sz' + i.toNat * sz', none⟩), ?_, .c _ _ (.ptr _ _ _ _ _ _ hb ha fun q hq => ⟨b, o, g1, ?_⟩)⟩
            · simp [Instr.indexAt, asIntOf, r_und hu, h0, hn, r_size hi', hsz, add_none]
            · simp only [Blk.off, if_true, Option.some.injEq] at hq
              subst hq
              rw [Nat.add_mul]; simp [Nat.add_assoc]
          · omega
        · cases hs

end
end Go.Ab
