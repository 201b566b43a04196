/-
  The engine, part j: '==' on aggregates, leaf by leaf.
-/
import Derived.Test.YtjaodmgeonfkiaaEi
import Derived.ChangeKeysEq
namespace Go.Ab

/-- the comparable leaves of a type: where each lies, and of what kind it is (0: integer, 1: bool, 2: string) -/
def leafEq (P : Program) : Nat → TypeId → Option (List (Nat × Nat))
  | 0, _ => none
  | d + 1, t => match P.underlying t with
    | some (.int _) => some [(0, 0)]
    | some .bool => some [(0, 1)]
    | some .string => some [(0, 2)]
    | some (.struct fs) => match fs.toList.mapM (fun f => if f.name = "_" ∨ ¬ f.offset + P.cellsOf f.type ≤ P.cellsOf t then none else (leafEq P d f.type).map fun l => l.map fun p => (f.offset + p.1, p.2)) with
      | some ls => if P.stoodInHeld t = false ∧ ls.flatten.all (fun p => decide (p.1 < P.cellsOf t)) = true then some ls.flatten else none
      | none => none
    | some (.array n el) => match (List.range n).mapM (fun i => if ¬ i * P.cellsOf el + P.cellsOf el ≤ P.cellsOf t then none else (leafEq P d el).map fun l => l.map fun p => (i * P.cellsOf el + p.1, p.2)) with
      | some ls => if n ≠ 0 ∧ ls.flatten.all (fun p => decide (p.1 < P.cellsOf t)) = true then some ls.flatten else none
      | none => none
    | _ => none

def sv : Nat → Value → Value → Option Bool
  | 0, .int k a, .int k' b => if k = k' then some (a == b) else none
  | 1, .bool a, .bool b => some (a == b)
  | 2, .string a, .string b => some (a.data.toList == b.data.toList)
  | _, _, _ => none

def eqv (xs ys : Array Value) : List (Nat × Nat) → Option Bool
  | [] => some true
  | (o, k) :: r => match xs[o]?, ys[o]? with
    | some a, some b => match sv k a b, eqv xs ys r with
      | some c, some d => some (c && d)
      | _, _ => none
    | _, _ => none

theorem eqv_append {xs ys : Array Value} : ∀ {l1 l2 : List (Nat × Nat)} {b : Bool}, eqv xs ys (l1 ++ l2) = some b → ∃ b1 b2, eqv xs ys l1 = some b1 ∧ eqv xs ys l2 = some b2 ∧ b = (b1 && b2) := by
  intro l1
  induction l1 with
  | nil => intro l2 b h; exact ⟨true, b, rfl, h, by simp⟩
  | cons p l1 ih =>
    intro l2 b h
    obtain ⟨o, k⟩ := p
    simp only [List.cons_append, eqv] at h ⊢
    split at h
    · rename_i a b' ha hb
      split at h
      · rename_i c d hc hd
        cases h
        obtain ⟨b1, b2, h1, h2, h3⟩ := ih hd
        refine ⟨c && b1, b2, ?_, h2, ?_⟩
        · simp [hc, h1]
        · rw [h3, Bool.and_assoc]
      · cases h
    · cases h

theorem eqv_extract {xs ys : Array Value} {off n : Nat} (hx : off + n ≤ xs.size) (hy : off + n ≤ ys.size) : ∀ {l : List (Nat × Nat)}, (∀ p ∈ l, p.1 < n) →
    eqv (xs.extract off (off + n)) (ys.extract off (off + n)) l = eqv xs ys (l.map fun p => (off + p.1, p.2)) := by
  intro l
  induction l with
  | nil => intro _; rfl
  | cons p l ih =>
    intro hp
    obtain ⟨o, k⟩ := p
    have ho : o < n := hp (o, k) (by simp)
    simp only [eqv, List.map_cons]
    rw [Array.getElem?_extract_of_lt (by omega), Array.getElem?_extract_of_lt (by omega), ih (fun p hp' => hp p (by simp [hp']))]
    rw [Array.getElem?_eq_getElem (show off + o < xs.size by omega), Array.getElem?_eq_getElem (show off + o < ys.size by omega)]

section
variable {P : Program} {w : World}

theorem part_run {t : TypeId} {xs : Array Value} {off : Nat} {d : TypeDesc} (hu : P.underlying t = some d) (hd : aggD d = true) {i : TypeInfo} (hi : P.info? t = some i) :
    (part t xs off).run P w = .ok (.agg (xs.extract off (off + i.size))) w := by
  simp [part, r_isAgg hu, hd, r_size hi]

theorem part_run1 {t : TypeId} {xs : Array Value} {off : Nat} {d : TypeDesc} (hu : P.underlying t = some d) (hd : aggD d = false) {v : Value} (hv : xs[off]? = some v) :
    (part t xs off).run P w = .ok v w := by
  simp [part, r_isAgg hu, hd, hv]

theorem info_und {t : TypeId} {d : TypeDesc} (hu : P.underlying t = some d) : ∃ i, P.info? t = some i := by
  unfold Program.underlying at hu
  split at hu
  · rename_i heq; exact ⟨_, heq⟩
  · rename_i heq; exact ⟨_, heq⟩
  · cases hu

theorem flatten_map_eq {α β : Type} (g : α → β) : ∀ (ls : List (List α)), ls.flatten.map g = (ls.map fun l => l.map g).flatten := by
  intro ls; rw [List.map_flatten]

theorem mapM_cons_some {α β : Type} {f : α → Option β} {a : α} {as : List α} {bs : List β} (h : (a :: as).mapM f = some bs) : ∃ b bs', f a = some b ∧ as.mapM f = some bs' ∧ bs = b :: bs' := by
  rw [List.mapM_cons] at h
  simp only [bind, Option.bind_eq_some_iff, pure, Option.some.injEq] at h
  obtain ⟨b, h1, bs', h2, rfl⟩ := h
  exact ⟨b, bs', h1, h2, rfl⟩

/-- what has to be shown of a type -/
def EqOk (P : Program) (dd : Nat) (t : TypeId) (ls : List (Nat × Nat)) : Prop :=
  ∀ (w : World) (xs ys : Array Value) (off : Nat) (b : Bool), off + P.cellsOf t ≤ xs.size → off + P.cellsOf t ≤ ys.size → eqv xs ys (ls.map fun p => (off + p.1, p.2)) = some b →
    ∃ x y, (part t xs off).run P w = .ok x w ∧ (part t ys off).run P w = .ok y w ∧ (Op.equalIn dd t x y).run P w = .ok b w

theorem eqFields_run (dd : Nat) (xs ys : Array Value) (w : World) (n : Nat) (hx : n ≤ xs.size) (hy : n ≤ ys.size) : ∀ (fs : List Field) (g : Field → Option (List (Nat × Nat))) (ls : List (List (Nat × Nat))) (b : Bool),
    (∀ f ∈ fs, ∀ l, g f = some l → f.name ≠ "_" ∧ ∃ l0, l = l0.map (fun p => (f.offset + p.1, p.2)) ∧ EqOk P dd f.type l0 ∧ f.offset + P.cellsOf f.type ≤ n) →
    fs.mapM g = some ls → eqv xs ys ls.flatten = some b → (Op.eqFields dd xs ys fs).run P w = .ok b w := by
  intro fs
  induction fs with
  | nil =>
    intro g ls b _ hm hb
    simp at hm; subst hm
    simp only [List.flatten_nil, eqv, Option.some.injEq] at hb; subst hb
    simp [Op.eqFields]
  | cons f fs ih =>
    intro g ls b hall hm hb
    obtain ⟨l, ls', h1, h2, rfl⟩ := mapM_cons_some hm
    rw [List.flatten_cons] at hb
    obtain ⟨b1, b2, k1, k2, rfl⟩ := eqv_append hb
    obtain ⟨hn, l0, rfl, hok, hle⟩ := hall f (by simp) l h1
    obtain ⟨x, y, p1, p2, p3⟩ := hok w xs ys f.offset b1 (by omega) (by omega) k1
    have hrest := ih g ls' b2 (fun f' hf' => hall f' (by simp [hf'])) h2 k2
    simp only [Op.eqFields, ne_eq, hn, not_false_eq_true, if_true, Sem.run_bind, p1, p2, p3, Result.andThen_ok, Sem.run_ite]
    cases b1
    · simp
    · simp [hrest]

theorem eqItems_run (dd : Nat) (el : TypeId) (xs ys : Array Value) (w : World) (n : Nat) (hx : n ≤ xs.size) (hy : n ≤ ys.size) : ∀ (is : List Nat) (g : Nat → Option (List (Nat × Nat))) (ls : List (List (Nat × Nat))) (b : Bool),
    (∀ i ∈ is, ∀ l, g i = some l → ∃ l0, l = l0.map (fun p => (i * P.cellsOf el + p.1, p.2)) ∧ EqOk P dd el l0 ∧ i * P.cellsOf el + P.cellsOf el ≤ n) →
    is.mapM g = some ls → eqv xs ys ls.flatten = some b → (Op.eqItems dd el (P.cellsOf el) xs ys is).run P w = .ok b w := by
  intro is
  induction is with
  | nil =>
    intro g ls b _ hm hb
    simp at hm; subst hm
    simp only [List.flatten_nil, eqv, Option.some.injEq] at hb; subst hb
    simp [Op.eqItems]
  | cons i is ih =>
    intro g ls b hall hm hb
    obtain ⟨l, ls', h1, h2, rfl⟩ := mapM_cons_some hm
    rw [List.flatten_cons] at hb
    obtain ⟨b1, b2, k1, k2, rfl⟩ := eqv_append hb
    obtain ⟨l0, rfl, hok, hle⟩ := hall i (by simp) l h1
    obtain ⟨x, y, p1, p2, p3⟩ := hok w xs ys (i * P.cellsOf el) b1 (by omega) (by omega) k1
    have hrest := ih g ls' b2 (fun i' hi' => hall i' (by simp [hi'])) h2 k2
    simp only [Op.eqItems, Sem.run_bind, p1, p2, p3, Result.andThen_ok, Sem.run_ite]
    cases b1
    · simp
    · simp [hrest]

theorem cellsOf_info {t : TypeId} {i : TypeInfo} (hi : P.info? t = some i) : P.cellsOf t = i.size := by simp [Program.cellsOf, hi]

theorem map_map_off (ls : List (Nat × Nat)) (a b : Nat) : (ls.map fun p => (a + p.1, p.2)).map (fun p => (b + p.1, p.2)) = ls.map fun p => (b + (a + p.1), p.2) := by
  simp

theorem leafEq_ok : ∀ (d : Nat) (t : TypeId) (ls : List (Nat × Nat)), leafEq P d t = some ls → ∀ k, EqOk P (k + d) t ls := by
  intro d
  induction d with
  | zero => intro t ls h; simp [leafEq] at h
  | succ d ih =>
    intro t ls h k w xs ys off b hx hy hb
    unfold leafEq at h
    cases hu : P.underlying t with
    | none => simp [hu] at h
    | some kd =>
      obtain ⟨i, hi⟩ := info_und hu
      have hsz := cellsOf_info hi
      rw [hu] at h
      have scalar : ∀ (q : Nat), aggD kd = false → ls = [(0, q)] → (∀ x y c, sv q x y = some c → (Op.equalIn (k + (d + 1)) t x y).run P w = .ok c w) →
          ∃ x y, (part t xs off).run P w = .ok x w ∧ (part t ys off).run P w = .ok y w ∧ (Op.equalIn (k + (d + 1)) t x y).run P w = .ok b w := by
        intro q ha hl hrun
        subst hl
        simp only [List.map_cons, List.map_nil, eqv, Nat.add_zero] at hb
        split at hb
        · rename_i x y h1 h2
          split at hb
          · rename_i c e hc he
            cases he
            cases hb
            exact ⟨x, y, part_run1 hu ha h1, part_run1 hu ha h2, by simpa using hrun x y c hc⟩
          · cases hb
        · cases hb
      cases kd
      case int q =>
        simp only [Option.some.injEq] at h
        refine scalar 0 rfl h.symm fun x y c hc => ?_
        unfold sv at hc
        split at hc
        · split at hc
          · rename_i heq; subst heq; cases hc; exact run_equalIn_int w (k + d) t _ q _ _ hu
          · cases hc
        all_goals first | (cases hc; done) | skip
        · rename_i h0; simp at h0
        · rename_i h0; simp at h0
      case bool =>
        simp only [Option.some.injEq] at h
        refine scalar 1 rfl h.symm fun x y c hc => ?_
        unfold sv at hc
        split at hc
        · rename_i h0; simp at h0
        · cases hc; exact run_equalIn_bool' w (k + d) t _ _ hu
        · rename_i h0; simp at h0
        · cases hc
      case string =>
        simp only [Option.some.injEq] at h
        refine scalar 2 rfl h.symm fun x y c hc => ?_
        unfold sv at hc
        split at hc
        · rename_i h0; simp at h0
        · rename_i h0; simp at h0
        · rename_i s1 s2 _
          cases hc
          have := run_equalIn_string w (k + d) t s1 s2 hu
          rw [toList_data, toList_data] at this
          exact this
        · cases hc
      case struct fs =>
        simp only at h
        split at h
        · rename_i ls' hm
          split at h
          · rename_i hcond
            cases h
            have hfs : P.fieldsOf t = fs := by simp [Program.fieldsOf, hu]
            have hall : ∀ p ∈ ls'.flatten, p.1 < i.size := by
              have := hcond.2
              rw [List.all_eq_true] at this
              intro p hp
              have := this p hp
              rw [hsz] at this
              simpa using this
            rw [← eqv_extract (n := i.size) (by omega) (by omega) hall] at hb
            refine ⟨_, _, part_run hu rfl hi, part_run hu rfl hi, ?_⟩
            rw [show k + (d + 1) = (k + d) + 1 from rfl, run_equalIn_struct w (k + d) t _ _ (by rw [hfs]; exact hu) hcond.1, hfs]
            refine eqFields_run (k + d) _ _ w i.size (by simp; omega) (by simp; omega) fs.toList _ ls' b ?_ hm hb
            intro f hf l hl
            split at hl
            · cases hl
            · rename_i hnc
              simp only [Option.map_eq_some_iff] at hl
              obtain ⟨l0, hl0, rfl⟩ := hl
              refine ⟨fun e => hnc (.inl e), l0, rfl, ih f.type l0 hl0 k, ?_⟩
              rw [← hsz]
              exact Decidable.not_not.1 fun e => hnc (.inr e)
          · cases h
        · cases h
      case array n el =>
        simp only at h
        split at h
        · rename_i ls' hm
          split at h
          · rename_i hcond
            cases h
            have hall : ∀ p ∈ ls'.flatten, p.1 < i.size := by
              have := hcond.2
              rw [List.all_eq_true] at this
              intro p hp
              have := this p hp
              rw [hsz] at this
              simpa using this
            rw [← eqv_extract (n := i.size) (by omega) (by omega) hall] at hb
            refine ⟨_, _, part_run hu rfl hi, part_run hu rfl hi, ?_⟩
            cases n with
            | zero => exact absurd rfl hcond.1
            | succ n =>
              have hel : ∃ ie, P.info? el = some ie := by
                have h0 : ∃ l, leafEq P d el = some l := by
                  rw [List.range_succ_eq_map] at hm
                  obtain ⟨l, _, h1, _, _⟩ := mapM_cons_some hm
                  split at h1
                  · cases h1
                  · simp only [Option.map_eq_some_iff] at h1
                    obtain ⟨l0, hl0, _⟩ := h1
                    exact ⟨l0, hl0⟩
                obtain ⟨l, hl⟩ := h0
                cases d with
                | zero => simp [leafEq] at hl
                | succ d =>
                  unfold leafEq at hl
                  cases hue : P.underlying el with
                  | none => simp [hue] at hl
                  | some x => exact info_und hue
              obtain ⟨ie, hie⟩ := hel
              rw [show k + (d + 1) = (k + d) + 1 from rfl, run_equalIn_array w (k + d) _ _ hu hie]
              refine eqItems_run (k + d) el _ _ w i.size (by simp; omega) (by simp; omega) (List.range (n + 1)) _ ls' b ?_ hm hb
              intro j hj l hl
              split at hl
              · cases hl
              · rename_i hnc
                simp only [Option.map_eq_some_iff] at hl
                obtain ⟨l0, hl0, rfl⟩ := hl
                refine ⟨l0, rfl, ih el l0 hl0 k, ?_⟩
                rw [← hsz]
                exact Decidable.not_not.1 hnc
          · cases h
        · cases h
      all_goals simp at h

end
end Go.Ab
