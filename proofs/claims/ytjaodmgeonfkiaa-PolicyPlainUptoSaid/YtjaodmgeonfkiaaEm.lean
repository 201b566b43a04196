/-
  The engine, part m: the other operations.
-/
import Derived.Test.YtjaodmgeonfkiaaEl
namespace Go.Ab

section
variable {P : Program} {N : Nat} {G : Nat → Prop} {ι : Io} {e : Env} {h h' : Hp} {a : Act} {w : World} {o : Oper} {av : AV}

theorem deq_sv {v1 v2 : Value} {d1 d2 : D} {k : Nat} {c : Bool} (r1 : CR G w ι h v1 (.d d1)) (r2 : CR G w ι h v2 (.d d2)) (hc : deq k d1 d2 = some c) : sv k v1 v2 = some c := by
  cases r1 with
  | d _ _ r1 =>
    cases r2 with
    | d _ _ r2 =>
      unfold deq at hc
      split at hc
      · cases r1; cases r2; simpa [sv] using hc
      · cases r1; cases r2; simpa [sv] using hc
      · cases r1; cases r2; simpa [sv] using hc
      · cases hc

theorem andThen_assoc {α β γ : Type} (r : Result α) (f : α → World → Result β) (g : β → World → Result γ) : (r.andThen f).andThen g = r.andThen fun x w => (f x w).andThen g := by
  cases r <;> rfl

theorem equalIn_slice_nil (d : Nat) {t el : TypeId} (hu : P.underlying t = some (.slice el)) (ad : Option Addr) (n c : Nat) : (Op.equalIn (d + 1) t (.slice ad n c) (.slice none 0 0)).run P w = .ok ad.isNone w := by
  cases ad <;> simp [Op.equalIn, r_und hu]
theorem equalIn_ptr_nil (d : Nat) {t el : TypeId} (hu : P.underlying t = some (.pointer el)) (ad : Option Addr) : (Op.equalIn (d + 1) t (.pointer ad) (.pointer none)).run P w = .ok ad.isNone w := by
  cases ad <;> simp [Op.equalIn, r_und hu]

theorem eqc_eqv {xs ys : List CV} {cx cy : Array Value} (hx : cx.size = xs.length) (hy : cy.size = ys.length)
    (hrx : ∀ (i : Nat) (v : Value) (x : CV), cx[i]? = some v → xs[i]? = some x → CR G w ι h v x) (hry : ∀ (i : Nat) (v : Value) (x : CV), cy[i]? = some v → ys[i]? = some x → CR G w ι h v x) :
    ∀ {ls : List (Nat × Nat)} {b : Bool}, eqc xs ys ls = some b → eqv cx cy ls = some b := by
  intro ls
  induction ls with
  | nil => intro b hb; exact hb
  | cons p ls ih =>
    intro b hb
    obtain ⟨q, k⟩ := p
    simp only [eqc] at hb
    split at hb
    · rename_i d1 d2 h1 h2
      split at hb
      · rename_i c d hc hd
        cases hb
        have l1 := get_lt h1
        have l2 := get_lt h2
        have v1 : cx[q]? = some cx[q] := Array.getElem?_eq_getElem (by omega)
        have v2 : cy[q]? = some cy[q] := Array.getElem?_eq_getElem (by omega)
        have r1 := hrx q _ _ v1 h1
        have r2 := hry q _ _ v2 h2
        have hsv : sv k cx[q] cy[q] = some c := deq_sv r1 r2 hc
        simp only [eqv, v1, v2, hsv, ih hd]
      · cases hb
    · cases hb

theorem exec_bin {op : BinOp} {xt yt : TypeId} {x y : Operand} (hop : o.op = .binOp op xt x y yt) :
    (execOp a.eval o).run P w = ((do eqGuard op xt x y (a.eval x) (a.eval y); binOp op xt (a.eval x) (a.eval y) : Sem Value).run P w).andThen fun v w' => .ok (.value v) w' := by
  simp only [execOp, hop, Sem.run_bind, andThen_assoc, Sem.run_pure]

theorem b_scal {op : BinOp} {xt yt : TypeId} {x y : Operand} (r : Rel N G ι e h a w) (hop : o.op = .binOp op xt x y yt) :
    ∀ x' y', cx P xt x = some x' → cx P xt y = some y' → astep e h (.bin op x' y') = some (av, h') → OpRes G ι h w av h' ((execOp a.eval o).run P w) := by
  have hexec := exec_bin (P := P) (a := a) (w := w) hop
  intro x' y' hx hy hs
  simp only [astep] at hs
  split at hs
  · rename_i d1 d2 h1 h2
    simp only [Option.map_eq_some_iff, Prod.mk.injEq] at hs
    obtain ⟨d, hd, rfl, rfl⟩ := hs
    have r1 := cx_sound hx r
    have r2 := cx_sound hy r
    rw [h1] at r1; rw [h2] at r2
    obtain ⟨v, k1, k2⟩ := bin_sound (P := P) (t := xt) (x := x) (y := y) (inv_d r1) (inv_d r2) hd
    refine OpRes.value r.hr ?_ (.c _ _ (.d _ _ k2))
    rw [hexec, k1]; rfl
  · cases hs

theorem b_agg {op : BinOp} {xt yt : TypeId} {x y : Operand} (r : Rel N G ι e h a w) (hop : o.op = .binOp op xt x y yt) :
    ∀ x' y' ls, cx P xt x = some x' → cx P xt y = some y' → (op = .eql ∨ op = .neq) → leafEq P 12 xt = some ls → P.eqGuardType P.depth xt = false →
      (∃ d, P.underlying xt = some d ∧ aggD d = true) → astep e h (.eqa (op == .neq) (P.cellsOf xt) ls x' y') = some (av, h') → OpRes G ι h w av h' ((execOp a.eval o).run P w) := by
  have hexec := exec_bin (P := P) (a := a) (w := w) hop
  intro x' y' ls hx hy hopk hls hg ⟨d, hu, hd⟩ hs
  simp only [astep] at hs
  split at hs
  · rename_i xs ys h1 h2
    split at hs
    · rename_i hlen
      simp only [Option.map_eq_some_iff, Prod.mk.injEq] at hs
      obtain ⟨b, hb, rfl, rfl⟩ := hs
      have r1 := cx_sound hx r
      have r2 := cx_sound hy r
      rw [h1] at r1; rw [h2] at r2
      obtain ⟨ca, e1, e2, e3⟩ := inv_agg r1
      obtain ⟨cb, f1, f2, f3⟩ := inv_agg r2
      have hev := eqc_eqv e2 f2 e3 f3 hb
      obtain ⟨i, hi⟩ := info_und hu
      have hsz := cellsOf_info hi
      obtain ⟨va, vb, p1, p2, p3⟩ := leafEq_ok 12 xt ls hls 9988 w ca cb 0 b (by omega) (by omega) (by simpa using hev)
      rw [part_run hu hd hi] at p1 p2
      cases p1; cases p2
      have ea : ca.extract 0 (0 + i.size) = ca := by rw [Nat.zero_add, ← hsz, ← hlen.1, ← e2]; simp
      have eb : cb.extract 0 (0 + i.size) = cb := by rw [Nat.zero_add, ← hsz, ← hlen.2, ← f2]; simp
      rw [ea, eb] at p3
      refine OpRes.value r.hr (v := .bool (if (op == .neq) then !b else b)) ?_ (.c _ _ (.d _ _ (.bool _)))
      rw [hexec, e1, f1]
      simp only [Sem.run_bind, run_eqGuard_agg w op xt x y ca cb hg, Result.andThen_ok]
      rcases hopk with rfl | rfl
      · rw [run_eql_struct w xt ca cb, p3]; rfl
      · rw [run_neq_struct w xt ca cb, p3]; rfl
    · cases hs
  · cases hs

theorem b_bools {op : BinOp} {xt yt : TypeId} {x y : Operand} (r : Rel N G ι e h a w) (hop : o.op = .binOp op xt x y yt) :
    ∀ x' y', cx P xt x = some x' → cx P xt y = some y' → (op = .eql ∨ op = .neq) → P.underlying xt = some .bool → astep e h (.beq (op == .neq) x' y') = some (av, h') → OpRes G ι h w av h' ((execOp a.eval o).run P w) := by
  have hexec := exec_bin (P := P) (a := a) (w := w) hop
  intro x' y' hx hy hopk hu hs
  simp only [astep] at hs
  split at hs
  · rename_i b1 b2 h1 h2
    simp only [Option.some.injEq, Prod.mk.injEq] at hs
    obtain ⟨rfl, rfl⟩ := hs
    have r1 := cx_sound hx r
    have r2 := cx_sound hy r
    rw [h1] at r1; rw [h2] at r2
    have e1 := inv_bool r1
    have e2 := inv_bool r2
    refine OpRes.value r.hr (v := .bool (if (op == .neq) then !(b1 == b2) else b1 == b2)) ?_ (.c _ _ (.d _ _ (.bool _)))
    rw [hexec, e1, e2]
    have heq : (Op.equal xt (.bool b1) (.bool b2)).run P w = .ok (b1 == b2) w := by
      simp only [Op.equal, Op.maxDepth]
      exact run_equalIn_bool' w 9999 xt b1 b2 hu
    simp only [Sem.run_bind, eqGuard_bool, Result.andThen_ok]
    rcases hopk with rfl | rfl
    · simp [binOp, heq]
    · simp [binOp, heq]
  · cases hs

theorem isNil_slice {v : Value} {xv : AV} {b : Bool} (r1 : VR G w ι h v xv) (hb : isNil h 0 xv = some b) : ∃ ad n c, v = .slice ad n c ∧ b = ad.isNone := by
  have key : ∀ (nl : Bool) (sz : Nat) (l : List (List D)), DR G w v (.list nl sz l) → (nl = true ∨ l ≠ []) → ∃ ad n c, v = .slice ad n c ∧ nl = ad.isNone := by
    intro nl sz l hd hl
    cases hd with
    | nils => simp at hl; subst hl; exact ⟨_, _, _, rfl, rfl⟩
    | emp => simp at hl
    | sl => exact ⟨_, _, _, rfl, rfl⟩
  have cl : ∀ (nl : Bool) (sz : Nat) (l : List (List D)), xv = .c (.cl nl sz l) → (nl = true ∨ l ≠ []) → ∃ ad n c, v = .slice ad n c ∧ nl = ad.isNone := by
    intro nl sz l he hl
    subst he
    cases inv_c r1 with
    | cl _ _ _ _ hd _ => exact key nl sz l hd hl
  unfold isNil at hb
  split at hb
  case h_1 => cases hb; exact key _ _ _ (inv_d r1) (.inl rfl)
  case h_2 => cases hb; exact key _ _ _ (inv_d r1) (.inr (by simp))
  case h_3 => cases hb; exact cl _ _ _ rfl (.inl rfl)
  case h_4 => cases hb; exact cl _ _ _ rfl (.inr (by simp))
  case h_5 =>
    split at hb
    · rename_i rl v' sz es hbk
      split at hb
      · rename_i hv
        subst hv
        cases hb
        cases inv_c r1 with
        | arr _ _ _ _ _ blk hbk' ha hk hk0 =>
          rw [hbk] at hbk'; cases hbk'
          cases rl with
          | false => obtain ⟨_, _, rfl⟩ := hk0 sz es rfl; exact ⟨_, _, _, rfl, rfl⟩
          | true =>
            obtain ⟨b0, o0, cap, _, _, _, _, h5⟩ := hk sz es rfl
            rcases h5 with rfl | ⟨_, _, o', rfl⟩
            · exact ⟨_, _, _, rfl, rfl⟩
            · exact ⟨_, _, _, rfl, rfl⟩
      · cases hb
    · cases hb
  all_goals first | (rename_i h0 _; simp at h0; done) | (rename_i h0; simp at h0; done) | (cases hb; done)

/-- a slice of which it is not known whether it is nil -/
theorem nil_either {v : Value} {nl : Bool} {sz : Nat} {l : List (List D)} (r1 : VR G w ι h v (.c (.d (.list nl sz l)))) : ∃ ad n c, v = .slice ad n c ∧ (ad.isNone = true → l = []) := by
  cases inv_d r1 with
  | nils => exact ⟨_, _, _, rfl, fun _ => rfl⟩
  | emp => exact ⟨_, _, _, rfl, fun _ => rfl⟩
  | sl => exact ⟨_, _, _, rfl, by simp⟩

theorem b_nil_at {op : BinOp} {xt yt : TypeId} {x y : Operand} (r : Rel N G ι e h a w) (hop : o.op = .binOp op xt x y yt) :
    ∀ (x' : X) (kd : Nat) (b : Bool), cx P xt x = some x' → (op = .eql ∨ op = .neq) → ((kd = 0 ∧ lnil y = true ∧ ∃ el, P.underlying xt = some (.slice el)) ∨ (kd = 1 ∧ pnil y = true ∧ ∃ el, P.underlying xt = some (.pointer el))) →
      (kd = 0 → ∃ ad n c, a.eval x = .slice ad n c ∧ b = ad.isNone) → (kd = 1 → ∃ ad, a.eval x = .pointer ad ∧ b = ad.isNone) →
      OpRes G ι h w (.c (.d (.bool (if (op == .neq) then !b else b)))) h ((execOp a.eval o).run P w) := by
  have hexec := exec_bin (P := P) (a := a) (w := w) hop
  intro x' kd b hx hopk hkd h0 h1
  have fin : (eqGuard op xt x y (a.eval x) (a.eval y)).run P w = .ok () w → (Op.equal xt (a.eval x) (a.eval y)).run P w = .ok b w →
      (∀ (op' : BinOp), op' = .eql → binOp op' xt (a.eval x) (a.eval y) = (do pure (.bool (← Op.equal xt (a.eval x) (a.eval y))))) →
      (∀ (op' : BinOp), op' = .neq → binOp op' xt (a.eval x) (a.eval y) = (do pure (.bool (!(← Op.equal xt (a.eval x) (a.eval y)))))) →
      OpRes G ι h w (.c (.d (.bool (if (op == .neq) then !b else b)))) h ((execOp a.eval o).run P w) := by
    intro k1 k2 k3 k4
    refine OpRes.value r.hr (v := .bool (if (op == .neq) then !b else b)) ?_ (.c _ _ (.d _ _ (.bool _)))
    rw [hexec]
    simp only [Sem.run_bind, k1, Result.andThen_ok]
    rcases hopk with rfl | rfl
    · rw [k3 _ rfl]; simp [k2]
    · rw [k4 _ rfl]; simp [k2]
  rcases hkd with ⟨rfl, hy, el, hu⟩ | ⟨rfl, hy, el, hu⟩
  · have ey : a.eval y = .slice none 0 0 := by
      cases y with
      | const v => cases v <;> simp_all [lnil, Act.eval]; split at hy <;> simp_all
      | _ => simp [lnil] at hy
    have ex := h0 rfl
    obtain ⟨ad, n, c, ex, rfl⟩ := ex
    refine fin ?_ ?_ ?_ ?_
    · rw [ex, ey]; rcases hopk with rfl | rfl <;> rfl
    · rw [ex, ey]; exact equalIn_slice_nil 9999 hu ad n c
    · rw [ex, ey]; intro op' hh; subst hh; rfl
    · rw [ex, ey]; intro op' hh; subst hh; rfl
  · have ey : a.eval y = .pointer none := by
      cases y with
      | const v =>
        cases v with
        | pointer ad => cases ad <;> simp_all [pnil, Act.eval]
        | _ => simp [pnil] at hy
      | _ => simp [pnil] at hy
    have ex := h1 rfl
    obtain ⟨ad, ex, rfl⟩ := ex
    refine fin ?_ ?_ ?_ ?_
    · rw [ex, ey]; rcases hopk with rfl | rfl <;> rfl
    · rw [ex, ey]; exact equalIn_ptr_nil 9999 hu ad
    · rw [ex, ey]; intro op' hh; subst hh; rfl
    · rw [ex, ey]; intro op' hh; subst hh; rfl


theorem b_nils {op : BinOp} {xt yt : TypeId} {x y : Operand} (r : Rel N G ι e h a w) (hop : o.op = .binOp op xt x y yt) :
    ∀ x' kd, cx P xt x = some x' → (op = .eql ∨ op = .neq) → ((kd = 0 ∧ lnil y = true ∧ ∃ el, P.underlying xt = some (.slice el)) ∨ (kd = 1 ∧ pnil y = true ∧ ∃ el, P.underlying xt = some (.pointer el))) →
      astep e h (.isnil kd (op == .neq) x') = some (av, h') → OpRes G ι h w av h' ((execOp a.eval o).run P w) := by
  intro x' kd hx hopk hkd hs
  simp only [astep, Option.map_eq_some_iff, Prod.mk.injEq] at hs
  obtain ⟨b, hb, rfl, rfl⟩ := hs
  have r1 := cx_sound hx r
  refine b_nil_at r hop x' kd b hx hopk hkd (fun hk => ?_) fun hk => ?_
  · subst hk
    exact isNil_slice r1 hb
  · subst hk
    revert hb r1
    generalize ev e x' = xv
    generalize a.eval x = v
    intro r1 hb
    unfold isNil at hb
    split at hb
    all_goals first | (rename_i h0 _; simp at h0; done) | (rename_i h0; simp at h0; done) | skip
    · cases hb; cases inv_d r1; exact ⟨_, rfl, rfl⟩
    · cases hb
      obtain ⟨b0, o0, rfl, _⟩ := inv_rp r1
      exact ⟨_, rfl, rfl⟩
    · split at hb
      · rename_i hsol
        cases hb
        obtain ⟨blk, b0, o0, k, _, _, _, _, rfl⟩ := ptr_at (inv_c r1) hsol
        exact ⟨_, rfl, rfl⟩
      · cases hb
    · cases hb

theorem l_bin {op : BinOp} {xt yt : TypeId} {x y : Operand} (r : Rel N G ι e h a w) (hop : o.op = .binOp op xt x y yt) (hs : astep e h (compOp P o) = some (av, h')) :
    OpRes G ι h w av h' ((execOp a.eval o).run P w) := by
  have scal := @b_scal P N G ι e h h' a w o av op xt yt x y r hop
  have agg := @b_agg P N G ι e h h' a w o av op xt yt x y r hop
  have bools := @b_bools P N G ι e h h' a w o av op xt yt x y r hop
  have nils := @b_nils P N G ι e h h' a w o av op xt yt x y r hop
  simp only [compOp, hop] at hs
  split at hs
  · rename_i x' y' hx hy
    have eqcase : (op = .eql ∨ op = .neq) → astep e h (match P.underlying xt with
        | some (.int _) => .bin op x' y'
        | some .string => .bin op x' y'
        | some .bool => .beq (op == .neq) x' y'
        | some (.struct _) => match leafEq P 12 xt with
          | some ls => if P.eqGuardType P.depth xt = false then .eqa (op == .neq) (P.cellsOf xt) ls x' y' else .bad
          | none => .bad
        | some (.array _ _) => match leafEq P 12 xt with
          | some ls => if P.eqGuardType P.depth xt = false then .eqa (op == .neq) (P.cellsOf xt) ls x' y' else .bad
          | none => .bad
        | some (.slice _) => if lnil y then .isnil 0 (op == .neq) x' else .bad
        | some (.pointer _) => if pnil y then .isnil 1 (op == .neq) x' else .bad
        | _ => .bad) = some (av, h') → OpRes G ι h w av h' ((execOp a.eval o).run P w) := by
      intro hopk hs
      split at hs
      · exact scal x' y' hx hy hs
      · exact scal x' y' hx hy hs
      · rename_i hu; exact bools x' y' hx hy hopk hu hs
      · rename_i fs hu
        split at hs
        · rename_i ls hls
          split at hs
          · rename_i hg; exact agg x' y' ls hx hy hopk hls hg ⟨_, hu, rfl⟩ hs
          · exact absurd hs bad_step
        · exact absurd hs bad_step
      · rename_i fs hu
        split at hs
        · rename_i ls hls
          split at hs
          · rename_i hg; exact agg x' y' ls hx hy hopk hls hg ⟨_, hu, rfl⟩ hs
          · exact absurd hs bad_step
        · exact absurd hs bad_step
      · rename_i el hu
        split at hs
        · rename_i hn; exact nils x' 0 hx hopk (.inl ⟨rfl, hn, el, hu⟩) hs
        · exact absurd hs bad_step
      · rename_i el hu
        split at hs
        · rename_i hn; exact nils x' 1 hx hopk (.inr ⟨rfl, hn, el, hu⟩) hs
        · exact absurd hs bad_step
      · exact absurd hs bad_step
    cases op
    case eql => exact eqcase (.inl rfl) hs
    case neq => exact eqcase (.inr rfl) hs
    all_goals exact scal x' y' hx hy hs
  · exact absurd hs bad_step

end
end Go.Ab
