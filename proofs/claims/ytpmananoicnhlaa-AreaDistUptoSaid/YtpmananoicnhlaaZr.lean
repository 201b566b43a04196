/-
  Merged texts, part r.
-/
import Derived.Test.YtpmananoicnhlaaZq
/-
  Areas: routes of closed examples.
-/
namespace Go.Ab
open Go.Proofs
def relaxD (t : Top) (m : List Bool) (e : Int) (E : List Int) (a : Int) : List Int :=
 match okArc t m e false a with
 | true => (match decide (0 ≤ gt E (headT t a)) && (decide (gt E (tailT t a) < 0) || decide (gt E (headT t a) + costT t a < gt E (tailT t a))) with
  | true => E.set (tailT t a).toNat (gt E (headT t a) + costT t a)
  | false => E)
 | false => E
def distC (t : Top) (m : List Bool) (e : Int) : List Int :=
 (List.range t.nodes.toNat).foldl (fun E _ => (arcsTo (2 * t.links.length)).foldl (relaxD t m e) E) ((List.replicate t.nodes.toNat (-1)).set e.toNat 0)
noncomputable def distX (t : Top) (m : List Bool) (e : Int) : List Int := match validT t && isDistB t m e false (distC t m e) with
 | true => distC t m e
 | false => distS t m e false
theorem distX_eq (t : Top) (m : List Bool) (e : Int) : distX t m e = distS t m e false := by
 unfold distX
 split
 ·rename_i h
  rw [Bool.and_eq_true] at h
  exact (distS_eq h.1 (isDistB_ok h.2)).symm
 ·rfl
noncomputable def legX (t : Top) (m : List Bool) (n d more cls : Int) : Rt := if gt (distX t m d) n < 0 then noRt else ⟨gt (distX t m d) n + more, cls, nextL t m (distX t m d) n d⟩
theorem legX_eq (t : Top) (m : List Bool) (n d more cls : Int) : legX t m n d more cls = legS t m n d more cls := by rw [legX, legS, distX_eq]
noncomputable def insX (t : Top) (A : List Int) (down : List Bool) (n d : Int) : Rt := if n = d then ⟨0, 1, []⟩ else (arcsTo 65).foldl (fun r k => if isK t A n k = true ∧ isK t A d k = true then betterS r (legX t (maskS t A down k false) n d 0 1) else r) noRt
theorem insX_eq (t : Top) (A : List Int) (down : List Bool) (n d : Int) : insX t A down n d = insideS t A down n d := by
 rw [insX, insideS]
 simp only [legX_eq]
 rfl
noncomputable def acrX (t : Top) (A : List Int) (down : List Bool) (n d : Int) : Rt :=
 if 0 < (insX t A down n d).cls ∨ isK t A n 0 = false then insX t A down n d else (arcsTo t.nodes.toNat).foldl (fun r b => if borderK t A b = true ∧ ovT t b = false ∧ 0 < (insX t A down b d).cls then betterS r (legX t (maskS t A down 0 false) n b (insX t A down b d).dist 2) else r) (insX t A down n d)
theorem acrX_eq (t : Top) (A : List Int) (down : List Bool) (n d : Int) : acrX t A down n d = acrossS t A down n d := by
 rw [acrX, acrossS]
 simp only [legX_eq, insX_eq]
 rfl
noncomputable def ofX (t : Top) (A : List Int) (down : List Bool) (n d : Int) : Rt :=
 if 0 < (acrX t A down n d).cls ∨ isK t A n 0 = true then acrX t A down n d else (arcsTo t.nodes.toNat).foldl (fun r b => if borderK t A b = true ∧ ovT t b = false ∧ 0 < (acrX t A down b d).cls then (ks 64).foldl (fun r k => if isK t A n k = true ∧ isK t A b k = true then betterS r (legX t (maskS t A down k true) n b (acrX t A down b d).dist 3) else r) r else r) (acrX t A down n d)
theorem ofX_eq (t : Top) (A : List Int) (down : List Bool) (n d : Int) : ofX t A down n d = ofS t A down n d := by
 rw [ofX, ofS]
 simp only [legX_eq, acrX_eq]
 rfl
noncomputable def natKD : List AV → Option AV
 | [a, .c (.d (.list false 1 l)), .c (.d (.list false 1 [])), .c (.d (.int .i64 n)), .c (.d (.int .i64 d))] => match decTop a, decL decI l with
  | some t, some A => (match validK t A && decide (0 ≤ n) && decide (n < t.nodes) && decide (0 ≤ d) && decide (d < t.nodes) && decide ((ofX t A [] n d).cls ≠ 0) with
   | true => some (.tup [iA (ofX t A [] n d).dist, iA (ofX t A [] n d).cls, iA 0])
   | false => none)
  | _, _ => none
 | _ => none
theorem natKD_ok (args : List AV) (r : AV) (h : natKD args = some r) : FnS Try.prog n_area_Dist args [] fun r' _ => r' = r := by
 unfold natKD at h
 split at h
 ·split at h
  ·rename_i a l n d _ _ t A h1 h1'
   split at h
   ·rename_i h2
    cases h
    simp only [Bool.and_eq_true, decide_eq_true_eq] at h2
    obtain ⟨⟨⟨⟨⟨g1, g2⟩, g3⟩, g4⟩, g5⟩, g6⟩ := h2
    have hv := (validK_spec.1 g1).1
    have := adist17_ok Try.prog rfl t A [] n d
    obtain ⟨b1, b2, b3, _⟩ := best_find t A [] n d
    have hc : checkK t A [] n d = 0 := by rw [checkK, if_pos ⟨g1, by simp [fitsB, hv]⟩, if_pos ⟨⟨g2, g3⟩, g4, g5⟩]
    rw [ofX_eq] at g6 ⊢
    rw [findK, if_pos hc, if_neg g6] at b1 b2 b3
    rw [b1, b2, b3] at this
    rw [decTop_ok h1, decL_ok decI_ok h1']
    exact this.mono fun _ _ h => h.2
   ·cases h
  ·cases h
 ·cases h
def natKB : List AV → Option AV
 | [a, .c (.d (.list false 1 l))] => match decTop a, decL decI l with
  | some t, some A => some (intsA (borderS t A))
  | _, _ => none
 | _ => none
theorem natKB_ok (args : List AV) (r : AV) (h : natKB args = some r) : FnS Try.prog n_area_Border args [] fun r' _ => r' = r := by
 unfold natKB at h
 split at h
 ·split at h
  ·rename_i a l _ _ t A h1 h1'
   cases h
   have := aborders_ok Try.prog rfl t A
   rw [decTop_ok h1, decL_ok decI_ok h1']
   exact this.mono fun _ _ h => h.2
  ·cases h
 ·cases h
end Go.Ab

/-
  Runs of closed calls (printed by mktab.py).
-/
namespace Go.Ab
open Go.Proofs
inductive TabsOk (P : Program) : List (Nat × Ent) → Prop
 | nil : TabsOk P []
 | txt {f : Nat} {sc fz : Bool} {af : AF} {fn : Func} {r : List (Nat × Ent)} (h1 : P.funcs[f]? = some fn) (h2 : compF P fn = some af) (h3 : fn.name ≠ "runtime.NumGoroutine") (h4 : TabsOk P r) : TabsOk P ((f, .txt sc fz af) :: r)
 | nat {f : Nat} {g : List AV → Option AV} {r : List (Nat × Ent)} (h1 : FnOk P f) (h2 : ∀ args r, g args = some r → FnS P f args [] fun r' _ => r' = r) (h4 : TabsOk P r) : TabsOk P ((f, .nat g) :: r)
 | nlk {f : Nat} {g : List AV → Option AV} {r : List (Nat × Ent)} (h1 : FnOk P f) (h2 : ∀ args r, g args = some r → FrS P f args r) (h4 : TabsOk P r) : TabsOk P ((f, .nlk g) :: r)
def lkT : List (Nat × Ent) → Tb
 | [], _ => none
 | (i, e) :: r, f => match Nat.beq i f with
  | true => some e
  | false => lkT r f
theorem TabsOk.tab {P : Program} {l : List (Nat × Ent)} (h : TabsOk P l) : TabOk P (lkT l) := by
 induction h with
 | nil => exact ⟨fun f sc fz af h => (by cases h), fun f g h => (by cases h), fun f g h => (by cases h)⟩
 | txt h1 h2 h3 _ ih =>
  refine ⟨fun f sc fz af h => ?_, fun f g h => ?_, fun f g h => ?_⟩
  ·simp only [lkT] at h
   split at h
   ·rename_i hb
    cases h
    have := Nat.eq_of_beq_eq_true hb
    subst this
    exact ⟨_, h1, h3, h2⟩
   ·exact ih.ok f sc fz af h
  ·simp only [lkT] at h
   split at h
   ·cases h
   ·exact ih.nat f g h
  ·simp only [lkT] at h
   split at h
   ·cases h
   ·exact ih.nlk f g h
 | nat h1 h2 _ ih =>
  refine ⟨fun f sc fz af h => ?_, fun f g h => ?_, fun f g h => ?_⟩
  ·simp only [lkT] at h
   split at h
   ·cases h
   ·exact ih.ok f sc fz af h
  ·simp only [lkT] at h
   split at h
   ·rename_i hb
    cases h
    have := Nat.eq_of_beq_eq_true hb
    subst this
    exact ⟨h1, h2⟩
   ·exact ih.nat f g h
  ·simp only [lkT] at h
   split at h
   ·cases h
   ·exact ih.nlk f g h
 | nlk h1 h2 _ ih =>
  refine ⟨fun f sc fz af h => ?_, fun f g h => ?_, fun f g h => ?_⟩
  ·simp only [lkT] at h
   split at h
   ·cases h
   ·exact ih.ok f sc fz af h
  ·simp only [lkT] at h
   split at h
   ·cases h
   ·exact ih.nat f g h
  ·simp only [lkT] at h
   split at h
   ·rename_i hb
    cases h
    have := Nat.eq_of_beq_eq_true hb
    subst this
    exact ⟨h1, h2⟩
   ·exact ih.nlk f g h
noncomputable def tabL : List (Nat × Ent) := [
 (n_law17_awake, .txt true false af_law17_awake),
 (n_ref09_SameInts, .txt true false af_ref09_SameInts),
 (n_area_Border, .nat natKB),
 (n_area_Dist, .nat natKD)]
theorem tabL_ok : TabsOk Try.prog tabL :=
 .txt fn_law17_awake c_law17_awake (by decide) <|
 .txt fn_ref09_SameInts c_ref09_SameInts (by decide) <|
 .nat ⟨_, fn_area_Border, by decide, by decide⟩ natKB_ok <|
 .nat ⟨_, fn_area_Dist, by decide, by decide⟩ natKD_ok <|
 .nil
theorem run_ok {f : Nat} {fn : Func} {af : AF} {args : List AV} {r : AV} (n : Nat) (hf : Try.prog.funcs[f]? = some fn) (hc : compF Try.prog fn = some af) (hl : args.length ≤ af.nt) (hx : runP (xC (lkT tabL) n) af args = some r) : Ret Try.prog f args r :=
 (runP_sound (xC_sound mixed tabL_ok.tab n) hf hc hl hx).mono fun _ _ h => h
theorem awake_ok : Ret Try.prog n_law17_awake [] (bA true) := run_ok 400 fn_law17_awake c_law17_awake (Nat.le_of_ble_eq_true rfl) (by kernel_rfl)
end Go.Ab

/-
  The statements of chapter 17: Nodes, Dist, Next.
-/
namespace Go.Ab
open Go.Proofs
structure QryK where
 (t : Top) (A : List Int) (down : List Bool) (n d : Int)
def qrkA (q : QryK) : AV := .agg [.d (iD q.t.nodes), .d (boolsD q.t.ov), .d (linksD q.t.links), .d (intsD q.A), .d (boolsD q.down), .d (iD q.n), .d (iD q.d)]
def largeK (q : QryK) : Bool := decide (q.t.nodes > 12) || decide (q.t.links.length > 20) || decide (q.down.length > 60) || decide (q.A.length > 40)
theorem largeK_ok (P : Program) (hP : P = Try.prog) (q : QryK) : Ret P n_law17_large [qrkA q] (bA (largeK q)) := by
 refine ret_start (hP ▸ mixed) (hP ▸ fn_law17_large) (hP ▸ c_law17_large) (Nat.le_of_ble_eq_true rfl) fun Λ Λo K hK => ?_
 clear hP
 obtain ⟨t, A, down, n, d⟩ := q
 simp only [qrkA] at hK ⊢
 have yes : (t.nodes > 12 ∨ t.links.length > 20 ∨ down.length > 60 ∨ A.length > 40) → K (bA true) := fun h => by
  rw [show largeK ⟨t, A, down, n, d⟩ = true by
   simp only [largeK, Bool.or_eq_true, decide_eq_true_eq]; omega] at hK
  exact hK
 have no : ¬ (t.nodes > 12 ∨ t.links.length > 20 ∨ down.length > 60 ∨ A.length > 40) → K (bA false) := fun h => by
  rw [show largeK ⟨t, A, down, n, d⟩ = false by
   simp only [largeK, Bool.or_eq_false_iff, decide_eq_false_iff_not]; omega] at hK
  exact hK
 clear hK
 simp only [boolsD, linksD, intsD] at *
 generalize hal : A.map encI = al at *
 have hla : Λ al = A.length := by rw [Λo, ← hal]; simp
 generalize hdl : down.map encB = dl at *
 have hld : Λ dl = down.length := by rw [Λo, ← hdl]; simp
 obtain ⟨nodes, ov, links⟩ := t
 
 generalize hol : ov.map encB = ol at *
 generalize hll : links.map encLk = ll at *
 have hlo : Λ ol = ov.length := by rw [Λo, ← hol]; simp
 have hls : Λ ll = links.length := by rw [Λo, ← hll]; simp
 simp only at yes no
 conv => cbv
 repeat' first | exact gu | exact trivial | refine And.intro ?_ ?_ | (intro hc; exact absurd hc (by decide)) | (intro hc; exfalso; omega) | (intro hc; (first | rw [wrap_small (by omega) (by omega)] at hc | rw [nI_eq] at hc | skip); try (conv => cbv))
 all_goals first | exact yes (by omega) | exact no (by omega)
set_option maxHeartbeats 4000000 in
theorem kdist_law (P : Program) (hP : P = Try.prog) (q : QryK) : Ret P n_law17_AreaDist [qrkA q] (bA true) := by
 have haw : Ret P n_law17_awake [] (bA true) := hP ▸ awake_ok
 have hlg := largeK_ok P hP q
 have h1 := adist17_ok P hP q.t q.A q.down q.n q.d
 have h2 := rfind17_ok P hP q.t q.A q.down q.n q.d
 obtain ⟨b1, b2, b3, _⟩ := best_find q.t q.A q.down q.n q.d
 rw [b1, b2, b3] at h1
 clear b1 b2 b3
 refine ret_start (hP ▸ mixed) (hP ▸ fn_law17_AreaDist) (hP ▸ c_law17_AreaDist) (Nat.le_of_ble_eq_true rfl) fun Λ Λo K hK => ?_
 clear hP
 obtain ⟨t, A, down, n, d⟩ := q
 simp only at h1 h2
 generalize largeK _ = lg at *
 generalize findK t A down n d = r at *
 obtain ⟨⟨rd, rc, ra⟩, c⟩ := r
 simp only [rtA, qrkA, boolsA, intsA, boolsD, linksD, intsD] at *
 generalize A.map encI = al at *
 generalize ra.map encI = rl at *
 generalize down.map encB = dl at *
 obtain ⟨nodes, ov, links⟩ := t
 simp only [topA, boolsD, linksD] at *
 generalize hol : ov.map encB = ol at *
 generalize hll : links.map encLk = ll at *
 have hlo : Λ ol = ov.length := by rw [Λo, ← hol]; simp
 have hls : Λ ll = links.length := by rw [Λo, ← hll]; simp
 cases lg
 case true =>
  clear h1 h2
  conv => cbv
  repeat' first | refine call_b haw rfl rfl ?_ ?_ | refine call_b hlg rfl rfl ?_ ?_ | (intro hc; cases hc; done) | exact gu | exact trivial | refine And.intro ?_ ?_ | (intro hc; exact absurd hc (by decide)) | (intro hc; exfalso; omega) | (intro hc; (first | rw [wrap_small (by omega) (by omega)] at hc | rw [nI_eq] at hc | skip); try (conv => cbv))
  all_goals exact hK
 conv => cbv
 repeat' first | refine call_b haw rfl rfl ?_ ?_ | refine call_b hlg rfl rfl ?_ ?_ | (intro hc; cases hc; done) | (refine call_r h1 rfl rfl ?_; conv => cbv) | (refine call_r h2 rfl rfl ?_; conv => cbv) | exact gu | exact trivial | refine And.intro ?_ ?_ | (intro hc; exact absurd hc (by decide)) | (intro hc; exfalso; omega) | (intro hc; (first | rw [wrap_small (by omega) (by omega)] at hc | rw [nI_eq] at hc | skip); try (conv => cbv))
 all_goals exact hK
end Go.Ab

