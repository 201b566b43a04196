/-
  Merged texts, part l.
-/
import Derived.Test.YtmcjlpmlnfbjaaaZk
/-
  Contracts, part c: lists.
-/
namespace Go.Ab
open Go.Proofs
theorem yes_of {K : AV → Prop} {p : Prop} [Decidable p] (hK : K (bA (decide p))) : p → K (bA true) := fun h => by rw [decide_eq_true h] at hK; exact hK
theorem no_of {K : AV → Prop} {p : Prop} [Decidable p] (hK : K (bA (decide p))) : ¬ p → K (bA false) := fun h => by rw [decide_eq_false h] at hK; exact hK
theorem mem_take_succ {α : Type} {l : List α} {k : Nat} {x y : α} (h : l[k]? = some x) : y ∈ l.take (k + 1) ↔ y ∈ l.take k ∨ y = x := by
 rw [take_succ_get h]; simp
theorem sameInts_ok (P : Program) (hP : P = Try.prog) (l m : List Int) : Ret P n_ref09_SameInts [intsA l, intsA m] (bA (decide (l = m))) := by
 refine ret_start (hP ▸ mixed) (hP ▸ fn_ref09_SameInts) (hP ▸ c_ref09_SameInts) (Nat.le_of_ble_eq_true rfl) fun Λ Λo K hK => ?_
 clear hP
 have yes := yes_of hK
 have no := no_of hK
 simp only [intsA, intsD] at *
 generalize llh : List.map encI l = ll at *
 have lln : Λ ll = l.length := by rw [Λo, ← llh]; simp
 generalize mlh : List.map encI m = ml at *
 have mln : Λ ml = m.length := by rw [Λo, ← mlh]; simp
 conv => cbv
 repeat' first | exact gu | exact trivial | refine And.intro ?_ ?_ | (intro hc; exact absurd hc (by decide)) | (intro hc; exfalso; omega) | (intro hc; (first | rw [wrap_small (by omega) (by omega)] at hc | rw [nI_eq] at hc | skip); try (conv => cbv))
 ·exact no fun h => by subst h; omega
 refine loop_up l.length (fun i : Int => [(0, .c (.d (.list false 1 ll))), (1, .c (.d (.list false 1 ml))), (5, iA i)]) (fun _ => []) (fun k i => i = k ∧ k ≤ l.length ∧ l.take k = m.take k) 0 (Wk.cw) ⟨rfl, by omega, by simp⟩ (fun k s h => h.2.1) ?_
 rintro k i Q' ⟨hi, hk, hno⟩ norm ex rt
 conv => cbv
 repeat' first | (refine ex _ _ _ ?_; (conv => cbv)) | (refine rt _ _ ?_; (conv => cbv)) | (intro e he; obtain ⟨x, hx, rfl⟩ := map_get' llh he; (conv => cbv)) | (intro e he; obtain ⟨y, hy, rfl⟩ := map_get' mlh he; (conv => cbv)) | exact gu | exact trivial | refine And.intro ?_ ?_ | (intro hc; exact absurd hc (by decide)) | (intro hc; exfalso; omega) | (intro hc; (first | rw [wrap_small (by omega) (by omega)] at hc | rw [nI_eq] at hc | skip); try (conv => cbv))
 ·refine no fun h => ?_
  subst h; rw [hx] at hy; cases hy; exact hc rfl
 ·refine norm _ _ _ ?_ (Wk.cw)
  exact ⟨by omega, by omega, by rw [take_succ_get (get_at hx (by omega)), take_succ_get (get_at hy (by omega)), hno, show x = y by omega]⟩
 ·exact yes (by rw [List.take_of_length_le (by omega), List.take_of_length_le (by omega)] at hno; exact hno)
theorem index_ok (P : Program) (hP : P = Try.prog) (l : List Int) (n : Int) : Ret P n_slices_Index_int_int [intsA l, iA n] (iA (if n ∈ l then (l.idxOf n : Int) else -1)) := by
 refine ret_start (hP ▸ mixed) (hP ▸ fn_slices_Index_int_int) (hP ▸ c_slices_Index_int_int) (Nat.le_of_ble_eq_true rfl) fun Λ Λo K hK => ?_
 clear hP
 have leaf : ∀ b : Int, (if n ∈ l then (l.idxOf n : Int) else -1) = b → K (iA b) := fun b hb => by rw [← hb]; exact hK
 simp only [intsA, intsD] at *
 generalize llh : List.map encI l = ll at *
 have lln : Λ ll = l.length := by rw [Λo, ← llh]; simp
 conv => cbv
 intro hmax
 conv => cbv
 refine loop_up l.length (fun i : Int => [(0, .c (.d (.list false 1 ll))), (1, iA n), (7, iA (Λ ll)), (8, iA i)]) (fun _ => []) (fun k i => i = k ∧ k ≤ l.length ∧ n ∉ l.take k) 0 (Wk.cw) ⟨rfl, by omega, by simp⟩ (fun k s h => h.2.1) ?_
 rintro k i Q' ⟨hi, hk, hno⟩ norm ex rt
 conv => cbv
 repeat' first | (refine ex _ _ _ ?_; (conv => cbv)) | (refine rt _ _ ?_; (conv => cbv)) | (intro e he; obtain ⟨x, hx, rfl⟩ := map_get' llh he; (conv => cbv)) | exact gu | exact trivial | refine And.intro ?_ ?_ | (intro hc; exact absurd hc (by decide)) | (intro hc; exfalso; omega) | (intro hc; (first | rw [wrap_small (by omega) (by omega)] at hc | rw [nI_eq] at hc | skip); try (conv => cbv))
 ·refine leaf _ ?_
  subst hc
  have hx := get_at hx (show i.toNat = k by omega)
  rw [if_pos (List.mem_of_getElem? hx), hi]
  congr 1
  have e : l = l.take k ++ n :: l.drop (k + 1) := by
   conv => lhs; rw [← List.take_append_drop k l]
   congr 1
   rw [List.drop_eq_getElem_cons (by have := get_lt hx; exact this)]
   congr 1
   rw [List.getElem?_eq_getElem (get_lt hx)] at hx
   exact Option.some.inj hx
  rw [e, List.idxOf_append, if_neg hno, List.idxOf_cons_self]
  simp; omega
 ·refine norm _ _ _ ?_ (Wk.cw)
  exact ⟨by omega, by omega, by rw [mem_take_succ (get_at hx (by omega))]; intro h; rcases h with h | h; exact hno h; omega⟩
 ·exact leaf _ (if_neg (by rw [List.take_of_length_le (by omega)] at hno; exact hno))
theorem contains_ok (P : Program) (hP : P = Try.prog) (l : List Int) (n : Int) : Ret P n_slices_Contains_int_int [intsA l, iA n] (bA (decide (n ∈ l))) := by
 refine ret_start (hP ▸ mixed) (hP ▸ fn_slices_Contains_int_int) (hP ▸ c_slices_Contains_int_int) (Nat.le_of_ble_eq_true rfl) fun Λ Λo K hK => ?_
 have hw := index_ok P hP l n
 clear hP
 have yes := yes_of hK
 have no := no_of hK
 have hi : (0 : Int) ≤ (if n ∈ l then (l.idxOf n : Int) else -1) ↔ n ∈ l := by split <;> simp_all <;> omega
 generalize (if n ∈ l then (l.idxOf n : Int) else -1) = r at *
 simp only [intsA, intsD] at *
 generalize llh : List.map encI l = ll at *
 have lln : Λ ll = l.length := by rw [Λo, ← llh]; simp
 conv => cbv
 repeat' first | refine call_i hw rfl rfl ?_ | exact gu | exact trivial | refine And.intro ?_ ?_ | (intro hc; exact absurd hc (by decide)) | (intro hc; exfalso; omega) | (intro hc; (first | rw [wrap_small (by omega) (by omega)] at hc | rw [nI_eq] at hc | skip); try (conv => cbv))
 ·exact yes (hi.1 (by omega))
 ·exact no fun h => by have := hi.2 h; omega
end Go.Ab

/-
  Contracts, part d: arcs, segments, the program's validity of topologies.
-/
namespace Go.Ab
open Go.Proofs
theorem twithin_ok (P : Program) (hP : P = Try.prog) (n lo hi : Int) : Ret P n_topology_within [iA n, iA lo, iA hi] (bA (decide (lo ≤ n ∧ n ≤ hi))) := by
 refine ret_start (hP ▸ mixed) (hP ▸ fn_topology_within) (hP ▸ c_topology_within) (Nat.le_of_ble_eq_true rfl) fun Λ Λo K hK => ?_
 clear hP
 have yes := yes_of hK
 have no := no_of hK
 conv => cbv
 repeat' first | exact gu | exact trivial | refine And.intro ?_ ?_ | (intro hc; exact absurd hc (by decide)) | (intro hc; exfalso; omega) | (intro hc; (first | rw [wrap_small (by omega) (by omega)] at hc | rw [nI_eq] at hc | skip); try (conv => cbv))
 ·exact yes (by omega)
 ·exact no (by omega)
 ·exact no (by omega)
theorem gnode_ok (P : Program) (hP : P = Try.prog) (t : Top) (n : Int) : Ret P n_graph_Node [topA t, iA n] (bA (decide (0 ≤ n ∧ n < t.nodes))) := by
 refine ret_start (hP ▸ mixed) (hP ▸ fn_graph_Node) (hP ▸ c_graph_Node) (Nat.le_of_ble_eq_true rfl) fun Λ Λo K hK => ?_
 clear hP
 have yes := yes_of hK
 have no := no_of hK
 obtain ⟨nodes, ov, links⟩ := t
 simp only [topA, boolsD, linksD] at *
 generalize hol : ov.map encB = ol at *
 generalize hll : links.map encLk = ll at *
 have hlo : Λ ol = ov.length := by rw [Λo, ← hol]; simp
 have hls : Λ ll = links.length := by rw [Λo, ← hll]; simp
 conv => cbv
 repeat' first | exact gu | exact trivial | refine And.intro ?_ ?_ | (intro hc; exact absurd hc (by decide)) | (intro hc; exfalso; omega) | (intro hc; (first | rw [wrap_small (by omega) (by omega)] at hc | rw [nI_eq] at hc | skip); try (conv => cbv))
 ·exact yes (by omega)
 ·exact no (by omega)
 ·exact no (by omega)
theorem tvalid_ok (P : Program) (hP : P = Try.prog) (t : Top) : Ret P n_topology_Valid [topA t] (bA (validT t)) := by
 refine ret_start (hP ▸ mixed) (hP ▸ fn_topology_Valid) (hP ▸ c_topology_Valid) (Nat.le_of_ble_eq_true rfl) fun Λ Λo K hK => ?_
 have hw := twithin_ok P hP
 have hn := gnode_ok P hP t
 clear hP
 have leaf : ∀ b, validT t = b → K (bA b) := fun b hb => by rw [← hb]; exact hK
 have no : (validT t = true → False) → K (bA false) := fun h => leaf _ (Bool.eq_false_iff.2 h)
 obtain ⟨nodes, ov, links⟩ := t
 simp only [topA, boolsD, linksD] at *
 generalize hol : ov.map encB = ol at *
 generalize hll : links.map encLk = ll at *
 have hlo : Λ ol = ov.length := by rw [Λo, ← hol]; simp
 have hls : Λ ll = links.length := by rw [Λo, ← hll]; simp
 conv => cbv
 repeat' first | refine call_b (hw _ _ _) rfl rfl ?_ ?_ | exact gu | exact trivial | refine And.intro ?_ ?_ | (intro hc; exact absurd hc (by decide)) | (intro hc; exfalso; omega) | (intro hc; (first | rw [wrap_small (by omega) (by omega)] at hc | rw [nI_eq] at hc | skip); try (conv => cbv))
 all_goals try simp only [decide_eq_true_eq, decide_eq_false_iff_not] at *
 all_goals try (refine no fun h => ?_; obtain ⟨h1, h2, h3, h4⟩ := validT_spec.1 h; simp only at h1 h2 h3; omega)
 all_goals
  refine loop_up links.length (fun (i : Int) => [(1, .c (.ptr 0 0 0 0)), (29, iA (Λ ll)), (30, iA i)]) (fun _ => [.bx [.d (.int .i64 nodes), .d (.list false 1 ol), .d (.list false 7 ll)]]) (fun k i => i = k ∧ k ≤ links.length ∧ ∀ l ∈ links.take k, okLk nodes l = true) 0 (Wk.cw) ⟨rfl, by omega, by simp⟩ (fun k s h => h.2.1) ?_
  rintro k i Q' ⟨hi, hk, hok⟩ norm ex rt
  conv => cbv
  repeat' first | (refine ex _ _ _ ?_; (conv => cbv)) | (refine rt _ _ ?_; (conv => cbv)) | refine call_b (hw _ _ _) rfl rfl ?_ ?_ | refine call_b (hn _) rfl rfl ?_ ?_ | (intro e he; obtain ⟨⟨xa, xb, xc, xd, xe, xf, xg⟩, hx, rfl⟩ := map_get' hll he; (conv => cbv)) | exact gu | exact trivial | refine And.intro ?_ ?_ | (intro hc; exact absurd hc (by decide)) | (intro hc; exfalso; omega) | (intro hc; (first | rw [wrap_small (by omega) (by omega)] at hc | rw [nI_eq] at hc | skip); try (conv => cbv))
 all_goals try simp only [decide_eq_true_eq, decide_eq_false_iff_not] at *
 all_goals try (refine no fun h => ?_; obtain ⟨h1, h2, h3, h4⟩ := validT_spec.1 h; have h5 := okLk_spec.1 (h4 _ (List.mem_of_getElem? hx)); simp only at h5; omega)
 all_goals try (refine leaf _ (validT_spec.2 ⟨by simp only; omega, by simp only; omega, by simp only; omega, fun l hl => hok l ?_⟩); rw [List.take_of_length_le (by omega)]; exact hl)
 all_goals
  refine norm _ _ _ ?_ (Wk.cw)
  refine ⟨by omega, by omega, ?_⟩
  rw [show i.toNat = k by omega] at hx
  rw [take_succ_get hx]
  intro l hl
  rcases List.mem_append.1 hl with hl | hl
  ·exact hok l hl
  ·simp only [List.mem_singleton] at hl
   subst hl
   exact okLk_spec.2 ⟨by simp only; omega, by simp only; omega, by simp only; omega, by simp only; omega, by simp only; omega, by simp only; omega, by simp only; omega, by simp only; omega⟩
theorem garcs_ok (P : Program) (hP : P = Try.prog) (t : Top) (h : (t.links.length : Int) ≤ 256) : Ret P n_graph_Arcs [topA t] (iA (2 * t.links.length)) := by
 refine ret_start (hP ▸ mixed) (hP ▸ fn_graph_Arcs) (hP ▸ c_graph_Arcs) (Nat.le_of_ble_eq_true rfl) fun Λ Λo K hK => ?_
 clear hP
 obtain ⟨nodes, ov, links⟩ := t
 simp only [topA, boolsD, linksD] at *
 generalize hol : ov.map encB = ol at *
 generalize hll : links.map encLk = ll at *
 have hlo : Λ ol = ov.length := by rw [Λo, ← hol]; simp
 have hls : Λ ll = links.length := by rw [Λo, ← hll]; simp
 conv => cbv
 repeat' first | exact gu | exact trivial | refine And.intro ?_ ?_ | (intro hc; exact absurd hc (by decide)) | (intro hc; exfalso; omega) | (intro hc; (first | rw [wrap_small (by omega) (by omega)] at hc | rw [nI_eq] at hc | skip); try (conv => cbv))
 rename_i c
 rw [show c = 2 * (links.length : Int) by omega]
 exact hK
theorem garc_ok (P : Program) (hP : P = Try.prog) (t : Top) (a : Int) (h : (t.links.length : Int) ≤ 256) : Ret P n_graph_Arc [topA t, iA a] (bA (decide (0 ≤ a ∧ a < 2 * t.links.length))) := by
 refine ret_start (hP ▸ mixed) (hP ▸ fn_graph_Arc) (hP ▸ c_graph_Arc) (Nat.le_of_ble_eq_true rfl) fun Λ Λo K hK => ?_
 have hw := garcs_ok P hP t h
 clear hP
 have yes := yes_of hK
 have no := no_of hK
 obtain ⟨nodes, ov, links⟩ := t
 simp only [topA, boolsD, linksD] at *
 generalize hol : ov.map encB = ol at *
 generalize hll : links.map encLk = ll at *
 have hlo : Λ ol = ov.length := by rw [Λo, ← hol]; simp
 have hls : Λ ll = links.length := by rw [Λo, ← hll]; simp
 conv => cbv
 repeat' first | refine call_i hw rfl rfl ?_ | exact gu | exact trivial | refine And.intro ?_ ?_ | (intro hc; exact absurd hc (by decide)) | (intro hc; exfalso; omega) | (intro hc; (first | rw [wrap_small (by omega) (by omega)] at hc | rw [nI_eq] at hc | skip); try (conv => cbv))
 ·exact yes (by omega)
 ·exact no (by omega)
 ·exact no (by omega)
end Go.Ab

/-
  Maps whose keys are numbers.
-/
namespace Go.Ab
open Go.Proofs
abbrev Isc := List (Int × DV)
def encZ (e : Int × DV) : DV × DV := (.s (iD e.1), e.2)
def ifind (k : Int) : Isc → Nat → Option (Nat × DV)
 | [], _ => none
 | e :: r, i => if k = e.1 then some (i, e.2) else ifind k r (i + 1)
theorem eqc_int (a x : Int) : eqc [.d (.int .i64 a)] [.d (.int .i64 x)] [(0, 0)] = some (decide (a = x)) := by
 have e : eqc [.d (.int .i64 a)] [.d (.int .i64 x)] [(0, 0)] = some ((a == x) && true) := rfl
 rw [e]
 by_cases h1 : a = x
 ·simp [h1]
 ·simp [h1]
theorem mfind_ints (a : Int) : ∀ (m : Isc) (i : Nat), mfind true 1 [(0, 0)] (.s (.int .i64 a)) (m.map encZ) i = some (ifind a m i) := by
 intro m
 induction m with
 | nil => intro i; rfl
 | cons e r ih =>
  intro i
  obtain ⟨x, v⟩ := e
  have e1 : mfind true 1 [(0, 0)] (.s (.int .i64 a)) (List.map encZ ((x, v) :: r)) i =
    (match eqc [.d (.int .i64 a)] [.d (.int .i64 x)] [(0, 0)] with
    | some true => some (some (i, v))
    | some false => mfind true 1 [(0, 0)] (.s (.int .i64 a)) (List.map encZ r) (i + 1)
    | none => none) := rfl
  rw [e1, eqc_int]
  simp only [ifind]
  by_cases h : a = x
  ·rw [decide_eq_true h, if_pos h]
  ·rw [decide_eq_false h, if_neg h]; exact ih (i + 1)
theorem vlk_ints {a : Int} {m : Isc} {ml : List (DV × DV)} {ok : Bool} {z : AV} {K : AV → Prop} (mlh : m.map encZ = ml) (h0 : ifind a m 0 = none → K (lkR ok z false)) (h1 : ∀ i v, ifind a m 0 = some (i, v) → K (lkR ok (avDV v) true)) :
  ∀ r, mfind true 1 [(0, 0)] (.s (.int .i64 a)) ml 0 = r → vLk ok z K r := by
 intro r hr
 rw [← mlh, mfind_ints] at hr
 subst hr
 cases hp : ifind a m 0 with
 | none => exact h0 hp
 | some p => exact h1 p.1 p.2 hp
theorem vup_ints {a : Int} {m : Isc} {ml : List (DV × DV)} {vd : DV} {K : List (DV × DV) → Prop} (mlh : m.map encZ = ml) (h0 : ifind a m 0 = none → ∀ es', (m ++ [(a, vd)]).map encZ = es' → K es') (h1 : ∀ i v, ifind a m 0 = some (i, v) → ∀ es', (m.set i (a, vd)).map encZ = es' → K es') :
  ∀ r, mfind true 1 [(0, 0)] (.s (.int .i64 a)) ml 0 = r → vUp ml (.s (.int .i64 a)) vd K r := by
 intro r hr
 have hm : mfind true 1 [(0, 0)] (.s (.int .i64 a)) ml 0 = some (ifind a m 0) := by rw [← mlh, mfind_ints]
 rw [hm] at hr
 subst hr
 cases hp : ifind a m 0 with
 | none => intro es' he; exact h0 hp es' (by rw [he, ← mlh]; simp [encZ])
 | some p => intro es' he; exact h1 p.1 p.2 hp es' (by rw [he, ← mlh, List.map_set]; rfl)
theorem ifind_none {k : Int} {m : Isc} : ∀ {i : Nat}, ifind k m i = none ↔ k ∉ m.map (·.1) := by
 induction m with
 | nil => intro i; simp [ifind]
 | cons e r ih =>
  intro i
  simp only [ifind, List.map_cons, List.mem_cons, not_or]
  split
  ·rename_i h; simp [h]
  ·rename_i h; rw [ih]; simp [h]
theorem ifind_some {k : Int} {m : Isc} {v : DV} : ∀ {i j : Nat}, ifind k m i = some (j, v) → i ≤ j ∧ m[j - i]? = some (k, v) := by
 induction m with
 | nil => intro i j h; simp [ifind] at h
 | cons e r ih =>
  intro i j h
  simp only [ifind] at h
  split at h
  ·rename_i hk
   cases h
   exact ⟨Nat.le_refl _, by rw [hk]; simp⟩
  ·obtain ⟨h1, h2⟩ := ih h
   refine ⟨by omega, ?_⟩
   rw [show j - i = (j - (i + 1)) + 1 by omega]; simpa using h2
end Go.Ab

/-
  Updates, part c: bits; small functions of the program.
-/
namespace Go.Ab
open Go.Proofs
/-! bits -/
theorem wrapu32 {x : Int} (h : 0 ≤ x) (h' : x < 4294967296) : IntKind.u32.wrap x = x := by
 have : IntKind.u32.wrap x = x % 4294967296 := by
  simp [IntKind.wrap, IntKind.bits, IntKind.signed]
 rw [this]; omega
theorem wrapu64 {x : Int} (h : 0 ≤ x) (h' : x < 18446744073709551616) : IntKind.u64.wrap x = x := by
 have : IntKind.u64.wrap x = x % 18446744073709551616 := by
  simp [IntKind.wrap, IntKind.bits, IntKind.signed]
 rw [this]; omega
theorem shr1u {x y : Int} (h : y = x.fdiv (2 ^ (min (Int.toNat 1) (IntKind.bits .u64)))) : y = x / 2 := by
 rw [h]
 have : (2 : Int) ^ (min (Int.toNat 1) (IntKind.bits .u64)) = 2 := by decide
 rw [this, Int.fdiv_eq_ediv_of_nonneg _ (by omega)]
theorem bv32 {m : Nat} : BitVec.ofInt 32 (m : Int) = BitVec.ofNat 32 m := BitVec.ofInt_natCast 32 m
theorem or_lt {m n : Nat} (hm : m < 4294967296) (hn : n < 4294967296) : m ||| n < 4294967296 := Nat.or_lt_two_pow (n := 32) hm hn
theorem orU {a b c : Int} {m n : Nat} (ha : a = m) (hb : b = n) (hm : m < 4294967296) (hn : n < 4294967296) (hc : c = ((m ||| n : Nat) : Int)) : binD .or (.int .u32 a) (.int .u32 b) = some (.int .u32 c) := by
 subst ha hb hc
 have e : binD .or (.int .u32 m) (.int .u32 n) = some (.int .u32 (IntKind.u32.wrap (BitVec.ofInt 32 (m : Int) ||| BitVec.ofInt 32 (n : Int)).toNat)) := rfl
 rw [e, bv32, bv32, BitVec.toNat_or, BitVec.toNat_ofNat, BitVec.toNat_ofNat, Nat.mod_eq_of_lt hm, Nat.mod_eq_of_lt hn, wrapu32 (by omega) (by have := or_lt hm hn; omega)]
theorem andU {a b c : Int} {m n : Nat} (ha : a = m) (hb : b = n) (hm : m < 4294967296) (hn : n < 4294967296) (hc : c = ((m &&& n : Nat) : Int)) : binD .and (.int .u32 a) (.int .u32 b) = some (.int .u32 c) := by
 subst ha hb hc
 have e : binD .and (.int .u32 m) (.int .u32 n) = some (.int .u32 (IntKind.u32.wrap (BitVec.ofInt 32 (m : Int) &&& BitVec.ofInt 32 (n : Int)).toNat)) := rfl
 have hl : m &&& n ≤ m := Nat.and_le_left
 rw [e, bv32, bv32, BitVec.toNat_and, BitVec.toNat_ofNat, BitVec.toNat_ofNat, Nat.mod_eq_of_lt hm, Nat.mod_eq_of_lt hn, wrapu32 (by omega) (by omega)]
theorem andNotU {a b : Int} {m n : Nat} (ha : a = m) (hb : b = n) (hm : m < 4294967296) (hn : n < 4294967296) : ∃ c : Int, binD .andNot (.int .u32 a) (.int .u32 b) = some (.int .u32 c) ∧ (c = 0 ↔ ∀ i, m.testBit i = true → n.testBit i = true) := by
 subst ha hb
 have e : binD .andNot (.int .u32 m) (.int .u32 n) = some (.int .u32 (IntKind.u32.wrap (BitVec.ofInt 32 (m : Int) &&& ~~~ BitVec.ofInt 32 (n : Int)).toNat)) := rfl
 refine ⟨_, e, ?_⟩
 have h1 : (BitVec.ofInt 32 (m : Int) &&& ~~~ BitVec.ofInt 32 (n : Int)).toNat < 4294967296 := BitVec.isLt _
 rw [wrapu32 (by omega) (by omega), bv32, bv32]
 have hbit : ∀ i, (BitVec.ofNat 32 m &&& ~~~ BitVec.ofNat 32 n).toNat.testBit i = (m.testBit i && !n.testBit i) := by
  intro i
  rw [BitVec.testBit_toNat, BitVec.getLsbD_and, BitVec.getLsbD_not, BitVec.getLsbD_ofNat, BitVec.getLsbD_ofNat]
  by_cases hi : i < 32
  ·simp [hi]
  ·have h2 : m.testBit i = false := Nat.testBit_lt_two_pow (Nat.lt_of_lt_of_le hm (by rw [show (4294967296 : Nat) = 2 ^ 32 from rfl]; exact Nat.pow_le_pow_right (by omega) (by omega)))
   simp [hi, h2]
 constructor
 ·intro h i hi
  have h0 : (BitVec.ofNat 32 m &&& ~~~ BitVec.ofNat 32 n).toNat = 0 := by omega
  have := hbit i
  rw [h0, Nat.zero_testBit, hi] at this
  simpa using this.symm
 ·intro h
  have : (BitVec.ofNat 32 m &&& ~~~ BitVec.ofNat 32 n).toNat = 0 := by
   apply Nat.eq_of_testBit_eq
   intro i
   rw [hbit, Nat.zero_testBit]
   cases hm' : m.testBit i with
   | false => rfl
   | true => rw [h i hm']; rfl
  omega
theorem shlU {b c : Int} {i : Nat} (hb : b = i) (hi : i < 32) (hc : c = IntKind.u32.wrap (1 * 2 ^ (min b.toNat (IntKind.bits .u32)))) : c = ((2 ^ i : Nat) : Int) := by
 subst hb
 have h1 : min (i : Int).toNat (IntKind.bits .u32) = i := by
  show min (i : Int).toNat 32 = i
  omega
 have h2 : 2 ^ i < 4294967296 := Nat.pow_lt_pow_right (by omega) hi
 have h3 : ((2 : Int) ^ i) = ((2 ^ i : Nat) : Int) := (Int.natCast_pow 2 i).symm
 rw [h1, Int.one_mul, h3] at hc
 generalize 2 ^ i = q at *
 rw [hc, wrapu32 (by omega) (by omega)]
theorem pow_lt32 {i : Nat} (hi : i < 32) : 2 ^ i < 4294967296 := Nat.pow_lt_pow_right (by omega) hi
theorem bitS_lt {m i : Nat} (hm : m < 4294967296) (hi : i < 32) : bitS m i < 4294967296 := or_lt hm (pow_lt32 hi)
theorem shrU {a b c : Int} {m i : Nat} (ha : a = m) (hb : b = i) (hi : i < 32) (hc : c = a.fdiv (2 ^ (min b.toNat (IntKind.bits .u32)))) : c = ((m / 2 ^ i : Nat) : Int) := by
 subst ha hb
 have h1 : min (i : Int).toNat (IntKind.bits .u32) = i := by
  show min (i : Int).toNat 32 = i
  omega
 have h3 : ((2 : Int) ^ i) = ((2 ^ i : Nat) : Int) := (Int.natCast_pow 2 i).symm
 rw [h1, h3, Int.fdiv_eq_ediv_of_nonneg _ (Int.natCast_nonneg _)] at hc
 rw [hc, Int.natCast_ediv]
theorem tb_div {m i : Nat} : ((m / 2 ^ i) &&& 1 = 1) ↔ m.testBit i = true := by
 rw [Nat.testBit_eq_decide_div_mod_eq, decide_eq_true_eq, Nat.and_one_is_mod]
theorem tb_and {m i : Nat} : (m &&& 2 ^ i = 0) ↔ m.testBit i = false := by
 constructor
 ·intro h
  have := Nat.testBit_and m (2 ^ i) i
  rw [h, Nat.zero_testBit, Nat.testBit_two_pow_self, Bool.and_true] at this
  exact this.symm
 ·intro h
  apply Nat.eq_of_testBit_eq
  intro j
  rw [Nat.testBit_and, Nat.zero_testBit, Nat.testBit_two_pow]
  by_cases e : i = j
  ·subst e; simp [h]
  ·simp [e]
theorem full_tb {n i : Nat} : (fullM n).testBit i = true ↔ i < n := by
 rw [fullM, Nat.testBit_two_pow_sub_one, decide_eq_true_eq]
theorem fullU {a b c : Int} {n : Nat} (hn : n < 32) (ha : a = ((2 ^ n : Nat) : Int)) (hc : c = IntKind.u32.wrap (a - 1)) : c = (fullM n : Nat) := by
 have h1 := pow_lt32 hn
 have h2 : 0 < 2 ^ n := Nat.two_pow_pos n
 rw [hc, wrapu32 (by omega) (by omega), fullM]; omega
theorem full_lt {n : Nat} (hn : n < 32) : fullM n < 4294967296 := by have := pow_lt32 hn; rw [fullM]; omega
/-! sets of numbers, as maps -/
theorem vlk_iset {a : Int} {m : Isc} {ml : List (DV × DV)} {z : AV} {K : AV → Prop} (mlh : m.map encZ = ml) (hall : ∀ e ∈ m, e.2 = .s (.bool true)) (h0 : a ∉ m.map (·.1) → K z) (h1 : a ∈ m.map (·.1) → K (bA true)) :
  ∀ r, mfind true 1 [(0, 0)] (.s (.int .i64 a)) ml 0 = r → vLk false z K r := by
 refine vlk_ints mlh (fun h => h0 (ifind_none.1 h)) fun i v h => ?_
 have hm := List.mem_of_getElem? (ifind_some h).2
 have := hall _ hm
 simp only at this
 subst this
 exact h1 (List.mem_map.2 ⟨_, hm, rfl⟩)
def setI (l : List Int) : List (DV × DV) := l.map fun i => (.s (iD i), .s (.bool true))
theorem setI_enc (l : List Int) : (l.map fun i => (i, DV.s (.bool true))).map encZ = setI l := by rw [List.map_map]; rfl
theorem vlk_setI {a : Int} {l : List Int} {ml : List (DV × DV)} {z : AV} {K : AV → Prop} (mlh : setI l = ml) (h0 : a ∉ l → K z) (h1 : a ∈ l → K (bA true)) :
  ∀ r, mfind true 1 [(0, 0)] (.s (.int .i64 a)) ml 0 = r → vLk false z K r := by
 have hk : ((l.map fun i => (i, DV.s (.bool true))) : Isc).map (·.1) = l := by simp [Function.comp_def]
 refine vlk_iset ((setI_enc l).trans mlh) (fun e he => ?_) (fun h => h0 (by rw [hk] at h; exact h)) fun h => h1 (by rw [hk] at h; exact h)
 obtain ⟨i, _, rfl⟩ := List.mem_map.1 he
 rfl
theorem vup_setI {a : Int} {l : List Int} {ml : List (DV × DV)} {K : List (DV × DV) → Prop} (mlh : setI l = ml) (h0 : a ∉ l → ∀ es', setI (l ++ [a]) = es' → K es') (h1 : a ∈ l → K ml) :
  ∀ r, mfind true 1 [(0, 0)] (.s (.int .i64 a)) ml 0 = r → vUp ml (.s (.int .i64 a)) (.s (.bool true)) K r := by
 have hk : ((l.map fun i => (i, DV.s (.bool true))) : Isc).map (·.1) = l := by simp [Function.comp_def]
 refine vup_ints ((setI_enc l).trans mlh) (fun h es' he => ?_) fun i v h es' he => ?_
 ·rw [ifind_none, hk] at h
  subst he
  refine h0 h _ ?_
  rw [List.map_append, setI_enc, setI, List.map_append]
  rfl
 ·have hg := (ifind_some h).2
  rw [Nat.sub_zero] at hg
  have hm := List.mem_of_getElem? hg
  obtain ⟨j, hj, e⟩ := List.mem_map.1 hm
  simp only [Prod.mk.injEq] at e
  obtain ⟨rfl, rfl⟩ := e
  rw [set_same hg, setI_enc, mlh] at he
  subst he
  exact h1 hj
/-! looking for a number in an increasing list -/
def posS (l : List Int) (x : Int) : Nat := (l.filter fun y => decide (y < x)).length
theorem posS_eq {l : List Int} {x : Int} {i : Nat} (hi : i ≤ l.length) (h1 : ∀ k y, l[k]? = some y → k < i → y < x) (h2 : ∀ k y, l[k]? = some y → i ≤ k → x ≤ y) : posS l x = i := by
 have e : l = l.take i ++ l.drop i := (List.take_append_drop i l).symm
 rw [posS, e, List.filter_append, List.filter_eq_self.2, List.filter_eq_nil_iff.2, List.append_nil, List.length_take]
 ·omega
 ·intro y hy
  obtain ⟨k, hk⟩ := List.mem_iff_getElem?.1 hy
  rw [List.getElem?_drop] at hk
  have := h2 _ y hk (by omega)
  simp only [decide_eq_true_eq]; omega
 ·intro y hy
  obtain ⟨k, hk⟩ := List.mem_iff_getElem?.1 hy
  rw [List.getElem?_take] at hk
  split at hk
  ·exact decide_eq_true (h1 k y hk (by omega))
  ·cases hk
theorem inc_le {l : List Int} (h : l.Pairwise (· < ·)) {i j : Nat} {x y : Int} (hi : l[i]? = some x) (hj : l[j]? = some y) (hij : i ≤ j) : x ≤ y := by
 by_cases e : i = j
 ·subst e; rw [hi] at hj; cases hj; exact Int.le_refl _
 ·have h1 := get_lt hi
  have h2 := get_lt hj
  have := List.pairwise_iff_getElem.1 h i j h1 h2 (by omega)
  rw [List.getElem?_eq_getElem h1] at hi
  rw [List.getElem?_eq_getElem h2] at hj
  cases hi; cases hj; omega
theorem posS_idx {l : List Int} (h : l.Pairwise (· < ·)) {x : Int} (hx : x ∈ l) : posS l x = l.idxOf x := by
 have hg := idx_get hx
 refine posS_eq (by have := get_lt hg; omega) (fun k y hk hlt => ?_) fun k y hk hle => inc_le h hg hk hle
 have h1 := get_lt hk
 have h2 := get_lt hg
 have := List.pairwise_iff_getElem.1 h k (l.idxOf x) h1 h2 hlt
 rw [List.getElem?_eq_getElem h1] at hk
 rw [List.getElem?_eq_getElem h2] at hg
 cases hk
 rw [Option.some.inj hg] at this
 exact this
theorem nanS_ok (P : Program) (hP : P = Try.prog) (x : Int) : Ret P n_slices_isNaN_int [iA x] (bA false) := by
 refine ret_start (hP ▸ mixed) (hP ▸ fn_slices_isNaN_int) (hP ▸ c_slices_isNaN_int) (Nat.le_of_ble_eq_true rfl) fun Λ Λo K hK => ?_
 clear hP
 conv => cbv
 repeat' first | exact gu | exact trivial | refine And.intro ?_ ?_ | (intro hc; exact absurd hc (by decide)) | (intro hc; exfalso; omega) | (intro hc; (first | rw [wrap_small (by omega) (by omega)] at hc | rw [nI_eq] at hc | skip); try (conv => cbv))
 exact hK
theorem nanC_ok (P : Program) (hP : P = Try.prog) (x : Int) : Ret P n_cmp_isNaN_int [iA x] (bA false) := by
 refine ret_start (hP ▸ mixed) (hP ▸ fn_cmp_isNaN_int) (hP ▸ c_cmp_isNaN_int) (Nat.le_of_ble_eq_true rfl) fun Λ Λo K hK => ?_
 clear hP
 conv => cbv
 repeat' first | exact gu | exact trivial | refine And.intro ?_ ?_ | (intro hc; exact absurd hc (by decide)) | (intro hc; exfalso; omega) | (intro hc; (first | rw [wrap_small (by omega) (by omega)] at hc | rw [nI_eq] at hc | skip); try (conv => cbv))
 exact hK
theorem less_ok (P : Program) (hP : P = Try.prog) (x y : Int) : Ret P n_cmp_Less_int [iA x, iA y] (bA (decide (x < y))) := by
 have hn := nanC_ok P hP
 refine ret_start (hP ▸ mixed) (hP ▸ fn_cmp_Less_int) (hP ▸ c_cmp_Less_int) (Nat.le_of_ble_eq_true rfl) fun Λ Λo K hK => ?_
 clear hP
 have yes := yes_of hK
 have no := no_of hK
 clear hK
 conv => cbv
 repeat' first | refine call_b (hn _) rfl rfl ?_ ?_ | exact gu | exact trivial | refine And.intro ?_ ?_ | (intro hc; exact absurd hc (by decide)) | (intro hc; exfalso; omega) | (intro hc; (first | rw [wrap_small (by omega) (by omega)] at hc | rw [nI_eq] at hc | skip); try (conv => cbv))
 ·exact yes (by assumption)
 ·exact no (by assumption)
theorem search_ok (P : Program) (hP : P = Try.prog) (l : List Int) (x : Int) (hl : l.length ≤ 1000000) (hs : l.Pairwise (· < ·)) : Ret P n_slices_BinarySearch_int_int [intsA l, iA x] (.tup [iA (posS l x), bA (decide (x ∈ l))]) := by
 have hls := less_ok P hP
 have hnn := nanS_ok P hP
 refine ret_start (hP ▸ mixed) (hP ▸ fn_slices_BinarySearch_int_int) (hP ▸ c_slices_BinarySearch_int_int) (Nat.le_of_ble_eq_true rfl) fun Λ Λo K hK => ?_
 clear hP
 have leaf : ∀ (c : Int) (b : Bool), c = posS l x → b = decide (x ∈ l) → K (.tup [iA c, bA b]) := fun c b h1 h2 => by rw [h1, h2]; exact hK
 clear hK
 simp only [intsA, intsD] at *
 generalize llh : List.map encI l = ll at *
 have lln : Λ ll = l.length := by rw [Λo, ← llh]; simp
 conv => cbv
 repeat' first | exact gu | exact trivial | refine And.intro ?_ ?_ | (intro hc; exact absurd hc (by decide)) | (intro hc; exfalso; omega) | (intro hc; (first | rw [wrap_small (by omega) (by omega)] at hc | rw [nI_eq] at hc | skip); try (conv => cbv))
 refine loop_upx l.length (fun s : Int × Int => [(0, .c (.d (.list false 1 ll))), (1, iA x), (6, iA (Λ ll)), (7, iA s.1), (8, iA s.2)]) (fun _ => [])
  (fun k s => 0 ≤ s.1 ∧ s.1 ≤ s.2 ∧ s.2 ≤ l.length ∧ s.2 - s.1 + k ≤ l.length ∧ (∀ (j : Nat) (y : Int), l[j]? = some y → (j : Int) < s.1 → y < x) ∧ (∀ (j : Nat) (y : Int), l[j]? = some y → s.2 ≤ (j : Int) → x ≤ y)) (0, (l.length : Int)) 0
  (fun s : Int => [(0, .c (.d (.list false 1 ll))), (1, iA x), (6, iA (Λ ll)), (7, iA s)]) (fun _ => [])
  (fun s => 0 ≤ s ∧ s ≤ l.length ∧ (∀ (j : Nat) (y : Int), l[j]? = some y → (j : Int) < s → y < x) ∧ (∀ (j : Nat) (y : Int), l[j]? = some y → s ≤ (j : Int) → x ≤ y)) (by rw [← lln]; exact Wk.cw) ⟨by omega, by omega, by omega, by omega, fun j y _ h => by omega, fun j y hj h => by have := get_lt hj; omega⟩ (fun k s h => by have := h.2.1; have := h.2.2.2.1; omega) ?_ ?_
 ·rintro k ⟨i, j⟩ Q' ⟨h1, h2, h3, h4, h5, h6⟩ norm jn ex rt
  simp only at h1 h2 h3 h4 h5 h6
  by_cases hlt : i < j
  ·clear jn
   obtain ⟨m, hm⟩ : ∃ m : Int, m = (i + j) / 2 := ⟨_, rfl⟩
   obtain ⟨y, hy⟩ : ∃ y, l[m.toNat]? = some y := ⟨_, List.getElem?_eq_getElem (by omega)⟩
   have hya := elt_at llh (i := m) (by omega) hy
   have hy2 := hls y x
   have up : y < x → ∀ (k : Nat) (z : Int), l[k]? = some z → (k : Int) < m + 1 → z < x := fun hyx k z hk hkm => by
    have := inc_le hs hk hy (by omega); omega
   have dn : ¬ y < x → ∀ (k : Nat) (z : Int), l[k]? = some z → m ≤ (k : Int) → x ≤ z := fun hyx k z hk hkm => by
    have := inc_le hs hy hk (by omega); omega
   clear hs hls hnn
   conv => cbv
   repeat' first | (refine ex _ _ _ ?_; (conv => cbv)) | (refine rt _ _ ?_; (conv => cbv)) | (intro c hc; rw [wrapu64 (by omega) (by omega)] at hc; (conv => cbv)) | (intro c hc; replace hc := shr1u hc; (conv => cbv)) | (intro c hc; rw [wrap_small (by omega) (by omega)] at hc; refine (fun (hz : m = c) => ?_) (by omega); subst hz; (conv => cbv)) | (intro (e : List D) he; cases Option.some.inj (he.symm.trans hya); (conv => cbv)) | refine call_b hy2 rfl rfl ?_ ?_ | exact gu | exact trivial | refine And.intro ?_ ?_ | (intro hc; exact absurd hc (by decide)) | (intro hc; exfalso; omega) | (intro hc; (first | rw [wrap_small (by omega) (by omega)] at hc | rw [nI_eq] at hc | skip); try (conv => cbv))
   ·refine norm _ _ (_, _) ?_ (Wk.cw)
    have hyx : y < x := of_decide_eq_true (by assumption)
    exact ⟨by simp only; omega, by simp only; omega, h3, by simp only; omega, fun k z hk hlt => up hyx k z hk (by simp only at hlt; omega), h6⟩
   ·refine norm _ _ (_, _) ?_ (Wk.cw)
    have hyx : ¬ y < x := of_decide_eq_false (by assumption)
    exact ⟨h1, by simp only; omega, by simp only; omega, by simp only; omega, h5, fun k z hk hlt => dn hyx k z hk (by simp only at hlt; omega)⟩
  ·clear norm
   conv => cbv
   repeat' first | exact gu | exact trivial | refine And.intro ?_ ?_ | (intro hc; exact absurd hc (by decide)) | (intro hc; exfalso; omega) | (intro hc; (first | rw [wrap_small (by omega) (by omega)] at hc | rw [nI_eq] at hc | skip); try (conv => cbv))
   exact jn _ _ i ⟨h1, by omega, h5, fun k y hk hle => h6 k y hk (by omega)⟩ (Wk.cw)
 ·rintro i ⟨h1, h2, h3, h4⟩
  have hpos := posS_eq (i := i.toNat) (l := l) (x := x) (by omega) (fun k y hk hlt => h3 k y hk (by omega)) fun k y hk hle => h4 k y hk (by omega)
  by_cases hil : i < l.length
  ·obtain ⟨y, hy⟩ : ∃ y, l[i.toNat]? = some y := ⟨_, List.getElem?_eq_getElem (by omega)⟩
   have hya := elt_at llh (i := i) (by omega) hy
   have hmem : x ∈ l ↔ y = x := by
    constructor
    ·intro hx
     have := posS_idx hs hx
     have hg := idx_get hx
     rw [← this, hpos, hy] at hg
     exact Option.some.inj hg
    ·rintro rfl; exact List.mem_of_getElem? hy
   clear hls h3 h4
   conv => cbv
   repeat' first | (refine ex _ _ _ ?_; (conv => cbv)) | (refine rt _ _ ?_; (conv => cbv)) | (intro (e : List D) he; cases Option.some.inj (he.symm.trans hya); (conv => cbv)) | refine call_b (hnn _) rfl rfl ?_ ?_ | exact gu | exact trivial | refine And.intro ?_ ?_ | (intro hc; exact absurd hc (by decide)) | (intro hc; exfalso; omega) | (intro hc; (first | rw [wrap_small (by omega) (by omega)] at hc | rw [nI_eq] at hc | skip); try (conv => cbv))
   ·exact leaf _ _ (by omega) (decide_eq_true (hmem.2 (by assumption))).symm
   ·exact leaf _ _ (by omega) (decide_eq_false (fun h => absurd (hmem.1 h) (by assumption))).symm
  ·have hno : x ∉ l := fun hx => by
    obtain ⟨k, hk⟩ := List.mem_iff_getElem?.1 hx
    have := h3 k x hk (by have := get_lt hk; omega)
    omega
   clear hls h3 h4
   conv => cbv
   repeat' first | (refine ex _ _ _ ?_; (conv => cbv)) | (refine rt _ _ ?_; (conv => cbv)) | exact gu | exact trivial | refine And.intro ?_ ?_ | (intro hc; exact absurd hc (by decide)) | (intro hc; exfalso; omega) | (intro hc; (first | rw [wrap_small (by omega) (by omega)] at hc | rw [nI_eq] at hc | skip); try (conv => cbv))
   exact leaf _ _ (by omega) (decide_eq_false hno).symm
theorem equalI_ok (P : Program) (hP : P = Try.prog) (l m : List Int) : Ret P n_slices_Equal_int_int [intsA l, intsA m] (bA (decide (l = m))) := by
 refine ret_start (hP ▸ mixed) (hP ▸ fn_slices_Equal_int_int) (hP ▸ c_slices_Equal_int_int) (Nat.le_of_ble_eq_true rfl) fun Λ Λo K hK => ?_
 clear hP
 have yes := yes_of hK
 have no := no_of hK
 simp only [intsA, intsD] at *
 generalize llh : List.map encI l = ll at *
 have lln : Λ ll = l.length := by rw [Λo, ← llh]; simp
 generalize mlh : List.map encI m = ml at *
 have mln : Λ ml = m.length := by rw [Λo, ← mlh]; simp
 conv => cbv
 repeat' first | exact gu | exact trivial | refine And.intro ?_ ?_ | (intro hc; exact absurd hc (by decide)) | (intro hc; exfalso; omega) | (intro hc; (first | rw [wrap_small (by omega) (by omega)] at hc | rw [nI_eq] at hc | skip); try (conv => cbv))
 ·exact no fun h => by subst h; omega
 refine loop_up l.length (fun i : Int => [(0, .c (.d (.list false 1 ll))), (1, .c (.d (.list false 1 ml))), (12, iA (Λ ll)), (13, iA i)]) (fun _ => []) (fun k i => i = k ∧ k ≤ l.length ∧ l.take k = m.take k) 0 (Wk.cw) ⟨rfl, by omega, by simp⟩ (fun k s h => h.2.1) ?_
 rintro k i Q' ⟨hi, hk, hno⟩ norm ex rt
 conv => cbv
 repeat' first | (refine ex _ _ _ ?_; (conv => cbv)) | (refine rt _ _ ?_; (conv => cbv)) | (intro e he; obtain ⟨x, hx, rfl⟩ := map_get' llh he; (conv => cbv)) | (intro e he; obtain ⟨y, hy, rfl⟩ := map_get' mlh he; (conv => cbv)) | exact gu | exact trivial | refine And.intro ?_ ?_ | (intro hc; exact absurd hc (by decide)) | (intro hc; exfalso; omega) | (intro hc; (first | rw [wrap_small (by omega) (by omega)] at hc | rw [nI_eq] at hc | skip); try (conv => cbv))
 ·refine no fun h => ?_
  subst h; rw [hx] at hy; cases hy; exact hc rfl
 ·refine norm _ _ _ ?_ (Wk.cw)
  exact ⟨by omega, by omega, by rw [take_succ_get (get_at hx (by omega)), take_succ_get (get_at hy (by omega)), hno, show x = y by omega]⟩
 ·exact yes (by rw [List.take_of_length_le (by omega), List.take_of_length_le (by omega)] at hno; exact hno)
theorem nodup_atU {l : List Int} {k : Nat} {a : Int} (h : l.Nodup) (hk : l[k]? = some a) : a ∉ l.take k := by
 intro hm
 rw [← List.take_append_drop k l, List.nodup_append] at h
 have hd : a ∈ l.drop k := List.mem_of_getElem? (i := 0) (by rw [List.getElem?_drop]; exact hk)
 exact h.2.2 a hm a hd rfl
theorem named_false {l : List Tn} (h : ¬ ((l.map (·.id)).Nodup ∧ l.length ≤ 12)) : namedS l = false := by
 rw [Bool.eq_false_iff]; intro h1; exact h (namedS_spec.1 h1)
theorem distinct_ok (P : Program) (hP : P = Try.prog) (l : List Tn) : Ret P n_update_distinct [tnsA l] (bA (namedS l)) := by
 refine ret_start (hP ▸ mixed) (hP ▸ fn_update_distinct) (hP ▸ c_update_distinct) (Nat.le_of_ble_eq_true rfl) fun Λ Λo K hK => ?_
 clear hP
 have yes : (l.map (·.id)).Nodup → l.length ≤ 12 → K (bA true) := fun h1 h2 => by rw [namedS_spec.2 ⟨h1, h2⟩] at hK; exact hK
 have no : ¬ ((l.map (·.id)).Nodup ∧ l.length ≤ 12) → K (bA false) := fun h => by rw [named_false h] at hK; exact hK
 clear hK
 simp only [tnsA, tnsD] at *
 generalize llh : l.map encTn = ll at *
 have lln : Λ ll = l.length := by rw [Λo, ← llh]; simp
 conv => cbv
 repeat' first | exact gu | exact trivial | refine And.intro ?_ ?_ | (intro hc; exact absurd hc (by decide)) | (intro hc; exfalso; omega) | (intro hc; (first | rw [wrap_small (by omega) (by omega)] at hc | rw [nI_eq] at hc | skip); try (conv => cbv))
 ·exact no (by omega)
 refine loop_up l.length (fun s : Int × Nat × List (DV × DV) => [(3, .c (.mp 0)), (10, .c (.d (.list false 3 ll))), (11, iA (Λ ll)), (12, iA s.1)]) (fun s => [.mp s.2.1 s.2.2])
  (fun k s => s.1 = k ∧ k ≤ l.length ∧ setI ((l.take k).map (·.id)) = s.2.2 ∧ ((l.take k).map (·.id)).Nodup) (0, 0, []) (Wk.cw) ⟨rfl, by omega, rfl, by simp⟩ (fun k s h => h.2.1) ?_
 rintro k ⟨i, v, es⟩ Q' ⟨hi, hk, hes, hnd⟩ norm ex rt
 simp only at hi hes
 by_cases hlt : k < l.length
 ·obtain ⟨x, hx⟩ : ∃ x, l[k]? = some x := ⟨_, List.getElem?_eq_getElem hlt⟩
  have hxa := elt_at llh hi hx
  have htk := take_succ_get hx
  obtain ⟨xi, xa, xr⟩ := x
  simp only [encTn, intsD] at hxa
  generalize xa.map encI = xl at *
  conv => cbv
  repeat' first | (refine ex _ _ _ ?_; (conv => cbv)) | (refine rt _ _ ?_; (conv => cbv)) | (intro e he; cases Option.some.inj (he.symm.trans hxa); (conv => cbv)) | (refine vlk_setI hes (fun h0 => ?_) (fun h0 => ?_) <;> (conv => cbv)) | (refine vup_setI hes (fun _ es' he' => ?_) (fun h1 => absurd h1 h0); (conv => cbv)) | exact gu | exact trivial | refine And.intro ?_ ?_ | (intro hc; exact absurd hc (by decide)) | (intro hc; exfalso; omega) | (intro hc; (first | rw [wrap_small (by omega) (by omega)] at hc | rw [nI_eq] at hc | skip); try (conv => cbv))
  ·refine norm _ _ (_, _, _) ?_ (Wk.cw)
   rw [htk, List.map_append]
   exact ⟨by simp only; omega, by omega, he', by
    rw [List.nodup_append]
    exact ⟨hnd, by simp, fun a ha b hb e => by simp only [List.map_cons, List.map_nil, List.mem_singleton] at hb; subst hb; subst e; exact h0 ha⟩⟩
  ·refine no fun h => ?_
   have h1 : (l.map (·.id))[k]? = some xi := by rw [List.getElem?_map, hx]; rfl
   exact nodup_atU h.1 h1 (by rw [← List.map_take]; exact h0)
 ·conv => cbv
  repeat' first | (refine ex _ _ _ ?_; (conv => cbv)) | (refine rt _ _ ?_; (conv => cbv)) | exact gu | exact trivial | refine And.intro ?_ ?_ | (intro hc; exact absurd hc (by decide)) | (intro hc; exfalso; omega) | (intro hc; (first | rw [wrap_small (by omega) (by omega)] at hc | rw [nI_eq] at hc | skip); try (conv => cbv))
  rw [List.take_of_length_le (by omega)] at hnd
  exact yes hnd (by omega)
end Go.Ab

/-
  Updates, part h: the program's test of a set of tunnels.
-/
namespace Go.Ab
open Go.Proofs
theorem pproper_ok (P : Program) (hP : P = Try.prog) (t : Top) (l : List Tn) : Ret P n_update_Proper [topA t, tnsA l] (bA (properS t l)) := by
 have hv := tvalid_ok P hP t
 have hn := distinct_ok P hP l
 have ha := fun a h => garc_ok P hP t a h
 have hhas := fun l n => contains_ok P hP l n
 refine ret_start (hP ▸ mixed) (hP ▸ fn_update_Proper) (hP ▸ c_update_Proper) (Nat.le_of_ble_eq_true rfl) fun Λ Λo K hK => ?_
 clear hP
 have yes : validT t = true → namedS l = true → (∀ x ∈ l, okTn (2 * (t.links.length : Int)) x) → K (bA true) := fun h1 h2 h3 => by
  rw [properS, h1, h2, decide_eq_true h3] at hK; exact hK
 have no : ¬ (validT t = true ∧ namedS l = true ∧ ∀ x ∈ l, okTn (2 * (t.links.length : Int)) x) → K (bA false) := fun h => by
  have : properS t l = false := by
   rw [Bool.eq_false_iff]
   intro h1
   simp only [properS, Bool.and_eq_true, decide_eq_true_eq, and_assoc] at h1
   exact h h1
  rw [this] at hK; exact hK
 clear hK
 cases hvt : validT t with
 | false =>
  rw [hvt] at hv no
  have no2 := no (by simp)
  simp only [tnsA, tnsD] at *
  generalize tlh : l.map encTn = tl at *
  obtain ⟨nodes, ov, links⟩ := t
  simp only [topA, boolsD, linksD] at *
  generalize hol : ov.map encB = ol at *
  generalize hll : links.map encLk = ll at *
  have hlo : Λ ol = ov.length := by rw [Λo, ← hol]; simp
  have hls : Λ ll = links.length := by rw [Λo, ← hll]; simp
  conv => cbv
  repeat' first | refine call_b hv rfl rfl ?_ ?_ | exact gu | exact trivial | refine And.intro ?_ ?_ | (intro hc; exact absurd hc (by decide)) | (intro hc; exfalso; omega) | (intro hc; (first | rw [wrap_small (by omega) (by omega)] at hc | rw [nI_eq] at hc | skip); try (conv => cbv))
  exact no2
 | true =>
  rw [hvt] at hv no
  have yes2 := yes hvt
  have h256 := (validT_spec.1 hvt).2.2.1
  have ha := fun a => ha a (by omega)
  generalize hN : 2 * (t.links.length : Int) = N at *
  have hN5 : 0 ≤ N ∧ N ≤ 512 := by omega
  clear hvt hN h256
  cases hnn : namedS l with
  | false =>
   rw [hnn] at hn no
   have no2 := no (by simp)
   simp only [tnsA, tnsD] at *
   generalize tlh : l.map encTn = tl at *
   obtain ⟨nodes, ov, links⟩ := t
   simp only [topA, boolsD, linksD] at *
   generalize hol : ov.map encB = ol at *
   generalize hll : links.map encLk = ll at *
   have hlo : Λ ol = ov.length := by rw [Λo, ← hol]; simp
   have hls : Λ ll = links.length := by rw [Λo, ← hll]; simp
   conv => cbv
   repeat' first | refine call_b hv rfl rfl ?_ ?_ | refine call_b hn rfl rfl ?_ ?_ | exact gu | exact trivial | refine And.intro ?_ ?_ | (intro hc; exact absurd hc (by decide)) | (intro hc; exfalso; omega) | (intro hc; (first | rw [wrap_small (by omega) (by omega)] at hc | rw [nI_eq] at hc | skip); try (conv => cbv))
   exact no2
  | true =>
   rw [hnn] at hn no
   have yes3 := yes2 hnn
   have no3 : ∀ x ∈ l, ¬ okTn N x → K (bA false) := fun x hx hno => no fun h => hno (h.2.2 x hx)
   have h12 := (namedS_spec.1 hnn).2
   clear hnn yes yes2 no
   simp only [tnsA, tnsD] at *
   generalize tlh : l.map encTn = tl at *
   have tln : Λ tl = l.length := by rw [Λo, ← tlh]; simp
   obtain ⟨nodes, ov, links⟩ := t
   simp only [topA, boolsD, linksD] at *
   generalize hol : ov.map encB = ol at *
   generalize hll : links.map encLk = ll at *
   have hlo : Λ ol = ov.length := by rw [Λo, ← hol]; simp
   have hls : Λ ll = links.length := by rw [Λo, ← hll]; simp
   conv => cbv
   repeat' first | refine call_b hv rfl rfl ?_ ?_ | refine call_b hn rfl rfl ?_ ?_ | exact gu | exact trivial | refine And.intro ?_ ?_ | (intro hc; exact absurd hc (by decide)) | (intro hc; exfalso; omega) | (intro hc; (first | rw [wrap_small (by omega) (by omega)] at hc | rw [nI_eq] at hc | skip); try (conv => cbv))
   clear hv hn
   refine loop_up l.length (fun i : Int => [(2, .c (.ptr 0 0 0 0)), (17, .c (.d (.list false 3 tl))), (18, iA (Λ tl)), (19, iA i)]) (fun _ => [.bx [.d (iD nodes), .d (.list false 1 ol), .d (.list false 7 ll)]]) (fun k i => i = k ∧ k ≤ l.length ∧ ∀ x ∈ l.take k, okTn N x) 0 (Wk.cw) ⟨rfl, by omega, by simp⟩ (fun k s h => h.2.1) ?_
   rintro k i Q' ⟨hi, hk, hok⟩ norm ex rt
   by_cases hlt : k < l.length
   ·obtain ⟨x, hx⟩ : ∃ x, l[k]? = some x := ⟨_, List.getElem?_eq_getElem hlt⟩
    have hxa := elt_at tlh hi hx
    have htk := take_succ_get hx
    have no := no3 x (List.mem_of_getElem? hx)
    clear yes3 no3
    have next : okTn N x → ∀ z ∈ l.take (k + 1), okTn N z := fun h z hz => by
     rw [htk] at hz
     rcases List.mem_append.1 hz with hz | hz
     ·exact hok z hz
     ·simp only [List.mem_singleton] at hz; subst hz; exact h
    clear hok
    obtain ⟨xi, xa, xr⟩ := x
    unfold okTn at no next
    simp only [encTn, intsD] at hxa no next
    obtain ⟨xl, xlh⟩ : ∃ xl, xa.map encI = xl := ⟨_, rfl⟩
    rw [xlh] at hxa
    have xln : Λ xl = xa.length := by rw [Λo, ← xlh]; simp
    conv => cbv
    repeat' first | (refine ex _ _ _ ?_; (conv => cbv)) | (refine rt _ _ ?_; (conv => cbv)) | (intro e he; cases Option.some.inj (he.symm.trans hxa); (conv => cbv)) | exact gu | exact trivial | refine And.intro ?_ ?_ | (intro hc; exact absurd hc (by decide)) | (intro hc; exfalso; omega) | (intro hc; (first | rw [wrap_small (by omega) (by omega)] at hc | rw [nI_eq] at hc | skip); try (conv => cbv))
    all_goals try (exact no (by omega))
    refine loop_upx xa.length (fun j : Int => [(2, .c (.ptr 0 0 0 0)), (6, .c (.ptr 1 0 0 0)), (17, .c (.d (.list false 3 tl))), (18, iA (Λ tl)), (19, iA i), (49, .c (.d (.list false 1 xl))), (50, iA (Λ xl)), (51, iA j)]) (fun _ => [.bx [.d (iD nodes), .d (.list false 1 ol), .d (.list false 7 ll)], .bx [.d (iD xi), .d (.list false 1 xl), .d (iD xr)]])
     (fun m j => j = m ∧ m ≤ xa.length ∧ (xa.take m).Nodup ∧ ∀ a ∈ xa.take m, 0 ≤ a ∧ a < N) 0 2
     (fun (_ : Unit) => [(2, .c (.ptr 0 0 0 0)), (17, .c (.d (.list false 3 tl))), (18, iA (Λ tl)), (19, iA i)]) (fun _ => [.bx [.d (iD nodes), .d (.list false 1 ol), .d (.list false 7 ll)]]) (fun _ => xa.Nodup ∧ ∀ a ∈ xa, 0 ≤ a ∧ a < N) (Wk.cw) ⟨rfl, by omega, by simp, by simp⟩ (fun k s h => h.2.1) ?_ ?_
    ·rintro m j Q2 ⟨hj, hm, hnd, hrg⟩ norm2 jn ex2 rt2
     by_cases hml : m < xa.length
     ·clear jn norm
      obtain ⟨y, hy⟩ : ∃ y, xa[m]? = some y := ⟨_, List.getElem?_eq_getElem hml⟩
      have hya := elt_at xlh hj hy
      have hhy := hhas (xa.take m) y
      have hay := ha y
      have jm : j.toNat = m := by omega
      obtain ⟨sl, hsl⟩ : ∃ sl, sl = List.take (Int.toNat j) xl := ⟨_, rfl⟩
      rw [intsA, intsD, List.map_take, xlh, ← jm, ← hsl, jm] at hhy
      conv => cbv
      repeat' first | (intro e he; cases Option.some.inj (he.symm.trans hya); (conv => cbv)) | refine call_b hay rfl rfl ?_ ?_ | (intro (z : List (List D)) hz; refine (fun (hq : sl = z) => ?_) (hsl.trans hz.symm); subst hq; (conv => cbv)) | refine call_b hhy rfl rfl ?_ ?_ | (refine rt2 _ _ ?_; (conv => cbv)) | (refine rt _ _ ?_; (conv => cbv)) | exact gu | exact trivial | refine And.intro ?_ ?_ | (intro hc; exact absurd hc (by decide)) | (intro hc; exfalso; omega) | (intro hc; (first | rw [wrap_small (by omega) (by omega)] at hc | rw [nI_eq] at hc | skip); try (conv => cbv))
      ·exact no fun h => nodup_atU h.2.2.2.1 hy (of_decide_eq_true (by assumption))
      ·refine norm2 _ _ _ ?_ (Wk.cw)
       have hny : y ∉ xa.take m := of_decide_eq_false (by assumption)
       rw [take_succ_get hy]
       refine ⟨by omega, by omega, ?_, ?_⟩
       ·rw [List.nodup_append]
        exact ⟨hnd, by simp, fun a ha b hb => by simp only [List.mem_singleton] at hb; subst hb; intro e; subst e; exact hny ha⟩
       ·intro a ha
        rcases List.mem_append.1 ha with ha | ha
        ·exact hrg a ha
        ·simp only [List.mem_singleton] at ha; subst ha; exact of_decide_eq_true (by assumption)
      ·exact no fun h => absurd (h.2.2.2.2 y (List.mem_of_getElem? hy)) (of_decide_eq_false (by assumption))
     ·obtain rfl : m = xa.length := by omega
      rw [List.take_length] at hnd hrg
      clear norm2
      conv => cbv
      repeat' first | exact gu | exact trivial | refine And.intro ?_ ?_ | (intro hc; exact absurd hc (by decide)) | (intro hc; exfalso; omega) | (intro hc; (first | rw [wrap_small (by omega) (by omega)] at hc | rw [nI_eq] at hc | skip); try (conv => cbv))
      exact jn _ _ () ⟨hnd, hrg⟩ (Wk.cw)
    ·rintro - ⟨hnd, hrg⟩
     conv => cbv
     repeat' first | exact gu | exact trivial | refine And.intro ?_ ?_ | (intro hc; exact absurd hc (by decide)) | (intro hc; exfalso; omega) | (intro hc; (first | rw [wrap_small (by omega) (by omega)] at hc | rw [nI_eq] at hc | skip); try (conv => cbv))
     refine norm _ _ _ ?_ (Wk.cw)
     exact ⟨by omega, by omega, next ⟨by omega, by omega, by omega, hnd, hrg⟩⟩
   ·rw [List.take_of_length_le (by omega)] at hok
    conv => cbv
    repeat' first | (refine ex _ _ _ ?_; (conv => cbv)) | (refine rt _ _ ?_; (conv => cbv)) | exact gu | exact trivial | refine And.intro ?_ ?_ | (intro hc; exact absurd hc (by decide)) | (intro hc; exfalso; omega) | (intro hc; (first | rw [wrap_small (by omega) (by omega)] at hc | rw [nI_eq] at hc | skip); try (conv => cbv))
    exact yes3 hok
end Go.Ab

/-
  The engine: a contract over a few blocks, used where these blocks are some of many.
-/
namespace Go.Ab
section
variable {G : Nat → Prop} {w : World} {ιc ι : Io} {hc h : Hp} {ρ : Nat → Nat}
theorem Kept.rn {ι' ιc' : Io} {w' : World} {i l : Nat} {k k' : Blk} (hk : Kept ιc ιc' w w' i k k') (h1 : ι[l]? = ιc[i]?) (h2 : ι'[l]? = ιc'[i]?) : Kept ι ι' w w' l (rnB ρ k) (rnB ρ k') := by
 cases k' with
 | dead => cases k <;> trivial
 | am m' =>
  cases k with
  | am m => trivial
  | _ => simp [Kept] at hk
 | bx cs' =>
  cases k with
  | bx cs => exact ⟨by rw [rnCs_len, rnCs_len]; exact hk.1, by rw [h1, h2]; exact hk.2⟩
  | _ => simp [Kept] at hk
 | da r' v' sz' es' =>
  cases k with
  | da r v sz es =>
   rcases hk with hk | ⟨a1, a2, a3, a4, a5, a6⟩
   ·exact .inl hk
   ·exact .inr ⟨a1, a2, a3, a4, by rw [h1, h2]; exact a5, fun hr b o hb => a6 hr b o (by rw [← h1]; exact hb)⟩
  | _ => simp [Kept] at hk
 | mp v' es' =>
  cases k with
  | mp v es =>
   obtain ⟨a1, a2⟩ := hk
   refine ⟨by rw [h1, h2]; exact a1, ?_⟩
   rcases a2 with a2 | ⟨a2, a3, a4⟩
   ·exact .inl a2
   ·exact .inr ⟨a2, a3, fun b o hb => a4 b o (by rw [← h1]; exact hb)⟩
  | _ => simp [Kept] at hk
 | mi m' v' es' =>
  cases k with
  | mi m v es =>
   obtain ⟨a1, a2, a3⟩ := hk
   exact ⟨by rw [a1], a2, by rw [h1, h2]; exact a3⟩
  | _ => simp [Kept] at hk
end
def setAll {α : Type} : List α → List Nat → List α → List α
 | h, [], _ => h
 | h, _ :: _, [] => h
 | h, l :: σ, b :: bs => setAll (h.set l b) σ bs
theorem setAll_len {α : Type} : ∀ (σ : List Nat) (h bs : List α), (setAll h σ bs).length = h.length
 | [], _, _ => by simp only [setAll]
 | _ :: _, _, [] => by simp only [setAll]
 | l :: σ, h, b :: bs => by simp only [setAll]; rw [setAll_len σ]; simp
theorem setAll_other {α : Type} : ∀ (σ : List Nat) (h bs : List α) (l : Nat), l ∉ σ → (setAll h σ bs)[l]? = h[l]?
 | [], _, _, _, _ => by simp only [setAll]
 | _ :: _, _, [], _, _ => by simp only [setAll]
 | l :: σ, h, b :: bs, l', hn => by
  simp only [setAll]
  rw [setAll_other σ _ bs l' (fun hm => hn (List.mem_cons_of_mem _ hm)), List.getElem?_set_ne (fun (e : l = l') => hn (by rw [e]; exact List.mem_cons_self ..))]
theorem setAll_at {α : Type} : ∀ (σ : List Nat) (h bs : List α) (i l : Nat) (b : α), σ.Nodup → (∀ l ∈ σ, l < h.length) → σ[i]? = some l → bs[i]? = some b → (setAll h σ bs)[l]? = some b
 | [], _, _, _, _, _, _, _, h1, _ => by simp at h1
 | _ :: _, _, [], _, _, _, _, _, _, h2 => by simp at h2
 | l0 :: σ, h, b0 :: bs, i, l, b, hn, hl, h1, h2 => by
  simp only [setAll]
  cases i with
  | zero =>
   simp at h1 h2
   subst h1 h2
   rw [setAll_other σ _ bs l0 (List.nodup_cons.1 hn).1, List.getElem?_set_self (hl l0 (List.mem_cons_self ..))]
  | succ i =>
   exact setAll_at σ _ bs i l b (List.nodup_cons.1 hn).2 (fun x hx => by simpa using hl x (List.mem_cons_of_mem _ hx)) (by simpa using h1) (by simpa using h2)
def rho : List Nat → Nat → Nat → Nat
 | [], n, i => n + i
 | l :: _, _, 0 => l
 | _ :: σ, n, i + 1 => rho σ n i
theorem rho_old : ∀ (σ : List Nat) (n i : Nat), i < σ.length → σ[i]? = some (rho σ n i)
 | [], _, _, h => by simp at h
 | l :: σ, n, 0, _ => rfl
 | l :: σ, n, i + 1, h => by simpa [rho] using rho_old σ n i (by simpa using h)
theorem rho_new : ∀ (σ : List Nat) (n i : Nat), σ.length ≤ i → rho σ n i = n + (i - σ.length)
 | [], _, _, _ => rfl
 | l :: σ, n, 0, h => by simp at h
 | l :: σ, n, i + 1, h => by simp only [rho, List.length_cons]; rw [rho_new σ n i (by simpa using h)]; omega
def backH (h : Hp) (σ : List Nat) (hc : Hp) : Hp := setAll h σ (rnH (rho σ h.length) hc) ++ rnH (rho σ h.length) (hc.drop σ.length)
def backI (ι : Io) (σ : List Nat) (ιc : Io) : Io := setAll ι σ ιc ++ ιc.drop σ.length
theorem FnS.frame {P : Program} {f : Nat} {args : List AV} {hc : Hp} {R : AV → Hp → Prop} (hf : FnS P f args hc R) (σ : List Nat) (h : Hp) (hlen : σ.length = hc.length) (hnd : σ.Nodup)
    (hh : ∀ i k, hc[i]? = some k → h[rho σ h.length i]? = some (rnB (rho σ h.length) k)) (hcl : refsH hc.length hc = true) (hca : ∀ x ∈ args, refsA hc.length x = true) :
    FnS P f (rnAs (rho σ h.length) args) h fun r' h' => ∃ r hc', R r hc' ∧ r' = rnA (rho σ h.length) r ∧ h' = backH h σ hc' := by
  refine ⟨fun G ι w vs hr hv => ?_⟩
  have hlt : ∀ l ∈ σ, l < h.length := by
    intro l hl
    obtain ⟨i, hi, rfl⟩ := List.getElem_of_mem hl
    have h1 := rho_old σ h.length i hi
    rw [List.getElem?_eq_getElem hi] at h1
    have h2 := hh i _ (List.getElem?_eq_getElem (by omega))
    rw [← Option.some.inj h1] at h2
    exact get_lt h2
  have hιl : ∀ l ∈ σ, l < ι.length := fun l hl => by rw [hr.len]; exact hlt l hl
  generalize hρ : rho σ h.length = ρ at *
  have rold : ∀ i, i < σ.length → σ[i]? = some (ρ i) := fun i hi => by rw [← hρ]; exact rho_old σ _ i hi
  have rnew : ∀ i, σ.length ≤ i → ρ i = h.length + (i - σ.length) := fun i hi => by rw [← hρ]; exact rho_new σ _ i hi
  have rmem : ∀ i, i < σ.length → ρ i ∈ σ := fun i hi => List.mem_of_getElem? (rold i hi)
  have rinj : ∀ i j, ρ i = ρ j → i = j := by
    intro i j e
    rcases Nat.lt_or_ge i σ.length with hi | hi <;> rcases Nat.lt_or_ge j σ.length with hj | hj
    · have h1 := rold i hi
      have h2 := rold j hj
      rw [e, ← h2] at h1
      exact (List.getElem?_inj hi hnd).1 h1
    · have := hlt _ (rmem i hi); have := rnew j hj; omega
    · have := hlt _ (rmem j hj); have := rnew i hi; omega
    · have := rnew i hi; have := rnew j hj; omega
  let ιc : Io := σ.map fun l => (ι[l]?).getD (0, 0)
  have hιc : ∀ i, i < σ.length → ιc[i]? = ι[ρ i]? := by
    intro i hi
    simp only [ιc, List.getElem?_map, rold i hi, Option.map_some]
    rw [List.getElem?_eq_getElem (hιl _ (rmem i hi))]; rfl
  have am : Among ρ ιc hc ι h := ⟨hh, fun i k hk => (hιc i (by rw [hlen]; exact get_lt hk)).symm⟩
  have hrc : HR G ιc hc w := HR.down am hr (by simp [ιc, hlen]) (fun i j _ _ e => rinj i j e) hcl
  have hvc : VRs G w ιc hc vs args := by
    refine ⟨by rw [hv.1, rnAs_len], fun i v x h1 h2 => ?_⟩
    exact (hv.2 i v (rnA ρ x) h1 (by rw [rnAs_get, h2]; rfl)).unrn am (hca x (List.mem_of_getElem? h2))
  refine (hf.out G ιc w vs hrc hvc).mono fun e w2 ⟨v, r, G2, ι2, hc2, he, hR, hr2, hvr, hx⟩ => ?_
  have hl2 : hc.length ≤ hc2.length := by
    rcases Nat.lt_or_ge hc2.length hc.length with hb | hb
    · obtain ⟨k', h1, _⟩ := hx.keep hc2.length _ (List.getElem?_eq_getElem hb)
      have := get_lt h1; omega
    · exact hb
  have hl2' : ι2.length = hc2.length := hr2.len
  have hset : (setAll h σ (rnH ρ hc2)).length = h.length := setAll_len σ h _
  have hseti : (setAll ι σ ι2).length = h.length := by rw [setAll_len, hr.len]
  have hbh : backH h σ hc2 = setAll h σ (rnH ρ hc2) ++ rnH ρ (hc2.drop σ.length) := by simp only [backH, hρ]
  -- the callee's blocks, at the caller
  have am2 : Among ρ ι2 hc2 (backI ι σ ι2) (backH h σ hc2) := by
    rw [hbh]
    constructor
    · intro i k hk
      rcases Nat.lt_or_ge i σ.length with hi | hi
      · rw [List.getElem?_append_left (by rw [hset]; exact hlt _ (rmem i hi))]
        exact setAll_at σ h _ i _ _ hnd hlt (rold i hi) (by rw [rnH_get, hk]; rfl)
      · rw [rnew i hi, List.getElem?_append_right (by omega), hset, rnH_get, List.getElem?_drop]
        rw [show σ.length + (h.length + (i - σ.length) - h.length) = i by omega, hk]; rfl
    · intro i k hk
      unfold backI
      have hi2 : ι2[i]? = some (ι2[i]'(by rw [hl2']; exact get_lt hk)) := List.getElem?_eq_getElem _
      rcases Nat.lt_or_ge i σ.length with hi | hi
      · rw [List.getElem?_append_left (by rw [hseti]; exact hlt _ (rmem i hi)), hi2]
        exact setAll_at σ ι _ i _ _ hnd hιl (rold i hi) hi2
      · rw [rnew i hi, List.getElem?_append_right (by omega), hseti, List.getElem?_drop]
        rw [show σ.length + (h.length + (i - σ.length) - h.length) = i by omega]
  -- each of the caller's blocks is one of the callee's, or as it was
  have part : ∀ l k', (backH h σ hc2)[l]? = some k' → (∃ i k, hc2[i]? = some k ∧ l = ρ i ∧ k' = rnB ρ k) ∨ (h[l]? = some k' ∧ l ∉ σ ∧ (backI ι σ ι2)[l]? = ι[l]?) := by
    intro l k' hk'
    by_cases hm : l ∈ σ
    · obtain ⟨i, hi, rfl⟩ := List.getElem_of_mem hm
      have e : σ[i] = ρ i := by have := rold i hi; rw [List.getElem?_eq_getElem hi] at this; exact Option.some.inj this
      have hki : hc2[i]? = some (hc2[i]'(by omega)) := List.getElem?_eq_getElem _
      have := am2.blk i _ hki
      rw [e, this] at hk'
      exact .inl ⟨i, _, hki, e, (Option.some.inj hk').symm⟩
    · rcases Nat.lt_or_ge l h.length with hl | hl
      · rw [hbh, List.getElem?_append_left (by omega), setAll_other σ h _ l hm] at hk'
        exact .inr ⟨hk', hm, by unfold backI; rw [List.getElem?_append_left (by omega), setAll_other σ ι _ l hm]⟩
      · rw [hbh, List.getElem?_append_right (by omega), hset, rnH_get, List.getElem?_drop, Option.map_eq_some_iff] at hk'
        obtain ⟨k, h1, rfl⟩ := hk'
        exact .inl ⟨_, k, h1, by rw [rnew _ (by omega)]; omega, rfl⟩
  have other : ∀ l b k, h[l]? = some k → l ∉ σ → own1 ι l k b → b < w.heap.size ∧ ¬ owned ιc hc b := by
    intro l b k h1 h2 h3
    refine ⟨owned_lt hr ⟨l, k, h1, h3⟩, fun ho => ?_⟩
    obtain ⟨i, kc, g1, g2, g3, g4⟩ := owned_rn am ho
    have := hr.own l (ρ i) b k _ h1 g4 h3 g3
    exact h2 (this ▸ rmem i (by rw [hlen]; exact get_lt g1))
  have same : ∀ l b k, h[l]? = some k → l ∉ σ → own1 ι l k b → w2.heap[b]? = w.heap[b]? := by
    intro l b k h1 h2 h3
    have := other l b k h1 h2 h3
    exact hx.frame b this.1 this.2
  have hext : Ext G ι h w G2 (backI ι σ ι2) (backH h σ hc2) w2 :=
    { size := hx.size
      quiet := hx.quiet
      frame := fun b hb ho => hx.frame b hb fun ho' => ho (owned_up am ho')
      gmono := hx.gmono
      gnew := fun b hb => by
        rcases hx.gnew b hb with h1 | h1 | h1
        · exact .inl h1
        · exact .inr (.inl h1)
        · exact .inr (.inr (owned_up am h1))
      onew := fun b ⟨l, k, h2, h3⟩ => by
        rcases part l k h2 with ⟨i, kc, g1, rfl, rfl⟩ | ⟨g1, g2, g3⟩
        · rcases hx.onew b ⟨i, kc, g1, (own1_rn (am2.at' i kc g1)).1 h3⟩ with h4 | h4
          · exact .inl (owned_up am h4)
          · exact .inr h4
        · exact .inl ⟨l, k, g1, own1_io h3 fun _ => g3.symm⟩
      keep := fun l k hk => by
        by_cases hm : l ∈ σ
        · obtain ⟨i, hi, rfl⟩ := List.getElem_of_mem hm
          have e : σ[i] = ρ i := by have := rold i hi; rw [List.getElem?_eq_getElem hi] at this; exact Option.some.inj this
          have hki : hc[i]? = some (hc[i]'(by omega)) := List.getElem?_eq_getElem _
          rw [e, hh i _ hki] at hk
          cases hk
          obtain ⟨k', g1, g2⟩ := hx.keep i _ hki
          exact ⟨rnB ρ k', by rw [e]; exact am2.blk i k' g1, by rw [e]; exact g2.rn (am.at' i _ hki) (am2.at' i k' g1)⟩
        · have hl : l < h.length := get_lt hk
          have e1 : (backH h σ hc2)[l]? = some k := by rw [hbh, List.getElem?_append_left (by omega), setAll_other σ h _ l hm]; exact hk
          have e2 : (backI ι σ ι2)[l]? = ι[l]? := by unfold backI; rw [List.getElem?_append_left (by omega), setAll_other σ ι _ l hm]
          exact ⟨k, e1, Kept.frame e2 fun b hb => same l b k hk hm hb⟩ }
  refine ⟨v, rnA ρ r, G2, backI ι σ ι2, backH h σ hc2, he, ⟨r, hc2, hR, rfl, rfl⟩, ?_, hvr.rn am2, hext⟩
  exact
    { len := by
        rw [hbh]; unfold backI
        simp only [List.length_append, hset, hseti, rnH_len, List.length_drop, hl2']
      own := by
        intro l l' b k k' h3 h4 h5 h6
        rcases part l k h3 with ⟨i, kc, g1, rfl, rfl⟩ | ⟨g1, g2, g3⟩ <;> rcases part l' k' h4 with ⟨i', kc', q1, rfl, rfl⟩ | ⟨q1, q2, q3⟩
        · rw [hr2.own i i' b kc kc' g1 q1 ((own1_rn (am2.at' i kc g1)).1 h5) ((own1_rn (am2.at' i' kc' q1)).1 h6)]
        · exfalso
          have ot := other l' b k' q1 q2 (own1_io h6 fun _ => q3.symm)
          rcases hx.onew b ⟨i, kc, g1, (own1_rn (am2.at' i kc g1)).1 h5⟩ with h7 | h7
          · exact ot.2 h7
          · omega
        · exfalso
          have ot := other l b k g1 g2 (own1_io h5 fun _ => g3.symm)
          rcases hx.onew b ⟨i', kc', q1, (own1_rn (am2.at' i' kc' q1)).1 h6⟩ with h7 | h7
          · exact ot.2 h7
          · omega
        · exact hr.own l l' b k k' g1 q1 (own1_io h5 fun _ => g3.symm) (own1_io h6 fun _ => q3.symm)
      g := by
        intro b hb
        refine ⟨(hr2.g b hb).1, fun ⟨l, k, h2, h3⟩ => ?_⟩
        rcases part l k h2 with ⟨i, kc, g1, rfl, rfl⟩ | ⟨g1, g2, g3⟩
        · exact (hr2.g b hb).2 ⟨i, kc, g1, (own1_rn (am2.at' i kc g1)).1 h3⟩
        · have h3' : own1 ι l k b := own1_io h3 fun _ => g3.symm
          have ot := other l b k g1 g2 h3'
          rcases hx.gnew b hb with h4 | h4 | h4
          · exact (hr.g b h4).2 ⟨l, k, g1, h3'⟩
          · omega
          · exact ot.2 h4
      blk := by
        intro l k hk
        rcases part l k hk with ⟨i, kc, g1, rfl, rfl⟩ | ⟨g1, g2, g3⟩
        · exact BR.rn am2 g1 (hr2.blk i kc g1)
        · exact BR.ext hext hr g1 g3 fun b hb => same l b k g1 g2 hb }
end Go.Ab

/-
  Contracts, part h: copies; the parts of a step.
-/
namespace Go.Ab
open Go.Proofs
theorem cloneInts_raw (P : Program) (hP : P = Try.prog) (ll : List (List D)) (hl : ll.length ≤ 1000000) : Ret P n_slices_Clone_int_int [.c (.d (.list false 1 ll))] (.c (.d (.list false 1 ll))) := by
 refine ret_start (hP ▸ mixed) (hP ▸ fn_slices_Clone_int_int) (hP ▸ c_slices_Clone_int_int) (Nat.le_of_ble_eq_true rfl) fun Λ Λo K hK => ?_
 clear hP
 have h0 : ll = [] → K (.c (.d (.list false 1 []))) := fun h => by rw [h] at hK; exact hK
 have lln := Λo ll
 conv => cbv
 repeat' first | exact gu | exact trivial | refine And.intro ?_ ?_ | (intro hc; exact absurd hc (by decide)) | (intro hc; exfalso; omega) | (intro hc; (first | rw [wrap_small (by omega) (by omega)] at hc | rw [nI_eq] at hc | skip); try (conv => cbv))
 ·rename_i m r es hm hr hes ls
  have : ls = ll := by subst hc hes hm; simp
  rw [this]; exact hK
 ·exact h0 hc
end Go.Ab

/-
  Calls over a few of the caller's blocks.
-/
namespace Go.Ab
open Go.Proofs
def frOk (h : Hp) (ρ : Nat → Nat) : Nat → Hp → Prop
 | _, [] => True
 | n, k :: r => h[ρ n]? = some (rnB ρ k) ∧ frOk h ρ (n + 1) r
theorem frOk_get {h : Hp} {ρ : Nat → Nat} : ∀ {hc : Hp} {n : Nat}, frOk h ρ n hc → ∀ i k, hc[i]? = some k → h[ρ (n + i)]? = some (rnB ρ k) := by
 intro hc
 induction hc with
 | nil => intro n _ i k h; simp at h
 | cons b r ih =>
  intro n ⟨h1, h2⟩ i k hk
  cases i with
  | zero => simp at hk; subst hk; exact h1
  | succ i =>
   simp at hk
   have := ih h2 i k hk
   rw [show n + 1 + i = n + (i + 1) by omega] at this; exact this
theorem call_fr {P : Program} {m : Nat} {L : Lv} {h : Hp} {f : Nat} {xs : List X} {K : Lv → AV → Hp → Prop} {args : List AV} {hc : Hp} {R : AV → Hp → Prop} (σ : List Nat) (hf : FnS P f args hc R) (ha : evsN L xs = rnAs (rho σ h.length) args) (hlen : σ.length = hc.length) (hnd : σ.Nodup)
  (hh : frOk h (rho σ h.length) 0 hc) (hcl : refsH hc.length hc = true) (hca : args.all (refsA hc.length) = true) (k : ∀ r hc', R r hc' → K L (rnA (rho σ h.length) r) (backH h σ hc')) : CallS P m false L h f xs K := by
 refine .fn ?_
 rw [ha]
 refine (hf.frame σ h hlen hnd (fun i b hb => by have := frOk_get hh i b hb; rw [Nat.zero_add] at this; exact this) hcl fun x hx => List.all_eq_true.1 hca x hx).mono ?_
 rintro r h' ⟨r0, hc', h1, rfl, rfl⟩
 exact k r0 hc' h1
theorem callv_fr {P : Program} {h : Hp} {f : Nat} {args' : List AV} {K : AV → Hp → Prop} {args : List AV} {hc : Hp} {R : AV → Hp → Prop} (σ : List Nat) (hf : FnS P f args hc R) (ha : args' = rnAs (rho σ h.length) args) (hlen : σ.length = hc.length) (hnd : σ.Nodup)
  (hh : frOk h (rho σ h.length) 0 hc) (hcl : refsH hc.length hc = true) (hca : args.all (refsA hc.length) = true) (k : ∀ r hc', R r hc' → K (rnA (rho σ h.length) r) (backH h σ hc')) : CallV P h f args' K := by
 refine .fn ?_
 rw [ha]
 refine (hf.frame σ h hlen hnd (fun i b hb => by have := frOk_get hh i b hb; rw [Nat.zero_add] at this; exact this) hcl fun x hx => List.all_eq_true.1 hca x hx).mono ?_
 rintro r h' ⟨r0, hc', h1, rfl, rfl⟩
 exact k r0 hc' h1
end Go.Ab

/-
  The engine: a function's new blocks, given up behind it.
-/
namespace Go.Ab
theorem FnS.cut {P : Program} {f : Nat} {args : List AV} {h : Hp} {R : AV → Hp → Prop} (hf : FnS P f args h R) (hc : ∀ r h', R r h' → refsA h.length r = true ∧ refsH h.length (h'.take h.length) = true) :
  FnS P f args h fun r h1 => ∃ h2, R r (h1 ++ h2) ∧ h1.length = h.length := by
 refine ⟨fun G ι w vs hr hv => ?_⟩
 refine (hf.out G ι w vs hr hv).mono fun e w2 ⟨v, r, G2, ι2, hc2, he, hR, hr2, hvr, hx⟩ => ?_
 have hl2 : h.length ≤ hc2.length := by
  rcases Nat.lt_or_ge hc2.length h.length with hb | hb
  ·obtain ⟨k', h1, _⟩ := hx.keep hc2.length _ (List.getElem?_eq_getElem hb)
   have := get_lt h1; omega
  ·exact hb
 obtain ⟨c1, c2⟩ := hc r hc2 hR
 have hlt : (hc2.take h.length).length = h.length := by rw [List.length_take]; omega
 let a : Act := ⟨#[v], []⟩
 have hfit : Fits 1 G ι h w (lkL [(0, r)]) hc2 a w2 := ⟨G2, ι2, ⟨hr2, rfl, rfl, fun i => by
  cases i with
  | zero => exact hvr
  | succ i => exact .c _ _ (.u _)⟩, hx⟩
 obtain ⟨G3, ι3, st⟩ := Wk.cut_fits (m := h.length) (L' := [(0, r)]) (h' := hc2.take h.length) ⟨hc2.drop h.length, (List.take_append_drop _ _).symm⟩ (by omega) (by rw [hlt]; exact c2)
  (by rw [hlt]; exact ⟨⟨rfl, c1⟩, trivial⟩) (Nat.le_refl _) hfit
 have hv0 := st.rel.env 0
 exact ⟨v, r, G3, ι3, hc2.take h.length, he, ⟨hc2.drop h.length, by rw [List.take_append_drop]; exact hR, hlt⟩, st.rel.hr, hv0, st.ext⟩
theorem Kept.unrn {ι ι2 ιc : Io} {w w2 : World} {l : Nat} {k kc : Blk} {ρ : Nat → Nat} (hk : Kept ι ι2 w w2 l k (rnB ρ kc)) (hi : ιc[l]? = ι2[l]?) (hm : ∀ m v es, kc ≠ .mi m v es) : Kept ι ιc w w2 l k kc := by
 cases kc with
 | dead => cases k <;> trivial
 | am m' =>
  cases k with
  | am m => trivial
  | _ => simp [rnB, Kept] at hk
 | bx cs' =>
  cases k with
  | bx cs => exact ⟨by have := hk.1; rw [rnCs_len] at this; exact this, by rw [hi]; exact hk.2⟩
  | _ => simp [rnB, Kept] at hk
 | da r' v' sz' es' =>
  cases k with
  | da r v sz es =>
   rcases hk with hk | ⟨a1, a2, a3, a4, a5, a6⟩
   ·exact .inl hk
   ·exact .inr ⟨a1, a2, a3, a4, by rw [hi]; exact a5, a6⟩
  | _ => simp [rnB, Kept] at hk
 | mp v' es' =>
  cases k with
  | mp v es => exact ⟨by rw [hi]; exact hk.1, hk.2⟩
  | _ => simp [rnB, Kept] at hk
 | mi m v es => exact absurd rfl (hm m v es)
end Go.Ab

/-
  The priority queue, part a: heaps, plainly (no program in sight).
-/
namespace Go.Ab
open Go.Proofs
def ltK (K : List Int) (a b : Int) : Prop := K.getD a.toNat 0 < K.getD b.toNat 0 ∨ (K.getD a.toNat 0 = K.getD b.toNat 0 ∧ a < b)
instance (K : List Int) (a b : Int) : Decidable (ltK K a b) := by unfold ltK; infer_instance
def leK (K : List Int) (a b : Int) : Prop := ¬ ltK K b a
theorem leK_trans {K : List Int} {a b c : Int} (h1 : leK K a b) (h2 : leK K b c) : leK K a c := by unfold leK ltK at *; omega
abbrev at' (O : List Int) (p : Nat) : Int := O.getD p 0
structure Pre (K O : List Int) (p : Nat) : Prop where
 e1 : ∀ c, 0 < c → c < O.length → c ≠ p → (c - 1) / 2 ≠ p → leK K (at' O ((c - 1) / 2)) (at' O c)
 e2 : ∀ c, 0 < p → 0 < c → c < O.length → (c - 1) / 2 = p → leK K (at' O ((p - 1) / 2)) (at' O c)
def HO (K O : List Int) : Prop := ∀ c, 0 < c → c < O.length → leK K (at' O ((c - 1) / 2)) (at' O c)
def swp (O : List Int) (p q : Nat) : List Int := (O.set p (at' O q)).set q (at' O p)
theorem swp_len (O : List Int) (p q : Nat) : (swp O p q).length = O.length := by simp [swp]
theorem swp_at {O : List Int} {p q : Nat} (hp : p < O.length) (hq : q < O.length) (c : Nat) : at' (swp O p q) c = if c = q then at' O p else if c = p then at' O q else at' O c := by
 simp only [at', swp, List.getD_eq_getElem?_getD, List.getElem?_set, List.length_set]
 by_cases h1 : c = q
 ·subst h1; simp [hq]
 ·have h1' : ¬ q = c := fun h => h1 h.symm
  simp only [if_neg h1, if_neg h1']
  by_cases h2 : c = p
  ·subst h2; simp [hp]
  ·have h2' : ¬ p = c := fun h => h2 h.symm
   simp only [if_neg h2, if_neg h2']
theorem Pre.up {K O : List Int} {p : Nat} (h : Pre K O p) (hp0 : 0 < p) (hp : p < O.length) (_hlt : ltK K (at' O p) (at' O ((p - 1) / 2))) : Pre K (swp O p ((p - 1) / 2)) ((p - 1) / 2) := by
 have hq : (p - 1) / 2 < O.length := by omega
 have hsw := swp_at hp hq
 have hqp : (p - 1) / 2 ≠ p := by omega
 refine ⟨fun c c0 cl cq cpq => ?_, fun c q0 c0 cl cpq => ?_⟩
 ·rw [swp_len] at cl
  rw [hsw, hsw, if_neg cpq, if_neg cq]
  by_cases h1 : c = p
  ·exact absurd (by rw [h1]) cpq
  ·rw [if_neg h1]
   by_cases h2 : (c - 1) / 2 = p
   ·rw [if_pos h2]; exact h.e2 c hp0 c0 cl h2
   ·rw [if_neg h2]; exact h.e1 c c0 cl h1 h2
 ·rw [swp_len] at cl
  have hg : ((p - 1) / 2 - 1) / 2 ≠ (p - 1) / 2 := by omega
  have hg2 : ((p - 1) / 2 - 1) / 2 ≠ p := by omega
  have e0 : leK K (at' O (((p - 1) / 2 - 1) / 2)) (at' O ((p - 1) / 2)) := h.e1 ((p - 1) / 2) q0 hq hqp (by omega)
  rw [hsw, hsw, if_neg hg, if_neg hg2]
  by_cases h1 : c = (p - 1) / 2
  ·omega
  ·rw [if_neg h1]
   by_cases h2 : c = p
   ·rw [if_pos h2]; exact e0
   ·rw [if_neg h2]
    have := h.e1 c c0 cl h2 (by omega)
    rw [cpq] at this
    exact leK_trans e0 this
structure PreD (K O : List Int) (p : Nat) : Prop where
 pre : Pre K O p
 top : 0 < p → leK K (at' O ((p - 1) / 2)) (at' O p)
theorem PreD.done {K O : List Int} {p : Nat} (h : PreD K O p) (hk : ∀ c, 0 < c → c < O.length → (c - 1) / 2 = p → leK K (at' O p) (at' O c)) : HO K O := by
 intro c c0 cl
 by_cases h1 : c = p
 ·subst h1; exact h.top c0
 ·by_cases h2 : (c - 1) / 2 = p
  ·rw [h2]; exact hk c c0 cl h2
  ·exact h.pre.e1 c c0 cl h1 h2
end Go.Ab

/-
  The priority queue, part b: the contracts of before and swap.
-/
namespace Go.Ab
open Go.Proofs
theorem heap_start {P : Program} {f : Nat} {fn : Func} {af : AF} {args : List AV} {h : Hp} {R : AV → Hp → Prop} (hm : P.follows .mixedOrders = true) (hf : P.funcs[f]? = some fn) (hc : compF P fn = some af) (hl : args.length ≤ af.nt)
  (hv : ∀ Λ : Len, (∀ l, Λ l = (l.length : Int)) → ∀ K : AV → Hp → Prop, (∀ r h', R r h' → K r h') → vcH P Λ af args h K) : FnS P f args h R := fn_heap hm hf hc hl fun Λ h => hv Λ h _ fun _ _ h => h
end Go.Ab

/-
  Updates, part i: whether a set holds a tunnel.
-/
namespace Go.Ab
open Go.Proofs
theorem callv_r {P : Program} {h : Hp} {f : Nat} {args args' : List AV} {K : AV → Hp → Prop} {r : AV} (hf : Ret P f args' r) (ha : args.map fgA = args') (hp : args'.all pureA = true) (k : K r h) : CallV P h f args K :=
 .pure (Or.inl ⟨args', .inl ha.symm, hp, hf⟩) k
theorem pequal_ok (P : Program) (hP : P = Try.prog) (x y : Tn) : Ret P n_update_Changed_1 [tnA x, tnA y] (bA (decide (x = y))) := by
 have hq := equalI_ok P hP x.arcs y.arcs
 refine ret_start (hP ▸ mixed) (hP ▸ fn_update_Changed_1) (hP ▸ c_update_Changed_1) (Nat.le_of_ble_eq_true rfl) fun Λ Λo K hK => ?_
 clear hP
 obtain ⟨xi, xa, xr⟩ := x
 obtain ⟨yi, ya, yr⟩ := y
 have yes : xi = yi → xr = yr → xa = ya → K (bA true) := fun h1 h2 h3 => by rw [h1, h2, h3, decide_eq_true rfl] at hK; exact hK
 have no : ¬ (xi = yi ∧ xr = yr ∧ xa = ya) → K (bA false) := fun h => by
  rw [decide_eq_false (fun e => h (by cases e; exact ⟨rfl, rfl, rfl⟩))] at hK; exact hK
 clear hK
 simp only [tnA, intsA, intsD] at *
 generalize xa.map encI = xl at *
 generalize ya.map encI = yl at *
 conv => cbv
 repeat' first | refine call_b hq rfl rfl ?_ ?_ | exact gu | exact trivial | refine And.intro ?_ ?_ | (intro hc; exact absurd hc (by decide)) | (intro hc; exfalso; omega) | (intro hc; (first | rw [wrap_small (by omega) (by omega)] at hc | rw [nI_eq] at hc | skip); try (conv => cbv))
 all_goals first | (refine no fun h => ?_; exact absurd h.2.2 (of_decide_eq_false (by assumption)); done) | (refine no fun h => ?_; omega) | exact yes (by assumption) (by assumption) (of_decide_eq_true (by assumption))
abbrev sameH (x : Tn) : Hp := [.bx [.fn false n_update_Changed_1 []], .bx [.d (iD x.id), .d (intsD x.arcs), .d (iD x.rate)]]
theorem psame_ok (P : Program) (hP : P = Try.prog) (x y : Tn) : FnS P n_update_Changed_2 [tnA y, .c (.ptr 0 0 0 0), .c (.ptr 1 0 0 0)] (sameH x) fun r h' => r = bA (decide (x = y)) ∧ h' = sameH x := by
 have h1 : FnS P n_update_Changed_2 [tnA y, .c (.ptr 0 0 0 0), .c (.ptr 1 0 0 0)] (sameH x) fun r h' => ∃ h2, r = bA (decide (x = y)) ∧ h' = sameH x ++ h2 := by
  have heq := pequal_ok P hP x y
  have hfo : FnOk P n_update_Changed_1 := hP ▸ ⟨_, fn_update_Changed_1, rfl, by decide⟩
  refine heap_start (hP ▸ mixed) (hP ▸ fn_update_Changed_2) (hP ▸ c_update_Changed_2) (Nat.le_of_ble_eq_true rfl) fun Λ Λo K hK => ?_
  clear hP
  have leaf : ∀ h2, K (bA (decide (x = y))) (sameH x ++ h2) := fun h2 => hK _ _ ⟨h2, rfl, rfl⟩
  clear hK
  generalize decide (x = y) = b at *
  obtain ⟨xi, xa, xr⟩ := x
  obtain ⟨yi, ya, yr⟩ := y
  simp only [sameH, tnA, intsD, List.cons_append, List.nil_append] at *
  generalize xa.map encI = xl at *
  generalize ya.map encI = yl at *
  conv => cbv
  repeat' first | exact hfo | (refine callv_r heq rfl rfl ?_; (conv => cbv)) | exact gu | exact trivial | refine And.intro ?_ ?_ | (intro hc; exact absurd hc (by decide)) | (intro hc; exfalso; omega) | (intro hc; (first | rw [wrap_small (by omega) (by omega)] at hc | rw [nI_eq] at hc | skip); try (conv => cbv))
  exact leaf [_]
 refine (FnS.cut h1 ?_).mono ?_
 ·rintro r' h' ⟨h2, rfl, rfl⟩
  exact ⟨rfl, rfl⟩
 ·rintro r' h1 ⟨h2, ⟨h3, rfl, e⟩, hl⟩
  exact ⟨rfl, (List.append_inj e hl).1⟩
theorem pindexf_ok (P : Program) (hP : P = Try.prog) (x : Tn) (l : List Tn) (hl : l.length ≤ 1000000) :
  FnS P n_slices_IndexFunc_update_Tunnel_update_Tunnel [tnsA l, .c (.fn false n_update_Changed_2 [.ptr 0 0 0 0, .ptr 1 0 0 0])] (sameH x) fun r h' => (∃ i : Int, r = iA i ∧ decide (0 ≤ i) = decide (x ∈ l)) ∧ h' = sameH x := by
 have hfo : FnOk P n_update_Changed_2 := hP ▸ ⟨_, fn_update_Changed_2, rfl, by decide⟩
 have h1 : FnS P n_slices_IndexFunc_update_Tunnel_update_Tunnel [tnsA l, .c (.fn false n_update_Changed_2 [.ptr 0 0 0 0, .ptr 1 0 0 0])] (sameH x) fun r h' => ∃ h2 i, decide (0 ≤ i) = decide (x ∈ l) ∧ r = iA i ∧ h' = sameH x ++ h2 := by
  have hcl := fun y => psame_ok P hP x y
  refine heap_start (hP ▸ mixed) (hP ▸ fn_slices_IndexFunc_update_Tunnel_update_Tunnel) (hP ▸ c_slices_IndexFunc_update_Tunnel_update_Tunnel) (Nat.le_of_ble_eq_true rfl) fun Λ Λo K hK => ?_
  clear hP
  have leaf : ∀ (i : Int) h2, decide (0 ≤ i) = decide (x ∈ l) → K (iA i) (sameH x ++ h2) := fun i h2 e => hK _ _ ⟨h2, i, e, rfl, rfl⟩
  clear hK
  obtain ⟨p, hp⟩ : ∃ p : Tn → Bool, p = fun y => decide (x = y) := ⟨_, rfl⟩
  have hpe : ∀ y, decide (x = y) = p y := fun y => by rw [hp]
  have hpx : ∀ y, p y = true ↔ x = y := fun y => by rw [hp]; exact decide_eq_true_iff
  simp only [hpe] at hcl
  clear hp hpe
  obtain ⟨b, hb⟩ : ∃ b, b = decide (x ∈ l) := ⟨_, rfl⟩
  have hyes : ∀ y ∈ l, p y = true → b = true := fun y hy h => by rw [hb]; rw [hpx] at h; subst h; exact decide_eq_true hy
  have hno : (∀ y ∈ l, p y = false) → b = false := fun h => by
   rw [hb]; refine decide_eq_false fun hx => ?_
   have := h x hx; rw [(hpx x).2 rfl] at this; cases this
  rw [← hb] at leaf
  clear hb hpx
  obtain ⟨xi, xa, xr⟩ := x
  simp only [sameH, tnA, tnsA, tnsD, intsD, List.cons_append, List.nil_append] at *
  generalize xa.map encI = xl at *
  generalize llh : l.map encTn = ll at *
  have lln : Λ ll = l.length := by rw [Λo, ← llh]; simp
  conv => cbv
  repeat' first | exact gu | exact trivial | refine And.intro ?_ ?_ | (intro hc; exact absurd hc (by decide)) | (intro hc; exfalso; omega) | (intro hc; (first | rw [wrap_small (by omega) (by omega)] at hc | rw [nI_eq] at hc | skip); try (conv => cbv))
  refine loop_up l.length (fun (i : Int) => [(0, .c (.d (.list false 3 ll))), (1, .c (.fn false n_update_Changed_2 [.ptr 0 0 0 0, .ptr 1 0 0 0])), (7, iA (Λ ll)), (8, iA i)])
   (fun _ => [.bx [.fn false n_update_Changed_1 []], .bx [.d (iD xi), .d (.list false 1 xl), .d (iD xr)]])
   (fun k i => i = k ∧ k ≤ l.length ∧ ∀ y ∈ l.take k, p y = false) 0 (Wk.ca) ⟨rfl, by omega, by simp⟩ (fun k s h => h.2.1) ?_
  rintro k i Q' ⟨hi, hk, hal⟩ norm ex rt
  by_cases hlt : k < l.length
  ·obtain ⟨y, hy⟩ : ∃ y, l[k]? = some y := ⟨_, List.getElem?_eq_getElem hlt⟩
   have hya := elt_at llh hi hy
   have hcly := hcl y
   have yes := hyes y (List.mem_of_getElem? hy)
   have nxt : p y = false → ∀ z ∈ l.take (k + 1), p z = false := fun h z hz => by
    rw [take_succ_get hy] at hz
    rcases List.mem_append.1 hz with hz | hz
    ·exact hal z hz
    ·simp only [List.mem_singleton] at hz; subst hz; exact h
   obtain ⟨yi, ya, yr⟩ := y
   simp only [encTn, intsD] at hya hcly
   generalize ya.map encI = yl at *
   generalize p ⟨yi, ya, yr⟩ = c at *
   conv => cbv
   repeat' first | (refine ex _ _ _ ?_; (conv => cbv)) | (refine rt _ _ ?_; (conv => cbv)) | (intro e he; cases Option.some.inj (he.symm.trans hya); (conv => cbv)) | exact hfo | (refine callv_fr [0, 1] hcly rfl rfl (by decide) (by repeat' first | exact trivial | refine And.intro ?_ ?_ | rfl) rfl rfl ?_; rintro r hc' ⟨rfl, rfl⟩; (conv => cbv)) | exact gu | exact trivial | refine And.intro ?_ ?_ | (intro hc; exact absurd hc (by decide)) | (intro hc; exfalso; omega) | (intro hc; (first | rw [wrap_small (by omega) (by omega)] at hc | rw [nI_eq] at hc | skip); try (conv => cbv))
   cases c with
   | true =>
    repeat' first | (refine ex _ _ _ ?_; (conv => cbv)) | (refine rt _ _ ?_; (conv => cbv)) | exact gu | exact trivial | refine And.intro ?_ ?_ | (intro hc; exact absurd hc (by decide)) | (intro hc; exfalso; omega) | (intro hc; (first | rw [wrap_small (by omega) (by omega)] at hc | rw [nI_eq] at hc | skip); try (conv => cbv))
    refine leaf _ [] ?_
    rw [yes rfl]; exact decide_eq_true (by omega)
   | false =>
    repeat' first | (refine ex _ _ _ ?_; (conv => cbv)) | (refine rt _ _ ?_; (conv => cbv)) | exact gu | exact trivial | refine And.intro ?_ ?_ | (intro hc; exact absurd hc (by decide)) | (intro hc; exfalso; omega) | (intro hc; (first | rw [wrap_small (by omega) (by omega)] at hc | rw [nI_eq] at hc | skip); try (conv => cbv))
    refine norm _ _ _ ?_ (Wk.ca)
    exact ⟨by omega, by omega, nxt rfl⟩
  ·obtain rfl : k = l.length := by omega
   rw [List.take_length] at hal
   conv => cbv
   repeat' first | (refine ex _ _ _ ?_; (conv => cbv)) | (refine rt _ _ ?_; (conv => cbv)) | exact gu | exact trivial | refine And.intro ?_ ?_ | (intro hc; exact absurd hc (by decide)) | (intro hc; exfalso; omega) | (intro hc; (first | rw [wrap_small (by omega) (by omega)] at hc | rw [nI_eq] at hc | skip); try (conv => cbv))
   refine leaf _ [] ?_
   rw [hno hal]; rfl
 refine (FnS.cut h1 ?_).mono ?_
 ·rintro r' h' ⟨h2, i, _, rfl, rfl⟩
  exact ⟨rfl, rfl⟩
 ·rintro r' h1 ⟨h2, ⟨h3, i, e1, rfl, e⟩, hl⟩
  exact ⟨⟨i, rfl, e1⟩, (List.append_inj e hl).1⟩
theorem pcontf_ok (P : Program) (hP : P = Try.prog) (x : Tn) (l : List Tn) (hl : l.length ≤ 1000000) :
  FnS P n_slices_ContainsFunc_update_Tunnel_update_Tunnel [tnsA l, .c (.fn false n_update_Changed_2 [.ptr 0 0 0 0, .ptr 1 0 0 0])] (sameH x) fun r h' => r = bA (decide (x ∈ l)) ∧ h' = sameH x := by
 have h1 : FnS P n_slices_ContainsFunc_update_Tunnel_update_Tunnel [tnsA l, .c (.fn false n_update_Changed_2 [.ptr 0 0 0 0, .ptr 1 0 0 0])] (sameH x) fun r h' => ∃ h2, r = bA (decide (x ∈ l)) ∧ h' = sameH x ++ h2 := by
  have hix := pindexf_ok P hP x l hl
  refine heap_start (hP ▸ mixed) (hP ▸ fn_slices_ContainsFunc_update_Tunnel_update_Tunnel) (hP ▸ c_slices_ContainsFunc_update_Tunnel_update_Tunnel) (Nat.le_of_ble_eq_true rfl) fun Λ Λo K hK => ?_
  clear hP
  have leaf : ∀ b h2, b = decide (x ∈ l) → K (bA b) (sameH x ++ h2) := fun b h2 e => hK _ _ ⟨h2, by rw [e], rfl⟩
  clear hK
  generalize decide (x ∈ l) = b at *
  obtain ⟨xi, xa, xr⟩ := x
  simp only [sameH, tnsA, tnsD, intsD, List.cons_append, List.nil_append] at *
  generalize xa.map encI = xl at *
  generalize l.map encTn = ll at *
  conv => cbv
  repeat' first | (refine call_fr [0, 1] hix rfl rfl (by decide) (by repeat' first | exact trivial | refine And.intro ?_ ?_ | rfl) rfl rfl ?_; rintro r hc' ⟨⟨i, rfl, hi⟩, rfl⟩; (conv => cbv)) | exact gu | exact trivial | refine And.intro ?_ ?_ | (intro hc; exact absurd hc (by decide)) | (intro hc; exfalso; omega) | (intro hc; (first | rw [wrap_small (by omega) (by omega)] at hc | rw [nI_eq] at hc | skip); try (conv => cbv))
  all_goals first | exact leaf _ [] (by rw [← hi]; exact (decide_eq_true (by omega)).symm) | exact leaf _ [] (by rw [← hi]; exact (decide_eq_false (by omega)).symm)
 refine (FnS.cut h1 ?_).mono ?_
 ·rintro r' h' ⟨h2, rfl, rfl⟩
  exact ⟨rfl, rfl⟩
 ·rintro r' h1 ⟨h2, ⟨h3, rfl, e⟩, hl⟩
  exact ⟨rfl, (List.append_inj e hl).1⟩
end Go.Ab

/-
  The engine: results that are new memory.
-/
namespace Go.Ab
def scalD : D → Bool
 | .bool _ => true
 | .int _ _ => true
 | .str _ => true
 | _ => false
theorem scalD_move {G G' : Nat → Prop} {w w' : World} {v : Value} {d : D} (hs : scalD d = true) (hd : DR G w v d) : DR G' w' v d := by
 cases hd <;> first | (simp [scalD] at hs; done) | exact .bool _ | exact .int _ _ | exact .str _
theorem new_arr {G : Nat → Prop} {ι : Io} {h : Hp} {w w' : World} {v : Value} {l ver sz n : Nat} {r : Bool} {es : List (List D)} (hr : HR G ι h w') (hv : CR G w' ι h v (.arr l ver 0 n)) (hl : h[l]? = some (.da r ver sz es)) (hn : n = es.length)
  (hnew : ∀ b, owned ι h b → w.heap.size ≤ b) (hsc : ∀ e ∈ es, ∀ d ∈ e, scalD d = true) : DR (fun b => w.heap.size ≤ b ∧ b < w'.heap.size) w' v (.list false sz es) := by
 have hf : frz h (.arr l ver 0 n) = some (.list false sz es, h.set l .dead) := by simp [frz, hl, hn]
 obtain ⟨G', _, hd, _⟩ := frz_sound hr hv hf
 cases hv with
 | arr _ _ _ _ _ blk hb ha hk hk0 =>
  rw [hl] at hb
  cases hb
  cases r with
  | false =>
   obtain ⟨_, _, rfl⟩ := hk0 sz es rfl
   have : es = [] := hr.blk l _ hl
   subst this
   exact .nils false sz
  | true =>
   obtain ⟨b, o, cap, g1, g2, g3, g4, g5⟩ := hk sz es rfl
   have ho : owned ι h b := owned_of g1 hl rfl
   have hb2 := owned_lt hr ho
   have hb1 := hnew b ho
   generalize hx : D.list false sz es = x at hd
   cases hd with
   | bool => cases hx
   | int => cases hx
   | str => cases hx
   | nilp => cases hx
   | nilm => cases hx
   | nilf => cases hx
   | nili => cases hx
   | adr => cases hx
   | slA => cases hx
   | mpf => cases hx
   | nils nl sz' => cases hx; exact .nils _ _
   | emp a sz' => cases hx; exact .emp _ _
   | sl b' off cap' sz' l' g hG hcap hmax hsz hc hr' =>
    cases hx
    refine .sl b' off cap' sz es g (fun hne => ?_) hcap hmax hsz hc fun i e j x he hx => scalD_move (hsc e (List.mem_of_getElem? he) x (List.mem_of_getElem? hx)) (hr' i e j x he hx)
    have hbb : b' = b := by
     rcases g5 with g5 | ⟨g5, _⟩
     ·cases g5; rfl
     ·exact absurd (List.eq_nil_of_length_eq_zero (hn ▸ g5)) hne
    rw [hbb]; exact ⟨hb1, hb2⟩
end Go.Ab

/-
  Updates, part e: the reference's changed IDs and loads.
-/
namespace Go.Ab
open Go.Proofs
theorem ins_len (n : Int) : ∀ l : List Int, (insS l n).length ≤ l.length + 1 := by
 intro l
 induction l with
 | nil => simp [insS]
 | cons x l ih =>
  rw [insS]
  split
  ·simp only [List.length_cons]; omega
  ·split <;> simp
theorem fold_len {p : Int → Bool} : ∀ (l s : List Int), (l.foldl (fun l i => if p i = true then l else insS l i) s).length ≤ s.length + l.length := by
 intro l
 induction l with
 | nil => intro s; simp
 | cons x l ih =>
  intro s
  rw [List.foldl_cons]
  have h2 := ins_len x s
  simp only [List.length_cons]
  by_cases hp : p x = true
  ·rw [if_pos hp]; have h1 := ih s; omega
  ·rw [if_neg hp]; have h1 := ih (insS s x); omega
def arrS (w : Nat) (g : Nat → Int) : List (List D) := (List.range w).map fun e => [iD (g e)]
theorem arrS_len (w : Nat) (g : Nat → Int) : (arrS w g).length = w := by simp [arrS]
theorem arrS_get {w e : Nat} {g : Nat → Int} (h : e < w) : (arrS w g)[e]? = some [iD (g e)] := by simp [arrS, h]
theorem arrS_ext {w : Nat} {g g' : Nat → Int} (h : ∀ e, e < w → g e = g' e) : arrS w g = arrS w g' := by
 rw [arrS, arrS]
 refine List.map_congr_left fun e he => ?_
 rw [h e (List.mem_range.1 he)]
theorem arrS_set {w n : Nat} {g : Nat → Int} {v : Int} : (arrS w g).set n [iD v] = arrS w fun e => if e = n then v else g e := by
 apply List.ext_getElem?
 intro e
 rw [List.getElem?_set]
 by_cases he : e < w
 ·rw [arrS_get he, arrS_get he, arrS_len]
  by_cases hn : n = e
  ·subst hn; simp [he]
  ·rw [if_neg hn, if_neg (fun h => hn h.symm)]
 ·rw [List.getElem?_eq_none (l := arrS w fun e => if e = n then v else g e) (by rw [arrS_len]; omega), List.getElem?_eq_none (l := arrS w g) (by rw [arrS_len]; omega), arrS_len]
  by_cases hn : n = e
  ·subst hn; simp [he]
  ·simp [hn]
theorem arrS_rep (w : Nat) : List.replicate w [iD 0] = arrS w fun _ => 0 := by
 apply List.ext_getElem?
 intro e
 by_cases he : e < w
 ·rw [arrS_get he]; simp [he]
 ·rw [List.getElem?_eq_none (l := arrS w fun _ => 0) (by rw [arrS_len]; omega), List.getElem?_eq_none (by simp; omega)]
def SmlT (l : List Tn) : Prop := ∀ x ∈ l, 0 ≤ x.rate ∧ x.rate ≤ 1048576
theorem rate_bd {l : List Tn} (h : SmlT l) (id n : Int) : 0 ≤ rateS l id n ∧ rateS l id n ≤ 1048576 := by
 unfold rateS
 split
 ·omega
 ·rename_i x hx
  have := h x (findS_some hx).1
  split <;> omega
end Go.Ab

/-
  Updates, part j: the changed IDs, as the program finds them.
-/
namespace Go.Ab
open Go.Proofs
theorem inc_ext : ∀ {a b : List Int}, a.Pairwise (· < ·) → b.Pairwise (· < ·) → (∀ x, x ∈ a ↔ x ∈ b) → a = b
 | [], [], _, _, _ => rfl
 | [], y :: b, _, _, h => absurd ((h y).2 (by simp)) (by simp)
 | x :: a, [], _, _, h => absurd ((h x).1 (by simp)) (by simp)
 | x :: a, y :: b, ha, hb, h => by
  have ha := List.pairwise_cons.1 ha
  have hb := List.pairwise_cons.1 hb
  have e : x = y := by
   rcases List.mem_cons.1 ((h x).1 (by simp)) with e | e
   ·exact e
   ·rcases List.mem_cons.1 ((h y).2 (by simp)) with e2 | e2
    ·exact e2.symm
    ·have := hb.1 x e; have := ha.1 y e2; omega
  subst e
  rw [inc_ext ha.2 hb.2 fun z => ?_]
  constructor
  ·intro hz
   rcases List.mem_cons.1 ((h z).1 (by simp [hz])) with e | e
   ·subst e; have := ha.1 z hz; omega
   ·exact e
  ·intro hz
   rcases List.mem_cons.1 ((h z).2 (by simp [hz])) with e | e
   ·subst e; have := hb.1 z hz; omega
   ·exact e
def sortU (l : List Int) : List Int := l.mergeSort fun x y => decide (x ≤ y)
theorem sortU_inc {l : List Int} (h : l.Nodup) : (sortU l).Pairwise (· < ·) := by
 have hp : (sortU l).Perm l := List.mergeSort_perm _ _
 have h1 : (sortU l).Pairwise fun x y => decide (x ≤ y) = true := List.pairwise_mergeSort (fun a b c h1 h2 => by simp only [decide_eq_true_eq] at *; omega) (fun a b => by simp only [Bool.or_eq_true, decide_eq_true_eq]; omega) l
 have h2 : (sortU l).Nodup := hp.nodup_iff.2 h
 exact (h1.and h2).imp fun h => by have := of_decide_eq_true h.1; have := h.2; omega
theorem sortU_mem {l : List Int} {x : Int} : x ∈ sortU l ↔ x ∈ l := (List.mergeSort_perm l _).mem_iff
def Lack (p q : List Tn) (z : Int) : Prop := ∃ x ∈ p, x ∉ q ∧ x.id = z
theorem lack_eq {a b : List Tn} (ha : namedS a = true) (hb : namedS b = true) {z : Int} : (Lack a b z ∨ Lack b a z) ↔ (z ∈ a.map (·.id) ∨ z ∈ b.map (·.id)) ∧ eqS a b z = false := by
 have na := (namedS_spec.1 ha).1
 have nb := (namedS_spec.1 hb).1
 have one : ∀ {p q : List Tn}, (p.map (·.id)).Nodup → (q.map (·.id)).Nodup → (Lack p q z ↔ ∃ x, findS p z = some x ∧ findS q z ≠ some x) := fun {p q} hp hq => by
  constructor
  ·rintro ⟨x, hx, hn, rfl⟩
   exact ⟨x, findS_of hp hx, fun h => hn (findS_some h).1⟩
  ·rintro ⟨x, h1, h2⟩
   have h3 := findS_some h1
   refine ⟨x, h3.1, fun h => h2 ?_, h3.2⟩
   rw [← h3.2]; exact findS_of hq h
 rw [one na nb, one nb na, eqS, decide_eq_false_iff_not]
 have ea := findS_none (l := a) (id := z)
 have eb := findS_none (l := b) (id := z)
 cases h1 : findS a z with
 | none =>
  cases h2 : findS b z with
  | none => simp
  | some y =>
   have : z ∈ b.map (·.id) := by
    apply Classical.byContradiction
    intro h; rw [eb.2 h] at h2; cases h2
   simp only [this]; simp
 | some x =>
  have : z ∈ a.map (·.id) := by
   apply Classical.byContradiction
   intro h; rw [ea.2 h] at h1; cases h1
  simp only [this]
  cases h2 : findS b z with
  | none => simp
  | some y =>
   simp only [true_or, true_and, Option.some.injEq, ne_eq, exists_eq_left']
   constructor
   ·rintro (h | h) e
    ·exact h e.symm
    ·exact h e
   ·intro h; exact .inr h
theorem changed_sort {a b : List Tn} (ha : namedS a = true) (hb : namedS b = true) {s : List Int} (hs : s.Nodup) (hm : ∀ z, z ∈ s ↔ Lack a b z ∨ Lack b a z) : sortU s = changedS a b := by
 refine inc_ext (sortU_inc hs) (changed_inc a b) fun z => ?_
 rw [sortU_mem, hm, lack_eq ha hb, changedS, if_pos ⟨ha, hb⟩, chS_mem]
theorem lack_take {p q : List Tn} {m : Nat} {x : Tn} (hx : p[m]? = some x) {z : Int} : Lack (p.take (m + 1)) q z ↔ Lack (p.take m) q z ∨ (x ∉ q ∧ x.id = z) := by
 rw [take_succ_get hx, Lack, Lack]
 simp only [List.mem_append, List.mem_singleton, or_and_right, exists_or, exists_eq_left]
theorem keys_fn (P : Program) (hP : P = Try.prog) (v : Nat) (es : List (DV × DV)) :
  FnS P n_maps_Keys_map_int_bool_int_bool [.c (.mp 0)] [.mp v es] fun r h' => r = .c (.fn false n_maps_Keys_map_int_bool_int_bool_1 [.ptr 1 0 0 0]) ∧ h' = [.mp v es, .bx [.mp 0]] := by
 refine heap_start (hP ▸ mixed) (hP ▸ fn_maps_Keys_map_int_bool_int_bool) (hP ▸ c_maps_Keys_map_int_bool_int_bool) (Nat.le_of_ble_eq_true rfl) fun Λ Λo K hK => ?_
 clear hP
 conv => cbv
 repeat' first | exact gu | exact trivial | refine And.intro ?_ ?_ | (intro hc; exact absurd hc (by decide)) | (intro hc; exfalso; omega) | (intro hc; (first | rw [wrap_small (by omega) (by omega)] at hc | rw [nI_eq] at hc | skip); try (conv => cbv))
 exact hK _ _ ⟨rfl, rfl⟩
def SortedK (P : Program) : Prop := ∀ (v : Nat) (l : List Int), l.Nodup → (∀ x ∈ l, -9223372036854775808 ≤ x ∧ x ≤ 9223372036854775807) → l.length ≤ 1000000 →
  FnS P n_slices_Sorted_int [.c (.fn false n_maps_Keys_map_int_bool_int_bool_1 [.ptr 1 0 0 0])] [.mp v (setI l), .bx [.mp 0]] fun r h' => r = .c (.d (.list false 1 ((sortU l).map encI))) ∧ h' = [.mp v (setI l), .bx [.mp 0]]
def idOk (l : List Tn) : Prop := ∀ x ∈ l, -9223372036854775808 ≤ x.id ∧ x.id ≤ 9223372036854775807
theorem pchanged_ok (P : Program) (hP : P = Try.prog) (hS : SortedK P) (a b : List Tn) (ra : idOk a) (rb : idOk b) : Ret P n_update_Changed [tnsA a, tnsA b] (intsA (changedS a b)) := by
 have hna := distinct_ok P hP a
 have hnb := distinct_ok P hP b
 have hca := fun x h => pcontf_ok P hP x a h
 have hcb := fun x h => pcontf_ok P hP x b h
 have hky := keys_fn P hP
 refine ret_start (hP ▸ mixed) (hP ▸ fn_update_Changed) (hP ▸ c_update_Changed) (Nat.le_of_ble_eq_true rfl) fun Λ Λo K hK => ?_
 clear hP
 cases h1 : namedS a with
 | false =>
  have no2 : K (.c (.d (.list false 1 []))) := by rw [changedS, if_neg (by simp [h1])] at hK; exact hK
  rw [h1] at hna
  clear hca hcb hky hS hK
  simp only [tnsA, tnsD, intsA, intsD] at *
  generalize a.map encTn = al at *
  generalize b.map encTn = bl at *
  conv => cbv
  repeat' first | refine call_b hna rfl rfl ?_ ?_ | exact gu | exact trivial | refine And.intro ?_ ?_ | (intro hc; exact absurd hc (by decide)) | (intro hc; exfalso; omega) | (intro hc; (first | rw [wrap_small (by omega) (by omega)] at hc | rw [nI_eq] at hc | skip); try (conv => cbv))
  exact no2
 | true =>
  cases h2 : namedS b with
  | false =>
   have no2 : K (.c (.d (.list false 1 []))) := by rw [changedS, if_neg (by simp [h2])] at hK; exact hK
   rw [h1] at hna
   rw [h2] at hnb
   clear hca hcb hky hS hK
   simp only [tnsA, tnsD, intsA, intsD] at *
   generalize a.map encTn = al at *
   generalize b.map encTn = bl at *
   conv => cbv
   repeat' first | refine call_b hna rfl rfl ?_ ?_ | refine call_b hnb rfl rfl ?_ ?_ | exact gu | exact trivial | refine And.intro ?_ ?_ | (intro hc; exact absurd hc (by decide)) | (intro hc; exfalso; omega) | (intro hc; (first | rw [wrap_small (by omega) (by omega)] at hc | rw [nI_eq] at hc | skip); try (conv => cbv))
   exact no2
  | true =>
   rw [h1] at hna
   rw [h2] at hnb
   have la := (namedS_spec.1 h1).2
   have lb := (namedS_spec.1 h2).2
   have yes : ∀ s : List Int, s.Nodup → (∀ z, z ∈ s ↔ Lack a b z ∨ Lack b a z) → K (.c (.d (.list false 1 ((sortU s).map encI)))) := fun s hs hm => by
    rw [changed_sort h1 h2 hs hm]; exact hK
   have hlen : ∀ s : List Int, s.Nodup → (∀ z, z ∈ s ↔ Lack a b z ∨ Lack b a z) → s.length ≤ 24 := fun s hs hm => by
    have e := changed_sort h1 h2 hs hm
    have h3 : s.length = (changedS a b).length := by rw [← e, sortU, List.length_mergeSort]
    rw [h3, changedS, if_pos ⟨h1, h2⟩, chS]
    have := fold_len (p := fun i => eqS a b i) ((a ++ b).map (·.id)) []
    simp only [List.length_map, List.length_append, List.length_nil] at this
    omega
   clear hK h1 h2
   have hca := fun x => hca x (by omega)
   have hcb := fun x => hcb x (by omega)
   simp only [tnsA, tnsD, intsA, intsD, sameH] at *
   generalize alh : a.map encTn = al at *
   have aln : Λ al = a.length := by rw [Λo, ← alh]; simp
   generalize blh : b.map encTn = bl at *
   have bln : Λ bl = b.length := by rw [Λo, ← blh]; simp
   conv => cbv
   repeat' first | refine call_b hna rfl rfl ?_ ?_ | refine call_b hnb rfl rfl ?_ ?_ | exact gu | exact trivial | refine And.intro ?_ ?_ | (intro hc; exact absurd hc (by decide)) | (intro hc; exfalso; omega) | (intro hc; (first | rw [wrap_small (by omega) (by omega)] at hc | rw [nI_eq] at hc | skip); try (conv => cbv))
   refine loop_upx 2 (fun s : Int × Nat × List (DV × DV) => [(5, .c (.ptr 0 0 0 0)), (6, .c (.mp 1)), (27, .agg [.d (.list false 3 al), .d (.list false 3 bl), .d (.list false 3 bl), .d (.list false 3 al)]), (28, iA s.1)])
    (fun s => [.bx [.fn false n_update_Changed_1 []], .mp s.2.1 s.2.2])
    (fun k s => s.1 = k ∧ k ≤ 2 ∧ ∃ l, setI l = s.2.2 ∧ l.Nodup ∧ ∀ z, z ∈ l ↔ (1 ≤ k ∧ Lack a b z) ∨ (2 ≤ k ∧ Lack b a z)) (0, 0, []) 0
    (fun s : Nat × List (DV × DV) => [(6, .c (.mp 1))]) (fun s => [.bx [.fn false n_update_Changed_1 []], .mp s.1 s.2]) (fun s => ∃ l, setI l = s.2 ∧ l.Nodup ∧ ∀ z, z ∈ l ↔ Lack a b z ∨ Lack b a z)
    (Wk.cw) ⟨rfl, by omega, [], rfl, .nil, fun z => by simp⟩ (fun k s h => h.2.1) ?_ ?_
   ·rintro k ⟨i, v, es⟩ Q' ⟨hi, hk2, l, hes, hnd, hmm⟩ norm jn ex rt
    simp only at hi hes
    match k, hk2 with
    | 0, _ =>
     obtain rfl : i = 0 := by omega
     clear jn yes
     have hcq := hcb
     conv => cbv
     repeat' first | (refine ex _ _ _ ?_; (conv => cbv)) | (refine rt _ _ ?_; (conv => cbv)) | exact gu | exact trivial | refine And.intro ?_ ?_ | (intro hc; exact absurd hc (by decide)) | (intro hc; exfalso; omega) | (intro hc; (first | rw [wrap_small (by omega) (by omega)] at hc | rw [nI_eq] at hc | skip); try (conv => cbv))
     refine loop_upx a.length (fun s : Int × Nat × List (DV × DV) => [(5, .c (.ptr 0 0 0 0)), (6, .c (.mp 1)), (8, .c (.ptr 2 0 0 0)), (27, .agg [.d (.list false 3 al), .d (.list false 3 bl), .d (.list false 3 bl), .d (.list false 3 al)]), (28, iA 0), (32, .c (.d (.list false 3 al))), (33, iA (Λ al)), (34, iA s.1)])
      (fun s => [.bx [.fn false n_update_Changed_1 []], .mp s.2.1 s.2.2, .bx [.d (.list false 3 al), .d (.list false 3 bl)]])
      (fun m s => s.1 = m ∧ m ≤ a.length ∧ ∃ l', setI l' = s.2.2 ∧ l'.Nodup ∧ ∀ z, z ∈ l' ↔ z ∈ l ∨ Lack (a.take m) b z) (0, v, es) 2
      (fun s : Nat × List (DV × DV) => [(5, .c (.ptr 0 0 0 0)), (6, .c (.mp 1)), (27, .agg [.d (.list false 3 al), .d (.list false 3 bl), .d (.list false 3 bl), .d (.list false 3 al)]), (28, iA 0)])
      (fun s => [.bx [.fn false n_update_Changed_1 []], .mp s.1 s.2]) (fun s => ∃ l', setI l' = s.2 ∧ l'.Nodup ∧ ∀ z, z ∈ l' ↔ z ∈ l ∨ Lack a b z)
      (Wk.cw) ⟨rfl, by omega, l, hes, hnd, fun z => by simp [Lack]⟩ (fun k s h => h.2.1) ?_ ?_
     ·rintro m ⟨j, v2, es2⟩ Q2 ⟨hj, hm, l2, hes2, hnd2, hmm2⟩ norm2 jn2 ex2 rt2
      simp only at hj hes2
      by_cases hml : m < a.length
      ·clear jn2 norm
       obtain ⟨x, hx⟩ : ∃ x, a[m]? = some x := ⟨_, List.getElem?_eq_getElem hml⟩
       have hxa := elt_at alh hj hx
       have hcx := hcq x
       have hst := fun z => lack_take (q := b) (z := z) hx
       have nin : x ∈ b → ∀ z, z ∈ l2 ↔ z ∈ l ∨ Lack (a.take (m + 1)) b z := fun h z => by
        rw [hmm2, hst]; simp [h]
       have nout : x ∉ b → ∀ z, (z ∈ l2 ∨ z = x.id) ↔ z ∈ l ∨ Lack (a.take (m + 1)) b z := fun h z => by
        rw [hmm2, hst, or_assoc]; simp [h, eq_comm]
       obtain ⟨c, hcd⟩ : ∃ c, c = decide (x ∈ b) := ⟨_, rfl⟩
       rw [← hcd] at hcx
       obtain ⟨xi, xa, xr⟩ := x
       simp only [encTn, intsD] at hxa hcx nout
       generalize xa.map encI = xl at *
       conv => cbv
       repeat' first | (refine ex _ _ _ ?_; (conv => cbv)) | (refine rt _ _ ?_; (conv => cbv)) | (intro e he; cases Option.some.inj (he.symm.trans hxa); (conv => cbv)) | (refine call_fr [0, 3] hcx rfl rfl (by decide) (by repeat' first | exact trivial | refine And.intro ?_ ?_ | rfl) rfl rfl ?_; rintro r hc' ⟨rfl, rfl⟩; (conv => cbv)) | exact gu | exact trivial | refine And.intro ?_ ?_ | (intro hc; exact absurd hc (by decide)) | (intro hc; exfalso; omega) | (intro hc; (first | rw [wrap_small (by omega) (by omega)] at hc | rw [nI_eq] at hc | skip); try (conv => cbv))
       cases c with
       | true =>
        repeat' first | (refine ex _ _ _ ?_; (conv => cbv)) | (refine rt _ _ ?_; (conv => cbv)) | exact gu | exact trivial | refine And.intro ?_ ?_ | (intro hc; exact absurd hc (by decide)) | (intro hc; exfalso; omega) | (intro hc; (first | rw [wrap_small (by omega) (by omega)] at hc | rw [nI_eq] at hc | skip); try (conv => cbv))
        refine norm2 _ _ (_, _, _) ?_ (Wk.cw)
        exact ⟨by simp only; omega, by omega, l2, hes2, hnd2, nin (of_decide_eq_true hcd.symm)⟩
       | false =>
        repeat' first | (refine ex _ _ _ ?_; (conv => cbv)) | (refine rt _ _ ?_; (conv => cbv)) | (refine vup_setI hes2 (fun hn0 es' he' => ?_) (fun hn1 => ?_) <;> (conv => cbv)) | exact gu | exact trivial | refine And.intro ?_ ?_ | (intro hc; exact absurd hc (by decide)) | (intro hc; exfalso; omega) | (intro hc; (first | rw [wrap_small (by omega) (by omega)] at hc | rw [nI_eq] at hc | skip); try (conv => cbv))
        ·refine norm2 _ _ (_, _, _) ?_ (Wk.cw)
         refine ⟨by simp only; omega, by omega, l2 ++ [xi], he', ?_, fun z => ?_⟩
         ·rw [List.nodup_append]
          exact ⟨hnd2, by simp, fun a ha b hb e => by simp only [List.mem_singleton] at hb; subst hb; subst e; exact hn0 ha⟩
         ·rw [← nout (of_decide_eq_false hcd.symm)]; simp
        ·refine norm2 _ _ (_, _, _) ?_ (Wk.cw)
         refine ⟨by simp only; omega, by omega, l2, hes2, hnd2, fun z => ?_⟩
         rw [← nout (of_decide_eq_false hcd.symm)]
         exact ⟨.inl, fun h => h.elim id fun e => by rw [e]; exact hn1⟩
      ·rw [List.take_of_length_le (by omega)] at hmm2
       clear norm2 norm
       conv => cbv
       repeat' first | (refine ex _ _ _ ?_; (conv => cbv)) | (refine rt _ _ ?_; (conv => cbv)) | exact gu | exact trivial | refine And.intro ?_ ?_ | (intro hc; exact absurd hc (by decide)) | (intro hc; exfalso; omega) | (intro hc; (first | rw [wrap_small (by omega) (by omega)] at hc | rw [nI_eq] at hc | skip); try (conv => cbv))
       exact jn2 _ _ (v2, es2) ⟨l2, hes2, hnd2, hmm2⟩ (Wk.cw)
     ·rintro ⟨v3, es3⟩ ⟨l3, hes3, hnd3, hmm3⟩
      simp only at hes3
      conv => cbv
      repeat' first | (refine ex _ _ _ ?_; (conv => cbv)) | (refine rt _ _ ?_; (conv => cbv)) | exact gu | exact trivial | refine And.intro ?_ ?_ | (intro hc; exact absurd hc (by decide)) | (intro hc; exfalso; omega) | (intro hc; (first | rw [wrap_small (by omega) (by omega)] at hc | rw [nI_eq] at hc | skip); try (conv => cbv))
      refine norm _ _ (_, v3, es3) ?_ (Wk.cw)
      refine ⟨by simp only; omega, by omega, l3, hes3, hnd3, fun z => ?_⟩
      rw [hmm3, hmm]; simp
    | 1, _ =>
     obtain rfl : i = 1 := by omega
     clear jn yes
     have hcq := hca
     conv => cbv
     repeat' first | (refine ex _ _ _ ?_; (conv => cbv)) | (refine rt _ _ ?_; (conv => cbv)) | exact gu | exact trivial | refine And.intro ?_ ?_ | (intro hc; exact absurd hc (by decide)) | (intro hc; exfalso; omega) | (intro hc; (first | rw [wrap_small (by omega) (by omega)] at hc | rw [nI_eq] at hc | skip); try (conv => cbv))
     refine loop_upx b.length (fun s : Int × Nat × List (DV × DV) => [(5, .c (.ptr 0 0 0 0)), (6, .c (.mp 1)), (8, .c (.ptr 2 0 0 0)), (27, .agg [.d (.list false 3 al), .d (.list false 3 bl), .d (.list false 3 bl), .d (.list false 3 al)]), (28, iA 1), (32, .c (.d (.list false 3 bl))), (33, iA (Λ bl)), (34, iA s.1)])
      (fun s => [.bx [.fn false n_update_Changed_1 []], .mp s.2.1 s.2.2, .bx [.d (.list false 3 bl), .d (.list false 3 al)]])
      (fun m s => s.1 = m ∧ m ≤ b.length ∧ ∃ l', setI l' = s.2.2 ∧ l'.Nodup ∧ ∀ z, z ∈ l' ↔ z ∈ l ∨ Lack (b.take m) a z) (0, v, es) 2
      (fun s : Nat × List (DV × DV) => [(5, .c (.ptr 0 0 0 0)), (6, .c (.mp 1)), (27, .agg [.d (.list false 3 al), .d (.list false 3 bl), .d (.list false 3 bl), .d (.list false 3 al)]), (28, iA 1)])
      (fun s => [.bx [.fn false n_update_Changed_1 []], .mp s.1 s.2]) (fun s => ∃ l', setI l' = s.2 ∧ l'.Nodup ∧ ∀ z, z ∈ l' ↔ z ∈ l ∨ Lack b a z)
      (Wk.cw) ⟨rfl, by omega, l, hes, hnd, fun z => by simp [Lack]⟩ (fun k s h => h.2.1) ?_ ?_
     ·rintro m ⟨j, v2, es2⟩ Q2 ⟨hj, hm, l2, hes2, hnd2, hmm2⟩ norm2 jn2 ex2 rt2
      simp only at hj hes2
      by_cases hml : m < b.length
      ·clear jn2 norm
       obtain ⟨x, hx⟩ : ∃ x, b[m]? = some x := ⟨_, List.getElem?_eq_getElem hml⟩
       have hxa := elt_at blh hj hx
       have hcx := hcq x
       have hst := fun z => lack_take (q := a) (z := z) hx
       have nin : x ∈ a → ∀ z, z ∈ l2 ↔ z ∈ l ∨ Lack (b.take (m + 1)) a z := fun h z => by
        rw [hmm2, hst]; simp [h]
       have nout : x ∉ a → ∀ z, (z ∈ l2 ∨ z = x.id) ↔ z ∈ l ∨ Lack (b.take (m + 1)) a z := fun h z => by
        rw [hmm2, hst, or_assoc]; simp [h, eq_comm]
       obtain ⟨c, hcd⟩ : ∃ c, c = decide (x ∈ a) := ⟨_, rfl⟩
       rw [← hcd] at hcx
       obtain ⟨xi, xa, xr⟩ := x
       simp only [encTn, intsD] at hxa hcx nout
       generalize xa.map encI = xl at *
       conv => cbv
       repeat' first | (refine ex _ _ _ ?_; (conv => cbv)) | (refine rt _ _ ?_; (conv => cbv)) | (intro e he; cases Option.some.inj (he.symm.trans hxa); (conv => cbv)) | (refine call_fr [0, 3] hcx rfl rfl (by decide) (by repeat' first | exact trivial | refine And.intro ?_ ?_ | rfl) rfl rfl ?_; rintro r hc' ⟨rfl, rfl⟩; (conv => cbv)) | exact gu | exact trivial | refine And.intro ?_ ?_ | (intro hc; exact absurd hc (by decide)) | (intro hc; exfalso; omega) | (intro hc; (first | rw [wrap_small (by omega) (by omega)] at hc | rw [nI_eq] at hc | skip); try (conv => cbv))
       cases c with
       | true =>
        repeat' first | (refine ex _ _ _ ?_; (conv => cbv)) | (refine rt _ _ ?_; (conv => cbv)) | exact gu | exact trivial | refine And.intro ?_ ?_ | (intro hc; exact absurd hc (by decide)) | (intro hc; exfalso; omega) | (intro hc; (first | rw [wrap_small (by omega) (by omega)] at hc | rw [nI_eq] at hc | skip); try (conv => cbv))
        refine norm2 _ _ (_, _, _) ?_ (Wk.cw)
        exact ⟨by simp only; omega, by omega, l2, hes2, hnd2, nin (of_decide_eq_true hcd.symm)⟩
       | false =>
        repeat' first | (refine ex _ _ _ ?_; (conv => cbv)) | (refine rt _ _ ?_; (conv => cbv)) | (refine vup_setI hes2 (fun hn0 es' he' => ?_) (fun hn1 => ?_) <;> (conv => cbv)) | exact gu | exact trivial | refine And.intro ?_ ?_ | (intro hc; exact absurd hc (by decide)) | (intro hc; exfalso; omega) | (intro hc; (first | rw [wrap_small (by omega) (by omega)] at hc | rw [nI_eq] at hc | skip); try (conv => cbv))
        ·refine norm2 _ _ (_, _, _) ?_ (Wk.cw)
         refine ⟨by simp only; omega, by omega, l2 ++ [xi], he', ?_, fun z => ?_⟩
         ·rw [List.nodup_append]
          exact ⟨hnd2, by simp, fun a ha b hb e => by simp only [List.mem_singleton] at hb; subst hb; subst e; exact hn0 ha⟩
         ·rw [← nout (of_decide_eq_false hcd.symm)]; simp
        ·refine norm2 _ _ (_, _, _) ?_ (Wk.cw)
         refine ⟨by simp only; omega, by omega, l2, hes2, hnd2, fun z => ?_⟩
         rw [← nout (of_decide_eq_false hcd.symm)]
         exact ⟨.inl, fun h => h.elim id fun e => by rw [e]; exact hn1⟩
      ·rw [List.take_of_length_le (by omega)] at hmm2
       clear norm2 norm
       conv => cbv
       repeat' first | (refine ex _ _ _ ?_; (conv => cbv)) | (refine rt _ _ ?_; (conv => cbv)) | exact gu | exact trivial | refine And.intro ?_ ?_ | (intro hc; exact absurd hc (by decide)) | (intro hc; exfalso; omega) | (intro hc; (first | rw [wrap_small (by omega) (by omega)] at hc | rw [nI_eq] at hc | skip); try (conv => cbv))
       exact jn2 _ _ (v2, es2) ⟨l2, hes2, hnd2, hmm2⟩ (Wk.cw)
     ·rintro ⟨v3, es3⟩ ⟨l3, hes3, hnd3, hmm3⟩
      simp only at hes3
      conv => cbv
      repeat' first | (refine ex _ _ _ ?_; (conv => cbv)) | (refine rt _ _ ?_; (conv => cbv)) | exact gu | exact trivial | refine And.intro ?_ ?_ | (intro hc; exact absurd hc (by decide)) | (intro hc; exfalso; omega) | (intro hc; (first | rw [wrap_small (by omega) (by omega)] at hc | rw [nI_eq] at hc | skip); try (conv => cbv))
      refine norm _ _ (_, v3, es3) ?_ (Wk.cw)
      refine ⟨by simp only; omega, by omega, l3, hes3, hnd3, fun z => ?_⟩
      rw [hmm3, hmm]; simp
    | 2, _ =>
     obtain rfl : i = 2 := by omega
     clear norm
     have hfin : ∀ z, z ∈ l ↔ Lack a b z ∨ Lack b a z := fun z => by rw [hmm]; simp
     conv => cbv
     repeat' first | exact gu | exact trivial | refine And.intro ?_ ?_ | (intro hc; exact absurd hc (by decide)) | (intro hc; exfalso; omega) | (intro hc; (first | rw [wrap_small (by omega) (by omega)] at hc | rw [nI_eq] at hc | skip); try (conv => cbv))
     exact jn _ _ (v, es) ⟨l, hes, hnd, hfin⟩ (Wk.cw)
   ·rintro ⟨v, es⟩ ⟨l, hes, hnd, hmm⟩
    simp only at hes
    have yes2 := yes l hnd hmm
    have hky := hky v es
    have hS := hS v l hnd (fun x hx => by
     rcases (hmm x).1 hx with ⟨y, hy, _, rfl⟩ | ⟨y, hy, _, rfl⟩
     ·exact ra y hy
     ·exact rb y hy) (by have := hlen l hnd hmm; omega)
    rw [hes] at hS
    generalize (sortU l).map encI = sl at *
    clear hlen hmm hes
    conv => cbv
    repeat' first | (refine call_fr [1] hky rfl rfl (by decide) (by repeat' first | exact trivial | refine And.intro ?_ ?_ | rfl) rfl rfl ?_; rintro r hc' ⟨rfl, rfl⟩; (conv => cbv)) | (refine call_fr [1, 2] hS rfl rfl (by decide) (by repeat' first | exact trivial | refine And.intro ?_ ?_ | rfl) rfl rfl ?_; rintro r hc' ⟨rfl, rfl⟩; (conv => cbv)) | exact gu | exact trivial | refine And.intro ?_ ?_ | (intro hc; exact absurd hc (by decide)) | (intro hc; exfalso; omega) | (intro hc; (first | rw [wrap_small (by omega) (by omega)] at hc | rw [nI_eq] at hc | skip); try (conv => cbv))
    exact yes2
end Go.Ab

/-
  The engine: functions that work in an arena of their own; at their end it is given up, and what leads into it is plain data.
-/
namespace Go.Ab
inductive ThD (m : Ar) : D → D → Prop
 | same (x : D) : ThD m x x
 | fg (x : D) : ThD m x (fgD x)
 | row (b o sz n cap N : Nat) (xs : List D) (rows : List (List D)) (g : Nat → Nat → D) (hm : m b = some (.cs N xs)) (hn : rows.length = n) (hcap : n ≤ cap) (hmx : n ≤ 9223372036854775807)
   (hs : ∀ (i : Nat) (e : List D), rows[i]? = some e → e.length = sz) (hx : ∀ (i : Nat) (e : List D) (j : Nat) (x : D), rows[i]? = some e → e[j]? = some x → xs[o + i * sz + j]? = some (g i j))
   (hr : ∀ (i : Nat) (e : List D) (j : Nat) (x : D), rows[i]? = some e → e[j]? = some x → ThD m (g i j) x) : ThD m (.sl b o sz n cap) (.list false sz rows)
 | list (nl : Bool) (sz : Nat) (l l' : List (List D)) (hlen : l.length = l'.length) (hs : ∀ (i : Nat) (e : List D), l'[i]? = some e → e.length = sz)
   (hr : ∀ (i : Nat) (e e' : List D) (j : Nat) (x x' : D), l[i]? = some e → l'[i]? = some e' → e[j]? = some x → e'[j]? = some x' → ThD m x x') : ThD m (.list nl sz l) (.list nl sz l')
section
variable {G : Nat → Prop} {ι : Io} {h : Hp} {w : World} {m : Ar}
theorem thD_sound {G' : Nat → Prop} (hG : ∀ b x, m b = some x → G' b ∧ ABR G' w b x) {x x' : D} (ht : ThD m x x') : ∀ {v : Value}, DR G' w v x → DR G' w v x' := by
 induction ht with
 | same x => exact fun h => h
 | fg x => exact fun h => h.fg
 | row b o sz n cap N xs rows g hm hn hcap hmx hs hx hr ih =>
  intro v hd
  cases hd
  obtain ⟨hg, c, t, fr, a1, a2, a3, a4, a5⟩ := hG b _ hm
  subst hn
  refine .sl b o cap sz rows (fun i j => (c[o + i * sz + j]?).getD undef) (fun _ => hg) hcap hmx hs (fun i e j x he hx' => ?_) fun i e j x he hx' => ?_
  ·obtain ⟨v, hv, _⟩ := a5 _ _ (hx i e j x he hx')
   rw [cell_of a1, hv]; rfl
  ·obtain ⟨v, hv, hd⟩ := a5 _ _ (hx i e j x he hx')
   simp only [hv, Option.getD_some]
   exact ih i e j x he hx' hd
 | list nl sz l l' hlen hs hr ih =>
  intro v hd
  cases hd with
  | nils =>
   have : l' = [] := List.eq_nil_of_length_eq_zero (by simpa using hlen.symm)
   subst this; exact .nils nl sz
  | emp a =>
   have : l' = [] := List.eq_nil_of_length_eq_zero (by simpa using hlen.symm)
   subst this; exact .emp a sz
  | sl b off cap _ _ g hg hcap hmax hsz hc hr' =>
   have both : ∀ (i : Nat) (e' : List D) (j : Nat) (x' : D), l'[i]? = some e' → e'[j]? = some x' → ∃ e x, l[i]? = some e ∧ e[j]? = some x := by
    intro i e' j x' he hx
    have hi := get_lt he
    have hj := get_lt hx
    have h1 : l[i]? = some (l[i]'(by omega)) := List.getElem?_eq_getElem _
    have h2 := hsz i _ h1
    have h3 := hs i e' he
    exact ⟨_, _, h1, List.getElem?_eq_getElem (by omega)⟩
   rw [hlen]
   refine .sl b off cap sz l' g (fun hne => hg fun h0 => hne ?_) (by omega) (by omega) hs (fun i e j x he hx => ?_) fun i e j x he hx => ?_
   ·subst h0; exact List.eq_nil_of_length_eq_zero (by simpa using hlen.symm)
   ·obtain ⟨e0, x0, h1, h2⟩ := both i e j x he hx
    exact hc i e0 j x0 h1 h2
   ·obtain ⟨e0, x0, h1, h2⟩ := both i e j x he hx
    exact ih i e0 e j x0 x h1 he h2 hx (hr' i e0 j x0 h1 h2)
theorem HR.thaw (r : HR G ι h w) (h0 : h[0]? = some (.am m)) : HR (fun b => G b ∨ ∃ x, m b = some x) ι (h.set 0 .dead) w ∧ Ext G ι h w (fun b => G b ∨ ∃ x, m b = some x) ι (h.set 0 .dead) w ∧
    ∀ b x, m b = some x → (G b ∨ ∃ x, m b = some x) ∧ ABR (fun b => G b ∨ ∃ x, m b = some x) w b x := by
  have hgm : ∀ b, G b → (G b ∨ ∃ x, m b = some x) ∧ w.heap[b]? = w.heap[b]? := fun b hb => ⟨.inl hb, rfl⟩
  have hext : Ext G ι h w (fun b => G b ∨ ∃ x, m b = some x) ι (h.set 0 .dead) w :=
    { size := Nat.le_refl _
      quiet := ⟨rfl, rfl, rfl, Nat.le_refl _⟩
      frame := fun _ _ _ => rfl
      gmono := fun _ h => .inl h
      gnew := fun b hb => by
        rcases hb with h | ⟨x, hx⟩
        · exact .inl h
        · exact .inr (.inr (am_owned h0 hx))
      onew := fun b ho => .inl (owned_set h0 own1_dead ho)
      keep := fun l k hk => by
        by_cases e : 0 = l
        · subst e
          exact ⟨.dead, by rw [List.getElem?_set_self (get_lt h0)], by cases k <;> trivial⟩
        · exact ⟨k, by rw [List.getElem?_set_ne e]; exact hk, Kept.refl ι w l k⟩ }
  refine ⟨?_, hext, fun b x hx => ⟨.inr ⟨x, hx⟩, (r.blk 0 _ h0 b x hx).mono hgm rfl⟩⟩
  exact
    { len := by simp [r.len]
      own := own_kill r
      g := fun b hb => by
        rcases hb with hb | ⟨x, hx⟩
        · exact ⟨(r.g b hb).1, fun ho => (r.g b hb).2 (owned_set h0 own1_dead ho)⟩
        · refine ⟨owned_lt r (am_owned h0 hx), fun ⟨l, k, g1, g2⟩ => ?_⟩
          rcases get_set g1 with ⟨_, e2, _⟩ | ⟨e0, e1⟩
          · subst e2; exact own1_dead g2
          · exact e0 (r.own 0 l b _ k h0 e1 ⟨x, hx⟩ g2).symm
      blk := fun l k hk => by
        rcases get_set hk with ⟨_, d2, _⟩ | ⟨_, d1⟩
        · subst d2; trivial
        · exact BR.ext hext r d1 rfl fun _ _ => rfl }
end
def ThDs (m : Ar) : List D → List D → Prop
 | [], [] => True
 | x :: r, y :: s => ThD m x y ∧ ThDs m r s
 | _, _ => False
theorem thDs_get {m : Ar} : ∀ {l l' : List D}, ThDs m l l' → ∀ (i : Nat) (y : D), l'[i]? = some y → ∃ x, l[i]? = some x ∧ ThD m x y := by
 intro l
 induction l with
 | nil => intro l' h; cases l' with | nil => simp | cons => exact h.elim
 | cons x r ih =>
  intro l' h
  cases l' with
  | nil => exact h.elim
  | cons y s =>
   obtain ⟨h1, h2⟩ := h
   intro i b hb
   cases i with
   | zero => simp at hb; subst hb; exact ⟨x, rfl, h1⟩
   | succ i => simp at hb; obtain ⟨z, hz, ht⟩ := ih h2 i b hb; exact ⟨z, by simpa using hz, ht⟩
inductive ThC (m : Ar) : CV → CV → Prop
 | same (x : CV) (hx : pureC x = true) : ThC m x x
 | d (x x' : D) (h : ThD m x x') : ThC m (.d x) (.d x')
 | rp (l l' : List D) (h : ThDs m l l') : ThC m (.rp l) (.rp l')
def ThCs (m : Ar) : List CV → List CV → Prop
 | [], [] => True
 | x :: r, y :: s => ThC m x y ∧ ThCs m r s
 | _, _ => False
inductive ThA (m : Ar) : AV → AV → Prop
 | c (x y : CV) (h : ThC m x y) : ThA m (.c x) (.c y)
 | agg (l l' : List CV) (h : ThCs m l l') : ThA m (.agg l) (.agg l')
def ThAs (m : Ar) : List AV → List AV → Prop
 | [], [] => True
 | x :: r, y :: s => ThA m x y ∧ ThAs m r s
 | _, _ => False
theorem thC_pure {m : Ar} {x y : CV} (h : ThC m x y) : pureC y = true := by
 cases h with
 | same _ hx => exact hx
 | d => rfl
 | rp => rfl
theorem thCs_pure {m : Ar} : ∀ {l l' : List CV}, ThCs m l l' → l.length = l'.length ∧ l'.all pureC = true ∧ ∀ (i : Nat) (x y : CV), l[i]? = some x → l'[i]? = some y → ThC m x y := by
 intro l
 induction l with
 | nil => intro l' h; cases l' with | nil => simp | cons => exact h.elim
 | cons x r ih =>
  intro l' h
  cases l' with
  | nil => exact h.elim
  | cons y s =>
   obtain ⟨h1, h2⟩ := h
   obtain ⟨i1, i2, i3⟩ := ih h2
   refine ⟨by simp [i1], by simp [thC_pure h1, i2], fun i a b ha hb => ?_⟩
   cases i with
   | zero => simp at ha hb; subst ha hb; exact h1
   | succ i => simp at ha hb; exact i3 i a b ha hb
theorem thA_pure {m : Ar} {x y : AV} (h : ThA m x y) : pureA y = true := by
 cases h with
 | c _ _ h => exact thC_pure h
 | agg _ _ h => exact (thCs_pure h).2.1
theorem thAs_get {m : Ar} : ∀ {l l' : List AV}, ThAs m l l' → l.length = l'.length ∧ pureA.pureAs l' = true ∧ ∀ (i : Nat) (x y : AV), l[i]? = some x → l'[i]? = some y → ThA m x y := by
 intro l
 induction l with
 | nil => intro l' h; cases l' with | nil => simp [pureA.pureAs] | cons => exact h.elim
 | cons x r ih =>
  intro l' h
  cases l' with
  | nil => exact h.elim
  | cons y s =>
   obtain ⟨h1, h2⟩ := h
   obtain ⟨i1, i2, i3⟩ := ih h2
   refine ⟨by simp [i1], by simp [pureA.pureAs, thA_pure h1, i2], fun i a b ha hb => ?_⟩
   cases i with
   | zero => simp at ha hb; subst ha hb; exact h1
   | succ i => simp at ha hb; exact i3 i a b ha hb
def RetA (res : List (Nat × Option (Option Nat))) (L : Lv) (h : Hp) (K : AV → Prop) : Prop :=
 match resA (lkN L) h res with
 | some vs => vFrzAs h vs fun rs h2 => match h2 with
  | .am m :: _ => ∃ rs', ThAs m rs rs' ∧ K (pack rs')
  | _ => False
 | none => False
def am0 : Ar := fun _ => none
def vcFAE (res : List (Nat × Option (Option Nat))) (K : AV → Prop) : Post := fun x L h => match x with
 | .exit _ => False
 | _ => RetA res L h K
def vcFA (P : Program) (Λ : Len) (af : AF) (args : List AV) (K : AV → Prop) : Prop :=
 match af with
 | ⟨_, res, body⟩ => vcC P Λ 1 body (argL 0 args) [.am am0] (vcFAE res K)
theorem HR.am0 {G : Nat → Prop} {w : World} {ι : Io} (r : HR G ι [] w) : HR G [(0, 0)] [.am am0] w :=
  { len := rfl
    own := fun l l' b k k' h1 h2 _ _ => by
      have := get_lt h1; have := get_lt h2; simp at *; omega
    g := fun b hb => ⟨(r.g b hb).1, fun ⟨l, k, h1, h2⟩ => by
      have hl : l = 0 := by have := get_lt h1; simpa using this
      subst hl; cases h1
      obtain ⟨x, hx⟩ := h2; cases hx⟩
    blk := fun l k h1 => by
      have hl : l = 0 := by have := get_lt h1; simpa using this
      subst hl; cases h1
      intro b x hx; cases hx }
theorem fn_arena {P : Program} {f : Nat} {fn : Func} {af : AF} {args : List AV} {K : AV → Prop} (hmo : P.follows .mixedOrders = true) (hf : P.funcs[f]? = some fn) (hc : compF P fn = some af) (hl : args.length ≤ af.nt) (hv : ∀ Λ : Len, (∀ l, Λ l = (l.length : Int)) → vcFA P Λ af args K) :
    FnS P f args [] fun r _ => pureA r = true ∧ K r := by
  obtain ⟨c, hb, hcc, hres, hnt⟩ := compF_spec hc
  have hv1 := hv (fun l => (l.length : Int)) fun _ => rfl
  refine ⟨fun G ι w vs hr hvs => ?_⟩
  have hr1 := hr.am0
  have hι : ι = [] := by have := hr.len; exact List.eq_nil_of_length_eq_zero this
  subst hι
  have hvs1 : VRs G w [(0, 0)] [.am am0] vs args := ⟨hvs.1, fun i v x h1 h2 => (hvs.2 i v x h1 h2).mono (fun b hb => ⟨hb, rfl⟩) (fun l k hk => by simp at hk)⟩
  have none1 : ∀ b, ¬ owned [(0, 0)] [.am am0] b := fun b ⟨l, k, h1, h2⟩ => by
    have hl : l = 0 := by have := get_lt h1; simpa using this
    subst hl; cases h1
    obtain ⟨x, hx⟩ := h2; cases hx
  have henter := enter_fits (af := af) hnt (by omega) hr1 hvs1
  have hwp := vcC_sound (h0 := [.am am0]) (Λ := fun l => (l.length : Int)) (fun _ => rfl) (m := 1) hmo (by simp) c af.body _ _ (vcFAE af.res K) _ w hcc (by cases af; exact hv1) henter
  refine calls_of_wp hf hb (wp_mono hwp fun x a w' ⟨L, h', hq, hfit⟩ => ?_)
  have fin : RetA af.res L h' K → a.defers = [] ∧ ∃ v, (results fn a.tmps).run P w' = .ok v w' ∧ ∃ v' r G' ι' h'', Ending.returned v = .returned v' ∧ (pureA r = true ∧ K r) ∧ HR G' ι' h'' w' ∧ VR G' w' ι' h'' v' r ∧ Ext G [] [] w G' ι' h'' w' := by
    intro hret
    obtain ⟨G1, ι1, st⟩ := hfit
    refine ⟨st.rel.dfr, ?_⟩
    unfold RetA at hret
    split at hret
    · rename_i vs' hvs'
      obtain ⟨rs, h2, hrs, hret⟩ := vFrzAs_sound hret
      split at hret
      · rename_i m rest
        obtain ⟨rs', ht, hK⟩ := hret
        rw [lkN_fun] at hvs'
        obtain ⟨us, q1, q2⟩ := results_all (P := P) (fn := fn) (af := af) hres st.rel.hr st.rel.env hvs'
        obtain ⟨G2, k1, k2, k3, k4⟩ := frzAs_sound st.rel.hr q2 hrs
        obtain ⟨j1, j2, j3⟩ := HR.thaw k1 (m := m) rfl
        have e := (st.ext.trans k2).trans j2
        obtain ⟨t1, t2, t3⟩ := thAs_get ht
        have hvr : VRs (fun b => G2 b ∨ ∃ x, m b = some x) w' ι1 (List.set (.am m :: rest) 0 .dead) us rs' := by
          refine ⟨by rw [k3.1, t1], fun i v y h1 h2 => ?_⟩
          have hi := get_lt h2
          have hx : rs[i]? = some (rs[i]'(by omega)) := List.getElem?_eq_getElem _
          have hvx := (k3.2 i v _ h1 hx).ext j2 k1
          have hth := t3 i _ y hx h2
          revert hvx hth
          generalize rs[i]'(by omega) = z
          intro hvx hth
          have cc : ∀ {v : Value} {p q : CV}, CR (fun b => G2 b ∨ ∃ x, m b = some x) w' ι1 (List.set (.am m :: rest) 0 .dead) v p → ThC m p q → CR (fun b => G2 b ∨ ∃ x, m b = some x) w' ι1 (List.set (.am m :: rest) 0 .dead) v q := by
            intro v p q hp hq
            cases hq with
            | same => exact hp
            | d x x' h => cases hp with | d _ _ hd => exact .d _ _ (thD_sound j3 h hd)
            | rp l l' h =>
              cases hp with
              | rp b o _ hG hc =>
                refine .rp b o _ hG fun k y hy => ?_
                obtain ⟨x, hx, ht⟩ := thDs_get h k y hy
                obtain ⟨v, hv, hd⟩ := hc k x hx
                exact ⟨v, hv, thD_sound j3 ht hd⟩
          cases hth with
          | c _ _ h => cases hvx with | c _ _ hc => exact .c _ _ (cc hc h)
          | agg l l' h =>
            obtain ⟨u1, u2, u3⟩ := thCs_pure h
            cases hvx with
            | agg cs _ hn hc =>
              refine .agg _ _ (by omega) fun j v y hv hy => ?_
              have hj := get_lt hy
              exact cc (hc j v _ hv (List.getElem?_eq_getElem (by omega))) (u3 j _ y (List.getElem?_eq_getElem (by omega)) hy)
        refine ⟨_, q1, _, pack rs', _, ι1, _, rfl, ⟨?_, hK⟩, j1, pack_sound hvr, ?_⟩
        · cases rs' with
          | nil => rfl
          | cons x rs' =>
            cases rs' with
            | nil => simp only [pureA.pureAs, Bool.and_true] at t2; exact t2
            | cons y rs' => exact t2
        · exact
            { size := e.size
              quiet := e.quiet
              frame := fun b hb _ => e.frame b hb (none1 b)
              gmono := e.gmono
              gnew := fun b hb => by
                rcases e.gnew b hb with h | h | h
                · exact .inl h
                · exact .inr (.inl h)
                · exact absurd h (none1 b)
              onew := fun b hb => by
                rcases e.onew b hb with h | h
                · exact absurd h (none1 b)
                · exact .inr h
              keep := fun l k hk => by simp at hk }
      · exact hret.elim
    · exact hret.elim
  cases x with
  | normal => exact fin hq
  | ret => exact fin hq
  | exit i => exact hq.elim
  | goto => exact hq.elim
  | panic => exact hq.elim
  | outgrown => exact hq.elim
end Go.Ab

/-
  Arenas, part a: rows that grow.
-/
namespace Go.Ab
open Go.Proofs
theorem arena_start {P : Program} {f : Nat} {fn : Func} {af : AF} {args : List AV} {r : AV} (hm : P.follows .mixedOrders = true) (hf : P.funcs[f]? = some fn) (hc : compF P fn = some af) (hl : args.length ≤ af.nt)
  (hv : ∀ (Λ : Len), (∀ l, Λ l = (l.length : Int)) → ∀ (K : AV → Prop), K r → vcFA P Λ af args K) : Ret P f args r :=
 fn_arena (K := fun r' => r' = r) hm hf hc hl fun Λ h => hv Λ h _ rfl
def RowR (sz : Nat) (m : Ar) (d : D) (l : List (List D)) : Prop :=
 (d = .list true sz [] ∧ l = []) ∨ ∃ b N cap, d = .sl b 0 sz l.length cap ∧ m b = some (.cs N l.flatten) ∧ (∀ e ∈ l, e.length = sz) ∧ l.length ≤ cap ∧ cap * sz ≤ N
structure RowsR (sz : Nat) (m : Ar) (es : List (List D)) (rows : List (List (List D))) : Prop where
 len : es.length = rows.length
 one : ∀ (j : Nat) (e : List D), es[j]? = some e → ∃ d, e = [d]
 row : ∀ (j : Nat) (d : D) (l : List (List D)), es[j]? = some [d] → rows[j]? = some l → RowR sz m d l
 dis : ∀ (i j b o n c o' n' c' : Nat), es[i]? = some [.sl b o sz n c] → es[j]? = some [.sl b o' sz n' c'] → i = j
theorem RowsR.nils (sz k : Nat) (m : Ar) : RowsR sz m (List.replicate k [.list true sz []]) (List.replicate k []) where
 len := by simp
 one j e h := by
  rw [List.getElem?_replicate] at h; split at h <;> cases h; exact ⟨_, rfl⟩
 row j d l h1 h2 := by
  rw [List.getElem?_replicate] at h1 h2; split at h1 <;> simp_all
  exact .inl ⟨h1.symm, rfl⟩
 dis i j b o n c o' n' c' h1 h2 := by
  rw [List.getElem?_replicate] at h1; split at h1 <;> simp at h1
theorem set_self {α : Type} {l : List α} {i : Nat} {a x : α} (h : (l.set i a)[i]? = some x) : x = a := by
 rcases get_set h with ⟨_, h, _⟩ | ⟨h, _⟩
 ·exact h
 ·exact absurd rfl h
theorem RowsR.put {sz : Nat} {m m' : Ar} {es : List (List D)} {rows : List (List (List D))} (h : RowsR sz m es rows) {j b' N' cap' : Nat} {l' : List (List D)} (hm' : m' b' = some (.cs N' l'.flatten))
  (hs : ∀ e ∈ l', e.length = sz) (hcap : l'.length ≤ cap') (hN : cap' * sz ≤ N') (hfree : ∀ (i o n c : Nat), i ≠ j → es[i]? = some [.sl b' o sz n c] → False) (hsame : ∀ (i b o n c : Nat), i ≠ j → es[i]? = some [.sl b o sz n c] → m' b = m b) :
  RowsR sz m' (es.set j [.sl b' 0 sz l'.length cap']) (rows.set j l') where
 len := by simp [h.len]
 one i e he := by
  rcases get_set he with ⟨_, he, _⟩ | ⟨_, he⟩
  ·exact ⟨_, he⟩
  ·exact h.one i e he
 row i d l h1 h2 := by
  rcases get_set h1 with ⟨e1, e2, _⟩ | ⟨e1, e2⟩
  ·subst e1
   have := set_self h2
   subst this
   cases e2
   exact .inr ⟨b', N', cap', rfl, hm', hs, hcap, hN⟩
  ·rw [List.getElem?_set_ne (fun e => e1 e.symm)] at h2
   rcases h.row i d l e2 h2 with hr | ⟨b, N, cap, rfl, r2, r3⟩
   ·exact .inl hr
   ·exact .inr ⟨b, N, cap, rfl, by rw [hsame i b _ _ _ e1 e2]; exact r2, r3⟩
 dis i k b o n c o' n' c' h1 h2 := by
  rcases get_set h1 with ⟨e1, e2, _⟩ | ⟨e1, e2⟩ <;> rcases get_set h2 with ⟨f1, f2, _⟩ | ⟨f1, f2⟩
  ·omega
  ·cases e2; exact (hfree k _ _ _ f1 f2).elim
  ·cases f2; exact (hfree i _ _ _ e1 e2).elim
  ·exact h.dis i k b o n c o' n' c' e2 f2
theorem RowsR.key {sz : Nat} {m : Ar} {es : List (List D)} {rows : List (List (List D))} (h : RowsR sz m es rows) {i b o n c : Nat} (he : es[i]? = some [.sl b o sz n c]) : ∃ x, m b = some x := by
 have hi := get_lt he
 rcases h.row i _ _ he (List.getElem?_eq_getElem (by rw [← h.len]; exact hi)) with ⟨h1, _⟩ | ⟨b', N, cap, h1, h2, _⟩
 ·cases h1
 ·cases h1; exact ⟨_, h2⟩
theorem RowsR.first {sz : Nat} {m : Ar} {es : List (List D)} {rows : List (List (List D))} (h : RowsR sz m es rows) {j b' N' cap' : Nat} {l' : List (List D)} (hm : m b' = none)
  (hs : ∀ e ∈ l', e.length = sz) (hcap : l'.length ≤ cap') (hN : cap' * sz ≤ N') : RowsR sz (mup m b' (.cs N' l'.flatten)) (es.set j [.sl b' 0 sz l'.length cap']) (rows.set j l') :=
 h.put (mup_at _ _ _) hs hcap hN (fun i o n c _ he => by obtain ⟨x, hx⟩ := h.key he; rw [hm] at hx; cases hx)
  fun i b o n c _ he => by
   obtain ⟨x, hx⟩ := h.key he
   exact mup_ne fun e => by rw [e, hm] at hx; cases hx
theorem RowsR.thaw {sz : Nat} {m : Ar} {es : List (List D)} {rows : List (List (List D))} (h : RowsR sz m es rows) (hb : ∀ l ∈ rows, l.length ≤ 9223372036854775807) : ThD m (.list false 1 es) (.list false 1 (rows.map fun l => [.list false sz l])) := by
 refine .list _ _ _ _ (by simp [h.len]) (fun i e he => ?_) fun i e e' j x x' he he' hx hx' => ?_
 ·simp only [List.getElem?_map, Option.map_eq_some_iff] at he
  obtain ⟨_, _, rfl⟩ := he; rfl
 ·simp only [List.getElem?_map, Option.map_eq_some_iff] at he'
  obtain ⟨l, hl, rfl⟩ := he'
  obtain ⟨d, rfl⟩ := h.one i e he
  have hj : j = 0 := by have := get_lt hx; simpa using this
  subst hj
  simp only [List.getElem?_cons_zero, Option.some.injEq] at hx hx'
  subst hx hx'
  rcases h.row i d l he hl with ⟨rfl, rfl⟩ | ⟨b, N, cap, rfl, hm, hs, hc, hN⟩
  ·exact .fg _
  ·have hl2 := hb l (List.mem_of_getElem? hl)
   refine .row b 0 sz l.length cap N l.flatten l (fun i j => l.flatten.getD (i * sz + j) default) hm rfl hc hl2 (fun i e he => hs e (List.mem_of_getElem? he)) (fun i e j x he hx => ?_) fun i e j x he hx => ?_
   ·rw [Nat.zero_add, List.getD_eq_getElem?_getD, arget_flat hs he hx]; rfl
   ·simp only [List.getD_eq_getElem?_getD, arget_flat hs he hx, Option.getD_some]; exact .same _
end Go.Ab

/-
  Updates, part k: tables of zeros.
-/
namespace Go.Ab
open Go.Proofs
def zrow (w : Nat) : List (List D) := List.replicate w [iD 0]
def zrows (k n w : Nat) : List (List (List D)) := List.replicate k (zrow w) ++ List.replicate (n - k) []
theorem zrows_len {k n w : Nat} (h : k ≤ n) : (zrows k n w).length = n := by simp [zrows]; omega
theorem zrows_zero (n w : Nat) : zrows 0 n w = List.replicate n [] := by simp [zrows]
theorem zrows_all (n w : Nat) : zrows n n w = List.replicate n (zrow w) := by simp [zrows]
theorem zrows_set {k n w : Nat} (h : k < n) : (zrows k n w).set k (zrow w) = zrows (k + 1) n w := by
 refine List.ext_getElem? fun i => ?_
 rw [List.getElem?_set, zrows_len (by omega)]
 simp only [zrows, List.getElem?_append, List.length_replicate, List.getElem?_replicate]
 by_cases h1 : k = i
 ·subst h1; simp [h]
 ·rw [if_neg h1]
  by_cases h2 : i < k
  ·rw [if_pos h2, if_pos h2, if_pos (by omega), if_pos (by omega)]
  ·have e1 : (i - k < n - k) ↔ i < n := by omega
   have e2 : (i - (k + 1) < n - (k + 1)) ↔ i < n := by omega
   have e3 : ¬ i < k + 1 := by omega
   simp only [if_neg h2, if_neg e3, e1, e2]
def Grown (m m' : Ar) : Prop := ∀ b x, m b = some x → m' b = some x
theorem Grown.trans {m m' m'' : Ar} (h : Grown m m') (h' : Grown m' m'') : Grown m m'' := fun b x hx => h' b x (h b x hx)
theorem RowsR.grown {sz : Nat} {m m' : Ar} {es : List (List D)} {rows : List (List (List D))} (h : RowsR sz m es rows) (hg : Grown m m') : RowsR sz m' es rows where
 len := h.len
 one := h.one
 row j d l h1 h2 := by
  rcases h.row j d l h1 h2 with hr | ⟨b, N, cap, r1, r2, r3⟩
  ·exact .inl hr
  ·exact .inr ⟨b, N, cap, r1, hg b _ r2, r3⟩
 dis := h.dis
def NewR (m : Ar) (es : List (List D)) : Prop := ∀ (i b o n c : Nat), es[i]? = some [.sl b o 1 n c] → m b = none
abbrev jobH (m : Ar) (v w : Nat) (ids : List Int) (sl : List (List D)) (t : Top) : Hp :=
 [.am m, .bx [.ptr 2 0 0 0], .bx [.d (iD t.nodes), .d (boolsD t.ov), .d (linksD t.links), .d (intsD ids), .arr 3 v 0 w, .d (.list true 1 []), .d (.list true 1 [])], .da true v 1 sl, .bx [.d (iD t.nodes), .d (boolsD t.ov), .d (linksD t.links)]]
theorem pempty_ok (P : Program) (hP : P = Try.prog) (t : Top) (ht : t.links.length ≤ 256) (m : Ar) (v w : Nat) (ids : List Int) (hi : ids.length ≤ 1000) (sl : List (List D)) (hw : w = 2 * t.links.length) (hsl : sl.length = w) :
  FnS P n_update_prepare_1 [.c (.ptr 1 0 0 0), .c (.ptr 4 0 0 0)] (jobH m v w ids sl t) fun r h' => ∃ m' ve es, r = .c (.arr 5 ve 0 ids.length) ∧ h' = jobH m' v w ids sl t ++ [.da true ve 1 es] ∧ RowsR 1 m' es (List.replicate ids.length (zrow w)) ∧ Grown m m' ∧ NewR m es := by
 have ha := garcs_ok P hP t (by omega)
 refine heap_start (hP ▸ mixed) (hP ▸ fn_update_prepare_1) (hP ▸ c_update_prepare_1) (Nat.le_of_ble_eq_true rfl) fun Λ Λo K hK => ?_
 clear hP
 have leaf : ∀ m' ve es, RowsR 1 m' es (List.replicate ids.length (zrow w)) → Grown m m' → NewR m es → K (.c (.arr 5 ve 0 ids.length)) (jobH m' v w ids sl t ++ [.da true ve 1 es]) := fun m' ve es h1 h2 h3 => hK _ _ ⟨m', ve, es, rfl, rfl, h1, h2, h3⟩
 clear hK
 rw [show (2 * (t.links.length : Int)) = (w : Int) by omega] at ha
 simp only [jobH, intsD, topA, boolsD, linksD, List.cons_append, List.nil_append] at *
 generalize ilh : List.map encI ids = il at *
 have iln : Λ il = ids.length := by rw [Λo, ← ilh]; simp
 obtain ⟨nodes, ov, links⟩ := t
 simp only at *
 generalize ov.map encB = ol at *
 generalize links.map encLk = ll at *
 conv => cbv
 obtain ⟨n, hn⟩ : ∃ n : Nat, n = ids.length := ⟨_, rfl⟩
 rw [← hn] at leaf hi iln
 repeat' first | (left; intro (_ : Unit); (conv => cbv)) | (intro (k : Nat) (es0 : List (List D)) hk hes0; refine (fun (hz : n = k) => ?_) (by omega); subst hz; rw [show (Λ il).toNat = n by omega] at hes0; (conv => cbv)) | exact gu | exact trivial | refine And.intro ?_ ?_ | (intro hc; exact absurd hc (by decide)) | (intro hc; exfalso; omega) | (intro hc; (first | rw [wrap_small (by omega) (by omega)] at hc | rw [nI_eq] at hc | skip); try (conv => cbv))
 rename_i n0 hn0
 refine loop_up n (fun (s : Int × List (List D) × Ar) => [(1, .c (.ptr 4 0 0 0)), (3, .c (.arr 5 0 0 n)), (12, iA n0), (13, iA s.1)])
  (fun s => [.am s.2.2, .bx [.ptr 2 0 0 0], .bx [.d (iD nodes), .d (.list false 1 ol), .d (.list false 7 ll), .d (.list false 1 il), .arr 3 v 0 w, .d (.list true 1 []), .d (.list true 1 [])], .da true v 1 sl, .bx [.d (iD nodes), .d (.list false 1 ol), .d (.list false 7 ll)], .da true 0 1 s.2.1])
  (fun k s => s.1 = k ∧ k ≤ n ∧ RowsR 1 s.2.2 s.2.1 (zrows k n w) ∧ Grown m s.2.2 ∧ NewR m s.2.1) (0, es0, m) (Wk.ca) ⟨rfl, by omega, by simp only; rw [zrows_zero, hes0]; exact .nils 1 _ _, fun b x h => h, fun i b o n c h => by simp only [hes0, List.getElem?_replicate] at h; split at h <;> simp at h⟩ (fun k s h => h.2.1) ?_
 rintro k ⟨i, es, m2⟩ Q' ⟨hik, hk, hrow, hgr, hnw⟩ norm ex rt
 simp only at hik hrow hgr hnw
 have lel : es.length = n := by rw [hrow.len, zrows_len hk]
 by_cases hlt : k < n
 ·obtain ⟨j, hj⟩ : ∃ j : Nat, j = k := ⟨_, rfl⟩
  have hej : es[j]? = some (es[j]'(by omega)) := List.getElem?_eq_getElem _
  obtain ⟨d, hd⟩ := hrow.one j _ hej
  rw [hd] at hej
  conv => cbv
  repeat' first | (refine ex _ _ _ ?_; (conv => cbv)) | (refine rt _ _ ?_; (conv => cbv)) | (right; intro (_ : Unit); (conv => cbv)) | refine call_i ha rfl rfl ?_ | (intro (k : Nat) hk; refine (fun (hz : j = k) => ?_) ?_; rotate_left; omega; subst hz; (conv => cbv)) | (intro (e : List D) he; cases Option.some.inj (he.symm.trans hej); (conv => cbv)) | (intro (b' : Nat) (k' : Nat) (N' : Nat) (z' : List (List D)) (m' : Ar) hb' hk' hkN hz' hm'; (conv => cbv)) | exact gu | exact trivial | refine And.intro ?_ ?_ | (intro hc; exact absurd hc (by decide)) | (intro hc; exfalso; omega) | (intro hc; (first | rw [wrap_small (by omega) (by omega)] at hc | rw [nI_eq] at hc | skip); try (conv => cbv))
  rename_i es' hes' i'
  have hz2 : z' = zrow w := by rw [hz', zrow]; congr 1; omega
  have hk2 : k' = z'.length := by rw [hz2, zrow, List.length_replicate]; omega
  refine norm _ _ (i', es', m') ⟨by simp only; omega, by omega, ?_, ?_, ?_⟩ (Wk.ca)
  ·simp only
   have h5 := hrow.first (j := j) (l' := z') hb' (fun e he => by rw [hz2, zrow] at he; rw [(List.mem_replicate.1 he).2]; rfl) (Nat.le_refl _) (by rw [← hk2]; exact hkN)
   have h6 : (zrows k n w).set j z' = zrows (k + 1) n w := by rw [hj, hz2]; exact zrows_set hlt
   rw [h6] at h5
   rw [hes', hm', hk2]
   exact h5
  ·simp only
   rw [hm']
   exact fun b x hx => by
    have h1 := hgr b x hx
    rw [mup_ne (fun e => by rw [e, hb'] at h1; cases h1)]; exact h1
  ·simp only
   rw [hes']
   intro i2 b o n2 c he
   rcases get_set he with ⟨_, he, _⟩ | ⟨_, he⟩
   ·cases he
    cases hx : m b' with
    | none => rfl
    | some x => rw [hgr b' x hx] at hb'; cases hb'
   ·exact hnw i2 b o n2 c he
 ·obtain rfl : k = n := by omega
  rw [zrows_all] at hrow
  have lf := leaf m2 0 es hrow hgr hnw
  conv => cbv
  repeat' first | (refine ex _ _ _ ?_; (conv => cbv)) | (refine rt _ _ ?_; (conv => cbv)) | exact gu | exact trivial | refine And.intro ?_ ?_ | (intro hc; exact absurd hc (by decide)) | (intro hc; exfalso; omega) | (intro hc; (first | rw [wrap_small (by omega) (by omega)] at hc | rw [nI_eq] at hc | skip); try (conv => cbv))
  exact lf
end Go.Ab

