/-
  Merged texts, part l.
-/
import Derived.Test.YtlehnbmcbjoebaaZk
/-
  Contracts, part c: lists.
-/
namespace Go.Ab
open Go.Proofs
theorem yes_of {K : AV → Prop} {p : Prop} [Decidable p] (hK : K (bA (decide p))) : p → K (bA true) := fun h => by rw [decide_eq_true h] at hK; exact hK
theorem no_of {K : AV → Prop} {p : Prop} [Decidable p] (hK : K (bA (decide p))) : ¬ p → K (bA false) := fun h => by rw [decide_eq_false h] at hK; exact hK
theorem mem_take_succ {α : Type} {l : List α} {k : Nat} {x y : α} (h : l[k]? = some x) : y ∈ l.take (k + 1) ↔ y ∈ l.take k ∨ y = x := by
 rw [take_succ_get h]; simp
theorem has_ok (P : Program) (hP : P = Try.prog) (l : List Int) (n : Int) : Ret P n_ref09_Has [intsA l, iA n] (bA (decide (n ∈ l))) := by
 refine ret_start (hP ▸ mixed) (hP ▸ fn_ref09_Has) (hP ▸ c_ref09_Has) (Nat.le_of_ble_eq_true rfl) fun Λ Λo K hK => ?_
 clear hP
 have yes := yes_of hK
 have no := no_of hK
 simp only [intsA, intsD] at *
 generalize llh : List.map encI l = ll at *
 have lln : Λ ll = l.length := by rw [Λo, ← llh]; simp
 conv => cbv
 refine loop_up l.length (fun i : Int => [(0, .c (.d (.list false 1 ll))), (1, iA n), (5, iA i)]) (fun _ => []) (fun k i => i = k ∧ k ≤ l.length ∧ n ∉ l.take k) 0 (Wk.cw) ⟨rfl, by omega, by simp⟩ (fun k s h => h.2.1) ?_
 rintro k i Q' ⟨hi, hk, hno⟩ norm ex rt
 conv => cbv
 repeat' first | (refine ex _ _ _ ?_; (conv => cbv)) | (refine rt _ _ ?_; (conv => cbv)) | (intro e he; obtain ⟨x, hx, rfl⟩ := map_get' llh he; (conv => cbv)) | exact gu | exact trivial | refine And.intro ?_ ?_ | (intro hc; exact absurd hc (by decide)) | (intro hc; exfalso; omega) | (intro hc; (first | rw [wrap_small (by omega) (by omega)] at hc | rw [nI_eq] at hc | skip); try (conv => cbv))
 ·subst hc; exact yes (List.mem_of_getElem? hx)
 ·refine norm _ _ _ ?_ (Wk.cw)
  exact ⟨by omega, by omega, by rw [mem_take_succ (get_at hx (by omega))]; intro h; rcases h with h | h; exact hno h; omega⟩
 ·exact no (by rw [List.take_of_length_le (by omega)] at hno; exact hno)
theorem sameInts_ok (P : Program) (hP : P = Try.prog) (l m : List Int) : Ret P n_ref09_SameInts [intsA l, intsA m] (bA (decide (l = m))) := by
 refine ret_start (hP ▸ mixed) (hP ▸ fn_ref09_SameInts) (hP ▸ c_ref09_SameInts) (Nat.le_of_ble_eq_true rfl) fun Λ Λo K hK => ?_
 clear hP
 have yes := yes_of hK
 have no := no_of hK
 simp only [intsA, intsD] at *
 generalize llh : List.map encI l = ll at *
 have lln : Λ ll = l.length := by rw [Λo, ← llh]; simp
 generalize mlh : List.map encI m = ml at *
 have mln : Λ ml = m.length := by rw [Λo, ← mlh]; simp
 conv => cbv
 repeat' first | exact gu | exact trivial | refine And.intro ?_ ?_ | (intro hc; exact absurd hc (by decide)) | (intro hc; exfalso; omega) | (intro hc; (first | rw [wrap_small (by omega) (by omega)] at hc | rw [nI_eq] at hc | skip); try (conv => cbv))
 ·exact no fun h => by subst h; omega
 refine loop_up l.length (fun i : Int => [(0, .c (.d (.list false 1 ll))), (1, .c (.d (.list false 1 ml))), (5, iA i)]) (fun _ => []) (fun k i => i = k ∧ k ≤ l.length ∧ l.take k = m.take k) 0 (Wk.cw) ⟨rfl, by omega, by simp⟩ (fun k s h => h.2.1) ?_
 rintro k i Q' ⟨hi, hk, hno⟩ norm ex rt
 conv => cbv
 repeat' first | (refine ex _ _ _ ?_; (conv => cbv)) | (refine rt _ _ ?_; (conv => cbv)) | (intro e he; obtain ⟨x, hx, rfl⟩ := map_get' llh he; (conv => cbv)) | (intro e he; obtain ⟨y, hy, rfl⟩ := map_get' mlh he; (conv => cbv)) | exact gu | exact trivial | refine And.intro ?_ ?_ | (intro hc; exact absurd hc (by decide)) | (intro hc; exfalso; omega) | (intro hc; (first | rw [wrap_small (by omega) (by omega)] at hc | rw [nI_eq] at hc | skip); try (conv => cbv))
 ·refine no fun h => ?_
  subst h; rw [hx] at hy; cases hy; exact hc rfl
 ·refine norm _ _ _ ?_ (Wk.cw)
  exact ⟨by omega, by omega, by rw [take_succ_get (get_at hx (by omega)), take_succ_get (get_at hy (by omega)), hno, show x = y by omega]⟩
 ·exact yes (by rw [List.take_of_length_le (by omega), List.take_of_length_le (by omega)] at hno; exact hno)
theorem index_ok (P : Program) (hP : P = Try.prog) (l : List Int) (n : Int) : Ret P n_slices_Index_int_int [intsA l, iA n] (iA (if n ∈ l then (l.idxOf n : Int) else -1)) := by
 refine ret_start (hP ▸ mixed) (hP ▸ fn_slices_Index_int_int) (hP ▸ c_slices_Index_int_int) (Nat.le_of_ble_eq_true rfl) fun Λ Λo K hK => ?_
 clear hP
 have leaf : ∀ b : Int, (if n ∈ l then (l.idxOf n : Int) else -1) = b → K (iA b) := fun b hb => by rw [← hb]; exact hK
 simp only [intsA, intsD] at *
 generalize llh : List.map encI l = ll at *
 have lln : Λ ll = l.length := by rw [Λo, ← llh]; simp
 conv => cbv
 intro hmax
 conv => cbv
 refine loop_up l.length (fun i : Int => [(0, .c (.d (.list false 1 ll))), (1, iA n), (7, iA (Λ ll)), (8, iA i)]) (fun _ => []) (fun k i => i = k ∧ k ≤ l.length ∧ n ∉ l.take k) 0 (Wk.cw) ⟨rfl, by omega, by simp⟩ (fun k s h => h.2.1) ?_
 rintro k i Q' ⟨hi, hk, hno⟩ norm ex rt
 conv => cbv
 repeat' first | (refine ex _ _ _ ?_; (conv => cbv)) | (refine rt _ _ ?_; (conv => cbv)) | (intro e he; obtain ⟨x, hx, rfl⟩ := map_get' llh he; (conv => cbv)) | exact gu | exact trivial | refine And.intro ?_ ?_ | (intro hc; exact absurd hc (by decide)) | (intro hc; exfalso; omega) | (intro hc; (first | rw [wrap_small (by omega) (by omega)] at hc | rw [nI_eq] at hc | skip); try (conv => cbv))
 ·refine leaf _ ?_
  subst hc
  have hx := get_at hx (show i.toNat = k by omega)
  rw [if_pos (List.mem_of_getElem? hx), hi]
  congr 1
  have e : l = l.take k ++ n :: l.drop (k + 1) := by
   conv => lhs; rw [← List.take_append_drop k l]
   congr 1
   rw [List.drop_eq_getElem_cons (by have := get_lt hx; exact this)]
   congr 1
   rw [List.getElem?_eq_getElem (get_lt hx)] at hx
   exact Option.some.inj hx
  rw [e, List.idxOf_append, if_neg hno, List.idxOf_cons_self]
  simp; omega
 ·refine norm _ _ _ ?_ (Wk.cw)
  exact ⟨by omega, by omega, by rw [mem_take_succ (get_at hx (by omega))]; intro h; rcases h with h | h; exact hno h; omega⟩
 ·exact leaf _ (if_neg (by rw [List.take_of_length_le (by omega)] at hno; exact hno))
theorem contains_ok (P : Program) (hP : P = Try.prog) (l : List Int) (n : Int) : Ret P n_slices_Contains_int_int [intsA l, iA n] (bA (decide (n ∈ l))) := by
 refine ret_start (hP ▸ mixed) (hP ▸ fn_slices_Contains_int_int) (hP ▸ c_slices_Contains_int_int) (Nat.le_of_ble_eq_true rfl) fun Λ Λo K hK => ?_
 have hw := index_ok P hP l n
 clear hP
 have yes := yes_of hK
 have no := no_of hK
 have hi : (0 : Int) ≤ (if n ∈ l then (l.idxOf n : Int) else -1) ↔ n ∈ l := by split <;> simp_all <;> omega
 generalize (if n ∈ l then (l.idxOf n : Int) else -1) = r at *
 simp only [intsA, intsD] at *
 generalize llh : List.map encI l = ll at *
 have lln : Λ ll = l.length := by rw [Λo, ← llh]; simp
 conv => cbv
 repeat' first | refine call_i hw rfl rfl ?_ | exact gu | exact trivial | refine And.intro ?_ ?_ | (intro hc; exact absurd hc (by decide)) | (intro hc; exfalso; omega) | (intro hc; (first | rw [wrap_small (by omega) (by omega)] at hc | rw [nI_eq] at hc | skip); try (conv => cbv))
 ·exact yes (hi.1 (by omega))
 ·exact no fun h => by have := hi.2 h; omega
end Go.Ab

/-
  Contracts, part d: arcs, segments, the program's validity of topologies.
-/
namespace Go.Ab
open Go.Proofs
theorem twithin_ok (P : Program) (hP : P = Try.prog) (n lo hi : Int) : Ret P n_topology_within [iA n, iA lo, iA hi] (bA (decide (lo ≤ n ∧ n ≤ hi))) := by
 refine ret_start (hP ▸ mixed) (hP ▸ fn_topology_within) (hP ▸ c_topology_within) (Nat.le_of_ble_eq_true rfl) fun Λ Λo K hK => ?_
 clear hP
 have yes := yes_of hK
 have no := no_of hK
 conv => cbv
 repeat' first | exact gu | exact trivial | refine And.intro ?_ ?_ | (intro hc; exact absurd hc (by decide)) | (intro hc; exfalso; omega) | (intro hc; (first | rw [wrap_small (by omega) (by omega)] at hc | rw [nI_eq] at hc | skip); try (conv => cbv))
 ·exact yes (by omega)
 ·exact no (by omega)
 ·exact no (by omega)
theorem gnode_ok (P : Program) (hP : P = Try.prog) (t : Top) (n : Int) : Ret P n_graph_Node [topA t, iA n] (bA (decide (0 ≤ n ∧ n < t.nodes))) := by
 refine ret_start (hP ▸ mixed) (hP ▸ fn_graph_Node) (hP ▸ c_graph_Node) (Nat.le_of_ble_eq_true rfl) fun Λ Λo K hK => ?_
 clear hP
 have yes := yes_of hK
 have no := no_of hK
 obtain ⟨nodes, ov, links⟩ := t
 simp only [topA, boolsD, linksD] at *
 generalize hol : ov.map encB = ol at *
 generalize hll : links.map encLk = ll at *
 have hlo : Λ ol = ov.length := by rw [Λo, ← hol]; simp
 have hls : Λ ll = links.length := by rw [Λo, ← hll]; simp
 conv => cbv
 repeat' first | exact gu | exact trivial | refine And.intro ?_ ?_ | (intro hc; exact absurd hc (by decide)) | (intro hc; exfalso; omega) | (intro hc; (first | rw [wrap_small (by omega) (by omega)] at hc | rw [nI_eq] at hc | skip); try (conv => cbv))
 ·exact yes (by omega)
 ·exact no (by omega)
 ·exact no (by omega)
theorem tvalid_ok (P : Program) (hP : P = Try.prog) (t : Top) : Ret P n_topology_Valid [topA t] (bA (validT t)) := by
 refine ret_start (hP ▸ mixed) (hP ▸ fn_topology_Valid) (hP ▸ c_topology_Valid) (Nat.le_of_ble_eq_true rfl) fun Λ Λo K hK => ?_
 have hw := twithin_ok P hP
 have hn := gnode_ok P hP t
 clear hP
 have leaf : ∀ b, validT t = b → K (bA b) := fun b hb => by rw [← hb]; exact hK
 have no : (validT t = true → False) → K (bA false) := fun h => leaf _ (Bool.eq_false_iff.2 h)
 obtain ⟨nodes, ov, links⟩ := t
 simp only [topA, boolsD, linksD] at *
 generalize hol : ov.map encB = ol at *
 generalize hll : links.map encLk = ll at *
 have hlo : Λ ol = ov.length := by rw [Λo, ← hol]; simp
 have hls : Λ ll = links.length := by rw [Λo, ← hll]; simp
 conv => cbv
 repeat' first | refine call_b (hw _ _ _) rfl rfl ?_ ?_ | exact gu | exact trivial | refine And.intro ?_ ?_ | (intro hc; exact absurd hc (by decide)) | (intro hc; exfalso; omega) | (intro hc; (first | rw [wrap_small (by omega) (by omega)] at hc | rw [nI_eq] at hc | skip); try (conv => cbv))
 all_goals try simp only [decide_eq_true_eq, decide_eq_false_iff_not] at *
 all_goals try (refine no fun h => ?_; obtain ⟨h1, h2, h3, h4⟩ := validT_spec.1 h; simp only at h1 h2 h3; omega)
 all_goals
  refine loop_up links.length (fun (i : Int) => [(1, .c (.ptr 0 0 0 0)), (29, iA (Λ ll)), (30, iA i)]) (fun _ => [.bx [.d (.int .i64 nodes), .d (.list false 1 ol), .d (.list false 7 ll)]]) (fun k i => i = k ∧ k ≤ links.length ∧ ∀ l ∈ links.take k, okLk nodes l = true) 0 (Wk.cw) ⟨rfl, by omega, by simp⟩ (fun k s h => h.2.1) ?_
  rintro k i Q' ⟨hi, hk, hok⟩ norm ex rt
  conv => cbv
  repeat' first | (refine ex _ _ _ ?_; (conv => cbv)) | (refine rt _ _ ?_; (conv => cbv)) | refine call_b (hw _ _ _) rfl rfl ?_ ?_ | refine call_b (hn _) rfl rfl ?_ ?_ | (intro e he; obtain ⟨⟨xa, xb, xc, xd, xe, xf, xg⟩, hx, rfl⟩ := map_get' hll he; (conv => cbv)) | exact gu | exact trivial | refine And.intro ?_ ?_ | (intro hc; exact absurd hc (by decide)) | (intro hc; exfalso; omega) | (intro hc; (first | rw [wrap_small (by omega) (by omega)] at hc | rw [nI_eq] at hc | skip); try (conv => cbv))
 all_goals try simp only [decide_eq_true_eq, decide_eq_false_iff_not] at *
 all_goals try (refine no fun h => ?_; obtain ⟨h1, h2, h3, h4⟩ := validT_spec.1 h; have h5 := okLk_spec.1 (h4 _ (List.mem_of_getElem? hx)); simp only at h5; omega)
 all_goals try (refine leaf _ (validT_spec.2 ⟨by simp only; omega, by simp only; omega, by simp only; omega, fun l hl => hok l ?_⟩); rw [List.take_of_length_le (by omega)]; exact hl)
 all_goals
  refine norm _ _ _ ?_ (Wk.cw)
  refine ⟨by omega, by omega, ?_⟩
  rw [show i.toNat = k by omega] at hx
  rw [take_succ_get hx]
  intro l hl
  rcases List.mem_append.1 hl with hl | hl
  ·exact hok l hl
  ·simp only [List.mem_singleton] at hl
   subst hl
   exact okLk_spec.2 ⟨by simp only; omega, by simp only; omega, by simp only; omega, by simp only; omega, by simp only; omega, by simp only; omega, by simp only; omega, by simp only; omega⟩
end Go.Ab

/-
  Reservations, part a: the reference's table: where things are, what is used.
-/
namespace Go.Ab
open Go.Proofs
structure Rq where
 id : Int
 arcs : List Int
 amt : Int
 setup : Int
 hold : Int
 deriving DecidableEq, Inhabited
def encRq (r : Rq) : List D := [iD r.id, intsD r.arcs, iD r.amt, iD r.setup, iD r.hold]
abbrev rqsD (l : List Rq) : D := .list false 5 (l.map encRq)
def rqA (r : Rq) : AV := .agg [.d (iD r.id), .d (intsD r.arcs), .d (iD r.amt), .d (iD r.setup), .d (iD r.hold)]
def tbA (t : Top) (l : List Rq) : AV := .agg [.d (iD t.nodes), .d (boolsD t.ov), .d (linksD t.links), .d (rqsD l)]
structure Stp where
 rel : Bool
 r : Rq
 deriving DecidableEq, Inhabited
def encStp (s : Stp) : List D := .bool s.rel :: encRq s.r
abbrev stpsD (l : List Stp) : D := .list false 6 (l.map encStp)
def stpA (s : Stp) : AV := .agg [.d (.bool s.rel), .d (iD s.r.id), .d (intsD s.r.arcs), .d (iD s.r.amt), .d (iD s.r.setup), .d (iD s.r.hold)]
def isR (t : Top) (a : Int) : Prop := 0 ≤ a ∧ a < arcsT t
instance (t : Top) (a : Int) : Decidable (isR t a) := inferInstanceAs (Decidable (_ ∧ _))
def wtR (p : Rq → Bool) (a : Int) (r : Rq) : Int := if p r = true ∧ a ∈ r.arcs then r.amt else 0
def sumR (p : Rq → Bool) (a : Int) (l : List Rq) : Int := (l.map (wtR p a)).sum
def useS (t : Top) (l : List Rq) (a : Int) : Int := if isR t a then sumR (fun _ => true) a l else 0
def roomS (t : Top) (l : List Rq) (a p : Int) : Int := if isR t a then (lkAt t a).cap - sumR (fun r => decide (r.hold ≤ p)) a l else 0
def findR (l : List Rq) (id : Int) : Int := if id ∈ l.map (·.id) then ((l.map (·.id)).idxOf id : Int) else -1
def Sml (l : List Rq) : Prop := (∀ r ∈ l, 0 ≤ r.amt ∧ r.amt ≤ 1048576) ∧ l.length ≤ 100000
theorem sumR_snoc (p : Rq → Bool) (a : Int) (l : List Rq) (r : Rq) : sumR p a (l ++ [r]) = sumR p a l + wtR p a r := by simp [sumR]
theorem wtR_bd {p : Rq → Bool} {a : Int} {r : Rq} (h : 0 ≤ r.amt ∧ r.amt ≤ 1048576) : 0 ≤ wtR p a r ∧ wtR p a r ≤ 1048576 := by
 unfold wtR; split <;> omega
theorem sumR_bd {p : Rq → Bool} {a : Int} {l : List Rq} (h : ∀ r ∈ l, 0 ≤ r.amt ∧ r.amt ≤ 1048576) : 0 ≤ sumR p a l ∧ sumR p a l ≤ 1048576 * (l.length : Int) := by
 induction l with
 | nil => simp [sumR]
 | cons r l ih =>
  have h1 := wtR_bd (p := p) (a := a) (h r (by simp))
  have h2 := ih fun x hx => h x (by simp [hx])
  simp only [sumR, List.map_cons, List.sum_cons, List.length_cons] at *
  omega
theorem sumR_take {p : Rq → Bool} {a : Int} {l : List Rq} (h : Sml l) (k : Nat) : 0 ≤ sumR p a (l.take k) ∧ sumR p a (l.take k) ≤ 104857600000 := by
 have h1 := sumR_bd (p := p) (a := a) (l := l.take k) fun r hr => h.1 r (List.mem_of_mem_take hr)
 have h2 := h.2
 have h3 := List.length_take_le k l
 have h4 : (l.take k).length ≤ l.length := by rw [List.length_take]; omega
 omega
theorem cap_le {t : Top} (hv : validT t = true) {a : Int} (h0 : 0 ≤ a) (h1 : a < 2 * t.links.length) : t.links[(a / 2).toNat]? = some (lkAt t a) ∧ 0 ≤ (lkAt t a).cap ∧ (lkAt t a).cap ≤ 1048576 := by
 obtain ⟨_, _, _, hl⟩ := validT_spec.1 hv
 have hlt : (a / 2).toNat < t.links.length := by omega
 have e : t.links[(a / 2).toNat]? = some (t.links[(a / 2).toNat]) := List.getElem?_eq_getElem hlt
 have := okLk_spec.1 (hl _ (List.mem_of_getElem? e))
 rw [lkAt, e]
 exact ⟨rfl, by simp only [Option.getD_some]; omega, by simp only [Option.getD_some]; omega⟩
theorem idxOf_at {n : Int} : ∀ {l : List Int} {k : Nat}, l[k]? = some n → n ∉ l.take k → l.idxOf n = k := by
 intro l
 induction l with
 | nil => intro k h; simp at h
 | cons x l ih =>
  intro k h hno
  cases k with
  | zero => simp at h; rw [h, List.idxOf_cons_self]
  | succ k =>
   simp only [List.getElem?_cons_succ, List.take_succ_cons, List.mem_cons, not_or] at h hno
   rw [List.idxOf_cons, beq_eq_false_iff_ne.2 (fun e => hno.1 e.symm), cond_false, ih h hno.2]
theorem is_ok (P : Program) (hP : P = Try.prog) (t : Top) (l : List Rq) (a : Int) : Ret P n_ref47_Table_is [tbA t l, iA a] (bA (decide (isR t a))) := by
 have ha := arcs_ok P hP t
 refine ret_start (hP ▸ mixed) (hP ▸ fn_ref47_Table_is) (hP ▸ c_ref47_Table_is) (Nat.le_of_ble_eq_true rfl) fun Λ Λo K hK => ?_
 clear hP
 have yes : (0 ≤ a ∧ a < arcsT t) → K (bA true) := yes_of hK
 have no : ¬ (0 ≤ a ∧ a < arcsT t) → K (bA false) := no_of hK
 clear hK
 have hle := arcsT_le t
 generalize arcsT t = n at *
 obtain ⟨nodes, ov, links⟩ := t
 simp only [tbA, topA, boolsD, linksD, rqsD] at *
 generalize ov.map encB = ol at *
 generalize links.map encLk = ll at *
 generalize l.map encRq = rl at *
 conv => cbv
 repeat' first | refine call_i ha rfl rfl ?_ | exact gu | exact trivial | refine And.intro ?_ ?_ | (intro hc; exact absurd hc (by decide)) | (intro hc; exfalso; omega) | (intro hc; (first | rw [wrap_small (by omega) (by omega)] at hc | rw [nI_eq] at hc | skip); try (conv => cbv))
 all_goals first | exact yes ⟨by omega, by omega⟩ | exact no (by omega)
theorem fnd_ok (P : Program) (hP : P = Try.prog) (t : Top) (l : List Rq) (id : Int) : Ret P n_ref47_Table_Find [tbA t l, iA id] (iA (findR l id)) := by
 refine ret_start (hP ▸ mixed) (hP ▸ fn_ref47_Table_Find) (hP ▸ c_ref47_Table_Find) (Nat.le_of_ble_eq_true rfl) fun Λ Λo K hK => ?_
 clear hP
 have leaf : ∀ b : Int, findR l id = b → K (iA b) := fun b hb => by rw [← hb]; exact hK
 clear hK
 simp only [tbA, boolsD, linksD, rqsD] at *
 generalize t.ov.map encB = ol at *
 generalize t.links.map encLk = ll at *
 generalize rlh : l.map encRq = rl at *
 have rln : Λ rl = l.length := by rw [Λo, ← rlh]; simp
 conv => cbv
 refine loop_up l.length (fun i : Int => [(1, iA id), (2, .c (.ptr 0 0 0 0)), (5, iA i)]) (fun _ => [.bx [.d (iD t.nodes), .d (.list false 1 ol), .d (.list false 7 ll), .d (.list false 5 rl)]]) (fun k i => i = k ∧ k ≤ l.length ∧ id ∉ (l.take k).map (·.id)) 0 (Wk.cw) ⟨rfl, by omega, by simp⟩ (fun k s h => h.2.1) ?_
 rintro k i Q' ⟨hi, hk, hno⟩ norm ex rt
 conv => cbv
 repeat' first | (refine ex _ _ _ ?_; (conv => cbv)) | (refine rt _ _ ?_; (conv => cbv)) | (intro e he; obtain ⟨x, hx, rfl⟩ := map_get' rlh he; obtain ⟨xi, xa, xm, xs, xh⟩ := x; (conv => cbv)) | exact gu | exact trivial | refine And.intro ?_ ?_ | (intro hc; exact absurd hc (by decide)) | (intro hc; exfalso; omega) | (intro hc; (first | rw [wrap_small (by omega) (by omega)] at hc | rw [nI_eq] at hc | skip); try (conv => cbv))
 ·refine leaf _ ?_
  have hx' : (l.map (·.id))[k]? = some id := by rw [List.getElem?_map, get_at hx (show i.toNat = k by omega)]; exact congrArg some hc
  rw [findR, if_pos (List.mem_of_getElem? hx'), idxOf_at hx' (by rw [← List.map_take]; exact hno), hi]
 ·refine norm _ _ _ ?_ (Wk.cw)
  refine ⟨by omega, by omega, ?_⟩
  rw [take_succ_get (get_at hx (by omega))]
  simp only [List.map_append, List.mem_append, List.map_cons, List.map_nil, List.mem_singleton]
  rintro (h | h)
  ·exact hno h
  ·omega
 ·refine leaf _ ?_
  rw [List.take_of_length_le (by omega)] at hno
  rw [findR, if_neg hno]
theorem wtR_of {p : Rq → Bool} {a : Int} {r : Rq} : (p r = true ∧ a ∈ r.arcs → wtR p a r = r.amt) ∧ (¬ (p r = true ∧ a ∈ r.arcs) → wtR p a r = 0) := ⟨fun h => if_pos h, fun h => if_neg h⟩
theorem ruse_ok (P : Program) (hP : P = Try.prog) (t : Top) (l : List Rq) (a : Int) (hs : Sml l) : Ret P n_ref47_Table_Use [tbA t l, iA a] (iA (useS t l a)) := by
 have his := is_ok P hP t l a
 have hhas := fun m => has_ok P hP m a
 refine ret_start (hP ▸ mixed) (hP ▸ fn_ref47_Table_Use) (hP ▸ c_ref47_Table_Use) (Nat.le_of_ble_eq_true rfl) fun Λ Λo K hK => ?_
 clear hP
 have leaf : ∀ b : Int, useS t l a = b → K (iA b) := fun b hb => by rw [← hb]; exact hK
 clear hK
 rw [useS] at leaf
 have hbd := sumR_take (p := fun _ => true) (a := a) hs
 have hstep : ∀ k r, l[k]? = some r → sumR (fun _ => true) a (l.take (k + 1)) = sumR (fun _ => true) a (l.take k) + wtR (fun _ => true) a r := fun k r h => by rw [take_succ_get h, sumR_snoc]
 have h0 : sumR (fun _ => true) a (l.take 0) = 0 := rfl
 have hall : l.take l.length = l := List.take_length
 generalize sumR (fun _ => true) a = f at *
 simp only [tbA, boolsD, linksD, rqsD, intsA, intsD] at *
 generalize t.ov.map encB = ol at *
 generalize t.links.map encLk = ll at *
 generalize rlh : l.map encRq = rl at *
 have rln : Λ rl = l.length := by rw [Λo, ← rlh]; simp
 conv => cbv
 repeat' first | (refine ex _ _ _ ?_; (conv => cbv)) | (refine rt _ _ ?_; (conv => cbv)) | exact gu | exact trivial | refine And.intro ?_ ?_ | (intro hc; exact absurd hc (by decide)) | (intro hc; exfalso; omega) | (intro hc; (first | rw [wrap_small (by omega) (by omega)] at hc | rw [nI_eq] at hc | skip); try (conv => cbv))
 refine loop_up l.length (fun s : Int × Int => [(1, iA a), (2, .c (.ptr 0 0 0 0)), (5, iA s.1), (6, iA s.2)]) (fun _ => [.bx [.d (iD t.nodes), .d (.list false 1 ol), .d (.list false 7 ll), .d (.list false 5 rl)]]) (fun k s => s.2 = k ∧ k ≤ l.length ∧ s.1 = f (l.take k) ∧ (0 < k → isR t a)) (0, 0) (Wk.cw) ⟨rfl, by omega, h0.symm, by simp⟩ (fun k s h => h.2.1) ?_
 rintro k ⟨n, i⟩ Q' ⟨hi, hk, hn, hr⟩ norm ex rt
 simp only at hi hn
 have hb := hbd k
 rw [← hn] at hb
 by_cases hlt : k < l.length
 ·obtain ⟨⟨xi, xa, xm, xs, xh⟩, hx⟩ : ∃ x, l[k]? = some x := ⟨_, List.getElem?_eq_getElem hlt⟩
  have hxa := elt_at rlh hi hx
  simp only [encRq, intsD] at hxa
  generalize hxe : xa.map encI = xl at *
  have hhasx := hhas xa
  simp only [hxe] at hhasx
  have hst := hstep k _ hx
  have hxm := hs.1 _ (List.mem_of_getElem? hx)
  have hw := @wtR_of (fun _ => true) a ⟨xi, xa, xm, xs, xh⟩
  simp only [true_and] at hxm hw
  rw [← hn] at hst
  generalize wtR (fun _ => true) a ⟨xi, xa, xm, xs, xh⟩ = wx at *
  by_cases hax : a ∈ xa
  ·have hw := hw.1 hax
   simp only [hax, decide_true] at hhasx
   conv => cbv
   repeat' first | (refine ex _ _ _ ?_; (conv => cbv)) | (refine rt _ _ ?_; (conv => cbv)) | refine call_b his rfl rfl ?_ ?_ | (intro e he; cases Option.some.inj (he.symm.trans hxa); (conv => cbv)) | refine call_b hhasx rfl rfl ?_ ?_ | exact gu | exact trivial | refine And.intro ?_ ?_ | (intro hc; exact absurd hc (by decide)) | (intro hc; exfalso; omega) | (intro hc; (first | rw [wrap_small (by omega) (by omega)] at hc | rw [nI_eq] at hc | skip); try (conv => cbv))
   ·refine norm _ _ (_, _) ?_ (Wk.cw)
    exact ⟨by simp only; omega, by omega, by simp only; omega, fun _ => of_decide_eq_true (by assumption)⟩
   ·refine leaf _ ?_
    have hno := of_decide_eq_false (by assumption)
    rw [if_neg hno]
    obtain rfl : k = 0 := Nat.eq_zero_of_not_pos fun h => hno (hr h)
    omega
  ·have hw := hw.2 hax
   simp only [hax, decide_false] at hhasx
   conv => cbv
   repeat' first | (refine ex _ _ _ ?_; (conv => cbv)) | (refine rt _ _ ?_; (conv => cbv)) | refine call_b his rfl rfl ?_ ?_ | (intro e he; cases Option.some.inj (he.symm.trans hxa); (conv => cbv)) | refine call_b hhasx rfl rfl ?_ ?_ | exact gu | exact trivial | refine And.intro ?_ ?_ | (intro hc; exact absurd hc (by decide)) | (intro hc; exfalso; omega) | (intro hc; (first | rw [wrap_small (by omega) (by omega)] at hc | rw [nI_eq] at hc | skip); try (conv => cbv))
   ·refine norm _ _ (_, _) ?_ (Wk.cw)
    exact ⟨by simp only; omega, by omega, by simp only; omega, fun _ => of_decide_eq_true (by assumption)⟩
   ·refine leaf _ ?_
    have hno := of_decide_eq_false (by assumption)
    rw [if_neg hno]
    obtain rfl : k = 0 := Nat.eq_zero_of_not_pos fun h => hno (hr h)
    omega
 ·conv => cbv
  repeat' first | (refine ex _ _ _ ?_; (conv => cbv)) | (refine rt _ _ ?_; (conv => cbv)) | exact gu | exact trivial | refine And.intro ?_ ?_ | (intro hc; exact absurd hc (by decide)) | (intro hc; exfalso; omega) | (intro hc; (first | rw [wrap_small (by omega) (by omega)] at hc | rw [nI_eq] at hc | skip); try (conv => cbv))
  refine leaf _ ?_
  obtain rfl : k = l.length := by omega
  rw [hall] at hn
  by_cases h0' : 0 < l.length
  ·rw [if_pos (hr h0'), hn]
  ·obtain rfl : l = [] := List.eq_nil_of_length_eq_zero (by omega)
   have h00 : f [] = 0 := h0
   split <;> omega
theorem isR_valid {t : Top} {a : Int} (h : isR t a) : validT t = true ∧ 0 ≤ a ∧ a < 2 * t.links.length := by
 unfold isR arcsT at h
 split at h
 ·rename_i hv; exact ⟨hv, h.1, h.2⟩
 ·omega
theorem rroom_ok (P : Program) (hP : P = Try.prog) (t : Top) (l : List Rq) (a p : Int) (hs : Sml l) : Ret P n_ref47_Table_Room [tbA t l, iA a, iA p] (iA (roomS t l a p)) := by
 have his := is_ok P hP t l a
 have hhas := fun m => has_ok P hP m a
 refine ret_start (hP ▸ mixed) (hP ▸ fn_ref47_Table_Room) (hP ▸ c_ref47_Table_Room) (Nat.le_of_ble_eq_true rfl) fun Λ Λo K hK => ?_
 clear hP
 have leaf : ∀ b : Int, roomS t l a p = b → K (iA b) := fun b hb => by rw [← hb]; exact hK
 clear hK
 rw [roomS] at leaf
 have hbd := sumR_take (p := fun r => decide (r.hold ≤ p)) (a := a) hs
 have hstep : ∀ k r, l[k]? = some r → sumR (fun r => decide (r.hold ≤ p)) a (l.take (k + 1)) = sumR (fun r => decide (r.hold ≤ p)) a (l.take k) + wtR (fun r => decide (r.hold ≤ p)) a r := fun k r h => by rw [take_succ_get h, sumR_snoc]
 have h0 : sumR (fun r => decide (r.hold ≤ p)) a (l.take 0) = 0 := rfl
 have hall : l.take l.length = l := List.take_length
 generalize sumR (fun r => decide (r.hold ≤ p)) a = f at *
 have hcap : isR t a → ∃ x, t.links[(a / 2).toNat]? = some x ∧ lkAt t a = x ∧ 0 ≤ x.cap ∧ x.cap ≤ 1048576 ∧ 0 ≤ a ∧ a < 2 * t.links.length ∧ a < 9223372036854775808 := fun h => by
  obtain ⟨hv, h1, h2⟩ := isR_valid h
  have h256 := (validT_spec.1 hv).2.2.1
  obtain ⟨c1, c2⟩ := cap_le hv h1 h2
  exact ⟨_, c1, rfl, c2.1, c2.2, h1, h2, by omega⟩
 simp only [tbA, boolsD, linksD, rqsD, intsA, intsD] at *
 generalize t.ov.map encB = ol at *
 generalize llh : t.links.map encLk = ll at *
 have lln : Λ ll = t.links.length := by rw [Λo, ← llh]; simp
 generalize rlh : l.map encRq = rl at *
 have rln : Λ rl = l.length := by rw [Λo, ← rlh]; simp
 by_cases hir : isR t a
 rotate_left
 ·rw [if_neg hir] at leaf
  simp only [hir, decide_false] at his
  conv => cbv
  repeat' first | refine call_b his rfl rfl ?_ ?_ | exact gu | exact trivial | refine And.intro ?_ ?_ | (intro hc; exact absurd hc (by decide)) | (intro hc; exfalso; omega) | (intro hc; (first | rw [wrap_small (by omega) (by omega)] at hc | rw [nI_eq] at hc | skip); try (conv => cbv))
  exact leaf _ rfl
 simp only [hir, decide_true] at his
 rw [if_pos hir] at leaf
 obtain ⟨x, hx, hxe, hc0, hc1, ha0, ha1, ha2⟩ := hcap hir
 rw [hxe] at leaf
 obtain ⟨xa, xb, xc, xd, xcap, xdl, xg⟩ := x
 have hq := tdiv2 ha0 ha2
 have hxa : ll[(a / 2).toNat]? = some [iD xa, iD xb, iD xc, iD xd, iD xcap, iD xdl, iD xg] := by rw [← llh, List.getElem?_map, hx]; rfl
 clear hx hxe hcap
 simp only at hc0 hc1 leaf
 obtain ⟨q, hqe⟩ : ∃ q, a / 2 = q := ⟨_, rfl⟩
 rw [hqe] at hq hxa
 have hq0 : 0 ≤ q := by omega
 have hq1 : q < t.links.length := by omega
 conv => cbv
 repeat' first | refine call_b his rfl rfl ?_ ?_ | (intro (_ : Unit); decide) | (intro q' hq'; refine (fun (hz : q = q') => ?_) (hq.symm.trans hq'.symm); subst hz; (conv => cbv)) | (intro (e : List D) he; cases Option.some.inj (he.symm.trans hxa); (conv => cbv)) | exact gu | exact trivial | refine And.intro ?_ ?_ | (intro hc; exact absurd hc (by decide)) | (intro hc; exfalso; omega) | (intro hc; (first | rw [wrap_small (by omega) (by omega)] at hc | rw [nI_eq] at hc | skip); try (conv => cbv))
 refine loop_up l.length (fun s : Int × Int => [(1, iA a), (2, iA p), (3, .c (.ptr 0 0 0 0)), (7, iA s.1), (8, iA s.2)]) (fun _ => [.bx [.d (iD t.nodes), .d (.list false 1 ol), .d (.list false 7 ll), .d (.list false 5 rl)]]) (fun k s => s.2 = k ∧ k ≤ l.length ∧ s.1 = xcap - f (l.take k)) (xcap, 0) (Wk.cw) ⟨rfl, by omega, by simp only; omega⟩ (fun k s h => h.2.1) ?_
 rintro k ⟨n, i⟩ Q' ⟨hi, hk, hn⟩ norm ex rt
 simp only at hi hn
 have hb := hbd k
 by_cases hlt : k < l.length
 ·obtain ⟨⟨xi, xa, xm, xs, xh⟩, hx⟩ : ∃ x, l[k]? = some x := ⟨_, List.getElem?_eq_getElem hlt⟩
  have hxa := elt_at rlh hi hx
  simp only [encRq, intsD] at hxa
  generalize hxe : xa.map encI = xl at *
  have hhasx := hhas xa
  simp only [hxe] at hhasx
  have hst := hstep k _ hx
  have hxm := hs.1 _ (List.mem_of_getElem? hx)
  have hw := @wtR_of (fun r => decide (r.hold ≤ p)) a ⟨xi, xa, xm, xs, xh⟩
  simp only [decide_eq_true_eq] at hxm hw
  generalize wtR (fun r => decide (r.hold ≤ p)) a ⟨xi, xa, xm, xs, xh⟩ = wx at *
  by_cases hax : a ∈ xa
  ·simp only [hax, decide_true, and_true] at hhasx hw
   conv => cbv
   repeat' first | (refine ex _ _ _ ?_; (conv => cbv)) | (refine rt _ _ ?_; (conv => cbv)) | (intro e he; cases Option.some.inj (he.symm.trans hxa); (conv => cbv)) | refine call_b hhasx rfl rfl ?_ ?_ | exact gu | exact trivial | refine And.intro ?_ ?_ | (intro hc; exact absurd hc (by decide)) | (intro hc; exfalso; omega) | (intro hc; (first | rw [wrap_small (by omega) (by omega)] at hc | rw [nI_eq] at hc | skip); try (conv => cbv))
   ·refine norm _ _ (_, _) ?_ (Wk.cw)
    exact ⟨by simp only; omega, by omega, by simp only; have := hw.1 (by omega); omega⟩
   ·refine norm _ _ (_, _) ?_ (Wk.cw)
    exact ⟨by simp only; omega, by omega, by simp only; have := hw.2 (by omega); omega⟩
  ·simp only [hax, decide_false, and_false] at hhasx hw
   have hw := hw.2 (by simp)
   conv => cbv
   repeat' first | (refine ex _ _ _ ?_; (conv => cbv)) | (refine rt _ _ ?_; (conv => cbv)) | (intro e he; cases Option.some.inj (he.symm.trans hxa); (conv => cbv)) | refine call_b hhasx rfl rfl ?_ ?_ | exact gu | exact trivial | refine And.intro ?_ ?_ | (intro hc; exact absurd hc (by decide)) | (intro hc; exfalso; omega) | (intro hc; (first | rw [wrap_small (by omega) (by omega)] at hc | rw [nI_eq] at hc | skip); try (conv => cbv))
   ·refine norm _ _ (_, _) ?_ (Wk.cw)
    exact ⟨by simp only; omega, by omega, by simp only; omega⟩
   ·refine norm _ _ (_, _) ?_ (Wk.cw)
    exact ⟨by simp only; omega, by omega, by simp only; omega⟩
 ·conv => cbv
  repeat' first | (refine ex _ _ _ ?_; (conv => cbv)) | (refine rt _ _ ?_; (conv => cbv)) | exact gu | exact trivial | refine And.intro ?_ ?_ | (intro hc; exact absurd hc (by decide)) | (intro hc; exfalso; omega) | (intro hc; (first | rw [wrap_small (by omega) (by omega)] at hc | rw [nI_eq] at hc | skip); try (conv => cbv))
  refine leaf _ ?_
  obtain rfl : k = l.length := by omega
  rw [hall] at hn
  exact hn.symm
end Go.Ab

/-
  Reservations, part b: proper requests; requests that are the same; short scripts.
-/
namespace Go.Ab
open Go.Proofs
def PropN (n : Int) (r : Rq) : Prop := (1 ≤ r.arcs.length ∧ r.arcs.length ≤ 64) ∧ (1 ≤ r.amt ∧ r.amt ≤ 1048576) ∧ (0 ≤ r.setup ∧ r.setup ≤ 7) ∧ (0 ≤ r.hold ∧ r.hold ≤ r.setup) ∧ r.arcs.Nodup ∧ ∀ a ∈ r.arcs, 0 ≤ a ∧ a < n
instance (n : Int) (r : Rq) : Decidable (PropN n r) := inferInstanceAs (Decidable (_ ∧ _))
theorem nodup_at {l : List Int} {k : Nat} {a : Int} (h : l.Nodup) (hk : l[k]? = some a) : a ∉ l.take k := by
 intro hm
 rw [← List.take_append_drop k l, List.nodup_append] at h
 have hd : a ∈ l.drop k := List.mem_of_getElem? (i := 0) (by rw [List.getElem?_drop]; exact hk)
 exact h.2.2 a hm a hd rfl
theorem rproper_ok47 (P : Program) (hP : P = Try.prog) (t : Top) (r : Rq) : Ret P n_ref47_Proper [topA t, rqA r] (bA (decide (PropN (arcsT t) r))) := by
 have ha := arcs_ok P hP t
 have hhas := fun l n => has_ok P hP l n
 refine ret_start (hP ▸ mixed) (hP ▸ fn_ref47_Proper) (hP ▸ c_ref47_Proper) (Nat.le_of_ble_eq_true rfl) fun Λ Λo K hK => ?_
 clear hP
 have yes : PropN (arcsT t) r → K (bA true) := yes_of hK
 have no : ¬ PropN (arcsT t) r → K (bA false) := no_of hK
 clear hK
 have hle := arcsT_le t
 generalize arcsT t = n at *
 obtain ⟨id, arcs, amt, setup, hold⟩ := r
 unfold PropN at yes no
 simp only at yes no
 simp only [topA, rqA, boolsD, linksD, intsA, intsD] at *
 generalize t.ov.map encB = ol at *
 generalize t.links.map encLk = ll at *
 obtain ⟨al, alh⟩ : ∃ al, arcs.map encI = al := ⟨_, rfl⟩
 rw [alh]
 have aln : Λ al = arcs.length := by rw [Λo, ← alh]; simp
 conv => cbv
 repeat' first | exact gu | exact trivial | refine And.intro ?_ ?_ | (intro hc; exact absurd hc (by decide)) | (intro hc; exfalso; omega) | (intro hc; (first | rw [wrap_small (by omega) (by omega)] at hc | rw [nI_eq] at hc | skip); try (conv => cbv))
 all_goals try (exact no (by omega))
 refine loop_up arcs.length (fun i : Int => [(2, .c (.ptr 0 0 0 0)), (3, .c (.ptr 1 0 0 0)), (5, iA i)]) (fun _ => [.bx [.d (iD t.nodes), .d (.list false 1 ol), .d (.list false 7 ll)], .bx [.d (iD id), .d (.list false 1 al), .d (iD amt), .d (iD setup), .d (iD hold)]])
  (fun k i => i = k ∧ k ≤ arcs.length ∧ (arcs.take k).Nodup ∧ ∀ a ∈ arcs.take k, 0 ≤ a ∧ a < n) 0 (Wk.cw) ⟨rfl, by omega, by simp, by simp⟩ (fun k s h => h.2.1) ?_
 rintro k i Q' ⟨hi, hk, hnd, hrg⟩ norm ex rt
 by_cases hlt : k < arcs.length
 ·obtain ⟨x, hx⟩ : ∃ x, arcs[k]? = some x := ⟨_, List.getElem?_eq_getElem hlt⟩
  have hxa := elt_at alh hi hx
  have hhx := hhas (arcs.take k) x
  have ik : i.toNat = k := by omega
  obtain ⟨tl, htl⟩ : ∃ tl, tl = List.take (Int.toNat i) al := ⟨_, rfl⟩
  rw [List.map_take, alh, ← ik, ← htl, ik] at hhx
  conv => cbv
  repeat' first | (refine ex _ _ _ ?_; (conv => cbv)) | (refine rt _ _ ?_; (conv => cbv)) | refine call_i ha rfl rfl ?_ | (intro e he; cases Option.some.inj (he.symm.trans hxa); (conv => cbv)) | (intro (y : List (List D)) hy; refine (fun (hz : tl = y) => ?_) (htl.trans hy.symm); subst hz; (conv => cbv)) | refine call_b hhx rfl rfl ?_ ?_ | exact gu | exact trivial | refine And.intro ?_ ?_ | (intro hc; exact absurd hc (by decide)) | (intro hc; exfalso; omega) | (intro hc; (first | rw [wrap_small (by omega) (by omega)] at hc | rw [nI_eq] at hc | skip); try (conv => cbv))
  ·exact no fun h => by have := h.2.2.2.2.2 x (List.mem_of_getElem? hx); omega
  ·exact no fun h => by have := h.2.2.2.2.2 x (List.mem_of_getElem? hx); omega
  ·exact no fun h => nodup_at h.2.2.2.2.1 hx (of_decide_eq_true (by assumption))
  ·refine norm _ _ _ ?_ (Wk.cw)
   have hnx : x ∉ arcs.take k := of_decide_eq_false (by assumption)
   rw [take_succ_get hx]
   refine ⟨by omega, by omega, ?_, ?_⟩
   ·rw [List.nodup_append]
    exact ⟨hnd, by simp, fun a ha b hb => by simp only [List.mem_singleton] at hb; subst hb; intro e; subst e; exact hnx ha⟩
   ·intro a ha
    rcases List.mem_append.1 ha with ha | ha
    ·exact hrg a ha
    ·simp only [List.mem_singleton] at ha; subst ha; omega
 ·conv => cbv
  repeat' first | (refine ex _ _ _ ?_; (conv => cbv)) | (refine rt _ _ ?_; (conv => cbv)) | exact gu | exact trivial | refine And.intro ?_ ?_ | (intro hc; exact absurd hc (by decide)) | (intro hc; exfalso; omega) | (intro hc; (first | rw [wrap_small (by omega) (by omega)] at hc | rw [nI_eq] at hc | skip); try (conv => cbv))
  rw [List.take_of_length_le (by omega)] at hnd hrg
  exact yes ⟨by omega, by omega, by omega, by omega, hnd, hrg⟩
theorem rsame_ok47 (P : Program) (hP : P = Try.prog) (a b : Rq) : Ret P n_ref47_Same [rqA a, rqA b] (bA (decide (a = b))) := by
 have hs := sameInts_ok P hP a.arcs b.arcs
 refine ret_start (hP ▸ mixed) (hP ▸ fn_ref47_Same) (hP ▸ c_ref47_Same) (Nat.le_of_ble_eq_true rfl) fun Λ Λo K hK => ?_
 clear hP
 have yes := yes_of hK
 have no := no_of hK
 clear hK
 obtain ⟨i1, a1, m1, s1, h1⟩ := a
 obtain ⟨i2, a2, m2, s2, h2⟩ := b
 simp only [Rq.mk.injEq] at yes no
 simp only [rqA, intsA, intsD] at *
 generalize a1.map encI = l1 at *
 generalize a2.map encI = l2 at *
 conv => cbv
 repeat' first | refine call_b hs rfl rfl ?_ ?_ | exact gu | exact trivial | refine And.intro ?_ ?_ | (intro hc; exact absurd hc (by decide)) | (intro hc; exfalso; omega) | (intro hc; (first | rw [wrap_small (by omega) (by omega)] at hc | rw [nI_eq] at hc | skip); try (conv => cbv))
 all_goals first | (refine yes ⟨by omega, of_decide_eq_true (by assumption), by omega, by omega, by omega⟩) | (refine no fun h => ?_; obtain ⟨_, h2, _⟩ := h; first | omega | exact of_decide_eq_false (by assumption) h2)
def fewR (l : List Stp) : Bool := (l.all fun s => decide (s.r.arcs.length ≤ 70)) && decide (l.length ≤ 25)
theorem few_ok47 (P : Program) (hP : P = Try.prog) (l : List Stp) : Ret P n_ref47_Few [.c (.d (stpsD l))] (bA (fewR l)) := by
 refine ret_start (hP ▸ mixed) (hP ▸ fn_ref47_Few) (hP ▸ c_ref47_Few) (Nat.le_of_ble_eq_true rfl) fun Λ Λo K hK => ?_
 clear hP
 have leaf : ∀ b : Bool, fewR l = b → K (bA b) := fun b hb => by rw [← hb]; exact hK
 clear hK
 simp only [stpsD] at *
 generalize llh : l.map encStp = ll at *
 have lln : Λ ll = l.length := by rw [Λo, ← llh]; simp
 conv => cbv
 refine loop_up l.length (fun i : Int => [(0, .c (.d (.list false 6 ll))), (3, iA i)]) (fun _ => []) (fun k i => i = k ∧ k ≤ l.length ∧ ∀ s ∈ l.take k, s.r.arcs.length ≤ 70) 0 (Wk.cw) ⟨rfl, by omega, by simp⟩ (fun k s h => h.2.1) ?_
 rintro k i Q' ⟨hi, hk, hok⟩ norm ex rt
 by_cases hlt : k < l.length
 ·obtain ⟨⟨xr, xi, xa, xm, xs, xh⟩, hx⟩ : ∃ x, l[k]? = some x := ⟨_, List.getElem?_eq_getElem hlt⟩
  have hxa := elt_at llh hi hx
  simp only [encStp, encRq, intsD] at hxa
  generalize hxe : xa.map encI = xl at *
  have xln : Λ xl = xa.length := by rw [Λo, ← hxe]; simp
  conv => cbv
  repeat' first | (refine ex _ _ _ ?_; (conv => cbv)) | (refine rt _ _ ?_; (conv => cbv)) | (intro e he; cases Option.some.inj (he.symm.trans hxa); (conv => cbv)) | exact gu | exact trivial | refine And.intro ?_ ?_ | (intro hc; exact absurd hc (by decide)) | (intro hc; exfalso; omega) | (intro hc; (first | rw [wrap_small (by omega) (by omega)] at hc | rw [nI_eq] at hc | skip); try (conv => cbv))
  ·refine leaf _ (Bool.eq_false_iff.2 fun h => ?_)
   simp only [fewR, Bool.and_eq_true, List.all_eq_true, decide_eq_true_eq] at h
   have := h.1 _ (List.mem_of_getElem? hx)
   simp only at this
   omega
  ·refine norm _ _ _ ?_ (Wk.cw)
   refine ⟨by omega, by omega, fun s hs => ?_⟩
   rw [take_succ_get hx] at hs
   rcases List.mem_append.1 hs with hs | hs
   ·exact hok s hs
   ·simp only [List.mem_singleton] at hs; subst hs; simp only; omega
 ·conv => cbv
  repeat' first | (refine ex _ _ _ ?_; (conv => cbv)) | (refine rt _ _ ?_; (conv => cbv)) | exact gu | exact trivial | refine And.intro ?_ ?_ | (intro hc; exact absurd hc (by decide)) | (intro hc; exfalso; omega) | (intro hc; (first | rw [wrap_small (by omega) (by omega)] at hc | rw [nI_eq] at hc | skip); try (conv => cbv))
  all_goals
   refine leaf _ ?_
   rw [List.take_of_length_le (by omega)] at hok
   have e : (l.all fun s => decide (s.r.arcs.length ≤ 70)) = true := by
    simp only [List.all_eq_true, decide_eq_true_eq]; exact hok
   rw [fewR, e, Bool.true_and]
   first | exact decide_eq_true (by omega) | exact decide_eq_false (by omega)
end Go.Ab

/-
  Reservations, part c: the reference's table with and without a reservation.
-/
namespace Go.Ab
open Go.Proofs
theorem without_ok (P : Program) (hP : P = Try.prog) (t : Top) (l : List Rq) (i : Nat) (hi : i < l.length) (hl : l.length ≤ 100000) : Ret P n_ref47_Table_without [tbA t l, iA i] (tbA t (l.take i ++ l.drop (i + 1))) := by
 refine ret_start (hP ▸ mixed) (hP ▸ fn_ref47_Table_without) (hP ▸ c_ref47_Table_without) (Nat.le_of_ble_eq_true rfl) fun Λ Λo K hK => ?_
 clear hP
 simp only [tbA, boolsD, linksD, rqsD] at *
 generalize t.ov.map encB = ol at *
 generalize t.links.map encLk = ll at *
 have hK' : ∀ x, x = (l.map encRq).take i ++ (l.map encRq).drop (i + 1) → K (.agg [.d (iD t.nodes), .d (.list false 1 ol), .d (.list false 7 ll), .d (.list false 5 x)]) := fun x hx => by
  rw [hx, ← List.map_take, ← List.map_drop, ← List.map_append]; exact hK
 clear hK
 generalize rlh : l.map encRq = rl at *
 have rln : Λ rl = l.length := by rw [Λo, ← rlh]; simp
 obtain ⟨j, hj⟩ : ∃ j : Int, (i : Int) = j := ⟨_, rfl⟩
 rw [hj]
 conv => cbv
 repeat' first | (intro (_ : Unit); subst_vars; simp; omega) | exact gu | exact trivial | refine And.intro ?_ ?_ | (intro hc; exact absurd hc (by decide)) | (intro hc; exfalso; omega) | (intro hc; (first | rw [wrap_small (by omega) (by omega)] at hc | rw [nI_eq] at hc | skip); try (conv => cbv))
 refine hK' _ ?_
 subst_vars
 simp only [List.drop_zero, Int.toNat_natCast]
 rw [List.take_of_length_le (by simp), List.take_of_length_le (by simp), show ((i : Int) + 1).toNat = i + 1 by omega]
 simp
def shortA (t : Top) (l : List Rq) (old : List Int) (amt : Int) (a : Int) : Bool := decide (a ∈ old) && decide ((lkAt t a).cap - useS t l a < amt)
def shortS (t : Top) (l : List Rq) (old r : Rq) : Bool := r.arcs.any (shortA t l old.arcs r.amt)
theorem useS_bd {t : Top} {l : List Rq} (hs : Sml l) (a : Int) : 0 ≤ useS t l a ∧ useS t l a ≤ 104857600000 := by
 unfold useS
 split
 ·have := sumR_take (p := fun _ => true) (a := a) hs l.length
  rwa [List.take_length] at this
 ·omega
theorem short_ok (P : Program) (hP : P = Try.prog) (t : Top) (l : List Rq) (old r : Rq) (hv : validT t = true) (hs : Sml l) (hr : ∀ a ∈ r.arcs, 0 ≤ a ∧ a < 2 * t.links.length) : Ret P n_ref47_Table_short [tbA t l, rqA old, rqA r] (bA (shortS t l old r)) := by
 have huse := fun a => ruse_ok P hP t l a hs
 have hhas := fun a => has_ok P hP old.arcs a
 refine ret_start (hP ▸ mixed) (hP ▸ fn_ref47_Table_short) (hP ▸ c_ref47_Table_short) (Nat.le_of_ble_eq_true rfl) fun Λ Λo K hK => ?_
 clear hP
 have leaf : ∀ b : Bool, shortS t l old r = b → K (bA b) := fun b hb => by rw [← hb]; exact hK
 clear hK
 have hb := useS_bd (t := t) hs
 have hcap := fun a h0 h1 => cap_le hv (a := a) h0 h1
 have h256 := (validT_spec.1 hv).2.2.1
 have hA : ∀ a b, shortA t l old.arcs r.amt a = b ↔ (decide (a ∈ old.arcs) && decide ((lkAt t a).cap - useS t l a < r.amt)) = b := fun a b => Iff.rfl
 unfold shortS at leaf
 generalize shortA t l old.arcs r.amt = sh at *
 generalize useS t l = us at *
 obtain ⟨oi, oa, om, os, oh⟩ := old
 obtain ⟨id, arcs, amt, setup, hold⟩ := r
 simp only at hr leaf hA hhas
 simp only [tbA, rqA, boolsD, linksD, rqsD, intsA, intsD] at *
 generalize t.ov.map encB = ol at *
 generalize llh : t.links.map encLk = ll at *
 have lln : Λ ll = t.links.length := by rw [Λo, ← llh]; simp
 generalize l.map encRq = rl at *
 generalize oa.map encI = oal at *
 obtain ⟨al, alh⟩ : ∃ al, arcs.map encI = al := ⟨_, rfl⟩
 rw [alh]
 have aln : Λ al = arcs.length := by rw [Λo, ← alh]; simp
 conv => cbv
 refine loop_up arcs.length (fun i : Int => [(3, .c (.ptr 0 0 0 0)), (4, .c (.ptr 1 0 0 0)), (5, .c (.ptr 2 0 0 0)), (7, iA i)]) (fun _ => [.bx [.d (iD t.nodes), .d (.list false 1 ol), .d (.list false 7 ll), .d (.list false 5 rl)], .bx [.d (iD oi), .d (.list false 1 oal), .d (iD om), .d (iD os), .d (iD oh)], .bx [.d (iD id), .d (.list false 1 al), .d (iD amt), .d (iD setup), .d (iD hold)]])
  (fun k i => i = k ∧ k ≤ arcs.length ∧ (arcs.take k).any sh = false) 0 (Wk.cw) ⟨rfl, by omega, by simp⟩ (fun k s h => h.2.1) ?_
 rintro k i Q' ⟨hi, hk, hno⟩ norm ex rt
 by_cases hlt : k < arcs.length
 ·obtain ⟨x, hx⟩ : ∃ x, arcs[k]? = some x := ⟨_, List.getElem?_eq_getElem hlt⟩
  have hxa := elt_at alh hi hx
  have hx0 := hr x (List.mem_of_getElem? hx)
  obtain ⟨hc1, hc2⟩ := hcap x hx0.1 hx0.2
  have hub := hb x
  have hAx := hA x
  generalize lkAt t x = lx at *
  obtain ⟨la, lb, lc, ld, lcap, ldl, lg⟩ := lx
  simp only at hc2 hAx
  have hq := tdiv2 hx0.1 (by omega)
  obtain ⟨q, hqe⟩ : ∃ q, x / 2 = q := ⟨_, rfl⟩
  rw [hqe] at hq hc1
  have hq0 : 0 ≤ q := by omega
  have hq1 : q < t.links.length := by omega
  have hla : ll[q.toNat]? = some [iD la, iD lb, iD lc, iD ld, iD lcap, iD ldl, iD lg] := by rw [← llh, List.getElem?_map, hc1]; rfl
  clear hc1
  have hst : (arcs.take (k + 1)).any sh = ((arcs.take k).any sh || sh x) := by rw [take_succ_get hx]; simp
  have hyes : sh x = true → arcs.any sh = true := fun h => List.any_eq_true.2 ⟨x, List.mem_of_getElem? hx, h⟩
  have hux := huse x
  generalize us x = ux at *
  conv => cbv
  repeat' first | (refine ex _ _ _ ?_; (conv => cbv)) | (refine rt _ _ ?_; (conv => cbv)) | refine call_b (hhas _) rfl rfl ?_ ?_ | refine call_i hux rfl rfl ?_ | (intro e he; cases Option.some.inj (he.symm.trans hxa); (conv => cbv)) | (intro (_ : Unit); decide) | (intro q' hq'; refine (fun (hz : q = q') => ?_) (hq.symm.trans hq'.symm); subst hz; (conv => cbv)) | (intro (e : List D) he; cases Option.some.inj (he.symm.trans hla); (conv => cbv)) | exact gu | exact trivial | refine And.intro ?_ ?_ | (intro hc; exact absurd hc (by decide)) | (intro hc; exfalso; omega) | (intro hc; (first | rw [wrap_small (by omega) (by omega)] at hc | rw [nI_eq] at hc | skip); try (conv => cbv))
  ·exact leaf _ (hyes ((hAx true).2 (by rw [‹decide (x ∈ oa) = true›, decide_eq_true (by omega)]; rfl)))
  ·refine norm _ _ _ ?_ (Wk.cw)
   exact ⟨by omega, by omega, by rw [hst, hno, (hAx false).2 (by rw [‹decide (x ∈ oa) = true›, decide_eq_false (by omega)]; rfl)]; rfl⟩
  ·refine norm _ _ _ ?_ (Wk.cw)
   exact ⟨by omega, by omega, by rw [hst, hno, (hAx false).2 (by rw [‹decide (x ∈ oa) = false›]; rfl)]; rfl⟩
 ·conv => cbv
  repeat' first | (refine ex _ _ _ ?_; (conv => cbv)) | (refine rt _ _ ?_; (conv => cbv)) | exact gu | exact trivial | refine And.intro ?_ ?_ | (intro hc; exact absurd hc (by decide)) | (intro hc; exfalso; omega) | (intro hc; (first | rw [wrap_small (by omega) (by omega)] at hc | rw [nI_eq] at hc | skip); try (conv => cbv))
  rw [List.take_of_length_le (by omega)] at hno
  exact leaf _ hno
def relS (l : List Rq) (id : Int) : List Rq × Int := if id ∈ l.map (·.id) then (l.eraseIdx ((l.map (·.id)).idxOf id), 0) else (l, 8)
theorem eraseIdx_td {α : Type} (l : List α) (i : Nat) : l.take i ++ l.drop (i + 1) = l.eraseIdx i := (List.eraseIdx_eq_take_drop_succ l i).symm
theorem release_ok (P : Program) (hP : P = Try.prog) (t : Top) (l : List Rq) (id : Int) (hl : l.length ≤ 100000) : Ret P n_ref47_Table_Release [tbA t l, iA id] (.tup [tbA t (relS l id).1, iA (relS l id).2]) := by
 have hf := fnd_ok P hP t l id
 have hw := fun i hi => without_ok P hP t l i hi hl
 refine ret_start (hP ▸ mixed) (hP ▸ fn_ref47_Table_Release) (hP ▸ c_ref47_Table_Release) (Nat.le_of_ble_eq_true rfl) fun Λ Λo K hK => ?_
 clear hP
 rw [relS] at hK
 rw [findR] at hf
 by_cases hm : id ∈ l.map (·.id)
 ·rw [if_pos hm] at hK hf
  have hlt : (l.map (·.id)).idxOf id < l.length := by simpa using List.idxOf_lt_length_of_mem hm
  have hw := hw _ hlt
  rw [eraseIdx_td] at hw
  generalize (l.map (·.id)).idxOf id = i at *
  generalize l.eraseIdx i = l' at *
  obtain ⟨j, hj⟩ : ∃ j : Int, (i : Int) = j := ⟨_, rfl⟩
  rw [hj] at hf hw
  simp only [tbA, boolsD, linksD, rqsD] at *
  generalize t.ov.map encB = ol at *
  generalize t.links.map encLk = ll at *
  generalize l.map encRq = rl at *
  generalize l'.map encRq = rl' at *
  conv => cbv
  repeat' first | (refine call_r hf rfl rfl ?_; conv => cbv) | (refine call_r hw rfl rfl ?_; conv => cbv) | exact gu | exact trivial | refine And.intro ?_ ?_ | (intro hc; exact absurd hc (by decide)) | (intro hc; exfalso; omega) | (intro hc; (first | rw [wrap_small (by omega) (by omega)] at hc | rw [nI_eq] at hc | skip); try (conv => cbv))
  exact hK
 ·rw [if_neg hm] at hK hf
  clear hw
  simp only [tbA, boolsD, linksD, rqsD] at *
  generalize t.ov.map encB = ol at *
  generalize t.links.map encLk = ll at *
  generalize l.map encRq = rl at *
  conv => cbv
  repeat' first | refine call_i hf rfl rfl ?_ | exact gu | exact trivial | refine And.intro ?_ ?_ | (intro hc; exact absurd hc (by decide)) | (intro hc; exfalso; omega) | (intro hc; (first | rw [wrap_small (by omega) (by omega)] at hc | rw [nI_eq] at hc | skip); try (conv => cbv))
  exact hK
def withR (r : Rq) : List Rq → List Rq
 | [] => [r]
 | x :: l => if r.id < x.id then r :: x :: l else x :: withR r l
theorem withR_app {r : Rq} {b : List Rq} : ∀ {a : List Rq}, (∀ x ∈ a, ¬ r.id < x.id) → withR r (a ++ b) = a ++ withR r b := by
 intro a
 induction a with
 | nil => intro _; rfl
 | cons x a ih =>
  intro h
  rw [List.cons_append, withR, if_neg (h x (by simp)), ih fun y hy => h y (by simp [hy])]
  rfl
theorem withR_at {r x : Rq} {l : List Rq} {k : Nat} (hx : l[k]? = some x) (h : ∀ y ∈ l.take k, ¬ r.id < y.id) (hlt : r.id < x.id) : withR r l = l.take k ++ r :: l.drop k := by
 have hd : l.drop k = x :: l.drop (k + 1) := by
  rw [List.drop_eq_getElem_cons (get_lt hx)]
  congr 1
  rw [List.getElem?_eq_getElem (get_lt hx)] at hx
  exact Option.some.inj hx
 conv => lhs; rw [← List.take_append_drop k l]
 rw [withR_app h, hd, withR, if_pos hlt]
theorem withR_end {r : Rq} {l : List Rq} (h : ∀ y ∈ l, ¬ r.id < y.id) : withR r l = l ++ [r] := by
 have := withR_app (r := r) (a := l) (b := []) h
 rwa [List.append_nil] at this
theorem wk_z {m : Nat} {L : Lv} {h : Hp} (l v sz k : Nat) {r : Bool} {es : List (List D)} (hl : h[l]? = some (.da r v sz es)) (hk : k = es.length) (h1 : okL l v k L) (h2 : okH l v k h) : Wk m L h (zL l v sz es L) (zH l v sz es 0 h) :=
 .fz l v sz r es hl (fun i => .inr (by rw [← lkN_eq, ← lkN_eq, lkN_z]; exact zA_ok hk (okL_get h1 i))) (zH_ok hk h2)
theorem with_ok47 (P : Program) (hP : P = Try.prog) (t : Top) (l : List Rq) (r : Rq) (hl : l.length ≤ 100000) (hr : r.arcs.length ≤ 100000) : Ret P n_ref47_Table_with [tbA t l, rqA r] (tbA t (withR r l)) := by
 refine ret_start (hP ▸ mixed) (hP ▸ fn_ref47_Table_with) (hP ▸ c_ref47_Table_with) (Nat.le_of_ble_eq_true rfl) fun Λ Λo K hK => ?_
 clear hP
 obtain ⟨id, arcs, amt, setup, hold⟩ := r
 simp only at hr
 have hK' : ∀ x, x = (withR ⟨id, arcs, amt, setup, hold⟩ l).map encRq → K (.agg [.d (iD t.nodes), .d (boolsD t.ov), .d (linksD t.links), .d (.list false 5 x)]) := fun x hx => by rw [hx]; exact hK
 clear hK
 simp only [tbA, rqA, boolsD, linksD, rqsD, intsD] at *
 generalize t.ov.map encB = ol at *
 generalize t.links.map encLk = ll at *
 have here : encRq ⟨id, arcs, amt, setup, hold⟩ = [iD id, .list false 1 (arcs.map encI), iD amt, iD setup, iD hold] := rfl
 obtain ⟨al, alh⟩ : ∃ al, arcs.map encI = al := ⟨_, rfl⟩
 rw [alh] at here ⊢
 have aln : Λ al = arcs.length := by rw [Λo, ← alh]; simp
 have all : al.length = arcs.length := by rw [← alh]; simp
 generalize rlh : l.map encRq = rl at *
 have rln : Λ rl = l.length := by rw [Λo, ← rlh]; simp
 have hal : al = List.take 0 (List.drop 0 []) ++ al := by simp
 obtain ⟨an, han⟩ : ∃ n, n = al.length := ⟨_, rfl⟩
 have hgt : ∀ k x, l[k]? = some x → rl[k]? = some (encRq x) := fun k x h => by rw [← rlh, List.getElem?_map, h]; rfl
 conv => cbv
 have han0 : (0 : Nat) = ([] : List (List D)).length := rfl
 repeat' first | (intro (_ : Unit); simp; omega) | (intro (m : Nat) (r : Bool) (y : List (List D)) hm hr hy; refine (fun (hz : an = m) (hz2 : al = y) => ?_) (by first | omega | (simp only [List.length_cons, List.length_nil] at hm; omega)) (by first | (rw [hy, List.drop_zero, List.take_of_length_le (by omega)]; exact hal) | (rw [hy]; exact hal)); subst hz; subst hz2; (conv => cbv)) | exact gu | exact trivial | refine And.intro ?_ ?_ | (intro hc; exact absurd hc (by decide)) | (intro hc; exfalso; omega) | (intro hc; (first | rw [wrap_small (by omega) (by omega)] at hc | rw [nI_eq] at hc | skip); try (conv => cbv))
 refine loop_upx l.length (fun (s : Int × Bool × Nat × Bool × Nat × List (List D)) => [(7, iA s.1), (6, bA s.2.1), (5, .c (.ptr 4 0 0 0)), (4, .c (.ptr 2 0 0 0)), (3, .c (.ptr 1 0 0 0)), (2, .c (.ptr 0 0 0 0))])
  (fun s => [.bx [.d (iD t.nodes), .d (.list false 1 ol), .d (.list false 7 ll), .d (.list false 5 rl)], .bx [.d (iD id), .d (.list false 1 al), .d (iD amt), .d (iD setup), .d (iD hold)], .bx [.d (iD 0), .d (.list true 1 []), .d (.list true 7 []), .d (.list true 5 [])], .dead, .bx [.d (iD t.nodes), .d (.list false 1 ol), .d (.list false 7 ll), .arr 5 s.2.2.1 0 s.2.2.2.2.1], .da s.2.2.2.1 s.2.2.1 5 s.2.2.2.2.2])
  (fun k s => s.1 = k ∧ k ≤ l.length ∧ s.2.2.2.2.1 = s.2.2.2.2.2.length ∧ s.2.2.2.2.1 ≤ k + 1 ∧ (s.2.1 = false → s.2.2.2.2.2 = rl.take k ∧ ∀ x ∈ l.take k, ¬ id < x.id) ∧ (s.2.1 = true → s.2.2.2.2.2 ++ rl.drop k = (withR ⟨id, arcs, amt, setup, hold⟩ l).map encRq)) (0, false, 0, false, 0, []) 0
  (fun (s : Bool × Nat × Bool × Nat × List (List D)) => [(6, bA s.1), (5, .c (.ptr 4 0 0 0)), (4, .c (.ptr 2 0 0 0)), (3, .c (.ptr 1 0 0 0))])
  (fun s => [.bx [.d (iD t.nodes), .d (.list false 1 ol), .d (.list false 7 ll), .d (.list false 5 rl)], .bx [.d (iD id), .d (.list false 1 al), .d (iD amt), .d (iD setup), .d (iD hold)], .bx [.d (iD 0), .d (.list true 1 []), .d (.list true 7 []), .d (.list true 5 [])], .dead, .bx [.d (iD t.nodes), .d (.list false 1 ol), .d (.list false 7 ll), .arr 5 s.2.1 0 s.2.2.2.1], .da s.2.2.1 s.2.1 5 s.2.2.2.2])
  (fun s => s.2.2.2.1 = s.2.2.2.2.length ∧ s.2.2.2.1 ≤ l.length + 1 ∧ (s.1 = false → s.2.2.2.2 ++ [encRq ⟨id, arcs, amt, setup, hold⟩] = (withR ⟨id, arcs, amt, setup, hold⟩ l).map encRq) ∧ (s.1 = true → s.2.2.2.2 = (withR ⟨id, arcs, amt, setup, hold⟩ l).map encRq))
  (.trans (wk_z 3 1 1 an rfl han (by repeat' first | exact trivial | refine And.intro ?_ ?_ | rfl) (by repeat' first | exact trivial | refine And.intro ?_ ?_ | rfl)) (.trans (.nilB 4 3 5 _ rfl rfl) (Wk.ca))) ⟨rfl, by omega, rfl, by simp, by simp, by simp⟩ (fun k s h => h.2.1) ?_ ?_
 ·rintro k ⟨i, done, ve, rr, n, es⟩ Q' ⟨hi, hk, hn, hn2, h0, h1⟩ norm jn ex rt
  simp only at hi hn hn2 h0 h1
  by_cases hlt : k < l.length
  ·obtain ⟨⟨xi, xa, xm, xs, xh⟩, hx⟩ : ∃ x, l[k]? = some x := ⟨_, List.getElem?_eq_getElem hlt⟩
   have hxa := elt_at rlh hi hx
   simp only [encRq, intsD] at hxa
   generalize hxe : xa.map encI = xl at *
 
   clear jn
   obtain ⟨n1, hn1⟩ : ∃ n1, n1 = n + 1 := ⟨_, rfl⟩
   obtain ⟨n2, hn2'⟩ : ∃ n2, n2 = n1 + 1 := ⟨_, rfl⟩
   have hex : encRq ⟨xi, xa, xm, xs, xh⟩ = [iD xi, .list false 1 xl, iD xm, iD xs, iD xh] := by simp only [encRq, intsD, hxe]
   have hrx : rl[k]? = some (encRq ⟨xi, xa, xm, xs, xh⟩) := hgt k _ hx
   have hdr : rl.drop k = encRq ⟨xi, xa, xm, xs, xh⟩ :: rl.drop (k + 1) := by
    rw [List.drop_eq_getElem_cons (get_lt hrx)]
    congr 1
    rw [List.getElem?_eq_getElem (get_lt hrx)] at hrx
    exact Option.some.inj hrx
   have htk : rl.take (k + 1) = rl.take k ++ [encRq ⟨xi, xa, xm, xs, xh⟩] := take_succ_get hrx
   have hwa : (∀ y ∈ l.take k, ¬ id < y.id) → id < xi → (withR ⟨id, arcs, amt, setup, hold⟩ l).map encRq = rl.take k ++ encRq ⟨id, arcs, amt, setup, hold⟩ :: rl.drop k := fun h1 h2 => by
    rw [withR_at hx h1 h2, List.map_append, List.map_cons, List.map_take, List.map_drop, rlh]
   have htl : l.take (k + 1) = l.take k ++ [⟨xi, xa, xm, xs, xh⟩] := take_succ_get hx
   obtain ⟨e1, he1⟩ : ∃ e1, e1 = es ++ [[iD id, .list false 1 al, iD amt, iD setup, iD hold]] := ⟨_, rfl⟩
   obtain ⟨e2, he2⟩ : ∃ e2, e2 = e1 ++ [[iD xi, .list false 1 xl, iD xm, iD xs, iD xh]] := ⟨_, rfl⟩
   obtain ⟨e3, he3⟩ : ∃ e3, e3 = es ++ [[iD xi, .list false 1 xl, iD xm, iD xs, iD xh]] := ⟨_, rfl⟩
   have l1 : e1.length = n1 := by rw [he1]; simp; omega
   have l2 : e2.length = n2 := by rw [he2]; simp; omega
   have l3 : e3.length = n1 := by rw [he3]; simp; omega
   have rlen : rl.length = l.length := by rw [← rlh]; simp
   rw [← hex] at he2 he3
   rw [← here] at he1
   cases done with
   | false =>
    obtain ⟨f1, f2⟩ := h0 rfl
    have hnk : n = k := by rw [hn, f1, List.length_take]; omega
    have hwa := hwa f2
    clear h0 h1
    have p1 : id < xi → e2 ++ rl.drop (k + 1) = (withR ⟨id, arcs, amt, setup, hold⟩ l).map encRq := fun h => by
     rw [hwa h, hdr, he2, he1, f1]; simp
    have p0 : ¬ id < xi → e3 = rl.take (k + 1) ∧ ∀ y ∈ l.take (k + 1), ¬ id < y.id := fun h => by
     refine ⟨by rw [htk, he3, f1], fun y hy => ?_⟩
     rw [htl] at hy
     rcases List.mem_append.1 hy with hy | hy
     ·exact f2 y hy
     ·simp only [List.mem_singleton] at hy; subst hy; exact h
    clear hwa f2 htl
    rw [hex] at he2 he3
    rw [here] at he1
    conv => cbv
    repeat' first | (refine ex _ _ _ ?_; (conv => cbv)) | (refine rt _ _ ?_; (conv => cbv)) | (intro e he; cases Option.some.inj (he.symm.trans hxa); (conv => cbv)) | (intro (m : Nat) (r : Bool) (y : List (List D)) hm hr hy; refine (fun (hz : n1 = m) (hz2 : e1 = y) => ?_) (by first | omega | (simp only [List.length_cons, List.length_nil] at hm; omega)) (by first | (rw [hy, List.drop_zero, List.take_of_length_le (by omega)]; exact he1) | (rw [hy]; exact he1)); subst hz; subst hz2; (conv => cbv)) | (intro (m : Nat) (r : Bool) (y : List (List D)) hm hr hy; refine (fun (hz : n2 = m) (hz2 : e2 = y) => ?_) (by first | omega | (simp only [List.length_cons, List.length_nil] at hm; omega)) (by first | (rw [hy, List.drop_zero, List.take_of_length_le (by omega)]; exact he2) | (rw [hy]; exact he2)); subst hz; subst hz2; (conv => cbv)) | (intro (m : Nat) (r : Bool) (y : List (List D)) hm hr hy; refine (fun (hz : n1 = m) (hz2 : e3 = y) => ?_) (by first | omega | (simp only [List.length_cons, List.length_nil] at hm; omega)) (by first | (rw [hy, List.drop_zero, List.take_of_length_le (by omega)]; exact he3) | (rw [hy]; exact he3)); subst hz; subst hz2; (conv => cbv)) | exact gu | exact trivial | refine And.intro ?_ ?_ | (intro hc; exact absurd hc (by decide)) | (intro hc; exfalso; omega) | (intro hc; (first | rw [wrap_small (by omega) (by omega)] at hc | rw [nI_eq] at hc | skip); try (conv => cbv))
    ·refine norm _ _ (_, true, _, _, _, _) ?_ (Wk.cw)
     exact ⟨by simp only; omega, by omega, l2.symm, by simp only; omega, (fun h => by cases h), fun _ => p1 (by assumption)⟩
    ·refine norm _ _ (_, false, _, _, _, _) ?_ (Wk.cw)
     exact ⟨by simp only; omega, by omega, l3.symm, by simp only; omega, fun _ => p0 (by omega), (fun h => by cases h)⟩
   | true =>
    have f1 := h1 rfl
    have p1 : e3 ++ rl.drop (k + 1) = (withR ⟨id, arcs, amt, setup, hold⟩ l).map encRq := by
     rw [← f1, hdr, he3]; simp
    clear hwa htl h0 h1
    rw [hex] at he2 he3
    rw [here] at he1
    conv => cbv
    repeat' first | (refine ex _ _ _ ?_; (conv => cbv)) | (refine rt _ _ ?_; (conv => cbv)) | (intro e he; cases Option.some.inj (he.symm.trans hxa); (conv => cbv)) | (intro (m : Nat) (r : Bool) (y : List (List D)) hm hr hy; refine (fun (hz : n1 = m) (hz2 : e3 = y) => ?_) (by first | omega | (simp only [List.length_cons, List.length_nil] at hm; omega)) (by first | (rw [hy, List.drop_zero, List.take_of_length_le (by omega)]; exact he3) | (rw [hy]; exact he3)); subst hz; subst hz2; (conv => cbv)) | exact gu | exact trivial | refine And.intro ?_ ?_ | (intro hc; exact absurd hc (by decide)) | (intro hc; exfalso; omega) | (intro hc; (first | rw [wrap_small (by omega) (by omega)] at hc | rw [nI_eq] at hc | skip); try (conv => cbv))
    refine norm _ _ (_, true, _, _, _, _) ?_ (Wk.cw)
    exact ⟨by simp only; omega, by omega, l3.symm, by simp only; omega, (fun h => by cases h), fun _ => p1⟩
  ·have hkl : k = l.length := by omega
   have rlen : rl.length = l.length := by rw [← rlh]; simp
   have jn := fun L h => jn L h (done, ve, rr, n, es) ⟨hn, by simp only; omega, fun h => by
    obtain ⟨f1, f2⟩ := h0 h
    rw [List.take_of_length_le (by omega)] at f1 f2
    simp only
    rw [f1, withR_end f2, List.map_append, rlh]; rfl, fun h => by
    have f1 := h1 h
    rw [List.drop_of_length_le (by omega), List.append_nil] at f1
    exact f1⟩
   clear norm h0 h1
   conv => cbv
   repeat' first | exact gu | exact trivial | refine And.intro ?_ ?_ | (intro hc; exact absurd hc (by decide)) | (intro hc; exfalso; omega) | (intro hc; (first | rw [wrap_small (by omega) (by omega)] at hc | rw [nI_eq] at hc | skip); try (conv => cbv))
   exact jn _ _ (Wk.cw)
 ·rintro ⟨done, ve, rr, n, es⟩ ⟨hn, hn2, h0, h1⟩
  simp only at hn hn2 h0 h1
  obtain ⟨n1, hn1⟩ : ∃ n1, n1 = n + 1 := ⟨_, rfl⟩
  obtain ⟨e1, he1⟩ : ∃ e1, e1 = es ++ [[iD id, .list false 1 al, iD amt, iD setup, iD hold]] := ⟨_, rfl⟩
  rw [here] at h0
  cases done with
  | false =>
   have h0 := h0 rfl
   clear h1
   conv => cbv
   repeat' first | (intro (m : Nat) (r : Bool) (y : List (List D)) hm hr hy; refine (fun (hz : n1 = m) (hz2 : e1 = y) => ?_) (by first | omega | (simp only [List.length_cons, List.length_nil] at hm; omega)) (by first | (rw [hy, List.drop_zero, List.take_of_length_le (by omega)]; exact he1) | (rw [hy]; exact he1)); subst hz; subst hz2; (conv => cbv)) | exact gu | exact trivial | refine And.intro ?_ ?_ | (intro hc; exact absurd hc (by decide)) | (intro hc; exfalso; omega) | (intro hc; (first | rw [wrap_small (by omega) (by omega)] at hc | rw [nI_eq] at hc | skip); try (conv => cbv))
   refine hK' _ ?_
   rw [hc, List.drop_zero, List.take_of_length_le (by rw [he1]; simp; omega), he1, h0]
  | true =>
   have h1 := h1 rfl
   clear h0
   conv => cbv
   repeat' first | exact gu | exact trivial | refine And.intro ?_ ?_ | (intro hc; exact absurd hc (by decide)) | (intro hc; exfalso; omega) | (intro hc; (first | rw [wrap_small (by omega) (by omega)] at hc | rw [nI_eq] at hc | skip); try (conv => cbv))
   refine hK' _ ?_
   rw [hc, List.drop_zero, List.take_of_length_le (by omega), h1]
end Go.Ab

/-
  Reservations, part d: the reference's answer to a request.
-/
namespace Go.Ab
open Go.Proofs
def cdn (l : List Rq) : Nat → List Rq
 | 0 => []
 | n + 1 => cdn l n ++ l.filter fun x => decide (x.hold = 7 - (n : Int))
def leftR (l : List Rq) (out : List Int) : List Rq := l.filter fun x => decide (x.id ∉ out)
def preStep (t : Top) (l : List Rq) (r : Rq) (out : List Int) (x : Rq) : List Int := if shortS t (leftR l out) x r then out ++ [x.id] else out
def preS (t : Top) (l : List Rq) (r : Rq) : List Int := (cdn l (7 - r.setup).toNat).foldl (preStep t l r) []
def fullS (t : Top) (l : List Rq) (r : Rq) : Bool := r.arcs.any fun a => decide (roomS t l a r.setup < r.amt)
def resS (t : Top) (l : List Rq) (r : Rq) : List Rq × List Int × Int :=
 if ¬ PropN (arcsT t) r then (l, [], 1) else if r.id ∈ l.map (·.id) then (l, [], 9) else if fullS t l r = true then (l, [], 12)
 else (withR r (leftR l (preS t l r)), preS t l r, 0)
def Ids (l : List Rq) : Prop := (l.map (·.id)).Nodup
theorem Ids.inj {l : List Rq} (h : Ids l) {x y : Rq} (hx : x ∈ l) (hy : y ∈ l) (e : x.id = y.id) : x = y := by
 induction l with
 | nil => cases hx
 | cons z l ih =>
  simp only [Ids, List.map_cons, List.nodup_cons] at h
  rcases List.mem_cons.1 hx with e1 | hx'
  ·rcases List.mem_cons.1 hy with e2 | hy'
   ·rw [e1, e2]
   ·exact absurd (List.mem_map.2 ⟨y, hy', by rw [← e, e1]⟩) h.1
  ·rcases List.mem_cons.1 hy with e2 | hy'
   ·exact absurd (List.mem_map.2 ⟨x, hx', by rw [e, e2]⟩) h.1
   ·exact ih h.2 hx' hy'
theorem Ids.at {l : List Rq} (h : Ids l) {x y : Rq} {k : Nat} (hx : l[k]? = some x) (hy : y ∈ l.take k) : y.id ≠ x.id := by
 intro e
 have h1 : (l.map (·.id))[k]? = some x.id := by rw [List.getElem?_map, hx]; rfl
 exact nodup_at h h1 (by rw [← List.map_take]; exact List.mem_map.2 ⟨y, hy, e⟩)
theorem Ids.left {l : List Rq} (h : Ids l) (out : List Int) : Ids (leftR l out) := List.Nodup.sublist (List.Sublist.map _ List.filter_sublist) h
theorem Sml.left {l : List Rq} (h : Sml l) (out : List Int) : Sml (leftR l out) :=
 ⟨fun r hr => h.1 r (List.mem_filter.1 hr).1, Nat.le_trans (List.length_filter_le _ _) h.2⟩
theorem erase_id {id : Int} : ∀ {m : List Rq}, Ids m → m.eraseIdx ((m.map (·.id)).idxOf id) = m.filter fun x => decide (x.id ≠ id) := by
 intro m
 induction m with
 | nil => intro _; rfl
 | cons x m ih =>
  intro h
  simp only [Ids, List.map_cons, List.nodup_cons] at h
  by_cases e : x.id = id
  ·subst e
   rw [List.map_cons, List.idxOf_cons_self, List.eraseIdx_cons_zero, List.filter_cons, if_neg (by simp)]
   refine (List.filter_eq_self.2 fun y hy => ?_).symm
   simp only [ne_eq, decide_not, Bool.not_eq_true', decide_eq_false_iff_not]
   exact fun e => h.1 (List.mem_map.2 ⟨y, hy, e⟩)
  ·rw [List.map_cons, List.idxOf_cons, beq_eq_false_iff_ne.2 e, cond_false, List.eraseIdx_cons_succ, ih h.2, List.filter_cons, if_pos (by simpa using e)]
theorem erase_left {l : List Rq} (h : Ids l) (out : List Int) (id : Int) : (leftR l out).eraseIdx (((leftR l out).map (·.id)).idxOf id) = leftR l (out ++ [id]) := by
 rw [erase_id (h.left out), leftR, leftR, List.filter_filter]
 refine List.filter_congr fun x _ => ?_
 by_cases h1 : x.id = id <;> by_cases h2 : x.id ∈ out <;> simp [h1, h2]
theorem mem_left {l : List Rq} {out : List Int} {x : Rq} (hx : x ∈ l) (h : x.id ∉ out) : x.id ∈ (leftR l out).map (·.id) :=
 List.mem_map.2 ⟨x, List.mem_filter.2 ⟨hx, decide_eq_true h⟩, rfl⟩
def PreI (t : Top) (l : List Rq) (r : Rq) (k i : Nat) (out : List Int) : Prop :=
 out = (cdn l k ++ (l.take i).filter fun x => decide (x.hold = 7 - (k : Int))).foldl (preStep t l r) [] ∧ (∀ j ∈ out, ∃ y ∈ l, y.id = j ∧ (7 - (k : Int) < y.hold ∨ (y.hold = 7 - (k : Int) ∧ y ∈ l.take i))) ∧ out.length ≤ 1000 * k + i
theorem PreI.start (t : Top) (l : List Rq) (r : Rq) : PreI t l r 0 0 [] := ⟨by simp [cdn], by simp, by simp⟩
theorem PreI.fresh {t : Top} {l : List Rq} {r : Rq} {k i : Nat} {out : List Int} (h : PreI t l r k i out) (hd : Ids l) {x : Rq} (hx : l[i]? = some x) (hh : x.hold = 7 - (k : Int)) : x.id ∉ out := by
 intro hm
 obtain ⟨y, hy, e, h1⟩ := h.2.1 _ hm
 rcases h1 with h1 | h1
 ·have := hd.inj hy (List.mem_of_getElem? hx) e
  subst this
  omega
 ·exact hd.at hx h1.2 e
theorem PreI.skip {t : Top} {l : List Rq} {r : Rq} {k i : Nat} {out : List Int} (h : PreI t l r k i out) {x : Rq} (hx : l[i]? = some x) (hh : x.hold ≠ 7 - (k : Int)) : PreI t l r k (i + 1) out := by
 obtain ⟨h1, h2, h3⟩ := h
 refine ⟨?_, fun j hj => ?_, by omega⟩
 ·rw [take_succ_get hx, List.filter_append, List.filter_cons, if_neg (by simpa using hh), List.filter_nil, List.append_nil]; exact h1
 ·obtain ⟨y, hy, e, h4⟩ := h2 j hj
  exact ⟨y, hy, e, h4.imp id fun h => ⟨h.1, by rw [take_succ_get hx]; exact List.mem_append_left _ h.2⟩⟩
theorem PreI.step {t : Top} {l : List Rq} {r : Rq} {k i : Nat} {out : List Int} (h : PreI t l r k i out) {x : Rq} (hx : l[i]? = some x) (hh : x.hold = 7 - (k : Int)) : PreI t l r k (i + 1) (preStep t l r out x) := by
 obtain ⟨h1, h2, h3⟩ := h
 refine ⟨?_, fun j hj => ?_, ?_⟩
 ·rw [take_succ_get hx, List.filter_append, List.filter_cons, if_pos (by simpa using hh), List.filter_nil, ← List.append_assoc, List.foldl_append, ← h1]; rfl
 ·have hold : ∀ j ∈ out, ∃ y ∈ l, y.id = j ∧ (7 - (k : Int) < y.hold ∨ (y.hold = 7 - (k : Int) ∧ y ∈ l.take (i + 1))) := fun j hj => by
   obtain ⟨y, hy, e, h4⟩ := h2 j hj
   exact ⟨y, hy, e, h4.imp id fun h => ⟨h.1, by rw [take_succ_get hx]; exact List.mem_append_left _ h.2⟩⟩
  unfold preStep at hj
  split at hj
  ·rcases List.mem_append.1 hj with hj | hj
   ·exact hold j hj
   ·simp only [List.mem_singleton] at hj
    subst hj
    exact ⟨x, List.mem_of_getElem? hx, rfl, .inr ⟨hh, by rw [take_succ_get hx]; simp⟩⟩
  ·exact hold j hj
 ·unfold preStep; split
  ·rw [List.length_append]; simp only [List.length_cons, List.length_nil]; omega
  ·omega
theorem PreI.next {t : Top} {l : List Rq} {r : Rq} {k : Nat} {out : List Int} (h : PreI t l r k l.length out) (hl : l.length ≤ 1000) : PreI t l r (k + 1) 0 out := by
 obtain ⟨h1, h2, h3⟩ := h
 refine ⟨?_, fun j hj => ?_, by omega⟩
 ·rw [h1, List.take_length]; simp [cdn]
 ·obtain ⟨y, hy, e, h4⟩ := h2 j hj
  exact ⟨y, hy, e, .inl (by rcases h4 with h4 | h4 <;> omega)⟩
end Go.Ab

/-
  Reservations, part e: the reference's Reserve.
-/
namespace Go.Ab
open Go.Proofs
theorem resS_K {K : List Rq × List Int × Int → Prop} {t : Top} {l : List Rq} {r : Rq} (h : K (resS t l r)) :
  (¬ PropN (arcsT t) r → K (l, [], 1)) ∧ (PropN (arcsT t) r → r.id ∈ l.map (·.id) → K (l, [], 9)) ∧ (PropN (arcsT t) r → r.id ∉ l.map (·.id) → fullS t l r = true → K (l, [], 12)) ∧
  (PropN (arcsT t) r → r.id ∉ l.map (·.id) → fullS t l r = false → K (withR r (leftR l (preS t l r)), preS t l r, 0)) := by
 unfold resS at h
 refine ⟨fun h1 => ?_, fun h1 h2 => ?_, fun h1 h2 h3 => ?_, fun h1 h2 h3 => ?_⟩
 ·rwa [if_pos h1] at h
 ·rwa [if_neg (not_not_intro h1), if_pos h2] at h
 ·rwa [if_neg (not_not_intro h1), if_neg h2, if_pos h3] at h
 ·rwa [if_neg (not_not_intro h1), if_neg h2, if_neg (by simp [h3])] at h
set_option maxHeartbeats 4000000 in
theorem rres_ok (P : Program) (hP : P = Try.prog) (t : Top) (l : List Rq) (r : Rq) (hv : validT t = true) (hs : Sml l) (hd : Ids l) (hl : l.length ≤ 1000) (hr : r.arcs.length ≤ 100000) :
  Ret P n_ref47_Table_Reserve [tbA t l, rqA r] (.tup [tbA t (resS t l r).1, intsA (resS t l r).2.1, iA (resS t l r).2.2]) := by
 have hprop := rproper_ok47 P hP t r
 have hfnd := fnd_ok P hP t l r.id
 have hroom := fun a => rroom_ok P hP t l a r.setup hs
 have hshort := fun (out : List Int) x h => short_ok P hP t (leftR l out) x r hv (hs.left out) h
 have hfy := fun (out : List Int) id => fnd_ok P hP t (leftR l out) id
 have hll := fun (out : List Int) => Nat.le_trans (List.length_filter_le (fun x : Rq => decide (x.id ∉ out)) l) hl
 have hwo := fun (out : List Int) (i : Nat) hi => without_ok P hP t (leftR l out) i hi (Nat.le_trans (hll out) (by omega))
 have hwith := fun (out : List Int) => with_ok47 P hP t (leftR l out) r (Nat.le_trans (hll out) (by omega)) hr
 refine ret_start (hP ▸ mixed) (hP ▸ fn_ref47_Table_Reserve) (hP ▸ c_ref47_Table_Reserve) (Nat.le_of_ble_eq_true rfl) fun Λ Λo K hK => ?_
 clear hP
 obtain ⟨k1, k2, k3, k4⟩ := @resS_K (fun x => K (.tup [tbA t x.1, intsA x.2.1, iA x.2.2])) t l r hK
 clear hK
 simp only [findR] at hfnd
 by_cases hp : PropN (arcsT t) r
 rotate_left
 ·replace k1 := k1 hp
  simp only [hp, decide_false] at hprop
  clear hfnd hroom hshort hfy hll hwo hwith k2 k3 k4
  obtain ⟨id, arcs, amt, setup, hold⟩ := r
  simp only [tbA, topA, rqA, boolsD, linksD, rqsD, intsA, intsD, List.map_nil] at *
  generalize t.ov.map encB = ol at *
  generalize t.links.map encLk = ll at *
  generalize l.map encRq = rl at *
  generalize arcs.map encI = al at *
  conv => cbv
  repeat' first | refine call_b hprop rfl rfl ?_ ?_ | exact gu | exact trivial | refine And.intro ?_ ?_ | (intro hc; exact absurd hc (by decide)) | (intro hc; exfalso; omega) | (intro hc; (first | rw [wrap_small (by omega) (by omega)] at hc | rw [nI_eq] at hc | skip); try (conv => cbv))
  exact k1
 simp only [hp, decide_true] at hprop
 replace k2 := k2 hp
 replace k3 := k3 hp
 replace k4 := k4 hp
 clear k1
 by_cases hm : r.id ∈ l.map (·.id)
 ·replace k2 := k2 hm
  rw [if_pos hm] at hfnd
  clear hroom hshort hfy hll hwo hwith k3 k4
  generalize (l.map (·.id)).idxOf r.id = ix at *
  obtain ⟨j, hj⟩ : ∃ j : Int, (ix : Int) = j := ⟨_, rfl⟩
  have hj0 : 0 ≤ j := by omega
  rw [hj] at hfnd
  obtain ⟨id, arcs, amt, setup, hold⟩ := r
  simp only [tbA, topA, rqA, boolsD, linksD, rqsD, intsA, intsD, List.map_nil] at *
  generalize t.ov.map encB = ol at *
  generalize t.links.map encLk = ll at *
  generalize l.map encRq = rl at *
  generalize arcs.map encI = al at *
  conv => cbv
  repeat' first | refine call_b hprop rfl rfl ?_ ?_ | (refine call_r hfnd rfl rfl ?_; conv => cbv) | exact gu | exact trivial | refine And.intro ?_ ?_ | (intro hc; exact absurd hc (by decide)) | (intro hc; exfalso; omega) | (intro hc; (first | rw [wrap_small (by omega) (by omega)] at hc | rw [nI_eq] at hc | skip); try (conv => cbv))
  exact k2
 replace k3 := k3 hm
 replace k4 := k4 hm
 rw [if_neg hm] at hfnd
 clear k2
 obtain ⟨p1, p2, p3, p4, p5, p6⟩ := hp
 have hrg : ∀ a ∈ r.arcs, 0 ≤ a ∧ a < 2 * (t.links.length : Int) := fun a ha => by
  have := p6 a ha
  have := (arcsT_le t).1
  omega
 replace hshort := fun out x => hshort out x hrg
 clear hrg p5 p6
 have hst0 := PreI.start t l r
 have hfr := fun k i out h => @PreI.fresh t l r k i out h hd
 have hsk := fun k i out h => @PreI.skip t l r k i out h
 have hstp := fun k i out h => @PreI.step t l r k i out h
 have hnx := fun k out h => @PreI.next t l r k out h hl
 have hbd : ∀ k i out, PreI t l r k i out → out.length ≤ 1000 * k + i := fun k i out h => h.2.2
 have hend : ∀ out, PreI t l r (7 - r.setup).toNat 0 out → out = preS t l r := fun out h => by
  have := h.1
  simpa [preS] using this
 unfold fullS at k3 k4
 obtain ⟨id, arcs, amt, setup, hold⟩ := r
 simp only at p1 p2 p3 p4
 simp only at hr hm hroom k3 k4 hend
 obtain ⟨rm, hrm⟩ : ∃ rm : Int → Int, ∀ a, roomS t l a setup = rm a := ⟨_, fun _ => rfl⟩
 simp only [hrm] at hroom k3 k4
 clear hrm
 obtain ⟨nodes, ov, links⟩ := t
 simp only [tbA, topA, rqA, boolsD, linksD, rqsD, intsA, intsD, List.map_nil] at *
 generalize ov.map encB = ol at *
 generalize links.map encLk = ll at *
 generalize rlh : l.map encRq = rl at *
 have rln : Λ rl = l.length := by rw [Λo, ← rlh]; simp
 obtain ⟨al, alh⟩ : ∃ al, arcs.map encI = al := ⟨_, rfl⟩
 simp only [alh] at hprop hshort hwith ⊢
 have aln : Λ al = arcs.length := by rw [Λo, ← alh]; simp
 conv => cbv
 repeat' first | refine call_b hprop rfl rfl ?_ ?_ | (refine call_r hfnd rfl rfl ?_; conv => cbv) | exact gu | exact trivial | refine And.intro ?_ ?_ | (intro hc; exact absurd hc (by decide)) | (intro hc; exfalso; omega) | (intro hc; (first | rw [wrap_small (by omega) (by omega)] at hc | rw [nI_eq] at hc | skip); try (conv => cbv))
 refine loop_upx arcs.length (fun i : Int => [(2, .c (.ptr 0 0 0 0)), (3, .c (.ptr 1 0 0 0)), (4, .c (.ptr 2 0 0 0)), (7, iA i)])
  (fun _ => [.bx [.d (iD nodes), .d (.list false 1 ol), .d (.list false 7 ll), .d (.list false 5 rl)], .bx [.d (iD id), .d (.list false 1 al), .d (iD amt), .d (iD setup), .d (iD hold)], .bx [.d (iD 0), .d (.list true 1 []), .d (.list true 7 []), .d (.list true 5 [])]])
  (fun k i => i = k ∧ k ≤ arcs.length ∧ (arcs.take k).any (fun a => decide (rm a < amt)) = false) 0 1
  (fun (_ : Unit) => [(2, .c (.ptr 0 0 0 0)), (3, .c (.ptr 1 0 0 0)), (4, .c (.ptr 2 0 0 0))])
  (fun _ => [.bx [.d (iD nodes), .d (.list false 1 ol), .d (.list false 7 ll), .d (.list false 5 rl)], .bx [.d (iD id), .d (.list false 1 al), .d (iD amt), .d (iD setup), .d (iD hold)], .bx [.d (iD 0), .d (.list true 1 []), .d (.list true 7 []), .d (.list true 5 [])]])
  (fun _ => arcs.any (fun a => decide (rm a < amt)) = false) (Wk.cw) ⟨rfl, by omega, by simp⟩ (fun k s h => h.2.1) ?_ ?_
 ·rintro k i Q' ⟨hi, hk, hno⟩ norm jn ex rt
  clear k4 hshort hfy hll hwo hwith hst0 hfr hsk hstp hnx hbd hend
  by_cases hlt : k < arcs.length
  ·obtain ⟨x, hx⟩ : ∃ x, arcs[k]? = some x := ⟨_, List.getElem?_eq_getElem hlt⟩
   have hxa := elt_at alh hi hx
   have hyes : rm x < amt → arcs.any (fun a => decide (rm a < amt)) = true := fun h => List.any_eq_true.2 ⟨x, List.mem_of_getElem? hx, decide_eq_true h⟩
   have hst : (arcs.take (k + 1)).any (fun a => decide (rm a < amt)) = ((arcs.take k).any (fun a => decide (rm a < amt)) || decide (rm x < amt)) := by rw [take_succ_get hx]; simp
   have hrx := hroom x
   generalize rm x = rx at *
   conv => cbv
   repeat' first | (refine ex _ _ _ ?_; (conv => cbv)) | (refine rt _ _ ?_; (conv => cbv)) | (refine call_r hrx rfl rfl ?_; conv => cbv) | (intro e he; cases Option.some.inj (he.symm.trans hxa); (conv => cbv)) | exact gu | exact trivial | refine And.intro ?_ ?_ | (intro hc; exact absurd hc (by decide)) | (intro hc; exfalso; omega) | (intro hc; (first | rw [wrap_small (by omega) (by omega)] at hc | rw [nI_eq] at hc | skip); try (conv => cbv))
   ·exact k3 (hyes (by assumption))
   ·refine norm _ _ _ ?_ (Wk.cw)
    exact ⟨by omega, by omega, by rw [hst, hno, decide_eq_false (by assumption)]; rfl⟩
  ·have jn := fun L h => jn L h () (by rw [List.take_of_length_le (by omega)] at hno; exact hno)
   conv => cbv
   repeat' first | exact gu | exact trivial | refine And.intro ?_ ?_ | (intro hc; exact absurd hc (by decide)) | (intro hc; exfalso; omega) | (intro hc; (first | rw [wrap_small (by omega) (by omega)] at hc | rw [nI_eq] at hc | skip); try (conv => cbv))
   exact jn _ _ (Wk.cw)
 ·rintro - hno
  replace k4 := k4 hno
  clear k3 hroom hno
  obtain ⟨N, hN⟩ : ∃ N, N = (7 - setup).toNat := ⟨_, rfl⟩
  rw [← hN] at hend
  replace hend := fun out h => hend out h
  have eY := fun out : List Int => (⟨_, rfl⟩ : ∃ y, y = (leftR l out).map encRq)
  conv => cbv
  repeat' first | exact gu | exact trivial | refine And.intro ?_ ?_ | (intro hc; exact absurd hc (by decide)) | (intro hc; exfalso; omega) | (intro hc; (first | rw [wrap_small (by omega) (by omega)] at hc | rw [nI_eq] at hc | skip); try (conv => cbv))
  have hy0 : rl = (leftR l []).map encRq := by rw [← rlh, leftR, List.filter_eq_self.2 (by simp)]
  refine loop_upx N (fun (s : Int × Nat × Bool × Nat × List (List D) × List (List D)) => [(2, .c (.ptr 0 0 0 0)), (3, .c (.ptr 1 0 0 0)), (4, .c (.ptr 2 0 0 0)), (8, .c (.arr 4 s.2.1 0 s.2.2.2.1)), (9, .c (.ptr 3 0 0 0)), (10, iA s.1)])
   (fun s => [.bx [.d (iD nodes), .d (.list false 1 ol), .d (.list false 7 ll), .d (.list false 5 rl)], .bx [.d (iD id), .d (.list false 1 al), .d (iD amt), .d (iD setup), .d (iD hold)], .bx [.d (iD 0), .d (.list true 1 []), .d (.list true 7 []), .d (.list true 5 [])], .bx [.d (iD nodes), .d (.list false 1 ol), .d (.list false 7 ll), .d (.list false 5 s.2.2.2.2.2)], .da s.2.2.1 s.2.1 1 s.2.2.2.2.1])
   (fun k s => s.1 = 7 - k ∧ k ≤ N ∧ ∃ out, PreI ⟨nodes, ov, links⟩ l ⟨id, arcs, amt, setup, hold⟩ k 0 out ∧ s.2.2.2.1 = out.length ∧ s.2.2.2.2.1 = out.map encI ∧ s.2.2.2.2.2 = (leftR l out).map encRq) (7, 0, false, 0, [], rl) 3
   (fun (s : Nat × Bool × Nat × List (List D) × List (List D)) => [(2, .c (.ptr 0 0 0 0)), (3, .c (.ptr 1 0 0 0)), (4, .c (.ptr 2 0 0 0)), (8, .c (.arr 4 s.1 0 s.2.2.1)), (9, .c (.ptr 3 0 0 0))])
   (fun s => [.bx [.d (iD nodes), .d (.list false 1 ol), .d (.list false 7 ll), .d (.list false 5 rl)], .bx [.d (iD id), .d (.list false 1 al), .d (iD amt), .d (iD setup), .d (iD hold)], .bx [.d (iD 0), .d (.list true 1 []), .d (.list true 7 []), .d (.list true 5 [])], .bx [.d (iD nodes), .d (.list false 1 ol), .d (.list false 7 ll), .d (.list false 5 s.2.2.2.2)], .da s.2.1 s.1 1 s.2.2.2.1])
   (fun s => ∃ out, PreI ⟨nodes, ov, links⟩ l ⟨id, arcs, amt, setup, hold⟩ N 0 out ∧ s.2.2.1 = out.length ∧ s.2.2.2.1 = out.map encI ∧ s.2.2.2.2 = (leftR l out).map encRq) (.trans (.nilS 8 1 rfl) (Wk.ca)) ⟨by simp only; omega, by omega, [], hst0, rfl, rfl, hy0⟩ (fun k s h => h.2.1) ?_ ?_
  ·rintro ko ⟨hh, ve0, rr0, n0, es0, yl0⟩ Q0 ⟨hio, hko, out0, hpre0, hn0, he0, hy0'⟩ norm0 jn0 ex0 rt0
   simp only at hio hn0 he0 hy0'
   clear k4 hend hwith hst0 hy0
   by_cases hgt : setup < hh
   rotate_left
   ·have jn0 := fun L h => jn0 L h (ve0, rr0, n0, es0, yl0) ⟨out0, by rw [show N = ko by omega]; exact hpre0, hn0, he0, hy0'⟩
    clear hshort hfy hll hwo hfr hsk hstp hnx hbd norm0
    conv => cbv
    repeat' first | exact gu | exact trivial | refine And.intro ?_ ?_ | (intro hc; exact absurd hc (by decide)) | (intro hc; exfalso; omega) | (intro hc; (first | rw [wrap_small (by omega) (by omega)] at hc | rw [nI_eq] at hc | skip); try (conv => cbv))
    exact jn0 _ _ (Wk.cw)
   clear jn0
   conv => cbv
   repeat' first | exact gu | exact trivial | refine And.intro ?_ ?_ | (intro hc; exact absurd hc (by decide)) | (intro hc; exfalso; omega) | (intro hc; (first | rw [wrap_small (by omega) (by omega)] at hc | rw [nI_eq] at hc | skip); try (conv => cbv))
   refine loop_upx l.length (fun (s : Int × Nat × Bool × Nat × List (List D) × List (List D)) => [(2, .c (.ptr 0 0 0 0)), (3, .c (.ptr 1 0 0 0)), (4, .c (.ptr 2 0 0 0)), (8, .c (.arr 4 s.2.1 0 s.2.2.2.1)), (9, .c (.ptr 3 0 0 0)), (10, iA hh), (11, iA s.1)])
    (fun s => [.bx [.d (iD nodes), .d (.list false 1 ol), .d (.list false 7 ll), .d (.list false 5 rl)], .bx [.d (iD id), .d (.list false 1 al), .d (iD amt), .d (iD setup), .d (iD hold)], .bx [.d (iD 0), .d (.list true 1 []), .d (.list true 7 []), .d (.list true 5 [])], .bx [.d (iD nodes), .d (.list false 1 ol), .d (.list false 7 ll), .d (.list false 5 s.2.2.2.2.2)], .da s.2.2.1 s.2.1 1 s.2.2.2.2.1])
    (fun i s => s.1 = i ∧ i ≤ l.length ∧ ∃ out, PreI ⟨nodes, ov, links⟩ l ⟨id, arcs, amt, setup, hold⟩ ko i out ∧ s.2.2.2.1 = out.length ∧ s.2.2.2.2.1 = out.map encI ∧ s.2.2.2.2.2 = (leftR l out).map encRq) (0, ve0, rr0, n0, es0, yl0) 5
    (fun (s : Nat × Bool × Nat × List (List D) × List (List D)) => [(2, .c (.ptr 0 0 0 0)), (3, .c (.ptr 1 0 0 0)), (4, .c (.ptr 2 0 0 0)), (8, .c (.arr 4 s.1 0 s.2.2.1)), (9, .c (.ptr 3 0 0 0)), (10, iA hh)])
    (fun s => [.bx [.d (iD nodes), .d (.list false 1 ol), .d (.list false 7 ll), .d (.list false 5 rl)], .bx [.d (iD id), .d (.list false 1 al), .d (iD amt), .d (iD setup), .d (iD hold)], .bx [.d (iD 0), .d (.list true 1 []), .d (.list true 7 []), .d (.list true 5 [])], .bx [.d (iD nodes), .d (.list false 1 ol), .d (.list false 7 ll), .d (.list false 5 s.2.2.2.2)], .da s.2.1 s.1 1 s.2.2.2.1])
    (fun s => ∃ out, PreI ⟨nodes, ov, links⟩ l ⟨id, arcs, amt, setup, hold⟩ (ko + 1) 0 out ∧ s.2.2.1 = out.length ∧ s.2.2.2.1 = out.map encI ∧ s.2.2.2.2 = (leftR l out).map encRq) (Wk.cw) ⟨rfl, by omega, out0, hpre0, hn0, he0, hy0'⟩ (fun k s h => h.2.1) ?_ ?_
   ·rintro k ⟨i, ve, rr, n, es, yl⟩ Q' ⟨hi, hk, out, hpre, hn, hel, hy⟩ norm jn ex rt
    simp only at hi hn hel hy
    by_cases hlt : k < l.length
    ·clear jn
     obtain ⟨⟨xi, xa, xm, xs, xh⟩, hx⟩ : ∃ x, l[k]? = some x := ⟨_, List.getElem?_eq_getElem hlt⟩
     have hxa := elt_at rlh hi hx
     simp only [encRq, intsD] at hxa
     generalize hxe : xa.map encI = xl at *
 
     have hsk := hsk ko k out hpre hx
     have hstp := hstp ko k out hpre hx
     have hfr := hfr ko k out hpre hx
     have hob := hbd ko k out hpre
     have hsx := hshort out ⟨xi, xa, xm, xs, xh⟩
     unfold preStep at hstp
     simp only at hsk hstp hfr hsx
     simp only [hxe, ← hy] at hsx
     have hlen : es.length = n := by rw [hel, hn]; simp
     obtain ⟨n1, hn1⟩ : ∃ n1, n1 = n + 1 := ⟨_, rfl⟩
     obtain ⟨e1, he1⟩ : ∃ e1, e1 = es ++ [[iD xi]] := ⟨_, rfl⟩
     by_cases hxh : xh = hh
     rotate_left
     ·have hsk := hsk (by omega)
      clear hstp hfr hfy hwo hshort hsx
      conv => cbv
      repeat' first | (refine ex _ _ _ ?_; (conv => cbv)) | (refine rt _ _ ?_; (conv => cbv)) | (intro e he; cases Option.some.inj (he.symm.trans hxa); (conv => cbv)) | exact gu | exact trivial | refine And.intro ?_ ?_ | (intro hc; exact absurd hc (by decide)) | (intro hc; exfalso; omega) | (intro hc; (first | rw [wrap_small (by omega) (by omega)] at hc | rw [nI_eq] at hc | skip); try (conv => cbv))
      refine norm _ _ (_, _, _, _, _, _) ?_ (Wk.cw)
      exact ⟨by simp only; omega, by omega, out, hsk, hn, hel, hy⟩
     have hstp := hstp (by omega)
     have hfr := hfr (by omega)
     clear hsk
     by_cases hsh : shortS ⟨nodes, ov, links⟩ (leftR l out) ⟨xi, xa, xm, xs, xh⟩ ⟨id, arcs, amt, setup, hold⟩ = true
     rotate_left
     ·rw [if_neg hsh] at hstp
      rw [Bool.eq_false_iff.2 hsh] at hsx
      clear hfr hfy hwo hshort
      conv => cbv
      repeat' first | (refine ex _ _ _ ?_; (conv => cbv)) | (refine rt _ _ ?_; (conv => cbv)) | (intro e he; cases Option.some.inj (he.symm.trans hxa); (conv => cbv)) | refine call_b hsx rfl rfl ?_ ?_ | exact gu | exact trivial | refine And.intro ?_ ?_ | (intro hc; exact absurd hc (by decide)) | (intro hc; exfalso; omega) | (intro hc; (first | rw [wrap_small (by omega) (by omega)] at hc | rw [nI_eq] at hc | skip); try (conv => cbv))
      refine norm _ _ (_, _, _, _, _, _) ?_ (Wk.cw)
      exact ⟨by simp only; omega, by omega, out, hstp, hn, hel, hy⟩
     ·rw [if_pos hsh] at hstp
      rw [hsh] at hsx
      have hmem := mem_left (out := out) (List.mem_of_getElem? hx) hfr
      have hfx := hfy out xi
      simp only [findR, if_pos hmem] at hfx
      have hil : ((leftR l out).map (·.id)).idxOf xi < (leftR l out).length := by simpa using List.idxOf_lt_length_of_mem hmem
      have hwx := hwo out _ hil
      rw [eraseIdx_td, erase_left hd] at hwx
      clear hfy hwo hshort hfr hmem
      generalize ((leftR l out).map (·.id)).idxOf xi = ix at *
      obtain ⟨j, hj⟩ : ∃ j : Int, (ix : Int) = j := ⟨_, rfl⟩
      rw [hj] at hfx hwx
      obtain ⟨y2, hy2⟩ : ∃ y2, y2 = (leftR l (out ++ [xi])).map encRq := ⟨_, rfl⟩
      rw [← hy] at hfx hwx
      rw [← hy2] at hwx
      conv => cbv
      repeat' first | (refine ex _ _ _ ?_; (conv => cbv)) | (refine rt _ _ ?_; (conv => cbv)) | (intro e he; cases Option.some.inj (he.symm.trans hxa); (conv => cbv)) | refine call_b hsx rfl rfl ?_ ?_ | (refine call_r hfx rfl rfl ?_; conv => cbv) | (refine call_r hwx rfl rfl ?_; conv => cbv) | (intro (m : Nat) (r : Bool) (y : List (List D)) hm hr hy; refine (fun (hz : n1 = m) (hz2 : e1 = y) => ?_) (by first | omega | (simp only [List.length_cons, List.length_nil] at hm; omega)) (by first | (rw [hy, List.drop_zero, List.take_of_length_le (by omega)]; exact he1) | (rw [hy]; exact he1)); subst hz; subst hz2; (conv => cbv)) | exact gu | exact trivial | refine And.intro ?_ ?_ | (intro hc; exact absurd hc (by decide)) | (intro hc; exfalso; omega) | (intro hc; (first | rw [wrap_small (by omega) (by omega)] at hc | rw [nI_eq] at hc | skip); try (conv => cbv))
      refine norm _ _ (_, _, _, _, _, _) ?_ (Wk.cw)
      exact ⟨by simp only; omega, by omega, out ++ [xi], hstp, by rw [hn1, hn]; simp, by rw [he1, hel]; simp [encI], hy2⟩
    ·have jn := fun L h => jn L h (ve, rr, n, es, yl) ⟨out, hnx ko out (by rw [show l.length = k by omega]; exact hpre), hn, hel, hy⟩
     clear norm hshort hfy hll hwo hfr hsk hstp hnx hbd
     conv => cbv
     repeat' first | exact gu | exact trivial | refine And.intro ?_ ?_ | (intro hc; exact absurd hc (by decide)) | (intro hc; exfalso; omega) | (intro hc; (first | rw [wrap_small (by omega) (by omega)] at hc | rw [nI_eq] at hc | skip); try (conv => cbv))
     exact jn _ _ (Wk.cw)
   ·rintro ⟨ve, rr, n, es, yl⟩ ⟨out, hpre, hn, hel, hy⟩
    simp only at hn hel hy
    have norm0 := fun L h i => norm0 L h (i, ve, rr, n, es, yl)
    clear hshort hfy hll hwo hfr hsk hstp hnx hbd
    conv => cbv
    repeat' first | exact gu | exact trivial | refine And.intro ?_ ?_ | (intro hc; exact absurd hc (by decide)) | (intro hc; exfalso; omega) | (intro hc; (first | rw [wrap_small (by omega) (by omega)] at hc | rw [nI_eq] at hc | skip); try (conv => cbv))
    refine norm0 _ _ _ ?_ (Wk.cw)
    exact ⟨by simp only; omega, by omega, out, hpre, hn, hel, hy⟩
  ·rintro ⟨ve, rr, n, es, yl⟩ ⟨out, hpre, hn, hel, hy⟩
   simp only at hn hel hy
   have ho := hend out hpre
   have hwith := hwith out
   rw [← ho] at k4
   generalize withR ⟨id, arcs, amt, setup, hold⟩ (leftR l out) = wl at *
   rw [← hy] at hwith
   rw [← hel] at k4
   clear hshort hfy hll hwo hfr hsk hstp hnx hbd hend
   generalize wl.map encRq = wr at *
   conv => cbv
   repeat' first | (refine call_r hwith rfl rfl ?_; conv => cbv) | exact gu | exact trivial | refine And.intro ?_ ?_ | (intro hc; exact absurd hc (by decide)) | (intro hc; exfalso; omega) | (intro hc; (first | rw [wrap_small (by omega) (by omega)] at hc | rw [nI_eq] at hc | skip); try (conv => cbv))
   have hlen : es.length = n := by rw [hel, hn]; simp
   rw [List.drop_zero, List.take_of_length_le (by omega)] at hc
   rw [hc]
   exact k4
end Go.Ab

/-
  Maps whose keys are numbers.
-/
namespace Go.Ab
open Go.Proofs
def encZ (e : Int × DV) : DV × DV := (.s (iD e.1), e.2)
theorem eqc_int (a x : Int) : eqc [.d (.int .i64 a)] [.d (.int .i64 x)] [(0, 0)] = some (decide (a = x)) := by
 have e : eqc [.d (.int .i64 a)] [.d (.int .i64 x)] [(0, 0)] = some ((a == x) && true) := rfl
 rw [e]
 by_cases h1 : a = x
 ·simp [h1]
 ·simp [h1]
end Go.Ab

/-
  The engine: a contract over a few blocks, used where these blocks are some of many.
-/
namespace Go.Ab
section
variable {G : Nat → Prop} {w : World} {ιc ι : Io} {hc h : Hp} {ρ : Nat → Nat}
theorem Kept.rn {ι' ιc' : Io} {w' : World} {i l : Nat} {k k' : Blk} (hk : Kept ιc ιc' w w' i k k') (h1 : ι[l]? = ιc[i]?) (h2 : ι'[l]? = ιc'[i]?) : Kept ι ι' w w' l (rnB ρ k) (rnB ρ k') := by
 cases k' with
 | dead => cases k <;> trivial
 | am m' =>
  cases k with
  | am m => trivial
  | _ => simp [Kept] at hk
 | bx cs' =>
  cases k with
  | bx cs => exact ⟨by rw [rnCs_len, rnCs_len]; exact hk.1, by rw [h1, h2]; exact hk.2⟩
  | _ => simp [Kept] at hk
 | da r' v' sz' es' =>
  cases k with
  | da r v sz es =>
   rcases hk with hk | ⟨a1, a2, a3, a4, a5, a6⟩
   ·exact .inl hk
   ·exact .inr ⟨a1, a2, a3, a4, by rw [h1, h2]; exact a5, fun hr b o hb => a6 hr b o (by rw [← h1]; exact hb)⟩
  | _ => simp [Kept] at hk
 | mp v' es' =>
  cases k with
  | mp v es =>
   obtain ⟨a1, a2⟩ := hk
   refine ⟨by rw [h1, h2]; exact a1, ?_⟩
   rcases a2 with a2 | ⟨a2, a3, a4⟩
   ·exact .inl a2
   ·exact .inr ⟨a2, a3, fun b o hb => a4 b o (by rw [← h1]; exact hb)⟩
  | _ => simp [Kept] at hk
 | mi m' v' es' =>
  cases k with
  | mi m v es =>
   obtain ⟨a1, a2, a3⟩ := hk
   exact ⟨by rw [a1], a2, by rw [h1, h2]; exact a3⟩
  | _ => simp [Kept] at hk
end
def setAll {α : Type} : List α → List Nat → List α → List α
 | h, [], _ => h
 | h, _ :: _, [] => h
 | h, l :: σ, b :: bs => setAll (h.set l b) σ bs
theorem setAll_len {α : Type} : ∀ (σ : List Nat) (h bs : List α), (setAll h σ bs).length = h.length
 | [], _, _ => by simp only [setAll]
 | _ :: _, _, [] => by simp only [setAll]
 | l :: σ, h, b :: bs => by simp only [setAll]; rw [setAll_len σ]; simp
theorem setAll_other {α : Type} : ∀ (σ : List Nat) (h bs : List α) (l : Nat), l ∉ σ → (setAll h σ bs)[l]? = h[l]?
 | [], _, _, _, _ => by simp only [setAll]
 | _ :: _, _, [], _, _ => by simp only [setAll]
 | l :: σ, h, b :: bs, l', hn => by
  simp only [setAll]
  rw [setAll_other σ _ bs l' (fun hm => hn (List.mem_cons_of_mem _ hm)), List.getElem?_set_ne (fun (e : l = l') => hn (by rw [e]; exact List.mem_cons_self ..))]
theorem setAll_at {α : Type} : ∀ (σ : List Nat) (h bs : List α) (i l : Nat) (b : α), σ.Nodup → (∀ l ∈ σ, l < h.length) → σ[i]? = some l → bs[i]? = some b → (setAll h σ bs)[l]? = some b
 | [], _, _, _, _, _, _, _, h1, _ => by simp at h1
 | _ :: _, _, [], _, _, _, _, _, _, h2 => by simp at h2
 | l0 :: σ, h, b0 :: bs, i, l, b, hn, hl, h1, h2 => by
  simp only [setAll]
  cases i with
  | zero =>
   simp at h1 h2
   subst h1 h2
   rw [setAll_other σ _ bs l0 (List.nodup_cons.1 hn).1, List.getElem?_set_self (hl l0 (List.mem_cons_self ..))]
  | succ i =>
   exact setAll_at σ _ bs i l b (List.nodup_cons.1 hn).2 (fun x hx => by simpa using hl x (List.mem_cons_of_mem _ hx)) (by simpa using h1) (by simpa using h2)
def rho : List Nat → Nat → Nat → Nat
 | [], n, i => n + i
 | l :: _, _, 0 => l
 | _ :: σ, n, i + 1 => rho σ n i
theorem rho_old : ∀ (σ : List Nat) (n i : Nat), i < σ.length → σ[i]? = some (rho σ n i)
 | [], _, _, h => by simp at h
 | l :: σ, n, 0, _ => rfl
 | l :: σ, n, i + 1, h => by simpa [rho] using rho_old σ n i (by simpa using h)
theorem rho_new : ∀ (σ : List Nat) (n i : Nat), σ.length ≤ i → rho σ n i = n + (i - σ.length)
 | [], _, _, _ => rfl
 | l :: σ, n, 0, h => by simp at h
 | l :: σ, n, i + 1, h => by simp only [rho, List.length_cons]; rw [rho_new σ n i (by simpa using h)]; omega
def backH (h : Hp) (σ : List Nat) (hc : Hp) : Hp := setAll h σ (rnH (rho σ h.length) hc) ++ rnH (rho σ h.length) (hc.drop σ.length)
def backI (ι : Io) (σ : List Nat) (ιc : Io) : Io := setAll ι σ ιc ++ ιc.drop σ.length
theorem FnS.frame {P : Program} {f : Nat} {args : List AV} {hc : Hp} {R : AV → Hp → Prop} (hf : FnS P f args hc R) (σ : List Nat) (h : Hp) (hlen : σ.length = hc.length) (hnd : σ.Nodup)
    (hh : ∀ i k, hc[i]? = some k → h[rho σ h.length i]? = some (rnB (rho σ h.length) k)) (hcl : refsH hc.length hc = true) (hca : ∀ x ∈ args, refsA hc.length x = true) :
    FnS P f (rnAs (rho σ h.length) args) h fun r' h' => ∃ r hc', R r hc' ∧ r' = rnA (rho σ h.length) r ∧ h' = backH h σ hc' := by
  refine ⟨fun G ι w vs hr hv => ?_⟩
  have hlt : ∀ l ∈ σ, l < h.length := by
    intro l hl
    obtain ⟨i, hi, rfl⟩ := List.getElem_of_mem hl
    have h1 := rho_old σ h.length i hi
    rw [List.getElem?_eq_getElem hi] at h1
    have h2 := hh i _ (List.getElem?_eq_getElem (by omega))
    rw [← Option.some.inj h1] at h2
    exact get_lt h2
  have hιl : ∀ l ∈ σ, l < ι.length := fun l hl => by rw [hr.len]; exact hlt l hl
  generalize hρ : rho σ h.length = ρ at *
  have rold : ∀ i, i < σ.length → σ[i]? = some (ρ i) := fun i hi => by rw [← hρ]; exact rho_old σ _ i hi
  have rnew : ∀ i, σ.length ≤ i → ρ i = h.length + (i - σ.length) := fun i hi => by rw [← hρ]; exact rho_new σ _ i hi
  have rmem : ∀ i, i < σ.length → ρ i ∈ σ := fun i hi => List.mem_of_getElem? (rold i hi)
  have rinj : ∀ i j, ρ i = ρ j → i = j := by
    intro i j e
    rcases Nat.lt_or_ge i σ.length with hi | hi <;> rcases Nat.lt_or_ge j σ.length with hj | hj
    · have h1 := rold i hi
      have h2 := rold j hj
      rw [e, ← h2] at h1
      exact (List.getElem?_inj hi hnd).1 h1
    · have := hlt _ (rmem i hi); have := rnew j hj; omega
    · have := hlt _ (rmem j hj); have := rnew i hi; omega
    · have := rnew i hi; have := rnew j hj; omega
  let ιc : Io := σ.map fun l => (ι[l]?).getD (0, 0)
  have hιc : ∀ i, i < σ.length → ιc[i]? = ι[ρ i]? := by
    intro i hi
    simp only [ιc, List.getElem?_map, rold i hi, Option.map_some]
    rw [List.getElem?_eq_getElem (hιl _ (rmem i hi))]; rfl
  have am : Among ρ ιc hc ι h := ⟨hh, fun i k hk => (hιc i (by rw [hlen]; exact get_lt hk)).symm⟩
  have hrc : HR G ιc hc w := HR.down am hr (by simp [ιc, hlen]) (fun i j _ _ e => rinj i j e) hcl
  have hvc : VRs G w ιc hc vs args := by
    refine ⟨by rw [hv.1, rnAs_len], fun i v x h1 h2 => ?_⟩
    exact (hv.2 i v (rnA ρ x) h1 (by rw [rnAs_get, h2]; rfl)).unrn am (hca x (List.mem_of_getElem? h2))
  refine (hf.out G ιc w vs hrc hvc).mono fun e w2 ⟨v, r, G2, ι2, hc2, he, hR, hr2, hvr, hx⟩ => ?_
  have hl2 : hc.length ≤ hc2.length := by
    rcases Nat.lt_or_ge hc2.length hc.length with hb | hb
    · obtain ⟨k', h1, _⟩ := hx.keep hc2.length _ (List.getElem?_eq_getElem hb)
      have := get_lt h1; omega
    · exact hb
  have hl2' : ι2.length = hc2.length := hr2.len
  have hset : (setAll h σ (rnH ρ hc2)).length = h.length := setAll_len σ h _
  have hseti : (setAll ι σ ι2).length = h.length := by rw [setAll_len, hr.len]
  have hbh : backH h σ hc2 = setAll h σ (rnH ρ hc2) ++ rnH ρ (hc2.drop σ.length) := by simp only [backH, hρ]
  -- the callee's blocks, at the caller
  have am2 : Among ρ ι2 hc2 (backI ι σ ι2) (backH h σ hc2) := by
    rw [hbh]
    constructor
    · intro i k hk
      rcases Nat.lt_or_ge i σ.length with hi | hi
      · rw [List.getElem?_append_left (by rw [hset]; exact hlt _ (rmem i hi))]
        exact setAll_at σ h _ i _ _ hnd hlt (rold i hi) (by rw [rnH_get, hk]; rfl)
      · rw [rnew i hi, List.getElem?_append_right (by omega), hset, rnH_get, List.getElem?_drop]
        rw [show σ.length + (h.length + (i - σ.length) - h.length) = i by omega, hk]; rfl
    · intro i k hk
      unfold backI
      have hi2 : ι2[i]? = some (ι2[i]'(by rw [hl2']; exact get_lt hk)) := List.getElem?_eq_getElem _
      rcases Nat.lt_or_ge i σ.length with hi | hi
      · rw [List.getElem?_append_left (by rw [hseti]; exact hlt _ (rmem i hi)), hi2]
        exact setAll_at σ ι _ i _ _ hnd hιl (rold i hi) hi2
      · rw [rnew i hi, List.getElem?_append_right (by omega), hseti, List.getElem?_drop]
        rw [show σ.length + (h.length + (i - σ.length) - h.length) = i by omega]
  -- each of the caller's blocks is one of the callee's, or as it was
  have part : ∀ l k', (backH h σ hc2)[l]? = some k' → (∃ i k, hc2[i]? = some k ∧ l = ρ i ∧ k' = rnB ρ k) ∨ (h[l]? = some k' ∧ l ∉ σ ∧ (backI ι σ ι2)[l]? = ι[l]?) := by
    intro l k' hk'
    by_cases hm : l ∈ σ
    · obtain ⟨i, hi, rfl⟩ := List.getElem_of_mem hm
      have e : σ[i] = ρ i := by have := rold i hi; rw [List.getElem?_eq_getElem hi] at this; exact Option.some.inj this
      have hki : hc2[i]? = some (hc2[i]'(by omega)) := List.getElem?_eq_getElem _
      have := am2.blk i _ hki
      rw [e, this] at hk'
      exact .inl ⟨i, _, hki, e, (Option.some.inj hk').symm⟩
    · rcases Nat.lt_or_ge l h.length with hl | hl
      · rw [hbh, List.getElem?_append_left (by omega), setAll_other σ h _ l hm] at hk'
        exact .inr ⟨hk', hm, by unfold backI; rw [List.getElem?_append_left (by omega), setAll_other σ ι _ l hm]⟩
      · rw [hbh, List.getElem?_append_right (by omega), hset, rnH_get, List.getElem?_drop, Option.map_eq_some_iff] at hk'
        obtain ⟨k, h1, rfl⟩ := hk'
        exact .inl ⟨_, k, h1, by rw [rnew _ (by omega)]; omega, rfl⟩
  have other : ∀ l b k, h[l]? = some k → l ∉ σ → own1 ι l k b → b < w.heap.size ∧ ¬ owned ιc hc b := by
    intro l b k h1 h2 h3
    refine ⟨owned_lt hr ⟨l, k, h1, h3⟩, fun ho => ?_⟩
    obtain ⟨i, kc, g1, g2, g3, g4⟩ := owned_rn am ho
    have := hr.own l (ρ i) b k _ h1 g4 h3 g3
    exact h2 (this ▸ rmem i (by rw [hlen]; exact get_lt g1))
  have same : ∀ l b k, h[l]? = some k → l ∉ σ → own1 ι l k b → w2.heap[b]? = w.heap[b]? := by
    intro l b k h1 h2 h3
    have := other l b k h1 h2 h3
    exact hx.frame b this.1 this.2
  have hext : Ext G ι h w G2 (backI ι σ ι2) (backH h σ hc2) w2 :=
    { size := hx.size
      quiet := hx.quiet
      frame := fun b hb ho => hx.frame b hb fun ho' => ho (owned_up am ho')
      gmono := hx.gmono
      gnew := fun b hb => by
        rcases hx.gnew b hb with h1 | h1 | h1
        · exact .inl h1
        · exact .inr (.inl h1)
        · exact .inr (.inr (owned_up am h1))
      onew := fun b ⟨l, k, h2, h3⟩ => by
        rcases part l k h2 with ⟨i, kc, g1, rfl, rfl⟩ | ⟨g1, g2, g3⟩
        · rcases hx.onew b ⟨i, kc, g1, (own1_rn (am2.at' i kc g1)).1 h3⟩ with h4 | h4
          · exact .inl (owned_up am h4)
          · exact .inr h4
        · exact .inl ⟨l, k, g1, own1_io h3 fun _ => g3.symm⟩
      keep := fun l k hk => by
        by_cases hm : l ∈ σ
        · obtain ⟨i, hi, rfl⟩ := List.getElem_of_mem hm
          have e : σ[i] = ρ i := by have := rold i hi; rw [List.getElem?_eq_getElem hi] at this; exact Option.some.inj this
          have hki : hc[i]? = some (hc[i]'(by omega)) := List.getElem?_eq_getElem _
          rw [e, hh i _ hki] at hk
          cases hk
          obtain ⟨k', g1, g2⟩ := hx.keep i _ hki
          exact ⟨rnB ρ k', by rw [e]; exact am2.blk i k' g1, by rw [e]; exact g2.rn (am.at' i _ hki) (am2.at' i k' g1)⟩
        · have hl : l < h.length := get_lt hk
          have e1 : (backH h σ hc2)[l]? = some k := by rw [hbh, List.getElem?_append_left (by omega), setAll_other σ h _ l hm]; exact hk
          have e2 : (backI ι σ ι2)[l]? = ι[l]? := by unfold backI; rw [List.getElem?_append_left (by omega), setAll_other σ ι _ l hm]
          exact ⟨k, e1, Kept.frame e2 fun b hb => same l b k hk hm hb⟩ }
  refine ⟨v, rnA ρ r, G2, backI ι σ ι2, backH h σ hc2, he, ⟨r, hc2, hR, rfl, rfl⟩, ?_, hvr.rn am2, hext⟩
  exact
    { len := by
        rw [hbh]; unfold backI
        simp only [List.length_append, hset, hseti, rnH_len, List.length_drop, hl2']
      own := by
        intro l l' b k k' h3 h4 h5 h6
        rcases part l k h3 with ⟨i, kc, g1, rfl, rfl⟩ | ⟨g1, g2, g3⟩ <;> rcases part l' k' h4 with ⟨i', kc', q1, rfl, rfl⟩ | ⟨q1, q2, q3⟩
        · rw [hr2.own i i' b kc kc' g1 q1 ((own1_rn (am2.at' i kc g1)).1 h5) ((own1_rn (am2.at' i' kc' q1)).1 h6)]
        · exfalso
          have ot := other l' b k' q1 q2 (own1_io h6 fun _ => q3.symm)
          rcases hx.onew b ⟨i, kc, g1, (own1_rn (am2.at' i kc g1)).1 h5⟩ with h7 | h7
          · exact ot.2 h7
          · omega
        · exfalso
          have ot := other l b k g1 g2 (own1_io h5 fun _ => g3.symm)
          rcases hx.onew b ⟨i', kc', q1, (own1_rn (am2.at' i' kc' q1)).1 h6⟩ with h7 | h7
          · exact ot.2 h7
          · omega
        · exact hr.own l l' b k k' g1 q1 (own1_io h5 fun _ => g3.symm) (own1_io h6 fun _ => q3.symm)
      g := by
        intro b hb
        refine ⟨(hr2.g b hb).1, fun ⟨l, k, h2, h3⟩ => ?_⟩
        rcases part l k h2 with ⟨i, kc, g1, rfl, rfl⟩ | ⟨g1, g2, g3⟩
        · exact (hr2.g b hb).2 ⟨i, kc, g1, (own1_rn (am2.at' i kc g1)).1 h3⟩
        · have h3' : own1 ι l k b := own1_io h3 fun _ => g3.symm
          have ot := other l b k g1 g2 h3'
          rcases hx.gnew b hb with h4 | h4 | h4
          · exact (hr.g b h4).2 ⟨l, k, g1, h3'⟩
          · omega
          · exact ot.2 h4
      blk := by
        intro l k hk
        rcases part l k hk with ⟨i, kc, g1, rfl, rfl⟩ | ⟨g1, g2, g3⟩
        · exact BR.rn am2 g1 (hr2.blk i kc g1)
        · exact BR.ext hext hr g1 g3 fun b hb => same l b k g1 g2 hb }
end Go.Ab

/-
  Contracts, part h: copies; the parts of a step.
-/
namespace Go.Ab
open Go.Proofs
theorem cloneInts_raw (P : Program) (hP : P = Try.prog) (ll : List (List D)) (hl : ll.length ≤ 1000000) : Ret P n_slices_Clone_int_int [.c (.d (.list false 1 ll))] (.c (.d (.list false 1 ll))) := by
 refine ret_start (hP ▸ mixed) (hP ▸ fn_slices_Clone_int_int) (hP ▸ c_slices_Clone_int_int) (Nat.le_of_ble_eq_true rfl) fun Λ Λo K hK => ?_
 clear hP
 have h0 : ll = [] → K (.c (.d (.list false 1 []))) := fun h => by rw [h] at hK; exact hK
 have lln := Λo ll
 conv => cbv
 repeat' first | exact gu | exact trivial | refine And.intro ?_ ?_ | (intro hc; exact absurd hc (by decide)) | (intro hc; exfalso; omega) | (intro hc; (first | rw [wrap_small (by omega) (by omega)] at hc | rw [nI_eq] at hc | skip); try (conv => cbv))
 ·rename_i m r es hm hr hes ls
  have : ls = ll := by subst hc hes hm; simp
  rw [this]; exact hK
 ·exact h0 hc
theorem cloneInts_ok (P : Program) (hP : P = Try.prog) (l : List Int) (hl : l.length ≤ 1000000) : Ret P n_slices_Clone_int_int [intsA l] (intsA l) :=
 cloneInts_raw P hP _ (by rw [List.length_map]; exact hl)
end Go.Ab

/-
  Calls over a few of the caller's blocks.
-/
namespace Go.Ab
open Go.Proofs
def frOk (h : Hp) (ρ : Nat → Nat) : Nat → Hp → Prop
 | _, [] => True
 | n, k :: r => h[ρ n]? = some (rnB ρ k) ∧ frOk h ρ (n + 1) r
theorem frOk_get {h : Hp} {ρ : Nat → Nat} : ∀ {hc : Hp} {n : Nat}, frOk h ρ n hc → ∀ i k, hc[i]? = some k → h[ρ (n + i)]? = some (rnB ρ k) := by
 intro hc
 induction hc with
 | nil => intro n _ i k h; simp at h
 | cons b r ih =>
  intro n ⟨h1, h2⟩ i k hk
  cases i with
  | zero => simp at hk; subst hk; exact h1
  | succ i =>
   simp at hk
   have := ih h2 i k hk
   rw [show n + 1 + i = n + (i + 1) by omega] at this; exact this
theorem call_fr {P : Program} {m : Nat} {L : Lv} {h : Hp} {f : Nat} {xs : List X} {K : Lv → AV → Hp → Prop} {args : List AV} {hc : Hp} {R : AV → Hp → Prop} (σ : List Nat) (hf : FnS P f args hc R) (ha : evsN L xs = rnAs (rho σ h.length) args) (hlen : σ.length = hc.length) (hnd : σ.Nodup)
  (hh : frOk h (rho σ h.length) 0 hc) (hcl : refsH hc.length hc = true) (hca : args.all (refsA hc.length) = true) (k : ∀ r hc', R r hc' → K L (rnA (rho σ h.length) r) (backH h σ hc')) : CallS P m false L h f xs K := by
 refine .fn ?_
 rw [ha]
 refine (hf.frame σ h hlen hnd (fun i b hb => by have := frOk_get hh i b hb; rw [Nat.zero_add] at this; exact this) hcl fun x hx => List.all_eq_true.1 hca x hx).mono ?_
 rintro r h' ⟨r0, hc', h1, rfl, rfl⟩
 exact k r0 hc' h1
theorem callv_fr {P : Program} {h : Hp} {f : Nat} {args' : List AV} {K : AV → Hp → Prop} {args : List AV} {hc : Hp} {R : AV → Hp → Prop} (σ : List Nat) (hf : FnS P f args hc R) (ha : args' = rnAs (rho σ h.length) args) (hlen : σ.length = hc.length) (hnd : σ.Nodup)
  (hh : frOk h (rho σ h.length) 0 hc) (hcl : refsH hc.length hc = true) (hca : args.all (refsA hc.length) = true) (k : ∀ r hc', R r hc' → K (rnA (rho σ h.length) r) (backH h σ hc')) : CallV P h f args' K := by
 refine .fn ?_
 rw [ha]
 refine (hf.frame σ h hlen hnd (fun i b hb => by have := frOk_get hh i b hb; rw [Nat.zero_add] at this; exact this) hcl fun x hx => List.all_eq_true.1 hca x hx).mono ?_
 rintro r h' ⟨r0, hc', h1, rfl, rfl⟩
 exact k r0 hc' h1
end Go.Ab

/-
  Calls that look at memory, in a region whose order is drawn.
-/
namespace Go.Ab
open Go.Proofs
theorem setAll_id {h : Hp} : ∀ (σ : List Nat) (ys : Hp), (∀ (i l : Nat) (b : Blk), σ[i]? = some l → ys[i]? = some b → h[l]? = some b) → setAll h σ ys = h
 | [], _, _ => by unfold setAll; rfl
 | _ :: _, [], _ => by unfold setAll; rfl
 | l :: σ, y :: ys, hy => by
  have h0 := hy 0 l y rfl rfl
  have h1 : h.set l y = h := by
   apply List.ext_getElem?
   intro i
   by_cases hi : l = i
   ·subst hi; rw [List.getElem?_set_self (get_lt h0), h0]
   ·rw [List.getElem?_set_ne hi]
  unfold setAll
  rw [h1]
  exact setAll_id σ ys fun i l b e1 e2 => hy (i + 1) l b e1 e2
theorem call_ro {P : Program} {m : Nat} {d : Bool} {L : Lv} {h : Hp} {f : Nat} {xs : List X} {K : Lv → AV → Hp → Prop} {args : List AV} {hc : Hp} {r : AV} (σ : List Nat) (hf : FnS P f args hc fun r' h' => r' = r ∧ h' = hc) (hm : 0 < m)
  (ha : ∀ n, evsN L xs = rnAs (rho σ n) args) (hlen : σ.length = hc.length) (hnd : σ.Nodup) (hh : ∀ n, frOk h (rho σ n) 0 hc) (hcl : refsH hc.length hc = true) (hca : args.all (refsA hc.length) = true)
  (hr : ∀ n, rnA (rho σ n) r = r)
  (hp : ∀ p : Nat → Prop, (∀ x ∈ evsN L xs, roA p x) → (∀ l cs, p l → h[l]? = some (.bx cs) → ∀ c ∈ cs, roC p c) → ∀ l ∈ σ, p l) (k : K L r h) : CallS P m d L h f xs K := by
 refine .ro hm (fun h' ⟨p, p1, p2, p3⟩ => ?_) k
 have hσ := hp p p1 p3
 have hg : ∀ i b, hc[i]? = some b → h'[rho σ h'.length i]? = some (rnB (rho σ h'.length) b) := fun i b hb => by
  have h1 := frOk_get (hh h'.length) i b hb
  rw [Nat.zero_add] at h1
  have h2 := rho_old σ h'.length i (by rw [hlen]; exact get_lt hb)
  rw [p2 _ (hσ _ (List.mem_of_getElem? h2))]; exact h1
 rw [ha h'.length]
 refine (hf.frame σ h' hlen hnd hg hcl fun x hx => List.all_eq_true.1 hca x hx).mono ?_
 rintro r' h'' ⟨r0, hc', ⟨rfl, rfl⟩, rfl, rfl⟩
 refine ⟨?_, hr _⟩
 have hd : hc'.drop σ.length = [] := by rw [hlen]; exact List.drop_length
 rw [backH, hd, setAll_id σ _ fun i l b e1 e2 => ?_]
 ·simp [rnH]
 ·rw [rnH_get] at e2
  cases hi : hc'[i]? with
  | none => rw [hi] at e2; cases e2
  | some b0 =>
   rw [hi] at e2; cases e2
   have h2 := rho_old σ h'.length i (by rw [hlen]; exact get_lt hi)
   rw [e1] at h2; cases h2
   exact hg i b0 hi
end Go.Ab

/-
  The engine: a function's new blocks, given up behind it.
-/
namespace Go.Ab
theorem FnS.cut {P : Program} {f : Nat} {args : List AV} {h : Hp} {R : AV → Hp → Prop} (hf : FnS P f args h R) (hc : ∀ r h', R r h' → refsA h.length r = true ∧ refsH h.length (h'.take h.length) = true) :
  FnS P f args h fun r h1 => ∃ h2, R r (h1 ++ h2) ∧ h1.length = h.length := by
 refine ⟨fun G ι w vs hr hv => ?_⟩
 refine (hf.out G ι w vs hr hv).mono fun e w2 ⟨v, r, G2, ι2, hc2, he, hR, hr2, hvr, hx⟩ => ?_
 have hl2 : h.length ≤ hc2.length := by
  rcases Nat.lt_or_ge hc2.length h.length with hb | hb
  ·obtain ⟨k', h1, _⟩ := hx.keep hc2.length _ (List.getElem?_eq_getElem hb)
   have := get_lt h1; omega
  ·exact hb
 obtain ⟨c1, c2⟩ := hc r hc2 hR
 have hlt : (hc2.take h.length).length = h.length := by rw [List.length_take]; omega
 let a : Act := ⟨#[v], []⟩
 have hfit : Fits 1 G ι h w (lkL [(0, r)]) hc2 a w2 := ⟨G2, ι2, ⟨hr2, rfl, rfl, fun i => by
  cases i with
  | zero => exact hvr
  | succ i => exact .c _ _ (.u _)⟩, hx⟩
 obtain ⟨G3, ι3, st⟩ := Wk.cut_fits (m := h.length) (L' := [(0, r)]) (h' := hc2.take h.length) ⟨hc2.drop h.length, (List.take_append_drop _ _).symm⟩ (by omega) (by rw [hlt]; exact c2)
  (by rw [hlt]; exact ⟨⟨rfl, c1⟩, trivial⟩) (Nat.le_refl _) hfit
 have hv0 := st.rel.env 0
 exact ⟨v, r, G3, ι3, hc2.take h.length, he, ⟨hc2.drop h.length, by rw [List.take_append_drop]; exact hR, hlt⟩, st.rel.hr, hv0, st.ext⟩
theorem FnS.cut2 {P : Program} {f : Nat} {args : List AV} {h : Hp} {R : AV → Hp → Prop} (hf : FnS P f args h R) (hc : ∀ r h', R r h' → ∃ x y, r = .tup [x, y] ∧ refsA h.length x = true ∧ refsA h.length y = true ∧ refsH h.length (h'.take h.length) = true) :
  FnS P f args h fun r h1 => ∃ h2, R r (h1 ++ h2) ∧ h1.length = h.length := by
 refine ⟨fun G ι w vs hr hv => ?_⟩
 refine (hf.out G ι w vs hr hv).mono fun e w2 ⟨v, r, G2, ι2, hc2, he, hR, hr2, hvr, hx⟩ => ?_
 have hl2 : h.length ≤ hc2.length := by
  rcases Nat.lt_or_ge hc2.length h.length with hb | hb
  ·obtain ⟨k', h1, _⟩ := hx.keep hc2.length _ (List.getElem?_eq_getElem hb)
   have := get_lt h1; omega
  ·exact hb
 obtain ⟨x, y, rfl, c1, c2, c3⟩ := hc r hc2 hR
 have hlt : (hc2.take h.length).length = h.length := by rw [List.length_take]; omega
 cases hvr with
 | tup cs _ hn hcs =>
  have hn2 : cs.size = 2 := hn
  let a : Act := ⟨#[cs[0], cs[1]], []⟩
  have hfit : Fits 2 G ι h w (lkL [(0, x), (1, y)]) hc2 a w2 := ⟨G2, ι2, ⟨hr2, rfl, rfl, fun i => by
   match i with
   | 0 => exact hcs 0 _ _ (Array.getElem?_eq_getElem (by omega)) rfl
   | 1 => exact hcs 1 _ _ (Array.getElem?_eq_getElem (by omega)) rfl
   | i + 2 => exact .c _ _ (.u _)⟩, hx⟩
  obtain ⟨G3, ι3, st⟩ := Wk.cut_fits (m := h.length) (L' := [(0, x), (1, y)]) (h' := hc2.take h.length) ⟨hc2.drop h.length, (List.take_append_drop _ _).symm⟩ (by omega) (by rw [hlt]; exact c3)
   (by rw [hlt]; exact ⟨⟨rfl, c1⟩, ⟨rfl, c2⟩, trivial⟩) (Nat.le_refl _) hfit
  have hv0 := st.rel.env 0
  have hv1 := st.rel.env 1
  refine ⟨.tuple cs, _, G3, ι3, hc2.take h.length, he, ⟨hc2.drop h.length, by rw [List.take_append_drop]; exact hR, hlt⟩, st.rel.hr, .tup cs _ hn fun i v z hv hz => ?_, st.ext⟩
  match i, hz with
  | 0, hz => cases hz; rw [Array.getElem?_eq_getElem (by omega)] at hv; cases hv; exact hv0
  | 1, hz => cases hz; rw [Array.getElem?_eq_getElem (by omega)] at hv; cases hv; exact hv1
  | i + 2, hz => cases hz
theorem Kept.unrn {ι ι2 ιc : Io} {w w2 : World} {l : Nat} {k kc : Blk} {ρ : Nat → Nat} (hk : Kept ι ι2 w w2 l k (rnB ρ kc)) (hi : ιc[l]? = ι2[l]?) (hm : ∀ m v es, kc ≠ .mi m v es) : Kept ι ιc w w2 l k kc := by
 cases kc with
 | dead => cases k <;> trivial
 | am m' =>
  cases k with
  | am m => trivial
  | _ => simp [rnB, Kept] at hk
 | bx cs' =>
  cases k with
  | bx cs => exact ⟨by have := hk.1; rw [rnCs_len] at this; exact this, by rw [hi]; exact hk.2⟩
  | _ => simp [rnB, Kept] at hk
 | da r' v' sz' es' =>
  cases k with
  | da r v sz es =>
   rcases hk with hk | ⟨a1, a2, a3, a4, a5, a6⟩
   ·exact .inl hk
   ·exact .inr ⟨a1, a2, a3, a4, by rw [hi]; exact a5, a6⟩
  | _ => simp [rnB, Kept] at hk
 | mp v' es' =>
  cases k with
  | mp v es => exact ⟨by rw [hi]; exact hk.1, hk.2⟩
  | _ => simp [rnB, Kept] at hk
 | mi m v es => exact absurd rfl (hm m v es)
end Go.Ab

/-
  The priority queue, part a: heaps, plainly (no program in sight).
-/
namespace Go.Ab
open Go.Proofs
def ltK (K : List Int) (a b : Int) : Prop := K.getD a.toNat 0 < K.getD b.toNat 0 ∨ (K.getD a.toNat 0 = K.getD b.toNat 0 ∧ a < b)
instance (K : List Int) (a b : Int) : Decidable (ltK K a b) := by unfold ltK; infer_instance
def leK (K : List Int) (a b : Int) : Prop := ¬ ltK K b a
theorem leK_trans {K : List Int} {a b c : Int} (h1 : leK K a b) (h2 : leK K b c) : leK K a c := by unfold leK ltK at *; omega
abbrev at' (O : List Int) (p : Nat) : Int := O.getD p 0
structure Pre (K O : List Int) (p : Nat) : Prop where
 e1 : ∀ c, 0 < c → c < O.length → c ≠ p → (c - 1) / 2 ≠ p → leK K (at' O ((c - 1) / 2)) (at' O c)
 e2 : ∀ c, 0 < p → 0 < c → c < O.length → (c - 1) / 2 = p → leK K (at' O ((p - 1) / 2)) (at' O c)
def HO (K O : List Int) : Prop := ∀ c, 0 < c → c < O.length → leK K (at' O ((c - 1) / 2)) (at' O c)
def swp (O : List Int) (p q : Nat) : List Int := (O.set p (at' O q)).set q (at' O p)
theorem swp_len (O : List Int) (p q : Nat) : (swp O p q).length = O.length := by simp [swp]
theorem swp_at {O : List Int} {p q : Nat} (hp : p < O.length) (hq : q < O.length) (c : Nat) : at' (swp O p q) c = if c = q then at' O p else if c = p then at' O q else at' O c := by
 simp only [at', swp, List.getD_eq_getElem?_getD, List.getElem?_set, List.length_set]
 by_cases h1 : c = q
 ·subst h1; simp [hq]
 ·have h1' : ¬ q = c := fun h => h1 h.symm
  simp only [if_neg h1, if_neg h1']
  by_cases h2 : c = p
  ·subst h2; simp [hp]
  ·have h2' : ¬ p = c := fun h => h2 h.symm
   simp only [if_neg h2, if_neg h2']
theorem Pre.up {K O : List Int} {p : Nat} (h : Pre K O p) (hp0 : 0 < p) (hp : p < O.length) (_hlt : ltK K (at' O p) (at' O ((p - 1) / 2))) : Pre K (swp O p ((p - 1) / 2)) ((p - 1) / 2) := by
 have hq : (p - 1) / 2 < O.length := by omega
 have hsw := swp_at hp hq
 have hqp : (p - 1) / 2 ≠ p := by omega
 refine ⟨fun c c0 cl cq cpq => ?_, fun c q0 c0 cl cpq => ?_⟩
 ·rw [swp_len] at cl
  rw [hsw, hsw, if_neg cpq, if_neg cq]
  by_cases h1 : c = p
  ·exact absurd (by rw [h1]) cpq
  ·rw [if_neg h1]
   by_cases h2 : (c - 1) / 2 = p
   ·rw [if_pos h2]; exact h.e2 c hp0 c0 cl h2
   ·rw [if_neg h2]; exact h.e1 c c0 cl h1 h2
 ·rw [swp_len] at cl
  have hg : ((p - 1) / 2 - 1) / 2 ≠ (p - 1) / 2 := by omega
  have hg2 : ((p - 1) / 2 - 1) / 2 ≠ p := by omega
  have e0 : leK K (at' O (((p - 1) / 2 - 1) / 2)) (at' O ((p - 1) / 2)) := h.e1 ((p - 1) / 2) q0 hq hqp (by omega)
  rw [hsw, hsw, if_neg hg, if_neg hg2]
  by_cases h1 : c = (p - 1) / 2
  ·omega
  ·rw [if_neg h1]
   by_cases h2 : c = p
   ·rw [if_pos h2]; exact e0
   ·rw [if_neg h2]
    have := h.e1 c c0 cl h2 (by omega)
    rw [cpq] at this
    exact leK_trans e0 this
structure PreD (K O : List Int) (p : Nat) : Prop where
 pre : Pre K O p
 top : 0 < p → leK K (at' O ((p - 1) / 2)) (at' O p)
theorem PreD.done {K O : List Int} {p : Nat} (h : PreD K O p) (hk : ∀ c, 0 < c → c < O.length → (c - 1) / 2 = p → leK K (at' O p) (at' O c)) : HO K O := by
 intro c c0 cl
 by_cases h1 : c = p
 ·subst h1; exact h.top c0
 ·by_cases h2 : (c - 1) / 2 = p
  ·rw [h2]; exact hk c c0 cl h2
  ·exact h.pre.e1 c c0 cl h1 h2
end Go.Ab

/-
  The priority queue, part b: the contracts of before and swap.
-/
namespace Go.Ab
open Go.Proofs
theorem heap_start {P : Program} {f : Nat} {fn : Func} {af : AF} {args : List AV} {h : Hp} {R : AV → Hp → Prop} (hm : P.follows .mixedOrders = true) (hf : P.funcs[f]? = some fn) (hc : compF P fn = some af) (hl : args.length ≤ af.nt)
  (hv : ∀ Λ : Len, (∀ l, Λ l = (l.length : Int)) → ∀ K : AV → Hp → Prop, (∀ r h', R r h' → K r h') → vcH P Λ af args h K) : FnS P f args h R := fn_heap hm hf hc hl fun Λ h => hv Λ h _ fun _ _ h => h
end Go.Ab

/-
  Reservations, part f: the program's table: sums over the map.
-/
namespace Go.Ab
open Go.Proofs
def encM (r : Rq) : DV × DV := (.s (iD r.id), .g (encRq r))
abbrev rsvH (caps : List Int) (v : Nat) (m : List Rq) : Hp := [.bx [.d (intsD caps), .mp 1], .mp v (m.map encM)]
theorem clone_ok47 (P : Program) (hP : P = Try.prog) (r : Rq) (hl : r.arcs.length ≤ 1000000) : Ret P n_reserve_clone [rqA r] (rqA r) := by
 have hc := cloneInts_ok P hP r.arcs hl
 refine ret_start (hP ▸ mixed) (hP ▸ fn_reserve_clone) (hP ▸ c_reserve_clone) (Nat.le_of_ble_eq_true rfl) fun Λ Λo K hK => ?_
 clear hP
 obtain ⟨id, arcs, amt, setup, hold⟩ := r
 simp only [rqA, intsA, intsD] at *
 generalize arcs.map encI = al at *
 conv => cbv
 repeat' first | (refine call_r hc rfl rfl ?_; conv => cbv) | exact gu | exact trivial | refine And.intro ?_ ?_ | (intro hc; exact absurd hc (by decide)) | (intro hc; exfalso; omega) | (intro hc; (first | rw [wrap_small (by omega) (by omega)] at hc | rw [nI_eq] at hc | skip); try (conv => cbv))
 exact hK
theorem use1_ok (P : Program) (hP : P = Try.prog) (r : Rq) : Ret P n_reserve_Table_Use_1 [rqA r] (bA true) := by
 refine ret_start (hP ▸ mixed) (hP ▸ fn_reserve_Table_Use_1) (hP ▸ c_reserve_Table_Use_1) (Nat.le_of_ble_eq_true rfl) fun Λ Λo K hK => ?_
 clear hP
 obtain ⟨id, arcs, amt, setup, hold⟩ := r
 simp only [rqA, intsD] at *
 generalize arcs.map encI = al at *
 conv => cbv
 repeat' first | exact gu | exact trivial | refine And.intro ?_ ?_ | (intro hc; exact absurd hc (by decide)) | (intro hc; exfalso; omega) | (intro hc; (first | rw [wrap_small (by omega) (by omega)] at hc | rw [nI_eq] at hc | skip); try (conv => cbv))
 exact hK
theorem room1_ok (P : Program) (hP : P = Try.prog) (r : Rq) (p : Int) : FnS P n_reserve_Table_Room_1 [rqA r, .c (.ptr 0 0 0 0)] [.bx [.d (iD p)]] fun r' h' => r' = bA (decide (r.hold ≤ p)) ∧ h' = [.bx [.d (iD p)]] := by
 have h1 : FnS P n_reserve_Table_Room_1 [rqA r, .c (.ptr 0 0 0 0)] [.bx [.d (iD p)]] fun r' h' => ∃ h2, r' = bA (decide (r.hold ≤ p)) ∧ h' = [.bx [.d (iD p)]] ++ h2 := by
  refine heap_start (hP ▸ mixed) (hP ▸ fn_reserve_Table_Room_1) (hP ▸ c_reserve_Table_Room_1) (Nat.le_of_ble_eq_true rfl) fun Λ Λo K hK => ?_
  clear hP
  have yes : r.hold ≤ p → ∀ h2, K (bA true) ([.bx [.d (iD p)]] ++ h2) := fun h h2 => hK _ _ ⟨h2, by rw [decide_eq_true h], rfl⟩
  have no : ¬ r.hold ≤ p → ∀ h2, K (bA false) ([.bx [.d (iD p)]] ++ h2) := fun h h2 => hK _ _ ⟨h2, by rw [decide_eq_false h], rfl⟩
  clear hK
  obtain ⟨id, arcs, amt, setup, hold⟩ := r
  simp only [rqA, intsD] at *
  generalize arcs.map encI = al at *
  conv => cbv
  repeat' first | exact gu | exact trivial | refine And.intro ?_ ?_ | (intro hc; exact absurd hc (by decide)) | (intro hc; exfalso; omega) | (intro hc; (first | rw [wrap_small (by omega) (by omega)] at hc | rw [nI_eq] at hc | skip); try (conv => cbv))
  all_goals first | exact yes (by assumption) _ | exact no (by assumption) _
 refine (FnS.cut h1 ?_).mono ?_
 ·rintro r' h' ⟨h2, rfl, rfl⟩
  exact ⟨rfl, rfl⟩
 ·rintro r' h1 ⟨h2, ⟨h3, rfl, e⟩, hl⟩
  exact ⟨rfl, (List.append_inj e hl).1⟩
theorem thas_ok (P : Program) (hP : P = Try.prog) (caps : List Int) (v : Nat) (m : List Rq) (a : Int) (hc : caps.length ≤ 1000) : FnS P n_reserve_Table_has [.c (.ptr 0 0 0 0), iA a] (rsvH caps v m) fun r' h' => r' = bA (decide (0 ≤ a ∧ a < 2 * caps.length)) ∧ h' = rsvH caps v m := by
 refine heap_start (hP ▸ mixed) (hP ▸ fn_reserve_Table_has) (hP ▸ c_reserve_Table_has) (Nat.le_of_ble_eq_true rfl) fun Λ Λo K hK => ?_
 clear hP
 have yes : (0 ≤ a ∧ a < 2 * (caps.length : Int)) → K (bA true) (rsvH caps v m) := fun h => hK _ _ ⟨by rw [decide_eq_true h], rfl⟩
 have no : ¬ (0 ≤ a ∧ a < 2 * (caps.length : Int)) → K (bA false) (rsvH caps v m) := fun h => hK _ _ ⟨by rw [decide_eq_false h], rfl⟩
 clear hK
 simp only [rsvH, intsD] at *
 generalize clh : caps.map encI = cl at *
 have cln : Λ cl = caps.length := by rw [Λo, ← clh]; simp
 generalize m.map encM = ml at *
 conv => cbv
 repeat' first | exact gu | exact trivial | refine And.intro ?_ ?_ | (intro hc; exact absurd hc (by decide)) | (intro hc; exfalso; omega) | (intro hc; (first | rw [wrap_small (by omega) (by omega)] at hc | rw [nI_eq] at hc | skip); try (conv => cbv))
 all_goals first | exact yes (by omega) | exact no (by omega)
theorem perm_erase {α : Type} : ∀ {l : List α} {j : Nat} {x : α}, l[j]? = some x → (x :: l.eraseIdx j).Perm l := by
 intro l
 induction l with
 | nil => intro j x h; simp at h
 | cons y l ih =>
  intro j x h
  cases j with
  | zero => simp at h; subst h; simp
  | succ j =>
   simp only [List.getElem?_cons_succ] at h
   rw [List.eraseIdx_cons_succ]
   exact (List.Perm.swap y x _).trans ((ih h).cons y)
theorem map_erase {α β : Type} (f : α → β) : ∀ (l : List α) (j : Nat), (l.eraseIdx j).map f = (l.map f).eraseIdx j := by
 intro l
 induction l with
 | nil => intro j; rfl
 | cons y l ih => intro j; cases j with
  | zero => rfl
  | succ j => simp only [List.eraseIdx_cons_succ, List.map_cons, ih]
theorem sumR_perm {p : Rq → Bool} {a : Int} {l l' : List Rq} (h : l.Perm l') : sumR p a l = sumR p a l' := by
 induction h with
 | nil => rfl
 | cons x _ ih => simp only [sumR, List.map_cons, List.sum_cons] at *; omega
 | swap x y l => simp only [sumR, List.map_cons, List.sum_cons]; omega
 | trans _ _ h1 h2 => exact h1.trans h2
theorem sumU_ok (P : Program) (hP : P = Try.prog) (caps : List Int) (v : Nat) (m : List Rq) (a : Int) (hs : Sml m) :
    FnS P n_reserve_Table_sum [.c (.ptr 0 0 0 0), iA a, .c (.fn false n_reserve_Table_Use_1 [])] (rsvH caps v m) fun r' h' => r' = iA (sumR (fun _ => true) a m) ∧ h' = rsvH caps v m := by
  have hfo : FnOk P n_reserve_Table_Use_1 := hP ▸ ⟨_, fn_reserve_Table_Use_1, rfl, by decide⟩
  have h1 : FnS P n_reserve_Table_sum [.c (.ptr 0 0 0 0), iA a, .c (.fn false n_reserve_Table_Use_1 [])] (rsvH caps v m) fun r' h' => ∃ h2, r' = iA (sumR (fun _ => true) a m) ∧ h' = (rsvH caps v m) ++ h2 := by
    have hcl := fun r => use1_ok P hP r
    have hhas := fun l => contains_ok P hP l a
    refine heap_start (hP ▸ mixed) (hP ▸ fn_reserve_Table_sum) (hP ▸ c_reserve_Table_sum) (Nat.le_of_ble_eq_true rfl) fun Λ Λo K hK => ?_
    clear hP
    have leaf : ∀ b h2, b = sumR (fun _ => true) a m → K (iA b) ((rsvH caps v m) ++ h2) := fun b h2 e => hK _ _ ⟨h2, by rw [e], rfl⟩
    clear hK
    have hperm : ∀ l : List Rq, l.Perm m → sumR (fun _ => true) a l = sumR (fun _ => true) a m := fun l h => sumR_perm h
    have hsn := fun l r => sumR_snoc (fun _ => true) a l r
    have hbd : ∀ l r : List Rq, (l ++ r).Perm m → 0 ≤ sumR (fun _ => true) a l ∧ sumR (fun _ => true) a l ≤ 104857600000 := fun l r h => by
      have h2 : ∀ x ∈ l, 0 ≤ x.amt ∧ x.amt ≤ 1048576 := fun x hx => hs.1 x (h.mem_iff.1 (List.mem_append_left _ hx))
      have h3 := sumR_bd (p := fun _ => true) (a := a) h2
      have h4 := h.length_eq
      have h5 := hs.2
      simp only [List.length_append] at h4
      omega
    have hwt := fun r => @wtR_of (fun _ => true) a r
    have h0 : sumR (fun _ => true) a [] = 0 := rfl
    generalize sumR (fun _ => true) a = f at *
    generalize wtR (fun _ => true) a = g at *
    simp only [rsvH, intsD, intsA] at *
    generalize caps.map encI = cl at *
    generalize mlh : m.map encM = ml at *
    conv => cbv
    repeat' first | exact gu | exact trivial | refine And.intro ?_ ?_ | (intro hc; exact absurd hc (by decide)) | (intro hc; exfalso; omega) | (intro hc; (first | rw [wrap_small (by omega) (by omega)] at hc | rw [nI_eq] at hc | skip); try (conv => cbv))
    refine loop_up m.length (fun (s : Int × (DV × DV) × List (DV × DV)) => [(1, iA a), (2, .c (.fn false n_reserve_Table_Use_1 [])), (7, iA s.1), (14, .c (.it 2))])
      (fun s => [.bx [.d (.list false 1 cl), .mp 1], .mp v ml, .mi 1 v (s.2.1 :: s.2.2)])
      (fun k s => ∃ dn rs : List Rq, (dn ++ rs).Perm m ∧ s.2.2 = rs.map encM ∧ s.1 = f dn ∧ dn.length = k) (0, (.g [], .g []), ml) (Wk.ca) ⟨[], m, by simp, mlh.symm, h0.symm, rfl⟩ (fun k s h => by obtain ⟨dn, rs, h1, _, _, h2⟩ := h; have := h1.length_eq; simp at this; omega) ?_
    · rintro k ⟨tot, e0, rest⟩ Q' ⟨dn, rs, hpm, hrs, htot, hlen⟩ norm ex rt
      simp only at hrs htot
      have hb := hbd dn rs hpm
      rw [← htot] at hb
      have next : ∀ (j : Nat) (x : Rq) (rest' : List (DV × DV)), rs[j]? = some x → rest' = rest.eraseIdx j → ∃ dn' rs' : List Rq, (dn' ++ rs').Perm m ∧ rest' = rs'.map encM ∧ tot + g x = f dn' ∧ dn'.length = k + 1 := fun j x rest' hx hr => by
        refine ⟨dn ++ [x], rs.eraseIdx j, ?_, by rw [hr, hrs, map_erase], by rw [hsn, htot], by simp [hlen]⟩
        rw [List.append_assoc]
        exact ((perm_erase hx).append_left dn).trans hpm
      have hamt : ∀ (j : Nat) (x : Rq), rs[j]? = some x → 0 ≤ x.amt ∧ x.amt ≤ 1048576 := fun j x hx => hs.1 x (hpm.mem_iff.1 (List.mem_append_right _ (List.mem_of_getElem? hx)))
      have lf := fun (e : rest = []) h2 => leaf tot h2 (by
        have : rs = [] := by rw [hrs] at e; simpa using e
        subst this
        rw [List.append_nil] at hpm
        rw [htot]; exact hperm dn hpm)
      conv => cbv
      repeat' first | (refine ex _ _ _ ?_; (conv => cbv)) | (refine rt _ _ ?_; (conv => cbv)) | exact hfo | (intro (j : Nat) (kk : DV) (y : DV) (rest' : List (DV × DV)) hj hr'; obtain ⟨⟨xi, xa, xm, xs, xh⟩, hx, e⟩ := map_get' hrs.symm hj; simp only [encM, encRq, intsD, Prod.mk.injEq] at e; obtain ⟨rfl, rfl⟩ := e; have hclx := hcl ⟨xi, xa, xm, xs, xh⟩; have hhx := hhas xa; have nx := next j _ rest' hx hr'; have hax := hamt j _ hx; have hgx := hwt ⟨xi, xa, xm, xs, xh⟩; simp only [rqA, intsD] at hclx hgx hax; generalize hxe : xa.map encI = xl at *; (conv => cbv)) | (refine callv_fr [] hclx rfl rfl (by decide) (by repeat' first | exact trivial | refine And.intro ?_ ?_ | rfl) rfl rfl ?_; rintro r hc' ⟨_, rfl⟩; (conv => cbv)) | refine call_b hhx rfl rfl ?_ ?_ | exact gu | exact trivial | refine And.intro ?_ ?_ | (intro hc; exact absurd hc (by decide)) | (intro hc; exfalso; omega) | (intro hc; (first | rw [wrap_small (by omega) (by omega)] at hc | rw [nI_eq] at hc | skip); try (conv => cbv))
      · exact lf (by assumption) [_]
      all_goals
        obtain ⟨dn', rs', q1, q2, q3, q4⟩ := nx
        refine norm _ _ (_, _, _) ?_ (Wk.ca)
        refine ⟨dn', rs', q1, q2, ?_, q4⟩
        first
        | (have hm : a ∈ xa := of_decide_eq_true (by assumption)
           have hg := hgx.1 ⟨trivial, hm⟩
           simp only; omega)
        | (have hm : ¬ a ∈ xa := of_decide_eq_false (by assumption)
           have hg := hgx.2 (fun h => hm h.2)
           simp only; omega)
        | (have hg := hgx.2 (fun h => absurd h.1 (by simpa using hxp))
           simp only; omega)
  refine (FnS.cut h1 ?_).mono ?_
  · rintro r' h' ⟨h2, rfl, rfl⟩
    exact ⟨rfl, rfl⟩
  · rintro r' h1 ⟨h2, ⟨h3, rfl, e⟩, hl⟩
    exact ⟨rfl, (List.append_inj e hl).1⟩
theorem sumP_ok (P : Program) (hP : P = Try.prog) (caps : List Int) (v : Nat) (m : List Rq) (a : Int) (p : Int) (hs : Sml m) :
    FnS P n_reserve_Table_sum [.c (.ptr 0 0 0 0), iA a, .c (.fn false n_reserve_Table_Room_1 [.ptr 2 0 0 0])] (rsvH caps v m ++ [.bx [.d (iD p)]]) fun r' h' => r' = iA (sumR (fun r => decide (r.hold ≤ p)) a m) ∧ h' = rsvH caps v m ++ [.bx [.d (iD p)]] := by
  have hfo : FnOk P n_reserve_Table_Room_1 := hP ▸ ⟨_, fn_reserve_Table_Room_1, rfl, by decide⟩
  have h1 : FnS P n_reserve_Table_sum [.c (.ptr 0 0 0 0), iA a, .c (.fn false n_reserve_Table_Room_1 [.ptr 2 0 0 0])] (rsvH caps v m ++ [.bx [.d (iD p)]]) fun r' h' => ∃ h2, r' = iA (sumR (fun r => decide (r.hold ≤ p)) a m) ∧ h' = (rsvH caps v m ++ [.bx [.d (iD p)]]) ++ h2 := by
    have hcl := fun r => room1_ok P hP r p
    have hhas := fun l => contains_ok P hP l a
    refine heap_start (hP ▸ mixed) (hP ▸ fn_reserve_Table_sum) (hP ▸ c_reserve_Table_sum) (Nat.le_of_ble_eq_true rfl) fun Λ Λo K hK => ?_
    clear hP
    have leaf : ∀ b h2, b = sumR (fun r => decide (r.hold ≤ p)) a m → K (iA b) ((rsvH caps v m ++ [.bx [.d (iD p)]]) ++ h2) := fun b h2 e => hK _ _ ⟨h2, by rw [e], rfl⟩
    clear hK
    have hperm : ∀ l : List Rq, l.Perm m → sumR (fun r => decide (r.hold ≤ p)) a l = sumR (fun r => decide (r.hold ≤ p)) a m := fun l h => sumR_perm h
    have hsn := fun l r => sumR_snoc (fun r => decide (r.hold ≤ p)) a l r
    have hbd : ∀ l r : List Rq, (l ++ r).Perm m → 0 ≤ sumR (fun r => decide (r.hold ≤ p)) a l ∧ sumR (fun r => decide (r.hold ≤ p)) a l ≤ 104857600000 := fun l r h => by
      have h2 : ∀ x ∈ l, 0 ≤ x.amt ∧ x.amt ≤ 1048576 := fun x hx => hs.1 x (h.mem_iff.1 (List.mem_append_left _ hx))
      have h3 := sumR_bd (p := fun r => decide (r.hold ≤ p)) (a := a) h2
      have h4 := h.length_eq
      have h5 := hs.2
      simp only [List.length_append] at h4
      omega
    have hwt := fun r => @wtR_of (fun r => decide (r.hold ≤ p)) a r
    have h0 : sumR (fun r => decide (r.hold ≤ p)) a [] = 0 := rfl
    generalize sumR (fun r => decide (r.hold ≤ p)) a = f at *
    generalize wtR (fun r => decide (r.hold ≤ p)) a = g at *
    simp only [rsvH, intsD, intsA, List.cons_append, List.nil_append] at *
    generalize caps.map encI = cl at *
    generalize mlh : m.map encM = ml at *
    conv => cbv
    repeat' first | exact gu | exact trivial | refine And.intro ?_ ?_ | (intro hc; exact absurd hc (by decide)) | (intro hc; exfalso; omega) | (intro hc; (first | rw [wrap_small (by omega) (by omega)] at hc | rw [nI_eq] at hc | skip); try (conv => cbv))
    refine loop_up m.length (fun (s : Int × (DV × DV) × List (DV × DV)) => [(1, iA a), (2, .c (.fn false n_reserve_Table_Room_1 [.ptr 2 0 0 0])), (7, iA s.1), (14, .c (.it 3))])
      (fun s => [.bx [.d (.list false 1 cl), .mp 1], .mp v ml, .bx [.d (iD p)], .mi 1 v (s.2.1 :: s.2.2)])
      (fun k s => ∃ dn rs : List Rq, (dn ++ rs).Perm m ∧ s.2.2 = rs.map encM ∧ s.1 = f dn ∧ dn.length = k) (0, (.g [], .g []), ml) (Wk.ca) ⟨[], m, by simp, mlh.symm, h0.symm, rfl⟩ (fun k s h => by obtain ⟨dn, rs, h1, _, _, h2⟩ := h; have := h1.length_eq; simp at this; omega) ?_
    · rintro k ⟨tot, e0, rest⟩ Q' ⟨dn, rs, hpm, hrs, htot, hlen⟩ norm ex rt
      simp only at hrs htot
      have hb := hbd dn rs hpm
      rw [← htot] at hb
      have next : ∀ (j : Nat) (x : Rq) (rest' : List (DV × DV)), rs[j]? = some x → rest' = rest.eraseIdx j → ∃ dn' rs' : List Rq, (dn' ++ rs').Perm m ∧ rest' = rs'.map encM ∧ tot + g x = f dn' ∧ dn'.length = k + 1 := fun j x rest' hx hr => by
        refine ⟨dn ++ [x], rs.eraseIdx j, ?_, by rw [hr, hrs, map_erase], by rw [hsn, htot], by simp [hlen]⟩
        rw [List.append_assoc]
        exact ((perm_erase hx).append_left dn).trans hpm
      have hamt : ∀ (j : Nat) (x : Rq), rs[j]? = some x → 0 ≤ x.amt ∧ x.amt ≤ 1048576 := fun j x hx => hs.1 x (hpm.mem_iff.1 (List.mem_append_right _ (List.mem_of_getElem? hx)))
      have lf := fun (e : rest = []) h2 => leaf tot h2 (by
        have : rs = [] := by rw [hrs] at e; simpa using e
        subst this
        rw [List.append_nil] at hpm
        rw [htot]; exact hperm dn hpm)
      conv => cbv
      repeat' first | (refine ex _ _ _ ?_; (conv => cbv)) | (refine rt _ _ ?_; (conv => cbv)) | exact hfo | (intro (j : Nat) (kk : DV) (y : DV) (rest' : List (DV × DV)) hj hr'; obtain ⟨⟨xi, xa, xm, xs, xh⟩, hx, e⟩ := map_get' hrs.symm hj; simp only [encM, encRq, intsD, Prod.mk.injEq] at e; obtain ⟨rfl, rfl⟩ := e; have hclx := hcl ⟨xi, xa, xm, xs, xh⟩; have hhx := hhas xa; have nx := next j _ rest' hx hr'; have hax := hamt j _ hx; have hgx := hwt ⟨xi, xa, xm, xs, xh⟩; simp only [rqA, intsD] at hclx hgx hax; generalize hxe : xa.map encI = xl at *; by_cases hxp : xh ≤ p <;> (first | rw [decide_eq_true hxp] at hclx | rw [decide_eq_false hxp] at hclx) <;> (conv => cbv)) | (refine callv_fr [2] hclx rfl rfl (by decide) (by repeat' first | exact trivial | refine And.intro ?_ ?_ | rfl) rfl rfl ?_; rintro r hc' ⟨rfl, rfl⟩; (conv => cbv)) | refine call_b hhx rfl rfl ?_ ?_ | exact gu | exact trivial | refine And.intro ?_ ?_ | (intro hc; exact absurd hc (by decide)) | (intro hc; exfalso; omega) | (intro hc; (first | rw [wrap_small (by omega) (by omega)] at hc | rw [nI_eq] at hc | skip); try (conv => cbv))
      · exact lf (by assumption) [_]
      all_goals
        obtain ⟨dn', rs', q1, q2, q3, q4⟩ := nx
        refine norm _ _ (_, _, _) ?_ (Wk.ca)
        refine ⟨dn', rs', q1, q2, ?_, q4⟩
        first
        | (have hm : a ∈ xa := of_decide_eq_true (by assumption)
           have hg := hgx.1 ⟨decide_eq_true hxp, hm⟩
           simp only; omega)
        | (have hm : ¬ a ∈ xa := of_decide_eq_false (by assumption)
           have hg := hgx.2 (fun h => hm h.2)
           simp only; omega)
        | (have hg := hgx.2 (fun h => absurd h.1 (by simpa using hxp))
           simp only; omega)
  refine (FnS.cut h1 ?_).mono ?_
  · rintro r' h' ⟨h2, rfl, rfl⟩
    exact ⟨rfl, rfl⟩
  · rintro r' h1 ⟨h2, ⟨h3, rfl, e⟩, hl⟩
    exact ⟨rfl, (List.append_inj e hl).1⟩
end Go.Ab

