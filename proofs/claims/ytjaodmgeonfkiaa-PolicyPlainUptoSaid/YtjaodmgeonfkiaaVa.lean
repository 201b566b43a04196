/-
  Chapter 21, part a: policies.
-/
import Derived.Test.YtjaodmgeonfkiaaLh
namespace Go.Ab
open Go.Proofs

structure Pol where
  (node bind : Int) (list : List Seg)
instance : Inhabited Pol := ⟨⟨0, 0, []⟩⟩

def encPol (p : Pol) : List D := [iD p.node, iD p.bind, segsD p.list]
abbrev polsD (l : List Pol) : D := .list false 3 (l.map encPol)
abbrev polsA (l : List Pol) : AV := .c (.d (polsD l))
def polA (p : Pol) : AV := .agg [.d (iD p.node), .d (iD p.bind), .d (segsD p.list)]

/-- maps whose keys are pairs of numbers -/
abbrev Asc := List ((Int × Int) × DV)
def encE (e : (Int × Int) × DV) : DV × DV := (.g [iD e.1.1, iD e.1.2], e.2)
def pfind (k : Int × Int) : Asc → Nat → Option (Nat × DV)
  | [], _ => none
  | e :: r, i => if k = e.1 then some (i, e.2) else pfind k r (i + 1)

theorem eqc_pair (a b x y : Int) : eqc [.d (.int .i64 a), .d (.int .i64 b)] [.d (.int .i64 x), .d (.int .i64 y)] [(0, 0), (1, 0)] = some (decide ((a, b) = (x, y))) := by
  have e : eqc [.d (.int .i64 a), .d (.int .i64 b)] [.d (.int .i64 x), .d (.int .i64 y)] [(0, 0), (1, 0)] = some ((a == x) && ((b == y) && true)) := rfl
  rw [e]
  by_cases h1 : a = x
  · by_cases h2 : b = y
    · simp [h1, h2]
    · simp [h1, h2]
  · simp [h1]

theorem mfind_pairs (a b : Int) : ∀ (m : Asc) (i : Nat), mfind false 2 [(0, 0), (1, 0)] (.g [.int .i64 a, .int .i64 b]) (m.map encE) i = some (pfind (a, b) m i) := by
  intro m
  induction m with
  | nil => intro i; rfl
  | cons e r ih =>
    intro i
    obtain ⟨⟨x, y⟩, v⟩ := e
    have e1 : mfind false 2 [(0, 0), (1, 0)] (.g [.int .i64 a, .int .i64 b]) (List.map encE (((x, y), v) :: r)) i =
        (match eqc [.d (.int .i64 a), .d (.int .i64 b)] [.d (.int .i64 x), .d (.int .i64 y)] [(0, 0), (1, 0)] with
        | some true => some (some (i, v))
        | some false => mfind false 2 [(0, 0), (1, 0)] (.g [.int .i64 a, .int .i64 b]) (List.map encE r) (i + 1)
        | none => none) := rfl
    rw [e1, eqc_pair]
    simp only [pfind]
    by_cases h : (a, b) = (x, y)
    · rw [decide_eq_true h, if_pos h]
    · rw [decide_eq_false h, if_neg h]; exact ih (i + 1)

theorem vlk_pairs {a b : Int} {m : Asc} {ml : List (DV × DV)} {ok : Bool} {z : AV} {K : AV → Prop} (mlh : m.map encE = ml) (h0 : pfind (a, b) m 0 = none → K (lkR ok z false)) (h1 : ∀ i v, pfind (a, b) m 0 = some (i, v) → K (lkR ok (avDV v) true)) :
    ∀ r, mfind false 2 [(0, 0), (1, 0)] (.g [.int .i64 a, .int .i64 b]) ml 0 = r → vLk ok z K r := by
  intro r hr
  rw [← mlh, mfind_pairs] at hr
  subst hr
  cases hp : pfind (a, b) m 0 with
  | none => exact h0 hp
  | some p => exact h1 p.1 p.2 hp

theorem vup_pairs {a b : Int} {m : Asc} {ml : List (DV × DV)} {vd : DV} {K : List (DV × DV) → Prop} (mlh : m.map encE = ml) (h0 : pfind (a, b) m 0 = none → ∀ es', (m ++ [((a, b), vd)]).map encE = es' → K es') (h1 : ∀ i v, pfind (a, b) m 0 = some (i, v) → ∀ es', (m.set i ((a, b), vd)).map encE = es' → K es') :
    ∀ r, mfind false 2 [(0, 0), (1, 0)] (.g [.int .i64 a, .int .i64 b]) ml 0 = r → vUp ml (.g [.int .i64 a, .int .i64 b]) vd K r := by
  intro r hr
  have hm : mfind false 2 [(0, 0), (1, 0)] (.g [.int .i64 a, .int .i64 b]) ml 0 = some (pfind (a, b) m 0) := by rw [← mlh, mfind_pairs]
  rw [hm] at hr
  subst hr
  cases hp : pfind (a, b) m 0 with
  | none => intro es' he; exact h0 hp es' (by rw [he, ← mlh]; simp [encE])
  | some p => intro es' he; exact h1 p.1 p.2 hp es' (by rw [he, ← mlh, List.map_set]; rfl)

theorem map_eraseIdx {α β : Type} (f : α → β) : ∀ (l : List α) (i : Nat), (l.eraseIdx i).map f = (l.map f).eraseIdx i
  | [], _ => rfl
  | _ :: _, 0 => rfl
  | a :: l, i + 1 => by simp [map_eraseIdx f l i]

theorem vdel_pairs {a b : Int} {m : Asc} {ml : List (DV × DV)} {K0 : Prop} {K : List (DV × DV) → Prop} (mlh : m.map encE = ml) (h0 : pfind (a, b) m 0 = none → K0) (h1 : ∀ i v, pfind (a, b) m 0 = some (i, v) → ∀ es', (m.eraseIdx i).map encE = es' → K es') :
    ∀ r, mfind false 2 [(0, 0), (1, 0)] (.g [.int .i64 a, .int .i64 b]) ml 0 = r → vDel ml K0 K r := by
  intro r hr
  have hm : mfind false 2 [(0, 0), (1, 0)] (.g [.int .i64 a, .int .i64 b]) ml 0 = some (pfind (a, b) m 0) := by rw [← mlh, mfind_pairs]
  rw [hm] at hr
  subst hr
  cases hp : pfind (a, b) m 0 with
  | none => exact h0 hp
  | some p => intro es' he; exact h1 p.1 p.2 hp es' (by rw [he, ← mlh]; exact map_eraseIdx encE m p.1)

theorem pfind_none {k : Int × Int} {m : Asc} : ∀ {i : Nat}, pfind k m i = none ↔ k ∉ m.map (·.1) := by
  induction m with
  | nil => intro i; simp [pfind]
  | cons e r ih =>
    intro i
    simp only [pfind, List.map_cons, List.mem_cons, not_or]
    split
    · rename_i h; simp [h]
    · rename_i h; rw [ih]; simp [h]

theorem pfind_some {k : Int × Int} {m : Asc} {v : DV} : ∀ {i j : Nat}, pfind k m i = some (j, v) → i ≤ j ∧ m[j - i]? = some (k, v) := by
  induction m with
  | nil => intro i j h; simp [pfind] at h
  | cons e r ih =>
    intro i j h
    simp only [pfind] at h
    split at h
    · rename_i hk
      cases h
      exact ⟨Nat.le_refl _, by rw [hk]; simp⟩
    · obtain ⟨h1, h2⟩ := ih h
      refine ⟨by omega, ?_⟩
      rw [show j - i = (j - (i + 1)) + 1 by omega]; simpa using h2

/-- a set of pairs -/
theorem vlk_set {a b : Int} {m : Asc} {ml : List (DV × DV)} {z : AV} {K : AV → Prop} (mlh : m.map encE = ml) (hall : ∀ e ∈ m, e.2 = .s (.bool true)) (h0 : (a, b) ∉ m.map (·.1) → K z) (h1 : (a, b) ∈ m.map (·.1) → K (.c (.d (.bool true)))) :
    ∀ r, mfind false 2 [(0, 0), (1, 0)] (.g [.int .i64 a, .int .i64 b]) ml 0 = r → vLk false z K r := by
  refine vlk_pairs mlh (fun h => h0 (pfind_none.1 h)) fun i v h => ?_
  have hm := List.mem_of_getElem? (pfind_some h).2
  have := hall _ hm
  simp only at this
  subst this
  exact h1 (List.mem_map.2 ⟨_, hm, rfl⟩)

theorem vup_set {a b : Int} {m : Asc} {ml : List (DV × DV)} {vd : DV} {K : List (DV × DV) → Prop} (mlh : m.map encE = ml) (hn : (a, b) ∉ m.map (·.1)) (h0 : ∀ es', (m ++ [((a, b), vd)]).map encE = es' → K es') :
    ∀ r, mfind false 2 [(0, 0), (1, 0)] (.g [.int .i64 a, .int .i64 b]) ml 0 = r → vUp ml (.g [.int .i64 a, .int .i64 b]) vd K r :=
  vup_pairs mlh (fun _ => h0) fun i v h => absurd (List.mem_map.2 ⟨_, List.mem_of_getElem? (pfind_some h).2, rfl⟩) hn

theorem segments_ok (P : Program) (hP : P = Try.prog) (t : Top) (l : List Seg) (h : (t.links.length : Int) ≤ 256) : Ret P n_policy_segments [topA t, segsA l] (bA (l.all (segB t))) := by
  have hg := fun s => gseg_ok P hP t s h
  refine ret_start (hP ▸ mixed) (hP ▸ fn_policy_segments) (hP ▸ c_policy_segments) (Nat.le_of_ble_eq_true rfl) fun Λ Λo K hK => ?_
  clear hP
  have yes : (∀ s ∈ l, segB t s = true) → K (bA true) := fun h => by rw [List.all_eq_true.2 h] at hK; exact hK
  have no : ∀ s ∈ l, segB t s = false → K (bA false) := fun s hs h => by
    rw [show l.all (segB t) = false by rw [List.all_eq_false]; exact ⟨s, hs, by rw [h]; decide⟩] at hK; exact hK
  clear hK
  generalize segB t = sb at *
  simp only [segsA, segsD, segA] at *
  generalize slh : List.map encSeg l = sl at *
  have sln : Λ sl = l.length := by rw [Λo, ← slh]; simp
  obtain ⟨nodes, ov, links⟩ := t
  simp only [topA, boolsD, linksD] at *
  generalize hol : ov.map encB = ol at *
  generalize hll : links.map encLk = ll at *
  have hlo : Λ ol = ov.length := by rw [Λo, ← hol]; simp
  have hls : Λ ll = links.length := by rw [Λo, ← hll]; simp
  conv => cbv
  repeat' first | (intro (_ : Unit); first | omega | rfl | exact ⟨rfl, by omega⟩ | (simp only [nI_eq]; omega) | ((repeat' first | rfl | omega | refine And.intro ?_ ?_ | (simp only [nI_eq]; omega) | exact Nat.le_of_ble_eq_true rfl); done)) | exact trivial | refine And.intro ?_ ?_ | (intro hc; exact absurd hc (by decide)) | (intro hc; exfalso; omega) | (intro hc; (first | rw [wrap_small (by omega) (by omega)] at hc | rw [nI_eq] at hc | skip); try (conv => cbv))
  refine loop_up l.length (fun (i : Int) => [(2, .c (.ptr 0 0 0 0)), (7, .c (.d (.list false 2 sl))), (8, iA (Λ sl)), (9, iA i)]) (fun _ => [.bx [.d (iD nodes), .d (.list false 1 ol), .d (.list false 7 ll)]])
    (fun k i => i = k ∧ k ≤ l.length ∧ ∀ s ∈ l.take k, sb s = true) 0 (Wk.cut ⟨_, rfl⟩ (Nat.zero_le _) rfl (by repeat' first | exact trivial | refine And.intro ?_ ?_ | rfl)) ⟨rfl, by omega, by simp⟩ (fun k s h => h.2.1) ?_
  rintro k i Q' ⟨hi, hk, hok⟩ norm ex rt
  by_cases hlt : k < l.length
  · obtain ⟨x, hx⟩ : ∃ x, l[k]? = some x := ⟨_, List.getElem?_eq_getElem hlt⟩
    have hxa := elt_at slh hi hx
    have hxm := List.mem_of_getElem? hx
    have hgx := hg x
    obtain ⟨xk, xn⟩ := x
    simp only [encSeg] at hxa hgx
    conv => cbv
    repeat' first | (refine ex _ _ _ ?_; (conv => cbv)) | (refine rt _ _ ?_; (conv => cbv)) | (intro e he; cases Option.some.inj (he.symm.trans hxa); (conv => cbv)) | refine call_b hgx rfl rfl ?_ ?_ | (intro (_ : Unit); first | omega | rfl | exact ⟨rfl, by omega⟩ | (simp only [nI_eq]; omega) | ((repeat' first | rfl | omega | refine And.intro ?_ ?_ | (simp only [nI_eq]; omega) | exact Nat.le_of_ble_eq_true rfl); done)) | exact trivial | refine And.intro ?_ ?_ | (intro hc; exact absurd hc (by decide)) | (intro hc; exfalso; omega) | (intro hc; (first | rw [wrap_small (by omega) (by omega)] at hc | rw [nI_eq] at hc | skip); try (conv => cbv))
    · refine norm _ _ _ ?_ (Wk.cut ⟨_, rfl⟩ (Nat.zero_le _) rfl (by repeat' first | exact trivial | refine And.intro ?_ ?_ | rfl))
      refine ⟨by omega, by omega, fun s hs => ?_⟩
      rcases (mem_take_succ hx).1 hs with h | h
      · exact hok s h
      · rw [h]; assumption
    · exact no _ hxm (by assumption)
  · conv => cbv
    repeat' first | (refine ex _ _ _ ?_; (conv => cbv)) | (refine rt _ _ ?_; (conv => cbv)) | (intro (_ : Unit); first | omega | rfl | exact ⟨rfl, by omega⟩ | (simp only [nI_eq]; omega) | ((repeat' first | rfl | omega | refine And.intro ?_ ?_ | (simp only [nI_eq]; omega) | exact Nat.le_of_ble_eq_true rfl); done)) | exact trivial | refine And.intro ?_ ?_ | (intro hc; exact absurd hc (by decide)) | (intro hc; exfalso; omega) | (intro hc; (first | rw [wrap_small (by omega) (by omega)] at hc | rw [nI_eq] at hc | skip); try (conv => cbv))
    refine yes fun s hs => hok s ?_
    rw [List.take_of_length_le (by omega)]; exact hs

theorem rproper_ok (P : Program) (hP : P = Try.prog) (t : Top) (l : List Seg) (hv : validT t = true) : Ret P n_ref21_proper [topA t, segsA l] (bA (l.all (segB t))) := by
  have hg : ∀ s, Ret P n_ref18_Valid [topA t, segA s] (bA (segB t s)) := fun s => by have := rseg_ok P hP t s; rw [hv, Bool.true_and] at this; exact this
  refine ret_start (hP ▸ mixed) (hP ▸ fn_ref21_proper) (hP ▸ c_ref21_proper) (Nat.le_of_ble_eq_true rfl) fun Λ Λo K hK => ?_
  clear hP hv
  have yes : (∀ s ∈ l, segB t s = true) → K (bA true) := fun h => by rw [List.all_eq_true.2 h] at hK; exact hK
  have no : ∀ s ∈ l, segB t s = false → K (bA false) := fun s hs h => by
    rw [show l.all (segB t) = false by rw [List.all_eq_false]; exact ⟨s, hs, by rw [h]; decide⟩] at hK; exact hK
  clear hK
  generalize segB t = sb at *
  simp only [segsA, segsD, segA] at *
  generalize slh : List.map encSeg l = sl at *
  have sln : Λ sl = l.length := by rw [Λo, ← slh]; simp
  obtain ⟨nodes, ov, links⟩ := t
  simp only [topA, boolsD, linksD] at *
  generalize hol : ov.map encB = ol at *
  generalize hll : links.map encLk = ll at *
  have hlo : Λ ol = ov.length := by rw [Λo, ← hol]; simp
  have hls : Λ ll = links.length := by rw [Λo, ← hll]; simp
  conv => cbv
  repeat' first | (intro (_ : Unit); first | omega | rfl | exact ⟨rfl, by omega⟩ | (simp only [nI_eq]; omega) | ((repeat' first | rfl | omega | refine And.intro ?_ ?_ | (simp only [nI_eq]; omega) | exact Nat.le_of_ble_eq_true rfl); done)) | exact trivial | refine And.intro ?_ ?_ | (intro hc; exact absurd hc (by decide)) | (intro hc; exfalso; omega) | (intro hc; (first | rw [wrap_small (by omega) (by omega)] at hc | rw [nI_eq] at hc | skip); try (conv => cbv))
  refine loop_up l.length (fun (i : Int) => [(1, .c (.d (.list false 2 sl))), (2, .c (.ptr 0 0 0 0)), (5, iA i)]) (fun _ => [.bx [.d (iD nodes), .d (.list false 1 ol), .d (.list false 7 ll)]])
    (fun k i => i = k ∧ k ≤ l.length ∧ ∀ s ∈ l.take k, sb s = true) 0 (Wk.cut ⟨_, rfl⟩ (Nat.zero_le _) rfl (by repeat' first | exact trivial | refine And.intro ?_ ?_ | rfl)) ⟨rfl, by omega, by simp⟩ (fun k s h => h.2.1) ?_
  rintro k i Q' ⟨hi, hk, hok⟩ norm ex rt
  by_cases hlt : k < l.length
  · obtain ⟨x, hx⟩ : ∃ x, l[k]? = some x := ⟨_, List.getElem?_eq_getElem hlt⟩
    have hxa := elt_at slh hi hx
    have hxm := List.mem_of_getElem? hx
    have hgx := hg x
    obtain ⟨xk, xn⟩ := x
    simp only [encSeg] at hxa hgx
    conv => cbv
    repeat' first | (refine ex _ _ _ ?_; (conv => cbv)) | (refine rt _ _ ?_; (conv => cbv)) | (intro e he; cases Option.some.inj (he.symm.trans hxa); (conv => cbv)) | refine call_b hgx rfl rfl ?_ ?_ | (intro (_ : Unit); first | omega | rfl | exact ⟨rfl, by omega⟩ | (simp only [nI_eq]; omega) | ((repeat' first | rfl | omega | refine And.intro ?_ ?_ | (simp only [nI_eq]; omega) | exact Nat.le_of_ble_eq_true rfl); done)) | exact trivial | refine And.intro ?_ ?_ | (intro hc; exact absurd hc (by decide)) | (intro hc; exfalso; omega) | (intro hc; (first | rw [wrap_small (by omega) (by omega)] at hc | rw [nI_eq] at hc | skip); try (conv => cbv))
    · refine norm _ _ _ ?_ (Wk.cut ⟨_, rfl⟩ (Nat.zero_le _) rfl (by repeat' first | exact trivial | refine And.intro ?_ ?_ | rfl))
      refine ⟨by omega, by omega, fun s hs => ?_⟩
      rcases (mem_take_succ hx).1 hs with h | h
      · exact hok s h
      · rw [h]; assumption
    · exact no _ hxm (by assumption)
  · conv => cbv
    repeat' first | (refine ex _ _ _ ?_; (conv => cbv)) | (refine rt _ _ ?_; (conv => cbv)) | (intro (_ : Unit); first | omega | rfl | exact ⟨rfl, by omega⟩ | (simp only [nI_eq]; omega) | ((repeat' first | rfl | omega | refine And.intro ?_ ?_ | (simp only [nI_eq]; omega) | exact Nat.le_of_ble_eq_true rfl); done)) | exact trivial | refine And.intro ?_ ?_ | (intro hc; exact absurd hc (by decide)) | (intro hc; exfalso; omega) | (intro hc; (first | rw [wrap_small (by omega) (by omega)] at hc | rw [nI_eq] at hc | skip); try (conv => cbv))
    refine yes fun s hs => hok s ?_
    rw [List.take_of_length_le (by omega)]; exact hs

end Go.Ab
