/-
  Merged texts, part m.
-/
import Derived.Test.YtmcjlpmlnfbjaaaZl
/-
  Updates, part e: the reference's changed IDs and loads.
-/
namespace Go.Ab
open Go.Proofs
theorem ins_eq {n : Int} : ∀ {l : List Int} {k : Nat}, (∀ y ∈ l.take k, y < n) → l[k]? = some n → insS l n = l := by
 intro l
 induction l with
 | nil => intro k _ h; simp at h
 | cons z l ih =>
  intro k hlt h
  cases k with
  | zero => simp at h; subst h; rw [insS, if_neg (by omega), if_pos rfl]
  | succ k =>
   simp only [List.getElem?_cons_succ, List.take_succ_cons, List.mem_cons] at h hlt
   rw [insS, if_pos (hlt z (.inl rfl)), ih (fun y hy => hlt y (.inr hy)) h]
theorem ins_at {n : Int} : ∀ {l : List Int} {k : Nat}, (∀ y ∈ l.take k, y < n) → (∀ x, l[k]? = some x → n < x) → k ≤ l.length → insS l n = l.take k ++ ([n] ++ l.drop k) := by
 intro l
 induction l with
 | nil => intro k _ h hk; simp only [List.length_nil, Nat.le_zero] at hk; subst hk; rfl
 | cons z l ih =>
  intro k hlt h hk
  cases k with
  | zero => have := h z rfl; simp only [List.take_zero, List.drop_zero, List.nil_append, List.cons_append]; rw [insS, if_neg (by omega), if_neg (by omega)]
  | succ k =>
   simp only [List.getElem?_cons_succ, List.take_succ_cons, List.mem_cons, List.length_cons, List.drop_succ_cons, List.cons_append] at h hlt hk ⊢
   rw [insS, if_pos (hlt z (.inl rfl)), ih (fun y hy => hlt y (.inr hy)) h (by omega)]
   rfl
theorem rinsert_ok (P : Program) (hP : P = Try.prog) (l : List Int) (n : Int) (hl : l.length ≤ 1000000) : Ret P n_ref48_insert [intsA l, iA n] (intsA (insS l n)) := by
 refine ret_start (hP ▸ mixed) (hP ▸ fn_ref48_insert) (hP ▸ c_ref48_insert) (Nat.le_of_ble_eq_true rfl) fun Λ Λo K hK => ?_
 clear hP
 have leaf : ∀ r, r = (insS l n).map encI → K (.c (.d (.list false 1 r))) := fun r h => by rw [h]; exact hK
 clear hK
 simp only [intsA, intsD] at *
 generalize llh : List.map encI l = ll at *
 have lln : Λ ll = l.length := by rw [Λo, ← llh]; simp
 conv => cbv
 repeat' first | exact gu | exact trivial | refine And.intro ?_ ?_ | (intro hc; exact absurd hc (by decide)) | (intro hc; exfalso; omega) | (intro hc; (first | rw [wrap_small (by omega) (by omega)] at hc | rw [nI_eq] at hc | skip); try (conv => cbv))
 refine loop_upx l.length (fun i : Int => [(0, .c (.d (.list false 1 ll))), (1, iA n), (5, iA i)]) (fun _ => []) (fun k i => i = k ∧ k ≤ l.length ∧ ∀ y ∈ l.take k, y < n) 0 0
  (fun (i : Int) => [(0, .c (.d (.list false 1 ll))), (1, iA n), (5, iA i)]) (fun _ => []) (fun i => ∃ k : Nat, i = k ∧ k ≤ l.length ∧ (∀ y ∈ l.take k, y < n) ∧ ∀ x, l[k]? = some x → n ≤ x) (Wk.cw) ⟨rfl, by omega, by simp⟩ (fun k s h => h.2.1) ?_ ?_
 ·rintro k i Q' ⟨hi, hk, hlt⟩ norm jn ex rt
  by_cases hkl : k < l.length
  ·obtain ⟨x, hx⟩ : ∃ x, l[k]? = some x := ⟨_, List.getElem?_eq_getElem hkl⟩
   have hxa := elt_at llh hi hx
   conv => cbv
   repeat' first | (intro e he; cases Option.some.inj (he.symm.trans hxa); (conv => cbv)) | exact gu | exact trivial | refine And.intro ?_ ?_ | (intro hc; exact absurd hc (by decide)) | (intro hc; exfalso; omega) | (intro hc; (first | rw [wrap_small (by omega) (by omega)] at hc | rw [nI_eq] at hc | skip); try (conv => cbv))
   ·refine norm _ _ _ ?_ (Wk.cw)
    refine ⟨by omega, by omega, fun y hy => ?_⟩
    rcases (mem_take_succ hx).1 hy with h | h
    ·exact hlt y h
    ·omega
   ·refine jn _ _ _ ⟨k, hi, hk, hlt, fun z hz => ?_⟩ (Wk.cw)
    rw [hx] at hz; cases hz; omega
  ·conv => cbv
   repeat' first | exact gu | exact trivial | refine And.intro ?_ ?_ | (intro hc; exact absurd hc (by decide)) | (intro hc; exfalso; omega) | (intro hc; (first | rw [wrap_small (by omega) (by omega)] at hc | rw [nI_eq] at hc | skip); try (conv => cbv))
   exact jn _ _ _ ⟨k, hi, hk, hlt, fun z hz => by have := get_lt hz; omega⟩ (Wk.cw)
 ·rintro i ⟨k, hi, hk, hlt, hge⟩
  have ik : i.toNat = k := by omega
  obtain ⟨tk, htk⟩ : ∃ tk, tk = ll.take i.toNat := ⟨_, rfl⟩
  obtain ⟨dk, hdk⟩ : ∃ dk, dk = ll.drop i.toNat := ⟨_, rfl⟩
  have lll : ll.length = l.length := by rw [← llh]; simp
  have tkl : tk.length = k := by rw [htk, List.length_take]; omega
  have dkl : dk.length = l.length - k := by rw [hdk, List.length_drop]; omega
  obtain ⟨e1, he1⟩ : ∃ e1, e1 = [] ++ tk := ⟨_, rfl⟩
  obtain ⟨n1, hn1⟩ : ∃ n1, n1 = 0 + tk.length := ⟨_, rfl⟩
  obtain ⟨e2, he2⟩ : ∃ e2, e2 = e1 ++ [[iD n]] := ⟨_, rfl⟩
  obtain ⟨n2, hn2⟩ : ∃ n2, n2 = n1 + 1 := ⟨_, rfl⟩
  obtain ⟨e3, he3⟩ : ∃ e3, e3 = e2 ++ dk := ⟨_, rfl⟩
  obtain ⟨n3, hn3⟩ : ∃ n3, n3 = n2 + dk.length := ⟨_, rfl⟩
  have el1 : e1.length = n1 := by rw [he1, List.length_append, List.length_nil]; omega
  have el2 : e2.length = n2 := by rw [he2, List.length_append]; simp; omega
  have el3 : e3.length = n3 := by rw [he3, List.length_append]; omega
  have fin : ∀ y, y = List.take n3 (List.drop 0 e3) → (∀ x, l[k]? = some x → n < x) → K (.c (.d (.list false 1 y))) := fun y hy h => leaf _ (by
   rw [hy, List.drop_zero, List.take_of_length_le (by omega), ins_at hlt h hk, List.map_append, List.map_append, List.map_take, List.map_drop, llh, he3, he2, he1, htk, hdk, ik]
   simp [encI])
  by_cases hkl : k < l.length
  ·obtain ⟨x, hx⟩ : ∃ x, l[k]? = some x := ⟨_, List.getElem?_eq_getElem hkl⟩
   have hxa := elt_at llh hi hx
   have hge := hge x hx
   conv => cbv
   repeat' first | (intro e he; cases Option.some.inj (he.symm.trans hxa); (conv => cbv)) | (intro (z : List (List D)) hz; first | (refine (fun (hq : tk = z) => ?_) (htk.trans hz.symm); subst hq; (conv => cbv)) | (refine (fun (hq : dk = z) => ?_) (hdk.trans hz.symm); subst hq; (conv => cbv))) | (intro (m : Nat) (r : Bool) (y : List (List D)) hm hr hy; refine (fun (hz : n1 = m) (hz2 : e1 = y) => ?_) (by first | omega | (simp only [List.length_cons, List.length_nil] at hm; omega)) (by first | (rw [hy, List.drop_zero, List.take_of_length_le (by omega)]; exact he1) | (rw [hy]; exact he1)); subst hz; subst hz2; (conv => cbv)) | (intro (m : Nat) (r : Bool) (y : List (List D)) hm hr hy; refine (fun (hz : n2 = m) (hz2 : e2 = y) => ?_) (by first | omega | (simp only [List.length_cons, List.length_nil] at hm; omega)) (by first | (rw [hy, List.drop_zero, List.take_of_length_le (by omega)]; exact he2) | (rw [hy]; exact he2)); subst hz; subst hz2; (conv => cbv)) | (intro (m : Nat) (r : Bool) (y : List (List D)) hm hr hy; refine (fun (hz : n3 = m) (hz2 : e3 = y) => ?_) (by first | omega | (simp only [List.length_cons, List.length_nil] at hm; omega)) (by first | (rw [hy, List.drop_zero, List.take_of_length_le (by omega)]; exact he3) | (rw [hy]; exact he3)); subst hz; subst hz2; (conv => cbv)) | exact gu | exact trivial | refine And.intro ?_ ?_ | (intro hc; exact absurd hc (by decide)) | (intro hc; exfalso; omega) | (intro hc; (first | rw [wrap_small (by omega) (by omega)] at hc | rw [nI_eq] at hc | skip); try (conv => cbv))
   ·refine leaf _ ?_
    have hc : x = n := by assumption
    rw [ins_eq hlt (by rw [hx, hc]), llh]
   ·exact fin _ (by assumption) fun z hz => by rw [hx] at hz; cases hz; omega
  ·conv => cbv
   repeat' first | (intro (z : List (List D)) hz; first | (refine (fun (hq : tk = z) => ?_) (htk.trans hz.symm); subst hq; (conv => cbv)) | (refine (fun (hq : dk = z) => ?_) (hdk.trans hz.symm); subst hq; (conv => cbv))) | (intro (m : Nat) (r : Bool) (y : List (List D)) hm hr hy; refine (fun (hz : n1 = m) (hz2 : e1 = y) => ?_) (by first | omega | (simp only [List.length_cons, List.length_nil] at hm; omega)) (by first | (rw [hy, List.drop_zero, List.take_of_length_le (by omega)]; exact he1) | (rw [hy]; exact he1)); subst hz; subst hz2; (conv => cbv)) | (intro (m : Nat) (r : Bool) (y : List (List D)) hm hr hy; refine (fun (hz : n2 = m) (hz2 : e2 = y) => ?_) (by first | omega | (simp only [List.length_cons, List.length_nil] at hm; omega)) (by first | (rw [hy, List.drop_zero, List.take_of_length_le (by omega)]; exact he2) | (rw [hy]; exact he2)); subst hz; subst hz2; (conv => cbv)) | (intro (m : Nat) (r : Bool) (y : List (List D)) hm hr hy; refine (fun (hz : n3 = m) (hz2 : e3 = y) => ?_) (by first | omega | (simp only [List.length_cons, List.length_nil] at hm; omega)) (by first | (rw [hy, List.drop_zero, List.take_of_length_le (by omega)]; exact he3) | (rw [hy]; exact he3)); subst hz; subst hz2; (conv => cbv)) | exact gu | exact trivial | refine And.intro ?_ ?_ | (intro hc; exact absurd hc (by decide)) | (intro hc; exfalso; omega) | (intro hc; (first | rw [wrap_small (by omega) (by omega)] at hc | rw [nI_eq] at hc | skip); try (conv => cbv))
   exact fin _ (by assumption) fun z hz => by have := get_lt hz; omega
theorem ins_len (n : Int) : ∀ l : List Int, (insS l n).length ≤ l.length + 1 := by
 intro l
 induction l with
 | nil => simp [insS]
 | cons x l ih =>
  rw [insS]
  split
  ·simp only [List.length_cons]; omega
  ·split <;> simp
theorem fold_len {p : Int → Bool} : ∀ (l s : List Int), (l.foldl (fun l i => if p i = true then l else insS l i) s).length ≤ s.length + l.length := by
 intro l
 induction l with
 | nil => intro s; simp
 | cons x l ih =>
  intro s
  rw [List.foldl_cons]
  have h2 := ins_len x s
  simp only [List.length_cons]
  by_cases hp : p x = true
  ·rw [if_pos hp]; have h1 := ih s; omega
  ·rw [if_neg hp]; have h1 := ih (insS s x); omega
theorem rchanged_ok (P : Program) (hP : P = Try.prog) (a b : List Tn) : Ret P n_ref48_Changed [tnsA a, tnsA b] (intsA (changedS a b)) := by
 have hna := rnamed_ok P hP a
 have hnb := rnamed_ok P hP b
 have heq := fun id => requal_ok P hP a b id
 have hin := fun l n => rinsert_ok P hP l n
 refine ret_start (hP ▸ mixed) (hP ▸ fn_ref48_Changed) (hP ▸ c_ref48_Changed) (Nat.le_of_ble_eq_true rfl) fun Λ Λo K hK => ?_
 clear hP
 have no : ¬ (namedS a = true ∧ namedS b = true) → K (.c (.d (.list false 1 []))) := fun h => by rw [changedS, if_neg h] at hK; exact hK
 have yes : namedS a = true → namedS b = true → ∀ r, r = (chS a b).map encI → K (.c (.d (.list false 1 r))) := fun h1 h2 r h => by rw [changedS, if_pos ⟨h1, h2⟩] at hK; rw [h]; exact hK
 clear hK
 cases h1 : namedS a with
 | false =>
  rw [h1] at hna
  have no2 := no (by simp [h1])
  simp only [tnsA, tnsD, intsA, intsD] at *
  generalize a.map encTn = al at *
  generalize b.map encTn = bl at *
  conv => cbv
  repeat' first | refine call_b hna rfl rfl ?_ ?_ | exact gu | exact trivial | refine And.intro ?_ ?_ | (intro hc; exact absurd hc (by decide)) | (intro hc; exfalso; omega) | (intro hc; (first | rw [wrap_small (by omega) (by omega)] at hc | rw [nI_eq] at hc | skip); try (conv => cbv))
  exact no2
 | true =>
  cases h2 : namedS b with
  | false =>
   rw [h1] at hna
   rw [h2] at hnb
   have no2 := no (by simp [h2])
   simp only [tnsA, tnsD, intsA, intsD] at *
   generalize a.map encTn = al at *
   generalize b.map encTn = bl at *
   conv => cbv
   repeat' first | refine call_b hna rfl rfl ?_ ?_ | refine call_b hnb rfl rfl ?_ ?_ | exact gu | exact trivial | refine And.intro ?_ ?_ | (intro hc; exact absurd hc (by decide)) | (intro hc; exfalso; omega) | (intro hc; (first | rw [wrap_small (by omega) (by omega)] at hc | rw [nI_eq] at hc | skip); try (conv => cbv))
   exact no2
  | true =>
   rw [h1] at hna
   rw [h2] at hnb
   have yes2 := yes h1 h2
   have l1 := (namedS_spec.1 h1).2
   have l2 := (namedS_spec.1 h2).2
   clear no yes
   obtain ⟨F, hF⟩ : ∃ F : List Tn → List Int, F = fun l => (l.map (·.id)).foldl (fun l i => if eqS a b i = true then l else insS l i) [] := ⟨_, rfl⟩
   have hF0 : F [] = [] := by rw [hF]; rfl
   have hFs : ∀ l x, F (l ++ [x]) = if eqS a b x.id = true then F l else insS (F l) x.id := fun l x => by rw [hF]; simp
   have hFl : ∀ k, (F ((a ++ b).take k)).length ≤ k := fun k => by
    have := fold_len (p := fun i => eqS a b i) (((a ++ b).take k).map (·.id)) []
    rw [hF]; simp only [List.length_map, List.length_take, List.length_nil] at this ⊢; omega
   have yes2 : ∀ r, r = (F (a ++ b)).map encI → K (.c (.d (.list false 1 r))) := fun r h => yes2 r (by rw [h, hF]; rfl)
   clear hF h1 h2
   generalize eqS a b = eq at *
   simp only [tnsA, tnsD, intsA, intsD] at *
   obtain ⟨abl, habl⟩ : ∃ abl, (a ++ b).map encTn = abl := ⟨_, rfl⟩
   have hae : abl = a.map encTn ++ b.map encTn := by rw [← habl, List.map_append]
   generalize alh : a.map encTn = al at *
   generalize blh : b.map encTn = bl at *
   have al1 : al.length ≤ 12 := by rw [← alh, List.length_map]; exact l1
   have bl1 : bl.length ≤ 12 := by rw [← blh, List.length_map]; exact l2
   obtain ⟨e1, he1⟩ : ∃ e1, e1 = [] ++ al := ⟨_, rfl⟩
   obtain ⟨n1, hn1⟩ : ∃ n1, n1 = 0 + al.length := ⟨_, rfl⟩
   obtain ⟨e2, he2⟩ : ∃ e2, e2 = e1 ++ bl := ⟨_, rfl⟩
   obtain ⟨n2, hn2⟩ : ∃ n2, n2 = n1 + bl.length := ⟨_, rfl⟩
   have el1 : e1.length = n1 := by rw [he1, List.length_append, List.length_nil]; omega
   have el2 : e2.length = n2 := by rw [he2, List.length_append]; omega
   obtain rfl : e2 = abl := by rw [hae, he2, he1]; rfl
   have abn : (a ++ b).length = n2 := by rw [← el2, ← habl, List.length_map]
   conv => cbv
   repeat' first | refine call_b hna rfl rfl ?_ ?_ | refine call_b hnb rfl rfl ?_ ?_ | (intro (m : Nat) (r : Bool) (y : List (List D)) hm hr hy; refine (fun (hz : n1 = m) (hz2 : e1 = y) => ?_) (by first | omega | (simp only [List.length_cons, List.length_nil] at hm; omega)) (by first | (rw [hy, List.drop_zero, List.take_of_length_le (by omega)]; exact he1) | (rw [hy]; exact he1)); subst hz; subst hz2; (conv => cbv)) | (intro (m : Nat) (r : Bool) (y : List (List D)) hm hr hy; refine (fun (hz : n2 = m) (hz2 : e2 = y) => ?_) (by first | omega | (simp only [List.length_cons, List.length_nil] at hm; omega)) (by first | (rw [hy, List.drop_zero, List.take_of_length_le (by omega)]; exact he2) | (rw [hy]; exact he2)); subst hz; subst hz2; (conv => cbv)) | exact gu | exact trivial | refine And.intro ?_ ?_ | (intro hc; exact absurd hc (by decide)) | (intro hc; exfalso; omega) | (intro hc; (first | rw [wrap_small (by omega) (by omega)] at hc | rw [nI_eq] at hc | skip); try (conv => cbv))
   refine loop_up n2 (fun s : Int × List (List D) => [(0, .c (.d (.list false 3 al))), (1, .c (.d (.list false 3 bl))), (5, .c (.d (.list false 1 s.2))), (6, .c (.arr 0 2 0 n2)), (7, iA s.1)]) (fun _ => [.da r 2 3 e2])
    (fun k s => s.1 = k ∧ k ≤ n2 ∧ s.2 = (F ((a ++ b).take k)).map encI) (0, []) (.trans (.fg 5) (Wk.cw)) ⟨rfl, by omega, by rw [List.take_zero, hF0]; rfl⟩ (fun k s h => h.2.1) ?_
   rintro k ⟨i, out⟩ Q' ⟨hi, hk, hout⟩ norm ex rt
   simp only at hi hout
   by_cases hlt : k < n2
   ·clear yes2
    obtain ⟨x, hx⟩ : ∃ x, (a ++ b)[k]? = some x := ⟨_, List.getElem?_eq_getElem (by omega)⟩
    have hxa := elt_at habl hi hx
    obtain ⟨ni, hni⟩ : ∃ ni : Nat, ni = k := ⟨_, rfl⟩
    rw [show i.toNat = ni by omega] at hxa
    have htk := take_succ_get hx
    have hFs := hFs ((a ++ b).take k) x
    rw [← htk] at hFs
    have hinx := hin (F ((a ++ b).take k)) x.id (by have := hFl k; omega)
    have heqx := heq x.id
    rw [← hout] at hinx
    obtain ⟨xi, xa, xr⟩ := x
    simp only [encTn, intsD] at hxa hFs hinx heqx
    obtain ⟨o2, ho2⟩ : ∃ o2, o2 = (insS (F ((a ++ b).take k)) xi).map encI := ⟨_, rfl⟩
    rw [← ho2] at hinx
    generalize xa.map encI = xl at *
    generalize eq xi = q at *
    conv => cbv
    repeat' first | (refine ex _ _ _ ?_; (conv => cbv)) | (refine rt _ _ ?_; (conv => cbv)) | (intro (k : Nat) hk; refine (fun (hz : ni = k) => ?_) ?_; rotate_left; omega; subst hz; (conv => cbv)) | (intro (e : List D) he; cases Option.some.inj (he.symm.trans hxa); (conv => cbv)) | refine call_b heqx rfl rfl ?_ ?_ | (refine call_r hinx rfl rfl ?_; conv => cbv) | exact gu | exact trivial | refine And.intro ?_ ?_ | (intro hc; exact absurd hc (by decide)) | (intro hc; exfalso; omega) | (intro hc; (first | rw [wrap_small (by omega) (by omega)] at hc | rw [nI_eq] at hc | skip); try (conv => cbv))
    ·refine norm _ _ (_, _) ?_ (Wk.cw)
     have hqq : q = true := by assumption
     rw [if_pos hqq] at hFs
     exact ⟨by simp only; omega, by omega, by rw [hFs]; exact hout⟩
    ·refine norm _ _ (_, _) ?_ (Wk.cw)
     have hqq : q = false := by assumption
     rw [if_neg (by rw [hqq]; simp)] at hFs
     exact ⟨by simp only; omega, by omega, by rw [hFs]; exact ho2⟩
   ·rw [List.take_of_length_le (by omega)] at hout
    conv => cbv
    repeat' first | (refine ex _ _ _ ?_; (conv => cbv)) | (refine rt _ _ ?_; (conv => cbv)) | exact gu | exact trivial | refine And.intro ?_ ?_ | (intro hc; exact absurd hc (by decide)) | (intro hc; exfalso; omega) | (intro hc; (first | rw [wrap_small (by omega) (by omega)] at hc | rw [nI_eq] at hc | skip); try (conv => cbv))
    exact yes2 _ hout
def arrS (w : Nat) (g : Nat → Int) : List (List D) := (List.range w).map fun e => [iD (g e)]
theorem arrS_len (w : Nat) (g : Nat → Int) : (arrS w g).length = w := by simp [arrS]
theorem arrS_get {w e : Nat} {g : Nat → Int} (h : e < w) : (arrS w g)[e]? = some [iD (g e)] := by simp [arrS, h]
theorem arrS_ext {w : Nat} {g g' : Nat → Int} (h : ∀ e, e < w → g e = g' e) : arrS w g = arrS w g' := by
 rw [arrS, arrS]
 refine List.map_congr_left fun e he => ?_
 rw [h e (List.mem_range.1 he)]
theorem arrS_set {w n : Nat} {g : Nat → Int} {v : Int} : (arrS w g).set n [iD v] = arrS w fun e => if e = n then v else g e := by
 apply List.ext_getElem?
 intro e
 rw [List.getElem?_set]
 by_cases he : e < w
 ·rw [arrS_get he, arrS_get he, arrS_len]
  by_cases hn : n = e
  ·subst hn; simp [he]
  ·rw [if_neg hn, if_neg (fun h => hn h.symm)]
 ·rw [List.getElem?_eq_none (l := arrS w fun e => if e = n then v else g e) (by rw [arrS_len]; omega), List.getElem?_eq_none (l := arrS w g) (by rw [arrS_len]; omega), arrS_len]
  by_cases hn : n = e
  ·subst hn; simp [he]
  ·simp [hn]
theorem arrS_rep (w : Nat) : List.replicate w [iD 0] = arrS w fun _ => 0 := by
 apply List.ext_getElem?
 intro e
 by_cases he : e < w
 ·rw [arrS_get he]; simp [he]
 ·rw [List.getElem?_eq_none (l := arrS w fun _ => 0) (by rw [arrS_len]; omega), List.getElem?_eq_none (by simp; omega)]
def SmlT (l : List Tn) : Prop := ∀ x ∈ l, 0 ≤ x.rate ∧ x.rate ≤ 1048576
theorem rate_bd {l : List Tn} (h : SmlT l) (id n : Int) : 0 ≤ rateS l id n ∧ rateS l id n ≤ 1048576 := by
 unfold rateS
 split
 ·omega
 ·rename_i x hx
  have := h x (findS_some hx).1
  split <;> omega
end Go.Ab

/-
  Updates, part j: the changed IDs, as the program finds them.
-/
namespace Go.Ab
open Go.Proofs
theorem inc_ext : ∀ {a b : List Int}, a.Pairwise (· < ·) → b.Pairwise (· < ·) → (∀ x, x ∈ a ↔ x ∈ b) → a = b
 | [], [], _, _, _ => rfl
 | [], y :: b, _, _, h => absurd ((h y).2 (by simp)) (by simp)
 | x :: a, [], _, _, h => absurd ((h x).1 (by simp)) (by simp)
 | x :: a, y :: b, ha, hb, h => by
  have ha := List.pairwise_cons.1 ha
  have hb := List.pairwise_cons.1 hb
  have e : x = y := by
   rcases List.mem_cons.1 ((h x).1 (by simp)) with e | e
   ·exact e
   ·rcases List.mem_cons.1 ((h y).2 (by simp)) with e2 | e2
    ·exact e2.symm
    ·have := hb.1 x e; have := ha.1 y e2; omega
  subst e
  rw [inc_ext ha.2 hb.2 fun z => ?_]
  constructor
  ·intro hz
   rcases List.mem_cons.1 ((h z).1 (by simp [hz])) with e | e
   ·subst e; have := ha.1 z hz; omega
   ·exact e
  ·intro hz
   rcases List.mem_cons.1 ((h z).2 (by simp [hz])) with e | e
   ·subst e; have := hb.1 z hz; omega
   ·exact e
def sortU (l : List Int) : List Int := l.mergeSort fun x y => decide (x ≤ y)
theorem sortU_inc {l : List Int} (h : l.Nodup) : (sortU l).Pairwise (· < ·) := by
 have hp : (sortU l).Perm l := List.mergeSort_perm _ _
 have h1 : (sortU l).Pairwise fun x y => decide (x ≤ y) = true := List.pairwise_mergeSort (fun a b c h1 h2 => by simp only [decide_eq_true_eq] at *; omega) (fun a b => by simp only [Bool.or_eq_true, decide_eq_true_eq]; omega) l
 have h2 : (sortU l).Nodup := hp.nodup_iff.2 h
 exact (h1.and h2).imp fun h => by have := of_decide_eq_true h.1; have := h.2; omega
theorem sortU_mem {l : List Int} {x : Int} : x ∈ sortU l ↔ x ∈ l := (List.mergeSort_perm l _).mem_iff
def Lack (p q : List Tn) (z : Int) : Prop := ∃ x ∈ p, x ∉ q ∧ x.id = z
theorem lack_eq {a b : List Tn} (ha : namedS a = true) (hb : namedS b = true) {z : Int} : (Lack a b z ∨ Lack b a z) ↔ (z ∈ a.map (·.id) ∨ z ∈ b.map (·.id)) ∧ eqS a b z = false := by
 have na := (namedS_spec.1 ha).1
 have nb := (namedS_spec.1 hb).1
 have one : ∀ {p q : List Tn}, (p.map (·.id)).Nodup → (q.map (·.id)).Nodup → (Lack p q z ↔ ∃ x, findS p z = some x ∧ findS q z ≠ some x) := fun {p q} hp hq => by
  constructor
  ·rintro ⟨x, hx, hn, rfl⟩
   exact ⟨x, findS_of hp hx, fun h => hn (findS_some h).1⟩
  ·rintro ⟨x, h1, h2⟩
   have h3 := findS_some h1
   refine ⟨x, h3.1, fun h => h2 ?_, h3.2⟩
   rw [← h3.2]; exact findS_of hq h
 rw [one na nb, one nb na, eqS, decide_eq_false_iff_not]
 have ea := findS_none (l := a) (id := z)
 have eb := findS_none (l := b) (id := z)
 cases h1 : findS a z with
 | none =>
  cases h2 : findS b z with
  | none => simp
  | some y =>
   have : z ∈ b.map (·.id) := by
    apply Classical.byContradiction
    intro h; rw [eb.2 h] at h2; cases h2
   simp only [this]; simp
 | some x =>
  have : z ∈ a.map (·.id) := by
   apply Classical.byContradiction
   intro h; rw [ea.2 h] at h1; cases h1
  simp only [this]
  cases h2 : findS b z with
  | none => simp
  | some y =>
   simp only [true_or, true_and, Option.some.injEq, ne_eq, exists_eq_left']
   constructor
   ·rintro (h | h) e
    ·exact h e.symm
    ·exact h e
   ·intro h; exact .inr h
theorem changed_sort {a b : List Tn} (ha : namedS a = true) (hb : namedS b = true) {s : List Int} (hs : s.Nodup) (hm : ∀ z, z ∈ s ↔ Lack a b z ∨ Lack b a z) : sortU s = changedS a b := by
 refine inc_ext (sortU_inc hs) (changed_inc a b) fun z => ?_
 rw [sortU_mem, hm, lack_eq ha hb, changedS, if_pos ⟨ha, hb⟩, chS_mem]
theorem lack_take {p q : List Tn} {m : Nat} {x : Tn} (hx : p[m]? = some x) {z : Int} : Lack (p.take (m + 1)) q z ↔ Lack (p.take m) q z ∨ (x ∉ q ∧ x.id = z) := by
 rw [take_succ_get hx, Lack, Lack]
 simp only [List.mem_append, List.mem_singleton, or_and_right, exists_or, exists_eq_left]
theorem keys_fn (P : Program) (hP : P = Try.prog) (v : Nat) (es : List (DV × DV)) :
  FnS P n_maps_Keys_map_int_bool_int_bool [.c (.mp 0)] [.mp v es] fun r h' => r = .c (.fn false n_maps_Keys_map_int_bool_int_bool_1 [.ptr 1 0 0 0]) ∧ h' = [.mp v es, .bx [.mp 0]] := by
 refine heap_start (hP ▸ mixed) (hP ▸ fn_maps_Keys_map_int_bool_int_bool) (hP ▸ c_maps_Keys_map_int_bool_int_bool) (Nat.le_of_ble_eq_true rfl) fun Λ Λo K hK => ?_
 clear hP
 conv => cbv
 repeat' first | exact gu | exact trivial | refine And.intro ?_ ?_ | (intro hc; exact absurd hc (by decide)) | (intro hc; exfalso; omega) | (intro hc; (first | rw [wrap_small (by omega) (by omega)] at hc | rw [nI_eq] at hc | skip); try (conv => cbv))
 exact hK _ _ ⟨rfl, rfl⟩
def SortedK (P : Program) : Prop := ∀ (v : Nat) (l : List Int), l.Nodup → (∀ x ∈ l, -9223372036854775808 ≤ x ∧ x ≤ 9223372036854775807) → l.length ≤ 1000000 →
  FnS P n_slices_Sorted_int [.c (.fn false n_maps_Keys_map_int_bool_int_bool_1 [.ptr 1 0 0 0])] [.mp v (setI l), .bx [.mp 0]] fun r h' => r = .c (.d (.list false 1 ((sortU l).map encI))) ∧ h' = [.mp v (setI l), .bx [.mp 0]]
def idOk (l : List Tn) : Prop := ∀ x ∈ l, -9223372036854775808 ≤ x.id ∧ x.id ≤ 9223372036854775807
theorem pchanged_ok (P : Program) (hP : P = Try.prog) (hS : SortedK P) (a b : List Tn) (ra : idOk a) (rb : idOk b) : Ret P n_update_Changed [tnsA a, tnsA b] (intsA (changedS a b)) := by
 have hna := distinct_ok P hP a
 have hnb := distinct_ok P hP b
 have hca := fun x h => pcontf_ok P hP x a h
 have hcb := fun x h => pcontf_ok P hP x b h
 have hky := keys_fn P hP
 refine ret_start (hP ▸ mixed) (hP ▸ fn_update_Changed) (hP ▸ c_update_Changed) (Nat.le_of_ble_eq_true rfl) fun Λ Λo K hK => ?_
 clear hP
 cases h1 : namedS a with
 | false =>
  have no2 : K (.c (.d (.list false 1 []))) := by rw [changedS, if_neg (by simp [h1])] at hK; exact hK
  rw [h1] at hna
  clear hca hcb hky hS hK
  simp only [tnsA, tnsD, intsA, intsD] at *
  generalize a.map encTn = al at *
  generalize b.map encTn = bl at *
  conv => cbv
  repeat' first | refine call_b hna rfl rfl ?_ ?_ | exact gu | exact trivial | refine And.intro ?_ ?_ | (intro hc; exact absurd hc (by decide)) | (intro hc; exfalso; omega) | (intro hc; (first | rw [wrap_small (by omega) (by omega)] at hc | rw [nI_eq] at hc | skip); try (conv => cbv))
  exact no2
 | true =>
  cases h2 : namedS b with
  | false =>
   have no2 : K (.c (.d (.list false 1 []))) := by rw [changedS, if_neg (by simp [h2])] at hK; exact hK
   rw [h1] at hna
   rw [h2] at hnb
   clear hca hcb hky hS hK
   simp only [tnsA, tnsD, intsA, intsD] at *
   generalize a.map encTn = al at *
   generalize b.map encTn = bl at *
   conv => cbv
   repeat' first | refine call_b hna rfl rfl ?_ ?_ | refine call_b hnb rfl rfl ?_ ?_ | exact gu | exact trivial | refine And.intro ?_ ?_ | (intro hc; exact absurd hc (by decide)) | (intro hc; exfalso; omega) | (intro hc; (first | rw [wrap_small (by omega) (by omega)] at hc | rw [nI_eq] at hc | skip); try (conv => cbv))
   exact no2
  | true =>
   rw [h1] at hna
   rw [h2] at hnb
   have la := (namedS_spec.1 h1).2
   have lb := (namedS_spec.1 h2).2
   have yes : ∀ s : List Int, s.Nodup → (∀ z, z ∈ s ↔ Lack a b z ∨ Lack b a z) → K (.c (.d (.list false 1 ((sortU s).map encI)))) := fun s hs hm => by
    rw [changed_sort h1 h2 hs hm]; exact hK
   have hlen : ∀ s : List Int, s.Nodup → (∀ z, z ∈ s ↔ Lack a b z ∨ Lack b a z) → s.length ≤ 24 := fun s hs hm => by
    have e := changed_sort h1 h2 hs hm
    have h3 : s.length = (changedS a b).length := by rw [← e, sortU, List.length_mergeSort]
    rw [h3, changedS, if_pos ⟨h1, h2⟩, chS]
    have := fold_len (p := fun i => eqS a b i) ((a ++ b).map (·.id)) []
    simp only [List.length_map, List.length_append, List.length_nil] at this
    omega
   clear hK h1 h2
   have hca := fun x => hca x (by omega)
   have hcb := fun x => hcb x (by omega)
   simp only [tnsA, tnsD, intsA, intsD, sameH] at *
   generalize alh : a.map encTn = al at *
   have aln : Λ al = a.length := by rw [Λo, ← alh]; simp
   generalize blh : b.map encTn = bl at *
   have bln : Λ bl = b.length := by rw [Λo, ← blh]; simp
   conv => cbv
   repeat' first | refine call_b hna rfl rfl ?_ ?_ | refine call_b hnb rfl rfl ?_ ?_ | exact gu | exact trivial | refine And.intro ?_ ?_ | (intro hc; exact absurd hc (by decide)) | (intro hc; exfalso; omega) | (intro hc; (first | rw [wrap_small (by omega) (by omega)] at hc | rw [nI_eq] at hc | skip); try (conv => cbv))
   refine loop_upx 2 (fun s : Int × Nat × List (DV × DV) => [(5, .c (.ptr 0 0 0 0)), (6, .c (.mp 1)), (27, .agg [.d (.list false 3 al), .d (.list false 3 bl), .d (.list false 3 bl), .d (.list false 3 al)]), (28, iA s.1)])
    (fun s => [.bx [.fn false n_update_Changed_1 []], .mp s.2.1 s.2.2])
    (fun k s => s.1 = k ∧ k ≤ 2 ∧ ∃ l, setI l = s.2.2 ∧ l.Nodup ∧ ∀ z, z ∈ l ↔ (1 ≤ k ∧ Lack a b z) ∨ (2 ≤ k ∧ Lack b a z)) (0, 0, []) 0
    (fun s : Nat × List (DV × DV) => [(6, .c (.mp 1))]) (fun s => [.bx [.fn false n_update_Changed_1 []], .mp s.1 s.2]) (fun s => ∃ l, setI l = s.2 ∧ l.Nodup ∧ ∀ z, z ∈ l ↔ Lack a b z ∨ Lack b a z)
    (Wk.cw) ⟨rfl, by omega, [], rfl, .nil, fun z => by simp⟩ (fun k s h => h.2.1) ?_ ?_
   ·rintro k ⟨i, v, es⟩ Q' ⟨hi, hk2, l, hes, hnd, hmm⟩ norm jn ex rt
    simp only at hi hes
    match k, hk2 with
    | 0, _ =>
     obtain rfl : i = 0 := by omega
     clear jn yes
     have hcq := hcb
     conv => cbv
     repeat' first | (refine ex _ _ _ ?_; (conv => cbv)) | (refine rt _ _ ?_; (conv => cbv)) | exact gu | exact trivial | refine And.intro ?_ ?_ | (intro hc; exact absurd hc (by decide)) | (intro hc; exfalso; omega) | (intro hc; (first | rw [wrap_small (by omega) (by omega)] at hc | rw [nI_eq] at hc | skip); try (conv => cbv))
     refine loop_upx a.length (fun s : Int × Nat × List (DV × DV) => [(5, .c (.ptr 0 0 0 0)), (6, .c (.mp 1)), (8, .c (.ptr 2 0 0 0)), (27, .agg [.d (.list false 3 al), .d (.list false 3 bl), .d (.list false 3 bl), .d (.list false 3 al)]), (28, iA 0), (32, .c (.d (.list false 3 al))), (33, iA (Λ al)), (34, iA s.1)])
      (fun s => [.bx [.fn false n_update_Changed_1 []], .mp s.2.1 s.2.2, .bx [.d (.list false 3 al), .d (.list false 3 bl)]])
      (fun m s => s.1 = m ∧ m ≤ a.length ∧ ∃ l', setI l' = s.2.2 ∧ l'.Nodup ∧ ∀ z, z ∈ l' ↔ z ∈ l ∨ Lack (a.take m) b z) (0, v, es) 2
      (fun s : Nat × List (DV × DV) => [(5, .c (.ptr 0 0 0 0)), (6, .c (.mp 1)), (27, .agg [.d (.list false 3 al), .d (.list false 3 bl), .d (.list false 3 bl), .d (.list false 3 al)]), (28, iA 0)])
      (fun s => [.bx [.fn false n_update_Changed_1 []], .mp s.1 s.2]) (fun s => ∃ l', setI l' = s.2 ∧ l'.Nodup ∧ ∀ z, z ∈ l' ↔ z ∈ l ∨ Lack a b z)
      (Wk.cw) ⟨rfl, by omega, l, hes, hnd, fun z => by simp [Lack]⟩ (fun k s h => h.2.1) ?_ ?_
     ·rintro m ⟨j, v2, es2⟩ Q2 ⟨hj, hm, l2, hes2, hnd2, hmm2⟩ norm2 jn2 ex2 rt2
      simp only at hj hes2
      by_cases hml : m < a.length
      ·clear jn2 norm
       obtain ⟨x, hx⟩ : ∃ x, a[m]? = some x := ⟨_, List.getElem?_eq_getElem hml⟩
       have hxa := elt_at alh hj hx
       have hcx := hcq x
       have hst := fun z => lack_take (q := b) (z := z) hx
       have nin : x ∈ b → ∀ z, z ∈ l2 ↔ z ∈ l ∨ Lack (a.take (m + 1)) b z := fun h z => by
        rw [hmm2, hst]; simp [h]
       have nout : x ∉ b → ∀ z, (z ∈ l2 ∨ z = x.id) ↔ z ∈ l ∨ Lack (a.take (m + 1)) b z := fun h z => by
        rw [hmm2, hst, or_assoc]; simp [h, eq_comm]
       obtain ⟨c, hcd⟩ : ∃ c, c = decide (x ∈ b) := ⟨_, rfl⟩
       rw [← hcd] at hcx
       obtain ⟨xi, xa, xr⟩ := x
       simp only [encTn, intsD] at hxa hcx nout
       generalize xa.map encI = xl at *
       conv => cbv
       repeat' first | (refine ex _ _ _ ?_; (conv => cbv)) | (refine rt _ _ ?_; (conv => cbv)) | (intro e he; cases Option.some.inj (he.symm.trans hxa); (conv => cbv)) | (refine call_fr [0, 3] hcx rfl rfl (by decide) (by repeat' first | exact trivial | refine And.intro ?_ ?_ | rfl) rfl rfl ?_; rintro r hc' ⟨rfl, rfl⟩; (conv => cbv)) | exact gu | exact trivial | refine And.intro ?_ ?_ | (intro hc; exact absurd hc (by decide)) | (intro hc; exfalso; omega) | (intro hc; (first | rw [wrap_small (by omega) (by omega)] at hc | rw [nI_eq] at hc | skip); try (conv => cbv))
       cases c with
       | true =>
        repeat' first | (refine ex _ _ _ ?_; (conv => cbv)) | (refine rt _ _ ?_; (conv => cbv)) | exact gu | exact trivial | refine And.intro ?_ ?_ | (intro hc; exact absurd hc (by decide)) | (intro hc; exfalso; omega) | (intro hc; (first | rw [wrap_small (by omega) (by omega)] at hc | rw [nI_eq] at hc | skip); try (conv => cbv))
        refine norm2 _ _ (_, _, _) ?_ (Wk.cw)
        exact ⟨by simp only; omega, by omega, l2, hes2, hnd2, nin (of_decide_eq_true hcd.symm)⟩
       | false =>
        repeat' first | (refine ex _ _ _ ?_; (conv => cbv)) | (refine rt _ _ ?_; (conv => cbv)) | (refine vup_setI hes2 (fun hn0 es' he' => ?_) (fun hn1 => ?_) <;> (conv => cbv)) | exact gu | exact trivial | refine And.intro ?_ ?_ | (intro hc; exact absurd hc (by decide)) | (intro hc; exfalso; omega) | (intro hc; (first | rw [wrap_small (by omega) (by omega)] at hc | rw [nI_eq] at hc | skip); try (conv => cbv))
        ·refine norm2 _ _ (_, _, _) ?_ (Wk.cw)
         refine ⟨by simp only; omega, by omega, l2 ++ [xi], he', ?_, fun z => ?_⟩
         ·rw [List.nodup_append]
          exact ⟨hnd2, by simp, fun a ha b hb e => by simp only [List.mem_singleton] at hb; subst hb; subst e; exact hn0 ha⟩
         ·rw [← nout (of_decide_eq_false hcd.symm)]; simp
        ·refine norm2 _ _ (_, _, _) ?_ (Wk.cw)
         refine ⟨by simp only; omega, by omega, l2, hes2, hnd2, fun z => ?_⟩
         rw [← nout (of_decide_eq_false hcd.symm)]
         exact ⟨.inl, fun h => h.elim id fun e => by rw [e]; exact hn1⟩
      ·rw [List.take_of_length_le (by omega)] at hmm2
       clear norm2 norm
       conv => cbv
       repeat' first | (refine ex _ _ _ ?_; (conv => cbv)) | (refine rt _ _ ?_; (conv => cbv)) | exact gu | exact trivial | refine And.intro ?_ ?_ | (intro hc; exact absurd hc (by decide)) | (intro hc; exfalso; omega) | (intro hc; (first | rw [wrap_small (by omega) (by omega)] at hc | rw [nI_eq] at hc | skip); try (conv => cbv))
       exact jn2 _ _ (v2, es2) ⟨l2, hes2, hnd2, hmm2⟩ (Wk.cw)
     ·rintro ⟨v3, es3⟩ ⟨l3, hes3, hnd3, hmm3⟩
      simp only at hes3
      conv => cbv
      repeat' first | (refine ex _ _ _ ?_; (conv => cbv)) | (refine rt _ _ ?_; (conv => cbv)) | exact gu | exact trivial | refine And.intro ?_ ?_ | (intro hc; exact absurd hc (by decide)) | (intro hc; exfalso; omega) | (intro hc; (first | rw [wrap_small (by omega) (by omega)] at hc | rw [nI_eq] at hc | skip); try (conv => cbv))
      refine norm _ _ (_, v3, es3) ?_ (Wk.cw)
      refine ⟨by simp only; omega, by omega, l3, hes3, hnd3, fun z => ?_⟩
      rw [hmm3, hmm]; simp
    | 1, _ =>
     obtain rfl : i = 1 := by omega
     clear jn yes
     have hcq := hca
     conv => cbv
     repeat' first | (refine ex _ _ _ ?_; (conv => cbv)) | (refine rt _ _ ?_; (conv => cbv)) | exact gu | exact trivial | refine And.intro ?_ ?_ | (intro hc; exact absurd hc (by decide)) | (intro hc; exfalso; omega) | (intro hc; (first | rw [wrap_small (by omega) (by omega)] at hc | rw [nI_eq] at hc | skip); try (conv => cbv))
     refine loop_upx b.length (fun s : Int × Nat × List (DV × DV) => [(5, .c (.ptr 0 0 0 0)), (6, .c (.mp 1)), (8, .c (.ptr 2 0 0 0)), (27, .agg [.d (.list false 3 al), .d (.list false 3 bl), .d (.list false 3 bl), .d (.list false 3 al)]), (28, iA 1), (32, .c (.d (.list false 3 bl))), (33, iA (Λ bl)), (34, iA s.1)])
      (fun s => [.bx [.fn false n_update_Changed_1 []], .mp s.2.1 s.2.2, .bx [.d (.list false 3 bl), .d (.list false 3 al)]])
      (fun m s => s.1 = m ∧ m ≤ b.length ∧ ∃ l', setI l' = s.2.2 ∧ l'.Nodup ∧ ∀ z, z ∈ l' ↔ z ∈ l ∨ Lack (b.take m) a z) (0, v, es) 2
      (fun s : Nat × List (DV × DV) => [(5, .c (.ptr 0 0 0 0)), (6, .c (.mp 1)), (27, .agg [.d (.list false 3 al), .d (.list false 3 bl), .d (.list false 3 bl), .d (.list false 3 al)]), (28, iA 1)])
      (fun s => [.bx [.fn false n_update_Changed_1 []], .mp s.1 s.2]) (fun s => ∃ l', setI l' = s.2 ∧ l'.Nodup ∧ ∀ z, z ∈ l' ↔ z ∈ l ∨ Lack b a z)
      (Wk.cw) ⟨rfl, by omega, l, hes, hnd, fun z => by simp [Lack]⟩ (fun k s h => h.2.1) ?_ ?_
     ·rintro m ⟨j, v2, es2⟩ Q2 ⟨hj, hm, l2, hes2, hnd2, hmm2⟩ norm2 jn2 ex2 rt2
      simp only at hj hes2
      by_cases hml : m < b.length
      ·clear jn2 norm
       obtain ⟨x, hx⟩ : ∃ x, b[m]? = some x := ⟨_, List.getElem?_eq_getElem hml⟩
       have hxa := elt_at blh hj hx
       have hcx := hcq x
       have hst := fun z => lack_take (q := a) (z := z) hx
       have nin : x ∈ a → ∀ z, z ∈ l2 ↔ z ∈ l ∨ Lack (b.take (m + 1)) a z := fun h z => by
        rw [hmm2, hst]; simp [h]
       have nout : x ∉ a → ∀ z, (z ∈ l2 ∨ z = x.id) ↔ z ∈ l ∨ Lack (b.take (m + 1)) a z := fun h z => by
        rw [hmm2, hst, or_assoc]; simp [h, eq_comm]
       obtain ⟨c, hcd⟩ : ∃ c, c = decide (x ∈ a) := ⟨_, rfl⟩
       rw [← hcd] at hcx
       obtain ⟨xi, xa, xr⟩ := x
       simp only [encTn, intsD] at hxa hcx nout
       generalize xa.map encI = xl at *
       conv => cbv
       repeat' first | (refine ex _ _ _ ?_; (conv => cbv)) | (refine rt _ _ ?_; (conv => cbv)) | (intro e he; cases Option.some.inj (he.symm.trans hxa); (conv => cbv)) | (refine call_fr [0, 3] hcx rfl rfl (by decide) (by repeat' first | exact trivial | refine And.intro ?_ ?_ | rfl) rfl rfl ?_; rintro r hc' ⟨rfl, rfl⟩; (conv => cbv)) | exact gu | exact trivial | refine And.intro ?_ ?_ | (intro hc; exact absurd hc (by decide)) | (intro hc; exfalso; omega) | (intro hc; (first | rw [wrap_small (by omega) (by omega)] at hc | rw [nI_eq] at hc | skip); try (conv => cbv))
       cases c with
       | true =>
        repeat' first | (refine ex _ _ _ ?_; (conv => cbv)) | (refine rt _ _ ?_; (conv => cbv)) | exact gu | exact trivial | refine And.intro ?_ ?_ | (intro hc; exact absurd hc (by decide)) | (intro hc; exfalso; omega) | (intro hc; (first | rw [wrap_small (by omega) (by omega)] at hc | rw [nI_eq] at hc | skip); try (conv => cbv))
        refine norm2 _ _ (_, _, _) ?_ (Wk.cw)
        exact ⟨by simp only; omega, by omega, l2, hes2, hnd2, nin (of_decide_eq_true hcd.symm)⟩
       | false =>
        repeat' first | (refine ex _ _ _ ?_; (conv => cbv)) | (refine rt _ _ ?_; (conv => cbv)) | (refine vup_setI hes2 (fun hn0 es' he' => ?_) (fun hn1 => ?_) <;> (conv => cbv)) | exact gu | exact trivial | refine And.intro ?_ ?_ | (intro hc; exact absurd hc (by decide)) | (intro hc; exfalso; omega) | (intro hc; (first | rw [wrap_small (by omega) (by omega)] at hc | rw [nI_eq] at hc | skip); try (conv => cbv))
        ·refine norm2 _ _ (_, _, _) ?_ (Wk.cw)
         refine ⟨by simp only; omega, by omega, l2 ++ [xi], he', ?_, fun z => ?_⟩
         ·rw [List.nodup_append]
          exact ⟨hnd2, by simp, fun a ha b hb e => by simp only [List.mem_singleton] at hb; subst hb; subst e; exact hn0 ha⟩
         ·rw [← nout (of_decide_eq_false hcd.symm)]; simp
        ·refine norm2 _ _ (_, _, _) ?_ (Wk.cw)
         refine ⟨by simp only; omega, by omega, l2, hes2, hnd2, fun z => ?_⟩
         rw [← nout (of_decide_eq_false hcd.symm)]
         exact ⟨.inl, fun h => h.elim id fun e => by rw [e]; exact hn1⟩
      ·rw [List.take_of_length_le (by omega)] at hmm2
       clear norm2 norm
       conv => cbv
       repeat' first | (refine ex _ _ _ ?_; (conv => cbv)) | (refine rt _ _ ?_; (conv => cbv)) | exact gu | exact trivial | refine And.intro ?_ ?_ | (intro hc; exact absurd hc (by decide)) | (intro hc; exfalso; omega) | (intro hc; (first | rw [wrap_small (by omega) (by omega)] at hc | rw [nI_eq] at hc | skip); try (conv => cbv))
       exact jn2 _ _ (v2, es2) ⟨l2, hes2, hnd2, hmm2⟩ (Wk.cw)
     ·rintro ⟨v3, es3⟩ ⟨l3, hes3, hnd3, hmm3⟩
      simp only at hes3
      conv => cbv
      repeat' first | (refine ex _ _ _ ?_; (conv => cbv)) | (refine rt _ _ ?_; (conv => cbv)) | exact gu | exact trivial | refine And.intro ?_ ?_ | (intro hc; exact absurd hc (by decide)) | (intro hc; exfalso; omega) | (intro hc; (first | rw [wrap_small (by omega) (by omega)] at hc | rw [nI_eq] at hc | skip); try (conv => cbv))
      refine norm _ _ (_, v3, es3) ?_ (Wk.cw)
      refine ⟨by simp only; omega, by omega, l3, hes3, hnd3, fun z => ?_⟩
      rw [hmm3, hmm]; simp
    | 2, _ =>
     obtain rfl : i = 2 := by omega
     clear norm
     have hfin : ∀ z, z ∈ l ↔ Lack a b z ∨ Lack b a z := fun z => by rw [hmm]; simp
     conv => cbv
     repeat' first | exact gu | exact trivial | refine And.intro ?_ ?_ | (intro hc; exact absurd hc (by decide)) | (intro hc; exfalso; omega) | (intro hc; (first | rw [wrap_small (by omega) (by omega)] at hc | rw [nI_eq] at hc | skip); try (conv => cbv))
     exact jn _ _ (v, es) ⟨l, hes, hnd, hfin⟩ (Wk.cw)
   ·rintro ⟨v, es⟩ ⟨l, hes, hnd, hmm⟩
    simp only at hes
    have yes2 := yes l hnd hmm
    have hky := hky v es
    have hS := hS v l hnd (fun x hx => by
     rcases (hmm x).1 hx with ⟨y, hy, _, rfl⟩ | ⟨y, hy, _, rfl⟩
     ·exact ra y hy
     ·exact rb y hy) (by have := hlen l hnd hmm; omega)
    rw [hes] at hS
    generalize (sortU l).map encI = sl at *
    clear hlen hmm hes
    conv => cbv
    repeat' first | (refine call_fr [1] hky rfl rfl (by decide) (by repeat' first | exact trivial | refine And.intro ?_ ?_ | rfl) rfl rfl ?_; rintro r hc' ⟨rfl, rfl⟩; (conv => cbv)) | (refine call_fr [1, 2] hS rfl rfl (by decide) (by repeat' first | exact trivial | refine And.intro ?_ ?_ | rfl) rfl rfl ?_; rintro r hc' ⟨rfl, rfl⟩; (conv => cbv)) | exact gu | exact trivial | refine And.intro ?_ ?_ | (intro hc; exact absurd hc (by decide)) | (intro hc; exfalso; omega) | (intro hc; (first | rw [wrap_small (by omega) (by omega)] at hc | rw [nI_eq] at hc | skip); try (conv => cbv))
    exact yes2
end Go.Ab

/-
  The engine: functions that work in an arena of their own; at their end it is given up, and what leads into it is plain data.
-/
namespace Go.Ab
inductive ThD (m : Ar) : D → D → Prop
 | same (x : D) : ThD m x x
 | fg (x : D) : ThD m x (fgD x)
 | row (b o sz n cap N : Nat) (xs : List D) (rows : List (List D)) (g : Nat → Nat → D) (hm : m b = some (.cs N xs)) (hn : rows.length = n) (hcap : n ≤ cap) (hmx : n ≤ 9223372036854775807)
   (hs : ∀ (i : Nat) (e : List D), rows[i]? = some e → e.length = sz) (hx : ∀ (i : Nat) (e : List D) (j : Nat) (x : D), rows[i]? = some e → e[j]? = some x → xs[o + i * sz + j]? = some (g i j))
   (hr : ∀ (i : Nat) (e : List D) (j : Nat) (x : D), rows[i]? = some e → e[j]? = some x → ThD m (g i j) x) : ThD m (.sl b o sz n cap) (.list false sz rows)
 | list (nl : Bool) (sz : Nat) (l l' : List (List D)) (hlen : l.length = l'.length) (hs : ∀ (i : Nat) (e : List D), l'[i]? = some e → e.length = sz)
   (hr : ∀ (i : Nat) (e e' : List D) (j : Nat) (x x' : D), l[i]? = some e → l'[i]? = some e' → e[j]? = some x → e'[j]? = some x' → ThD m x x') : ThD m (.list nl sz l) (.list nl sz l')
section
variable {G : Nat → Prop} {ι : Io} {h : Hp} {w : World} {m : Ar}
theorem thD_sound {G' : Nat → Prop} (hG : ∀ b x, m b = some x → G' b ∧ ABR G' w b x) {x x' : D} (ht : ThD m x x') : ∀ {v : Value}, DR G' w v x → DR G' w v x' := by
 induction ht with
 | same x => exact fun h => h
 | fg x => exact fun h => h.fg
 | row b o sz n cap N xs rows g hm hn hcap hmx hs hx hr ih =>
  intro v hd
  cases hd
  obtain ⟨hg, c, t, fr, a1, a2, a3, a4, a5⟩ := hG b _ hm
  subst hn
  refine .sl b o cap sz rows (fun i j => (c[o + i * sz + j]?).getD undef) (fun _ => hg) hcap hmx hs (fun i e j x he hx' => ?_) fun i e j x he hx' => ?_
  ·obtain ⟨v, hv, _⟩ := a5 _ _ (hx i e j x he hx')
   rw [cell_of a1, hv]; rfl
  ·obtain ⟨v, hv, hd⟩ := a5 _ _ (hx i e j x he hx')
   simp only [hv, Option.getD_some]
   exact ih i e j x he hx' hd
 | list nl sz l l' hlen hs hr ih =>
  intro v hd
  cases hd with
  | nils =>
   have : l' = [] := List.eq_nil_of_length_eq_zero (by simpa using hlen.symm)
   subst this; exact .nils nl sz
  | emp a =>
   have : l' = [] := List.eq_nil_of_length_eq_zero (by simpa using hlen.symm)
   subst this; exact .emp a sz
  | sl b off cap _ _ g hg hcap hmax hsz hc hr' =>
   have both : ∀ (i : Nat) (e' : List D) (j : Nat) (x' : D), l'[i]? = some e' → e'[j]? = some x' → ∃ e x, l[i]? = some e ∧ e[j]? = some x := by
    intro i e' j x' he hx
    have hi := get_lt he
    have hj := get_lt hx
    have h1 : l[i]? = some (l[i]'(by omega)) := List.getElem?_eq_getElem _
    have h2 := hsz i _ h1
    have h3 := hs i e' he
    exact ⟨_, _, h1, List.getElem?_eq_getElem (by omega)⟩
   rw [hlen]
   refine .sl b off cap sz l' g (fun hne => hg fun h0 => hne ?_) (by omega) (by omega) hs (fun i e j x he hx => ?_) fun i e j x he hx => ?_
   ·subst h0; exact List.eq_nil_of_length_eq_zero (by simpa using hlen.symm)
   ·obtain ⟨e0, x0, h1, h2⟩ := both i e j x he hx
    exact hc i e0 j x0 h1 h2
   ·obtain ⟨e0, x0, h1, h2⟩ := both i e j x he hx
    exact ih i e0 e j x0 x h1 he h2 hx (hr' i e0 j x0 h1 h2)
theorem HR.thaw (r : HR G ι h w) (h0 : h[0]? = some (.am m)) : HR (fun b => G b ∨ ∃ x, m b = some x) ι (h.set 0 .dead) w ∧ Ext G ι h w (fun b => G b ∨ ∃ x, m b = some x) ι (h.set 0 .dead) w ∧
    ∀ b x, m b = some x → (G b ∨ ∃ x, m b = some x) ∧ ABR (fun b => G b ∨ ∃ x, m b = some x) w b x := by
  have hgm : ∀ b, G b → (G b ∨ ∃ x, m b = some x) ∧ w.heap[b]? = w.heap[b]? := fun b hb => ⟨.inl hb, rfl⟩
  have hext : Ext G ι h w (fun b => G b ∨ ∃ x, m b = some x) ι (h.set 0 .dead) w :=
    { size := Nat.le_refl _
      quiet := ⟨rfl, rfl, rfl, Nat.le_refl _⟩
      frame := fun _ _ _ => rfl
      gmono := fun _ h => .inl h
      gnew := fun b hb => by
        rcases hb with h | ⟨x, hx⟩
        · exact .inl h
        · exact .inr (.inr (am_owned h0 hx))
      onew := fun b ho => .inl (owned_set h0 own1_dead ho)
      keep := fun l k hk => by
        by_cases e : 0 = l
        · subst e
          exact ⟨.dead, by rw [List.getElem?_set_self (get_lt h0)], by cases k <;> trivial⟩
        · exact ⟨k, by rw [List.getElem?_set_ne e]; exact hk, Kept.refl ι w l k⟩ }
  refine ⟨?_, hext, fun b x hx => ⟨.inr ⟨x, hx⟩, (r.blk 0 _ h0 b x hx).mono hgm rfl⟩⟩
  exact
    { len := by simp [r.len]
      own := own_kill r
      g := fun b hb => by
        rcases hb with hb | ⟨x, hx⟩
        · exact ⟨(r.g b hb).1, fun ho => (r.g b hb).2 (owned_set h0 own1_dead ho)⟩
        · refine ⟨owned_lt r (am_owned h0 hx), fun ⟨l, k, g1, g2⟩ => ?_⟩
          rcases get_set g1 with ⟨_, e2, _⟩ | ⟨e0, e1⟩
          · subst e2; exact own1_dead g2
          · exact e0 (r.own 0 l b _ k h0 e1 ⟨x, hx⟩ g2).symm
      blk := fun l k hk => by
        rcases get_set hk with ⟨_, d2, _⟩ | ⟨_, d1⟩
        · subst d2; trivial
        · exact BR.ext hext r d1 rfl fun _ _ => rfl }
end
def ThDs (m : Ar) : List D → List D → Prop
 | [], [] => True
 | x :: r, y :: s => ThD m x y ∧ ThDs m r s
 | _, _ => False
theorem thDs_get {m : Ar} : ∀ {l l' : List D}, ThDs m l l' → ∀ (i : Nat) (y : D), l'[i]? = some y → ∃ x, l[i]? = some x ∧ ThD m x y := by
 intro l
 induction l with
 | nil => intro l' h; cases l' with | nil => simp | cons => exact h.elim
 | cons x r ih =>
  intro l' h
  cases l' with
  | nil => exact h.elim
  | cons y s =>
   obtain ⟨h1, h2⟩ := h
   intro i b hb
   cases i with
   | zero => simp at hb; subst hb; exact ⟨x, rfl, h1⟩
   | succ i => simp at hb; obtain ⟨z, hz, ht⟩ := ih h2 i b hb; exact ⟨z, by simpa using hz, ht⟩
inductive ThC (m : Ar) : CV → CV → Prop
 | same (x : CV) (hx : pureC x = true) : ThC m x x
 | d (x x' : D) (h : ThD m x x') : ThC m (.d x) (.d x')
 | rp (l l' : List D) (h : ThDs m l l') : ThC m (.rp l) (.rp l')
def ThCs (m : Ar) : List CV → List CV → Prop
 | [], [] => True
 | x :: r, y :: s => ThC m x y ∧ ThCs m r s
 | _, _ => False
inductive ThA (m : Ar) : AV → AV → Prop
 | c (x y : CV) (h : ThC m x y) : ThA m (.c x) (.c y)
 | agg (l l' : List CV) (h : ThCs m l l') : ThA m (.agg l) (.agg l')
def ThAs (m : Ar) : List AV → List AV → Prop
 | [], [] => True
 | x :: r, y :: s => ThA m x y ∧ ThAs m r s
 | _, _ => False
theorem thC_pure {m : Ar} {x y : CV} (h : ThC m x y) : pureC y = true := by
 cases h with
 | same _ hx => exact hx
 | d => rfl
 | rp => rfl
theorem thCs_pure {m : Ar} : ∀ {l l' : List CV}, ThCs m l l' → l.length = l'.length ∧ l'.all pureC = true ∧ ∀ (i : Nat) (x y : CV), l[i]? = some x → l'[i]? = some y → ThC m x y := by
 intro l
 induction l with
 | nil => intro l' h; cases l' with | nil => simp | cons => exact h.elim
 | cons x r ih =>
  intro l' h
  cases l' with
  | nil => exact h.elim
  | cons y s =>
   obtain ⟨h1, h2⟩ := h
   obtain ⟨i1, i2, i3⟩ := ih h2
   refine ⟨by simp [i1], by simp [thC_pure h1, i2], fun i a b ha hb => ?_⟩
   cases i with
   | zero => simp at ha hb; subst ha hb; exact h1
   | succ i => simp at ha hb; exact i3 i a b ha hb
theorem thA_pure {m : Ar} {x y : AV} (h : ThA m x y) : pureA y = true := by
 cases h with
 | c _ _ h => exact thC_pure h
 | agg _ _ h => exact (thCs_pure h).2.1
theorem thAs_get {m : Ar} : ∀ {l l' : List AV}, ThAs m l l' → l.length = l'.length ∧ pureA.pureAs l' = true ∧ ∀ (i : Nat) (x y : AV), l[i]? = some x → l'[i]? = some y → ThA m x y := by
 intro l
 induction l with
 | nil => intro l' h; cases l' with | nil => simp [pureA.pureAs] | cons => exact h.elim
 | cons x r ih =>
  intro l' h
  cases l' with
  | nil => exact h.elim
  | cons y s =>
   obtain ⟨h1, h2⟩ := h
   obtain ⟨i1, i2, i3⟩ := ih h2
   refine ⟨by simp [i1], by simp [pureA.pureAs, thA_pure h1, i2], fun i a b ha hb => ?_⟩
   cases i with
   | zero => simp at ha hb; subst ha hb; exact h1
   | succ i => simp at ha hb; exact i3 i a b ha hb
def RetA (res : List (Nat × Option (Option Nat))) (L : Lv) (h : Hp) (K : AV → Prop) : Prop :=
 match resA (lkN L) h res with
 | some vs => vFrzAs h vs fun rs h2 => match h2 with
  | .am m :: _ => ∃ rs', ThAs m rs rs' ∧ K (pack rs')
  | _ => False
 | none => False
def am0 : Ar := fun _ => none
def vcFAE (res : List (Nat × Option (Option Nat))) (K : AV → Prop) : Post := fun x L h => match x with
 | .exit _ => False
 | _ => RetA res L h K
def vcFA (P : Program) (Λ : Len) (af : AF) (args : List AV) (K : AV → Prop) : Prop :=
 match af with
 | ⟨_, res, body⟩ => vcC P Λ 1 body (argL 0 args) [.am am0] (vcFAE res K)
theorem HR.am0 {G : Nat → Prop} {w : World} {ι : Io} (r : HR G ι [] w) : HR G [(0, 0)] [.am am0] w :=
  { len := rfl
    own := fun l l' b k k' h1 h2 _ _ => by
      have := get_lt h1; have := get_lt h2; simp at *; omega
    g := fun b hb => ⟨(r.g b hb).1, fun ⟨l, k, h1, h2⟩ => by
      have hl : l = 0 := by have := get_lt h1; simpa using this
      subst hl; cases h1
      obtain ⟨x, hx⟩ := h2; cases hx⟩
    blk := fun l k h1 => by
      have hl : l = 0 := by have := get_lt h1; simpa using this
      subst hl; cases h1
      intro b x hx; cases hx }
theorem fn_arena {P : Program} {f : Nat} {fn : Func} {af : AF} {args : List AV} {K : AV → Prop} (hmo : P.follows .mixedOrders = true) (hf : P.funcs[f]? = some fn) (hc : compF P fn = some af) (hl : args.length ≤ af.nt) (hv : ∀ Λ : Len, (∀ l, Λ l = (l.length : Int)) → vcFA P Λ af args K) :
    FnS P f args [] fun r _ => pureA r = true ∧ K r := by
  obtain ⟨c, hb, hcc, hres, hnt⟩ := compF_spec hc
  have hv1 := hv (fun l => (l.length : Int)) fun _ => rfl
  refine ⟨fun G ι w vs hr hvs => ?_⟩
  have hr1 := hr.am0
  have hι : ι = [] := by have := hr.len; exact List.eq_nil_of_length_eq_zero this
  subst hι
  have hvs1 : VRs G w [(0, 0)] [.am am0] vs args := ⟨hvs.1, fun i v x h1 h2 => (hvs.2 i v x h1 h2).mono (fun b hb => ⟨hb, rfl⟩) (fun l k hk => by simp at hk)⟩
  have none1 : ∀ b, ¬ owned [(0, 0)] [.am am0] b := fun b ⟨l, k, h1, h2⟩ => by
    have hl : l = 0 := by have := get_lt h1; simpa using this
    subst hl; cases h1
    obtain ⟨x, hx⟩ := h2; cases hx
  have henter := enter_fits (af := af) hnt (by omega) hr1 hvs1
  have hwp := vcC_sound (h0 := [.am am0]) (Λ := fun l => (l.length : Int)) (fun _ => rfl) (m := 1) hmo (by simp) c af.body _ _ (vcFAE af.res K) _ w hcc (by cases af; exact hv1) henter
  refine calls_of_wp hf hb (wp_mono hwp fun x a w' ⟨L, h', hq, hfit⟩ => ?_)
  have fin : RetA af.res L h' K → a.defers = [] ∧ ∃ v, (results fn a.tmps).run P w' = .ok v w' ∧ ∃ v' r G' ι' h'', Ending.returned v = .returned v' ∧ (pureA r = true ∧ K r) ∧ HR G' ι' h'' w' ∧ VR G' w' ι' h'' v' r ∧ Ext G [] [] w G' ι' h'' w' := by
    intro hret
    obtain ⟨G1, ι1, st⟩ := hfit
    refine ⟨st.rel.dfr, ?_⟩
    unfold RetA at hret
    split at hret
    · rename_i vs' hvs'
      obtain ⟨rs, h2, hrs, hret⟩ := vFrzAs_sound hret
      split at hret
      · rename_i m rest
        obtain ⟨rs', ht, hK⟩ := hret
        rw [lkN_fun] at hvs'
        obtain ⟨us, q1, q2⟩ := results_all (P := P) (fn := fn) (af := af) hres st.rel.hr st.rel.env hvs'
        obtain ⟨G2, k1, k2, k3, k4⟩ := frzAs_sound st.rel.hr q2 hrs
        obtain ⟨j1, j2, j3⟩ := HR.thaw k1 (m := m) rfl
        have e := (st.ext.trans k2).trans j2
        obtain ⟨t1, t2, t3⟩ := thAs_get ht
        have hvr : VRs (fun b => G2 b ∨ ∃ x, m b = some x) w' ι1 (List.set (.am m :: rest) 0 .dead) us rs' := by
          refine ⟨by rw [k3.1, t1], fun i v y h1 h2 => ?_⟩
          have hi := get_lt h2
          have hx : rs[i]? = some (rs[i]'(by omega)) := List.getElem?_eq_getElem _
          have hvx := (k3.2 i v _ h1 hx).ext j2 k1
          have hth := t3 i _ y hx h2
          revert hvx hth
          generalize rs[i]'(by omega) = z
          intro hvx hth
          have cc : ∀ {v : Value} {p q : CV}, CR (fun b => G2 b ∨ ∃ x, m b = some x) w' ι1 (List.set (.am m :: rest) 0 .dead) v p → ThC m p q → CR (fun b => G2 b ∨ ∃ x, m b = some x) w' ι1 (List.set (.am m :: rest) 0 .dead) v q := by
            intro v p q hp hq
            cases hq with
            | same => exact hp
            | d x x' h => cases hp with | d _ _ hd => exact .d _ _ (thD_sound j3 h hd)
            | rp l l' h =>
              cases hp with
              | rp b o _ hG hc =>
                refine .rp b o _ hG fun k y hy => ?_
                obtain ⟨x, hx, ht⟩ := thDs_get h k y hy
                obtain ⟨v, hv, hd⟩ := hc k x hx
                exact ⟨v, hv, thD_sound j3 ht hd⟩
          cases hth with
          | c _ _ h => cases hvx with | c _ _ hc => exact .c _ _ (cc hc h)
          | agg l l' h =>
            obtain ⟨u1, u2, u3⟩ := thCs_pure h
            cases hvx with
            | agg cs _ hn hc =>
              refine .agg _ _ (by omega) fun j v y hv hy => ?_
              have hj := get_lt hy
              exact cc (hc j v _ hv (List.getElem?_eq_getElem (by omega))) (u3 j _ y (List.getElem?_eq_getElem (by omega)) hy)
        refine ⟨_, q1, _, pack rs', _, ι1, _, rfl, ⟨?_, hK⟩, j1, pack_sound hvr, ?_⟩
        · cases rs' with
          | nil => rfl
          | cons x rs' =>
            cases rs' with
            | nil => simp only [pureA.pureAs, Bool.and_true] at t2; exact t2
            | cons y rs' => exact t2
        · exact
            { size := e.size
              quiet := e.quiet
              frame := fun b hb _ => e.frame b hb (none1 b)
              gmono := e.gmono
              gnew := fun b hb => by
                rcases e.gnew b hb with h | h | h
                · exact .inl h
                · exact .inr (.inl h)
                · exact absurd h (none1 b)
              onew := fun b hb => by
                rcases e.onew b hb with h | h
                · exact absurd h (none1 b)
                · exact .inr h
              keep := fun l k hk => by simp at hk }
      · exact hret.elim
    · exact hret.elim
  cases x with
  | normal => exact fin hq
  | ret => exact fin hq
  | exit i => exact hq.elim
  | goto => exact hq.elim
  | panic => exact hq.elim
  | outgrown => exact hq.elim
end Go.Ab

/-
  Arenas, part a: rows that grow.
-/
namespace Go.Ab
open Go.Proofs
theorem arena_start {P : Program} {f : Nat} {fn : Func} {af : AF} {args : List AV} {r : AV} (hm : P.follows .mixedOrders = true) (hf : P.funcs[f]? = some fn) (hc : compF P fn = some af) (hl : args.length ≤ af.nt)
  (hv : ∀ (Λ : Len), (∀ l, Λ l = (l.length : Int)) → ∀ (K : AV → Prop), K r → vcFA P Λ af args K) : Ret P f args r :=
 fn_arena (K := fun r' => r' = r) hm hf hc hl fun Λ h => hv Λ h _ rfl
def RowR (sz : Nat) (m : Ar) (d : D) (l : List (List D)) : Prop :=
 (d = .list true sz [] ∧ l = []) ∨ ∃ b N cap, d = .sl b 0 sz l.length cap ∧ m b = some (.cs N l.flatten) ∧ (∀ e ∈ l, e.length = sz) ∧ l.length ≤ cap ∧ cap * sz ≤ N
structure RowsR (sz : Nat) (m : Ar) (es : List (List D)) (rows : List (List (List D))) : Prop where
 len : es.length = rows.length
 one : ∀ (j : Nat) (e : List D), es[j]? = some e → ∃ d, e = [d]
 row : ∀ (j : Nat) (d : D) (l : List (List D)), es[j]? = some [d] → rows[j]? = some l → RowR sz m d l
 dis : ∀ (i j b o n c o' n' c' : Nat), es[i]? = some [.sl b o sz n c] → es[j]? = some [.sl b o' sz n' c'] → i = j
theorem RowsR.nils (sz k : Nat) (m : Ar) : RowsR sz m (List.replicate k [.list true sz []]) (List.replicate k []) where
 len := by simp
 one j e h := by
  rw [List.getElem?_replicate] at h; split at h <;> cases h; exact ⟨_, rfl⟩
 row j d l h1 h2 := by
  rw [List.getElem?_replicate] at h1 h2; split at h1 <;> simp_all
  exact .inl ⟨h1.symm, rfl⟩
 dis i j b o n c o' n' c' h1 h2 := by
  rw [List.getElem?_replicate] at h1; split at h1 <;> simp at h1
theorem set_self {α : Type} {l : List α} {i : Nat} {a x : α} (h : (l.set i a)[i]? = some x) : x = a := by
 rcases get_set h with ⟨_, h, _⟩ | ⟨h, _⟩
 ·exact h
 ·exact absurd rfl h
theorem RowsR.put {sz : Nat} {m m' : Ar} {es : List (List D)} {rows : List (List (List D))} (h : RowsR sz m es rows) {j b' N' cap' : Nat} {l' : List (List D)} (hm' : m' b' = some (.cs N' l'.flatten))
  (hs : ∀ e ∈ l', e.length = sz) (hcap : l'.length ≤ cap') (hN : cap' * sz ≤ N') (hfree : ∀ (i o n c : Nat), i ≠ j → es[i]? = some [.sl b' o sz n c] → False) (hsame : ∀ (i b o n c : Nat), i ≠ j → es[i]? = some [.sl b o sz n c] → m' b = m b) :
  RowsR sz m' (es.set j [.sl b' 0 sz l'.length cap']) (rows.set j l') where
 len := by simp [h.len]
 one i e he := by
  rcases get_set he with ⟨_, he, _⟩ | ⟨_, he⟩
  ·exact ⟨_, he⟩
  ·exact h.one i e he
 row i d l h1 h2 := by
  rcases get_set h1 with ⟨e1, e2, _⟩ | ⟨e1, e2⟩
  ·subst e1
   have := set_self h2
   subst this
   cases e2
   exact .inr ⟨b', N', cap', rfl, hm', hs, hcap, hN⟩
  ·rw [List.getElem?_set_ne (fun e => e1 e.symm)] at h2
   rcases h.row i d l e2 h2 with hr | ⟨b, N, cap, rfl, r2, r3⟩
   ·exact .inl hr
   ·exact .inr ⟨b, N, cap, rfl, by rw [hsame i b _ _ _ e1 e2]; exact r2, r3⟩
 dis i k b o n c o' n' c' h1 h2 := by
  rcases get_set h1 with ⟨e1, e2, _⟩ | ⟨e1, e2⟩ <;> rcases get_set h2 with ⟨f1, f2, _⟩ | ⟨f1, f2⟩
  ·omega
  ·cases e2; exact (hfree k _ _ _ f1 f2).elim
  ·cases f2; exact (hfree i _ _ _ e1 e2).elim
  ·exact h.dis i k b o n c o' n' c' e2 f2
theorem RowsR.key {sz : Nat} {m : Ar} {es : List (List D)} {rows : List (List (List D))} (h : RowsR sz m es rows) {i b o n c : Nat} (he : es[i]? = some [.sl b o sz n c]) : ∃ x, m b = some x := by
 have hi := get_lt he
 rcases h.row i _ _ he (List.getElem?_eq_getElem (by rw [← h.len]; exact hi)) with ⟨h1, _⟩ | ⟨b', N, cap, h1, h2, _⟩
 ·cases h1
 ·cases h1; exact ⟨_, h2⟩
theorem RowsR.first {sz : Nat} {m : Ar} {es : List (List D)} {rows : List (List (List D))} (h : RowsR sz m es rows) {j b' N' cap' : Nat} {l' : List (List D)} (hm : m b' = none)
  (hs : ∀ e ∈ l', e.length = sz) (hcap : l'.length ≤ cap') (hN : cap' * sz ≤ N') : RowsR sz (mup m b' (.cs N' l'.flatten)) (es.set j [.sl b' 0 sz l'.length cap']) (rows.set j l') :=
 h.put (mup_at _ _ _) hs hcap hN (fun i o n c _ he => by obtain ⟨x, hx⟩ := h.key he; rw [hm] at hx; cases hx)
  fun i b o n c _ he => by
   obtain ⟨x, hx⟩ := h.key he
   exact mup_ne fun e => by rw [e, hm] at hx; cases hx
theorem RowsR.thaw {sz : Nat} {m : Ar} {es : List (List D)} {rows : List (List (List D))} (h : RowsR sz m es rows) (hb : ∀ l ∈ rows, l.length ≤ 9223372036854775807) : ThD m (.list false 1 es) (.list false 1 (rows.map fun l => [.list false sz l])) := by
 refine .list _ _ _ _ (by simp [h.len]) (fun i e he => ?_) fun i e e' j x x' he he' hx hx' => ?_
 ·simp only [List.getElem?_map, Option.map_eq_some_iff] at he
  obtain ⟨_, _, rfl⟩ := he; rfl
 ·simp only [List.getElem?_map, Option.map_eq_some_iff] at he'
  obtain ⟨l, hl, rfl⟩ := he'
  obtain ⟨d, rfl⟩ := h.one i e he
  have hj : j = 0 := by have := get_lt hx; simpa using this
  subst hj
  simp only [List.getElem?_cons_zero, Option.some.injEq] at hx hx'
  subst hx hx'
  rcases h.row i d l he hl with ⟨rfl, rfl⟩ | ⟨b, N, cap, rfl, hm, hs, hc, hN⟩
  ·exact .fg _
  ·have hl2 := hb l (List.mem_of_getElem? hl)
   refine .row b 0 sz l.length cap N l.flatten l (fun i j => l.flatten.getD (i * sz + j) default) hm rfl hc hl2 (fun i e he => hs e (List.mem_of_getElem? he)) (fun i e j x he hx => ?_) fun i e j x he hx => ?_
   ·rw [Nat.zero_add, List.getD_eq_getElem?_getD, arget_flat hs he hx]; rfl
   ·simp only [List.getD_eq_getElem?_getD, arget_flat hs he hx, Option.getD_some]; exact .same _
end Go.Ab

/-
  Updates, part k: tables of zeros.
-/
namespace Go.Ab
open Go.Proofs
def zrow (w : Nat) : List (List D) := List.replicate w [iD 0]
def zrows (k n w : Nat) : List (List (List D)) := List.replicate k (zrow w) ++ List.replicate (n - k) []
theorem zrows_len {k n w : Nat} (h : k ≤ n) : (zrows k n w).length = n := by simp [zrows]; omega
theorem zrows_zero (n w : Nat) : zrows 0 n w = List.replicate n [] := by simp [zrows]
theorem zrows_all (n w : Nat) : zrows n n w = List.replicate n (zrow w) := by simp [zrows]
theorem zrows_set {k n w : Nat} (h : k < n) : (zrows k n w).set k (zrow w) = zrows (k + 1) n w := by
 refine List.ext_getElem? fun i => ?_
 rw [List.getElem?_set, zrows_len (by omega)]
 simp only [zrows, List.getElem?_append, List.length_replicate, List.getElem?_replicate]
 by_cases h1 : k = i
 ·subst h1; simp [h]
 ·rw [if_neg h1]
  by_cases h2 : i < k
  ·rw [if_pos h2, if_pos h2, if_pos (by omega), if_pos (by omega)]
  ·have e1 : (i - k < n - k) ↔ i < n := by omega
   have e2 : (i - (k + 1) < n - (k + 1)) ↔ i < n := by omega
   have e3 : ¬ i < k + 1 := by omega
   simp only [if_neg h2, if_neg e3, e1, e2]
def Grown (m m' : Ar) : Prop := ∀ b x, m b = some x → m' b = some x
theorem Grown.trans {m m' m'' : Ar} (h : Grown m m') (h' : Grown m' m'') : Grown m m'' := fun b x hx => h' b x (h b x hx)
theorem RowsR.grown {sz : Nat} {m m' : Ar} {es : List (List D)} {rows : List (List (List D))} (h : RowsR sz m es rows) (hg : Grown m m') : RowsR sz m' es rows where
 len := h.len
 one := h.one
 row j d l h1 h2 := by
  rcases h.row j d l h1 h2 with hr | ⟨b, N, cap, r1, r2, r3⟩
  ·exact .inl hr
  ·exact .inr ⟨b, N, cap, r1, hg b _ r2, r3⟩
 dis := h.dis
def NewR (m : Ar) (es : List (List D)) : Prop := ∀ (i b o n c : Nat), es[i]? = some [.sl b o 1 n c] → m b = none
abbrev jobH (m : Ar) (v w : Nat) (ids : List Int) (sl : List (List D)) (t : Top) : Hp :=
 [.am m, .bx [.ptr 2 0 0 0], .bx [.d (iD t.nodes), .d (boolsD t.ov), .d (linksD t.links), .d (intsD ids), .arr 3 v 0 w, .d (.list true 1 []), .d (.list true 1 [])], .da true v 1 sl, .bx [.d (iD t.nodes), .d (boolsD t.ov), .d (linksD t.links)]]
theorem pempty_ok (P : Program) (hP : P = Try.prog) (t : Top) (ht : t.links.length ≤ 256) (m : Ar) (v w : Nat) (ids : List Int) (hi : ids.length ≤ 1000) (sl : List (List D)) (hw : w = 2 * t.links.length) (hsl : sl.length = w) :
  FnS P n_update_prepare_1 [.c (.ptr 1 0 0 0), .c (.ptr 4 0 0 0)] (jobH m v w ids sl t) fun r h' => ∃ m' ve es, r = .c (.arr 5 ve 0 ids.length) ∧ h' = jobH m' v w ids sl t ++ [.da true ve 1 es] ∧ RowsR 1 m' es (List.replicate ids.length (zrow w)) ∧ Grown m m' ∧ NewR m es := by
 have ha := garcs_ok P hP t (by omega)
 refine heap_start (hP ▸ mixed) (hP ▸ fn_update_prepare_1) (hP ▸ c_update_prepare_1) (Nat.le_of_ble_eq_true rfl) fun Λ Λo K hK => ?_
 clear hP
 have leaf : ∀ m' ve es, RowsR 1 m' es (List.replicate ids.length (zrow w)) → Grown m m' → NewR m es → K (.c (.arr 5 ve 0 ids.length)) (jobH m' v w ids sl t ++ [.da true ve 1 es]) := fun m' ve es h1 h2 h3 => hK _ _ ⟨m', ve, es, rfl, rfl, h1, h2, h3⟩
 clear hK
 rw [show (2 * (t.links.length : Int)) = (w : Int) by omega] at ha
 simp only [jobH, intsD, topA, boolsD, linksD, List.cons_append, List.nil_append] at *
 generalize ilh : List.map encI ids = il at *
 have iln : Λ il = ids.length := by rw [Λo, ← ilh]; simp
 obtain ⟨nodes, ov, links⟩ := t
 simp only at *
 generalize ov.map encB = ol at *
 generalize links.map encLk = ll at *
 conv => cbv
 obtain ⟨n, hn⟩ : ∃ n : Nat, n = ids.length := ⟨_, rfl⟩
 rw [← hn] at leaf hi iln
 repeat' first | (left; intro (_ : Unit); (conv => cbv)) | (intro (k : Nat) (es0 : List (List D)) hk hes0; refine (fun (hz : n = k) => ?_) (by omega); subst hz; rw [show (Λ il).toNat = n by omega] at hes0; (conv => cbv)) | exact gu | exact trivial | refine And.intro ?_ ?_ | (intro hc; exact absurd hc (by decide)) | (intro hc; exfalso; omega) | (intro hc; (first | rw [wrap_small (by omega) (by omega)] at hc | rw [nI_eq] at hc | skip); try (conv => cbv))
 rename_i n0 hn0
 refine loop_up n (fun (s : Int × List (List D) × Ar) => [(1, .c (.ptr 4 0 0 0)), (3, .c (.arr 5 0 0 n)), (12, iA n0), (13, iA s.1)])
  (fun s => [.am s.2.2, .bx [.ptr 2 0 0 0], .bx [.d (iD nodes), .d (.list false 1 ol), .d (.list false 7 ll), .d (.list false 1 il), .arr 3 v 0 w, .d (.list true 1 []), .d (.list true 1 [])], .da true v 1 sl, .bx [.d (iD nodes), .d (.list false 1 ol), .d (.list false 7 ll)], .da true 0 1 s.2.1])
  (fun k s => s.1 = k ∧ k ≤ n ∧ RowsR 1 s.2.2 s.2.1 (zrows k n w) ∧ Grown m s.2.2 ∧ NewR m s.2.1) (0, es0, m) (Wk.ca) ⟨rfl, by omega, by simp only; rw [zrows_zero, hes0]; exact .nils 1 _ _, fun b x h => h, fun i b o n c h => by simp only [hes0, List.getElem?_replicate] at h; split at h <;> simp at h⟩ (fun k s h => h.2.1) ?_
 rintro k ⟨i, es, m2⟩ Q' ⟨hik, hk, hrow, hgr, hnw⟩ norm ex rt
 simp only at hik hrow hgr hnw
 have lel : es.length = n := by rw [hrow.len, zrows_len hk]
 by_cases hlt : k < n
 ·obtain ⟨j, hj⟩ : ∃ j : Nat, j = k := ⟨_, rfl⟩
  have hej : es[j]? = some (es[j]'(by omega)) := List.getElem?_eq_getElem _
  obtain ⟨d, hd⟩ := hrow.one j _ hej
  rw [hd] at hej
  conv => cbv
  repeat' first | (refine ex _ _ _ ?_; (conv => cbv)) | (refine rt _ _ ?_; (conv => cbv)) | (right; intro (_ : Unit); (conv => cbv)) | refine call_i ha rfl rfl ?_ | (intro (k : Nat) hk; refine (fun (hz : j = k) => ?_) ?_; rotate_left; omega; subst hz; (conv => cbv)) | (intro (e : List D) he; cases Option.some.inj (he.symm.trans hej); (conv => cbv)) | (intro (b' : Nat) (k' : Nat) (N' : Nat) (z' : List (List D)) (m' : Ar) hb' hk' hkN hz' hm'; (conv => cbv)) | exact gu | exact trivial | refine And.intro ?_ ?_ | (intro hc; exact absurd hc (by decide)) | (intro hc; exfalso; omega) | (intro hc; (first | rw [wrap_small (by omega) (by omega)] at hc | rw [nI_eq] at hc | skip); try (conv => cbv))
  rename_i es' hes' i'
  have hz2 : z' = zrow w := by rw [hz', zrow]; congr 1; omega
  have hk2 : k' = z'.length := by rw [hz2, zrow, List.length_replicate]; omega
  refine norm _ _ (i', es', m') ⟨by simp only; omega, by omega, ?_, ?_, ?_⟩ (Wk.ca)
  ·simp only
   have h5 := hrow.first (j := j) (l' := z') hb' (fun e he => by rw [hz2, zrow] at he; rw [(List.mem_replicate.1 he).2]; rfl) (Nat.le_refl _) (by rw [← hk2]; exact hkN)
   have h6 : (zrows k n w).set j z' = zrows (k + 1) n w := by rw [hj, hz2]; exact zrows_set hlt
   rw [h6] at h5
   rw [hes', hm', hk2]
   exact h5
  ·simp only
   rw [hm']
   exact fun b x hx => by
    have h1 := hgr b x hx
    rw [mup_ne (fun e => by rw [e, hb'] at h1; cases h1)]; exact h1
  ·simp only
   rw [hes']
   intro i2 b o n2 c he
   rcases get_set he with ⟨_, he, _⟩ | ⟨_, he⟩
   ·cases he
    cases hx : m b' with
    | none => rfl
    | some x => rw [hgr b' x hx] at hb'; cases hb'
   ·exact hnw i2 b o n2 c he
 ·obtain rfl : k = n := by omega
  rw [zrows_all] at hrow
  have lf := leaf m2 0 es hrow hgr hnw
  conv => cbv
  repeat' first | (refine ex _ _ _ ?_; (conv => cbv)) | (refine rt _ _ ?_; (conv => cbv)) | exact gu | exact trivial | refine And.intro ?_ ?_ | (intro hc; exact absurd hc (by decide)) | (intro hc; exfalso; omega) | (intro hc; (first | rw [wrap_small (by omega) (by omega)] at hc | rw [nI_eq] at hc | skip); try (conv => cbv))
  exact lf
end Go.Ab

