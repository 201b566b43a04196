/-
  Merged texts, part n.
-/
import Derived.Test.YtllgchplnhaplaaZm
/-
  Comparing paths, and their delays, as the program does it.
-/
namespace Go.Ab
open Go.Proofs
def cst (t : Top) (p : List Int) : Int := (p.map fun a => max 0 (costT t a)).sum
abbrev cmpH (t : Top) (b : Bool) : Hp := [.bx [.d (.bool b)], .bx [.d (iD t.nodes), .d (boolsD t.ov), .d (linksD t.links)]]
theorem costT_out {t : Top} {a : Int} (h : ¬ (validT t = true ∧ 0 ≤ a ∧ a < 2 * t.links.length)) : max 0 (costT t a) = 0 := by
 rw [costT, arcsT]
 by_cases hv : validT t = true
 ·rw [if_pos hv, if_neg (fun e => h ⟨hv, e⟩)]; rfl
 ·rw [if_neg hv, if_neg (by omega)]; rfl
set_option maxHeartbeats 1000000 in
theorem cmpc_ok (P : Program) (hP : P = Try.prog) (t : Top) (p : List Int) (hL : (t.links.length : Int) ≤ 256) (hp : p.length ≤ 1000) :
  FnS P n_kpaths_Compare_1 [intsA p, .c (.ptr 0 0 0 0), .c (.ptr 1 0 0 0)] (cmpH t (validT t)) fun r h' => r = iA (cst t p) ∧ h' = cmpH t (validT t) := by
 have harc := fun a => garc_ok P hP t a hL
 have hco := fun a hv h0 h1 => gcost_ok P hP t a hv h0 h1
 refine heap_start (hP ▸ mixed) (hP ▸ fn_kpaths_Compare_1) (hP ▸ c_kpaths_Compare_1) (nle rfl) fun Λ Λo K hK => ?_
 clear hP
 have leaf : ∀ x, x = cst t p → K (iA x) (cmpH t (validT t)) := fun x e => hK _ _ ⟨by rw [e], rfl⟩
 clear hK
 have hout := fun a => @costT_out t a
 have hin : ∀ a : Int, validT t = true → 0 ≤ a → a < 2 * t.links.length → 1 ≤ costT t a ∧ costT t a ≤ 65535 := fun a h0 h1 h2 => cost_rg h0 h1 h2
 have hcs : cst t p = (p.map fun a => max 0 (costT t a)).sum := rfl
 rw [hcs] at leaf
 clear hcs
 simp only [topA, intsA, intsD, cmpH, boolsD, linksD] at *
 generalize t.ov.map encB = ovl at *
 generalize t.links.map encLk = lkl at *
 generalize t.nodes = nodes at *
 generalize t.links.length = nl at *
 generalize costT t = co at *
 cases hv : validT t
 all_goals
  rw [hv] at leaf
  simp only [hv] at hout hin hco
  clear hv
  generalize plh : List.map encI p = pl at *
  have pln : Λ pl = p.length := by rw [Λo, ← plh]; simp
  conv => cbv
  repeat' first | exact gu | exact trivial | refine And.intro ?_ ?_ | (intro hc; exact absurd hc (by decide)) | (intro hc; exfalso; omega) | (intro hc; (first | rw [wS (by omega) (by omega)] at hc | rw [nI_eq] at hc | skip); try (conv => cbv))
  refine loop_up p.length (fun (s : Int × Int) => [(1, .c (.ptr 0 0 0 0)), (2, .c (.ptr 1 0 0 0)), (5, iA s.1), (8, .c (.d (.list false 1 pl))), (9, iA (Λ pl)), (10, iA s.2)])
   (fun _ => [.bx [.d (.bool _)], .bx [.d (iD nodes), .d (.list false 1 ovl), .d (.list false 7 lkl)]])
   (fun k s => s.2 = k ∧ k ≤ p.length ∧ s.1 = ((p.take k).map fun a => max 0 (co a)).sum ∧ 0 ≤ s.1 ∧ s.1 ≤ 65535 * k) (0, 0) (Wk.ca) ⟨rfl, by omega, by simp, by simp, by simp⟩ (fun k s h => h.2.1) ?_
  rintro k ⟨sm, i⟩ Q' ⟨hi, hk, hsm, hs0, hs1⟩ norm ex rt
  simp only at hi hsm hs0 hs1
  by_cases hlt : k < p.length
  ·obtain ⟨x, hx⟩ : ∃ x, p[k]? = some x := ⟨_, lgE hlt⟩
   have hxa := elt_at plh hi hx
   have hax := harc x
   have hox := hout x
   have hix := hin x
   have hcx := hco x
   have htk : ((p.take (k + 1)).map fun a => max 0 (co a)).sum = sm + max 0 (co x) := by rw [take_succ_get hx]; simp [hsm]
   by_cases hr : 0 ≤ x ∧ x < 2 * nl
   ·rw [decide_eq_true hr] at hax
    first
    |have hcx2 := hcx trivial hr.1 hr.2
     have hix2 := hix trivial hr.1 hr.2
     clear hcx hix hox
     generalize co x = cx at *
     conv => cbv
     repeat' first | (intro e he; cases osj (he.symm.trans hxa); (conv => cbv)) | (refine call_r hax rfl rfl ?_; conv => cbv) | (refine call_r hcx2 rfl rfl ?_; conv => cbv) | exact gu | exact trivial | refine And.intro ?_ ?_ | (intro hc; exact absurd hc (by decide)) | (intro hc; exfalso; omega) | (intro hc; (first | rw [wS (by omega) (by omega)] at hc | rw [nI_eq] at hc | skip); try (conv => cbv))
     rename_i sm2 hsm2 i2
     refine norm _ _ (sm2, i2) ⟨by simp only; omega, by omega, by simp only; rw [htk]; omega, by simp only; omega, by simp only; omega⟩ (Wk.ca)
    |have hox2 := hox (by simp)
     clear hcx hix hox
     conv => cbv
     repeat' first | (intro e he; cases osj (he.symm.trans hxa); (conv => cbv)) | (refine call_r hax rfl rfl ?_; conv => cbv) | exact gu | exact trivial | refine And.intro ?_ ?_ | (intro hc; exact absurd hc (by decide)) | (intro hc; exfalso; omega) | (intro hc; (first | rw [wS (by omega) (by omega)] at hc | rw [nI_eq] at hc | skip); try (conv => cbv))
     rename_i i2
     refine norm _ _ (sm, i2) ⟨by simp only; omega, by omega, by simp only; rw [htk, hox2]; omega, by simp only; omega, by simp only; omega⟩ (Wk.ca)
   ·rw [decide_eq_false hr] at hax
    have hox2 := hox (fun h => hr h.2)
    clear hcx hix hox
    conv => cbv
    repeat' first | (intro e he; cases osj (he.symm.trans hxa); (conv => cbv)) | (refine call_r hax rfl rfl ?_; conv => cbv) | exact gu | exact trivial | refine And.intro ?_ ?_ | (intro hc; exact absurd hc (by decide)) | (intro hc; exfalso; omega) | (intro hc; (first | rw [wS (by omega) (by omega)] at hc | rw [nI_eq] at hc | skip); try (conv => cbv))
    rename_i i2
    refine norm _ _ (sm, i2) ⟨by simp only; omega, by omega, by simp only; rw [htk, hox2]; omega, by simp only; omega, by simp only; omega⟩ (Wk.ca)
  ·rw [List.take_of_length_le (by omega)] at hsm
   conv => cbv
   repeat' first | exact gu | exact trivial | refine And.intro ?_ ?_ | (intro hc; exact absurd hc (by decide)) | (intro hc; exfalso; omega) | (intro hc; (first | rw [wS (by omega) (by omega)] at hc | rw [nI_eq] at hc | skip); try (conv => cbv))
   refine ex _ _ _ ?_
   conv => cbv
   repeat' first | exact gu | exact trivial | refine And.intro ?_ ?_ | (intro hc; exact absurd hc (by decide)) | (intro hc; exfalso; omega) | (intro hc; (first | rw [wS (by omega) (by omega)] at hc | rw [nI_eq] at hc | skip); try (conv => cbv))
   exact leaf _ hsm
theorem cst_bound {t : Top} {p : List Int} : 0 ≤ cst t p ∧ cst t p ≤ 65535 * p.length := by
 unfold cst
 induction p with
 | nil => simp
 | cons a r ih =>
  have h1 : max 0 (costT t a) ≤ 65535 := by
   by_cases h : validT t = true ∧ 0 ≤ a ∧ a < 2 * t.links.length
   ·have := cost_rg h.1 h.2.1 h.2.2; omega
   ·rw [costT_out h]; omega
  simp only [List.map_cons, List.sum_cons, List.length_cons]
  omega
theorem compare_ok (P : Program) (hP : P = Try.prog) (t : Top) (a b : List Int) (hL : (t.links.length : Int) ≤ 256) (ha : a.length ≤ 1000) (hb : b.length ≤ 1000) :
  Ret P n_kpaths_Compare [topA t, intsA a, intsA b] (iA (ordS (cst t a) (cst t b) a b)) := by
 have hfo : FnOk P n_kpaths_Compare_1 := hP ▸ ⟨_, fn_kpaths_Compare_1, rfl, by decide⟩
 have h1 := cmpc_ok P hP t a hL ha
 have h2 := cmpc_ok P hP t b hL hb
 have h3 := order_ok P hP (cst t a) (cst t b) a b
 have hv := tvalid_ok P hP t
 refine ret_start (hP ▸ mixed) (hP ▸ fn_kpaths_Compare) (hP ▸ c_kpaths_Compare) (nle rfl) fun Λ Λo K hK => ?_
 clear hP
 generalize ordS (cst t a) (cst t b) a b = r at *
 simp only [topA, intsA, intsD, cmpH, boolsD, linksD] at *
 generalize t.ov.map encB = ovl at *
 generalize t.links.map encLk = lkl at *
 generalize cst t a = ca at *
 generalize cst t b = cb at *
 generalize t.nodes = nodes at *
 generalize validT t = vb at *
 generalize a.map encI = al at *
 generalize b.map encI = bl at *
 conv => cbv
 repeat' first | (refine call_r hv rfl rfl ?_; conv => cbv) | exact hfo | (refine callv_fr [1, 0] h1 rfl rfl (by decide) (by repeat' first | exact trivial | refine And.intro ?_ ?_ | rfl) rfl rfl ?_; rintro r hc' ⟨rfl, rfl⟩; (conv => cbv)) | (refine callv_fr [1, 0] h2 rfl rfl (by decide) (by repeat' first | exact trivial | refine And.intro ?_ ?_ | rfl) rfl rfl ?_; rintro r hc' ⟨rfl, rfl⟩; (conv => cbv)) | (refine call_r h3 rfl rfl ?_; conv => cbv) | exact gu | exact trivial | refine And.intro ?_ ?_ | (intro hc; exact absurd hc (by decide)) | (intro hc; exfalso; omega) | (intro hc; (first | rw [wS (by omega) (by omega)] at hc | rw [nI_eq] at hc | skip); try (conv => cbv))
 exact hK
def delS (t : Top) (p : List Int) : Int × Int := if validT t = true then (if ∀ a ∈ p, 0 ≤ a ∧ a < 2 * t.links.length then ((p.map fun a => (lkAt t a).dl).sum, 0) else (0, 2)) else (0, 1)
theorem delay_ok (P : Program) (hP : P = Try.prog) (t : Top) (p : List Int) (hL : (t.links.length : Int) ≤ 256) (hp : p.length ≤ 1000) : Ret P n_kpaths_Delay [topA t, intsA p] (.tup [iA (delS t p).1, iA (delS t p).2]) := by
 have harc := fun a => garc_ok P hP t a hL
 have hv := tvalid_ok P hP t
 refine ret_start (hP ▸ mixed) (hP ▸ fn_kpaths_Delay) (hP ▸ c_kpaths_Delay) (nle rfl) fun Λ Λo K hK => ?_
 clear hP
 have hdl : validT t = true → ∀ a : Int, 0 ≤ a → a < 2 * t.links.length → 1 ≤ (lkAt t a).dl ∧ (lkAt t a).dl ≤ 65536 := fun hv a h0 h1 => (okLk_spec.1 (lk_ok hv h0 h1)).2.2.2.2.2.2.1
 have hat : ∀ (a : Int) x, t.links[(a / 2).toNat]? = some x → lkAt t a = x := fun a x hx => by simp [lkAt, hx]
 have kv : validT t = true → (∀ a ∈ p, 0 ≤ a ∧ a < 2 * t.links.length) → K (.tup [iA ((p.map fun a => (lkAt t a).dl).sum), iA 0]) := fun h1 h2 => by rw [delS, if_pos h1, if_pos h2] at hK; exact hK
 have kr : validT t = true → ¬ (∀ a ∈ p, 0 ≤ a ∧ a < 2 * t.links.length) → K (.tup [iA 0, iA 2]) := fun h1 h2 => by rw [delS, if_pos h1, if_neg h2] at hK; exact hK
 have kn : validT t = false → K (.tup [iA 0, iA 1]) := fun h1 => by rw [delS, if_neg (by rw [h1]; decide)] at hK; exact hK
 clear hK
 generalize lkAt t = lk at *
 simp only [intsA, intsD] at *
 cases hvb : validT t
 ·rw [hvb] at hv
  have kn := kn hvb
  simp only [topA, boolsD, linksD] at *
  generalize t.ov.map encB = ovl at *
  generalize t.links.map encLk = lkl at *
  generalize p.map encI = pl at *
  conv => cbv
  repeat' first | (refine call_r hv rfl rfl ?_; conv => cbv) | exact gu | exact trivial | refine And.intro ?_ ?_ | (intro hc; exact absurd hc (by decide)) | (intro hc; exfalso; omega) | (intro hc; (first | rw [wS (by omega) (by omega)] at hc | rw [nI_eq] at hc | skip); try (conv => cbv))
  exact kn
 ·rw [hvb] at hv
  have kr := kr hvb
  have kv := kv hvb
  have hdl := hdl hvb
  clear kn hvb
  obtain ⟨nodes, ov, links⟩ := t
  simp only [topA, boolsD, linksD] at *
  generalize hol : ov.map encB = ol at *
  generalize hll : links.map encLk = ll at *
  have hlo : Λ ol = ov.length := by rw [Λo, ← hol]; simp
  have hls : Λ ll = links.length := by rw [Λo, ← hll]; simp
  generalize plh : List.map encI p = pl at *
  have pln : Λ pl = p.length := by rw [Λo, ← plh]; simp
  conv => cbv
  repeat' first | (refine call_r hv rfl rfl ?_; conv => cbv) | exact gu | exact trivial | refine And.intro ?_ ?_ | (intro hc; exact absurd hc (by decide)) | (intro hc; exfalso; omega) | (intro hc; (first | rw [wS (by omega) (by omega)] at hc | rw [nI_eq] at hc | skip); try (conv => cbv))
  refine loop_up p.length (fun (s : Int × Int) => [(2, .c (.ptr 0 0 0 0)), (4, iA 0), (5, iA 0), (6, iA s.1), (12, .c (.d (.list false 1 pl))), (13, iA (Λ pl)), (14, iA s.2)])
   (fun _ => [.bx [.d (.int .i64 nodes), .d (.list false 1 ol), .d (.list false 7 ll)]])
   (fun k s => s.2 = k ∧ k ≤ p.length ∧ s.1 = ((p.take k).map fun a => (lk a).dl).sum ∧ 0 ≤ s.1 ∧ s.1 ≤ 65536 * k ∧ ∀ a ∈ p.take k, 0 ≤ a ∧ a < 2 * links.length) (0, 0) (Wk.cw) ⟨rfl, by omega, by simp, by simp, by simp, by simp⟩ (fun k s h => h.2.1) ?_
  rintro k ⟨sm, i⟩ Q' ⟨hi, hk, hsm, hs0, hs1, hal⟩ norm ex rt
  simp only at hi hsm hs0 hs1 hal
  by_cases hlt : k < p.length
  ·obtain ⟨x, hx⟩ : ∃ x, p[k]? = some x := ⟨_, lgE hlt⟩
   have hxa := elt_at plh hi hx
   have hax := harc x
   have hdx := hdl x
   have hatx := hat x
   have htk : ((p.take (k + 1)).map fun a => (lk a).dl).sum = sm + (lk x).dl := by rw [take_succ_get hx]; simp [hsm]
   by_cases hr : 0 ≤ x ∧ x < 2 * links.length
   ·rw [decide_eq_true hr] at hax
    have hdx := hdx hr.1 hr.2
    conv => cbv
    repeat' first | (intro e he; cases osj (he.symm.trans hxa); (conv => cbv)) | (refine call_r hax rfl rfl ?_; conv => cbv) | (intro hc; rw [tdiv2 (by omega) (by omega)] at hc; conv => cbv) | (intro (_ : Unit); decide) | (intro e he; obtain ⟨⟨xa, xb, xc, xd, xe, xf, xg⟩, hlx, rfl⟩ := map_get' hll he; have hlk := hatx _ (get_at hlx (by omega)); rw [hlk] at hdx htk; simp only at hdx htk; (conv => cbv)) | exact gu | exact trivial | refine And.intro ?_ ?_ | (intro hc; exact absurd hc (by decide)) | (intro hc; exfalso; omega) | (intro hc; (first | rw [wS (by omega) (by omega)] at hc | rw [nI_eq] at hc | skip); try (conv => cbv))
    refine norm _ _ (_, _) ?_ (Wk.cw)
    refine ⟨by simp only; omega, by omega, by simp only; rw [htk]; omega, by simp only; omega, by simp only; omega, fun a ha => ?_⟩
    rw [take_succ_get hx] at ha
    rcases List.mem_append.1 ha with ha | ha
    ·exact hal a ha
    ·rw [List.mem_singleton.1 ha]; exact hr
   ·rw [decide_eq_false hr] at hax
    have kr := kr (fun h => hr (h x (List.mem_of_getElem? hx)))
    conv => cbv
    repeat' first | (intro e he; cases osj (he.symm.trans hxa); (conv => cbv)) | (refine call_r hax rfl rfl ?_; conv => cbv) | exact gu | exact trivial | refine And.intro ?_ ?_ | (intro hc; exact absurd hc (by decide)) | (intro hc; exfalso; omega) | (intro hc; (first | rw [wS (by omega) (by omega)] at hc | rw [nI_eq] at hc | skip); try (conv => cbv))
    refine rt _ _ ?_
    conv => cbv
    exact kr
  ·rw [List.take_of_length_le (by omega)] at hsm hal
   have kv := kv hal
   rw [← hsm] at kv
   conv => cbv
   repeat' first | exact gu | exact trivial | refine And.intro ?_ ?_ | (intro hc; exact absurd hc (by decide)) | (intro hc; exfalso; omega) | (intro hc; (first | rw [wS (by omega) (by omega)] at hc | rw [nI_eq] at hc | skip); try (conv => cbv))
   refine ex _ _ _ ?_
   conv => cbv
   repeat' first | exact gu | exact trivial | refine And.intro ?_ ?_ | (intro hc; exact absurd hc (by decide)) | (intro hc; exfalso; omega) | (intro hc; (first | rw [wS (by omega) (by omega)] at hc | rw [nI_eq] at hc | skip); try (conv => cbv))
   exact kv
theorem sortc_ok (P : Program) (hP : P = Try.prog) (t : Top) (a b : List Int) (hL : (t.links.length : Int) ≤ 256) (ha : a.length ≤ 1000) (hb : b.length ≤ 1000) :
  Ret P n_kpaths_Shortest_1 [intsA a, intsA b, .c (.rp [iD t.nodes, boolsD t.ov, linksD t.links])] (iA (ordS (cst t a) (cst t b) a b)) := by
 have h3 := compare_ok P hP t a b hL ha hb
 refine ret_start (hP ▸ mixed) (hP ▸ fn_kpaths_Shortest_1) (hP ▸ c_kpaths_Shortest_1) (nle rfl) fun Λ Λo K hK => ?_
 clear hP
 generalize ordS (cst t a) (cst t b) a b = r at *
 simp only [topA, intsA, intsD, boolsD, linksD] at *
 generalize t.ov.map encB = ovl at *
 generalize t.links.map encLk = lkl at *
 generalize a.map encI = al at *
 generalize b.map encI = bl at *
 generalize t.nodes = nodes at *
 conv => cbv
 repeat' first | (refine call_r h3 rfl rfl ?_; conv => cbv) | exact gu | exact trivial | refine And.intro ?_ ?_ | (intro hc; exact absurd hc (by decide)) | (intro hc; exfalso; omega) | (intro hc; (first | rw [wS (by omega) (by omega)] at hc | rw [nI_eq] at hc | skip); try (conv => cbv))
 exact hK
end Go.Ab

/-
  Putting lists of numbers together.
-/
namespace Go.Ab
open Go.Proofs
theorem call_inI {P : Program} {m : Nat} {L : Lv} {h : Hp} {f : Nat} {fn : Func} {af : AF} {xs : List X} {K : Lv → AV → Hp → Prop} (hm : P.follows .mixedOrders = true) (hf : P.funcs[f]? = some fn) (hc : compF P fn = some af) (hl : (evsN L xs).length ≤ af.nt)
  (hv : ∀ Λ : Len, (∀ l, Λ l = (l.length : Int)) → vcH P Λ af (evsN L xs) h (K L)) : CallS P m false L h f xs K := .fn (fn_heap hm hf hc hl hv)
def sumLenI (l : List (List Int)) : Nat := (l.map List.length).sum
theorem sumLenI_take {l : List (List Int)} {k : Nat} {x : List Int} (h : l[k]? = some x) : sumLenI (l.take (k + 1)) = sumLenI (l.take k) + x.length := by
 rw [take_succ_get h]; simp [sumLenI]
theorem sumLenI_le (l : List (List Int)) (k : Nat) : sumLenI (l.take k) ≤ sumLenI l := by
 have : sumLenI l = sumLenI (l.take k) + sumLenI (l.drop k) := by
  conv => lhs; rw [← List.take_append_drop k l]
  simp [sumLenI, -List.take_append_drop]
 omega
theorem flat_lenI (l : List (List Int)) : l.flatten.length = sumLenI l := by simp [sumLenI, List.length_flatten]
theorem concatInts_ok (P : Program) (hP : P = Try.prog) (l : List (List Int)) (hl : sumLenI l ≤ 1000000) : Ret P n_slices_Concat_int_int [.c (.d (.list false 1 (l.map encRow)))] (intsA l.flatten) := by
 refine ret_start (hP ▸ mixed) (hP ▸ fn_slices_Concat_int_int) (hP ▸ c_slices_Concat_int_int) (nle rfl) fun Λ Λo K hK => ?_
 have gm : P.follows .mixedOrders = true := hP ▸ mixed
 have gf := hP ▸ fn_slices_Grow_int_int
 have gc := hP ▸ c_slices_Grow_int_int
 clear hP
 generalize llh : l.map encRow = ll at *
 have lln : Λ ll = l.length := by rw [Λo, ← llh]; simp
 conv => cbv
 repeat' first | exact gu | exact trivial | refine And.intro ?_ ?_ | (intro hc; exact absurd hc (by decide)) | (intro hc; exfalso; omega) | (intro hc; (first | rw [wS (by omega) (by omega)] at hc | rw [nI_eq] at hc | skip); try (conv => cbv))
 refine loop_up l.length (fun (s : Int × Int) => [(0, .c (.d (.list false 1 ll))), (3, iA s.2), (9, .c (.d (.list false 1 ll))), (10, iA (Λ ll)), (11, iA s.1)]) (fun _ => []) (fun k s => s.1 = k ∧ k ≤ l.length ∧ s.2 = sumLenI (l.take k)) (0, 0) (Wk.cw) ⟨rfl, by omega, by simp [sumLenI]⟩ (fun k s h => h.2.1) ?_
 rintro k ⟨i, sz⟩ Q' ⟨hi, hk, hsz⟩ norm ex rt
 simp only at hi hsz
 have hle := sumLenI_le l k
 by_cases hlt : k < l.length
 ·obtain ⟨x, hx⟩ : ∃ x, l[k]? = some x := ⟨_, lgE hlt⟩
  have hxa := elt_at llh hi hx
  have hst := sumLenI_take hx
  have hle2 := sumLenI_le l (k + 1)
  simp only [encRow, intsD] at hxa
  generalize xlh : List.map encI x = xl at *
  have xln : Λ xl = x.length := by rw [Λo, ← xlh]; simp
  conv => cbv
  repeat' first | (refine ex _ _ _ ?_; (conv => cbv)) | (refine rt _ _ ?_; (conv => cbv)) | (intro e he; cases osj (he.symm.trans hxa); (conv => cbv)) | exact gu | exact trivial | refine And.intro ?_ ?_ | (intro hc; exact absurd hc (by decide)) | (intro hc; exfalso; omega) | (intro hc; (first | rw [wS (by omega) (by omega)] at hc | rw [nI_eq] at hc | skip); try (conv => cbv))
  refine norm _ _ (_, _) ?_ (Wk.cw)
  exact ⟨by simp only; omega, by omega, by simp only; omega⟩
 ·conv => cbv
  repeat' first | (refine ex _ _ _ ?_; (conv => cbv)) | (refine rt _ _ ?_; (conv => cbv)) | exact gu | exact trivial | refine And.intro ?_ ?_ | (intro hc; exact absurd hc (by decide)) | (intro hc; exfalso; omega) | (intro hc; (first | rw [wS (by omega) (by omega)] at hc | rw [nI_eq] at hc | skip); try (conv => cbv))
  clear norm ex rt
  rw [List.take_of_length_le (by omega)] at hsz
  refine call_inI gm gf gc (nle rfl) fun Λ' Λo' => ?_
  have hΛ0 : Λ' [] = 0 := by rw [Λo']; rfl
  conv => cbv
  repeat' first | exact gu | exact trivial | refine And.intro ?_ ?_ | (intro hc; exact absurd hc (by decide)) | (intro hc; exfalso; omega) | (intro hc; (first | rw [wS (by omega) (by omega)] at hc | rw [nI_eq] at hc | skip); try (conv => cbv))
  all_goals (clear gm gf gc)
  all_goals first
   | refine loop_up l.length (fun (s : Int × Nat × Nat × Bool × List (List D)) => [(6, .c (.arr 0 s.2.1 0 s.2.2.1)), (25, .c (.d (.list false 1 ll))), (26, iA (Λ ll)), (27, iA s.1)]) (fun s => [.da s.2.2.2.1 s.2.1 1 s.2.2.2.2]) (fun k s => s.1 = k ∧ k ≤ l.length ∧ s.2.2.1 = sumLenI (l.take k) ∧ s.2.2.2.2.take s.2.2.1 = (l.take k).flatten.map encI) (0, 0, _, _, _) (Wk.cw) ⟨rfl, by omega, ?_, ?_⟩ (fun k s h => h.2.1) ?_
   | refine loop_up l.length (fun (s : Int × Nat × Nat × Bool × List (List D)) => [(6, .c (.arr 0 s.2.1 0 s.2.2.1)), (25, .c (.d (.list false 1 ll))), (26, iA (Λ ll)), (27, iA s.1)]) (fun s => [.da s.2.2.2.1 s.2.1 1 s.2.2.2.2]) (fun k s => s.1 = k ∧ k ≤ l.length ∧ s.2.2.1 = sumLenI (l.take k) ∧ s.2.2.2.2.take s.2.2.1 = (l.take k).flatten.map encI) (0, 0, 0, false, []) (.trans (.nilS 6 1 rfl) (Wk.cw)) ⟨rfl, by omega, rfl, rfl⟩ (fun k s h => h.2.1) ?_
  ·rename_i n0 hn0; rw [show n0 = 0 by omega]; rfl
  ·rename_i n0 hn0; rw [show n0 = 0 by omega]; rfl
  all_goals clear hle hlt hi hk
  all_goals rintro k ⟨i, v, n, r, es⟩ Q' ⟨hi, hk, hn, hes⟩ norm ex rt
  all_goals simp only at hi hes hn
  all_goals have hle := sumLenI_le l k
  all_goals by_cases hlt : k < l.length
  case pos | pos =>
   obtain ⟨x, hx⟩ : ∃ x, l[k]? = some x := ⟨_, lgE hlt⟩
   have hxa := elt_at llh hi hx
   have hst := sumLenI_take hx
   have hle2 := sumLenI_le l (k + 1)
   simp only [encRow, intsD] at hxa
   generalize xlh : List.map encI x = xl at *
   have xln : Λ xl = x.length := by rw [Λo, ← xlh]; simp
   have xll : xl.length = x.length := by rw [← xlh]; simp
   conv => cbv
   repeat' first | (refine ex _ _ _ ?_; (conv => cbv)) | (refine rt _ _ ?_; (conv => cbv)) | (intro e he; cases osj (he.symm.trans hxa); (conv => cbv)) | (intro (_ : Unit); refine ⟨rfl, ?_⟩; rw [xll]; omega) | exact gu | exact trivial | refine And.intro ?_ ?_ | (intro hc; exact absurd hc (by decide)) | (intro hc; exfalso; omega) | (intro hc; (first | rw [wS (by omega) (by omega)] at hc | rw [nI_eq] at hc | skip); try (conv => cbv))
   rename_i m r' es' hm hr he' _
   refine norm _ _ (_, _, _, _, _) ?_ (Wk.cw)
   refine ⟨by simp only; omega, by omega, by simp only; omega, ?_⟩
   simp only
   rw [hm, he', take_succ_get hx, List.drop_zero, xll, hes, ← xlh]
   have : n = (List.map encI (List.take k l).flatten).length := by rw [List.length_map, flat_lenI]; exact hn
   rw [List.take_of_length_le (by simp only [List.length_append, List.length_map] at this ⊢; omega)]
   simp
  all_goals
   conv => cbv
   repeat' first | (refine ex _ _ _ ?_; (conv => cbv)) | (refine rt _ _ ?_; (conv => cbv)) | exact gu | exact trivial | refine And.intro ?_ ?_ | (intro hc; exact absurd hc (by decide)) | (intro hc; exfalso; omega) | (intro hc; (first | rw [wS (by omega) (by omega)] at hc | rw [nI_eq] at hc | skip); try (conv => cbv))
   rename_i ls
   have : ls = l.flatten.map encI := by rw [hc, List.drop_zero, hes, List.take_of_length_le (by omega)]
   subst this
   exact hK
theorem cloneI_any (P : Program) (hP : P = Try.prog) (ll : List (List D)) (hl : ll.length ≤ 1000000) : FnS P n_slices_Clone_int_int [.c (.d (.list false 1 ll))] [] fun r h' => (ll = [] ∧ r = .c (.d (.list true 1 [])) ∧ h' = []) ∨ ∃ rr n, n = ll.length ∧ r = .c (.arr 0 1 0 n) ∧ h' = [.da rr 1 1 ll] := by
 refine fn_heap (hP ▸ mixed) (hP ▸ fn_slices_Clone_int_int) (hP ▸ c_slices_Clone_int_int) (nle rfl) fun Λ Λo => ?_
 clear hP
 generalize hK : (fun (r : AV) (h' : Hp) => (ll = [] ∧ r = .c (.d (.list true 1 [])) ∧ h' = []) ∨ ∃ rr n, n = ll.length ∧ r = .c (.arr 0 1 0 n) ∧ h' = [.da rr 1 1 ll]) = K
 have k1 : ∀ n rl es, es = ll → n = ll.length → K (.c (.arr 0 1 0 n)) [Blk.da rl 1 1 es] := by
  intro n rl es h1 h2; rw [← hK]; subst h1; exact .inr ⟨_, n, h2, rfl, rfl⟩
 have k0 : ll = [] → K (.c (.d (.list true 1 []))) [] := fun h => by rw [← hK]; exact .inl ⟨h, rfl, rfl⟩
 clear hK
 have lln := Λo ll
 conv => cbv
 repeat' first | exact gu | exact trivial | refine And.intro ?_ ?_ | (intro hc; exact absurd hc (by decide)) | (intro hc; exfalso; omega) | (intro hc; (first | rw [wS (by omega) (by omega)] at hc | rw [nI_eq] at hc | skip); try (conv => cbv))
 ·refine k1 _ _ _ ?_ ?_
  ·rw [hc]; simp
  ·rename_i h1 _; rw [h1]; simp
 ·exact k0 (by assumption)
end Go.Ab

/-
  Comparing the versions of blocks.
-/
namespace Go.Ab
open Go.Proofs
theorem bq_self (n : Nat) : Nat.beq n n = true := Nat.beq_refl n
theorem bq_old (n : Nat) : Nat.beq n n.succ = false := by
 rw [Bool.eq_false_iff]; intro h; have := Nat.eq_of_beq_eq_true h; omega
theorem bq_lit (a b : Nat) : Nat.beq a b = decide (a = b) := by
 by_cases h : a = b
 ·subst h; simp
 ·rw [decide_eq_false h, Bool.eq_false_iff]; exact fun h' => h (Nat.eq_of_beq_eq_true h')
end Go.Ab

