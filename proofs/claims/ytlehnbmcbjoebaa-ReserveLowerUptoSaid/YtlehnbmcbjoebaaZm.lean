/-
  Merged texts, part m.
-/
import Derived.Test.YtlehnbmcbjoebaaZl
/-
  Reservations, part h: the program's table: proper requests; a new table.
-/
namespace Go.Ab
open Go.Proofs
theorem tproper_ok (P : Program) (hP : P = Try.prog) (caps : List Int) (v : Nat) (m : List Rq) (r : Rq) (hc : caps.length ≤ 1000) :
  FnS P n_reserve_Table_proper [.c (.ptr 0 0 0 0), rqA r] (rsvH caps v m) fun r' h' => r' = bA (decide (PropN (2 * caps.length) r)) ∧ h' = rsvH caps v m := by
 have h1 : FnS P n_reserve_Table_proper [.c (.ptr 0 0 0 0), rqA r] (rsvH caps v m) fun r' h' => ∃ h2, r' = bA (decide (PropN (2 * caps.length) r)) ∧ h' = rsvH caps v m ++ h2 := by
  have hhas := fun a => thas_ok P hP caps v m a hc
  have hcon := fun l a => contains_ok P hP l a
  refine heap_start (hP ▸ mixed) (hP ▸ fn_reserve_Table_proper) (hP ▸ c_reserve_Table_proper) (Nat.le_of_ble_eq_true rfl) fun Λ Λo K hK => ?_
  clear hP
  have yes : PropN (2 * caps.length) r → ∀ h2, K (bA true) (rsvH caps v m ++ h2) := fun h h2 => hK _ _ ⟨h2, by rw [decide_eq_true h], rfl⟩
  have no : ¬ PropN (2 * caps.length) r → ∀ h2, K (bA false) (rsvH caps v m ++ h2) := fun h h2 => hK _ _ ⟨h2, by rw [decide_eq_false h], rfl⟩
  clear hK
  obtain ⟨id, arcs, amt, setup, hold⟩ := r
  unfold PropN at yes no
  simp only at yes no
  simp only [rsvH, rqA, intsA, intsD, List.cons_append, List.nil_append] at *
  generalize caps.map encI = cl at *
  generalize m.map encM = ml at *
  generalize 2 * (caps.length : Int) = n at *
  obtain ⟨al, alh⟩ : ∃ al, arcs.map encI = al := ⟨_, rfl⟩
  rw [alh]
  have aln : Λ al = arcs.length := by rw [Λo, ← alh]; simp
  conv => cbv
  repeat' first | exact gu | exact trivial | refine And.intro ?_ ?_ | (intro hc; exact absurd hc (by decide)) | (intro hc; exfalso; omega) | (intro hc; (first | rw [wrap_small (by omega) (by omega)] at hc | rw [nI_eq] at hc | skip); try (conv => cbv))
  all_goals try (exact no (by omega) [_])
  refine loop_upx arcs.length (fun i : Int => [(0, .c (.ptr 0 0 0 0)), (3, .c (.ptr 2 0 0 0)), (28, .c (.d (.list false 1 al))), (29, iA (Λ al)), (30, iA i)])
   (fun _ => [.bx [.d (.list false 1 cl), .mp 1], .mp v ml, .bx [.d (iD id), .d (.list false 1 al), .d (iD amt), .d (iD setup), .d (iD hold)]])
   (fun k i => i = k ∧ k ≤ arcs.length ∧ (arcs.take k).Nodup ∧ ∀ a ∈ arcs.take k, 0 ≤ a ∧ a < n) 0 0
   (fun (_ : Unit) => [(3, .c (.ptr 2 0 0 0))]) (fun _ => [.bx [.d (.list false 1 cl), .mp 1], .mp v ml, .bx [.d (iD id), .d (.list false 1 al), .d (iD amt), .d (iD setup), .d (iD hold)]])
   (fun _ => arcs.Nodup ∧ ∀ a ∈ arcs, 0 ≤ a ∧ a < n) (Wk.ca) ⟨rfl, by omega, by simp, by simp⟩ (fun k s h => h.2.1) ?_ ?_
  ·rintro k i Q' ⟨hi, hk, hnd, hrg⟩ norm jn ex rt
   by_cases hlt : k < arcs.length
   ·obtain ⟨x, hx⟩ : ∃ x, arcs[k]? = some x := ⟨_, List.getElem?_eq_getElem hlt⟩
    have hxa := elt_at alh hi hx
    have hhx := hcon (arcs.take k) x
    have ik : i.toNat = k := by omega
    obtain ⟨tl, htl⟩ : ∃ tl, tl = List.take (Int.toNat i) al := ⟨_, rfl⟩
    rw [List.map_take, alh, ← ik, ← htl, ik] at hhx
    have hhs := hhas x
    by_cases hxr : 0 ≤ x ∧ x < n
    rotate_left
    ·rw [decide_eq_false hxr] at hhs
     clear hhx jn norm
     conv => cbv
     repeat' first | (refine ex _ _ _ ?_; (conv => cbv)) | (refine rt _ _ ?_; (conv => cbv)) | (intro e he; cases Option.some.inj (he.symm.trans hxa); (conv => cbv)) | (refine call_fr [0, 1] hhs rfl rfl (by decide) (by repeat' first | exact trivial | refine And.intro ?_ ?_ | rfl) rfl rfl ?_; rintro r hc' ⟨rfl, rfl⟩; (conv => cbv)) | exact gu | exact trivial | refine And.intro ?_ ?_ | (intro hc; exact absurd hc (by decide)) | (intro hc; exfalso; omega) | (intro hc; (first | rw [wrap_small (by omega) (by omega)] at hc | rw [nI_eq] at hc | skip); try (conv => cbv))
     exact no (fun h => hxr (h.2.2.2.2.2 x (List.mem_of_getElem? hx))) [_]
    rw [decide_eq_true hxr] at hhs
    conv => cbv
    repeat' first | (refine ex _ _ _ ?_; (conv => cbv)) | (refine rt _ _ ?_; (conv => cbv)) | (intro e he; cases Option.some.inj (he.symm.trans hxa); (conv => cbv)) | (refine call_fr [0, 1] hhs rfl rfl (by decide) (by repeat' first | exact trivial | refine And.intro ?_ ?_ | rfl) rfl rfl ?_; rintro r hc' ⟨rfl, rfl⟩; (conv => cbv)) | (intro (y : List (List D)) hy; refine (fun (hz : tl = y) => ?_) (htl.trans hy.symm); subst hz; (conv => cbv)) | refine call_b hhx rfl rfl ?_ ?_ | exact gu | exact trivial | refine And.intro ?_ ?_ | (intro hc; exact absurd hc (by decide)) | (intro hc; exfalso; omega) | (intro hc; (first | rw [wrap_small (by omega) (by omega)] at hc | rw [nI_eq] at hc | skip); try (conv => cbv))
    ·exact no (fun h => nodup_at h.2.2.2.2.1 hx (of_decide_eq_true (by assumption))) [_]
    ·refine norm _ _ _ ?_ (Wk.ca)
     have hnx : x ∉ arcs.take k := of_decide_eq_false (by assumption)
     rw [take_succ_get hx]
     refine ⟨by omega, by omega, ?_, ?_⟩
     ·rw [List.nodup_append]
      exact ⟨hnd, by simp, fun a ha b hb => by simp only [List.mem_singleton] at hb; subst hb; intro e; subst e; exact hnx ha⟩
     ·intro a ha
      rcases List.mem_append.1 ha with ha | ha
      ·exact hrg a ha
      ·simp only [List.mem_singleton] at ha; subst ha; exact hxr
   ·have jn := fun L h => jn L h () (by rw [List.take_of_length_le (by omega)] at hnd hrg; exact ⟨hnd, hrg⟩)
    clear norm
    conv => cbv
    repeat' first | exact gu | exact trivial | refine And.intro ?_ ?_ | (intro hc; exact absurd hc (by decide)) | (intro hc; exfalso; omega) | (intro hc; (first | rw [wrap_small (by omega) (by omega)] at hc | rw [nI_eq] at hc | skip); try (conv => cbv))
    exact jn _ _ (Wk.ca)
  ·rintro - ⟨hnd, hrg⟩
   conv => cbv
   repeat' first | exact gu | exact trivial | refine And.intro ?_ ?_ | (intro hc; exact absurd hc (by decide)) | (intro hc; exfalso; omega) | (intro hc; (first | rw [wrap_small (by omega) (by omega)] at hc | rw [nI_eq] at hc | skip); try (conv => cbv))
   all_goals first | exact yes ⟨by omega, by omega, by omega, by omega, hnd, hrg⟩ [_] | exact no (by omega) [_]
 refine (FnS.cut h1 ?_).mono ?_
 ·rintro r' h' ⟨h2, rfl, rfl⟩
  exact ⟨rfl, rfl⟩
 ·rintro r' h1 ⟨h2, ⟨h3, rfl, e⟩, hl⟩
  exact ⟨rfl, (List.append_inj e hl).1⟩
def capsT (t : Top) : List Int := t.links.map (·.cap)
def NewR (t : Top) (r : AV) (h' : Hp) : Prop := (validT t = true ∧ r = .tup [.c (.ptr 0 0 0 0), iA 0] ∧ h' = rsvH (capsT t) 0 []) ∨ (validT t = false ∧ r = .tup [.c (.d .nilp), iA 1] ∧ h' = [])
theorem tnew_ok (P : Program) (hP : P = Try.prog) (t : Top) : FnS P n_reserve_New [topA t] [] (NewR t) := by
 have h1 : FnS P n_reserve_New [topA t] [] fun r h' => (validT t = true ∧ r = .tup [.c (.ptr 2 0 0 0), iA 0] ∧ ∃ b h2, h' = [b, .mp 0 [], .bx [.d (intsD (capsT t)), .mp 1]] ++ h2) ∨ (validT t = false ∧ r = .tup [.c (.d .nilp), iA 1]) := by
  have hval := tvalid_ok P hP t
  refine heap_start (hP ▸ mixed) (hP ▸ fn_reserve_New) (hP ▸ c_reserve_New) (Nat.le_of_ble_eq_true rfl) fun Λ Λo K hK => ?_
  clear hP
  by_cases hv : validT t = true
  rotate_left
  ·have hv : validT t = false := by simpa using hv
   have k0 : ∀ h', K (.tup [.c (.d .nilp), iA 1]) h' := fun h' => hK _ _ (.inr ⟨hv, rfl⟩)
   clear hK
   rw [hv] at hval
   obtain ⟨nodes, ov, links⟩ := t
   simp only [topA, boolsD, linksD] at *
   generalize hol : ov.map encB = ol at *
   generalize hll : links.map encLk = ll at *
   have hlo : Λ ol = ov.length := by rw [Λo, ← hol]; simp
   have hls : Λ ll = links.length := by rw [Λo, ← hll]; simp
   conv => cbv
   repeat' first | refine call_b hval rfl rfl ?_ ?_ | exact gu | exact trivial | refine And.intro ?_ ?_ | (intro hc; exact absurd hc (by decide)) | (intro hc; exfalso; omega) | (intro hc; (first | rw [wrap_small (by omega) (by omega)] at hc | rw [nI_eq] at hc | skip); try (conv => cbv))
   exact k0 _
  have k1 : ∀ b h2, K (.tup [.c (.ptr 2 0 0 0), iA 0]) ([b, .mp 0 [], .bx [.d (intsD (capsT t)), .mp 1]] ++ h2) := fun b h2 => hK _ _ (.inl ⟨hv, rfl, b, h2, rfl⟩)
  clear hK
  have h256 := (validT_spec.1 hv).2.2.1
  rw [hv] at hval
  clear hv
  rw [capsT] at k1
  obtain ⟨nodes, ov, links⟩ := t
  simp only [topA, boolsD, linksD] at *
  generalize hol : ov.map encB = ol at *
  generalize hll : links.map encLk = ll at *
  have hlo : Λ ol = ov.length := by rw [Λo, ← hol]; simp
  have hls : Λ ll = links.length := by rw [Λo, ← hll]; simp
  simp only [intsD, List.cons_append, List.nil_append] at k1
  obtain ⟨cs, hcs⟩ : ∃ cs, cs = (links.map (·.cap)).map encI := ⟨_, rfl⟩
  rw [← hcs] at k1
  have hst : ∀ k x, links[k]? = some x → ((links.take (k + 1)).map (·.cap)).map encI = ((links.take k).map (·.cap)).map encI ++ [[iD x.cap]] := fun k x hx => by rw [take_succ_get hx]; simp [encI]
  have hall : links.take links.length = links := List.take_length
  have hlen : ∀ k, ((links.take k).map (·.cap)).map encI = ((links.take k).map (·.cap)).map encI := fun _ => rfl
  clear hlen
  conv => cbv
  repeat' first | refine call_b hval rfl rfl ?_ ?_ | exact gu | exact trivial | refine And.intro ?_ ?_ | (intro hc; exact absurd hc (by decide)) | (intro hc; exfalso; omega) | (intro hc; (first | rw [wrap_small (by omega) (by omega)] at hc | rw [nI_eq] at hc | skip); try (conv => cbv))
  refine loop_upx links.length (fun s : Int × Nat × Bool × Nat × List (List D) => [(4, .c (.ptr 2 0 0 0)), (14, .c (.d (.list false 7 ll))), (15, iA (Λ ll)), (16, iA s.1)])
   (fun s => [.bx [.d (iD nodes), .d (.list false 1 ol), .d (.list false 7 ll)], .mp 0 [], .bx [.arr 3 s.2.1 0 s.2.2.2.1, .mp 1], .da s.2.2.1 s.2.1 1 s.2.2.2.2])
   (fun k s => s.1 = k ∧ k ≤ links.length ∧ s.2.2.2.1 = k ∧ s.2.2.2.2 = ((links.take k).map (·.cap)).map encI ∧ s.2.2.2.2.length = k) (0, 0, false, 0, []) 0
   (fun (_ : Unit) => [(4, .c (.ptr 2 0 0 0))]) (fun _ => [.bx [.d (iD nodes), .d (.list false 1 ol), .d (.list false 7 ll)], .mp 0 [], .bx [.d (.list false 1 cs), .mp 1], .dead]) (fun _ => True)
   (.trans (.nilB 2 0 1 _ rfl rfl) (Wk.ca)) ⟨rfl, by omega, rfl, by simp, rfl⟩ (fun k s h => h.2.1) ?_ ?_
  ·rintro k ⟨i, ve, rr, n, es⟩ Q' ⟨hi, hk, hn, hes, hel⟩ norm jn ex rt
   simp only at hi hn hes hel
   by_cases hlt : k < links.length
   ·clear jn
    obtain ⟨⟨xa, xb, xc, xd, xcap, xdl, xg⟩, hx⟩ : ∃ x, links[k]? = some x := ⟨_, List.getElem?_eq_getElem hlt⟩
    have hxa := elt_at hll hi hx
    simp only [encLk] at hxa
    have hst := hst k _ hx
    simp only at hst
    rw [← hes] at hst
    obtain ⟨n1, hn1⟩ : ∃ n1, n1 = n + 1 := ⟨_, rfl⟩
    obtain ⟨e1, he1⟩ : ∃ e1, e1 = es ++ [[iD xcap]] := ⟨_, rfl⟩
    conv => cbv
    repeat' first | (refine ex _ _ _ ?_; (conv => cbv)) | (refine rt _ _ ?_; (conv => cbv)) | (intro e he; cases Option.some.inj (he.symm.trans hxa); (conv => cbv)) | (intro (m : Nat) (r : Bool) (y : List (List D)) hm hr hy; refine (fun (hz : n1 = m) (hz2 : e1 = y) => ?_) (by first | omega | (simp only [List.length_cons, List.length_nil] at hm; omega)) (by first | (rw [hy, List.drop_zero, List.take_of_length_le (by omega)]; exact he1) | (rw [hy]; exact he1)); subst hz; subst hz2; (conv => cbv)) | exact gu | exact trivial | refine And.intro ?_ ?_ | (intro hc; exact absurd hc (by decide)) | (intro hc; exfalso; omega) | (intro hc; (first | rw [wrap_small (by omega) (by omega)] at hc | rw [nI_eq] at hc | skip); try (conv => cbv))
    refine norm _ _ (_, _, _, _, _) ?_ (Wk.ca)
    exact ⟨by simp only; omega, by omega, by simp only; omega, by simp only; rw [hst, he1], by simp only; rw [he1]; simp; omega⟩
   ·obtain rfl : k = links.length := by omega
    rw [hall] at hes
    obtain rfl : es = cs := by rw [hes, hcs]
    clear norm hst
    conv => cbv
    repeat' first | exact gu | exact trivial | refine And.intro ?_ ?_ | (intro hc; exact absurd hc (by decide)) | (intro hc; exfalso; omega) | (intro hc; (first | rw [wrap_small (by omega) (by omega)] at hc | rw [nI_eq] at hc | skip); try (conv => cbv))
    refine jn _ _ () trivial (.trans (wk_z 3 ve 1 n rfl (by omega) (by simp [okL, okA, okCs, okC, bq_lit]) (by first | (simp [okH, okB, okCs, okC]; done) | simp [okH, okB, okCs, okC, bq_lit])) ?_)
    simp only [zL, zA, zCs, zC, zH, zB, bq_self, bq_old]
    exact Wk.ca
  ·rintro - -
   conv => cbv
   repeat' first | exact gu | exact trivial | refine And.intro ?_ ?_ | (intro hc; exact absurd hc (by decide)) | (intro hc; exfalso; omega) | (intro hc; (first | rw [wrap_small (by omega) (by omega)] at hc | rw [nI_eq] at hc | skip); try (conv => cbv))
   exact k1 _ [_]
 refine FnS.gct h1 _ fun r h' hR => ?_
 rcases hR with ⟨hv, rfl, b, h2, rfl⟩ | ⟨hv, rfl⟩
 ·exact ⟨[2, 1], .tup [.c (.ptr 0 0 0 0), iA 0], rsvH (capsT t) 0 [], .inl ⟨hv, rfl, rfl⟩, rfl, by decide, fun l hl => by simp at hl ⊢; omega,
   fun i k hk => by (match i, hk with | 0, hk => cases Option.some.inj hk; rfl | 1, hk => cases Option.some.inj hk; rfl), rfl, rfl, rfl, by simp, fun i hi => by simp at hi, fun k hk => by simp at hk; rcases hk with rfl | rfl <;> intro _ _ _ h <;> cases h⟩
 ·exact ⟨[], .tup [.c (.d .nilp), iA 1], [], .inr ⟨hv, rfl, rfl⟩, rfl, by simp, by simp, fun i k hk => by simp at hk, rfl, rfl, rfl, by simp, by simp, by simp⟩
end Go.Ab

/-
  Reservations, part i: the order in which reservations yield.
-/
namespace Go.Ab
open Go.Proofs
def cmpI (x y : Int) : Int := if x < y then -1 else if y < x then 1 else 0
def cmpH (h1 i1 h2 i2 : Int) : Int := if cmpI h2 h1 = 0 then cmpI i1 i2 else cmpI h2 h1
theorem nan_ok (P : Program) (hP : P = Try.prog) (x : Int) : Ret P n_cmp_isNaN_int [iA x] (bA false) := by
 refine ret_start (hP ▸ mixed) (hP ▸ fn_cmp_isNaN_int) (hP ▸ c_cmp_isNaN_int) (Nat.le_of_ble_eq_true rfl) fun Λ Λo K hK => ?_
 clear hP
 conv => cbv
 repeat' first | exact gu | exact trivial | refine And.intro ?_ ?_ | (intro hc; exact absurd hc (by decide)) | (intro hc; exfalso; omega) | (intro hc; (first | rw [wrap_small (by omega) (by omega)] at hc | rw [nI_eq] at hc | skip); try (conv => cbv))
 exact hK
theorem compare_ok (P : Program) (hP : P = Try.prog) (x y : Int) : Ret P n_cmp_Compare_int [iA x, iA y] (iA (cmpI x y)) := by
 have hn := nan_ok P hP
 refine ret_start (hP ▸ mixed) (hP ▸ fn_cmp_Compare_int) (hP ▸ c_cmp_Compare_int) (Nat.le_of_ble_eq_true rfl) fun Λ Λo K hK => ?_
 clear hP
 have leaf : ∀ b : Int, cmpI x y = b → K (iA b) := fun b hb => by rw [← hb]; exact hK
 clear hK
 unfold cmpI at leaf
 conv => cbv
 repeat' first | refine call_b (hn _) rfl rfl ?_ ?_ | exact gu | exact trivial | refine And.intro ?_ ?_ | (intro hc; exact absurd hc (by decide)) | (intro hc; exfalso; omega) | (intro hc; (first | rw [wrap_small (by omega) (by omega)] at hc | rw [nI_eq] at hc | skip); try (conv => cbv))
 all_goals (refine leaf _ ?_; (repeat' split) <;> omega)
theorem or_ok (P : Program) (hP : P = Try.prog) (x y : Int) : Ret P n_cmp_Or_int [.c (.d (.list false 1 [[iD x], [iD y]]))] (iA (if x = 0 then y else x)) := by
 refine ret_start (hP ▸ mixed) (hP ▸ fn_cmp_Or_int) (hP ▸ c_cmp_Or_int) (Nat.le_of_ble_eq_true rfl) fun Λ Λo K hK => ?_
 clear hP
 have leaf : ∀ b : Int, (if x = 0 then y else x) = b → K (iA b) := fun b hb => by rw [← hb]; exact hK
 clear hK
 obtain ⟨al, hal⟩ : ∃ al, al = [[iD x], [iD y]] := ⟨_, rfl⟩
 rw [← hal]
 have aln : Λ al = 2 := by rw [Λo, hal]; rfl
 have g0 : ∀ i : Int, i = 0 → al[i.toNat]? = some [iD x] := fun i h => by rw [h, hal]; rfl
 have g1 : ∀ i : Int, i = 1 → al[i.toNat]? = some [iD y] := fun i h => by rw [h, hal]; rfl
 conv => cbv
 repeat' first | exact gu | exact trivial | refine And.intro ?_ ?_ | (intro hc; exact absurd hc (by decide)) | (intro hc; exfalso; omega) | (intro hc; (first | rw [wrap_small (by omega) (by omega)] at hc | rw [nI_eq] at hc | skip); try (conv => cbv))
 refine loop_up 2 (fun i : Int => [(3, iA 0), (6, .c (.d (.list false 1 al))), (7, iA (Λ al)), (8, iA i)]) (fun _ => []) (fun k i => i = k ∧ k ≤ 2 ∧ (1 ≤ k → x = 0) ∧ (2 ≤ k → y = 0)) 0 (Wk.cw) ⟨rfl, by omega, by omega, by omega⟩ (fun k s h => h.2.1) ?_
 rintro k i Q' ⟨hi, hk, h0, h1⟩ norm ex rt
 have hk3 : k = 0 ∨ k = 1 ∨ k = 2 := by omega
 rcases hk3 with rfl | rfl | rfl
 ·have gx := g0 i (by omega)
  conv => cbv
  repeat' first | (refine ex _ _ _ ?_; (conv => cbv)) | (refine rt _ _ ?_; (conv => cbv)) | (intro (e : List D) he; cases Option.some.inj (he.symm.trans gx); (conv => cbv)) | exact gu | exact trivial | refine And.intro ?_ ?_ | (intro hc; exact absurd hc (by decide)) | (intro hc; exfalso; omega) | (intro hc; (first | rw [wrap_small (by omega) (by omega)] at hc | rw [nI_eq] at hc | skip); try (conv => cbv))
  ·refine leaf _ ?_
   rw [if_neg (by assumption)]
  ·refine norm _ _ _ ?_ (Wk.cw)
   exact ⟨by omega, by omega, fun _ => by omega, by omega⟩
 ·have gx := g1 i (by omega)
  conv => cbv
  repeat' first | (refine ex _ _ _ ?_; (conv => cbv)) | (refine rt _ _ ?_; (conv => cbv)) | (intro (e : List D) he; cases Option.some.inj (he.symm.trans gx); (conv => cbv)) | exact gu | exact trivial | refine And.intro ?_ ?_ | (intro hc; exact absurd hc (by decide)) | (intro hc; exfalso; omega) | (intro hc; (first | rw [wrap_small (by omega) (by omega)] at hc | rw [nI_eq] at hc | skip); try (conv => cbv))
  ·refine leaf _ ?_
   rw [if_pos (h0 (by omega))]
  ·refine norm _ _ _ ?_ (Wk.cw)
   exact ⟨by omega, by omega, fun _ => h0 (by omega), fun _ => by omega⟩
 ·conv => cbv
  repeat' first | (refine ex _ _ _ ?_; (conv => cbv)) | (refine rt _ _ ?_; (conv => cbv)) | exact gu | exact trivial | refine And.intro ?_ ?_ | (intro hc; exact absurd hc (by decide)) | (intro hc; exfalso; omega) | (intro hc; (first | rw [wrap_small (by omega) (by omega)] at hc | rw [nI_eq] at hc | skip); try (conv => cbv))
  refine leaf _ ?_
  have e1 := h0 (by omega)
  have e2 := h1 (by omega)
  rw [if_pos e1, e2]
theorem ycmp_ok (P : Program) (hP : P = Try.prog) (i1 m1 s1 h1 i2 m2 s2 h2 : Int) (x y : D) : FnS P n_reserve_Table_yielding_1 [.agg [.d (iD i1), .d x, .d (iD m1), .d (iD s1), .d (iD h1)], .agg [.d (iD i2), .d y, .d (iD m2), .d (iD s2), .d (iD h2)]] [] fun r _ => r = iA (cmpH h1 i1 h2 i2) := by
 have hc := compare_ok P hP
 have ho := or_ok P hP (cmpI h2 h1) (cmpI i1 i2)
 refine heap_start (hP ▸ mixed) (hP ▸ fn_reserve_Table_yielding_1) (hP ▸ c_reserve_Table_yielding_1) (Nat.le_of_ble_eq_true rfl) fun Λ Λo K hK => ?_
 clear hP
 have leaf : ∀ b h', b = cmpH h1 i1 h2 i2 → K (iA b) h' := fun b h' e => hK _ _ (by rw [e])
 clear hK
 have hc1 := hc h2 h1
 have hc2 := hc i1 i2
 unfold cmpH at leaf
 clear hc
 generalize cmpI h2 h1 = c1 at *
 generalize cmpI i1 i2 = c2 at *
 conv => cbv
 repeat' first | (refine call_r hc1 rfl rfl ?_; conv => cbv) | (refine call_r hc2 rfl rfl ?_; conv => cbv) | (refine look_i ho rfl ?_; (conv => cbv)) | exact gu | exact trivial | refine And.intro ?_ ?_ | (intro hc; exact absurd hc (by decide)) | (intro hc; exfalso; omega) | (intro hc; (first | rw [wrap_small (by omega) (by omega)] at hc | rw [nI_eq] at hc | skip); try (conv => cbv))
 exact leaf _ _ (by assumption)
end Go.Ab

