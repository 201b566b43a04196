/-
  Merged texts, part q.
-/
import Derived.Test.YtllgchplnhaplaaZpb
/-
  One round of deviations from the path that was found last.
-/
namespace Go.Ab
open Go.Proofs
theorem dev1_cut (P : Program) (hP : P = Try.prog) (t : Top) (down : List Bool) (n d most : Int) (root : List Int) (vm : Nat) (ks : List Int) (hv : validT t = true) (hN8 : t.nodes ≤ 8) (hL : t.links.length ≤ 11) (hdn : down.length = 0 ∨ down.length = 2 * t.links.length)
  (hmost : 0 ≤ most) (hn : 0 ≤ n ∧ n < t.nodes) (hr : ∀ a ∈ root, 0 ≤ a ∧ a < 2 * t.links.length) (hrl : root.length ≤ 8) (hnc : n ∉ root.map (tailG t)) (hdc : d ∉ root.map (tailG t)) :
  FnS P n_kpaths_finder_deviation [finA t down d most, iA n, intsA root, .c (.mp 0)] [.mp vm (usM ks)] fun r h' => (∃ o, (devG t down (fun a => decide (a ∈ ks)) n d most root).DevO o ∧ r = devR1 root o) ∧ h' = [.mp vm (usM ks)] := by
 have h1 := dev1_ok P hP t down n d most root vm ks hv hN8 hL hdn hmost hn hr hrl hnc hdc _ rfl
 refine (FnS.cut2 h1 ?_).mono ?_
 ·rintro r h' ⟨⟨o, ho, rfl⟩, b, rfl⟩
  cases o with
  | none => exact ⟨_, _, rfl, rfl, rfl, rfl⟩
  | some q => exact ⟨_, _, rfl, rfl, rfl, rfl⟩
 ·rintro r h1 ⟨h2, ⟨ho, b, e⟩, hl⟩
  refine ⟨ho, ?_⟩
  have e : h1 ++ h2 = [.mp vm (usM ks)] ++ b := e
  exact (List.append_inj e hl).1
theorem usM_add {ks : List Int} {a : Int} {es' : List (DV × DV)} (h : ((ks.map fun a => (a, DV.s (.bool true))) ++ [(a, DV.s (.bool true))]).map encZ = es') : es' = usM (ks ++ [a]) := by
 rw [← h, usM]; simp
theorem usM_same {ks : List Int} {a : Int} {i : Nat} {v : DV} {es' : List (DV × DV)} (hi : ifind a (ks.map fun a => (a, DV.s (.bool true))) 0 = some (i, v)) (h : ((ks.map fun a => (a, DV.s (.bool true))).set i (a, DV.s (.bool true))).map encZ = es') : es' = usM ks ∧ a ∈ ks := by
 have h1 := (ifind_some hi).2
 have h2 := usM_v hi
 rw [Nat.sub_zero] at h1
 refine ⟨?_, ?_⟩
 ·rw [← h, ← usM_z]
  congr 1
  rw [h2] at h1
  apply List.ext_getElem?
  intro j
  rw [List.getElem?_set]
  split
  ·rename_i e; subst e
   rw [h1, if_pos (get_lt h1)]
  ·rfl
 ·have := List.mem_of_getElem? h1
  rw [List.mem_map] at this
  obtain ⟨x, hx, e⟩ := this
  rw [← (Prod.mk.inj e).1]; exact hx
theorem usedL_snoc {F : List (List Int)} {f root : List Int} {a : Int} : a ∈ usedL (F ++ [f]) root ↔ a ∈ usedL F root ∨ (f.take root.length = root ∧ f[root.length]? = some a) := by
 rw [usedL_mem, usedL_mem]
 constructor
 ·rintro ⟨x, hx, h⟩
  rcases List.mem_append.1 hx with hx | hx
  ·exact .inl ⟨x, hx, h⟩
  ·rw [List.mem_singleton.1 hx] at h; exact .inr h
 ·rintro (⟨x, hx, h⟩ | h)
  ·exact ⟨x, List.mem_append_left _ hx, h⟩
  ·exact ⟨f, by simp, h⟩
theorem good_len {t : Top} {down : List Bool} {s d most : Int} {p : List Int} (h : GoodP t down s d most p) (hv : validT t = true) (hs : 0 ≤ s ∧ s < t.nodes) : p.length + 1 ≤ t.nodes.toNat := by
 have := nodup_bound t.nodes.toNat _ h.nd fun x hx => by
  rcases List.mem_cons.1 hx with rfl | hx
  ·omega
  ·obtain ⟨a, ha, rfl⟩ := List.mem_map.1 hx
   obtain ⟨p1, p2, e⟩ := List.append_of_mem ha
   have := (h.st p1 a p2 e).1
   have := endG_range hv true this.1 this.2
   simp only [endG, if_true] at this
   omega
 simpa using this
set_option maxRecDepth 20000 in
set_option maxHeartbeats 8000000 in
theorem deviate_ok (P : Program) (hP : P = Try.prog) (t : Top) (down : List Bool) (s0 d most : Int) (F C : List (List Int)) (last : List Int) (hv : validT t = true) (hN8 : t.nodes ≤ 8) (hL : t.links.length ≤ 11) (hdn : down.length = 0 ∨ down.length = 2 * t.links.length)
  (hmost : 0 ≤ most) (hs : 0 ≤ s0 ∧ s0 < t.nodes) (hy : YenP t down s0 d most F C last) (hla : F.getLast? = some last) (hFl : F.length ≤ 16) (hCl : C.length ≤ 1000) (vf v o : Nat) (rf ro : Bool) (es : List (List D)) (hC : (es.drop o).take C.length = C.map encRow) :
  FnS P n_kpaths_finder_deviate [finA t down d most, iA s0, .c (.arr 0 vf 0 F.length), .c (.arr 1 v o C.length)] [.da rf vf 1 (F.map encRow), .da ro v 1 es] fun r h' => ∃ C' v' o' ro' es', RouP t down s0 d most F C' last last.length ∧ C'.length ≤ C.length + 8 ∧ r = .c (.arr 1 v' o' C'.length) ∧
   (es'.drop o').take C'.length = C'.map encRow ∧ ∃ b, h' = [.da rf vf 1 (F.map encRow), .da ro' v' 1 es'] ++ b := by
 have hst := hy.start
 have hgl := hy.f.good last hy.l
 have hll := good_len hgl hv hs
 have hll8 : last.length ≤ 7 := by omega
 have hgF := hy.f.good
 have hFne := List.length_pos_iff.2 hy.f.ne
 have hfl8 : ∀ f ∈ F, f.length ≤ 7 := fun f hf => by have := good_len (hgF f hf) hv hs; omega
 have hlast := hy.l
 clear hy
 have v1 := validT_spec.1 hv
 refine heap_start (hP ▸ mixed) (hP ▸ fn_kpaths_finder_deviate) (hP ▸ c_kpaths_finder_deviate) (nle rfl) fun Λ Λo K hK => ?_
 have leaf : ∀ C' v' o' ro' es' b, RouP t down s0 d most F C' last last.length → C'.length ≤ C.length + 8 → (es'.drop o').take C'.length = C'.map encRow → K (.c (.arr 1 v' o' C'.length)) ([.da rf vf 1 (F.map encRow), .da ro' v' 1 es'] ++ b) := fun C' v' o' ro' es' b h1 h2 h3 => hK _ _ ⟨C', v', o', ro', es', h1, h2, rfl, h3, b, rfl⟩
 clear hK
 have hdev := fun (k vm : Nat) (ks : List Int) (hk : k < last.length) => dev1_cut P hP t down (endN (headG t) s0 (last.take k)) d most (last.take k) vm ks hv hN8 hL hdn hmost (by
  have h1 := (hgl.root hk).1
  rcases List.eq_nil_or_concat (last.take k) with e | ⟨q, a, e⟩
  ·rw [e]; exact hs
  ·rw [List.concat_eq_append] at e
   rw [e, endN_app]
   have := (h1.st q a [] e).1
   have := endG_range hv true this.1 this.2
   simp only [endG, if_true] at this
   exact this) (fun a ha => by
  obtain ⟨p1, p2, e⟩ := List.append_of_mem ha
  exact ((hgl.root hk).1.st p1 a p2 e).1) (by rw [List.length_take]; omega) (hgl.root hk).1.ncl (hgl.root hk).1.dm
 have hhd := fun a h0 h1 => ghead_ok P hP t a h0 h1 v1.2.2.1
 have heq := fun a b => eqI_ok P hP a b
 have hcont := fun p C v o ro es hC hl => contS_ok P hP p C v o ro es hC hl
 clear hP
 have hgood := fun (k : Nat) (ks : List Int) (hk : k < last.length) (o : Option (List Int)) (ho : (devG t down (fun a => decide (a ∈ ks)) (endN (headG t) s0 (last.take k)) d most (last.take k)).DevO o) => dev_good hv hmost (hgl.root hk).1 _ rfl (fun _ h => absurd h (hgl.root hk).2) o ho
 have hstep := fun (C : List (List Int)) (k : Nat) (o : Option (List Int)) (h : RouP t down s0 d most F C last k) (hk : k < last.length) => h.step (o := o) hlast hk hgl
 have hxr : ∀ (k : Nat) (x : Int), last[k]? = some x → 0 ≤ x ∧ x < 2 * t.links.length := fun k x hx => by
  obtain ⟨p1, p2, e⟩ := List.append_of_mem (List.mem_of_getElem? hx)
  exact (hgl.st p1 x p2 e).1
 have hlastF : (F.map encRow)[F.length - 1]? = some [.list false 1 (last.map encI)] := by
  rw [List.getLast?_eq_getElem?] at hla
  rw [List.getElem?_map, hla]; rfl
 have hfx : ∀ (k : Nat) (x : List Int), F[k]? = some x → (F.map encRow)[k]? = some [.list false 1 (x.map encI)] := fun k x hx => by rw [List.getElem?_map, hx]; rfl
 have hFel : (F.map encRow).length = F.length := List.length_map _
 simp only [finA, topA, intsA, intsD, boolsD, linksD] at *
 generalize t.ov.map encB = ovl at *
 generalize t.links.map encLk = lkl at *
 generalize down.map encB = dwl at *
 generalize (((List.range t.nodes.toNat).map fun (n : Nat) => rowG t false (n : Int) (2 * t.links.length)).map encRow) = rwl at *
 generalize t.nodes = nodes at *
 generalize hFe : F.map encRow = Fe at *
 obtain ⟨la, hlae⟩ : ∃ x, x = last.map encI := ⟨_, rfl⟩
 rw [← hlae] at hlastF
 have laln : Λ la = last.length := by rw [Λo, hlae]; simp
 obtain ⟨nF, hnF⟩ : ∃ x : Nat, x = F.length := ⟨_, rfl⟩
 obtain ⟨nC, hnC⟩ : ∃ x : Nat, x = C.length := ⟨_, rfl⟩
 obtain ⟨lf, hlf⟩ : ∃ x : Nat, x = F.length - 1 := ⟨_, rfl⟩
 rw [← hlf] at hlastF
 rw [← hnF, ← hnC]
 conv => cbv
 repeat' first | (intro (k : Nat) hk; refine (fun (hz : lf = k) => ?_) ?_; rotate_left; omega; subst hz; (conv => cbv)) | (intro (e : List D) he; cases osj (he.symm.trans hlastF); (conv => cbv)) | exact gu | exact trivial | refine And.intro ?_ ?_ | (intro hc; exact absurd hc (by decide)) | (intro hc; exfalso; omega) | (intro hc; (first | rw [wS (by omega) (by omega)] at hc | rw [nI_eq] at hc | skip); try (conv => cbv))
 obtain ⟨nl, hnl⟩ : ∃ x, x = last.length := ⟨_, rfl⟩
 refine loop_up last.length (fun (s : List (List Int) × Nat × Nat × Bool × List (List D) × Int × Int) => [(2, .c (.arr 0 vf 0 nF)), (3, .c (.arr 1 s.2.1 s.2.2.1 s.1.length)), (4, .c (.ptr 2 0 0 0)), (8, .c (.d (.list true 1 []))), (10, iA s.2.2.2.2.2.1), (27, .c (.d (.list false 1 la))), (28, iA (Λ la)), (29, iA s.2.2.2.2.2.2), (9, .c (.d (.list false 1 la)))])
  (fun s => [.da rf vf 1 Fe, .da s.2.2.2.1 s.2.1 1 s.2.2.2.2.1, .bx [.d (iD nodes), .d (.list false 1 ovl), .d (.list false 7 lkl), .d (.list false 1 dwl), .d (iD d), .d (iD most), .d (.list false 1 rwl)]])
  (fun k s => s.2.2.2.2.2.2 = k ∧ k ≤ last.length ∧ s.2.2.2.2.2.1 = endN (headG t) s0 (last.take k) ∧ RouP t down s0 d most F s.1 last k ∧ s.1.length ≤ nC + k ∧ (s.2.2.2.2.1.drop s.2.2.1).take s.1.length = s.1.map encRow) (C, v, o, ro, es, s0, 0)
  (by rw [hnC]; exact (Wk.ca)) ⟨rfl, by omega, by simp [endN], hst, by simp only; omega, hC⟩ (fun k s h => h.2.1) ?_
 clear hst hC es ro v o
 rintro k ⟨Ck, v, o, ro, es, n, i⟩ Q' ⟨hi, hk, hn, hro, hCk, hC⟩ norm ex rt
 simp only at hi hn hro hCk hC
 generalize hnCk : Ck.length = nCk at *
 by_cases hlt : k < last.length
 ·obtain ⟨x, hx⟩ : ∃ x, last[k]? = some x := ⟨_, lgE hlt⟩
  have hxa := elt_at hlae.symm hi hx
  obtain ⟨root, hroot⟩ : ∃ r, r = last.take k := ⟨_, rfl⟩
  have hrl : root.length = k := by rw [hroot, List.length_take]; omega
  obtain ⟨rtl, hrtl⟩ : ∃ r, r = root.map encI := ⟨_, rfl⟩
  have hrt : rtl = la.take k := by rw [hrtl, hroot, hlae, List.map_take]
  conv => cbv
  repeat' first | (intro e he; cases osj (he.symm.trans hxa); (conv => cbv)) | (intro (e : List D) he; cases osj (he.symm.trans hxa); (conv => cbv)) | (intro (l' : List (List D)) hl'; refine (fun (hz : rtl = l') => ?_) (by rw [hl', hrt]; congr 1; omega); subst hz; (conv => cbv)) | exact gu | exact trivial | refine And.intro ?_ ?_ | (intro hc; exact absurd hc (by decide)) | (intro hc; exfalso; omega) | (intro hc; (first | rw [wS (by omega) (by omega)] at hc | rw [nI_eq] at hc | skip); try (conv => cbv))
  rename_i nFi hnFi
  refine loop_upx nF (fun (s : Int × Nat × List Int) => [(2, .c (.arr 0 vf 0 nF)), (3, .c (.arr 1 v o nCk)), (4, .c (.ptr 2 0 0 0)), (8, .c (.d (.list true 1 []))), (10, iA n), (27, .c (.d (.list false 1 la))), (28, iA (Λ la)), (29, iA i), (9, .c (.d (.list false 1 la))), (11, iA i), (12, iA x), (13, .c (.d (.list false 1 rtl))), (14, .c (.mp 3)), (38, .c (.arr 0 vf 0 nF)), (39, iA nFi), (40, iA s.1)])
   (fun s => [.da rf vf 1 Fe, .da ro v 1 es, .bx [.d (iD nodes), .d (.list false 1 ovl), .d (.list false 7 lkl), .d (.list false 1 dwl), .d (iD d), .d (iD most), .d (.list false 1 rwl)], .mp s.2.1 (usM s.2.2)])
   (fun k2 s => s.1 = k2 ∧ k2 ≤ nF ∧ ∀ a, a ∈ s.2.2 ↔ a ∈ usedL (F.take k2) root) (0, 0, []) 2
   (fun (s : Nat × List Int) => [(2, .c (.arr 0 vf 0 nF)), (3, .c (.arr 1 v o nCk)), (4, .c (.ptr 2 0 0 0)), (8, .c (.d (.list true 1 []))), (10, iA n), (27, .c (.d (.list false 1 la))), (28, iA (Λ la)), (29, iA i), (9, .c (.d (.list false 1 la))), (11, iA i), (12, iA x), (13, .c (.d (.list false 1 rtl))), (14, .c (.mp 3))]) (fun s => [.da rf vf 1 Fe, .da ro v 1 es, .bx [.d (iD nodes), .d (.list false 1 ovl), .d (.list false 7 lkl), .d (.list false 1 dwl), .d (iD d), .d (iD most), .d (.list false 1 rwl)], .mp s.1 (usM s.2)]) (fun s => ∀ a, a ∈ s.2 ↔ a ∈ usedL F root)
   (Wk.ca) ⟨rfl, by omega, fun a => by simp [usedL]⟩ (fun k s h => h.2.1) ?_ ?_
  ·clear norm ex rt leaf
   rintro k2 ⟨i2, vm, ks⟩ Q2 ⟨hi2, hk2, hks⟩ norm ex rt
   simp only at hi2 hks
   obtain ⟨ml, hml⟩ : ∃ x, x = usM ks := ⟨_, rfl⟩
   have hmz := usM_z ks
   rw [← hml] at hmz
   by_cases hlt2 : k2 < nF
   ·obtain ⟨f, hf⟩ : ∃ f, F[k2]? = some f := ⟨_, lgE (by omega)⟩
    have hfa := hfx k2 f hf
    have hf7 := hfl8 f (List.mem_of_getElem? hf)
    have hks2 : ∀ a, a ∈ usedL (F.take (k2 + 1)) root ↔ a ∈ ks ∨ (f.take k = root ∧ f[k]? = some a) := fun a => by rw [take_succ_get hf, usedL_snoc, hks, hrl]
    obtain ⟨fl, hfl⟩ : ∃ x, x = f.map encI := ⟨_, rfl⟩
    rw [← hfl] at hfa
    have flen : Λ fl = f.length := by rw [Λo, hfl]; simp
    obtain ⟨ftl, hftl⟩ : ∃ x, x = (f.take k).map encI := ⟨_, rfl⟩
    have hft : ftl = fl.take k := by rw [hftl, hfl, List.map_take]
    have hef := heq (f.take k) root
    rw [← hftl, ← hrtl] at hef
    by_cases hfk : k < f.length
    ·obtain ⟨y, hy⟩ : ∃ y, f[k]? = some y := ⟨_, lgE hfk⟩
     have hya := elt_at hfl.symm hi hy
     rw [hy] at hks2
     by_cases hfr : f.take k = root
     ·rw [decide_eq_true hfr] at hef
      have k1 : ∀ a, a ∈ ks ++ [y] ↔ a ∈ usedL (F.take (k2 + 1)) root := fun a => by
       rw [hks2, List.mem_append, List.mem_singleton]
       constructor
       ·rintro (h | h)
        ·exact .inl h
        ·exact .inr ⟨hfr, by rw [h]⟩
       ·rintro (h | ⟨_, h⟩)
        ·exact .inl h
        ·cases h; exact .inr rfl
      have k2' : y ∈ ks → ∀ a, a ∈ ks ↔ a ∈ usedL (F.take (k2 + 1)) root := fun hm a => by
       rw [← k1, List.mem_append, List.mem_singleton]
       constructor
       ·exact .inl
       ·rintro (h | h)
        ·exact h
        ·rw [h]; exact hm
      simp only
      rw [← hml]
      conv => cbv
      repeat' first | (intro (k : Nat) hk; refine (fun (hz : k2 = k) => ?_) ?_; rotate_left; omega; subst hz; (conv => cbv)) | (intro e he; cases osj (he.symm.trans hya); (conv => cbv)) | (intro (e : List D) he; cases osj (he.symm.trans hfa); (conv => cbv)) | (intro (e : List D) he; cases osj (he.symm.trans hya); (conv => cbv)) | (intro (l' : List (List D)) hl'; refine (fun (hz : ftl = l') => ?_) (by rw [hl', hft]; congr 1; omega); subst hz; (conv => cbv)) | (refine call_r hef rfl rfl ?_; conv => cbv) | (refine vup_ints hmz (fun h0 es' he' => ?_) (fun i3 v3 hv3 es' he' => ?_); all_goals (conv => cbv)) | exact gu | exact trivial | refine And.intro ?_ ?_ | (intro hc; exact absurd hc (by decide)) | (intro hc; exfalso; omega) | (intro hc; (first | rw [wS (by omega) (by omega)] at hc | rw [nI_eq] at hc | skip); try (conv => cbv))
      ·refine norm _ _ (_, vm + 1, ks ++ [y]) ?_ (by rw [usM_add he']; exact (Wk.ca))
       exact ⟨by simp only; omega, by omega, k1⟩
      ·obtain ⟨e1, hm⟩ := usM_same hv3 he'
       refine norm _ _ (_, vm + 1, ks) ?_ (by rw [e1]; exact (Wk.ca))
       exact ⟨by simp only; omega, by omega, k2' (List.mem_of_getElem? (l := ks) (i := ks.idxOf y) (by rw [lgE (List.idxOf_lt_length_iff.2 hm), List.getElem_idxOf]))⟩
     ·rw [decide_eq_false hfr] at hef
      simp only
      rw [← hml]
      conv => cbv
      repeat' first | (intro (k : Nat) hk; refine (fun (hz : k2 = k) => ?_) ?_; rotate_left; omega; subst hz; (conv => cbv)) | (intro e he; cases osj (he.symm.trans hya); (conv => cbv)) | (intro (e : List D) he; cases osj (he.symm.trans hfa); (conv => cbv)) | (intro (e : List D) he; cases osj (he.symm.trans hya); (conv => cbv)) | (intro (l' : List (List D)) hl'; refine (fun (hz : ftl = l') => ?_) (by rw [hl', hft]; congr 1; omega); subst hz; (conv => cbv)) | (refine call_r hef rfl rfl ?_; conv => cbv) | exact gu | exact trivial | refine And.intro ?_ ?_ | (intro hc; exact absurd hc (by decide)) | (intro hc; exfalso; omega) | (intro hc; (first | rw [wS (by omega) (by omega)] at hc | rw [nI_eq] at hc | skip); try (conv => cbv))
      rw [hml]
      refine norm _ _ (_, vm, ks) ?_ (Wk.ca)
      exact ⟨by simp only; omega, by omega, fun a => by rw [hks2]; simp [hfr]⟩
    ·have hyn : f[k]? = none := by rw [List.getElem?_eq_none_iff]; omega
     rw [hyn] at hks2
     simp only
     rw [← hml]
     conv => cbv
     repeat' first | (intro (k : Nat) hk; refine (fun (hz : k2 = k) => ?_) ?_; rotate_left; omega; subst hz; (conv => cbv)) | (intro (e : List D) he; cases osj (he.symm.trans hfa); (conv => cbv)) | exact gu | exact trivial | refine And.intro ?_ ?_ | (intro hc; exact absurd hc (by decide)) | (intro hc; exfalso; omega) | (intro hc; (first | rw [wS (by omega) (by omega)] at hc | rw [nI_eq] at hc | skip); try (conv => cbv))
     rw [hml]
     refine norm _ _ (_, vm, ks) ?_ (Wk.ca)
     exact ⟨by simp only; omega, by omega, fun a => by rw [hks2]; simp⟩
   ·rw [List.take_of_length_le (by omega)] at hks
    simp only
    rw [← hml]
    conv => cbv
    repeat' first | exact gu | exact trivial | refine And.intro ?_ ?_ | (intro hc; exact absurd hc (by decide)) | (intro hc; exfalso; omega) | (intro hc; (first | rw [wS (by omega) (by omega)] at hc | rw [nI_eq] at hc | skip); try (conv => cbv))
    rw [hml]
    exact ex _ _ (vm, ks) hks (Wk.ca)
  rintro ⟨vm, ks⟩ hks
  simp only at hks
  have hdv := hdev k vm ks hlt
  have hgd := hgood k ks hlt
  have hsp := hstep Ck k
  have hn2 : n = endN (headG t) s0 root := by rw [hroot]; exact hn
  rw [← hroot, ← hn2, ← hrtl] at hdv
  rw [← hroot, ← hn2] at hgd
  have hus : ∀ a, a ∉ usedL F root ↔ decide (a ∈ ks) = false := fun a => by rw [← hks, decide_eq_false_iff_not]
  have hhx := hhd x (hxr k x hx).1 (hxr k x hx).2
  have hn1 : headG t x = endN (headG t) s0 (last.take (k + 1)) := by rw [take_succ_get hx, endN_app]; rfl
  generalize headG t x = hdx at *
  have hsize : Ck.length ≤ 1000000 := by omega
  simp only
  obtain ⟨ml, hml⟩ : ∃ x, x = usM ks := ⟨_, rfl⟩
  rw [← hml] at hdv ⊢
  conv => cbv
  repeat' first | exact gu | exact trivial | refine And.intro ?_ ?_ | (intro hc; exact absurd hc (by decide)) | (intro hc; exfalso; omega) | (intro hc; (first | rw [wS (by omega) (by omega)] at hc | rw [nI_eq] at hc | skip); try (conv => cbv))
  refine call_fr [3] hdv rfl rfl (by decide) (by repeat' first | exact trivial | refine And.intro ?_ ?_ | rfl) rfl rfl ?_
  rintro r hc ⟨⟨oo, ho, rfl⟩, rfl⟩
  have hgd := hgd oo ho
  have hsp := hsp oo hro hlt
  cases oo with
  | none =>
   simp only at hgd hsp
   have hsp := hsp (by rw [← hroot]; exact fun q2 h1 h2 => hgd q2 (fun a q' e => (hus a).1 (h1 a q' e)) h2)
   conv => cbv
   repeat' first | (refine call_r hhx rfl rfl ?_; conv => cbv) | exact gu | exact trivial | refine And.intro ?_ ?_ | (intro hc; exact absurd hc (by decide)) | (intro hc; exfalso; omega) | (intro hc; (first | rw [wS (by omega) (by omega)] at hc | rw [nI_eq] at hc | skip); try (conv => cbv))
   refine norm _ _ (Ck, v, o, ro, es, hdx, _) ?_ (by simp only; rw [hnCk]; exact (Wk.ca))
   exact ⟨by simp only; omega, by omega, hn1, hsp, by simp only; omega, by simp only; rw [hnCk]; exact hC⟩
  | some q =>
   simp only at hgd hsp
   have hsp := hsp (by rw [← hroot]; exact ⟨hgd.1, fun a q' e => (hus a).2 (hgd.2.1 a q' e), fun q2 h1 h2 => hgd.2.2 q2 h1 fun a q' e => (hus a).1 (h2 a q' e)⟩)
   rw [← hroot] at hsp
   have hct := hcont (root ++ q) Ck v o ro es (by rw [hnCk]; exact hC) hsize
   obtain ⟨pt, hpt⟩ : ∃ p, p = root ++ q := ⟨_, rfl⟩
   simp only [devR1, intsA, intsD]
   rw [← hpt] at hct hsp ⊢
   rw [hnCk] at hct
   generalize hpl : pt.map encI = pl at *
   by_cases hm : pt ∈ Ck
   ·rw [decide_eq_true hm] at hct
    rw [if_pos hm] at hsp
    conv => cbv
    repeat' first | (refine call_fr [4, 1] hct rfl rfl (by decide) (by repeat' first | exact trivial | refine And.intro ?_ ?_ | rfl) rfl rfl ?_; rintro r hc' ⟨rfl, rfl⟩; (conv => cbv)) | (refine call_r hhx rfl rfl ?_; conv => cbv) | exact gu | exact trivial | refine And.intro ?_ ?_ | (intro hc; exact absurd hc (by decide)) | (intro hc; exfalso; omega) | (intro hc; (first | rw [wS (by omega) (by omega)] at hc | rw [nI_eq] at hc | skip); try (conv => cbv))
    refine norm _ _ (Ck, v, o, ro, es, hdx, _) ?_ (by simp only; rw [hnCk]; exact (Wk.ca))
    exact ⟨by simp only; omega, by omega, hn1, hsp, by simp only; omega, by simp only; rw [hnCk]; exact hC⟩
   ·rw [decide_eq_false hm] at hct
    rw [if_neg hm] at hsp
    obtain ⟨n1, hnn1⟩ : ∃ y, y = nCk + 1 := ⟨_, rfl⟩
    obtain ⟨ye, hye⟩ : ∃ y, y = (Ck ++ [pt]).map encRow := ⟨_, rfl⟩
    have hye2 : ye = (es.drop o).take nCk ++ [[.list false 1 pl]] := by rw [hye, hC, List.map_append, ← hpl]; rfl
    have hcl1 : (Ck ++ [pt]).length = n1 := by rw [List.length_append, hnCk, hnn1]; rfl
    conv => cbv
    repeat' first | (refine call_fr [4, 1] hct rfl rfl (by decide) (by repeat' first | exact trivial | refine And.intro ?_ ?_ | rfl) rfl rfl ?_; rintro r hc' ⟨rfl, rfl⟩; (conv => cbv)) | (refine call_r hhx rfl rfl ?_; conv => cbv) | (intro (m : Nat) (r : Bool) (y : List (List D)) hm2 hr2 hy2; refine (fun (hz : n1 = m) (hz2 : ye = y) => ?_) (by rw [hm2, hnn1]; rfl) (by rw [hye2, hy2]); subst hz hz2; (conv => cbv)) | exact gu | exact trivial | refine And.intro ?_ ?_ | (intro hc; exact absurd hc (by decide)) | (intro hc; exfalso; omega) | (intro hc; (first | rw [wS (by omega) (by omega)] at hc | rw [nI_eq] at hc | skip); try (conv => cbv))
    refine norm _ _ (Ck ++ [pt], v + 1, 0, _, ye, hdx, _) ?_ (by simp only; rw [hcl1]; exact (Wk.ca))
    exact ⟨by simp only; omega, by omega, hn1, hsp, by simp only; omega, by simp only; rw [hcl1, List.drop_zero, hye, List.take_of_length_le (by rw [List.length_map]; omega)]⟩
 ·have hkl : k = last.length := by omega
  rw [hkl] at hro
  conv => cbv
  repeat' first | exact gu | exact trivial | refine And.intro ?_ ?_ | (intro hc; exact absurd hc (by decide)) | (intro hc; exfalso; omega) | (intro hc; (first | rw [wS (by omega) (by omega)] at hc | rw [nI_eq] at hc | skip); try (conv => cbv))
  refine ex _ _ _ ?_
  conv => cbv
  rw [← hnCk]
  exact leaf Ck v o ro es _ hro (by omega) (by rw [hnCk]; exact hC)
end Go.Ab

/-
  The shortest paths, as the program finds them.
-/
namespace Go.Ab
open Go.Proofs
theorem FnS.frz2 {P : Program} {f : Nat} {args : List AV} {h0 : Hp} {sz : Nat} {Q : List (List D) → AV → Hp → Prop} (hrefs : ∀ es x h', Q es x h' → refsH h0.length h' = true ∧ h'.length = h0.length ∧ refsA h0.length x = true ∧ pureA x = true)
  (hf : FnS P f args h0 fun r h' => ∃ es x h1, Q es x h1 ∧ ((∃ k ve rr t, r = .tup [.c (.arr k ve 0 es.length), x] ∧ h' = h1 ++ t ∧ h'[k]? = some (.da rr ve sz es) ∧ h0.length ≤ k) ∨ (es = [] ∧ r = .tup [.c (.d (.list true sz [])), x] ∧ ∃ t, h' = h1 ++ t))) :
  FnS P f args h0 fun r h' => ∃ es x, Q es x h' ∧ r = .tup [.c (.d (.list false sz es)), x] := by
 have h1 : FnS P f args h0 fun r h' => ∃ es x h1 h2, Q es x h1 ∧ r = .tup [.c (.d (.list false sz es)), x] ∧ h' = h1 ++ h2 := by
  refine ⟨fun G ι w vs hr hv => (hf.out G ι w vs hr hv).mono fun e w2 ⟨u, r, G2, ι2, h', he, ⟨es, x, h1, hQ, hc⟩, hr2, hvr, hx⟩ => ?_⟩
  obtain ⟨_, hl, _, hpx⟩ := hrefs _ _ _ hQ
  rcases hc with ⟨k, ve, rr, t, rfl, rfl, hk, hle⟩ | ⟨rfl, rfl, t, rfl⟩
  ·cases hvr with
   | tup cs _ hn hcs =>
    have hn : cs.size = 2 := hn
    have h0 := hcs 0 _ _ (Array.getElem?_eq_getElem (by omega)) rfl
    have hc := inv_c h0
    have hfz : frz (h1 ++ t) (.arr k ve 0 es.length) = some (.list false sz es, (h1 ++ t).set k Blk.dead) := by
     simp [frz, hk]
    obtain ⟨G', q1, q2, q3⟩ := frz_sound hr2 hc hfz
    refine ⟨.tuple cs, .tup [.c (.d (.list false sz es)), x], G', ι2, _, he, ⟨es, x, h1, t.set (k - h1.length) Blk.dead, hQ, rfl, List.set_append_right _ _ (by omega)⟩, q1, .tup cs _ hn (fun i y z hu hy => ?_), hx.trans q3⟩
    match i, hy with
    | 0, hy =>
     cases hy
     rw [Array.getElem?_eq_getElem (by omega)] at hu
     cases hu
     exact .c _ _ (.d _ _ q2)
    | 1, hy => cases hy; exact (hcs 1 y _ hu rfl).ext q3 hr2
  ·cases hvr with
   | tup cs _ hn hcs =>
    refine ⟨.tuple cs, .tup [.c (.d (.list false sz [])), x], G2, ι2, _, he, ⟨[], x, h1, t, hQ, rfl, rfl⟩, hr2, .tup cs _ hn (fun i y z hu hy => ?_), hx⟩
    match i, hy with
    | 0, hy =>
     cases hy
     have hd := inv_d (hcs 0 y _ hu rfl)
     generalize hg : D.list true sz [] = g at hd
     cases hd <;> first | (cases hg; done) | skip
     cases hg
     exact .c _ _ (.d _ _ (.nils _ _))
    | 1, hy => cases hy; exact hcs 1 y _ hu rfl
 refine (FnS.cut2 h1 ?_).mono ?_
 ·rintro r h' ⟨es, x, h1, h2, hQ, rfl, rfl⟩
  obtain ⟨q1, q2, q3, _⟩ := hrefs _ _ _ hQ
  exact ⟨_, _, rfl, rfl, q3, by rw [← q2, List.take_left, q2]; exact q1⟩
 ·rintro r h' ⟨h2, ⟨es, x, h1, h3, hQ, rfl, e⟩, hl⟩
  obtain ⟨q1, q2, q3, _⟩ := hrefs _ _ _ hQ
  have := (List.append_inj e (by omega)).1
  subst this
  exact ⟨es, x, hQ, rfl⟩
theorem dev0_cut (P : Program) (hP : P = Try.prog) (t : Top) (down : List Bool) (n d most : Int) (hv : validT t = true) (hN8 : t.nodes ≤ 8) (hL : t.links.length ≤ 11) (hdn : down.length = 0 ∨ down.length = 2 * t.links.length)
  (hmost : 0 ≤ most) (hn : 0 ≤ n ∧ n < t.nodes) :
  FnS P n_kpaths_finder_deviation [finA t down d most, iA n, .c (.d (.list true 1 [])), .c (.d .nilm)] [] fun r h' => (∃ o, (devG t down (fun _ => false) n d most []).DevO o ∧ r = devR1 [] o) ∧ h' = [] := by
 have h1 := dev0_ok P hP t down n d most [] hv hN8 hL hdn hmost hn (by simp) (by simp) (by simp) (by simp) _ rfl
 have h2 : FnS P n_kpaths_finder_deviation [finA t down d most, iA n, .c (.d (.list true 1 [])), .c (.d .nilm)] [] fun r h' => (∃ o, (devG t down (fun _ => false) n d most []).DevO o ∧ r = devR1 [] o) ∧ ∃ b, h' = b := FnS.fg h1
 refine (FnS.cut2 h2 ?_).mono ?_
 ·rintro r h' ⟨⟨o, ho, rfl⟩, b, rfl⟩
  cases o with
  | none => exact ⟨_, _, rfl, rfl, rfl, rfl⟩
  | some q => exact ⟨_, _, rfl, rfl, rfl, rfl⟩
 ·rintro r h1 ⟨h2, ⟨ho, _⟩, hl⟩
  exact ⟨ho, List.eq_nil_of_length_eq_zero hl⟩
theorem deviate_cut (P : Program) (hP : P = Try.prog) (t : Top) (down : List Bool) (s0 d most : Int) (F C : List (List Int)) (last : List Int) (hv : validT t = true) (hN8 : t.nodes ≤ 8) (hL : t.links.length ≤ 11) (hdn : down.length = 0 ∨ down.length = 2 * t.links.length)
  (hmost : 0 ≤ most) (hs : 0 ≤ s0 ∧ s0 < t.nodes) (hy : YenP t down s0 d most F C last) (hla : F.getLast? = some last) (hFl : F.length ≤ 16) (hCl : C.length ≤ 1000) (vf v o : Nat) (rf ro : Bool) (es : List (List D)) (hC : (es.drop o).take C.length = C.map encRow) :
  FnS P n_kpaths_finder_deviate [finA t down d most, iA s0, .c (.arr 0 vf 0 F.length), .c (.arr 1 v o C.length)] [.da rf vf 1 (F.map encRow), .da ro v 1 es] fun r h' => ∃ C' v' o' ro' es', RouP t down s0 d most F C' last last.length ∧ C'.length ≤ C.length + 8 ∧ r = .c (.arr 1 v' o' C'.length) ∧
   (es'.drop o').take C'.length = C'.map encRow ∧ h' = [.da rf vf 1 (F.map encRow), .da ro' v' 1 es'] := by
 have h1 := deviate_ok P hP t down s0 d most F C last hv hN8 hL hdn hmost hs hy hla hFl hCl vf v o rf ro es hC
 refine (FnS.cut h1 ?_).mono ?_
 ·rintro r h' ⟨C', v', o', ro', es', _, _, rfl, _, b, rfl⟩
  exact ⟨rfl, rfl⟩
 ·rintro r h1 ⟨h2, ⟨C', v', o', ro', es', a1, a2, a3, a4, b, e⟩, hl⟩
  exact ⟨C', v', o', ro', es', a1, a2, a3, a4, (List.append_inj e hl).1⟩
theorem cst_good {t : Top} {down : List Bool} {s d most : Int} {p : List Int} (hv : validT t = true) (h : GoodP t down s d most p) : cst t p = costP t p := by
 unfold cst costP
 congr 1
 apply List.map_congr_left
 intro a ha
 obtain ⟨p1, p2, e⟩ := List.append_of_mem ha
 have := (h.st p1 a p2 e).1
 have := cost_rg hv this.1 this.2
 omega
def shortV (t : Top) (down : List Bool) (s d k most : Int) (L : List (List Int)) : List (List Int) × Int :=
 if ¬ (validT t = true ∧ (down.length = 0 ∨ down.length = 2 * t.links.length) ∧ 1 ≤ k ∧ k ≤ 16 ∧ 0 ≤ most) then ([], 1)
 else if ¬ ((0 ≤ s ∧ s < t.nodes) ∧ 0 ≤ d ∧ d < t.nodes) then ([], 2)
 else if L = [] then ([], 11) else (L.take k.toNat, 0)
theorem split_pp {es : List (List D)} {o n : Nat} {X : List (List D)} (h : (es.drop o).take n = X) (hn : X.length = n) (h0 : n ≠ 0) : ∃ pre post, pre.length = o ∧ es = pre ++ X ++ post := by
 have h1 := congrArg List.length h
 rw [List.length_take, List.length_drop] at h1
 refine ⟨es.take o, (es.drop o).drop n, by rw [List.length_take]; omega, ?_⟩
 rw [← h, List.append_assoc, List.take_append_drop, List.take_append_drop]
set_option maxRecDepth 20000 in
set_option maxHeartbeats 8000000 in
theorem short_raw (P : Program) (hP : P = Try.prog) (t : Top) (down : List Bool) (s0 d k most : Int) (L : List (List Int)) (hl11 : t.links.length ≤ 11) (hsm : validT t = true → t.nodes ≤ 8) (hsrt : validT t = true → (down.length = 0 ∨ down.length = 2 * t.links.length) → 0 ≤ most → (0 ≤ s0 ∧ s0 < t.nodes) → IsSrt t (GoodP t down s0 d most) L) :
  FnS P n_kpaths_Shortest [topA t, boolsA down, iA s0, iA d, iA k, iA most] [] fun r h' => ∃ es x h1, ((es, x) = ((shortV t down s0 d k most L).1.map encRow, iA (shortV t down s0 d k most L).2) ∧ h1 = []) ∧
   ((∃ k ve rr t, r = .tup [.c (.arr k ve 0 es.length), x] ∧ h' = h1 ++ t ∧ h'[k]? = some (.da rr ve 1 es) ∧ 0 ≤ k) ∨ (es = [] ∧ r = .tup [.c (.d (.list true 1 [])), x] ∧ ∃ t, h' = h1 ++ t)) := by
 have hva := tvalid_ok P hP t
 have hfi := gfits_ok P hP t down (by omega)
 have hno := fun n => gnode_ok P hP t n
 have hlv := fun hv => leaving_ok P hP t hv
 have hd0 := fun hv hN8 hdn hmost hn => dev0_cut P hP t down s0 d most hv hN8 hl11 hdn hmost hn
 have hdv := fun F C last hv hN8 hdn hmost hs hy hla hFl hCl vf v o rf ro es hC => deviate_cut P hP t down s0 d most F C last hv hN8 hl11 hdn hmost hs hy hla hFl hCl vf v o rf ro es hC
 have hso := fun l pre post hz hl1 r v => sortP_fn (hP ▸ sorts_p) rfl t (fun a b ha hb => sortc_ok P hP t a b (by omega) ha hb) l pre post hz hl1 r v
 have hfo : FnOk P n_kpaths_Shortest_1 := hP ▸ ⟨_, fn_kpaths_Shortest_1, rfl, by decide⟩
 refine heap_start (hP ▸ mixed) (hP ▸ fn_kpaths_Shortest) (hP ▸ c_kpaths_Shortest) (nle rfl) fun Λ Λo K hK => ?_
 clear hP
 have leafE : ∀ e b, shortV t down s0 d k most L = ([], e) → K (.tup [.c (.d (.list true 1 [])), iA e]) b := fun e b h => hK _ _ ⟨[], iA e, [], ⟨by rw [h]; rfl, rfl⟩, .inr ⟨rfl, rfl, b, rfl⟩⟩
 have leafA : ∀ (F : List (List Int)) vf rf b0 b1 bs, shortV t down s0 d k most L = (F, 0) → K (.tup [.c (.arr 2 vf 0 F.length), iA 0]) ([b0, b1, .da rf vf 1 (F.map encRow)] ++ bs) := fun F vf rf b0 b1 bs h => hK _ _ ⟨F.map encRow, iA 0, [], ⟨by rw [h], rfl⟩, .inl ⟨2, vf, rf, _, by rw [List.length_map], rfl, rfl, Nat.zero_le _⟩⟩
 clear hK
 by_cases c1 : validT t = true ∧ (down.length = 0 ∨ down.length = 2 * t.links.length) ∧ 1 ≤ k ∧ k ≤ 16 ∧ 0 ≤ most
 rotate_left
 ·have leaf1 : ∀ b, K (.tup [.c (.d (.list true 1 [])), iA 1]) b := fun b => leafE 1 b (by rw [shortV, if_pos c1])
  clear leafE leafA hsrt hd0 hdv hso hlv hno hsm
  by_cases hb : validT t = true
  ·rw [hb] at hva
   by_cases hf : down.length = 0 ∨ down.length = 2 * t.links.length
   ·rw [decide_eq_true hf] at hfi
    have c2 : ¬ (1 ≤ k ∧ k ≤ 16 ∧ 0 ≤ most) := fun h => c1 ⟨hb, hf, h⟩
    simp only [topA, intsA, intsD, boolsA, boolsD, linksD] at *
    generalize t.ov.map encB = ovl at *
    generalize t.links.map encLk = lkl at *
    generalize down.map encB = dwl at *
    generalize t.nodes = nodes at *
    conv => cbv
    repeat' first | (refine call_r hva rfl rfl ?_; conv => cbv) | (refine call_r hfi rfl rfl ?_; conv => cbv) | exact gu | exact trivial | refine And.intro ?_ ?_ | (intro hc; exact absurd hc (by decide)) | (intro hc; exfalso; omega) | (intro hc; (first | rw [wS (by omega) (by omega)] at hc | rw [nI_eq] at hc | skip); try (conv => cbv))
    all_goals first | exact leaf1 _ | (exfalso; omega)
   ·rw [decide_eq_false hf] at hfi
    simp only [topA, intsA, intsD, boolsA, boolsD, linksD] at *
    generalize t.ov.map encB = ovl at *
    generalize t.links.map encLk = lkl at *
    generalize down.map encB = dwl at *
    generalize t.nodes = nodes at *
    conv => cbv
    repeat' first | (refine call_r hva rfl rfl ?_; conv => cbv) | (refine call_r hfi rfl rfl ?_; conv => cbv) | exact gu | exact trivial | refine And.intro ?_ ?_ | (intro hc; exact absurd hc (by decide)) | (intro hc; exfalso; omega) | (intro hc; (first | rw [wS (by omega) (by omega)] at hc | rw [nI_eq] at hc | skip); try (conv => cbv))
    all_goals exact leaf1 _
  ·rw [Bool.eq_false_iff.2 hb] at hva
   simp only [topA, intsA, intsD, boolsA, boolsD, linksD] at *
   generalize t.ov.map encB = ovl at *
   generalize t.links.map encLk = lkl at *
   generalize down.map encB = dwl at *
   generalize t.nodes = nodes at *
   conv => cbv
   repeat' first | (refine call_r hva rfl rfl ?_; conv => cbv) | exact gu | exact trivial | refine And.intro ?_ ?_ | (intro hc; exact absurd hc (by decide)) | (intro hc; exfalso; omega) | (intro hc; (first | rw [wS (by omega) (by omega)] at hc | rw [nI_eq] at hc | skip); try (conv => cbv))
   all_goals exact leaf1 _
 obtain ⟨hv, hdn, hk1, hk16, hm0⟩ := c1
 have hN8 := hsm hv
 have hlv := hlv hv
 rw [hv] at hva
 rw [decide_eq_true hdn] at hfi
 by_cases c2 : (0 ≤ s0 ∧ s0 < t.nodes) ∧ 0 ≤ d ∧ d < t.nodes
 rotate_left
 ·have leaf1 : ∀ b, K (.tup [.c (.d (.list true 1 [])), iA 2]) b := fun b => leafE 2 b (by rw [shortV, if_neg (not_not_intro ⟨hv, hdn, hk1, hk16, hm0⟩), if_pos c2])
  clear leafE leafA hsrt hd0 hdv hso hlv hsm
  have hn1 := hno s0
  have hn2 := hno d
  clear hno
  by_cases hs : 0 ≤ s0 ∧ s0 < t.nodes
  ·have hd : ¬ (0 ≤ d ∧ d < t.nodes) := fun h => c2 ⟨hs, h⟩
   rw [decide_eq_true hs] at hn1
   rw [decide_eq_false hd] at hn2
   simp only [topA, intsA, intsD, boolsA, boolsD, linksD] at *
   generalize t.ov.map encB = ovl at *
   generalize t.links.map encLk = lkl at *
   generalize down.map encB = dwl at *
   generalize t.nodes = nodes at *
   conv => cbv
   repeat' first | (refine call_r hva rfl rfl ?_; conv => cbv) | (refine call_r hfi rfl rfl ?_; conv => cbv) | (refine call_r hn1 rfl rfl ?_; conv => cbv) | (refine call_r hn2 rfl rfl ?_; conv => cbv) | exact gu | exact trivial | refine And.intro ?_ ?_ | (intro hc; exact absurd hc (by decide)) | (intro hc; exfalso; omega) | (intro hc; (first | rw [wS (by omega) (by omega)] at hc | rw [nI_eq] at hc | skip); try (conv => cbv))
   all_goals exact leaf1 _
  ·rw [decide_eq_false hs] at hn1
   simp only [topA, intsA, intsD, boolsA, boolsD, linksD] at *
   generalize t.ov.map encB = ovl at *
   generalize t.links.map encLk = lkl at *
   generalize down.map encB = dwl at *
   generalize t.nodes = nodes at *
   conv => cbv
   repeat' first | (refine call_r hva rfl rfl ?_; conv => cbv) | (refine call_r hfi rfl rfl ?_; conv => cbv) | (refine call_r hn1 rfl rfl ?_; conv => cbv) | exact gu | exact trivial | refine And.intro ?_ ?_ | (intro hc; exact absurd hc (by decide)) | (intro hc; exfalso; omega) | (intro hc; (first | rw [wS (by omega) (by omega)] at hc | rw [nI_eq] at hc | skip); try (conv => cbv))
   all_goals exact leaf1 _
 have hn1 := hno s0
 have hn2 := hno d
 clear hno
 rw [decide_eq_true c2.1] at hn1
 rw [decide_eq_true c2.2] at hn2
 have hsrt := hsrt hv hdn hm0 c2.1
 have leafN : (∀ p, ¬ GoodP t down s0 d most p) → ∀ b, K (.tup [.c (.d (.list true 1 [])), iA 11]) b := fun hng b => leafE 11 b (by
  have h : L = [] := List.eq_nil_iff_forall_not_mem.2 fun p hp => hng p ((hsrt.mem p).1 hp)
  rw [shortV, if_neg (not_not_intro ⟨hv, hdn, hk1, hk16, hm0⟩), if_neg (not_not_intro c2), if_pos h])
 have leafA : ∀ (F : List (List Int)) vf rf b0 b1 bs, FoundP t down s0 d most F → F.length ≤ k.toNat → (F.length = k.toNat ∨ ∀ p, GoodP t down s0 d most p → p ∈ F) → K (.tup [.c (.arr 2 vf 0 F.length), iA 0]) ([b0, b1, .da rf vf 1 (F.map encRow)] ++ bs) := fun F vf rf b0 b1 bs hF hlk hor => leafA F vf rf b0 b1 bs (by
  have hLn : L ≠ [] := fun e => by
   obtain ⟨f, hf⟩ := List.exists_mem_of_ne_nil F hF.ne
   have := (hsrt.mem f).2 (hF.good f hf)
   rw [e] at this; cases this
  rw [shortV, if_neg (not_not_intro ⟨hv, hdn, hk1, hk16, hm0⟩), if_neg (not_not_intro c2), if_neg hLn, ← hF.take hsrt hlk hor])
 clear leafE
 have hd0 := hd0 hv hN8 hdn hm0 c2.1
 have hgd := fun o ho => dev_good hv hm0 (RootP.nil t down s0 d most) (us := fun _ => false) _ rfl (fun _ _ => by simp only [List.map_nil, List.sum_nil]; omega) o ho
 have hcst := fun p (hp : GoodP t down s0 d most p) => cst_good hv hp
 have hgl := fun p (hp : GoodP t down s0 d most p) => good_len hp hv c2.1
 have hdv := fun F C last => hdv F C last hv hN8 hdn hm0 c2.1
 clear hsrt
 simp only [finA, topA, topBx, intsA, intsD, boolsA, boolsD, linksD, rowsA] at *
 generalize (((List.range t.nodes.toNat).map fun (n : Nat) => rowG t false (n : Int) (2 * t.links.length)).map encRow) = rwl at *
 generalize t.ov.map encB = ovl at *
 generalize t.links.map encLk = lkl at *
 generalize down.map encB = dwl at *
 generalize t.nodes = nodes at *
 conv => cbv
 repeat' first | (refine call_r hva rfl rfl ?_; conv => cbv) | (refine call_r hfi rfl rfl ?_; conv => cbv) | (refine call_r hn1 rfl rfl ?_; conv => cbv) | (refine call_r hn2 rfl rfl ?_; conv => cbv) | (refine call_r hlv rfl rfl ?_; conv => cbv) | exact gu | exact trivial | refine And.intro ?_ ?_ | (intro hc; exact absurd hc (by decide)) | (intro hc; exfalso; omega) | (intro hc; (first | rw [wS (by omega) (by omega)] at hc | rw [nI_eq] at hc | skip); try (conv => cbv))
 refine call_fr [] hd0 rfl rfl (by decide) trivial rfl rfl ?_
 rintro r hc ⟨⟨oo, ho, rfl⟩, rfl⟩
 have hgd := hgd oo ho
 clear ho hd0
 cases oo with
 | none =>
  have leafN := leafN fun p hp => hgd p (fun _ _ _ => trivial) hp
  conv => cbv
  repeat' first | exact gu | exact trivial | refine And.intro ?_ ?_ | (intro hc; exact absurd hc (by decide)) | (intro hc; exfalso; omega) | (intro hc; (first | rw [wS (by omega) (by omega)] at hc | rw [nI_eq] at hc | skip); try (conv => cbv))
  exact leafN _
 | some q =>
  clear leafN
  simp only [devR1, List.nil_append, intsA, intsD] at hgd ⊢
  have hyi := YenP.init hgd.1 fun p hp => hgd.2.2 p hp fun _ _ _ => trivial
  clear hgd
  obtain ⟨ql, hql⟩ : ∃ x, x = q.map encI := ⟨_, rfl⟩
  rw [← hql]
  have hF1 : [[D.list false 1 ql]] = [q].map encRow := by rw [hql]; rfl
  conv => cbv
  repeat' first | exact gu | exact trivial | refine And.intro ?_ ?_ | (intro hc; exact absurd hc (by decide)) | (intro hc; exfalso; omega) | (intro hc; (first | rw [wS (by omega) (by omega)] at hc | rw [nI_eq] at hc | skip); try (conv => cbv))
  refine loop_up 16 (fun (s : List (List Int) × Nat × Bool × List (List Int) × Nat × Nat × Bool × List (List D)) => [(2, iA s0), (4, iA k), (6, .c (.ptr 0 0 0 0)), (12, .c (.d (.list true 1 []))), (13, iA 0), (14, .c (.ptr 1 0 0 0)), (17, .c (.arr 2 s.2.1 0 s.1.length)), (18, .c (.arr 3 s.2.2.2.2.1 s.2.2.2.2.2.1 s.2.2.2.1.length))])
   (fun s => [.bx [.d (iD nodes), .d (.list false 1 ovl), .d (.list false 7 lkl)], .bx [.d (iD nodes), .d (.list false 1 ovl), .d (.list false 7 lkl), .d (.list false 1 dwl), .d (iD d), .d (iD most), .d (.list false 1 rwl)], .da s.2.2.1 s.2.1 1 (s.1.map encRow), .da s.2.2.2.2.2.2.1 s.2.2.2.2.1 1 s.2.2.2.2.2.2.2])
   (fun k' s => s.1.length = k' + 1 ∧ s.1.length ≤ k ∧ (∃ last, YenP t down s0 d most s.1 s.2.2.2.1 last ∧ s.1.getLast? = some last) ∧ s.2.2.2.1.length ≤ 8 * k' ∧ (s.2.2.2.2.2.2.2.drop s.2.2.2.2.2.1).take s.2.2.2.1.length = s.2.2.2.1.map encRow)
   ([q], 0, true, [], 0, 0, false, []) (.trans (.nilS 18 1 rfl) (by rw [← hF1]; exact (Wk.ca))) ⟨rfl, by simp only [List.length_cons, List.length_nil]; omega, ⟨q, hyi, rfl⟩, by simp, by simp⟩ (fun k s h => by have := h.1; have := h.2.1; omega) ?_
  clear hyi hql hF1 ql
  rintro kr ⟨F, vf, rf, C, v, o, ro, es⟩ Q' ⟨hFl, hFk, ⟨last, hy, hla⟩, hCl, hC⟩ norm ex rt
  simp only at hFl hFk hy hla hCl hC
  have hdv := hdv F C last hy hla (by omega) (by omega) vf v o rf ro es hC
  have hnext := fun C' (h : RouP t down s0 d most F C' last last.length) => @RouP.next t down s0 d most F C' last
  have hFo := hy.f
  obtain ⟨nF, hnF⟩ : ∃ x, x = F.length := ⟨_, rfl⟩
  obtain ⟨nC, hnC⟩ : ∃ x, x = C.length := ⟨_, rfl⟩
  obtain ⟨Fe, hFe⟩ : ∃ x, x = F.map encRow := ⟨_, rfl⟩
  rw [← hnF, ← hnC, ← hFe] at hdv
  simp only
  rw [← hnF, ← hnC, ← hFe]
  by_cases hk : (nF : Int) < k
  rotate_left
  ·have leafA := leafA F vf rf
   rw [← hnF, ← hFe] at leafA
   have leafA := fun b0 b1 bs => leafA b0 b1 bs hFo (by omega) (.inl (by omega))
   conv => cbv
   repeat' first | exact gu | exact trivial | refine And.intro ?_ ?_ | (intro hc; exact absurd hc (by decide)) | (intro hc; exfalso; omega) | (intro hc; (first | rw [wS (by omega) (by omega)] at hc | rw [nI_eq] at hc | skip); try (conv => cbv))
   refine ex _ _ _ ?_
   conv => cbv
   repeat' first | exact gu | exact trivial | refine And.intro ?_ ?_ | (intro hc; exact absurd hc (by decide)) | (intro hc; exfalso; omega) | (intro hc; (first | rw [wS (by omega) (by omega)] at hc | rw [nI_eq] at hc | skip); try (conv => cbv))
   exact leafA _ _ _
  conv => cbv
  repeat' first | exact gu | exact trivial | refine And.intro ?_ ?_ | (intro hc; exact absurd hc (by decide)) | (intro hc; exfalso; omega) | (intro hc; (first | rw [wS (by omega) (by omega)] at hc | rw [nI_eq] at hc | skip); try (conv => cbv))
  refine call_fr [2, 3] hdv rfl rfl (by decide) (by repeat' first | exact trivial | refine And.intro ?_ ?_ | rfl) rfl rfl ?_
  rintro r hc ⟨C', v', o', ro', es', hr', hCl', rfl, hC', rfl⟩
  clear hdv hy hla hC
  obtain ⟨nC', hnC'⟩ : ∃ x, x = C'.length := ⟨_, rfl⟩
  rw [← hnC']
  by_cases hz : nC' = 0
  ·have hC0 : C' = [] := List.eq_nil_of_length_eq_zero (by omega)
   rw [hC0] at hr'
   have leafA := leafA F vf rf
   rw [← hnF, ← hFe] at leafA
   have leafA := fun b0 b1 bs => leafA b0 b1 bs hFo (by omega) (.inr fun p hp => hr'.all hFo hp)
   conv => cbv
   repeat' first | exact gu | exact trivial | refine And.intro ?_ ?_ | (intro hc; exact absurd hc (by decide)) | (intro hc; exfalso; omega) | (intro hc; (first | rw [wS (by omega) (by omega)] at hc | rw [nI_eq] at hc | skip); try (conv => cbv))
   refine ex _ _ _ ?_
   conv => cbv
   repeat' first | exact gu | exact trivial | refine And.intro ?_ ?_ | (intro hc; exact absurd hc (by decide)) | (intro hc; exfalso; omega) | (intro hc; (first | rw [wS (by omega) (by omega)] at hc | rw [nI_eq] at hc | skip); try (conv => cbv))
   exact leafA _ _ _
  obtain ⟨pre, post, hpo, hes⟩ := split_pp hC' (by rw [List.length_map]) (by omega)
  have hgC := hr'.c.good
  have hso := hso C' pre post (by omega) (fun x hx => by have := hgl x (hgC x hx).1; omega) ro' v'
  rw [← hnC', hpo, ← hes] at hso
  conv => cbv
  repeat' first | exact hfo | exact gu | exact trivial | refine And.intro ?_ ?_ | (intro hc; exact absurd hc (by decide)) | (intro hc; exfalso; omega) | (intro hc; (first | rw [wS (by omega) (by omega)] at hc | rw [nI_eq] at hc | skip); try (conv => cbv))
  refine call_fr [0, 3] hso rfl rfl (by decide) (by repeat' first | exact trivial | refine And.intro ?_ ?_ | rfl) rfl rfl ?_
  rintro r hc ⟨rfl, l', hp', hpw, rfl⟩
  clear hso
  have hll := hp'.length_eq
  cases l' with
  | nil => simp only [List.length_nil] at hll; omega
  | cons c C2 =>
   have hmin : ∀ x ∈ C2, leP t c x := fun x hx => by
    have h1 := (List.pairwise_cons.1 hpw).1 x hx
    rw [hcst x (hgC x (hp'.mem_iff.1 (List.mem_cons_of_mem _ hx))).1, hcst c (hgC c (hp'.mem_iff.1 (List.mem_cons_self))).1, ordS_neg] at h1
    unfold leP
    omega
   have hyn := hnext C' hr' hFo hr' hp' hmin
   obtain ⟨n2, hn2⟩ : ∃ x, x = nC' - 1 := ⟨_, rfl⟩
   have hc2l : C2.length = n2 := by rw [List.length_cons] at hll; omega
   obtain ⟨o2, ho2⟩ : ∃ x, x = o' + 1 := ⟨_, rfl⟩
   obtain ⟨cl, hcl⟩ : ∃ x, x = c.map encI := ⟨_, rfl⟩
   obtain ⟨es2, hes2⟩ : ∃ x, x = pre ++ (c :: C2).map encRow ++ post := ⟨_, rfl⟩
   have hcat : es2[o']? = some [.list false 1 cl] := by
    rw [hes2, List.append_assoc, List.getElem?_append_right (by omega), show o' - pre.length = 0 by omega, hcl]; rfl
   have hdr : (es2.drop o2).take C2.length = C2.map encRow := by
    have e1 : (pre ++ (c :: C2).map encRow ++ post).drop (pre.length + 1) = C2.map encRow ++ post := by
     rw [List.append_assoc, List.drop_append, List.drop_of_length_le (by omega), Nat.add_sub_cancel_left]; rfl
    rw [hes2, ho2, ← hpo, e1, List.take_append_of_le_length (by simp), List.take_of_length_le (by simp)]
   have hltc := get_lt hcat
   obtain ⟨n1, hnn1⟩ : ∃ y, y = nF + 1 := ⟨_, rfl⟩
   obtain ⟨ye, hye⟩ : ∃ y, y = (F ++ [c]).map encRow := ⟨_, rfl⟩
   have hye2 : ye = Fe.take nF ++ [[.list false 1 cl]] := by
    rw [hye, List.map_append, ← hFe, List.take_of_length_le (by rw [hFe, List.length_map]; omega), hcl]; rfl
   have hfl1 : (F ++ [c]).length = n1 := by rw [List.length_append, ← hnF, hnn1]; rfl
   rw [← hes2]
   conv => cbv
   repeat' first | (intro (k : Nat) hk; refine (fun (hz : o' = k) => ?_) ?_; rotate_left; omega; subst hz; (conv => cbv)) | (intro (e : List D) he; cases osj (he.symm.trans hcat); (conv => cbv)) | (intro (m : Nat) (r : Bool) (y : List (List D)) hm2 hr2 hy2; refine (fun (hz : n1 = m) (hz2 : ye = y) => ?_) (by rw [hm2, hnn1]; rfl) (by rw [hye2, hy2]; try rfl); subst hz hz2; (conv => cbv)) | (intro (i' : Nat) (n' : Nat) hi' hn'; refine (fun (hz : o2 = i') (hz2 : n2 = n') => ?_) (by rw [hi', ho2]; try rfl) (by rw [hn', hn2]; try rfl); subst hz hz2; (conv => cbv)) | exact gu | exact trivial | refine And.intro ?_ ?_ | (intro hc; exact absurd hc (by decide)) | (intro hc; exfalso; omega) | (intro hc; (first | rw [wS (by omega) (by omega)] at hc | rw [nI_eq] at hc | skip); try (conv => cbv))
   refine norm _ _ (F ++ [c], vf + 1, _, C2, v', o2, ro', es2) ?_ (by simp only; rw [hfl1, hc2l, ← hye]; exact (Wk.ca))
   exact ⟨by simp only; omega, by simp only; omega, ⟨c, hyn, by simp⟩, by simp only; omega, hdr⟩
theorem shortest_ok (P : Program) (hP : P = Try.prog) (t : Top) (down : List Bool) (s d k most : Int) (L : List (List Int)) (hl11 : t.links.length ≤ 11) (hsm : validT t = true → t.nodes ≤ 8) (hsrt : validT t = true → (down.length = 0 ∨ down.length = 2 * t.links.length) → 0 ≤ most → (0 ≤ s ∧ s < t.nodes) → IsSrt t (GoodP t down s d most) L) :
  Ret P n_kpaths_Shortest [topA t, boolsA down, iA s, iA d, iA k, iA most] (.tup [.c (.d (.list false 1 ((shortV t down s d k most L).1.map encRow))), iA (shortV t down s d k most L).2]) := by
 have h1 := FnS.frz2 (Q := fun es x h => (es, x) = ((shortV t down s d k most L).1.map encRow, iA (shortV t down s d k most L).2) ∧ h = []) (sz := 1) (fun es x h' h => by
  obtain ⟨h, rfl⟩ := h
  cases h
  exact ⟨rfl, rfl, rfl, rfl⟩) (short_raw P hP t down s d k most L hl11 hsm hsrt)
 refine h1.mono ?_
 rintro r h' ⟨es, x, ⟨h, _⟩, rfl⟩
 cases h
 exact ⟨rfl, rfl⟩
end Go.Ab

