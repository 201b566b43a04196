/-
  Merged texts, part r.
-/
import Derived.Test.YtmcjlpmlnfbjaaaZq
/-
  Updates, part t: the program's order.
-/
namespace Go.Ab
open Go.Proofs
theorem fresh_lt {J : Stps} : ∀ {s : List Nat} {m : Nat}, Fresh J m s → ∀ i ∈ s, i < J.n := by
 intro s
 induction s with
 | nil => intro m _ i hi; cases hi
 | cons x r ih =>
  intro m h i hi
  rcases List.mem_cons.1 hi with e | hi
  ·rw [e]; exact h.1
  ·exact ih h.2.2 i hi
def ordR (ch : List Int) (o : List Nat) (k : Nat) : List (List D) := (o.take k).map (fun i => [iD (ch.getD i 0)]) ++ (o.drop k).map encN
theorem ordR_zero (ch : List Int) (o : List Nat) : ordR ch o 0 = o.map encN := by simp [ordR]
theorem ordR_all (ch : List Int) (o : List Nat) : ordR ch o o.length = (o.map fun i => ch.getD i 0).map encI := by simp [ordR, encI, Function.comp_def]
theorem ordR_len {ch : List Int} {o : List Nat} {k : Nat} : (ordR ch o k).length = o.length := by
 simp only [ordR, List.length_append, List.length_map, List.length_take, List.length_drop]; omega
theorem ordR_at {ch : List Int} {o : List Nat} {k i : Nat} (h : o[k]? = some i) : (ordR ch o k)[k]? = some (encN i) := by
 have hk := get_lt h
 rw [ordR, List.getElem?_append_right (by simp; omega)]
 simp only [List.length_map, List.length_take]
 rw [show k - min k o.length = 0 by omega, List.getElem?_map, List.getElem?_drop, Nat.add_zero, h]; rfl
theorem ordR_set {ch : List Int} {o : List Nat} {k i : Nat} (h : o[k]? = some i) : (ordR ch o k).set k [iD (ch.getD i 0)] = ordR ch o (k + 1) := by
 have hk := get_lt h
 have hd : o.drop k = i :: o.drop (k + 1) := by
  rw [List.drop_eq_getElem_cons hk]
  rw [List.getElem?_eq_getElem hk] at h
  rw [Option.some.inj h]
 rw [ordR, List.set_append_right _ _ (by simp; omega), ordR, take_succ_get h, hd]
 simp only [List.length_map, List.length_take, List.map_append, List.map_cons, List.map_nil, List.append_assoc]
 rw [show k - min k o.length = 0 by omega]
 rfl
def OrdR (es : List (List D)) (e : Int) (r : AV) (h' : Hp) : Prop := (∃ l v n rl, r = .tup [.c (.arr l v 0 n), iA e] ∧ h'[l]? = some (Blk.da rl v 1 es) ∧ n = es.length) ∨ (es = [] ∧ ∃ nl, r = .tup [.c (.d (.list nl 1 [])), iA e])
theorem dr_intU {G : Nat → Prop} {w : World} {v : Value} {n : Int} (h : DR G w v (iD n)) : v = .int .i64 n := by cases h; rfl
theorem FrS.of_tup {P : Program} {f : Nat} {vargs : List AV} {es : List (List D)} {e : Int} (hf : FnS P f vargs [] (OrdR es e)) (hsc : ∀ e ∈ es, ∀ d ∈ e, scalD d = true) : FrS P f vargs (.tup [.c (.d (.list false 1 es)), iA e]) where
 pure := rfl
 out w vs hv := by
  refine (hf.out (below w) [] w vs (HR_nil fun b hb => hb) hv).mono fun e w' ⟨v, r, G', ι', h', he, hR, hr, hvr, hx⟩ => ?_
  have hsame : ∀ b, b < w.heap.size → w'.heap[b]? = w.heap[b]? := fun b hb => hx.frame b hb fun ⟨l, blk, h1, _⟩ => by simp at h1
  have hnew : ∀ b, owned ι' h' b → w.heap.size ≤ b := fun b ho => by
   rcases hx.onew b ho with ⟨l, blk, h1, _⟩ | h1
   ·simp at h1
   ·exact h1
  refine ⟨v, he, hx.quiet, hx.size, hsame, ?_⟩
  rcases hR with ⟨l, ver, n, rl, rfl, h1, h2⟩ | ⟨rfl, nl, rfl⟩
  ·cases hvr with
   | tup cs _ hn hc =>
    refine .tup cs _ hn fun i u x hu hx => ?_
    match i, hx with
    | 0, hx => cases hx; exact .c _ _ (.d _ _ (new_arr hr (inv_c (hc 0 u _ hu rfl)) h1 h2 hnew hsc))
    | 1, hx => cases hx; have := dr_intU (inv_d (hc 1 u _ hu rfl)); rw [this]; exact .c _ _ (.d _ _ (.int _ _))
  ·cases hvr with
   | tup cs _ hn hc =>
    refine .tup cs _ hn fun i u x hu hx => ?_
    match i, hx with
    | 0, hx =>
     cases hx
     have hd := inv_d (hc 0 u _ hu rfl)
     generalize hx : D.list nl 1 [] = x at hd
     cases hd with
     | nils nl' sz' => cases hx; exact .c _ _ (.d _ _ (.nils _ _))
     | emp a sz' => cases hx; exact .c _ _ (.d _ _ (.emp _ _))
     | sl b' off cap' sz' l' g hG hcap hmax hsz hc hr' =>
      cases hx
      exact .c _ _ (.d _ _ (.sl b' off cap' 1 [] g (fun h => absurd rfl h) hcap hmax (by simp) (by simp) (by simp)))
     | _ => cases hx
    | 1, hx => cases hx; have := dr_intU (inv_d (hc 1 u _ hu rfl)); rw [this]; exact .c _ _ (.d _ _ (.int _ _))
theorem pOrder_raw (P : Program) (hP : P = Try.prog) (t : Top) (a b : List Tn) (ra : idOk a) (rb : idOk b) : FnS P n_update_Order [topA t, tnsA a, tnsA b] [] (OrdR ((orderRes t a b).1.map encI) (orderRes t a b).2) := by
 by_cases hpp : properS t a = true ∧ properS t b = true
 rotate_left
 ·have hpr := prepare_no P hP t a b hpp
  refine heap_start (hP ▸ mixed) (hP ▸ fn_update_Order) (hP ▸ c_update_Order) (Nat.le_of_ble_eq_true rfl) fun Λ Λo K hK => ?_
  clear hP
  rw [orderRes, if_pos hpp] at hK
  have kz := fun h' => hK (.tup [.c (.d (.list true 1 [])), iA 1]) h' (.inr ⟨rfl, true, rfl⟩)
  clear hK
  simp only [tnsA, tnsD, intsA, intsD, List.map_nil] at *
  generalize a.map encTn = al at *
  generalize b.map encTn = bl at *
  obtain ⟨nodes, ov, links⟩ := t
  simp only [topA, boolsD, linksD] at *
  generalize hol : ov.map encB = ol at *
  generalize hll : links.map encLk = ll at *
  have hlo : Λ ol = ov.length := by rw [Λo, ← hol]; simp
  have hls : Λ ll = links.length := by rw [Λo, ← hll]; simp
  conv => cbv
  repeat' first | (refine call_r hpr rfl rfl ?_; conv => cbv) | exact gu | exact trivial | refine And.intro ?_ ?_ | (intro hc; exact absurd hc (by decide)) | (intro hc; exfalso; omega) | (intro hc; (first | rw [wrap_small (by omega) (by omega)] at hc | rw [nI_eq] at hc | skip); try (conv => cbv))
  exact kz _
 have hres : orderRes t a b = (if ¬ ((stepsT t a b).Fit 0 (-1) ∧ (stepsT t a b).Fit (fullM (changedS a b).length) (-1)) then ([], 12)
   else match dfs (stepsT t a b) (changedS a b).length 0 [] with
   | none => ([], 8)
   | some o => (o.map fun i => (changedS a b).getD i 0, 0) : List Int × Int) := by
  rw [orderRes, if_neg (not_not_intro hpp)]; rfl
 obtain ⟨p1, p2⟩ := hpp
 have hpr := prepare_yes P hP t a b ra rb p1 p2
 have hsm := sml_steps p1 p2
 have hft := fun m hm mi => pjfits_ok P hP t (changedS a b) (stepsT t a b) rfl hsm rfl (fun _ => rfl) m hm mi
 have hfi := pfirst_ok P hP t (changedS a b) (stepsT t a b) rfl hsm rfl (fun _ => rfl)
 rw [jobC_J] at hpr
 have hc24 := ch_len24 p1 p2
 have hfo : FnOk P n_update_Order_1 := hP ▸ ⟨_, fn_update_Order_1, rfl, by decide⟩
 have hJn : (stepsT t a b).n = (changedS a b).length := rfl
 refine heap_start (hP ▸ mixed) (hP ▸ fn_update_Order) (hP ▸ c_update_Order) (Nat.le_of_ble_eq_true rfl) fun Λ Λo K hK => ?_
 clear hP p1 p2 hsm
 rw [hres] at hK
 clear hres
 generalize stepsT t a b = J at *
 generalize changedS a b = ch at *
 rw [← hJn] at hK hc24
 have h0 := hft 0 (by decide) (-1)
 have h1 := hft (fullM J.n) (full_lt (by omega)) (-1)
 have bad : ¬ (J.Fit 0 (-1) ∧ J.Fit (fullM J.n) (-1)) → ∀ h', K (.tup [.c (.d (.list true 1 [])), iA 12]) h' := fun h h' => by
  rw [if_pos h] at hK; exact hK _ _ (.inr ⟨rfl, true, rfl⟩)
 have gnone : J.Fit 0 (-1) → J.Fit (fullM J.n) (-1) → dfs J J.n 0 [] = none → ∀ h', K (.tup [.c (.d (.list true 1 [])), iA 8]) h' := fun h h2 h3 h' => by
  rw [if_neg (not_not_intro ⟨h, h2⟩), h3] at hK; exact hK _ _ (.inr ⟨rfl, true, rfl⟩)
 have gsome : J.Fit 0 (-1) → J.Fit (fullM J.n) (-1) → ∀ o, dfs J J.n 0 [] = some o → ∀ l v n rl h', h'[l]? = some (Blk.da rl v 1 ((o.map fun i => ch.getD i 0).map encI)) → n = o.length → K (.tup [.c (.arr l v 0 n), iA 0]) h' := fun h h2 o h3 l v n rl h' h4 h5 => by
  rw [if_neg (not_not_intro ⟨h, h2⟩), h3] at hK; exact hK _ _ (.inl ⟨l, v, n, rl, rfl, h4, by rw [h5]; simp⟩)
 clear hK hft
 obtain ⟨F0, hF0⟩ : ∃ F, F = decide (J.Fit 0 (-1)) := ⟨_, rfl⟩
 obtain ⟨F1, hF1⟩ : ∃ F, F = decide (J.Fit (fullM J.n) (-1)) := ⟨_, rfl⟩
 obtain ⟨bz, hbz⟩ : ∃ bz : Int, bz = ((2 ^ J.n : Nat) : Int) := ⟨_, rfl⟩
 obtain ⟨fz, hfz⟩ : ∃ fz : Int, fz = (fullM J.n : Nat) := ⟨_, rfl⟩
 rw [← hF0] at h0
 rw [← hF1, ← hfz] at h1
 have hf0 : F0 = true ↔ J.Fit 0 (-1) := by rw [hF0]; exact decide_eq_true_iff
 have hf1 : F1 = true ↔ J.Fit (fullM J.n) (-1) := by rw [hF1]; exact decide_eq_true_iff
 clear hF0 hF1
 have hsq := fun o (h : dfs J J.n 0 [] = some o) => dfs_seq J.n 0 [] o h
 generalize hdf : dfs J J.n 0 [] = df at *
 have hdo : ∀ o, df = some o → (∀ i ∈ o, i < J.n) ∧ o.length = J.n := fun o h => by
  obtain ⟨s, e1, e2, e3, _⟩ := hsq o h
  rw [List.nil_append] at e1
  subst e1
  exact ⟨fresh_lt e3, e2⟩
 clear hsq hdf
 have hcl : ∀ i, i < J.n → (ch.map encI)[i]? = some [iD (ch.getD i 0)] := fun i hi => by
  rw [List.getElem?_map, List.getD_eq_getElem?_getD, List.getElem?_eq_getElem (by omega)]; rfl
 have hcln : Λ (ch.map encI) = J.n := by rw [Λo, List.length_map, hJn]
 obtain ⟨nz, hnz⟩ : ∃ nz : Int, nz = (J.n : Int) := ⟨_, rfl⟩
 simp only [stepH, frstH, fnsA, jobJ, tabD, tnsA, tnsD, intsA, intsD, boolsD, linksD, List.map_nil, List.cons_append, List.nil_append] at *
 generalize a.map encTn = al at *
 generalize b.map encTn = bl at *
 have hres2 : ∀ o : List Nat, ordR ch o o.length = (o.map fun i => ch.getD i 0).map encI := ordR_all ch
 generalize ch.map encI = cl at *
 generalize arrS J.w J.S = sl at *
 generalize (rowsF J.n J.w J.B).map (fun l => [D.list false 1 l]) = rb at *
 generalize (rowsF J.n J.w J.A).map (fun l => [D.list false 1 l]) = ra at *
 obtain ⟨nodes, ov, links⟩ := t
 simp only [topA, boolsD, linksD] at *
 generalize hol : ov.map encB = ol at *
 generalize hll : links.map encLk = ll at *
 have hlo : Λ ol = ov.length := by rw [Λo, ← hol]; simp
 have hls : Λ ll = links.length := by rw [Λo, ← hll]; simp
 cases F0 with
 | false =>
  have k1 := bad fun h => by have := hf0.2 h.1; cases this
  clear hfi gnone gsome bad hdo hcl
  conv => cbv
  repeat' first | (refine call_r hpr rfl rfl ?_; conv => cbv) | (refine call_r h0 rfl rfl ?_; conv => cbv) | exact gu | exact trivial | refine And.intro ?_ ?_ | (intro hc; exact absurd hc (by decide)) | (intro hc; exfalso; omega) | (intro hc; (first | rw [wrap_small (by omega) (by omega)] at hc | rw [nI_eq] at hc | skip); try (conv => cbv))
  exact k1 _
 | true =>
  cases F1 with
  | false =>
   have k1 := bad fun h => by have := hf1.2 h.2; cases this
   clear hfi gnone gsome bad hdo hcl
   conv => cbv
   repeat' first | (refine call_r hpr rfl rfl ?_; conv => cbv) | (refine call_r h0 rfl rfl ?_; conv => cbv) | (intro (c : Int) hc; refine (fun (hz : bz = c) => ?_) (hbz.trans (shlU hcln (by omega) hc).symm); subst hz; (conv => cbv)) | (intro (c : Int) hc; refine (fun (hz : fz = c) => ?_) (hfz.trans (fullU (b := 0) (by omega) hbz hc).symm); subst hz; (conv => cbv)) | (refine call_r h1 rfl rfl ?_; conv => cbv) | exact gu | exact trivial | refine And.intro ?_ ?_ | (intro hc; exact absurd hc (by decide)) | (intro hc; exfalso; omega) | (intro hc; (first | rw [wrap_small (by omega) (by omega)] at hc | rw [nI_eq] at hc | skip); try (conv => cbv))
   exact k1 _
  | true =>
   have hfi := hfi (hf0.1 rfl) (hf1.1 rfl)
   rw [← hcln] at hfi
   have gnone := gnone (hf0.1 rfl) (hf1.1 rfl)
   have gsome := gsome (hf0.1 rfl) (hf1.1 rfl)
   clear bad
   cases df with
   | none =>
    simp only at hfi
    have gnone := gnone rfl
    clear hdo gsome
    conv => cbv
    repeat' first | (refine call_r hpr rfl rfl ?_; conv => cbv) | (refine call_r h0 rfl rfl ?_; conv => cbv) | (intro (c : Int) hc; refine (fun (hz : bz = c) => ?_) (hbz.trans (shlU hcln (by omega) hc).symm); subst hz; (conv => cbv)) | (intro (c : Int) hc; refine (fun (hz : fz = c) => ?_) (hfz.trans (fullU (b := 0) (by omega) hbz hc).symm); subst hz; (conv => cbv)) | (refine call_r h1 rfl rfl ?_; conv => cbv) | (refine call_fr [2, 1] hfi rfl rfl (by decide) (by repeat' first | exact trivial | refine And.intro ?_ ?_ | rfl) rfl rfl ?_; rintro r hc' ⟨sh, mx, v, es, rl, ve, el, rfl, rfl⟩; (conv => cbv)) | exact gu | exact trivial | refine And.intro ?_ ?_ | (intro hc; exact absurd hc (by decide)) | (intro hc; exfalso; omega) | (intro hc; (first | rw [wrap_small (by omega) (by omega)] at hc | rw [nI_eq] at hc | skip); try (conv => cbv))
    exact gnone _
   | some o =>
    simp only at hfi
    have good := gsome o rfl
    clear gnone gsome
    obtain ⟨ho1, ho2⟩ := hdo o rfl
    clear hdo
    obtain ⟨no, hno⟩ : ∃ no, no = o.length := ⟨_, rfl⟩
    rw [← hno] at hfi ho2
    simp only [← hres2] at good
    have hr0 := ordR_zero ch o
    rw [← hr0] at hfi
    have hrl := fun k => ordR_len (ch := ch) (o := o) (k := k)
    have hra2 := fun k i => ordR_at (ch := ch) (o := o) (k := k) (i := i)
    have hrs := fun k i => ordR_set (ch := ch) (o := o) (k := k) (i := i)
    rw [← hno] at hrl good
    generalize ordR ch o = oR at *
    obtain ⟨el0, hel0⟩ : ∃ el0, el0 = oR 0 := ⟨_, rfl⟩
    rw [← hel0] at hfi
    conv => cbv
    repeat' first | (refine call_r hpr rfl rfl ?_; conv => cbv) | (refine call_r h0 rfl rfl ?_; conv => cbv) | (intro (c : Int) hc; refine (fun (hz : bz = c) => ?_) (hbz.trans (shlU hcln (by omega) hc).symm); subst hz; (conv => cbv)) | (intro (c : Int) hc; refine (fun (hz : fz = c) => ?_) (hfz.trans (fullU (b := 0) (by omega) hbz hc).symm); subst hz; (conv => cbv)) | (refine call_r h1 rfl rfl ?_; conv => cbv) | (refine call_fr [2, 1] hfi rfl rfl (by decide) (by repeat' first | exact trivial | refine And.intro ?_ ?_ | rfl) rfl rfl ?_; rintro r hc' ⟨sh, mx, v, es, rl, ve, el, rfl, rfl, hel⟩; (conv => cbv)) | exact gu | exact trivial | refine And.intro ?_ ?_ | (intro hc; exact absurd hc (by decide)) | (intro hc; exfalso; omega) | (intro hc; (first | rw [wrap_small (by omega) (by omega)] at hc | rw [nI_eq] at hc | skip); try (conv => cbv))
    subst hel
    rename_i noz hnoz
    have hrl2 : el.length = no := by rw [hel0]; exact hrl 0
    refine loop_up no (fun s : Int × List (List D) => [(8, .c (.ptr 1 0 0 0)), (11, .c (.arr 6 ve 0 no)), (56, .c (.arr 6 ve 0 no)), (57, iA noz), (58, iA s.1)])
     (fun s => [.bx [.d (iD nodes), .d (.list false 1 ol), .d (.list false 7 ll)], .bx [.rp [iD nodes, .list false 1 ol, .list false 7 ll, .list false 1 cl, .list false 1 sl, .list false 1 rb, .list false 1 ra]], .bx [.fn false n_update_Order_1 []], .bx [.d (iD (Λ cl)), .fn true n_update_job_fits [.rp [iD nodes, .list false 1 ol, .list false 7 ll, .list false 1 cl, .list false 1 sl, .list false 1 rb, .list false 1 ra]], .fn false n_update_Order_2 [.ptr 2 0 0 0, .ptr 1 0 0 0], .fn false n_update_Order_3 [.ptr 2 0 0 0, .ptr 1 0 0 0]], .mp v es, .bx [.d (iD (Λ cl)), .fn true n_update_job_fits [.rp [iD nodes, .list false 1 ol, .list false 7 ll, .list false 1 cl, .list false 1 sl, .list false 1 rb, .list false 1 ra]], .fn false n_update_Order_2 [.ptr 2 0 0 0, .ptr 1 0 0 0], .fn false n_update_Order_3 [.ptr 2 0 0 0, .ptr 1 0 0 0], .d (.int .u32 sh), .d (.int .u32 mx), .mp 4], .da rl ve 1 s.2])
     (fun k s => s.1 = k ∧ k ≤ no ∧ s.2 = oR k) (0, el) (Wk.ca) ⟨rfl, by omega, hel0⟩ (fun k s h => h.2.1) ?_
    rintro k ⟨i, e1⟩ Q' ⟨hi, hk, he1⟩ norm ex rt
    simp only at hi he1
    have he1l : e1.length = no := by rw [he1]; exact hrl k
    by_cases hlt : k < no
    ·clear good
     obtain ⟨x, hx⟩ : ∃ x, o[k]? = some x := ⟨_, List.getElem?_eq_getElem (by omega)⟩
     have hxl := ho1 x (List.mem_of_getElem? hx)
     obtain ⟨kk, hkk⟩ : ∃ kk, kk = k := ⟨_, rfl⟩
     obtain ⟨xz, hxz⟩ : ∃ xz : Int, xz = (x : Int) := ⟨_, rfl⟩
     have hek : e1[kk]? = some [iD xz] := by rw [he1, hkk, hxz]; exact hra2 k x hx
     have hxt : xz.toNat = x := by omega
     have hcx : cl[xz.toNat]? = some [iD (ch.getD x 0)] := by rw [hxt]; exact hcl x hxl
     have hst := hrs k x hx
     rw [← he1, ← hkk] at hst
     generalize ch.getD x 0 = gx at *
     clear hcl hra2 hrs hrl
     conv => cbv
     repeat' first | (intro (k : Nat) hk; refine (fun (hz : kk = k) => ?_) ?_; rotate_left; omega; subst hz; (conv => cbv)) | (intro (e : List D) he; cases Option.some.inj (he.symm.trans hek); (conv => cbv)) | (intro (e : List D) he; cases Option.some.inj (he.symm.trans hcx); (conv => cbv)) | exact gu | exact trivial | refine And.intro ?_ ?_ | (intro hc; exact absurd hc (by decide)) | (intro hc; exfalso; omega) | (intro hc; (first | rw [wrap_small (by omega) (by omega)] at hc | rw [nI_eq] at hc | skip); try (conv => cbv))
     refine norm _ _ (_, _) ?_ (Wk.ca)
     refine ⟨by simp only; omega, by omega, ?_⟩
     simp only
     rw [← hkk, ← hst]; assumption
    ·obtain rfl : k = no := by omega
     have lf := good 6 ve k rl
     rw [← he1] at lf
     conv => cbv
     repeat' first | (refine ex _ _ _ ?_; (conv => cbv)) | (refine rt _ _ ?_; (conv => cbv)) | exact gu | exact trivial | refine And.intro ?_ ?_ | (intro hc; exact absurd hc (by decide)) | (intro hc; exfalso; omega) | (intro hc; (first | rw [wrap_small (by omega) (by omega)] at hc | rw [nI_eq] at hc | skip); try (conv => cbv))
     exact lf _ rfl rfl
theorem pOrder_fr (P : Program) (hP : P = Try.prog) (t : Top) (a b : List Tn) (ra : idOk a) (rb : idOk b) : FrS P n_update_Order [topA t, tnsA a, tnsA b] (.tup [intsA (orderRes t a b).1, iA (orderRes t a b).2]) :=
 FrS.of_tup (pOrder_raw P hP t a b ra rb) fun e he d hd => by
  obtain ⟨x, _, rfl⟩ := List.mem_map.1 he
  simp only [encI, List.mem_singleton] at hd
  subst hd; rfl
theorem pOrder_ok (P : Program) (hP : P = Try.prog) (t : Top) (a b : List Tn) (ra : idOk a) (rb : idOk b) : Ret P n_update_Order [topA t, tnsA a, tnsA b] (.tup [intsA (orderRes t a b).1, iA (orderRes t a b).2]) :=
 (FnS.fresh (h := []) (pOrder_fr P hP t a b ra rb) rfl).mono fun r' h' ⟨_, h⟩ => by rw [h]; exact ⟨rfl, rfl⟩
end Go.Ab

/-
  Updates, part u: small functions of the laws.
-/
namespace Go.Ab
open Go.Proofs
theorem program48_ok (P : Program) (hP : P = Try.prog) (l : List Tn) (h70 : ∀ x ∈ l, x.arcs.length ≤ 70) (hl : l.length ≤ 1000) : Ret P n_law48_program [tnsA l] (tnsA l) := by
 refine ret_start (hP ▸ mixed) (hP ▸ fn_law48_program) (hP ▸ c_law48_program) (Nat.le_of_ble_eq_true rfl) fun Λ Λo K hK => ?_
 clear hP
 have leaf : ∀ y, y = l.map encTn → K (.c (.d (.list false 3 y))) := fun y hy => by rw [hy]; exact hK
 clear hK
 simp only [tnsA, tnsD] at *
 generalize llh : l.map encTn = ll at *
 have lln : Λ ll = l.length := by rw [Λo, ← llh]; simp
 have lll : ll.length = l.length := by rw [← llh]; simp
 conv => cbv
 repeat' first | exact gu | exact trivial | refine And.intro ?_ ?_ | (intro hc; exact absurd hc (by decide)) | (intro hc; exfalso; omega) | (intro hc; (first | rw [wrap_small (by omega) (by omega)] at hc | rw [nI_eq] at hc | skip); try (conv => cbv))
 refine loop_up l.length (fun s : Int × Nat × Nat × Bool × List (List D) => [(0, .c (.d (.list false 3 ll))), (3, .c (.arr 0 s.2.1 0 s.2.2.1)), (4, iA s.1)]) (fun s => [.da s.2.2.2.1 s.2.1 3 s.2.2.2.2])
  (fun k s => s.1 = k ∧ k ≤ l.length ∧ s.2.2.1 = k ∧ s.2.2.2.2 = ll.take k) (0, 0, 0, false, []) (.trans (.nilS 3 3 rfl) (Wk.cw)) ⟨rfl, by omega, rfl, rfl⟩ (fun k s h => h.2.1) ?_
 rintro k ⟨i, ve, no, r, es⟩ Q' ⟨hi, hk, hno, hes⟩ norm ex rt
 simp only at hi hno hes
 have hesl : es.length = no := by rw [hes, List.length_take]; omega
 by_cases hlt : k < l.length
 ·clear leaf
  obtain ⟨x, hx⟩ : ∃ x, l[k]? = some x := ⟨_, List.getElem?_eq_getElem hlt⟩
  have hxa := elt_at llh hi hx
  have h70x := h70 x (List.mem_of_getElem? hx)
  obtain ⟨xi, xa, xr⟩ := x
  simp only [encTn, intsD] at hxa h70x
  obtain ⟨xl, xlh⟩ : ∃ xl, xl = xa.map encI := ⟨_, rfl⟩
  rw [← xlh] at hxa
  have xll : xl.length = xa.length := by rw [xlh]; simp
  have htk := take_succ_get (l := ll) (k := k) (x := [iD xi, .list false 1 xl, iD xr]) (by rw [← hxa, hi]; rfl)
  obtain ⟨e1, he1⟩ : ∃ e1, e1 = [] ++ xl := ⟨_, rfl⟩
  obtain ⟨n1, hn1⟩ : ∃ n1, n1 = 0 + xl.length := ⟨_, rfl⟩
  have hte : List.take n1 e1 = xl := by rw [he1, List.nil_append, List.take_of_length_le (by omega)]
  conv => cbv
  repeat' first | (refine ex _ _ _ ?_; (conv => cbv)) | (refine rt _ _ ?_; (conv => cbv)) | (intro e he; cases Option.some.inj (he.symm.trans hxa); (conv => cbv)) | (intro (m : Nat) (r : Bool) (y : List (List D)) hm hr hy; refine (fun (hz : n1 = m) (hz2 : e1 = y) => ?_) (by first | omega | (simp only [List.length_cons, List.length_nil] at hm; omega)) (by first | (rw [hy, List.drop_zero, List.take_of_length_le (by omega)]; exact he1) | (rw [hy]; exact he1)); subst hz; subst hz2; (conv => cbv)) | exact gu | exact trivial | refine And.intro ?_ ?_ | (intro hc; exact absurd hc (by decide)) | (intro hc; exfalso; omega) | (intro hc; (first | rw [wrap_small (by omega) (by omega)] at hc | rw [nI_eq] at hc | skip); try (conv => cbv))
  rename_i n2 r2 y hn2 hr2 hy i2
  have hy2 : y = es ++ [[iD xi, .list false 1 (List.take n1 e1), iD xr]] := by
   rw [hy, List.drop_zero, List.take_of_length_le (by omega)]
   clear hte hy he1 hn1 hn2
   cases n1 <;> cases e1 <;> rfl
  have hn3 : n2 = no + 1 := hn2
  refine norm _ _ (i2, ve.succ, n2, r2, y) ?_ (Wk.cw)
  refine ⟨by simp only; omega, by omega, by simp only; omega, ?_⟩
  simp only
  rw [hy2, hte, htk, hes]
 ·rw [List.take_of_length_le (by omega)] at hes
  conv => cbv
  repeat' first | (refine ex _ _ _ ?_; (conv => cbv)) | (refine rt _ _ ?_; (conv => cbv)) | exact gu | exact trivial | refine And.intro ?_ ?_ | (intro hc; exact absurd hc (by decide)) | (intro hc; exfalso; omega) | (intro hc; (first | rw [wrap_small (by omega) (by omega)] at hc | rw [nI_eq] at hc | skip); try (conv => cbv))
  exact leaf _ (by rw [hc, List.drop_zero, List.take_of_length_le (by omega), hes])
theorem small48_ok (P : Program) (hP : P = Try.prog) (t : Top) (a b : List Tn) (most : Int) : Ret P n_law48_small [topA t, .agg [.d (tnsD a), .d (tnsD b)], iA most] (bA (decide (t.links.length ≤ 10) && (decide (t.ov.length ≤ 20) && (fewS a most && fewS b most)))) := by
 have h1 := rfew_ok P hP a most
 have h2 := rfew_ok P hP b most
 refine ret_start (hP ▸ mixed) (hP ▸ fn_law48_small) (hP ▸ c_law48_small) (Nat.le_of_ble_eq_true rfl) fun Λ Λo K hK => ?_
 clear hP
 simp only [tnsA, tnsD] at *
 generalize fewS a most = F1 at *
 generalize fewS b most = F2 at *
 generalize a.map encTn = al at *
 generalize b.map encTn = bl at *
 have leaf : ∀ b, b = (decide (t.links.length ≤ 10) && (decide (t.ov.length ≤ 20) && (F1 && F2))) → K (bA b) := fun b h => by rw [h]; exact hK
 clear hK
 obtain ⟨nodes, ov, links⟩ := t
 simp only [topA, boolsD, linksD] at *
 generalize hol : ov.map encB = ol at *
 generalize hll : links.map encLk = ll at *
 have hlo : Λ ol = ov.length := by rw [Λo, ← hol]; simp
 have hls : Λ ll = links.length := by rw [Λo, ← hll]; simp
 conv => cbv
 repeat' first | refine call_b h1 rfl rfl ?_ ?_ | refine call_b h2 rfl rfl ?_ ?_ | exact gu | exact trivial | refine And.intro ?_ ?_ | (intro hc; exact absurd hc (by decide)) | (intro hc; exfalso; omega) | (intro hc; (first | rw [wrap_small (by omega) (by omega)] at hc | rw [nI_eq] at hc | skip); try (conv => cbv))
 all_goals refine leaf _ ?_
 all_goals first
  | (rw [decide_eq_false (by omega)]; rfl)
  | (rw [decide_eq_true (show links.length ≤ 10 by omega), decide_eq_false (by omega)]; rfl)
  | (rw [decide_eq_true (show links.length ≤ 10 by omega), decide_eq_true (show ov.length ≤ 20 by omega)]; simp_all)
end Go.Ab

/-
  Updates, part v: the examples of the document.
-/
namespace Go.Ab
open Go.Proofs
def parL : Lk := ⟨0, 1, 1, 1, 2, 1, 0⟩
def parT : Top := ⟨2, [], [parL, parL]⟩
theorem parallel_ok (P : Program) (hP : P = Try.prog) : Ret P n_law48_parallel [] (topA parT) := by
 refine ret_start (hP ▸ mixed) (hP ▸ fn_law48_parallel) (hP ▸ c_law48_parallel) (Nat.le_of_ble_eq_true rfl) fun Λ Λo K hK => ?_
 clear hP
 conv => cbv
 repeat' first | (intro (y : List (List D)) hy; subst hy; (conv => cbv)) | exact gu | exact trivial | refine And.intro ?_ ?_ | (intro hc; exact absurd hc (by decide)) | (intro hc; exfalso; omega) | (intro hc; (first | rw [wrap_small (by omega) (by omega)] at hc | rw [nI_eq] at hc | skip); try (conv => cbv))
 exact hK
def exA (r : Int) : List Tn := [⟨1, [0], r⟩, ⟨2, [2], r⟩]
def exB (r : Int) : List Tn := [⟨1, [2], r⟩, ⟨2, [0], r⟩]
theorem ex_one : orderRes parT (exA 1) (exB 1) = ([1, 2], 0) := by decide
theorem ex_two : orderRes parT (exA 2) (exB 2) = ([], 8) := by decide
theorem ex_prop : properS parT (exA 2) = true := by decide
theorem awake48_ok (P : Program) (hP : P = Try.prog) : Ret P n_law48_awake [] (bA true) := by
 have ida : ∀ r, idOk (exA r) := fun r x hx => by simp only [exA, List.mem_cons, List.not_mem_nil, or_false] at hx; rcases hx with rfl | rfl <;> simp only <;> omega
 have idb : ∀ r, idOk (exB r) := fun r x hx => by simp only [exB, List.mem_cons, List.not_mem_nil, or_false] at hx; rcases hx with rfl | rfl <;> simp only <;> omega
 have h1 := pOrder_fr P hP parT (exA 1) (exB 1) (ida 1) (idb 1)
 have h2 := pOrder_fr P hP parT (exA 2) (exB 2) (ida 2) (idb 2)
 rw [ex_one] at h1
 rw [ex_two] at h2
 have h3 := pproper_ok P hP parT (exA 2)
 rw [ex_prop] at h3
 have h4 := parallel_ok P hP
 have h5 := sameInts_ok P hP [1, 2] [1, 2]
 rw [decide_eq_true rfl] at h5
 refine ret_start (hP ▸ mixed) (hP ▸ fn_law48_awake) (hP ▸ c_law48_awake) (Nat.le_of_ble_eq_true rfl) fun Λ Λo K hK => ?_
 clear hP
 conv => cbv
 repeat' first | (refine call_r h4 rfl rfl ?_; (conv => cbv)) | (refine look_fr h1 rfl ?_; (conv => cbv)) | (refine look_fr h2 rfl ?_; (conv => cbv)) | (refine look_b h3 rfl ?_ ?_) | (refine call_b h5 rfl rfl ?_ ?_) | (refine look_b h5 rfl ?_ ?_) | (intro (k : Nat) hk; refine (fun (hz : 0 = k) => ?_) ?_; rotate_left; omega; subst hz; (conv => cbv)) | (intro (k : Nat) hk; refine (fun (hz : 1 = k) => ?_) ?_; rotate_left; omega; subst hz; (conv => cbv)) | (intro (e : List D) (he : some _ = some e); cases he; (conv => cbv)) | (intro (x : List (List D)) hx; subst hx; (conv => cbv)) | exact gu | exact trivial | refine And.intro ?_ ?_ | (intro hc; exact absurd hc (by decide)) | (intro hc; exfalso; omega) | (intro hc; (first | rw [wrap_small (by omega) (by omega)] at hc | rw [nI_eq] at hc | skip); try (conv => cbv))
 exact hK
end Go.Ab

/-
  Updates, part w: the laws that compare with the reference.
-/
namespace Go.Ab
open Go.Proofs
abbrev plansA (a b : List Tn) : AV := .agg [.d (tnsD a), .d (tnsD b)]
def smallS (t : Top) (a b : List Tn) (most : Int) : Bool := decide (t.links.length ≤ 10) && (decide (t.ov.length ≤ 20) && (fewS a most && fewS b most))
theorem fewS_spec {l : List Tn} {most : Int} (h : fewS l most = true) : (∀ x ∈ l, x.arcs.length ≤ 70) ∧ (l.length : Int) ≤ most := by
 simp only [fewS, Bool.and_eq_true, decide_eq_true_eq] at h; exact h
theorem small_spec {t : Top} {a b : List Tn} {most : Int} (h : smallS t a b most = true) : ((∀ x ∈ a, x.arcs.length ≤ 70) ∧ (a.length : Int) ≤ most) ∧ (∀ x ∈ b, x.arcs.length ≤ 70) ∧ (b.length : Int) ≤ most := by
 simp only [smallS, Bool.and_eq_true] at h
 exact ⟨fewS_spec h.2.2.1, fewS_spec h.2.2.2⟩
theorem prog_few {P : Program} (hP : P = Try.prog) {l : List Tn} {most : Int} (h : (∀ x ∈ l, x.arcs.length ≤ 70) ∧ (l.length : Int) ≤ most) (hm : most ≤ 1000) : Ret P n_law48_program [tnsA l] (tnsA l) :=
 program48_ok P hP l h.1 (by have := h.2; omega)
end Go.Ab

/-
  Updates, part ge: the law of enough room.
-/
namespace Go.Ab
open Go.Proofs
/-! every step fits -/
theorem fullM_zero : fullM 0 = 0 := rfl
theorem bit_full (i : Nat) : bitS (fullM i) i = fullM (i + 1) := by
 apply Nat.eq_of_testBit_eq
 intro j
 rw [Bool.eq_iff_iff, tb_set, full_tb, Bool.or_eq_true, full_tb, decide_eq_true_iff]
 omega
theorem can_all {J : Stps} (hf : ∀ m mi, J.Fit m mi) : ∀ k m, cnt J.n m = k → Can J k m := by
 intro k
 induction k with
 | zero => intro m _; trivial
 | succ k ih =>
  intro m hc
  have : ∃ i, i < J.n ∧ m.testBit i = false := by
   apply Classical.byContradiction
   intro hn
   have hz : ∀ i, i < J.n → m.testBit i = true := fun i hi => by
    cases hb : m.testBit i with
    | true => rfl
    | false => exact absurd ⟨i, hi, hb⟩ hn
   have h0 : ∀ n, n ≤ J.n → cnt n m = 0 := by
    intro n
    induction n with
    | zero => intro _; rfl
    | succ n ihn =>
     intro hn2
     rw [cnt, ihn (by omega), hz n (by omega)]; rfl
   have := h0 J.n (Nat.le_refl _)
   omega
  obtain ⟨i, hi, hb⟩ := this
  exact ⟨i, hi, hb, hf _ _, ih _ (by have := cnt_set hb hi; omega)⟩
theorem cnt_full {n : Nat} : ∀ {i : Nat}, i ≤ n → cnt n (fullM i) + i = n := by
 intro i
 induction i with
 | zero => intro _; rw [fullM_zero, cnt_none]; rfl
 | succ i ih =>
  intro h
  have h1 := ih (by omega)
  have hb : (fullM i).testBit i = false := by
   rw [Bool.eq_false_iff]
   intro h
   have := full_tb.1 h
   omega
  have := cnt_set hb (n := n) (by omega)
  rw [bit_full] at this
  omega
theorem dfs_all {J : Stps} (hf : ∀ m mi, J.Fit m mi) : ∀ k i, i + k = J.n → dfs J k (fullM i) (List.range i) = some (List.range J.n) := by
 intro k
 induction k with
 | zero => intro i hi; rw [← hi]; rfl
 | succ k ih =>
  intro i hi
  have hb : (fullM i).testBit i = false := by
   rw [Bool.eq_false_iff]
   intro h
   have := full_tb.1 h
   omega
  have hc := cnt_full (n := J.n) (i := i + 1) (by omega)
  rw [dfs_step (i := i) (by omega) ⟨hb, hf _ _, can_all hf k _ (by rw [bit_full]; omega)⟩ fun j hj hg => ?_, bit_full, ← List.range_succ]
  ·exact ih (i + 1) (by omega)
  ·have h1 := hg.1
   rw [full_tb.2 hj] at h1; cases h1
theorem map_range_get (l : List Int) : (List.range l.length).map (fun i => l.getD i 0) = l := by
 apply List.ext_getElem?
 intro i
 rw [List.getElem?_map]
 by_cases h : i < l.length
 ·rw [List.getElem?_range h, List.getElem?_eq_getElem h, Option.map_some, List.getD_eq_getElem?_getD, List.getElem?_eq_getElem h]; rfl
 ·rw [List.getElem?_eq_none (by simpa using h), List.getElem?_eq_none (by omega)]; rfl
theorem order_all {t : Top} {a b : List Tn} (ha : properS t a = true) (hb : properS t b = true) (hf : ∀ m mi, (stepsT t a b).Fit m mi) : orderRes t a b = (changedS a b, 0) := by
 rw [orderRes, if_neg (not_not_intro ⟨ha, hb⟩), if_neg (not_not_intro ⟨hf _ _, hf _ _⟩)]
 have h := dfs_all hf (changedS a b).length 0 (by rw [Nat.zero_add]; rfl)
 rw [fullM_zero, List.range_zero] at h
 rw [h]
 show ((List.range (changedS a b).length).map (fun i => (changedS a b).getD i 0), (0 : Int)) = _
 rw [map_range_get]
/-! the loads are at most the sum of the rates -/
def sumR (l : List Tn) : Int := (l.map (·.rate)).sum
theorem one_le {x : Tn} {r : Int} (hr : 0 ≤ r) : ∀ {ch : List Int}, ch.Nodup → (ch.map fun id => if x.id = id then r else 0).sum ≤ if x.id ∈ ch then r else 0 := by
 intro ch
 induction ch with
 | nil => intro _; simp
 | cons y ch ih =>
  intro hn
  have h1 := List.nodup_cons.1 hn
  have h2 := ih h1.2
  rw [List.map_cons, List.sum_cons]
  by_cases he : x.id = y
  ·rw [if_pos he, if_pos (by simp [he])]
   rw [if_neg (by rw [he]; exact h1.1)] at h2
   omega
  ·rw [if_neg he]
   have : (x.id ∈ y :: ch) ↔ x.id ∈ ch := by simp [he]
   simp only [this]
   omega
theorem sum_add (f g : Int → Int) : ∀ l : List Int, (l.map fun i => f i + g i).sum = (l.map f).sum + (l.map g).sum := by
 intro l
 induction l with
 | nil => rfl
 | cons x l ih => rw [List.map_cons, List.sum_cons, ih, List.map_cons, List.sum_cons, List.map_cons, List.sum_cons]; omega
theorem sum_le {f g : Int → Int} : ∀ {l : List Int}, (∀ x ∈ l, f x ≤ g x) → (l.map f).sum ≤ (l.map g).sum := by
 intro l
 induction l with
 | nil => intro _; simp
 | cons x l ih =>
  intro h
  rw [List.map_cons, List.sum_cons, List.map_cons, List.sum_cons]
  have := h x (by simp); have := ih fun y hy => h y (by simp [hy])
  omega
theorem rate_cons (x : Tn) (l : List Tn) (id e : Int) (hx : 0 ≤ x.rate) (hl : ∀ y ∈ l, 0 ≤ y.rate) : rateS (x :: l) id e ≤ (if x.id = id then x.rate else 0) + rateS l id e := by
 have h0 : 0 ≤ rateS l id e := by
  rw [rateS]
  split
  ·omega
  ·rename_i y hy
   have := hl y (findS_some hy).1
   split <;> omega
 by_cases h : x.id = id
 ·rw [if_pos h]
  have : rateS (x :: l) id e ≤ x.rate := by
   rw [rateS, findS, List.find?_cons_of_pos (by simpa using h)]
   simp only
   split <;> omega
  omega
 ·have : rateS (x :: l) id e = rateS l id e := by
   rw [rateS, findS, List.find?_cons_of_neg (by simpa using h)]; rfl
  rw [if_neg h]
  omega
theorem rates_le {ch : List Int} (hc : ch.Nodup) (e : Int) : ∀ {l : List Tn}, (∀ x ∈ l, 0 ≤ x.rate) → (ch.map fun id => rateS l id e).sum ≤ (l.map fun x => if x.id ∈ ch then x.rate else 0).sum := by
 intro l
 induction l with
 | nil =>
  intro _
  have : (ch.map fun id => rateS [] id e) = ch.map fun _ => 0 := List.map_congr_left fun id _ => rfl
  rw [this]
  have : ∀ l : List Int, (l.map fun _ => (0 : Int)).sum = 0 := by
   intro l
   induction l with
   | nil => rfl
   | cons x l ih => rw [List.map_cons, List.sum_cons, ih]; rfl
  rw [this]; simp
 | cons x l ih =>
  intro h
  have hx := h x (by simp)
  have hl := fun y (hy : y ∈ l) => h y (by simp [hy])
  have h1 := ih hl
  have h2 := sum_le (l := ch) (f := fun id => rateS (x :: l) id e) (g := fun id => (if x.id = id then x.rate else 0) + rateS l id e) fun id _ => rate_cons x l id e hx hl
  rw [sum_add (fun id => if x.id = id then x.rate else 0) fun id => rateS l id e] at h2
  have h3 := one_le (x := x) hx hc
  rw [List.map_cons, List.sum_cons]
  omega
theorem part_sum {ch : List Int} {e : Int} : ∀ {l : List Tn}, (∀ x ∈ l, 0 ≤ x.rate) →
  (l.map fun x => if x.id ∈ ch then 0 else if e ∈ x.arcs then x.rate else 0).sum + (l.map fun x => if x.id ∈ ch then x.rate else 0).sum ≤ sumR l := by
 intro l
 induction l with
 | nil => intro _; simp [sumR]
 | cons x l ih =>
  intro h
  have h1 := ih fun y hy => h y (by simp [hy])
  have hx := h x (by simp)
  simp only [sumR, List.map_cons, List.sum_cons] at h1 ⊢
  split <;> (try split) <;> omega
theorem part_le {ch : List Int} : ∀ {l : List Tn}, (∀ x ∈ l, 0 ≤ x.rate) → (l.map fun x => if x.id ∈ ch then x.rate else 0).sum ≤ sumR l := by
 intro l
 induction l with
 | nil => intro _; simp [sumR]
 | cons x l ih =>
  intro h
  have h1 := ih fun y hy => h y (by simp [hy])
  have hx := h x (by simp)
  simp only [sumR, List.map_cons, List.sum_cons] at h1 ⊢
  split <;> omega
theorem sumR_pos : ∀ {l : List Tn}, (∀ x ∈ l, 0 ≤ x.rate) → 0 ≤ sumR l := by
 intro l
 induction l with
 | nil => intro _; simp [sumR]
 | cons x l ih =>
  intro h
  have h1 := ih fun y hy => h y (by simp [hy])
  have hx := h x (by simp)
  simp only [sumR, List.map_cons, List.sum_cons] at h1 ⊢
  omega
theorem sumN_add (f g : Nat → Int) : ∀ n, sumN (fun i => f i + g i) n = sumN f n + sumN g n := by
 intro n
 induction n with
 | zero => rfl
 | succ n ih => rw [sumN, sumN, sumN, ih]; omega
theorem rate_pos {l : List Tn} (hl : ∀ y ∈ l, 0 ≤ y.rate) (id e : Int) : 0 ≤ rateS l id e := by
 rw [rateS]
 split
 ·omega
 ·rename_i y hy
  have := hl y (findS_some hy).1
  split <;> omega
def wideK (s : Int) (l : Lk) : Lk := ⟨l.a, l.b, l.c0, l.c1, s, l.dl, l.gr⟩
def wideT (t : Top) (s : Int) : Top := ⟨t.nodes, t.ov, t.links.map (wideK s)⟩
theorem wide_proper {t : Top} {s : Int} (h0 : 0 ≤ s) (h1 : s ≤ 1048576) {l : List Tn} (h : properS t l = true) : properS (wideT t s) l = true := by
 obtain ⟨hv, hn, hl⟩ := properS_spec.1 h
 refine properS_spec.2 ⟨?_, hn, ?_⟩
 ·rw [validT, Bool.and_eq_true, Bool.and_eq_true, Bool.and_eq_true] at hv ⊢
  refine ⟨⟨⟨hv.1.1.1, hv.1.1.2⟩, by simpa [wideT] using hv.1.2⟩, ?_⟩
  rw [List.all_eq_true] at *
  intro x hx
  obtain ⟨y, hy, rfl⟩ := List.mem_map.1 hx
  have := okLk_spec.1 (hv.2 y hy)
  exact okLk_spec.2 ⟨this.1, this.2.1, this.2.2.1, this.2.2.2.1, this.2.2.2.2.1, ⟨h0, h1⟩, this.2.2.2.2.2.2⟩
 ·simpa [wideT] using hl
theorem wide_fit {t : Top} {s : Int} {a b : List Tn} (ha : ∀ x ∈ a, 0 ≤ x.rate) (hb : ∀ x ∈ b, 0 ≤ x.rate) (hs : changedS a b = [] ∧ sumR a ≤ s ∨ sumR a + sumR b ≤ s) (m : Nat) (mi : Int) : (stepsT (wideT t s) a b).Fit m mi := by
 intro e he
 have hc := lt_nodup (changed_inc a b)
 have hC : (stepsT (wideT t s) a b).C e = s := by
  show (lkAt (wideT t s) e).cap = s
  have hw : e < 2 * (t.links.map (wideK s)).length := he
  rw [List.length_map] at hw
  have hx : t.links[e / 2]? = some (t.links[e / 2]) := List.getElem?_eq_getElem (by omega)
  rw [lkAt, show ((e : Int) / 2).toNat = e / 2 by omega]
  show (((t.links.map (wideK s))[e / 2]?).getD default).cap = s
  rw [List.getElem?_map, hx]; rfl
 rw [hC]
 show stayS a b e + sumN _ (changedS a b).length ≤ s
 have h1 : sumN ((stepsT (wideT t s) a b).tm m mi e) (changedS a b).length ≤ sumN (fun i => rateS a ((changedS a b).getD i 0) e + rateS b ((changedS a b).getD i 0) e) (changedS a b).length := sumN_le _ fun i _ => by
  have p1 := rate_pos ha ((changedS a b).getD i 0) e
  have p2 := rate_pos hb ((changedS a b).getD i 0) e
  show (if (i : Int) = mi then max (rateS a ((changedS a b).getD i 0) e) (rateS b ((changedS a b).getD i 0) e) else if m.testBit i = true then rateS b ((changedS a b).getD i 0) e else rateS a ((changedS a b).getD i 0) e) ≤ _
  split
  ·omega
  ·split <;> omega
 rw [sumN_add (fun i => rateS a ((changedS a b).getD i 0) e) fun i => rateS b ((changedS a b).getD i 0) e, sumN_list (fun id => rateS a id e), sumN_list (fun id => rateS b id e)] at h1
 have h2 := rates_le hc (e : Int) ha
 have h3 := rates_le hc (e : Int) hb
 have h4 := part_sum (ch := changedS a b) (e := (e : Int)) ha
 have h5 := part_le (ch := changedS a b) hb
 have h6 : stayS a b e = (a.map fun x => if x.id ∈ changedS a b then 0 else if (e : Int) ∈ x.arcs then x.rate else 0).sum := rfl
 rcases hs with ⟨hz, hs⟩ | hs
 ·rw [hz] at h1 h2 h3 h4 h5 h6
  have p2 : ∀ l : List Tn, (l.map fun x => if x.id ∈ ([] : List Int) then x.rate else 0).sum = 0 := by
   intro l
   induction l with
   | nil => rfl
   | cons x l ih => rw [List.map_cons, List.sum_cons, ih]; simp
  have p3 := p2 b
  rw [hz]
  omega
 ·omega
theorem changed_same (a : List Tn) : changedS a a = [] := by
 rw [changedS]
 split
 ·exact List.eq_nil_iff_forall_not_mem.2 fun x hx => by
   have h := (chS_mem.1 hx).2
   rw [eqS, decide_eq_true rfl] at h; cases h
 ·rfl
theorem wide_order {t : Top} {a b : List Tn} (ha : properS t a = true) (hb : properS t b = true) (hs : sumR a + sumR b ≤ 1048576) :
  orderRes (wideT t (sumR a + sumR b)) a b = (changedS a b, 0) ∧ orderRes (wideT t (sumR a + sumR b)) a a = ([], 0) := by
 have a1 : ∀ x ∈ a, 0 ≤ x.rate := fun x hx => by have := ((properS_spec.1 ha).2.2 x hx).2.2.1.1; omega
 have b1 : ∀ x ∈ b, 0 ≤ x.rate := fun x hx => by have := ((properS_spec.1 hb).2.2 x hx).2.2.1.1; omega
 have pa := sumR_pos a1
 have pb := sumR_pos b1
 have wa := wide_proper (s := sumR a + sumR b) (by omega) hs ha
 have wb := wide_proper (s := sumR a + sumR b) (by omega) hs hb
 refine ⟨order_all wa wb fun m mi => wide_fit a1 b1 (.inr (by omega)) m mi, ?_⟩
 have := order_all wa wa fun m mi => wide_fit a1 a1 (.inl ⟨changed_same a, by omega⟩) m mi
 rw [changed_same] at this
 exact this
end Go.Ab

/-
  Updates, part gf: the law of enough room, over the text.
-/
namespace Go.Ab
open Go.Proofs
theorem sum_take (l : List Tn) (k : Nat) (x : Tn) (h : l[k]? = some x) : sumR (l.take (k + 1)) = sumR (l.take k) + x.rate := by
 rw [take_succ_get h, sumR, List.map_append, List.sum_append]; simp [sumR]
theorem sum_bd {l : List Tn} (h : ∀ x ∈ l, 1 ≤ x.rate ∧ x.rate ≤ 1048576) : 0 ≤ sumR l ∧ sumR l ≤ 1048576 * (l.length : Int) := by
 induction l with
 | nil => simp [sumR]
 | cons x l ih =>
  have h1 := ih fun y hy => h y (by simp [hy])
  have h2 := h x (by simp)
  simp only [sumR, List.map_cons, List.sum_cons, List.length_cons] at h1 ⊢
  omega
def capR (s : Int) (l : List Lk) (k : Nat) : List (List D) := (l.take k).map (fun x => encLk (wideK s x)) ++ (l.drop k).map encLk
theorem capR_zero (s : Int) (l : List Lk) : capR s l 0 = l.map encLk := by simp [capR]
theorem capR_all (s : Int) (l : List Lk) : capR s l l.length = (l.map (wideK s)).map encLk := by simp [capR]
theorem capR_len {s : Int} {l : List Lk} {k : Nat} : (capR s l k).length = l.length := by
 simp only [capR, List.length_append, List.length_map, List.length_take, List.length_drop]; omega
theorem capR_at {s : Int} {l : List Lk} {k : Nat} {x : Lk} (h : l[k]? = some x) : (capR s l k)[k]? = some (encLk x) := by
 have hk := get_lt h
 rw [capR, List.getElem?_append_right (by simp; omega)]
 simp only [List.length_map, List.length_take]
 rw [show k - min k l.length = 0 by omega, List.getElem?_map, List.getElem?_drop, Nat.add_zero, h]; rfl
theorem capR_set {s : Int} {l : List Lk} {k : Nat} {x : Lk} (h : l[k]? = some x) : (capR s l k).set k (encLk (wideK s x)) = capR s l (k + 1) := by
 have hk := get_lt h
 have hd : l.drop k = x :: l.drop (k + 1) := by
  rw [List.drop_eq_getElem_cons hk]
  rw [List.getElem?_eq_getElem hk] at h
  rw [Option.some.inj h]
 rw [capR, List.set_append_right _ _ (by simp; omega), capR, take_succ_get h, hd]
 simp only [List.length_map, List.length_take, List.map_append, List.map_cons, List.map_nil, List.append_assoc]
 rw [show k - min k l.length = 0 by omega]
 rfl
theorem law48_room (P : Program) (hP : P = Try.prog) (t : Top) (a b : List Tn) (ra : idOk a) (rb : idOk b) : Ret P n_law48_UpdateRoom [topA t, plansA a b] (bA true) := by
 have h0 := awake48_ok P hP
 have h1 : Ret P n_law48_small [topA t, plansA a b, iA 8] (bA (smallS t a b 8)) := small48_ok P hP t a b 8
 have hpa := rproper48_ok P hP t a
 have hpb := rproper48_ok P hP t b
 by_cases hall : smallS t a b 8 = true ∧ properS t a = true ∧ properS t b = true
 rotate_left
 ·generalize smallS t a b 8 = F at *
  generalize properS t a = G at *
  generalize properS t b = H at *
  cases F <;> cases G <;> cases H <;> first | exact absurd ⟨rfl, rfl, rfl⟩ hall | skip
  all_goals
   refine ret_start (hP ▸ mixed) (hP ▸ fn_law48_UpdateRoom) (hP ▸ c_law48_UpdateRoom) (Nat.le_of_ble_eq_true rfl) fun Λ Λo K hK => ?_
   clear hP
   simp only [plansA, tnsA, tnsD, intsA, intsD] at *
   generalize a.map encTn = al at *
   generalize b.map encTn = bl at *
   obtain ⟨nodes, ov, links⟩ := t
   simp only [topA, boolsD, linksD] at *
   generalize hol : ov.map encB = ol at *
   generalize hll : links.map encLk = ll at *
   have hlo : Λ ol = ov.length := by rw [Λo, ← hol]; simp
   have hls : Λ ll = links.length := by rw [Λo, ← hll]; simp
   conv => cbv
   repeat' first | refine call_b h0 rfl rfl ?_ ?_ | refine call_b h1 rfl rfl ?_ ?_ | refine call_b hpa rfl rfl ?_ ?_ | refine call_b hpb rfl rfl ?_ ?_ | exact gu | exact trivial | refine And.intro ?_ ?_ | (intro hc; exact absurd hc (by decide)) | (intro hc; exfalso; omega) | (intro hc; (first | rw [wrap_small (by omega) (by omega)] at hc | rw [nI_eq] at hc | skip); try (conv => cbv))
   exact hK
 obtain ⟨hs, pa, pb⟩ := hall
 have hsp := small_spec hs
 have hll10 : t.links.length ≤ 10 := by
  simp only [smallS, Bool.and_eq_true, decide_eq_true_eq] at hs; exact hs.1
 rw [hs] at h1
 rw [pa] at hpa
 rw [pb] at hpb
 have h2 := prog_few hP hsp.1 (by decide)
 have h3 := prog_few hP hsp.2 (by decide)
 have h6 := rchanged_ok P hP a b
 have h8 := sameInts_ok P hP (changedS a b) (changedS a b)
 rw [decide_eq_true rfl] at h8
 have hor : sumR a + sumR b ≤ 1048576 → Ret P n_update_Order [topA (wideT t (sumR a + sumR b)), tnsA a, tnsA b] (.tup [intsA (changedS a b), iA 0]) ∧ Ret P n_update_Order [topA (wideT t (sumR a + sumR b)), tnsA a, tnsA a] (.tup [intsA [], iA 0]) := fun hle => by
  have h4 := pOrder_ok P hP (wideT t (sumR a + sumR b)) a b ra rb
  have h5 := pOrder_ok P hP (wideT t (sumR a + sumR b)) a a ra ra
  rw [(wide_order pa pb hle).1] at h4
  rw [(wide_order pa pb hle).2] at h5
  exact ⟨h4, h5⟩
 have ra1 : ∀ x ∈ a, 1 ≤ x.rate ∧ x.rate ≤ 1048576 := fun x hx => ((properS_spec.1 pa).2.2 x hx).2.2.1
 have rb1 : ∀ x ∈ b, 1 ≤ x.rate ∧ x.rate ≤ 1048576 := fun x hx => ((properS_spec.1 pb).2.2 x hx).2.2.1
 have la := (properS_spec.1 pa).2.1.2
 have lb := (properS_spec.1 pb).2.1.2
 have sa := fun k => sum_bd (l := a.take k) fun x hx => ra1 x (List.mem_of_mem_take hx)
 have sb := fun k => sum_bd (l := b.take k) fun x hx => rb1 x (List.mem_of_mem_take hx)
 have sa2 : ∀ k, 0 ≤ sumR (a.take k) ∧ sumR (a.take k) ≤ 1048576 * 12 := fun k => by
  have h := sa k
  rw [List.length_take] at h
  omega
 have sb2 : ∀ k, 0 ≤ sumR (b.take k) ∧ sumR (b.take k) ≤ 1048576 * 12 := fun k => by
  have h := sb k
  rw [List.length_take] at h
  omega
 refine ret_start (hP ▸ mixed) (hP ▸ fn_law48_UpdateRoom) (hP ▸ c_law48_UpdateRoom) (Nat.le_of_ble_eq_true rfl) fun Λ Λo K hK => ?_
 clear hP hs hsp pa pb sa sb
 simp only [plansA, tnsA, tnsD, intsA, intsD, wideT, List.map_nil] at *
 generalize alh : a.map encTn = al at *
 generalize blh : b.map encTn = bl at *
 have aln : Λ al = a.length := by rw [Λo, ← alh]; simp
 have bln : Λ bl = b.length := by rw [Λo, ← blh]; simp
 have hl0 : Λ ([] : List (List D)) = 0 := by rw [Λo]; rfl
 generalize (changedS a b).map encI = cl at *
 obtain ⟨nodes, ov, links⟩ := t
 simp only [topA, boolsD, linksD] at *
 generalize hol : ov.map encB = ol at *
 generalize hll : links.map encLk = ll at *
 have hlo : Λ ol = ov.length := by rw [Λo, ← hol]; simp
 have hls : Λ ll = links.length := by rw [Λo, ← hll]; simp
 have lll : ll.length = links.length := by rw [← hll]; simp
 obtain ⟨e1, he1⟩ : ∃ e1, e1 = [] ++ ll := ⟨_, rfl⟩
 obtain ⟨n1, hn1⟩ : ∃ n1, n1 = 0 + ll.length := ⟨_, rfl⟩
 conv => cbv
 repeat' first | refine call_b h0 rfl rfl ?_ ?_ | refine call_b h1 rfl rfl ?_ ?_ | refine call_b hpa rfl rfl ?_ ?_ | refine call_b hpb rfl rfl ?_ ?_ | (intro (m : Nat) (r : Bool) (y : List (List D)) hm hr hy; refine (fun (hz : n1 = m) (hz2 : e1 = y) => ?_) (by first | omega | (simp only [List.length_cons, List.length_nil] at hm; omega)) (by first | (rw [hy, List.drop_zero, List.take_of_length_le (by omega)]; exact he1) | (rw [hy]; exact he1)); subst hz; subst hz2; (conv => cbv)) | exact gu | exact trivial | refine And.intro ?_ ?_ | (intro hc; exact absurd hc (by decide)) | (intro hc; exfalso; omega) | (intro hc; (first | rw [wrap_small (by omega) (by omega)] at hc | rw [nI_eq] at hc | skip); try (conv => cbv))
 clear h0 h1 hpa hpb
 refine loop_up a.length (fun s : Int × Int => [(2, .c (.ptr 0 0 0 0)), (3, .c (.ptr 1 0 0 0)), (5, .c (.ptr 2 0 0 0)), (6, iA s.1), (7, iA s.2)])
  (fun _ => [.bx [.d (iD nodes), .d (.list false 1 ol), .d (.list false 7 ll)], .bx [.d (.list false 3 al), .d (.list false 3 bl)], .bx [.d (iD nodes), .d (.list false 1 ol), .arr 3 1 0 n1], .da r 1 7 e1])
  (fun k s => s.2 = k ∧ k ≤ a.length ∧ s.1 = sumR (a.take k)) (0, 0) (Wk.ca) ⟨rfl, by omega, rfl⟩ (fun k s h => h.2.1) ?_
 rintro k ⟨sm, i⟩ Q' ⟨hi, hk, hsm⟩ norm ex rt
 simp only at hi hsm
 by_cases hlt : k < a.length
 ·obtain ⟨x, hx⟩ : ∃ x, a[k]? = some x := ⟨_, List.getElem?_eq_getElem hlt⟩
  have hxa := elt_at alh hi hx
  have hst := sum_take a k x hx
  have s1 := sa2 k
  have s2 := sa2 (k + 1)
  rw [hst] at s2
  clear hor
  obtain ⟨xi, xc, xr⟩ := x
  simp only at hst s2
  simp only [encTn, intsD] at hxa
  generalize xc.map encI = xl at *
  conv => cbv
  repeat' first | (refine ex _ _ _ ?_; (conv => cbv)) | (refine rt _ _ ?_; (conv => cbv)) | (intro e he; cases Option.some.inj (he.symm.trans hxa); (conv => cbv)) | exact gu | exact trivial | refine And.intro ?_ ?_ | (intro hc; exact absurd hc (by decide)) | (intro hc; exfalso; omega) | (intro hc; (first | rw [wrap_small (by omega) (by omega)] at hc | rw [nI_eq] at hc | skip); try (conv => cbv))
  rename_i s3 hs3 i2
  refine norm _ _ (s3, i2) ?_ (Wk.ca)
  exact ⟨by simp only; omega, by omega, by simp only; omega⟩
 obtain rfl : k = a.length := by omega
 rw [List.take_length] at hsm
 have hsa := sa2 a.length
 rw [List.take_length] at hsa
 clear norm
 conv => cbv
 repeat' first | (refine ex _ _ _ ?_; (conv => cbv)) | (refine rt _ _ ?_; (conv => cbv)) | exact gu | exact trivial | refine And.intro ?_ ?_ | (intro hc; exact absurd hc (by decide)) | (intro hc; exfalso; omega) | (intro hc; (first | rw [wrap_small (by omega) (by omega)] at hc | rw [nI_eq] at hc | skip); try (conv => cbv))
 refine loop_up b.length (fun s : Int × Int => [(2, .c (.ptr 0 0 0 0)), (3, .c (.ptr 1 0 0 0)), (5, .c (.ptr 2 0 0 0)), (6, iA s.1), (8, iA s.2)])
  (fun _ => [.bx [.d (iD nodes), .d (.list false 1 ol), .d (.list false 7 ll)], .bx [.d (.list false 3 al), .d (.list false 3 bl)], .bx [.d (iD nodes), .d (.list false 1 ol), .arr 3 1 0 n1], .da r 1 7 e1])
  (fun k s => s.2 = k ∧ k ≤ b.length ∧ s.1 = sm + sumR (b.take k)) (sm, 0) (Wk.ca) ⟨rfl, by omega, by simp [sumR]⟩ (fun k s h => h.2.1) ?_
 rintro k ⟨sn, j⟩ Q2 ⟨hj, hk2, hsn⟩ norm ex2 rt2
 simp only at hj hsn
 by_cases hlt : k < b.length
 ·obtain ⟨x, hx⟩ : ∃ x, b[k]? = some x := ⟨_, List.getElem?_eq_getElem hlt⟩
  have hxa := elt_at blh hj hx
  have hst := sum_take b k x hx
  have s1 := sb2 k
  have s2 := sb2 (k + 1)
  rw [hst] at s2
  clear hor
  obtain ⟨xi, xc, xr⟩ := x
  simp only at hst s2
  simp only [encTn, intsD] at hxa
  generalize xc.map encI = xl at *
  conv => cbv
  repeat' first | (refine ex2 _ _ _ ?_; (conv => cbv)) | (refine rt2 _ _ ?_; (conv => cbv)) | (intro e he; cases Option.some.inj (he.symm.trans hxa); (conv => cbv)) | exact gu | exact trivial | refine And.intro ?_ ?_ | (intro hc; exact absurd hc (by decide)) | (intro hc; exfalso; omega) | (intro hc; (first | rw [wrap_small (by omega) (by omega)] at hc | rw [nI_eq] at hc | skip); try (conv => cbv))
  rename_i s3 hs3 i2
  refine norm _ _ (s3, i2) ?_ (Wk.ca)
  exact ⟨by simp only; omega, by omega, by simp only; omega⟩
 obtain rfl : k = b.length := by omega
 rw [List.take_length] at hsn
 clear norm
 rw [hsm] at hsn
 rw [← hsn] at hor
 by_cases hbig : 1048576 < sn
 ·clear hor
  conv => cbv
  repeat' first | (refine ex2 _ _ _ ?_; (conv => cbv)) | (refine rt2 _ _ ?_; (conv => cbv)) | exact gu | exact trivial | refine And.intro ?_ ?_ | (intro hc; exact absurd hc (by decide)) | (intro hc; exfalso; omega) | (intro hc; (first | rw [wrap_small (by omega) (by omega)] at hc | rw [nI_eq] at hc | skip); try (conv => cbv))
  exact hK
 obtain ⟨ho1, ho2⟩ := hor (by omega)
 clear hor
 obtain ⟨cR, hcR⟩ : ∃ cR, cR = capR sn links := ⟨_, rfl⟩
 have c0 : cR 0 = ll := by rw [hcR, capR_zero, hll]
 have c1 : cR links.length = (links.map (wideK sn)).map encLk := by rw [hcR, capR_all]
 have c2 : ∀ k, (cR k).length = links.length := fun k => by rw [hcR]; exact capR_len
 have c3 : ∀ k x, links[k]? = some x → (cR k)[k]? = some (encLk x) := fun k x h => by rw [hcR]; exact capR_at h
 have c4 : ∀ k x, links[k]? = some x → (cR k).set k (encLk (wideK sn x)) = cR (k + 1) := fun k x h => by rw [hcR]; exact capR_set h
 rw [← c1] at ho1 ho2
 clear hcR c1
 conv => cbv
 repeat' first | (refine ex2 _ _ _ ?_; (conv => cbv)) | (refine rt2 _ _ ?_; (conv => cbv)) | exact gu | exact trivial | refine And.intro ?_ ?_ | (intro hc; exact absurd hc (by decide)) | (intro hc; exfalso; omega) | (intro hc; (first | rw [wrap_small (by omega) (by omega)] at hc | rw [nI_eq] at hc | skip); try (conv => cbv))
 clear ex2 rt2
 refine loop_up links.length (fun s : Int × List (List D) => [(2, .c (.ptr 0 0 0 0)), (3, .c (.ptr 1 0 0 0)), (5, .c (.ptr 2 0 0 0)), (6, iA sn), (9, iA s.1)])
  (fun s => [.bx [.d (iD nodes), .d (.list false 1 ol), .d (.list false 7 ll)], .bx [.d (.list false 3 al), .d (.list false 3 bl)], .bx [.d (iD nodes), .d (.list false 1 ol), .arr 3 1 0 n1], .da r 1 7 s.2])
  (fun k s => s.1 = k ∧ k ≤ links.length ∧ s.2 = cR k) (0, e1) (Wk.ca) ⟨rfl, by omega, by rw [c0, he1]; rfl⟩ (fun k s h => h.2.1) ?_
 rintro k ⟨q, es⟩ Q3 ⟨hq, hk3, hes⟩ norm ex3 rt3
 simp only at hq hes
 have esl : es.length = links.length := by rw [hes]; exact c2 k
 by_cases hlt : k < links.length
 ·obtain ⟨x, hx⟩ : ∃ x, links[k]? = some x := ⟨_, List.getElem?_eq_getElem hlt⟩
  have d3 := c3 k x hx
  have d4 := c4 k x hx
  obtain ⟨kk, hkk⟩ : ∃ kk, kk = k := ⟨_, rfl⟩
  rw [← hes, ← hkk] at d3 d4
  obtain ⟨xa, xb, xc, xd, xe, xf, xg⟩ := x
  simp only [encLk, wideK] at d3 d4
  clear c3 c4 ho1 ho2
  obtain ⟨es2, hes2⟩ : ∃ es2, es2 = es.set kk [iD xa, iD xb, iD xc, iD xd, iD sn, iD xf, iD xg] := ⟨_, rfl⟩
  conv => cbv
  repeat' first | (refine ex3 _ _ _ ?_; (conv => cbv)) | (refine rt3 _ _ ?_; (conv => cbv)) | (intro (k : Nat) hk; refine (fun (hz : kk = k) => ?_) ?_; rotate_left; omega; subst hz; (conv => cbv)) | (intro (e : List D) he; cases Option.some.inj (he.symm.trans d3); (conv => cbv)) | (intro (x : List (List D)) (hx : x = es.set kk [iD xa, iD xb, iD xc, iD xd, iD sn, iD xf, iD xg]); refine (fun (hz : es2 = x) => ?_) (hes2.trans hx.symm); subst hz; (conv => cbv)) | exact gu | exact trivial | refine And.intro ?_ ?_ | (intro hc; exact absurd hc (by decide)) | (intro hc; exfalso; omega) | (intro hc; (first | rw [wrap_small (by omega) (by omega)] at hc | rw [nI_eq] at hc | skip); try (conv => cbv))
  rename_i q2
  refine norm _ _ (q2, es2) ?_ (Wk.ca)
  exact ⟨by simp only; omega, by omega, by simp only; rw [hes2, d4, hkk]⟩
 ·obtain rfl : k = links.length := by omega
  rw [← hes] at ho1 ho2
  have hnl : n1 = es.length := by omega
  clear norm
  conv => cbv
  repeat' first | (refine ex3 _ _ _ ?_; (conv => cbv)) | (refine rt3 _ _ ?_; (conv => cbv)) | (refine call_r h2 rfl rfl ?_; conv => cbv) | (refine call_r h3 rfl rfl ?_; conv => cbv) | (refine call_z 3 (1) 7 n1 rfl hnl (by simp [okL, okA, okCs, okC, bq_lit]) (by first | (simp [okH, okB, okCs, okC]; done) | simp [okH, okB, okCs, okC, bq_lit]) ?_; simp only [zL, zA, zCs, zC, zH, zB, bq_self, bq_old]; conv => cbv) | (refine call_r ho1 rfl rfl ?_; conv => cbv) | (refine call_r ho2 rfl rfl ?_; conv => cbv) | (refine call_r h6 rfl rfl ?_; conv => cbv) | refine call_b h8 rfl rfl ?_ ?_ | exact gu | exact trivial | refine And.intro ?_ ?_ | (intro hc; exact absurd hc (by decide)) | (intro hc; exfalso; omega) | (intro hc; (first | rw [wrap_small (by omega) (by omega)] at hc | rw [nI_eq] at hc | skip); try (conv => cbv))
  all_goals exact hK
end Go.Ab

