/-
  Shortest paths, part c: the document's search.
-/
import Derived.Test.YtlmddegckmbgkaaMb
namespace Go.Ab
open Go.Proofs

noncomputable def searchS (t : Top) (down : List Bool) (n : Int) (fr : Bool) : List Int × Int :=
  if fitsB t down = true then (if 0 ≤ n ∧ n < t.nodes then (distS t down n fr, 0) else ([], 2)) else ([], 1)

theorem mid_start {t : Top} {down : List Bool} {n : Int} {fr : Bool} (h0 : 0 ≤ n) (h1 : n < t.nodes) : Mid t down n fr ((List.replicate t.nodes.toNat (-1)).set n.toNat 0) := by
  have hl : n < (List.replicate t.nodes.toNat (-1 : Int)).length := by simp; omega
  have hg : ∀ j, 0 ≤ j → j < t.nodes → gt ((List.replicate t.nodes.toNat (-1)).set n.toNat 0) j = if j = n then 0 else -1 := by
    intro j j0 j1
    rw [gt_set h0 hl j0]
    split
    · rfl
    · simp only [gt, List.getD_eq_getElem?_getD, List.getElem?_replicate]
      split <;> rfl
  refine ⟨by simp; omega, by rw [hg n h0 h1, if_pos rfl], fun i i0 i1 => ?_, fun i i0 i1 => ?_, fun x x0 x1 hx hd => ?_⟩
  · rw [hg i i0 i1]; split <;> omega
  · rw [hg i i0 i1]; split <;> omega
  · rw [hg x x0 x1, if_neg hx] at hd; omega

theorem fill_set {k m : Nat} : (List.replicate k (-1 : Int) ++ List.replicate (m + 1) 0).set k (-1) = List.replicate (k + 1) (-1) ++ List.replicate m 0 := by
  rw [List.set_append_right _ _ (by simp)]
  rw [List.length_replicate, Nat.sub_self, List.replicate_succ (n := m), List.set_cons_zero, List.replicate_succ' (n := k), List.append_assoc]
  rfl

theorem enc_set {D : List Int} {es : List (List Ab.D)} {p : Nat} {e : List Ab.D} {v : Int} (hes : D.map encI = es) (he : es[p]? = some e) : es.set p (List.take 0 e ++ ([Ab.D.int .i64 v] ++ List.drop (0 + [Ab.D.int .i64 v].length) e)) = (D.set p v).map encI := by
  subst hes
  obtain ⟨x, hx, rfl⟩ := map_get he
  rw [List.map_set]; rfl

theorem enc_get {D : List Int} {es : List (List Ab.D)} {p : Nat} {i : Int} {e : List Ab.D} (hes : D.map encI = es) (he : es[p]? = some e) (hp : p = i.toNat) : e = [iD (gt D i)] := by
  subst hes hp
  obtain ⟨x, hx, rfl⟩ := map_get he
  simp [gt, List.getD_eq_getElem?_getD, hx, encI]

theorem gt_of {D : List Int} {p : Nat} {i x : Int} (hx : D[p]? = some x) (hp : p = 0 + i.toNat) : gt D i = x := by
  subst hp
  rw [Nat.zero_add] at hx
  simp [gt, List.getD_eq_getElem?_getD, hx]

abbrev srH (nodes : Int) (ol ll : List (List D)) (es : List Int) : Hp := [.bx [.d (iD nodes), .d (.list false 1 ol), .d (.list false 7 ll)], .da true 0 1 (es.map encI)]
abbrev srL (dl : List (List D)) (n : Int) (fr : Bool) (m : Nat) : Lv := [(1, .c (.d (.list false 1 dl))), (2, iA n), (3, bA fr), (4, .c (.ptr 0 0 0 0)), (10, .c (.arr 1 0 0 m))]

set_option maxHeartbeats 4000000 in
theorem search_ok (P : Program) (hP : P = Try.prog) (t : Top) (down : List Bool) (n : Int) (fr : Bool) : Ret P n_ref11_search [topA t, boolsA down, iA n, bA fr] (.tup [intsA (searchS t down n fr).1, iA (searchS t down n fr).2]) := by
  have hfits := fits_ok P hP t down
  have htail := fun a => tail_ok P hP t a
  have hhead := fun a => head_ok P hP t a
  have hup := fun a => up_ok P hP down a
  have htr := fun y => transit_ok P hP t y n
  have hcost := fun a => cost_ok P hP t a
  refine ret_start (hP ▸ mixed) (hP ▸ fn_ref11_search) (hP ▸ c_ref11_search) (Nat.le_of_ble_eq_true rfl) fun Λ Λo K hK => ?_
  clear hP
  have k1 : fitsB t down = false → K (.tup [intsA [], iA 1]) := by
    intro h; rw [searchS, if_neg (by rw [h]; decide)] at hK; exact hK
  have k2 : fitsB t down = true → ¬ (0 ≤ n ∧ n < t.nodes) → K (.tup [intsA [], iA 2]) := by
    intro h h'; rw [searchS, if_pos h, if_neg h'] at hK; exact hK
  have k3 : fitsB t down = true → (0 ≤ n ∧ n < t.nodes) → K (.tup [intsA (distS t down n fr), iA 0]) := by
    intro h h'; rw [searchS, if_pos h, if_pos h'] at hK; exact hK
  clear hK
  have hfb : fitsB t down = true → validT t = true ∧ (down.length = 0 ∨ down.length = 2 * t.links.length) := by
    intro h; simpa [fitsB] using h
  have hk4 : validT t = true → ∀ D, IsDist t down n fr D → distS t down n fr = D := fun hv D hD => distS_eq hv hD
  have hst := fun (h0 : 0 ≤ n) (h1 : n < t.nodes) => mid_start (t := t) (down := down) (n := n) (fr := fr) h0 h1
  have hxy := fun (hv : validT t = true) (a : Int) (h0 : 0 ≤ a) (h1 : a < 2 * t.links.length) => xy_facts hv fr h0 h1
  have hlen := fun (D : List Int) (h : Mid t down n fr D) => h.len
  have hmd := fun (D : List Int) (h : Mid t down n fr D) => h.dist
  have hms := fun (hv : validT t = true) (D : List Int) (h : Mid t down n fr D) (a : Int) => h.step hv (a := a)
  have hml := fun (hv : validT t = true) (D : List Int) (h : Mid t down n fr D) (i : Int) => h.le hv (i := i)
  have hcs := fun (hv : validT t = true) (a : Int) (h0 : 0 ≤ a) (h1 : a < 2 * t.links.length) => (arc_facts hv h0 h1).2.2.2
  have hn64 := fun (hv : validT t = true) => (validT_spec.1 hv).1
  have hl256 := fun (hv : validT t = true) => (validT_spec.1 hv).2.2.1
  have hxe : ∀ a, xOf t fr a = if fr then headT t a else tailT t a := fun _ => rfl
  have hye : ∀ a, yOf t fr a = if fr then tailT t a else headT t a := fun _ => rfl
  have hoa : ∀ a, okArc t down n fr a = (upB down a && transitB t (yOf t fr a) n) := fun _ => rfl
  have hfx : ∀ D a, fixAt t down n fr D a ↔ (okArc t down n fr a = true → 0 ≤ gt D (yOf t fr a) → 0 ≤ gt D (xOf t fr a) ∧ gt D (xOf t fr a) ≤ gt D (yOf t fr a) + costT t a) := fun _ _ => Iff.rfl
  generalize fitsB t down = fb at *
  generalize validT t = v at *
  generalize distS t down n fr = ds at *
  generalize tailT t = tt at *
  generalize headT t = ht at *
  generalize costT t = ct at *
  generalize transitB t = tb at *
  generalize upB down = ub at *
  generalize xOf t fr = xo at *
  generalize yOf t fr = yo at *
  generalize okArc t down n fr = oa at *
  generalize fixAt t down n fr = fx at *
  generalize Mid t down n fr = md at *
  generalize IsDist t down n fr = isd at *
  simp only [boolsA, boolsD] at *
  generalize hdl : down.map encB = dl at *
  have hdn : Λ dl = down.length := by rw [Λo, ← hdl]; simp
  obtain ⟨nodes, ov, links⟩ := t
  simp only [topA, boolsD, linksD] at *
  generalize hol : ov.map encB = ol at *
  generalize hll : links.map encLk = ll at *
  have hlo : Λ ol = ov.length := by rw [Λo, ← hol]; simp
  have hls : Λ ll = links.length := by rw [Λo, ← hll]; simp
  simp only [intsA, intsD, List.map_nil] at k1 k2 k3
  cases fb
  · conv => cbv
    repeat' first | refine call_b hfits rfl rfl ?_ ?_ | (intro hc; cases hc; done) | (intro (_ : Unit); first | omega | rfl | exact ⟨rfl, by omega⟩ | (simp only [nI_eq]; omega) | ((repeat' first | rfl | omega | refine And.intro ?_ ?_ | (simp only [nI_eq]; omega) | exact Nat.le_of_ble_eq_true rfl); done)) | exact trivial | refine And.intro ?_ ?_ | (intro hc; exact absurd hc (by decide)) | (intro hc; exfalso; omega) | (intro hc; (first | rw [wrap_small (by omega) (by omega)] at hc | rw [nI_eq] at hc | skip); try (conv => cbv))
    exact k1 rfl
  obtain ⟨hv, hdo⟩ := hfb rfl
  subst hv
  simp only [forall_const] at *
  conv => cbv
  repeat' first | refine call_b hfits rfl rfl ?_ ?_ | (intro hc; cases hc; done) | (intro (_ : Unit); refine ⟨?_, ?_, ?_, ?_⟩; omega; omega; omega; omega) | (intro (_ : Unit); first | omega | rfl | exact ⟨rfl, by omega⟩ | (simp only [nI_eq]; omega) | ((repeat' first | rfl | omega | refine And.intro ?_ ?_ | (simp only [nI_eq]; omega) | exact Nat.le_of_ble_eq_true rfl); done)) | exact trivial | refine And.intro ?_ ?_ | (intro hc; exact absurd hc (by decide)) | (intro hc; exfalso; omega) | (intro hc; (first | rw [wrap_small (by omega) (by omega)] at hc | rw [nI_eq] at hc | skip); try (conv => cbv))
  · exact k2 (by omega)
  · exact k2 (by omega)
  rename_i m0 es0 hm0
  subst hc hm0
  refine loop_upx nodes.toNat (fun (s : Int × List Int) => (11, iA s.1) :: srL dl n fr nodes.toNat) (fun s => srH nodes ol ll s.2) (fun k s => s.1 = k ∧ k ≤ nodes.toNat ∧ s.2 = List.replicate k (-1) ++ List.replicate (nodes.toNat - k) 0) (0, List.replicate nodes.toNat 0)
    0 (fun (_ : Unit) => srL dl n fr nodes.toNat) (fun _ => srH nodes ol ll (List.replicate nodes.toNat (-1))) (fun _ => True) (by rw [srH, List.map_replicate]; exact Wk.cut ⟨_, rfl⟩ (Nat.zero_le _) rfl (by repeat' first | exact trivial | refine And.intro ?_ ?_ | rfl)) ⟨rfl, by omega, by simp⟩ (fun k s h => h.2.1) ?_ ?_
  · rintro k ⟨i, D⟩ Q' ⟨hi, hk, hD⟩ norm jn ex rt
    simp only at hi hD
    have hDl : D.length = nodes.toNat := by rw [hD]; simp; omega
    generalize hN : nodes.toNat = N at *
    simp only [srH, srL]
    generalize hes : D.map encI = es at *
    have hesl : es.length = N := by rw [← hes, List.length_map]; exact hDl
    conv => cbv
    repeat' first | (intro (_ : Unit); first | omega | rfl | exact ⟨rfl, by omega⟩ | (simp only [nI_eq]; omega) | ((repeat' first | rfl | omega | refine And.intro ?_ ?_ | (simp only [nI_eq]; omega) | exact Nat.le_of_ble_eq_true rfl); done)) | exact trivial | refine And.intro ?_ ?_ | (intro hc; exact absurd hc (by decide)) | (intro hc; exfalso; omega) | (intro hc; (first | rw [wrap_small (by omega) (by omega)] at hc | rw [nI_eq] at hc | skip); try (conv => cbv))
    · rename_i p hp e hpe es' he' i'
      have hee : e = [iD 0] := by
        rw [← hes, List.getElem?_map, hp, hD] at hpe
        simp only [Nat.zero_add, hi, Int.toNat_natCast] at hpe
        rw [List.getElem?_append_right (by simp), List.getElem?_replicate] at hpe
        simp only [List.length_replicate] at hpe
        split at hpe
        · cases hpe; rfl
        · cases hpe
      have e2 : es' = ((List.replicate (k + 1) (-1) ++ List.replicate (N - (k + 1)) 0).map encI) := by
        rw [he', hee, hp, ← hes, hD]
        simp only [Nat.zero_add, hi, Int.toNat_natCast]
        rw [show N - k = N - (k + 1) + 1 by omega, ← fill_set, List.map_set]
        rfl
      subst e2
      refine norm _ _ (_, _) ?_ (Wk.cut ⟨_, rfl⟩ (Nat.zero_le _) rfl (by repeat' first | exact trivial | refine And.intro ?_ ?_ | rfl))
      exact ⟨by simp only; omega, by omega, rfl⟩
    · have e2 : es = ((List.replicate N (-1)).map encI) := by
        rw [← hes, hD, show k = N by omega, Nat.sub_self]; simp
      subst e2
      refine jn _ _ () trivial (Wk.cut ⟨_, rfl⟩ (Nat.zero_le _) rfl (by repeat' first | exact trivial | refine And.intro ?_ ?_ | rfl))
  rintro _ -
  have hm0 := hst (by omega) (by omega)
  clear hst
  generalize hN : nodes.toNat = N at *
  generalize hD0 : List.replicate N (-1) = D0 at *
  have hD0l : D0.length = N := by rw [← hD0]; simp
  simp only [srH, srL]
  generalize hes : D0.map encI = es at *
  have hesl : es.length = N := by rw [← hes, List.length_map]; exact hD0l
  conv => cbv
  repeat' first | (intro (_ : Unit); first | omega | rfl | exact ⟨rfl, by omega⟩ | (simp only [nI_eq]; omega) | ((repeat' first | rfl | omega | refine And.intro ?_ ?_ | (simp only [nI_eq]; omega) | exact Nat.le_of_ble_eq_true rfl); done)) | exact trivial | refine And.intro ?_ ?_ | (intro hc; exact absurd hc (by decide)) | (intro hc; exfalso; omega) | (intro hc; (first | rw [wrap_small (by omega) (by omega)] at hc | rw [nI_eq] at hc | skip); try (conv => cbv))
  rename_i p hp e hpe es1
  have e1 : es1 = (D0.set n.toNat 0).map encI := by rw [hc, enc_set hes hpe, hp, Nat.zero_add]
  subst e1
  clear hc hpe hes hesl es
  generalize D0.set n.toNat 0 = D1 at *
  clear hD0 hD0l D0
  refine loop_up (msr D1 + 1) (fun (s : Bool × List Int) => (12, bA s.1) :: srL dl n fr N) (fun s => srH nodes ol ll s.2) (fun k s => md s.2 ∧ (s.1 = false → ∀ a : Int, 0 ≤ a → a < 2 * links.length → fx s.2 a) ∧ k + msr s.2 ≤ msr D1 + (if s.1 then 0 else 1)) (true, D1) (Wk.cut ⟨_, rfl⟩ (Nat.zero_le _) rfl (by repeat' first | exact trivial | refine And.intro ?_ ?_ | rfl)) ⟨hm0, by simp, by simp⟩ (fun k s h => by have := h.2.2; split at this <;> omega) ?_
  rintro k ⟨ch, D⟩ Q' ⟨hD, hfix, hkm⟩ normo exo rto
  simp only at hD hfix hkm
  simp only [srH, srL]
  cases ch with
  | false =>
    have hds := hk4 D (hmd D hD (hfix rfl))
    have hDl := hlen D hD
    rw [hds] at k3
    generalize hes : D.map encI = es at *
    have hesl : es.length = N := by rw [← hes, List.length_map]; omega
    conv => cbv
    repeat' first | (refine exo _ _ _ ?_; (conv => cbv)) | (refine rto _ _ ?_; (conv => cbv)) | (intro (_ : Unit); first | omega | rfl | exact ⟨rfl, by omega⟩ | (simp only [nI_eq]; omega) | ((repeat' first | rfl | omega | refine And.intro ?_ ?_ | (simp only [nI_eq]; omega) | exact Nat.le_of_ble_eq_true rfl); done)) | exact trivial | refine And.intro ?_ ?_ | (intro hc; exact absurd hc (by decide)) | (intro hc; exfalso; omega) | (intro hc; (first | rw [wrap_small (by omega) (by omega)] at hc | rw [nI_eq] at hc | skip); try (conv => cbv))
    rename_i ls
    have e : ls = es := by rw [hc, List.drop_zero, ← hesl, List.take_length]
    subst e
    exact k3 (by omega)
  | true =>
    generalize hes : D.map encI = es at *
    conv => cbv
    repeat' first | (intro (_ : Unit); first | omega | rfl | exact ⟨rfl, by omega⟩ | (simp only [nI_eq]; omega) | ((repeat' first | rfl | omega | refine And.intro ?_ ?_ | (simp only [nI_eq]; omega) | exact Nat.le_of_ble_eq_true rfl); done)) | exact trivial | refine And.intro ?_ ?_ | (intro hc; exact absurd hc (by decide)) | (intro hc; exfalso; omega) | (intro hc; (first | rw [wrap_small (by omega) (by omega)] at hc | rw [nI_eq] at hc | skip); try (conv => cbv))
    subst hes
    refine loop_up (2 * links.length) (fun (s : Int × Bool × List Int) => (13, iA s.1) :: (12, bA s.2.1) :: srL dl n fr N) (fun s => srH nodes ol ll s.2.2) (fun k s => s.1 = k ∧ k ≤ 2 * links.length ∧ md s.2.2 ∧ (s.2.1 = false → s.2.2 = D ∧ ∀ a : Int, 0 ≤ a → a < k → fx D a) ∧ (s.2.1 = true → msr s.2.2 < msr D)) (0, false, D) (Wk.cut ⟨_, rfl⟩ (Nat.zero_le _) rfl (by repeat' first | exact trivial | refine And.intro ?_ ?_ | rfl)) ⟨rfl, by omega, hD, fun _ => ⟨rfl, fun a h0 h1 => by omega⟩, by simp⟩ (fun k s h => h.2.1) ?_
    rintro k' ⟨a, ch, D'⟩ Q' ⟨ha, hk', hD', hf', ht'⟩ norm ex rt
    simp only at ha hD' hf' ht'
    simp only [srH, srL]
    have hDl := hlen D' hD'
    generalize hes : D'.map encI = es at *
    have hesl : es.length = N := by rw [← hes, List.length_map]; omega
    by_cases hlt : k' < 2 * links.length
    · obtain ⟨⟨x0, x1⟩, ⟨y0, y1⟩, hne⟩ := hxy a (by omega) (by omega)
      have hxle := hml D' hD' (xo a) x0 x1
      have hyle := hml D' hD' (yo a) y0 y1
      have hcl := hcs a (by omega) (by omega)
      have hxa := hxe a
      have hya := hye a
      have hra := hoa a
      have hrx := hfx D' a
      have hta := htail a
      have hha := hhead a
      have hua := hup a (by omega)
      have hya2 := htr (yo a)
      have hca := hcost a
      have hms' := hms D' hD' a (by omega) (by omega)
      have hcnt : ∀ D2 ch2, md D2 → (ch2 = false → ch = false ∧ D2 = D' ∧ fx D' a) → (ch2 = true → ch = true ∧ D2 = D' ∨ msr D2 < msr D') → ∀ L' h' a', a' = a + 1 → Wk 0 L' h' ((13, iA a') :: (12, bA ch2) :: srL dl n fr N) (srH nodes ol ll D2) → Q' .normal L' h' := by
        intro D2 ch2 q1 q2 q3 L' h' a' q4 q5
        refine norm L' h' (a', ch2, D2) ⟨by simp only; omega, by omega, q1, fun hc2 => ?_, fun hc2 => ?_⟩ q5
        · obtain ⟨e1, e2, e3⟩ := q2 hc2
          obtain ⟨e4, e5⟩ := hf' e1
          subst e2
          refine ⟨e4, fun b b0 b1 => ?_⟩
          rcases Int.lt_or_le b k' with h | h
          · exact e5 b b0 h
          · obtain rfl : b = a := by omega
            rw [← e4]; exact e3
        · have hmm : msr D' ≤ msr D := by
            cases ch
            · rw [(hf' rfl).1]; exact Nat.le_refl _
            · exact Nat.le_of_lt (ht' rfl)
          rcases q3 hc2 with ⟨e1, e2⟩ | e1
          · rw [e2]; exact ht' e1
          · simp only; omega
      clear norm hf' ht' hfx hoa hxe hye htail hhead hup htr hcost hms hml hcs normo exo rto hxy hmd hlen
      cases fr
      · simp only [Bool.false_eq_true, if_false] at hxa hya
        rw [← hxa] at hta
        rw [← hya] at hha
        generalize xo a = X at *
        generalize yo a = Y at *
        generalize ct a = C at *
        conv => cbv
        repeat' first | (refine ex _ _ _ ?_; (conv => cbv)) | (refine rt _ _ ?_; (conv => cbv)) | (intro e he; obtain ⟨x, hx, rfl⟩ := map_get' hes he; have hgY := gt_of (i := Y) hx; have hgX := gt_of (i := X) hx; (conv => cbv)) | (refine call_r hta rfl rfl ?_; conv => cbv) | (refine call_r hha rfl rfl ?_; conv => cbv) | refine call_b hua rfl rfl ?_ ?_ | refine call_b hya2 rfl rfl ?_ ?_ | (refine call_r hca rfl rfl ?_; conv => cbv) | (intro (_ : Unit); first | omega | rfl | exact ⟨rfl, by omega⟩ | (simp only [nI_eq]; omega) | ((repeat' first | rfl | omega | refine And.intro ?_ ?_ | (simp only [nI_eq]; omega) | exact Nat.le_of_ble_eq_true rfl); done)) | exact trivial | refine And.intro ?_ ?_ | (intro hc; exact absurd hc (by decide)) | (intro hc; exfalso; omega) | (intro hc; (first | rw [wrap_small (by omega) (by omega)] at hc | rw [nI_eq] at hc | skip); try (conv => cbv))
        all_goals clear hta hha hua hya2 hca
        all_goals first
          | (refine hcnt D' ch hD' (fun h => ⟨h, rfl, hrx.2 fun ho hy => ?_⟩) (fun h => .inl ⟨h, rfl⟩) _ _ _ hc (by subst hes; exact Wk.cut ⟨_, rfl⟩ (Nat.zero_le _) rfl (by repeat' first | exact trivial | refine And.intro ?_ ?_ | rfl))
             first
             | (exfalso; omega)
             | (exact ⟨by omega, by omega⟩)
             | (exfalso; rw [hra] at ho; simp_all; done))
          | (rename_i es' hes' _
             have hoa : oa a = true := by rw [hra, ‹ub a = true›, ‹tb Y n = true›]; rfl
             have hst := hms' hoa (by omega) (by omega)
             have e3 : es' = (D'.set X.toNat (gt D' Y + C)).map encI := by
               refine hes'.trans ((enc_set hes he).trans ?_)
               congr 1
               congr 1 <;> omega
             subst e3
             exact hcnt _ true hst.1 (by simp) (fun _ => .inr hst.2) _ _ _ hc (Wk.cut ⟨_, rfl⟩ (Nat.zero_le _) rfl (by repeat' first | exact trivial | refine And.intro ?_ ?_ | rfl)))
          | trace_state
      · simp only [if_true] at hxa hya
        rw [← hya] at hta
        rw [← hxa] at hha
        generalize xo a = X at *
        generalize yo a = Y at *
        generalize ct a = C at *
        conv => cbv
        repeat' first | (refine ex _ _ _ ?_; (conv => cbv)) | (refine rt _ _ ?_; (conv => cbv)) | (intro e he; obtain ⟨x, hx, rfl⟩ := map_get' hes he; have hgY := gt_of (i := Y) hx; have hgX := gt_of (i := X) hx; (conv => cbv)) | (refine call_r hta rfl rfl ?_; conv => cbv) | (refine call_r hha rfl rfl ?_; conv => cbv) | refine call_b hua rfl rfl ?_ ?_ | refine call_b hya2 rfl rfl ?_ ?_ | (refine call_r hca rfl rfl ?_; conv => cbv) | (intro (_ : Unit); first | omega | rfl | exact ⟨rfl, by omega⟩ | (simp only [nI_eq]; omega) | ((repeat' first | rfl | omega | refine And.intro ?_ ?_ | (simp only [nI_eq]; omega) | exact Nat.le_of_ble_eq_true rfl); done)) | exact trivial | refine And.intro ?_ ?_ | (intro hc; exact absurd hc (by decide)) | (intro hc; exfalso; omega) | (intro hc; (first | rw [wrap_small (by omega) (by omega)] at hc | rw [nI_eq] at hc | skip); try (conv => cbv))
        all_goals clear hta hha hua hya2 hca
        all_goals first
          | (refine hcnt D' ch hD' (fun h => ⟨h, rfl, hrx.2 fun ho hy => ?_⟩) (fun h => .inl ⟨h, rfl⟩) _ _ _ hc (by subst hes; exact Wk.cut ⟨_, rfl⟩ (Nat.zero_le _) rfl (by repeat' first | exact trivial | refine And.intro ?_ ?_ | rfl))
             first
             | (exfalso; omega)
             | (exact ⟨by omega, by omega⟩)
             | (exfalso; rw [hra] at ho; simp_all; done))
          | (rename_i es' hes' _
             have hoa : oa a = true := by rw [hra, ‹ub a = true›, ‹tb Y n = true›]; rfl
             have hst := hms' hoa (by omega) (by omega)
             have e3 : es' = (D'.set X.toNat (gt D' Y + C)).map encI := by
               refine hes'.trans ((enc_set hes he).trans ?_)
               congr 1
               congr 1 <;> omega
             subst e3
             exact hcnt _ true hst.1 (by simp) (fun _ => .inr hst.2) _ _ _ hc (Wk.cut ⟨_, rfl⟩ (Nat.zero_le _) rfl (by repeat' first | exact trivial | refine And.intro ?_ ?_ | rfl)))
          | trace_state
    · conv => cbv
      repeat' first | (refine ex _ _ _ ?_; (conv => cbv)) | (refine rt _ _ ?_; (conv => cbv)) | (intro (_ : Unit); first | omega | rfl | exact ⟨rfl, by omega⟩ | (simp only [nI_eq]; omega) | ((repeat' first | rfl | omega | refine And.intro ?_ ?_ | (simp only [nI_eq]; omega) | exact Nat.le_of_ble_eq_true rfl); done)) | exact trivial | refine And.intro ?_ ?_ | (intro hc; exact absurd hc (by decide)) | (intro hc; exfalso; omega) | (intro hc; (first | rw [wrap_small (by omega) (by omega)] at hc | rw [nI_eq] at hc | skip); try (conv => cbv))
      subst hes
      refine normo _ _ (_, _) ?_ (Wk.cut ⟨_, rfl⟩ (Nat.zero_le _) rfl (by repeat' first | exact trivial | refine And.intro ?_ ?_ | rfl))
      simp only
      simp only [if_true, Nat.add_zero] at hkm
      cases ch
      · obtain ⟨h1, h2⟩ := hf' rfl
        subst h1
        exact ⟨hD', fun _ b b0 b1 => h2 b b0 (by omega), by simp only [Bool.false_eq_true, if_false]; omega⟩
      · have := ht' rfl
        exact ⟨hD', by simp, by simp only [if_true]; omega⟩

end Go.Ab
