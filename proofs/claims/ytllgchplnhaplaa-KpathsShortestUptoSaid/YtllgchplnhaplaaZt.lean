/-
  Merged texts, part t.
-/
import Derived.Test.YtllgchplnhaplaaZs
/-
  The reference's shortest paths.
-/
namespace Go.Ab
open Go.Proofs
def quickB (t : Top) (most : Int) (p : List Int) : Bool := decide (most = 0 ∨ (p.map fun a => (lkAt t a).dl).sum ≤ most)
def quickS (t : Top) (down : List Bool) (s d most : Int) : List (List Int) := (allS t down s d).filter (quickB t most)
theorem GoodP_most {t : Top} {down : List Bool} {s d most : Int} (hm : 0 ≤ most) {p : List Int} : GoodP t down s d most p ↔ GoodP t down s d 0 p ∧ quickB t most p = true := by
 unfold quickB
 rw [decide_eq_true_eq]
 constructor
 ·intro h
  exact ⟨⟨h.st, h.en, h.nd, fun h => by omega⟩, by have := h.de; omega⟩
 ·rintro ⟨h, h2⟩
  exact ⟨h.st, h.en, h.nd, fun h3 => by omega⟩
theorem quickS_srt {t : Top} {down : List Bool} {s d most : Int} (hv : validT t = true) (hdn : down.length = 0 ∨ down.length = 2 * t.links.length) (hN8 : t.nodes ≤ 8) (hs : 0 ≤ s ∧ s < t.nodes) (hm : 0 ≤ most) : IsSrt t (GoodP t down s d most) (quickS t down s d most) := by
 have h := allS_srt (d := d) hv hdn hN8 hs
 refine ⟨h.srt.filter _, fun p => ?_⟩
 rw [quickS, List.mem_filter, h.mem, GoodP_most hm]
theorem allS_len {t : Top} {down : List Bool} {s d : Int} (hL : t.links.length ≤ 11) : (allS t down s d).length ≤ 78310985281 := by
 rw [allS, (sortP_perm t _).length_eq]
 exact extS_len t down d (outT_len hL) 8 [] s _
set_option maxRecDepth 20000 in
set_option maxHeartbeats 8000000 in
theorem rshort_raw (P : Program) (hP : P = Try.prog) (t : Top) (down : List Bool) (s0 d k most : Int) (hl11 : t.links.length ≤ 11) (hsm : validT t = true → t.nodes ≤ 8) :
    FnS P n_ref14_Shortest [topA t, boolsA down, iA s0, iA d, iA k, iA most] [] fun r h' => ∃ es x h1, ((es, x) = ((shortV t down s0 d k most (quickS t down s0 d most)).1.map encRow, iA (shortV t down s0 d k most (quickS t down s0 d most)).2) ∧ h1 = []) ∧
      ((∃ k ve rr t, r = .tup [.c (.arr k ve 0 es.length), x] ∧ h' = h1 ++ t ∧ h'[k]? = some (.da rr ve 1 es) ∧ 0 ≤ k) ∨ (es = [] ∧ r = .tup [.c (.d (.list true 1 [])), x] ∧ ∃ t, h' = h1 ++ t)) := by
  have hva := valid_ok P hP t
  have hma := mask_ok P hP t down
  have hsi := fun hv hN8 hs => simple_ok P hP t down s0 d hv hl11 hN8 hs
  have hso := fun hl hll => sorted_ok P hP t (simpS t down s0 d) hl hll
  have hde := fun p hp => rdelay_ok P hP t p hp
  refine heap_start (hP ▸ mixed) (hP ▸ fn_ref14_Shortest) (hP ▸ c_ref14_Shortest) (nle rfl) fun Λ Λo K hK => ?_
  clear hP
  have leafE : ∀ e b, shortV t down s0 d k most (quickS t down s0 d most) = ([], e) → K (.tup [.c (.d (.list true 1 [])), iA e]) b := fun e b h => hK _ _ ⟨[], iA e, [], ⟨by rw [h]; rfl, rfl⟩, .inr ⟨rfl, rfl, b, rfl⟩⟩
  have leafA : ∀ (F : List (List Int)) vf rf b0 bs, shortV t down s0 d k most (quickS t down s0 d most) = (F, 0) → K (.tup [.c (.arr 1 vf 0 F.length), iA 0]) ([b0, .da rf vf 1 (F.map encRow)] ++ bs) := fun F vf rf b0 bs h => hK _ _ ⟨F.map encRow, iA 0, [], ⟨by rw [h], rfl⟩, .inl ⟨1, vf, rf, _, by rw [List.length_map], rfl, rfl, Nat.zero_le _⟩⟩
  clear hK
  by_cases c1 : validT t = true ∧ (down.length = 0 ∨ down.length = 2 * t.links.length) ∧ 1 ≤ k ∧ k ≤ 16 ∧ 0 ≤ most
  rotate_left
  · have leaf1 : ∀ b, K (.tup [.c (.d (.list true 1 [])), iA 1]) b := fun b => leafE 1 b (by rw [shortV, if_pos c1])
    clear leafE leafA hsi hso hde hsm
    by_cases hb : validT t = true
    · rw [hb] at hva
      rw [arcsT, if_pos hb] at hma
      by_cases hf : down.length = 0 ∨ down.length = 2 * t.links.length
      · rw [decide_eq_true (by omega)] at hma
        have c2 : ¬ (1 ≤ k ∧ k ≤ 16 ∧ 0 ≤ most) := fun h => c1 ⟨hb, hf, h⟩
        simp only [topA, intsA, intsD, boolsA, boolsD, linksD] at *
        generalize t.ov.map encB = ovl at *
        generalize t.links.map encLk = lkl at *
        generalize down.map encB = dwl at *
        generalize t.nodes = nodes at *
        conv => cbv
        repeat' first | (refine call_r hva rfl rfl ?_; conv => cbv) | (refine call_r hma rfl rfl ?_; conv => cbv) | exact gu | exact trivial | refine And.intro ?_ ?_ | (intro hc; exact absurd hc (by decide)) | (intro hc; exfalso; omega) | (intro hc; (first | rw [wS (by omega) (by omega)] at hc | rw [nI_eq] at hc | skip); try (conv => cbv))
        all_goals first | exact leaf1 _ | (exfalso; omega)
      · rw [decide_eq_false (by omega)] at hma
        simp only [topA, intsA, intsD, boolsA, boolsD, linksD] at *
        generalize t.ov.map encB = ovl at *
        generalize t.links.map encLk = lkl at *
        generalize down.map encB = dwl at *
        generalize t.nodes = nodes at *
        conv => cbv
        repeat' first | (refine call_r hva rfl rfl ?_; conv => cbv) | (refine call_r hma rfl rfl ?_; conv => cbv) | exact gu | exact trivial | refine And.intro ?_ ?_ | (intro hc; exact absurd hc (by decide)) | (intro hc; exfalso; omega) | (intro hc; (first | rw [wS (by omega) (by omega)] at hc | rw [nI_eq] at hc | skip); try (conv => cbv))
        all_goals exact leaf1 _
    · rw [Bool.eq_false_iff.2 hb] at hva
      simp only [topA, intsA, intsD, boolsA, boolsD, linksD] at *
      generalize t.ov.map encB = ovl at *
      generalize t.links.map encLk = lkl at *
      generalize down.map encB = dwl at *
      generalize t.nodes = nodes at *
      conv => cbv
      repeat' first | (refine call_r hva rfl rfl ?_; conv => cbv) | exact gu | exact trivial | refine And.intro ?_ ?_ | (intro hc; exact absurd hc (by decide)) | (intro hc; exfalso; omega) | (intro hc; (first | rw [wS (by omega) (by omega)] at hc | rw [nI_eq] at hc | skip); try (conv => cbv))
      all_goals exact leaf1 _
  obtain ⟨hv, hdn, hk1, hk16, hm0⟩ := c1
  have hN8 := hsm hv
  rw [hv] at hva
  rw [arcsT, if_pos hv, decide_eq_true (by omega)] at hma
  by_cases c2 : (0 ≤ s0 ∧ s0 < t.nodes) ∧ 0 ≤ d ∧ d < t.nodes
  rotate_left
  · have leaf1 : ∀ b, K (.tup [.c (.d (.list true 1 [])), iA 2]) b := fun b => leafE 2 b (by rw [shortV, if_neg (not_not_intro ⟨hv, hdn, hk1, hk16, hm0⟩), if_pos c2])
    clear leafE leafA hsi hso hde hsm
    simp only [topA, intsA, intsD, boolsA, boolsD, linksD] at *
    generalize t.ov.map encB = ovl at *
    generalize t.links.map encLk = lkl at *
    generalize down.map encB = dwl at *
    generalize t.nodes = nodes at *
    conv => cbv
    repeat' first | (refine call_r hva rfl rfl ?_; conv => cbv) | (refine call_r hma rfl rfl ?_; conv => cbv) | exact gu | exact trivial | refine And.intro ?_ ?_ | (intro hc; exact absurd hc (by decide)) | (intro hc; exfalso; omega) | (intro hc; (first | rw [wS (by omega) (by omega)] at hc | rw [nI_eq] at hc | skip); try (conv => cbv))
    all_goals first | exact leaf1 _ | (exfalso; omega)
  have hQ : shortV t down s0 d k most (quickS t down s0 d most) = if quickS t down s0 d most = [] then ([], 11) else ((quickS t down s0 d most).take k.toNat, 0) := by rw [shortV, if_neg (not_not_intro ⟨hv, hdn, hk1, hk16, hm0⟩), if_neg (not_not_intro c2)]
  rw [hQ] at leafE leafA
  clear hQ
  have hsi := hsi hv hN8 c2.1
  have hsrt := allS_srt (d := d) hv hdn hN8 c2.1
  have hgl : ∀ p ∈ allS t down s0 d, p.length ≤ 7 := fun p hp => by
    have := good_len ((hsrt.mem p).1 hp) hv c2.1
    omega
  have hgd : ∀ p ∈ allS t down s0 d, delS t p = ((p.map fun a => (lkAt t a).dl).sum, 0) := fun p hp => by
    rw [delS, if_pos hv, if_pos fun a ha => ?_]
    obtain ⟨p1, p2, e⟩ := List.append_of_mem ha
    exact (((hsrt.mem p).1 hp).st p1 a p2 e).1
  have hso := hso (fun x hx => by have := hgl x ((sortP_perm t _).mem_iff.2 hx); omega) (by have := allS_len (down := down) (s := s0) (d := d) hl11; rw [allS, (sortP_perm t _).length_eq] at this; omega)
  rw [show sortP t (simpS t down s0 d) = allS t down s0 d from rfl] at hso
  have hal := allS_len (down := down) (s := s0) (d := d) hl11
  obtain ⟨f, hf⟩ : ∃ f, f = quickB t most := ⟨_, rfl⟩
  have hq : quickS t down s0 d most = (allS t down s0 d).filter f := by rw [hf]; rfl
  have hfq : ∀ p, f p = decide (most = 0 ∨ (p.map fun a => (lkAt t a).dl).sum ≤ most) := fun p => by rw [hf]; rfl
  rw [hq] at leafE leafA
  clear hf hq hsrt hsm
  generalize hA : allS t down s0 d = A at *
  clear hA
  generalize (simpS t down s0 d).map encRow = sl at *
  have hAx : ∀ (k : Nat) (x : List Int), A[k]? = some x → (A.map encRow)[k]? = some [.list false 1 (x.map encI)] := fun k x hx => by rw [List.getElem?_map, hx]; rfl
  simp only [topA, intsA, intsD, boolsA, boolsD, linksD] at *
  generalize hAe : A.map encRow = Ae at *
  have Aln : Λ Ae = A.length := by rw [Λo, ← hAe]; simp
  generalize t.ov.map encB = ovl at *
  generalize t.links.map encLk = lkl at *
  generalize down.map encB = dwl at *
  generalize t.nodes = nodes at *
  conv => cbv
  repeat' first | (refine call_r hva rfl rfl ?_; conv => cbv) | (refine call_r hma rfl rfl ?_; conv => cbv) | (refine call_r hsi rfl rfl ?_; conv => cbv) | (refine call_r hso rfl rfl ?_; conv => cbv) | exact gu | exact trivial | refine And.intro ?_ ?_ | (intro hc; exact absurd hc (by decide)) | (intro hc; exfalso; omega) | (intro hc; (first | rw [wS (by omega) (by omega)] at hc | rw [nI_eq] at hc | skip); try (conv => cbv))
  refine loop_upx A.length (fun (s : List (List Int) × Nat × Bool × Int) => [(4, iA k), (5, iA most), (6, .c (.ptr 0 0 0 0)), (12, .c (.d (.list true 1 []))), (13, iA 0), (14, .c (.d (.list false 1 Ae))), (15, .c (.arr 1 s.2.1 0 s.1.length)), (16, iA s.2.2.2)])
    (fun s => [.bx [.d (iD nodes), .d (.list false 1 ovl), .d (.list false 7 lkl)], .da s.2.2.1 s.2.1 1 (s.1.map encRow)])
    (fun j s => s.2.2.2 = j ∧ j ≤ A.length ∧ s.1 = (A.take j).filter f ∧ s.1.length ≤ k) ([], 0, false, 0) 1
    (fun (s : List (List Int) × Nat × Bool) => [(12, .c (.d (.list true 1 []))), (13, iA 0), (15, .c (.arr 1 s.2.1 0 s.1.length))]) (fun s => [.bx [.d (iD nodes), .d (.list false 1 ovl), .d (.list false 7 lkl)], .da s.2.2 s.2.1 1 (s.1.map encRow)])
    (fun s => s.1 = (A.filter f).take k.toNat) (.trans (.nilS 15 1 rfl) (Wk.ca)) ⟨rfl, by omega, by simp, by simp only [List.length_nil]; omega⟩ (fun k s h => h.2.1) ?_ ?_
  · rintro j ⟨O, ve, rr, i⟩ Q' ⟨hi, hj, hO, hOk⟩ norm ex rt
    simp only at hi hO hOk
    have hApre : A.filter f = O ++ (A.drop j).filter f := by rw [hO, ← List.filter_append, List.take_append_drop]
    obtain ⟨nO, hnO⟩ : ∃ x, x = O.length := ⟨_, rfl⟩
    obtain ⟨Oe, hOe⟩ : ∃ x, x = O.map encRow := ⟨_, rfl⟩
    simp only
    rw [← hnO, ← hOe]
    by_cases hlt : j < A.length
    · by_cases hlk : (nO : Int) < k
      · obtain ⟨x, hx⟩ : ∃ x, A[j]? = some x := ⟨_, lgE hlt⟩
        have hxa := hAx j x hx
        have ij : i.toNat = j := by omega
        rw [← ij] at hxa
        have hxm := List.mem_of_getElem? hx
        have hdx := hde x (by have := hgl x hxm; omega)
        rw [hgd x hxm] at hdx
        have hfx := hfq x
        have htk : (A.take (j + 1)).filter f = O ++ if f x = true then [x] else [] := by
          rw [take_succ_get hx, List.filter_append, ← hO]
          congr 1
          by_cases h : f x = true
          · rw [if_pos h]; simp [h]
          · rw [if_neg h]; simp [h]
        obtain ⟨n1, hnn1⟩ : ∃ y, y = nO + 1 := ⟨_, rfl⟩
        obtain ⟨ye, hye⟩ : ∃ y, y = (O ++ [x]).map encRow := ⟨_, rfl⟩
        have hye2 : ye = (Oe.drop 0).take nO ++ [[.list false 1 (x.map encI)]] := by
          rw [hye, List.drop_zero, List.map_append, ← hOe, List.take_of_length_le (by rw [hOe, List.length_map]; omega)]; rfl
        have hl1 : (O ++ [x]).length = n1 := by rw [List.length_append, ← hnO, hnn1]; rfl
        generalize (x.map fun a => (lkAt t a).dl).sum = dx at *
        generalize x.map encI = xl at *
        by_cases hfb : f x = true
        · rw [if_pos hfb] at htk
          have hq : most = 0 ∨ dx ≤ most := by rw [hfb] at hfx; exact of_decide_eq_true hfx.symm
          conv => cbv
          repeat' first | (intro e he; cases osj (he.symm.trans hxa); (conv => cbv)) | (refine call_r hdx rfl rfl ?_; conv => cbv) | (intro (m : Nat) (r : Bool) (y : List (List D)) hm2 hr2 hy2; refine (fun (hz : n1 = m) (hz2 : ye = y) => ?_) (by rw [hm2, hnn1]; rfl) (by rw [hye2, hy2]; all_goals first | rfl | (cases nO <;> cases Oe <;> rfl)); subst hz hz2; (conv => cbv)) | exact gu | exact trivial | refine And.intro ?_ ?_ | (intro hc; exact absurd hc (by decide)) | (intro hc; exfalso; omega) | (intro hc; (first | rw [wS (by omega) (by omega)] at hc | rw [nI_eq] at hc | skip); try (conv => cbv))
          all_goals first
            | (exfalso; omega)
            | (refine norm _ _ (O ++ [x], ve + 1, _, _) ?_ (by simp only; rw [hl1, ← hye]; exact (Wk.ca))
               exact ⟨by simp only; omega, by omega, htk.symm, by simp only; omega⟩)
        · rw [if_neg hfb, List.append_nil] at htk
          have hq : ¬ (most = 0 ∨ dx ≤ most) := by rw [Bool.eq_false_iff.2 hfb] at hfx; exact of_decide_eq_false hfx.symm
          conv => cbv
          repeat' first | (intro e he; cases osj (he.symm.trans hxa); (conv => cbv)) | (refine call_r hdx rfl rfl ?_; conv => cbv) | exact gu | exact trivial | refine And.intro ?_ ?_ | (intro hc; exact absurd hc (by decide)) | (intro hc; exfalso; omega) | (intro hc; (first | rw [wS (by omega) (by omega)] at hc | rw [nI_eq] at hc | skip); try (conv => cbv))
          all_goals first
            | (exfalso; omega)
            | (refine norm _ _ (O, ve, rr, _) ?_ (by simp only; rw [← hnO, ← hOe]; exact (Wk.ca))
               exact ⟨by simp only; omega, by omega, htk.symm, by simp only; omega⟩)
      · have hfin : O = (A.filter f).take k.toNat := by rw [hApre, List.take_append_of_le_length (by omega), List.take_of_length_le (by omega)]
        conv => cbv
        repeat' first | exact gu | exact trivial | refine And.intro ?_ ?_ | (intro hc; exact absurd hc (by decide)) | (intro hc; exfalso; omega) | (intro hc; (first | rw [wS (by omega) (by omega)] at hc | rw [nI_eq] at hc | skip); try (conv => cbv))
        refine ex _ _ (O, ve, rr) hfin (by simp only; rw [← hnO, ← hOe]; exact (Wk.ca))
    · have hfin : O = (A.filter f).take k.toNat := by
        rw [List.drop_of_length_le (by omega), List.filter_nil, List.append_nil] at hApre
        rw [hApre, List.take_of_length_le (by omega)]
      conv => cbv
      repeat' first | exact gu | exact trivial | refine And.intro ?_ ?_ | (intro hc; exact absurd hc (by decide)) | (intro hc; exfalso; omega) | (intro hc; (first | rw [wS (by omega) (by omega)] at hc | rw [nI_eq] at hc | skip); try (conv => cbv))
      refine ex _ _ (O, ve, rr) hfin (by simp only; rw [← hnO, ← hOe]; exact (Wk.ca))
  rintro ⟨O, ve, rr⟩ hO
  simp only at hO
  obtain ⟨nO, hnO⟩ : ∃ x, x = O.length := ⟨_, rfl⟩
  have hne : (A.filter f = []) ↔ nO = 0 := by
    rw [hnO, hO, List.length_take]
    constructor
    · intro h; rw [h]; simp
    · intro h
      have : (A.filter f).length = 0 := by omega
      exact List.eq_nil_of_length_eq_zero this
  have leafA := leafA O ve rr
  have leafE := leafE 11
  rw [← hnO] at leafA
  simp only
  rw [← hnO]
  generalize O.map encRow = Oe at *
  by_cases hz : nO = 0
  · rw [if_pos (hne.2 hz)] at leafE
    have leafE := fun b => leafE b rfl
    conv => cbv
    repeat' first | exact gu | exact trivial | refine And.intro ?_ ?_ | (intro hc; exact absurd hc (by decide)) | (intro hc; exfalso; omega) | (intro hc; (first | rw [wS (by omega) (by omega)] at hc | rw [nI_eq] at hc | skip); try (conv => cbv))
    all_goals first | (exfalso; omega) | exact leafE _
  · rw [if_neg (fun h => hz (hne.1 h)), ← hO] at leafA
    have leafA := fun b0 bs => leafA b0 bs rfl
    conv => cbv
    repeat' first | exact gu | exact trivial | refine And.intro ?_ ?_ | (intro hc; exact absurd hc (by decide)) | (intro hc; exfalso; omega) | (intro hc; (first | rw [wS (by omega) (by omega)] at hc | rw [nI_eq] at hc | skip); try (conv => cbv))
    all_goals first | (exfalso; omega) | exact leafA _ _
theorem rshortest_ok (P : Program) (hP : P = Try.prog) (t : Top) (down : List Bool) (s d k most : Int) (hl11 : t.links.length ≤ 11) (hsm : validT t = true → t.nodes ≤ 8) :
  Ret P n_ref14_Shortest [topA t, boolsA down, iA s, iA d, iA k, iA most] (.tup [.c (.d (.list false 1 ((shortV t down s d k most (quickS t down s d most)).1.map encRow))), iA (shortV t down s d k most (quickS t down s d most)).2]) := by
 have h1 := FnS.frz2 (Q := fun es x h => (es, x) = ((shortV t down s d k most (quickS t down s d most)).1.map encRow, iA (shortV t down s d k most (quickS t down s d most)).2) ∧ h = []) (sz := 1) (fun es x h' h => by
  obtain ⟨h, rfl⟩ := h
  cases h
  exact ⟨rfl, rfl, rfl, rfl⟩) (rshort_raw P hP t down s d k most hl11 hsm)
 refine h1.mono ?_
 rintro r h' ⟨es, x, ⟨h, _⟩, rfl⟩
 cases h
 exact ⟨rfl, rfl⟩
end Go.Ab

/-
  Chapter 14, what all laws share: the example, small topologies, the call.
-/
namespace Go.Ab
open Go.Proofs
structure Qk where
 down : List Bool
 (s d k most : Int)
abbrev qkA (q : Qk) : AV := .agg [.d (boolsD q.down), .d (iD q.s), .d (iD q.d), .d (iD q.k), .d (iD q.most)]
def shS (t : Top) (q : Qk) : List (List Int) × Int := shortV t q.down q.s q.d q.k q.most (quickS t q.down q.s q.d q.most)
abbrev rwsA (l : List (List Int)) : AV := .c (.d (.list false 1 (l.map encRow)))
def smallK (t : Top) (q : Qk) : Prop := t.links.length ≤ 11 ∧ t.ov.length ≤ 20 ∧ q.down.length ≤ 40 ∧ (validT t = true → t.nodes ≤ 8)
instance (t : Top) (q : Qk) : Decidable (smallK t q) := by unfold smallK; infer_instance
theorem small_ok (P : Program) (hP : P = Try.prog) (t : Top) (q : Qk) : Ret P n_law14_small [topA t, qkA q] (bA (decide (smallK t q))) := by
 have hv := valid_ok P hP t
 refine ret_start (hP ▸ mixed) (hP ▸ fn_law14_small) (hP ▸ c_law14_small) (nle rfl) fun Λ Λo K hK => ?_
 clear hP
 have yes := yes_of hK
 have no := no_of hK
 clear hK
 unfold smallK at yes no
 obtain ⟨dn, s, d, k, most⟩ := q
 simp only [topA, qkA, rwsA, intsA, intsD, boolsA, boolsD, linksD] at *
 generalize hol : t.ov.map encB = ovl at *
 generalize hll : t.links.map encLk = lkl at *
 generalize hdl : dn.map encB = dwl at *
 have l1 : Λ ovl = t.ov.length := by rw [Λo, ← hol]; simp
 have l2 : Λ lkl = t.links.length := by rw [Λo, ← hll]; simp
 have l3 : Λ dwl = dn.length := by rw [Λo, ← hdl]; simp
 generalize t.nodes = nodes at *
 cases hvb : validT t
 all_goals
  rw [hvb] at hv
  conv => cbv
  repeat' first | (refine call_r hv rfl rfl ?_; conv => cbv) | exact gu | exact trivial | refine And.intro ?_ ?_ | (intro hc; exact absurd hc (by decide)) | (intro hc; exfalso; omega) | (intro hc; (first | rw [wS (by omega) (by omega)] at hc | rw [nI_eq] at hc | skip); try (conv => cbv))
  all_goals first
   | exact yes ⟨by omega, by omega, by omega, fun h => by rw [hvb] at h; first | (cases h; done) | omega⟩
   |exact no fun h => by
     have h4 := h.2.2.2
     rw [hvb] at h4
     first
      | (have h5 := h4 rfl; omega)
      | omega
theorem shortest_q (P : Program) (hP : P = Try.prog) (t : Top) (q : Qk) (hs : t.links.length ≤ 11) (hn : validT t = true → t.nodes ≤ 8) : Ret P n_kpaths_Shortest [topA t, boolsA q.down, iA q.s, iA q.d, iA q.k, iA q.most] (.tup [rwsA (shS t q).1, iA (shS t q).2]) :=
 shortest_ok P hP t q.down q.s q.d q.k q.most _ hs hn fun hv h1 h2 h3 => quickS_srt hv h1 (hn hv) h3 h2
theorem rshortest_q (P : Program) (hP : P = Try.prog) (t : Top) (q : Qk) (hs : t.links.length ≤ 11) (hn : validT t = true → t.nodes ≤ 8) : Ret P n_ref14_Shortest [topA t, boolsA q.down, iA q.s, iA q.d, iA q.k, iA q.most] (.tup [rwsA (shS t q).1, iA (shS t q).2]) :=
 rshortest_ok P hP t q.down q.s q.d q.k q.most hs hn
theorem lshort_ok (P : Program) (hP : P = Try.prog) (t : Top) (q : Qk) (hs : t.links.length ≤ 11) (hn : validT t = true → t.nodes ≤ 8) (hd : q.down.length ≤ 40) : Ret P n_law14_shortest [topA t, qkA q] (.tup [rwsA (shS t q).1, iA (shS t q).2]) := by
 have hsh := shortest_q P hP t q hs hn
 refine ret_start (hP ▸ mixed) (hP ▸ fn_law14_shortest) (hP ▸ c_law14_shortest) (nle rfl) fun Λ Λo K hK => ?_
 clear hP
 generalize shS t q = r at *
 obtain ⟨l, e⟩ := r
 obtain ⟨dn, s, d, k, most⟩ := q
 simp only [topA, qkA, rwsA, intsA, intsD, boolsA, boolsD, linksD] at *
 generalize l.map encRow = ll at *
 generalize t.ov.map encB = ovl at *
 generalize t.links.map encLk = lkl at *
 obtain ⟨pl, hpth⟩ : ∃ x, x = dn.map encB := ⟨_, rfl⟩
 have hpll : pl.length = dn.length := by rw [hpth]; simp
 have pln : Λ pl = dn.length := by rw [Λo, hpll]
 obtain ⟨np, hnp⟩ : ∃ x, x = dn.length := ⟨_, rfl⟩
 rw [← hpth] at hsh ⊢
 generalize t.nodes = nodes at *
 have hnpl : np = pl.length := by omega
 conv => cbv
 repeat' first | (intro (_ : Unit); show (0 + pl.length) * 1 ≤ _; omega) | (intro (m : Nat) (r : Bool) (y : List (List D)) hm2 hr2 hy2; refine (fun (hz : np = m) (hz2 : pl = y) => ?_) (by rw [hm2]; show np = 0 + pl.length; omega) (by rw [hy2]; try rfl); subst hz hz2; (conv => cbv)) | exact gu | exact trivial | refine And.intro ?_ ?_ | (intro hc; exact absurd hc (by decide)) | (intro hc; exfalso; omega) | (intro hc; (first | rw [wS (by omega) (by omega)] at hc | rw [nI_eq] at hc | skip); try (conv => cbv))
 (refine call_z 2 (1) 1 np rfl hnpl (by simp [okL, okA, okCs, okC, bq_lit]) (by first | (simp [okH, okB, okCs, okC]; done) | simp [okH, okB, okCs, okC, bq_lit]) ?_; simp only [zL, zA, zCs, zC, zH, zB, bq_self, bq_old]; conv => cbv)
 repeat' first | (refine call_r hsh rfl rfl ?_; conv => cbv) | exact gu | exact trivial | refine And.intro ?_ ?_ | (intro hc; exact absurd hc (by decide)) | (intro hc; exfalso; omega) | (intro hc; (first | rw [wS (by omega) (by omega)] at hc | rw [nI_eq] at hc | skip); try (conv => cbv))
 exact hK
def rlinks : List Lk := [⟨0, 1, 1, 1, 0, 1, 0⟩, ⟨1, 2, 1, 1, 0, 2, 0⟩, ⟨2, 3, 1, 1, 0, 3, 0⟩, ⟨3, 0, 1, 1, 0, 4, 0⟩]
def ring14 : Top := ⟨4, [], rlinks⟩
theorem ring_ok (P : Program) (hP : P = Try.prog) : Ret P n_law14_ring [] (topA ring14) := by
 refine ret_start (hP ▸ mixed) (hP ▸ fn_law14_ring) (hP ▸ c_law14_ring) (nle rfl) fun Λ Λo K hK => ?_
 clear hP
 conv => cbv
 repeat' first | exact gu | exact trivial | refine And.intro ?_ ?_ | (intro hc; exact absurd hc (by decide)) | (intro hc; exfalso; omega) | (intro hc; (first | rw [wS (by omega) (by omega)] at hc | rw [nI_eq] at hc | skip); try (conv => cbv))
 refine loop_up 4 (fun (s : Nat × Int) => [(0, .c (.ptr 0 0 0 0)), (1, .c (.ptr 1 0 0 0)), (2, iA s.2)])
  (fun s => match s.1 with
   | 0 => [.bx [.d (iD 0), .d (.list true 1 []), .d (.list true 7 [])], .bx [.d (iD 4), .d (.list true 1 []), .d (.list true 7 [])]]
   | n + 1 => [.bx [.d (iD 0), .d (.list true 1 []), .d (.list true 7 [])], .bx [.d (iD 4), .d (.list true 1 []), .arr 3 n 0 (n + 1)], .da true 0 7 [encLk ⟨0, 1, 1, 1, 0, 1, 0⟩], .da true n 7 ((rlinks.take (n + 1)).map encLk)])
  (fun k s => s.1 = k ∧ (s = (0, 0) ∨ s = (1, 1) ∨ s = (2, 2) ∨ s = (3, 3) ∨ s = (4, 4))) (0, 0) (Wk.cw) ⟨rfl, .inl rfl⟩ (fun k s h => by obtain ⟨h1, h | h | h | h | h⟩ := h <;> rw [h] at h1 <;> simp only at h1 <;> omega) ?_
 rintro k s Q' ⟨hk, hs⟩ norm ex rt
 rcases hs with rfl | rfl | rfl | rfl | rfl <;> (simp only at hk; subst hk)
 all_goals
  conv => cbv
  repeat' first | (intro (m : Nat) (r : Bool) (y : List (List D)) hm2 hr2 hy2; subst hm2 hr2 hy2; (conv => cbv)) | (intro (x : Int) hx; refine (fun (hz : (0 : Int) = x) => ?_) (by rw [hx]; decide); subst hz; (conv => cbv)) | (intro (x : Int) hx; refine (fun (hz : (1 : Int) = x) => ?_) (by rw [hx]; decide); subst hz; (conv => cbv)) | (intro (x : Int) hx; refine (fun (hz : (2 : Int) = x) => ?_) (by rw [hx]; decide); subst hz; (conv => cbv)) | (intro (x : Int) hx; refine (fun (hz : (3 : Int) = x) => ?_) (by rw [hx]; decide); subst hz; (conv => cbv)) | (intro (x : Int) hx; refine (fun (hz : (4 : Int) = x) => ?_) (by rw [hx]; decide); subst hz; (conv => cbv)) | exact gu | exact trivial | refine And.intro ?_ ?_ | (intro hc; exact absurd hc (by decide)) | (intro hc; exfalso; omega) | (intro hc; (first | rw [wS (by omega) (by omega)] at hc | rw [nI_eq] at hc | skip); try (conv => cbv))
 ·exact norm _ _ (1, 1) ⟨rfl, .inr (.inl rfl)⟩ (Wk.cw)
 ·exact norm _ _ (2, 2) ⟨rfl, .inr (.inr (.inl rfl))⟩ (Wk.cw)
 ·exact norm _ _ (3, 3) ⟨rfl, .inr (.inr (.inr (.inl rfl)))⟩ (Wk.cw)
 ·exact norm _ _ (4, 4) ⟨rfl, .inr (.inr (.inr (.inr rfl)))⟩ (Wk.cw)
 ·refine ex _ _ _ ?_
  conv => cbv
  repeat' first | (intro (x : List (List D)) hx; subst hx; (conv => cbv)) | exact gu | exact trivial | refine And.intro ?_ ?_ | (intro hc; exact absurd hc (by decide)) | (intro hc; exfalso; omega) | (intro hc; (first | rw [wS (by omega) (by omega)] at hc | rw [nI_eq] at hc | skip); try (conv => cbv))
  exact hK
theorem quick_r0 : quickS ring14 [] 0 2 0 = [[0, 2], [7, 5]] := by decide +kernel
theorem quick_r4 : quickS ring14 [] 0 2 4 = [[0, 2]] := by decide +kernel
theorem awake_ok (P : Program) (hP : P = Try.prog) : Ret P n_law14_awake [] (bA true) := by
 have hr := ring_ok P hP
 have h1 := shortest_q P hP ring14 ⟨[], 0, 2, 5, 0⟩ (by decide) (by decide)
 have h2 := shortest_q P hP ring14 ⟨[], 0, 2, 5, 4⟩ (by decide) (by decide)
 have h3 := delay_ok P hP ring14 [7, 5] (by decide) (by decide)
 obtain ⟨l0, hl0⟩ : ∃ x : List (List Int), x = [[0, 2], [7, 5]] := ⟨_, rfl⟩
 have h4 := rsame_ok P hP l0 [[0, 2], [7, 5]] (by rw [hl0]; decide) (by decide)
 have h5 := compare_ok P hP ring14 [0, 2] [7, 5] (by decide) (by decide) (by decide)
 have e1 : shS ring14 ⟨[], 0, 2, 5, 0⟩ = ([[0, 2], [7, 5]], 0) := by
  rw [shS, shortV, if_neg (by decide), if_neg (by decide), quick_r0]; rfl
 have e2 : shS ring14 ⟨[], 0, 2, 5, 4⟩ = ([[0, 2]], 0) := by
  rw [shS, shortV, if_neg (by decide), if_neg (by decide), quick_r4]; rfl
 have e3 : delS ring14 [7, 5] = (7, 0) := by decide
 have e5 : ordS (cst ring14 [0, 2]) (cst ring14 [7, 5]) [0, 2] [7, 5] = -1 := by decide
 rw [e1] at h1
 rw [e2] at h2
 rw [e3] at h3
 rw [e5] at h5
 rw [decide_eq_true hl0] at h4
 rw [← hl0] at h1
 obtain ⟨l4, hl4⟩ : ∃ x : List (List Int), x = [[0, 2]] := ⟨_, rfl⟩
 rw [← hl4] at h2
 have hx4 : (l4.map encRow).length = 1 := by rw [hl4]; rfl
 have hx0 : (l0.map encRow)[0]? = some [.list false 1 [[iD 0], [iD 2]]] := by rw [hl0]; rfl
 have hx1 : (l0.map encRow)[1]? = some [.list false 1 [[iD 7], [iD 5]]] := by rw [hl0]; rfl
 have hxl : (l0.map encRow).length = 2 := by rw [hl0]; rfl
 clear e1 e2 e3 e5
 refine ret_start (hP ▸ mixed) (hP ▸ fn_law14_awake) (hP ▸ c_law14_awake) (nle rfl) fun Λ Λo K hK => ?_
 clear hP
 have hro : topA ring14 = .agg [.d (iD 4), .d (.list false 1 []), .d (.list false 7 [[iD 0, iD 1, iD 1, iD 1, iD 0, iD 1, iD 0], [iD 1, iD 2, iD 1, iD 1, iD 0, iD 2, iD 0], [iD 2, iD 3, iD 1, iD 1, iD 0, iD 3, iD 0], [iD 3, iD 0, iD 1, iD 1, iD 0, iD 4, iD 0]])] := rfl
 rw [hro] at hr h1 h2 h3 h5
 clear hro
 simp only [rwsA] at *
 generalize l0.map encRow = ll at *
 generalize l4.map encRow = ll4 at *
 have hxn4 : Λ ll4 = 1 := by rw [Λo, hx4]; rfl
 have hxn : Λ ll = 2 := by rw [Λo, hxl]; rfl
 simp only [encRow, intsA, intsD, boolsA, boolsD, encI, List.map_cons, List.map_nil] at *
 conv => cbv
 repeat' first | (refine call_r hr rfl rfl ?_; conv => cbv) | (refine call_r h1 rfl rfl ?_; conv => cbv) | (refine call_r h2 rfl rfl ?_; conv => cbv) | (refine call_r h3 rfl rfl ?_; conv => cbv) | exact gu | exact trivial | refine And.intro ?_ ?_ | (intro hc; exact absurd hc (by decide)) | (intro hc; exfalso; omega) | (intro hc; (first | rw [wS (by omega) (by omega)] at hc | rw [nI_eq] at hc | skip); try (conv => cbv))
 (refine call_z 0 (0) 1 2 rfl rfl (by simp [okL, okA, okCs, okC, bq_lit]) (by first | (simp [okH, okB, okCs, okC]; done) | simp [okH, okB, okCs, okC, bq_lit]) ?_; simp only [zL, zA, zCs, zC, zH, zB, bq_self, bq_old]; conv => cbv)
 repeat' first | (intro (e : List D) he; cases osj (he.symm.trans hx0); (conv => cbv)) | (intro (e : List D) he; cases osj (he.symm.trans hx1); (conv => cbv)) | (refine call_r hr rfl rfl ?_; conv => cbv) | (refine call_r h4 rfl rfl ?_; conv => cbv) | (refine call_r h5 rfl rfl ?_; conv => cbv) | exact gu | exact trivial | refine And.intro ?_ ?_ | (intro hc; exact absurd hc (by decide)) | (intro hc; exfalso; omega) | (intro hc; (first | rw [wS (by omega) (by omega)] at hc | rw [nI_eq] at hc | skip); try (conv => cbv))
 exact hK
end Go.Ab

/-
  Chapter 14: laws Shortest, Prefix and Compare.
-/
namespace Go.Ab
open Go.Proofs
theorem shS_len (t : Top) (q : Qk) : (shS t q).1.length ≤ 16 := by
 unfold shS shortV
 split
 ·simp
 ·rename_i h
  have h := Classical.not_not.1 h
  split
  ·simp
  ·split
   ·simp
   ·simp only [List.length_take]; omega
set_option maxRecDepth 20000 in
set_option maxHeartbeats 4000000 in
theorem shortest_law (P : Program) (hP : P = Try.prog) (t : Top) (q : Qk) : Ret P n_law14_KpathsShortest [topA t, qkA q] (bA true) := by
 have haw := awake_ok P hP
 have hsm := small_ok P hP t q
 by_cases hs : smallK t q
 ·rw [decide_eq_true hs] at hsm
  have h1 := lshort_ok P hP t q hs.1 hs.2.2.2 hs.2.2.1
  have h2 := rshortest_q P hP t q hs.1 hs.2.2.2
  have h3 := rsame_ok P hP (shS t q).1 (shS t q).1 (by have := shS_len t q; omega) (by have := shS_len t q; omega)
  rw [decide_eq_true rfl] at h3
  refine ret_start (hP ▸ mixed) (hP ▸ fn_law14_KpathsShortest) (hP ▸ c_law14_KpathsShortest) (nle rfl) fun Λ Λo K hK => ?_
  clear hP
  generalize shS t q = r at *
  obtain ⟨l, e⟩ := r
  obtain ⟨dn, s, d, k, most⟩ := q
  simp only [topA, qkA, rwsA, intsA, intsD, boolsA, boolsD, linksD] at *
  generalize l.map encRow = ll at *
  generalize t.ov.map encB = ovl at *
  generalize t.links.map encLk = lkl at *
  generalize dn.map encB = dwl at *
  generalize t.nodes = nodes at *
  conv => cbv
  repeat' first | (refine call_r haw rfl rfl ?_; conv => cbv) | (refine call_r hsm rfl rfl ?_; conv => cbv) | (refine call_r h1 rfl rfl ?_; conv => cbv) | (refine call_r h2 rfl rfl ?_; conv => cbv) | (refine call_r h3 rfl rfl ?_; conv => cbv) | exact gu | exact trivial | refine And.intro ?_ ?_ | (intro hc; exact absurd hc (by decide)) | (intro hc; exfalso; omega) | (intro hc; (first | rw [wS (by omega) (by omega)] at hc | rw [nI_eq] at hc | skip); try (conv => cbv))
  all_goals exact hK
 ·rw [decide_eq_false hs] at hsm
  refine ret_start (hP ▸ mixed) (hP ▸ fn_law14_KpathsShortest) (hP ▸ c_law14_KpathsShortest) (nle rfl) fun Λ Λo K hK => ?_
  clear hP
  obtain ⟨dn, s, d, k, most⟩ := q
  simp only [topA, qkA, rwsA, intsA, intsD, boolsA, boolsD, linksD] at *
  generalize t.ov.map encB = ovl at *
  generalize t.links.map encLk = lkl at *
  generalize dn.map encB = dwl at *
  generalize t.nodes = nodes at *
  conv => cbv
  repeat' first | (refine call_r haw rfl rfl ?_; conv => cbv) | (refine call_r hsm rfl rfl ?_; conv => cbv) | exact gu | exact trivial | refine And.intro ?_ ?_ | (intro hc; exact absurd hc (by decide)) | (intro hc; exfalso; omega) | (intro hc; (first | rw [wS (by omega) (by omega)] at hc | rw [nI_eq] at hc | skip); try (conv => cbv))
  all_goals exact hK
end Go.Ab

/-
  Chapter 14: what a row reads.
-/
namespace Go.Ab
open Go.Proofs Go.Proofs.Ytllgchplnhaplaa Go.ChangeShapes Go.WideShapes Go.ChangeAt Go.RowKit
def shKq : List Sh := [.list 1 [.bool], shI, shI, shI, shI]
def sizeKq (q : Qk) : Nat := q.down.length
theorem dec_kq {ds : List D} {n : Nat} (h : FitL shKq ds n) : ∃ c : Qk, qkA c = .agg (ds.map .d) ∧ sizeKq c ≤ n := by
 obtain ⟨d0, ds0, _, _, rfl, rfl, g0, h_0⟩ := h.un
 obtain ⟨down, rfl, w_down⟩ := g0.lm encB (fun _ => 1) dec_b
 rw [sum_one] at w_down
 obtain ⟨d1, ds1, _, _, rfl, rfl, g1, h_1⟩ := h_0.un
 obtain ⟨s, rfl, w_s⟩ := g1.i
 obtain ⟨d2, ds2, _, _, rfl, rfl, g2, h_2⟩ := h_1.un
 obtain ⟨d, rfl, w_d⟩ := g2.i
 obtain ⟨d3, ds3, _, _, rfl, rfl, g3, h_3⟩ := h_2.un
 obtain ⟨k, rfl, w_k⟩ := g3.i
 obtain ⟨d4, ds4, _, _, rfl, rfl, g4, h_4⟩ := h_3.un
 obtain ⟨most, rfl, w_most⟩ := g4.i
 rw [h_4.end]
 exact ⟨⟨down, s, d, k, most⟩, rfl, by simp only [sizeKq]; omega⟩
def sizeT (t : Top) : Nat := t.ov.length + t.links.length
theorem dec_top {ds : List D} {n : Nat} (h : FitL shTop ds n) : ∃ c : Top, topA c = .agg (ds.map .d) ∧ sizeT c ≤ n := by
 obtain ⟨d0, ds0, _, _, rfl, rfl, g0, h_0⟩ := h.un
 obtain ⟨nodes, rfl, w_nodes⟩ := g0.i
 obtain ⟨d1, ds1, _, _, rfl, rfl, g1, h_1⟩ := h_0.un
 obtain ⟨ov, rfl, w_ov⟩ := g1.lm encB (fun _ => 1) dec_b
 rw [sum_one] at w_ov
 obtain ⟨d2, ds2, _, _, rfl, rfl, g2, h_2⟩ := h_1.un
 obtain ⟨links, rfl, w_links⟩ := g2.lm encLk (fun _ => 1) dec_lk
 rw [sum_one] at w_links
 rw [h_2.end]
 exact ⟨⟨nodes, ov, links⟩, rfl, by simp only [sizeT]; omega⟩
end Go.Ab

