/-
  Merged texts, part r.
-/
import Derived.Test.YtmcjlpmlnfbjaaaZq
/-
  Updates, part r: whether the steps can be completed.
-/
namespace Go.Ab
open Go.Proofs
def HitC (J : Stps) (mx m i : Nat) : Prop := mx.testBit i = true ∧ m.testBit i = false ∧ J.Fit m i ∧ CM J mx (cnt J.n (bitS m i)) (bitS m i)
theorem cm_done {J : Stps} {mx m : Nat} (h : ∀ i, mx.testBit i = true → m.testBit i = true) : CM J mx (cnt J.n m) m := by
 cases cnt J.n m with
 | zero => trivial
 | succ k => exact .inl h
theorem cm_hit {J : Stps} {mx m i : Nat} (hi : i < J.n) (h : HitC J mx m i) : CM J mx (cnt J.n m) m := by
 have hc := cnt_set h.2.1 hi
 rw [← hc]
 exact .inr ⟨i, hi, h.1, h.2.1, h.2.2.1, h.2.2.2⟩
theorem cm_no {J : Stps} {mx m : Nat} (hx : ∀ i, mx.testBit i = true → i < J.n) (h1 : ¬ ∀ i, mx.testBit i = true → m.testBit i = true) (h2 : ∀ i, i < J.n → ¬ HitC J mx m i) : ¬ CM J mx (cnt J.n m) m := by
 intro h
 obtain ⟨i, hi⟩ := Classical.not_forall.1 h1
 obtain ⟨hi1, hi2⟩ := Classical.not_imp.1 hi
 have hi2 : m.testBit i = false := by simpa using hi2
 have hc := cnt_set hi2 (hx i hi1)
 rw [← hc] at h
 rcases h with h | ⟨j, hj, q1, q2, q3, q4⟩
 ·exact h1 h
 ·have hc2 := cnt_set q2 hj
  have : cnt J.n (bitS m i) = cnt J.n (bitS m j) := by omega
  rw [this] at q4
  exact h2 j hj ⟨q1, q2, q3, q4⟩
theorem or_sub {m sh : Nat} : (m ||| sh) ||| sh = m ||| sh := by rw [Nat.or_assoc, Nat.or_self]
theorem bit_sub {m sh i : Nat} (h : m ||| sh = m) : bitS m i ||| sh = bitS m i := by
 rw [bitS, Nat.or_assoc, Nat.or_comm (2 ^ i) sh, ← Nat.or_assoc, h]
abbrev srchA (t : Top) (ids : List Int) (J : Stps) (sh mx : Nat) : AV := .agg [.d (iD J.n), .fn true n_update_job_fits [jobJ t ids J], .fn false n_update_Order_2 [.ptr 0 0 0 0, .ptr 1 0 0 0], .fn false n_update_Order_3 [.ptr 0 0 0 0, .ptr 1 0 0 0], .d (.int .u32 sh), .d (.int .u32 mx), .mp 2]
abbrev srchH (t : Top) (ids : List Int) (J : Stps) (v : Nat) (es : List (DV × DV)) : Hp := [.bx [.fn false n_update_Order_1 []], .bx [jobJ t ids J], .mp v es]
theorem pcomplete_ok (P : Program) (hP : P = Try.prog) (t : Top) (ids : List Int) (J : Stps) (hn : ids.length = J.n) (hs : SmlJ J) (hw : J.w = 2 * t.links.length) (hC : ∀ e : Nat, J.C e = (lkAt t e).cap)
  (sh mx : Nat) (hsh : sh < 4294967296) (hmx : mx < 4294967296) (hxn : ∀ i, mx.testBit i = true → i < J.n) : ∀ (k m : Nat), m < 4294967296 → cnt J.n (m ||| sh) < k → ∀ (v : Nat) (es : List (DV × DV)) (l : List Nat), setU l = es → (∀ x ∈ l, ¬ CM J mx (cnt J.n x) x) →
  FnS P n_sequence_search_complete [srchA t ids J sh mx, .c (.d (.int .u32 m))] (srchH t ids J v es) fun r h' => ∃ v' es' l' b, r = bA b ∧ (b = true ↔ CM J mx (cnt J.n (m ||| sh)) (m ||| sh)) ∧ h' = srchH t ids J v' es' ∧ setU l' = es' ∧ ∀ x ∈ l', ¬ CM J mx (cnt J.n x) x := by
 have hfo : FnOk P n_update_job_fits := hP ▸ ⟨_, fn_update_job_fits, rfl, by decide⟩
 have hft := fun m hm (mi : Int) => pjfits_ok P hP t ids J hn hs hw hC m hm mi
 intro k
 induction k with
 | zero => intro m _ h; omega
 | succ k ih =>
  intro m hm hk v es l hes hbad
  have h0 : FnS P n_sequence_search_complete [srchA t ids J sh mx, .c (.d (.int .u32 m))] (srchH t ids J v es) fun r h' => ∃ h2 v' es' l' b, r = bA b ∧ (b = true ↔ CM J mx (cnt J.n (m ||| sh)) (m ||| sh)) ∧ h' = srchH t ids J v' es' ++ h2 ∧ setU l' = es' ∧ ∀ x ∈ l', ¬ CM J mx (cnt J.n x) x := by
   refine heap_start (hP ▸ mixed) (hP ▸ fn_sequence_search_complete) (hP ▸ c_sequence_search_complete) (Nat.le_of_ble_eq_true rfl) fun Λ Λo K hK => ?_
   clear hP
   have leaf : ∀ h2 v' es' l' b, (b = true ↔ CM J mx (cnt J.n (m ||| sh)) (m ||| sh)) → setU l' = es' → (∀ x ∈ l', ¬ CM J mx (cnt J.n x) x) → K (bA b) (srchH t ids J v' es' ++ h2) := fun h2 v' es' l' b q1 q2 q3 => hK _ _ ⟨h2, v', es', l', b, rfl, q1, rfl, q2, q3⟩
   clear hK
   have hrec : ∀ i, i < J.n → (m ||| sh).testBit i = false → ∀ (v : Nat) (es : List (DV × DV)) (l : List Nat), setU l = es → (∀ x ∈ l, ¬ CM J mx (cnt J.n x) x) →
     FnS P n_sequence_search_complete [srchA t ids J sh mx, .c (.d (.int .u32 (bitS (m ||| sh) i : Nat)))] (srchH t ids J v es) fun r h' => ∃ v' es' l' b, r = bA b ∧ (b = true ↔ CM J mx (cnt J.n (bitS (m ||| sh) i)) (bitS (m ||| sh) i)) ∧ h' = srchH t ids J v' es' ∧ setU l' = es' ∧ ∀ x ∈ l', ¬ CM J mx (cnt J.n x) x := fun i hi hb v es l h1 h2 => by
    have hc := cnt_set hb hi
    have e := bit_sub (i := i) (or_sub (m := m) (sh := sh))
    have := ih (bitS (m ||| sh) i) (bitS_lt (or_lt hm hsh) (by have := hs.n; omega)) (by rw [e]; omega) v es l h1 h2
    rw [e] at this; exact this
   have hm1 := or_lt hm hsh
   have hcd := cm_done (J := J) (mx := mx) (m := m ||| sh)
   have hch := fun i => cm_hit (J := J) (mx := mx) (m := m ||| sh) (i := i)
   have hcn := cm_no (J := J) (mx := mx) (m := m ||| sh) hxn
   obtain ⟨m1z, hm1z⟩ : ∃ m1z : Int, m1z = ((m ||| sh : Nat) : Int) := ⟨_, rfl⟩
   obtain ⟨mz, hmz⟩ : ∃ mz : Int, mz = (m : Int) := ⟨_, rfl⟩
   obtain ⟨shz, hshz⟩ : ∃ shz : Int, shz = (sh : Int) := ⟨_, rfl⟩
   obtain ⟨mxz, hmxz⟩ : ∃ mxz : Int, mxz = (mx : Int) := ⟨_, rfl⟩
   have horU := orU hmz hshz hm hsh hm1z
   have hn24 := hs.n
   obtain ⟨nz, hnz⟩ : ∃ nz : Int, nz = (J.n : Int) := ⟨_, rfl⟩
   simp only [srchA, srchH, List.cons_append, List.nil_append] at *
   rw [← hmz, ← hshz, ← hmxz]
   rw [← hshz, ← hmxz] at hrec
   rw [← hnz] at hrec ⊢
   clear ih hmz hk
   generalize m ||| sh = m1 at *
   have hft := fun (i : Nat) => hft m1 hm1 i
   rw [← hm1z] at hft
   obtain ⟨c, hc1, hc2⟩ := andNotU hmxz hm1z hmx hm1
   generalize hHit : HitC J mx m1 = Hit at *
   have hHd : ∀ i, Hit i ↔ mx.testBit i = true ∧ m1.testBit i = false ∧ J.Fit m1 i ∧ CM J mx (cnt J.n (bitS m1 i)) (bitS m1 i) := fun i => by rw [← hHit]; rfl
   clear hHit
   simp only [jobJ, tabD, intsD, boolsD, linksD] at *
   generalize t.ov.map encB = ol at *
   generalize t.links.map encLk = kl at *
   generalize t.nodes = nodes at *
   generalize arrS J.w J.S = sl at *
   generalize (rowsF J.n J.w J.B).map (fun l => [D.list false 1 l]) = rb at *
   generalize (rowsF J.n J.w J.A).map (fun l => [D.list false 1 l]) = ra at *
   generalize ids.map encI = cl at *
   conv => cbv
   repeat' first | (refine ⟨.int .u32 m1z, horU, ?_⟩; intro d' hd; subst hd; (conv => cbv)) | (refine ⟨.int .u32 c, hc1, ?_⟩; intro d' hd; subst hd; (conv => cbv)) | (refine vlk_setU hm1z hes (fun hin0 => ?_) (fun hin1 => ?_) <;> (conv => cbv)) | exact gu | exact trivial | refine And.intro ?_ ?_ | (intro hc; exact absurd hc (by decide)) | (intro hc; exfalso; omega) | (intro hc; (first | rw [wrap_small (by omega) (by omega)] at hc | rw [nI_eq] at hc | skip); try (conv => cbv))
   ·exact leaf [_] v es l true ⟨fun _ => hcd (hc2.1 (by assumption)), fun _ => rfl⟩ hes hbad
   rotate_left
   ·exact leaf [_] v es l false ⟨fun h => (by cases h), fun h => absurd h (hbad m1 hin1)⟩ hes hbad
   have hnd : ¬ ∀ i, mx.testBit i = true → m1.testBit i = true := fun h => absurd (hc2.2 h) (by assumption)
   refine loop_upx J.n (fun s : Int × Nat × List (DV × DV) => [(1, .c (.d (.int .u32 m1z))), (2, .c (.ptr 3 0 0 0)), (22, iA nz), (23, iA s.1)]) (fun s => [.bx [.fn false n_update_Order_1 []], .bx [.rp [iD nodes, .list false 1 ol, .list false 7 kl, .list false 1 cl, .list false 1 sl, .list false 1 rb, .list false 1 ra]], .mp s.2.1 s.2.2, .bx [.d (iD nz), .fn true n_update_job_fits [.rp [iD nodes, .list false 1 ol, .list false 7 kl, .list false 1 cl, .list false 1 sl, .list false 1 rb, .list false 1 ra]], .fn false n_update_Order_2 [.ptr 0 0 0 0, .ptr 1 0 0 0], .fn false n_update_Order_3 [.ptr 0 0 0 0, .ptr 1 0 0 0], .d (.int .u32 shz), .d (.int .u32 mxz), .mp 2]])
    (fun k s => s.1 = k ∧ k ≤ J.n ∧ ∃ l', setU l' = s.2.2 ∧ (∀ x ∈ l', ¬ CM J mx (cnt J.n x) x) ∧ ∀ j, j < k → ¬ Hit j) (0, v, es) 0
    (fun s : Nat × List (DV × DV) => [(1, .c (.d (.int .u32 m1z))), (2, .c (.ptr 3 0 0 0))]) (fun s => [.bx [.fn false n_update_Order_1 []], .bx [.rp [iD nodes, .list false 1 ol, .list false 7 kl, .list false 1 cl, .list false 1 sl, .list false 1 rb, .list false 1 ra]], .mp s.1 s.2, .bx [.d (iD nz), .fn true n_update_job_fits [.rp [iD nodes, .list false 1 ol, .list false 7 kl, .list false 1 cl, .list false 1 sl, .list false 1 rb, .list false 1 ra]], .fn false n_update_Order_2 [.ptr 0 0 0 0, .ptr 1 0 0 0], .fn false n_update_Order_3 [.ptr 0 0 0 0, .ptr 1 0 0 0], .d (.int .u32 shz), .d (.int .u32 mxz), .mp 2]])
    (fun s => ∃ l', setU l' = s.2 ∧ (∀ x ∈ l', ¬ CM J mx (cnt J.n x) x) ∧ ∀ j, j < J.n → ¬ Hit j) (Wk.ca) ⟨rfl, by omega, l, hes, hbad, fun j hj => by omega⟩ (fun k s h => h.2.1) ?_ ?_
   ·rintro k2 ⟨i, v2, es2⟩ Q' ⟨hi, hk2, l2, hes2, hbad2, hno⟩ norm jn ex rt
    simp only at hi hes2
    by_cases hlt : k2 < J.n
    rotate_left
    ·obtain rfl : k2 = J.n := by omega
     clear norm leaf
     conv => cbv
     repeat' first | exact gu | exact trivial | refine And.intro ?_ ?_ | (intro hc; exact absurd hc (by decide)) | (intro hc; exfalso; omega) | (intro hc; (first | rw [wrap_small (by omega) (by omega)] at hc | rw [nI_eq] at hc | skip); try (conv => cbv))
     exact jn _ _ (v2, es2) ⟨l2, hes2, hbad2, hno⟩ (Wk.ca)
    clear jn
    obtain ⟨kk, hkk⟩ : ∃ kk, kk = k2 := ⟨_, rfl⟩
    have hik : i = (kk : Int) := by omega
    have hfk := hft kk
    obtain ⟨F, hF⟩ : ∃ F, F = decide (J.Fit m1 kk) := ⟨_, rfl⟩
    rw [← hF, ← hik] at hfk
    have hHk := hHd kk
    have nx : ¬ Hit kk → ∀ j, j < k2 + 1 → ¬ Hit j := fun h j hj => by
     by_cases e : j = k2
     ·rw [e, ← hkk]; exact h
     ·exact hno j (by omega)
    have yes := hch kk (by omega)
    have hrk := hrec kk (by omega)
    obtain ⟨z1, hz1⟩ : ∃ z1 : Int, z1 = ((mx &&& 2 ^ kk : Nat) : Int) := ⟨_, rfl⟩
    obtain ⟨z2, hz2⟩ : ∃ z2 : Int, z2 = ((m1 &&& 2 ^ kk : Nat) : Int) := ⟨_, rfl⟩
    obtain ⟨nz2, hnz2⟩ : ∃ nz2 : Int, nz2 = ((m1 ||| 2 ^ kk : Nat) : Int) := ⟨_, rfl⟩
    have hb1 : z1 = 0 ↔ mx.testBit kk = false := by
     rw [hz1, ← tb_and]; constructor <;> intro h <;> omega
    have hb2 : z2 = 0 ↔ m1.testBit kk = false := by
     rw [hz2, ← tb_and]; constructor <;> intro h <;> omega
    have hnb : ((bitS m1 kk : Nat) : Int) = nz2 := by rw [hnz2]; rfl
    rw [hnb] at hrk
    have hFi : F = true ↔ J.Fit m1 kk := by rw [hF]; exact decide_eq_true_iff
    clear hF hrec hch hno hHd hnb
    cases hm1b : mx.testBit kk with
    | false =>
     have hz : z1 = 0 := hb1.2 hm1b
     have hnk : ¬ Hit kk := fun h => by have := (hHk.1 h).1; rw [hm1b] at this; cases this
     clear leaf hrk yes
     conv => cbv
     repeat' first | (refine ex _ _ _ ?_; (conv => cbv)) | (refine rt _ _ ?_; (conv => cbv)) | (refine ⟨.int .u32 z1, andU hmxz (shlU hik (by omega) (by assumption)) hmx (pow_lt32 (by omega)) hz1, ?_⟩; intro d' hd; subst hd; (conv => cbv)) | (refine ⟨.int .u32 z2, andU hm1z (shlU hik (by omega) (by assumption)) hm1 (pow_lt32 (by omega)) hz2, ?_⟩; intro d' hd; subst hd; (conv => cbv)) | (refine ⟨.int .u32 nz2, orU hm1z (shlU hik (by omega) (by assumption)) hm1 (pow_lt32 (by omega)) hnz2, ?_⟩; intro d' hd; subst hd; (conv => cbv)) | exact hfo | (refine callv_r hfk rfl rfl ?_; (conv => cbv)) | exact gu | exact trivial | refine And.intro ?_ ?_ | (intro hc; exact absurd hc (by decide)) | (intro hc; exfalso; omega) | (intro hc; (first | rw [wrap_small (by omega) (by omega)] at hc | rw [nI_eq] at hc | skip); try (conv => cbv))
     all_goals
      refine norm _ _ (_, v2, es2) ?_ (Wk.ca)
      exact ⟨by simp only; omega, by omega, l2, hes2, hbad2, nx hnk⟩
    | true =>
     have hz : z1 ≠ 0 := fun h => by rw [hb1.1 h] at hm1b; cases hm1b
     cases hm2b : m1.testBit kk with
     | true =>
      have hzz : z2 ≠ 0 := fun h => by rw [hb2.1 h] at hm2b; cases hm2b
      have hnk : ¬ Hit kk := fun h => by have := (hHk.1 h).2.1; rw [hm2b] at this; cases this
      clear leaf hrk yes
      conv => cbv
      repeat' first | (refine ex _ _ _ ?_; (conv => cbv)) | (refine rt _ _ ?_; (conv => cbv)) | (refine ⟨.int .u32 z1, andU hmxz (shlU hik (by omega) (by assumption)) hmx (pow_lt32 (by omega)) hz1, ?_⟩; intro d' hd; subst hd; (conv => cbv)) | (refine ⟨.int .u32 z2, andU hm1z (shlU hik (by omega) (by assumption)) hm1 (pow_lt32 (by omega)) hz2, ?_⟩; intro d' hd; subst hd; (conv => cbv)) | (refine ⟨.int .u32 nz2, orU hm1z (shlU hik (by omega) (by assumption)) hm1 (pow_lt32 (by omega)) hnz2, ?_⟩; intro d' hd; subst hd; (conv => cbv)) | exact hfo | (refine callv_r hfk rfl rfl ?_; (conv => cbv)) | exact gu | exact trivial | refine And.intro ?_ ?_ | (intro hc; exact absurd hc (by decide)) | (intro hc; exfalso; omega) | (intro hc; (first | rw [wrap_small (by omega) (by omega)] at hc | rw [nI_eq] at hc | skip); try (conv => cbv))
      all_goals
       refine norm _ _ (_, v2, es2) ?_ (Wk.ca)
       exact ⟨by simp only; omega, by omega, l2, hes2, hbad2, nx hnk⟩
     | false =>
      have hzz : z2 = 0 := hb2.2 hm2b
      cases F with
      | false =>
       have hnk : ¬ Hit kk := fun h => by have := hFi.2 (hHk.1 h).2.2.1; cases this
       clear leaf hrk yes
       conv => cbv
       repeat' first | (refine ex _ _ _ ?_; (conv => cbv)) | (refine rt _ _ ?_; (conv => cbv)) | (refine ⟨.int .u32 z1, andU hmxz (shlU hik (by omega) (by assumption)) hmx (pow_lt32 (by omega)) hz1, ?_⟩; intro d' hd; subst hd; (conv => cbv)) | (refine ⟨.int .u32 z2, andU hm1z (shlU hik (by omega) (by assumption)) hm1 (pow_lt32 (by omega)) hz2, ?_⟩; intro d' hd; subst hd; (conv => cbv)) | (refine ⟨.int .u32 nz2, orU hm1z (shlU hik (by omega) (by assumption)) hm1 (pow_lt32 (by omega)) hnz2, ?_⟩; intro d' hd; subst hd; (conv => cbv)) | exact hfo | (refine callv_r hfk rfl rfl ?_; (conv => cbv)) | exact gu | exact trivial | refine And.intro ?_ ?_ | (intro hc; exact absurd hc (by decide)) | (intro hc; exfalso; omega) | (intro hc; (first | rw [wrap_small (by omega) (by omega)] at hc | rw [nI_eq] at hc | skip); try (conv => cbv))
       all_goals
        refine norm _ _ (_, v2, es2) ?_ (Wk.ca)
        exact ⟨by simp only; omega, by omega, l2, hes2, hbad2, nx hnk⟩
      | true =>
       have hcl := hrk hm2b v2 es2 l2 hes2 hbad2
       conv => cbv
       repeat' first | (refine ex _ _ _ ?_; (conv => cbv)) | (refine rt _ _ ?_; (conv => cbv)) | (refine ⟨.int .u32 z1, andU hmxz (shlU hik (by omega) (by assumption)) hmx (pow_lt32 (by omega)) hz1, ?_⟩; intro d' hd; subst hd; (conv => cbv)) | (refine ⟨.int .u32 z2, andU hm1z (shlU hik (by omega) (by assumption)) hm1 (pow_lt32 (by omega)) hz2, ?_⟩; intro d' hd; subst hd; (conv => cbv)) | (refine ⟨.int .u32 nz2, orU hm1z (shlU hik (by omega) (by assumption)) hm1 (pow_lt32 (by omega)) hnz2, ?_⟩; intro d' hd; subst hd; (conv => cbv)) | exact hfo | (refine callv_r hfk rfl rfl ?_; (conv => cbv)) | (refine call_fr [0, 1, 2] hcl rfl rfl (by decide) (by repeat' first | exact trivial | refine And.intro ?_ ?_ | rfl) rfl rfl ?_; rintro r hc' ⟨v3, es3, l3, b3, rfl, hb3, rfl, hes3, hbad3⟩; (conv => cbv)) | exact gu | exact trivial | refine And.intro ?_ ?_ | (intro hc; exact absurd hc (by decide)) | (intro hc; exfalso; omega) | (intro hc; (first | rw [wrap_small (by omega) (by omega)] at hc | rw [nI_eq] at hc | skip); try (conv => cbv))
       cases b3 with
       | true =>
        repeat' first | (refine ex _ _ _ ?_; (conv => cbv)) | (refine rt _ _ ?_; (conv => cbv)) | exact gu | exact trivial | refine And.intro ?_ ?_ | (intro hc; exact absurd hc (by decide)) | (intro hc; exfalso; omega) | (intro hc; (first | rw [wrap_small (by omega) (by omega)] at hc | rw [nI_eq] at hc | skip); try (conv => cbv))
        exact leaf [_] v3 es3 l3 true ⟨fun _ => yes (hHk.2 ⟨hm1b, hm2b, hFi.1 rfl, hb3.1 rfl⟩), fun _ => rfl⟩ hes3 hbad3
       | false =>
        have hnk : ¬ Hit kk := fun h => by have := hb3.2 (hHk.1 h).2.2.2; cases this
        repeat' first | (refine ex _ _ _ ?_; (conv => cbv)) | (refine rt _ _ ?_; (conv => cbv)) | exact gu | exact trivial | refine And.intro ?_ ?_ | (intro hc; exact absurd hc (by decide)) | (intro hc; exfalso; omega) | (intro hc; (first | rw [wrap_small (by omega) (by omega)] at hc | rw [nI_eq] at hc | skip); try (conv => cbv))
        refine norm _ _ (_, v3, es3) ?_ (Wk.ca)
        exact ⟨by simp only; omega, by omega, l3, hes3, hbad3, nx hnk⟩
   ·rintro ⟨v2, es2⟩ ⟨l2, hes2, hbad2, hno⟩
    simp only at hes2
    have hcm := hcn hnd hno
    conv => cbv
    repeat' first | (refine vup_setU hm1z hes2 (fun hn0 es' he' => ?_) (fun hn1 => ?_) <;> (conv => cbv)) | exact gu | exact trivial | refine And.intro ?_ ?_ | (intro hc; exact absurd hc (by decide)) | (intro hc; exfalso; omega) | (intro hc; (first | rw [wrap_small (by omega) (by omega)] at hc | rw [nI_eq] at hc | skip); try (conv => cbv))
    ·refine leaf [_] _ es' (l2 ++ [m1]) false ⟨fun h => (by cases h), fun h => absurd h hcm⟩ he' fun x hx => ?_
     rcases List.mem_append.1 hx with hx | hx
     ·exact hbad2 x hx
     ·simp only [List.mem_singleton] at hx; subst hx; exact hcm
    ·exact leaf [_] _ es2 l2 false ⟨fun h => (by cases h), fun h => absurd h hcm⟩ hes2 hbad2
  refine (FnS.cut h0 ?_).mono ?_
  ·rintro r' h' ⟨h2, v', es', l', b, rfl, q1, rfl, q2, q3⟩
   exact ⟨rfl, rfl⟩
  ·rintro r' h1 ⟨h2, ⟨h3, v', es', l', b, rfl, q1, e, q2, q3⟩, hl⟩
   exact ⟨v', es', l', b, rfl, q1, (List.append_inj e hl).1, q2, q3⟩
end Go.Ab

/-
  Updates, part s: the first order, as the program finds it.
-/
namespace Go.Ab
open Go.Proofs
abbrev fnsA (t : Top) (ids : List Int) (J : Stps) : List CV := [.fn true n_update_job_fits [jobJ t ids J], .fn false n_update_Order_2 [.ptr 0 0 0 0, .ptr 1 0 0 0], .fn false n_update_Order_3 [.ptr 0 0 0 0, .ptr 1 0 0 0]]
abbrev frstH (t : Top) (ids : List Int) (J : Stps) (sh mx : Int) (v : Nat) (es : List (DV × DV)) (rl : Bool) (ve : Nat) (el : List (List D)) : Hp :=
 [.bx [.fn false n_update_Order_1 []], .bx [jobJ t ids J], .bx (.d (iD J.n) :: fnsA t ids J), .mp v es, .bx (.d (iD J.n) :: fnsA t ids J ++ [.d (.int .u32 sh), .d (.int .u32 mx), .mp 3]), .da rl ve 1 el]
def encN (i : Nat) : List D := [iD i]
theorem kinds_hit {J : Stps} {sh mx c m i : Nat} (hk : Kinds J sh mx) (hfu : J.Fit (fullM J.n) (-1)) (hc : cnt J.n m = c + 1) (hi : i < J.n) (hb : m.testBit i = false) (hf : J.Fit m i) :
  CM J mx (cnt J.n (bitS m i ||| sh)) (bitS m i ||| sh) ↔ Can J c (bitS m i) := by
 have h1 := cnt_set hb hi
 rw [complete_spec hk (fu := fullM J.n) (fun j hj => full_tb.2 hj) hfu (fit_after hb hf)]
 rw [show cnt J.n (bitS m i) = c by omega]
theorem pfirst_ok (P : Program) (hP : P = Try.prog) (t : Top) (ids : List Int) (J : Stps) (hn : ids.length = J.n) (hs : SmlJ J) (hw : J.w = 2 * t.links.length) (hC : ∀ e : Nat, J.C e = (lkAt t e).cap) (hf0 : J.Fit 0 (-1)) (hfu : J.Fit (fullM J.n) (-1)) :
  FnS P n_sequence_First [.agg (.d (iD J.n) :: fnsA t ids J)] (stepH t ids J) fun r h' => ∃ sh mx v es rl ve el, h' = frstH t ids J sh mx v es rl ve el ∧
   match dfs J J.n 0 [] with
   | none => r = .tup [.c (.d (.list true 1 [])), bA false]
   | some o => r = .tup [.c (.arr 5 ve 0 o.length), bA true] ∧ el = o.map encN := by
 have hfo : FnOk P n_update_job_fits := hP ▸ ⟨_, fn_update_job_fits, rfl, by decide⟩
 have hf2 : FnOk P n_update_Order_2 := hP ▸ ⟨_, fn_update_Order_2, rfl, by decide⟩
 have hf3 : FnOk P n_update_Order_3 := hP ▸ ⟨_, fn_update_Order_3, rfl, by decide⟩
 have hft := fun m hm (mi : Int) => pjfits_ok P hP t ids J hn hs hw hC m hm mi
 have hcm := fun sh mx h1 h2 h3 m h4 => pcomplete_ok P hP t ids J hn hs hw hC sh mx h1 h2 h3 _ m h4 (Nat.lt_succ_self _)
 have hshr := fun i hi => pshr_ok P hP t ids J i hi hs.n
 have hgro := fun i hi => pgro_ok P hP t ids J i hi hs.n
 have hn24 := hs.n
 refine heap_start (hP ▸ mixed) (hP ▸ fn_sequence_First) (hP ▸ c_sequence_First) (Nat.le_of_ble_eq_true rfl) fun Λ Λo K hK => ?_
 clear hP hs hw hC
 have none_ : dfs J J.n 0 [] = none → ∀ sh mx v es rl ve el, K (.tup [.c (.d (.list true 1 [])), bA false]) (frstH t ids J sh mx v es rl ve el) := fun h sh mx v es rl ve el => hK _ _ ⟨sh, mx, v, es, rl, ve, el, rfl, by rw [h]⟩
 have some_ : ∀ o, dfs J J.n 0 [] = some o → ∀ sh mx v es rl ve el no, no = o.length → el = o.map encN → K (.tup [.c (.arr 5 ve 0 no), bA true]) (frstH t ids J sh mx v es rl ve el) := fun o h sh mx v es rl ve el no h1 h2 => hK _ _ ⟨sh, mx, v, es, rl, ve, el, rfl, by rw [h]; simp only; rw [h1]; exact ⟨rfl, h2⟩⟩
 clear hK
 obtain ⟨D0, hD0⟩ : ∃ D0, D0 = dfs J J.n 0 [] := ⟨_, rfl⟩
 rw [← hD0] at none_ some_
 obtain ⟨nz, hnz⟩ : ∃ nz : Int, nz = (J.n : Int) := ⟨_, rfl⟩
 simp only [stepH, frstH, fnsA, srchA, srchH, jobJ, tabD, intsD, boolsD, linksD, List.cons_append, List.nil_append] at *
 rw [← hnz] at none_ some_ hcm ⊢
 generalize t.ov.map encB = ol at *
 generalize t.links.map encLk = kl at *
 generalize t.nodes = nodes at *
 generalize arrS J.w J.S = sl at *
 generalize (rowsF J.n J.w J.B).map (fun l => [D.list false 1 l]) = rb at *
 generalize (rowsF J.n J.w J.A).map (fun l => [D.list false 1 l]) = ra at *
 generalize ids.map encI = cl at *
 obtain ⟨jb, hjb⟩ : ∃ jb : List D, jb = [iD nodes, .list false 1 ol, .list false 7 kl, .list false 1 cl, .list false 1 sl, .list false 1 rb, .list false 1 ra] := ⟨_, rfl⟩
 simp only [← hjb] at hft hcm hshr hgro none_ some_ ⊢
 clear hjb
 conv => cbv
 repeat' first | exact gu | exact trivial | refine And.intro ?_ ?_ | (intro hc; exact absurd hc (by decide)) | (intro hc; exfalso; omega) | (intro hc; (first | rw [wrap_small (by omega) (by omega)] at hc | rw [nI_eq] at hc | skip); try (conv => cbv))
 refine loop_upx J.n (fun s : Int × Int × Int => [(1, .c (.ptr 2 0 0 0)), (4, .c (.ptr 4 0 0 0)), (14, iA nz), (15, iA s.1)]) (fun s => [.bx [.fn false n_update_Order_1 []], .bx [.rp jb], .bx [.d (iD nz), .fn true n_update_job_fits [.rp jb], .fn false n_update_Order_2 [.ptr 0 0 0 0, .ptr 1 0 0 0], .fn false n_update_Order_3 [.ptr 0 0 0 0, .ptr 1 0 0 0]], .mp 0 [], .bx [.d (iD nz), .fn true n_update_job_fits [.rp jb], .fn false n_update_Order_2 [.ptr 0 0 0 0, .ptr 1 0 0 0], .fn false n_update_Order_3 [.ptr 0 0 0 0, .ptr 1 0 0 0], .d (.int .u32 s.2.1), .d (.int .u32 s.2.2), .mp 3]])
  (fun k s => s.1 = k ∧ k ≤ J.n ∧ ∃ sh mx : Nat, s.2.1 = sh ∧ s.2.2 = mx ∧ sh < 4294967296 ∧ mx < 4294967296 ∧ (∀ j, sh.testBit j = true ↔ j < k ∧ J.shr j) ∧ ∀ j, mx.testBit j = true ↔ j < k ∧ ¬ J.shr j ∧ ¬ J.gro j) (0, 0, 0) 0
  (fun s : Int × Int => [(1, .c (.ptr 2 0 0 0)), (4, .c (.ptr 4 0 0 0))]) (fun s => [.bx [.fn false n_update_Order_1 []], .bx [.rp jb], .bx [.d (iD nz), .fn true n_update_job_fits [.rp jb], .fn false n_update_Order_2 [.ptr 0 0 0 0, .ptr 1 0 0 0], .fn false n_update_Order_3 [.ptr 0 0 0 0, .ptr 1 0 0 0]], .mp 0 [], .bx [.d (iD nz), .fn true n_update_job_fits [.rp jb], .fn false n_update_Order_2 [.ptr 0 0 0 0, .ptr 1 0 0 0], .fn false n_update_Order_3 [.ptr 0 0 0 0, .ptr 1 0 0 0], .d (.int .u32 s.1), .d (.int .u32 s.2), .mp 3]])
  (fun s => ∃ sh mx : Nat, s.1 = sh ∧ s.2 = mx ∧ sh < 4294967296 ∧ mx < 4294967296 ∧ Kinds J sh mx)
  (Wk.ca) ⟨rfl, by omega, 0, 0, rfl, rfl, by decide, by decide, fun j => by simp, fun j => by simp⟩ (fun k s h => h.2.1) ?_ ?_
 ·rintro k ⟨i, shz, mxz⟩ Q' ⟨hi, hk, sh, mx, hshz, hmxz, hsl, hml, hsb, hmb⟩ norm jn ex rt
  simp only at hi hshz hmxz
  by_cases hlt : k < J.n
  rotate_left
  ·obtain rfl : k = J.n := by omega
   clear norm none_ some_
   conv => cbv
   repeat' first | exact gu | exact trivial | refine And.intro ?_ ?_ | (intro hc; exact absurd hc (by decide)) | (intro hc; exfalso; omega) | (intro hc; (first | rw [wrap_small (by omega) (by omega)] at hc | rw [nI_eq] at hc | skip); try (conv => cbv))
   exact jn _ _ (shz, mxz) ⟨sh, mx, hshz, hmxz, hsl, hml, ⟨hsb, hmb⟩⟩ (Wk.ca)
  clear jn none_ some_
  obtain ⟨kk, hkk⟩ : ∃ kk, kk = k := ⟨_, rfl⟩
  have hik : i = (kk : Int) := by omega
  have hsk := hshr kk (by omega)
  have hgk := hgro kk (by omega)
  obtain ⟨S, hS⟩ : ∃ S, S = decide (J.shr kk) := ⟨_, rfl⟩
  obtain ⟨G, hG⟩ : ∃ G, G = decide (J.gro kk) := ⟨_, rfl⟩
  rw [← hS, ← hik] at hsk
  rw [← hG, ← hik] at hgk
  obtain ⟨n1, hn1⟩ : ∃ n1 : Int, n1 = ((sh ||| 2 ^ kk : Nat) : Int) := ⟨_, rfl⟩
  obtain ⟨n2, hn2⟩ : ∃ n2 : Int, n2 = ((mx ||| 2 ^ kk : Nat) : Int) := ⟨_, rfl⟩
  have b1 : n1 = (bitS sh kk : Nat) := hn1
  have b2 : n2 = (bitS mx kk : Nat) := hn2
  have l1 := bitS_lt (i := kk) hsl (by omega)
  have l2 := bitS_lt (i := kk) hml (by omega)
  clear hft hcm hshr hgro
  cases S with
  | true =>
   have hS2 : J.shr kk := of_decide_eq_true hS.symm
   conv => cbv
   repeat' first | (refine ex _ _ _ ?_; (conv => cbv)) | (refine rt _ _ ?_; (conv => cbv)) | exact hf2 | (refine callv_fr [0, 1] hsk rfl rfl (by decide) (by repeat' first | exact trivial | refine And.intro ?_ ?_ | rfl) rfl rfl ?_; rintro r hc' ⟨rfl, rfl⟩; (conv => cbv)) | (refine ⟨.int .u32 n1, orU hshz (shlU hik (by omega) (by assumption)) hsl (pow_lt32 (by omega)) hn1, ?_⟩; intro d' hd; subst hd; (conv => cbv)) | exact gu | exact trivial | refine And.intro ?_ ?_ | (intro hc; exact absurd hc (by decide)) | (intro hc; exfalso; omega) | (intro hc; (first | rw [wrap_small (by omega) (by omega)] at hc | rw [nI_eq] at hc | skip); try (conv => cbv))
   refine norm _ _ (_, n1, mxz) ?_ (Wk.ca)
   refine ⟨by simp only; omega, by omega, bitS sh kk, mx, b1, hmxz, l1, hml, fun j => ?_, fun j => ?_⟩
   ·rw [tb_set, Bool.or_eq_true, hsb, decide_eq_true_eq]
    constructor
    ·rintro (h | h)
     ·exact ⟨by omega, h.2⟩
     ·subst h; exact ⟨by omega, hS2⟩
    ·rintro ⟨h1, h2⟩
     by_cases e : j = k
     ·exact .inr (by omega)
     ·exact .inl ⟨by omega, h2⟩
   ·rw [hmb]
    constructor
    ·rintro ⟨h1, h2⟩; exact ⟨by omega, h2⟩
    ·rintro ⟨h1, h2⟩
     by_cases e : j = k
     ·have : j = kk := by omega
      subst this; exact absurd hS2 h2.1
     ·exact ⟨by omega, h2⟩
  | false =>
   have hS2 : ¬ J.shr kk := of_decide_eq_false hS.symm
   have hsb2 : ∀ j, sh.testBit j = true ↔ j < k + 1 ∧ J.shr j := fun j => by
    rw [hsb]
    constructor
    ·rintro ⟨h1, h2⟩; exact ⟨by omega, h2⟩
    ·rintro ⟨h1, h2⟩
     by_cases e : j = k
     ·have : j = kk := by omega
      subst this; exact absurd h2 hS2
     ·exact ⟨by omega, h2⟩
   cases G with
   | true =>
    have hG2 : J.gro kk := of_decide_eq_true hG.symm
    conv => cbv
    repeat' first | (refine ex _ _ _ ?_; (conv => cbv)) | (refine rt _ _ ?_; (conv => cbv)) | exact hf2 | exact hf3 | (refine callv_fr [0, 1] hsk rfl rfl (by decide) (by repeat' first | exact trivial | refine And.intro ?_ ?_ | rfl) rfl rfl ?_; rintro r hc' ⟨rfl, rfl⟩; (conv => cbv)) | (refine callv_fr [0, 1] hgk rfl rfl (by decide) (by repeat' first | exact trivial | refine And.intro ?_ ?_ | rfl) rfl rfl ?_; rintro r hc' ⟨rfl, rfl⟩; (conv => cbv)) | exact gu | exact trivial | refine And.intro ?_ ?_ | (intro hc; exact absurd hc (by decide)) | (intro hc; exfalso; omega) | (intro hc; (first | rw [wrap_small (by omega) (by omega)] at hc | rw [nI_eq] at hc | skip); try (conv => cbv))
    refine norm _ _ (_, shz, mxz) ?_ (Wk.ca)
    refine ⟨by simp only; omega, by omega, sh, mx, hshz, hmxz, hsl, hml, hsb2, fun j => ?_⟩
    rw [hmb]
    constructor
    ·rintro ⟨h1, h2⟩; exact ⟨by omega, h2⟩
    ·rintro ⟨h1, h2⟩
     by_cases e : j = k
     ·have : j = kk := by omega
      subst this; exact absurd hG2 h2.2
     ·exact ⟨by omega, h2⟩
   | false =>
    have hG2 : ¬ J.gro kk := of_decide_eq_false hG.symm
    conv => cbv
    repeat' first | (refine ex _ _ _ ?_; (conv => cbv)) | (refine rt _ _ ?_; (conv => cbv)) | exact hf2 | exact hf3 | (refine callv_fr [0, 1] hsk rfl rfl (by decide) (by repeat' first | exact trivial | refine And.intro ?_ ?_ | rfl) rfl rfl ?_; rintro r hc' ⟨rfl, rfl⟩; (conv => cbv)) | (refine callv_fr [0, 1] hgk rfl rfl (by decide) (by repeat' first | exact trivial | refine And.intro ?_ ?_ | rfl) rfl rfl ?_; rintro r hc' ⟨rfl, rfl⟩; (conv => cbv)) | (refine ⟨.int .u32 n2, orU hmxz (shlU hik (by omega) (by assumption)) hml (pow_lt32 (by omega)) hn2, ?_⟩; intro d' hd; subst hd; (conv => cbv)) | exact gu | exact trivial | refine And.intro ?_ ?_ | (intro hc; exact absurd hc (by decide)) | (intro hc; exfalso; omega) | (intro hc; (first | rw [wrap_small (by omega) (by omega)] at hc | rw [nI_eq] at hc | skip); try (conv => cbv))
    refine norm _ _ (_, shz, n2) ?_ (Wk.ca)
    refine ⟨by simp only; omega, by omega, sh, bitS mx kk, hshz, b2, hsl, l2, hsb2, fun j => ?_⟩
    rw [tb_set, Bool.or_eq_true, hmb, decide_eq_true_eq]
    constructor
    ·rintro (h | h)
     ·exact ⟨by omega, h.2⟩
     ·subst h; exact ⟨by omega, hS2, hG2⟩
    ·rintro ⟨h1, h2⟩
     by_cases e : j = k
     ·exact .inr (by omega)
     ·exact .inl ⟨by omega, h2⟩
 rintro ⟨shz, mxz⟩ ⟨sh, mx, hshz, hmxz, hsl, hml, hkd⟩
 simp only at hshz hmxz
 have hcm := hcm sh mx hsl hml fun i hi => ((hkd.mx i).1 hi).1
 rw [← hshz, ← hmxz] at hcm
 clear hshr hgro
 have hgd := fun c m i => @kinds_hit J sh mx c m i hkd hfu
 have hmz0 : (0 : Int) = ((0 : Nat) : Int) := rfl
 conv => cbv
 repeat' first | exact gu | exact trivial | refine And.intro ?_ ?_ | (intro hc; exact absurd hc (by decide)) | (intro hc; exfalso; omega) | (intro hc; (first | rw [wrap_small (by omega) (by omega)] at hc | rw [nI_eq] at hc | skip); try (conv => cbv))
 refine loop_upx J.n (fun s : Int × (Nat × List (DV × DV)) × Nat × Nat × Bool × List (List D) => [(1, .c (.ptr 2 0 0 0)), (4, .c (.ptr 4 0 0 0)), (6, .c (.arr 5 s.2.2.1 0 s.2.2.2.1)), (7, .c (.d (.int .u32 s.1)))]) (fun s => [.bx [.fn false n_update_Order_1 []], .bx [.rp jb], .bx [.d (iD nz), .fn true n_update_job_fits [.rp jb], .fn false n_update_Order_2 [.ptr 0 0 0 0, .ptr 1 0 0 0], .fn false n_update_Order_3 [.ptr 0 0 0 0, .ptr 1 0 0 0]], .mp s.2.1.1 s.2.1.2, .bx [.d (iD nz), .fn true n_update_job_fits [.rp jb], .fn false n_update_Order_2 [.ptr 0 0 0 0, .ptr 1 0 0 0], .fn false n_update_Order_3 [.ptr 0 0 0 0, .ptr 1 0 0 0], .d (.int .u32 shz), .d (.int .u32 mxz), .mp 3], .da s.2.2.2.2.1 s.2.2.1 1 s.2.2.2.2.2])
  (fun k s => k ≤ J.n ∧ ∃ (m : Nat) (acc l : List Nat), s.1 = m ∧ m < 4294967296 ∧ s.2.2.2.1 = acc.length ∧ acc.length = k ∧ s.2.2.2.2.2 = acc.map encN ∧ cnt J.n m + k = J.n ∧ J.Fit m (-1) ∧ D0 = dfs J (cnt J.n m) m acc ∧ setU l = s.2.1.2 ∧ ∀ x ∈ l, ¬ CM J mx (cnt J.n x) x) (0, (0, []), 0, 0, false, []) 3
  (fun s : (Nat × List (DV × DV)) × Nat × Nat × Bool × List (List D) => [(6, .c (.arr 5 s.2.1 0 s.2.2.1))]) (fun s => [.bx [.fn false n_update_Order_1 []], .bx [.rp jb], .bx [.d (iD nz), .fn true n_update_job_fits [.rp jb], .fn false n_update_Order_2 [.ptr 0 0 0 0, .ptr 1 0 0 0], .fn false n_update_Order_3 [.ptr 0 0 0 0, .ptr 1 0 0 0]], .mp s.1.1 s.1.2, .bx [.d (iD nz), .fn true n_update_job_fits [.rp jb], .fn false n_update_Order_2 [.ptr 0 0 0 0, .ptr 1 0 0 0], .fn false n_update_Order_3 [.ptr 0 0 0 0, .ptr 1 0 0 0], .d (.int .u32 shz), .d (.int .u32 mxz), .mp 3], .da s.2.2.2.1 s.2.1 1 s.2.2.2.2])
  (fun s => ∃ acc, D0 = some acc ∧ s.2.2.1 = acc.length ∧ s.2.2.2.2 = acc.map encN)
  (.trans (.nilS 6 1 rfl) (Wk.ca)) ⟨by omega, 0, [], [], rfl, by decide, rfl, rfl, rfl, cnt_none, hf0, by rw [hD0, cnt_none], rfl, by simp⟩ (fun k s h => h.1) ?_ ?_
 ·rintro k ⟨dz, ⟨v, es⟩, ve, no, r, el⟩ Q' ⟨hk, m, acc, l, hdz, hml2, hno, hacc, hel, hcnt, hfm, hD, hes, hbad⟩ norm jn ex rt
  simp only at hdz hno hel hes
  have hell : el.length = no := by rw [hel, List.length_map, hno]
  by_cases hlt : k < J.n
  rotate_left
  ·have hc0 : cnt J.n m = 0 := by omega
   rw [hc0] at hD
   have hkn : no = J.n := by omega
   clear norm none_ some_ hcm hft
   conv => cbv
   repeat' first | exact gu | exact trivial | refine And.intro ?_ ?_ | (intro hc; exact absurd hc (by decide)) | (intro hc; exfalso; omega) | (intro hc; (first | rw [wrap_small (by omega) (by omega)] at hc | rw [nI_eq] at hc | skip); try (conv => cbv))
   exact jn _ _ ((v, es), ve, no, r, el) ⟨acc, hD, hno, hel⟩ (Wk.ca)
  clear jn
  obtain ⟨c, hcq⟩ : ∃ c, cnt J.n m = c + 1 := ⟨cnt J.n m - 1, by omega⟩
  rw [hcq] at hD hcnt
  conv => cbv
  repeat' first | exact gu | exact trivial | refine And.intro ?_ ?_ | (intro hc; exact absurd hc (by decide)) | (intro hc; exfalso; omega) | (intro hc; (first | rw [wrap_small (by omega) (by omega)] at hc | rw [nI_eq] at hc | skip); try (conv => cbv))
  refine loop_upx J.n (fun s : Int × Nat × List (DV × DV) => [(1, .c (.ptr 2 0 0 0)), (4, .c (.ptr 4 0 0 0)), (6, .c (.arr 5 ve 0 no)), (7, .c (.d (.int .u32 dz))), (48, iA nz), (49, iA s.1)]) (fun s => [.bx [.fn false n_update_Order_1 []], .bx [.rp jb], .bx [.d (iD nz), .fn true n_update_job_fits [.rp jb], .fn false n_update_Order_2 [.ptr 0 0 0 0, .ptr 1 0 0 0], .fn false n_update_Order_3 [.ptr 0 0 0 0, .ptr 1 0 0 0]], .mp s.2.1 s.2.2, .bx [.d (iD nz), .fn true n_update_job_fits [.rp jb], .fn false n_update_Order_2 [.ptr 0 0 0 0, .ptr 1 0 0 0], .fn false n_update_Order_3 [.ptr 0 0 0 0, .ptr 1 0 0 0], .d (.int .u32 shz), .d (.int .u32 mxz), .mp 3], .da r ve 1 el])
   (fun k s => s.1 = k ∧ k ≤ J.n ∧ ∃ l, setU l = s.2.2 ∧ (∀ x ∈ l, ¬ CM J mx (cnt J.n x) x) ∧ ∀ j, j < k → ¬ Good J c m j) (0, v, es) 5
   (fun s : Nat × List (DV × DV) => []) (fun s => [.bx [.fn false n_update_Order_1 []], .bx [.rp jb], .bx [.d (iD nz), .fn true n_update_job_fits [.rp jb], .fn false n_update_Order_2 [.ptr 0 0 0 0, .ptr 1 0 0 0], .fn false n_update_Order_3 [.ptr 0 0 0 0, .ptr 1 0 0 0]], .mp s.1 s.2, .bx [.d (iD nz), .fn true n_update_job_fits [.rp jb], .fn false n_update_Order_2 [.ptr 0 0 0 0, .ptr 1 0 0 0], .fn false n_update_Order_3 [.ptr 0 0 0 0, .ptr 1 0 0 0], .d (.int .u32 shz), .d (.int .u32 mxz), .mp 3], .da r ve 1 el])
   (fun s => ∀ j, j < J.n → ¬ Good J c m j) (Wk.ca) ⟨rfl, by omega, l, hes, hbad, fun j hj => by omega⟩ (fun k s h => h.2.1) ?_ ?_
  ·rintro k2 ⟨i, v2, es2⟩ Q2 ⟨hi, hk2, l2, hes2, hbad2, hng⟩ norm2 jn2 ex2 rt2
   simp only at hi hes2
   by_cases hlt2 : k2 < J.n
   rotate_left
   ·obtain rfl : k2 = J.n := by omega
    clear norm norm2 none_ some_ hcm hft
    conv => cbv
    repeat' first | exact gu | exact trivial | refine And.intro ?_ ?_ | (intro hc; exact absurd hc (by decide)) | (intro hc; exfalso; omega) | (intro hc; (first | rw [wrap_small (by omega) (by omega)] at hc | rw [nI_eq] at hc | skip); try (conv => cbv))
    exact jn2 _ _ (v2, es2) hng (Wk.ca)
   clear jn2
   obtain ⟨kk, hkk⟩ : ∃ kk, kk = k2 := ⟨_, rfl⟩
   have hik : i = (kk : Int) := by omega
   have hfk := hft m hml2 (kk : Int)
   obtain ⟨F, hF⟩ : ∃ F, F = decide (J.Fit m kk) := ⟨_, rfl⟩
   rw [← hF, ← hik, ← hdz] at hfk
   have nx : ¬ Good J c m kk → ∀ j, j < k2 + 1 → ¬ Good J c m j := fun h j hj => by
    by_cases e : j = k2
    ·rw [e, ← hkk]; exact h
    ·exact hng j (by omega)
   obtain ⟨z2, hz2⟩ : ∃ z2 : Int, z2 = ((m &&& 2 ^ kk : Nat) : Int) := ⟨_, rfl⟩
   obtain ⟨nb, hnb⟩ : ∃ nb : Int, nb = ((m ||| 2 ^ kk : Nat) : Int) := ⟨_, rfl⟩
   have hb2 : z2 = 0 ↔ m.testBit kk = false := by
    rw [hz2, ← tb_and]; constructor <;> intro h <;> omega
   have hnb2 : nb = ((bitS m kk : Nat) : Int) := hnb
   have hbl := bitS_lt (i := kk) hml2 (by omega)
   have hck := hcm (bitS m kk) hbl v2 es2 l2 hes2 hbad2
   rw [← hnb2] at hck
   have hgk := hgd c m kk hcq (by omega)
   clear hft hcm hgd
   cases hm2b : m.testBit kk with
   | true =>
    have hz : z2 ≠ 0 := fun h => by rw [hb2.1 h] at hm2b; cases hm2b
    have hnk : ¬ Good J c m kk := fun h => by have := h.1; rw [hm2b] at this; cases this
    clear hck hgk norm none_ some_
    conv => cbv
    repeat' first | (refine ex _ _ _ ?_; (conv => cbv)) | (refine rt _ _ ?_; (conv => cbv)) | (refine ⟨.int .u32 z2, andU hdz (shlU hik (by omega) (by assumption)) hml2 (pow_lt32 (by omega)) hz2, ?_⟩; intro d' hd; subst hd; (conv => cbv)) | exact hfo | (refine callv_r hfk rfl rfl ?_; (conv => cbv)) | exact gu | exact trivial | refine And.intro ?_ ?_ | (intro hc; exact absurd hc (by decide)) | (intro hc; exfalso; omega) | (intro hc; (first | rw [wrap_small (by omega) (by omega)] at hc | rw [nI_eq] at hc | skip); try (conv => cbv))
    refine norm2 _ _ (_, v2, es2) ?_ (Wk.ca)
    exact ⟨by simp only; omega, by omega, l2, hes2, hbad2, nx hnk⟩
   | false =>
    have hz : z2 = 0 := hb2.2 hm2b
    cases F with
    | false =>
     have hnk : ¬ Good J c m kk := fun h => of_decide_eq_false hF.symm h.2.1
     clear hck hgk norm none_ some_
     conv => cbv
     repeat' first | (refine ex _ _ _ ?_; (conv => cbv)) | (refine rt _ _ ?_; (conv => cbv)) | (refine ⟨.int .u32 z2, andU hdz (shlU hik (by omega) (by assumption)) hml2 (pow_lt32 (by omega)) hz2, ?_⟩; intro d' hd; subst hd; (conv => cbv)) | exact hfo | (refine callv_r hfk rfl rfl ?_; (conv => cbv)) | exact gu | exact trivial | refine And.intro ?_ ?_ | (intro hc; exact absurd hc (by decide)) | (intro hc; exfalso; omega) | (intro hc; (first | rw [wrap_small (by omega) (by omega)] at hc | rw [nI_eq] at hc | skip); try (conv => cbv))
     refine norm2 _ _ (_, v2, es2) ?_ (Wk.ca)
     exact ⟨by simp only; omega, by omega, l2, hes2, hbad2, nx hnk⟩
    | true =>
     have hfit : J.Fit m kk := of_decide_eq_true hF.symm
     have hgk := hgk hm2b hfit
     conv => cbv
     repeat' first | (refine ex _ _ _ ?_; (conv => cbv)) | (refine rt _ _ ?_; (conv => cbv)) | (refine ⟨.int .u32 z2, andU hdz (shlU hik (by omega) (by assumption)) hml2 (pow_lt32 (by omega)) hz2, ?_⟩; intro d' hd; subst hd; (conv => cbv)) | (refine ⟨.int .u32 nb, orU hdz (shlU hik (by omega) (by assumption)) hml2 (pow_lt32 (by omega)) hnb, ?_⟩; intro d' hd; subst hd; (conv => cbv)) | exact hfo | (refine callv_r hfk rfl rfl ?_; (conv => cbv)) | (refine call_fr [0, 1, 3] hck rfl rfl (by decide) (by repeat' first | exact trivial | refine And.intro ?_ ?_ | rfl) rfl rfl ?_; rintro r' hc' ⟨v3, es3, l3, b3, rfl, hb3, rfl, hes3, hbad3⟩; (conv => cbv)) | exact gu | exact trivial | refine And.intro ?_ ?_ | (intro hc; exact absurd hc (by decide)) | (intro hc; exfalso; omega) | (intro hc; (first | rw [wrap_small (by omega) (by omega)] at hc | rw [nI_eq] at hc | skip); try (conv => cbv))
     cases b3 with
     | true =>
      have hgood : Good J c m kk := ⟨hm2b, hfit, hgk.1 (hb3.1 rfl)⟩
      have hst := dfs_step (acc := acc) (by omega) hgood (fun j hj => hng j (by omega))
      rw [← hD] at hst
      have hcs := cnt_set hm2b (show kk < J.n by omega)
      repeat' first | (refine ex _ _ _ ?_; (conv => cbv)) | (refine rt _ _ ?_; (conv => cbv)) | (refine ⟨.int .u32 nb, orU hdz (shlU hik (by omega) (by assumption)) hml2 (pow_lt32 (by omega)) hnb, ?_⟩; intro d' hd; subst hd; (conv => cbv)) | decide | (intro (_ : Unit); simp only [List.length_append, List.length_take, List.length_drop, List.length_set, List.length_replicate, List.length_cons, List.length_nil]; omega) | (intro (_ : Unit); refine ⟨rfl, ?_⟩; simp only [List.length_append, List.length_take, List.length_drop, List.length_set, List.length_replicate, List.length_cons, List.length_nil]; omega) | (refine ex2 _ _ _ ?_; (conv => cbv)) | exact gu | exact trivial | refine And.intro ?_ ?_ | (intro hc; exact absurd hc (by decide)) | (intro hc; exfalso; omega) | (intro hc; (first | rw [wrap_small (by omega) (by omega)] at hc | rw [nI_eq] at hc | skip); try (conv => cbv))
      rename_i n2 r2 y hn2 hr2
      have hy : y = el ++ [[iD i]] := by rw [hc, List.drop_zero, List.take_of_length_le (by omega)]; rfl
      have hn3 : n2 = no + 1 := by rw [hn2]; simp
      have hcc : cnt J.n (bitS m kk) = c := by omega
      refine norm _ _ (nb, (v3, es3), ve.succ, n2, r2, y) ?_ (Wk.ca)
      refine ⟨by omega, bitS m kk, acc ++ [kk], l3, hnb2, hbl, by simp only [List.length_append, List.length_cons, List.length_nil]; omega, by simp only [List.length_append, List.length_cons, List.length_nil]; omega, ?_, by omega, fit_after hm2b hfit, by rw [hcc]; exact hst, hes3, hbad3⟩
      simp only
      rw [hy, hel, List.map_append, hik]; rfl
     | false =>
      have hnk : ¬ Good J c m kk := fun h => by have := hb3.2 (hgk.2 h.2.2); cases this
      clear norm none_ some_
      repeat' first | (refine ex _ _ _ ?_; (conv => cbv)) | (refine rt _ _ ?_; (conv => cbv)) | exact gu | exact trivial | refine And.intro ?_ ?_ | (intro hc; exact absurd hc (by decide)) | (intro hc; exfalso; omega) | (intro hc; (first | rw [wrap_small (by omega) (by omega)] at hc | rw [nI_eq] at hc | skip); try (conv => cbv))
      refine norm2 _ _ (_, v3, es3) ?_ (Wk.ca)
      exact ⟨by simp only; omega, by omega, l3, hes3, hbad3, nx hnk⟩
  ·rintro ⟨v2, es2⟩ hng
   have hDn : D0 = none := by rw [hD]; exact dfs_none hng
   have kn := none_ hDn shz mxz v2 es2 r ve el
   clear norm none_ some_ hcm hft
   conv => cbv
   repeat' first | (refine rt _ _ ?_; (conv => cbv)) | exact gu | exact trivial | refine And.intro ?_ ?_ | (intro hc; exact absurd hc (by decide)) | (intro hc; exfalso; omega) | (intro hc; (first | rw [wrap_small (by omega) (by omega)] at hc | rw [nI_eq] at hc | skip); try (conv => cbv))
   exact kn
 ·rintro ⟨⟨v, es⟩, ve, no, r, el⟩ ⟨acc, hD, hno, hel⟩
  simp only at hno hel
  have ks := some_ acc hD shz mxz v es r ve el no hno hel
  clear none_ some_ hcm hft
  conv => cbv
  repeat' first | exact gu | exact trivial | refine And.intro ?_ ?_ | (intro hc; exact absurd hc (by decide)) | (intro hc; exfalso; omega) | (intro hc; (first | rw [wrap_small (by omega) (by omega)] at hc | rw [nI_eq] at hc | skip); try (conv => cbv))
  exact ks
end Go.Ab

/-
  Updates, part t: the program's order.
-/
namespace Go.Ab
open Go.Proofs
theorem fresh_lt {J : Stps} : ∀ {s : List Nat} {m : Nat}, Fresh J m s → ∀ i ∈ s, i < J.n := by
 intro s
 induction s with
 | nil => intro m _ i hi; cases hi
 | cons x r ih =>
  intro m h i hi
  rcases List.mem_cons.1 hi with e | hi
  ·rw [e]; exact h.1
  ·exact ih h.2.2 i hi
def ordR (ch : List Int) (o : List Nat) (k : Nat) : List (List D) := (o.take k).map (fun i => [iD (ch.getD i 0)]) ++ (o.drop k).map encN
theorem ordR_zero (ch : List Int) (o : List Nat) : ordR ch o 0 = o.map encN := by simp [ordR]
theorem ordR_all (ch : List Int) (o : List Nat) : ordR ch o o.length = (o.map fun i => ch.getD i 0).map encI := by simp [ordR, encI, Function.comp_def]
theorem ordR_len {ch : List Int} {o : List Nat} {k : Nat} : (ordR ch o k).length = o.length := by
 simp only [ordR, List.length_append, List.length_map, List.length_take, List.length_drop]; omega
theorem ordR_at {ch : List Int} {o : List Nat} {k i : Nat} (h : o[k]? = some i) : (ordR ch o k)[k]? = some (encN i) := by
 have hk := get_lt h
 rw [ordR, List.getElem?_append_right (by simp; omega)]
 simp only [List.length_map, List.length_take]
 rw [show k - min k o.length = 0 by omega, List.getElem?_map, List.getElem?_drop, Nat.add_zero, h]; rfl
theorem ordR_set {ch : List Int} {o : List Nat} {k i : Nat} (h : o[k]? = some i) : (ordR ch o k).set k [iD (ch.getD i 0)] = ordR ch o (k + 1) := by
 have hk := get_lt h
 have hd : o.drop k = i :: o.drop (k + 1) := by
  rw [List.drop_eq_getElem_cons hk]
  rw [List.getElem?_eq_getElem hk] at h
  rw [Option.some.inj h]
 rw [ordR, List.set_append_right _ _ (by simp; omega), ordR, take_succ_get h, hd]
 simp only [List.length_map, List.length_take, List.map_append, List.map_cons, List.map_nil, List.append_assoc]
 rw [show k - min k o.length = 0 by omega]
 rfl
def OrdR (es : List (List D)) (e : Int) (r : AV) (h' : Hp) : Prop := (∃ l v n rl, r = .tup [.c (.arr l v 0 n), iA e] ∧ h'[l]? = some (Blk.da rl v 1 es) ∧ n = es.length) ∨ (es = [] ∧ ∃ nl, r = .tup [.c (.d (.list nl 1 [])), iA e])
theorem dr_intU {G : Nat → Prop} {w : World} {v : Value} {n : Int} (h : DR G w v (iD n)) : v = .int .i64 n := by cases h; rfl
theorem FrS.of_tup {P : Program} {f : Nat} {vargs : List AV} {es : List (List D)} {e : Int} (hf : FnS P f vargs [] (OrdR es e)) (hsc : ∀ e ∈ es, ∀ d ∈ e, scalD d = true) : FrS P f vargs (.tup [.c (.d (.list false 1 es)), iA e]) where
 pure := rfl
 out w vs hv := by
  refine (hf.out (below w) [] w vs (HR_nil fun b hb => hb) hv).mono fun e w' ⟨v, r, G', ι', h', he, hR, hr, hvr, hx⟩ => ?_
  have hsame : ∀ b, b < w.heap.size → w'.heap[b]? = w.heap[b]? := fun b hb => hx.frame b hb fun ⟨l, blk, h1, _⟩ => by simp at h1
  have hnew : ∀ b, owned ι' h' b → w.heap.size ≤ b := fun b ho => by
   rcases hx.onew b ho with ⟨l, blk, h1, _⟩ | h1
   ·simp at h1
   ·exact h1
  refine ⟨v, he, hx.quiet, hx.size, hsame, ?_⟩
  rcases hR with ⟨l, ver, n, rl, rfl, h1, h2⟩ | ⟨rfl, nl, rfl⟩
  ·cases hvr with
   | tup cs _ hn hc =>
    refine .tup cs _ hn fun i u x hu hx => ?_
    match i, hx with
    | 0, hx => cases hx; exact .c _ _ (.d _ _ (new_arr hr (inv_c (hc 0 u _ hu rfl)) h1 h2 hnew hsc))
    | 1, hx => cases hx; have := dr_intU (inv_d (hc 1 u _ hu rfl)); rw [this]; exact .c _ _ (.d _ _ (.int _ _))
  ·cases hvr with
   | tup cs _ hn hc =>
    refine .tup cs _ hn fun i u x hu hx => ?_
    match i, hx with
    | 0, hx =>
     cases hx
     have hd := inv_d (hc 0 u _ hu rfl)
     generalize hx : D.list nl 1 [] = x at hd
     cases hd with
     | nils nl' sz' => cases hx; exact .c _ _ (.d _ _ (.nils _ _))
     | emp a sz' => cases hx; exact .c _ _ (.d _ _ (.emp _ _))
     | sl b' off cap' sz' l' g hG hcap hmax hsz hc hr' =>
      cases hx
      exact .c _ _ (.d _ _ (.sl b' off cap' 1 [] g (fun h => absurd rfl h) hcap hmax (by simp) (by simp) (by simp)))
     | _ => cases hx
    | 1, hx => cases hx; have := dr_intU (inv_d (hc 1 u _ hu rfl)); rw [this]; exact .c _ _ (.d _ _ (.int _ _))
theorem pOrder_raw (P : Program) (hP : P = Try.prog) (t : Top) (a b : List Tn) (ra : idOk a) (rb : idOk b) : FnS P n_update_Order [topA t, tnsA a, tnsA b] [] (OrdR ((orderRes t a b).1.map encI) (orderRes t a b).2) := by
 by_cases hpp : properS t a = true ∧ properS t b = true
 rotate_left
 ·have hpr := prepare_no P hP t a b hpp
  refine heap_start (hP ▸ mixed) (hP ▸ fn_update_Order) (hP ▸ c_update_Order) (Nat.le_of_ble_eq_true rfl) fun Λ Λo K hK => ?_
  clear hP
  rw [orderRes, if_pos hpp] at hK
  have kz := fun h' => hK (.tup [.c (.d (.list true 1 [])), iA 1]) h' (.inr ⟨rfl, true, rfl⟩)
  clear hK
  simp only [tnsA, tnsD, intsA, intsD, List.map_nil] at *
  generalize a.map encTn = al at *
  generalize b.map encTn = bl at *
  obtain ⟨nodes, ov, links⟩ := t
  simp only [topA, boolsD, linksD] at *
  generalize hol : ov.map encB = ol at *
  generalize hll : links.map encLk = ll at *
  have hlo : Λ ol = ov.length := by rw [Λo, ← hol]; simp
  have hls : Λ ll = links.length := by rw [Λo, ← hll]; simp
  conv => cbv
  repeat' first | (refine call_r hpr rfl rfl ?_; conv => cbv) | exact gu | exact trivial | refine And.intro ?_ ?_ | (intro hc; exact absurd hc (by decide)) | (intro hc; exfalso; omega) | (intro hc; (first | rw [wrap_small (by omega) (by omega)] at hc | rw [nI_eq] at hc | skip); try (conv => cbv))
  exact kz _
 have hres : orderRes t a b = (if ¬ ((stepsT t a b).Fit 0 (-1) ∧ (stepsT t a b).Fit (fullM (changedS a b).length) (-1)) then ([], 12)
   else match dfs (stepsT t a b) (changedS a b).length 0 [] with
   | none => ([], 8)
   | some o => (o.map fun i => (changedS a b).getD i 0, 0) : List Int × Int) := by
  rw [orderRes, if_neg (not_not_intro hpp)]; rfl
 obtain ⟨p1, p2⟩ := hpp
 have hpr := prepare_yes P hP t a b ra rb p1 p2
 have hsm := sml_steps p1 p2
 have hft := fun m hm mi => pjfits_ok P hP t (changedS a b) (stepsT t a b) rfl hsm rfl (fun _ => rfl) m hm mi
 have hfi := pfirst_ok P hP t (changedS a b) (stepsT t a b) rfl hsm rfl (fun _ => rfl)
 rw [jobC_J] at hpr
 have hc24 := ch_len24 p1 p2
 have hfo : FnOk P n_update_Order_1 := hP ▸ ⟨_, fn_update_Order_1, rfl, by decide⟩
 have hJn : (stepsT t a b).n = (changedS a b).length := rfl
 refine heap_start (hP ▸ mixed) (hP ▸ fn_update_Order) (hP ▸ c_update_Order) (Nat.le_of_ble_eq_true rfl) fun Λ Λo K hK => ?_
 clear hP p1 p2 hsm
 rw [hres] at hK
 clear hres
 generalize stepsT t a b = J at *
 generalize changedS a b = ch at *
 rw [← hJn] at hK hc24
 have h0 := hft 0 (by decide) (-1)
 have h1 := hft (fullM J.n) (full_lt (by omega)) (-1)
 have bad : ¬ (J.Fit 0 (-1) ∧ J.Fit (fullM J.n) (-1)) → ∀ h', K (.tup [.c (.d (.list true 1 [])), iA 12]) h' := fun h h' => by
  rw [if_pos h] at hK; exact hK _ _ (.inr ⟨rfl, true, rfl⟩)
 have gnone : J.Fit 0 (-1) → J.Fit (fullM J.n) (-1) → dfs J J.n 0 [] = none → ∀ h', K (.tup [.c (.d (.list true 1 [])), iA 8]) h' := fun h h2 h3 h' => by
  rw [if_neg (not_not_intro ⟨h, h2⟩), h3] at hK; exact hK _ _ (.inr ⟨rfl, true, rfl⟩)
 have gsome : J.Fit 0 (-1) → J.Fit (fullM J.n) (-1) → ∀ o, dfs J J.n 0 [] = some o → ∀ l v n rl h', h'[l]? = some (Blk.da rl v 1 ((o.map fun i => ch.getD i 0).map encI)) → n = o.length → K (.tup [.c (.arr l v 0 n), iA 0]) h' := fun h h2 o h3 l v n rl h' h4 h5 => by
  rw [if_neg (not_not_intro ⟨h, h2⟩), h3] at hK; exact hK _ _ (.inl ⟨l, v, n, rl, rfl, h4, by rw [h5]; simp⟩)
 clear hK hft
 obtain ⟨F0, hF0⟩ : ∃ F, F = decide (J.Fit 0 (-1)) := ⟨_, rfl⟩
 obtain ⟨F1, hF1⟩ : ∃ F, F = decide (J.Fit (fullM J.n) (-1)) := ⟨_, rfl⟩
 obtain ⟨bz, hbz⟩ : ∃ bz : Int, bz = ((2 ^ J.n : Nat) : Int) := ⟨_, rfl⟩
 obtain ⟨fz, hfz⟩ : ∃ fz : Int, fz = (fullM J.n : Nat) := ⟨_, rfl⟩
 rw [← hF0] at h0
 rw [← hF1, ← hfz] at h1
 have hf0 : F0 = true ↔ J.Fit 0 (-1) := by rw [hF0]; exact decide_eq_true_iff
 have hf1 : F1 = true ↔ J.Fit (fullM J.n) (-1) := by rw [hF1]; exact decide_eq_true_iff
 clear hF0 hF1
 have hsq := fun o (h : dfs J J.n 0 [] = some o) => dfs_seq J.n 0 [] o h
 generalize hdf : dfs J J.n 0 [] = df at *
 have hdo : ∀ o, df = some o → (∀ i ∈ o, i < J.n) ∧ o.length = J.n := fun o h => by
  obtain ⟨s, e1, e2, e3, _⟩ := hsq o h
  rw [List.nil_append] at e1
  subst e1
  exact ⟨fresh_lt e3, e2⟩
 clear hsq hdf
 have hcl : ∀ i, i < J.n → (ch.map encI)[i]? = some [iD (ch.getD i 0)] := fun i hi => by
  rw [List.getElem?_map, List.getD_eq_getElem?_getD, List.getElem?_eq_getElem (by omega)]; rfl
 have hcln : Λ (ch.map encI) = J.n := by rw [Λo, List.length_map, hJn]
 obtain ⟨nz, hnz⟩ : ∃ nz : Int, nz = (J.n : Int) := ⟨_, rfl⟩
 simp only [stepH, frstH, fnsA, jobJ, tabD, tnsA, tnsD, intsA, intsD, boolsD, linksD, List.map_nil, List.cons_append, List.nil_append] at *
 generalize a.map encTn = al at *
 generalize b.map encTn = bl at *
 have hres2 : ∀ o : List Nat, ordR ch o o.length = (o.map fun i => ch.getD i 0).map encI := ordR_all ch
 generalize ch.map encI = cl at *
 generalize arrS J.w J.S = sl at *
 generalize (rowsF J.n J.w J.B).map (fun l => [D.list false 1 l]) = rb at *
 generalize (rowsF J.n J.w J.A).map (fun l => [D.list false 1 l]) = ra at *
 obtain ⟨nodes, ov, links⟩ := t
 simp only [topA, boolsD, linksD] at *
 generalize hol : ov.map encB = ol at *
 generalize hll : links.map encLk = ll at *
 have hlo : Λ ol = ov.length := by rw [Λo, ← hol]; simp
 have hls : Λ ll = links.length := by rw [Λo, ← hll]; simp
 cases F0 with
 | false =>
  have k1 := bad fun h => by have := hf0.2 h.1; cases this
  clear hfi gnone gsome bad hdo hcl
  conv => cbv
  repeat' first | (refine call_r hpr rfl rfl ?_; conv => cbv) | (refine call_r h0 rfl rfl ?_; conv => cbv) | exact gu | exact trivial | refine And.intro ?_ ?_ | (intro hc; exact absurd hc (by decide)) | (intro hc; exfalso; omega) | (intro hc; (first | rw [wrap_small (by omega) (by omega)] at hc | rw [nI_eq] at hc | skip); try (conv => cbv))
  exact k1 _
 | true =>
  cases F1 with
  | false =>
   have k1 := bad fun h => by have := hf1.2 h.2; cases this
   clear hfi gnone gsome bad hdo hcl
   conv => cbv
   repeat' first | (refine call_r hpr rfl rfl ?_; conv => cbv) | (refine call_r h0 rfl rfl ?_; conv => cbv) | (intro (c : Int) hc; refine (fun (hz : bz = c) => ?_) (hbz.trans (shlU hcln (by omega) hc).symm); subst hz; (conv => cbv)) | (intro (c : Int) hc; refine (fun (hz : fz = c) => ?_) (hfz.trans (fullU (b := 0) (by omega) hbz hc).symm); subst hz; (conv => cbv)) | (refine call_r h1 rfl rfl ?_; conv => cbv) | exact gu | exact trivial | refine And.intro ?_ ?_ | (intro hc; exact absurd hc (by decide)) | (intro hc; exfalso; omega) | (intro hc; (first | rw [wrap_small (by omega) (by omega)] at hc | rw [nI_eq] at hc | skip); try (conv => cbv))
   exact k1 _
  | true =>
   have hfi := hfi (hf0.1 rfl) (hf1.1 rfl)
   rw [← hcln] at hfi
   have gnone := gnone (hf0.1 rfl) (hf1.1 rfl)
   have gsome := gsome (hf0.1 rfl) (hf1.1 rfl)
   clear bad
   cases df with
   | none =>
    simp only at hfi
    have gnone := gnone rfl
    clear hdo gsome
    conv => cbv
    repeat' first | (refine call_r hpr rfl rfl ?_; conv => cbv) | (refine call_r h0 rfl rfl ?_; conv => cbv) | (intro (c : Int) hc; refine (fun (hz : bz = c) => ?_) (hbz.trans (shlU hcln (by omega) hc).symm); subst hz; (conv => cbv)) | (intro (c : Int) hc; refine (fun (hz : fz = c) => ?_) (hfz.trans (fullU (b := 0) (by omega) hbz hc).symm); subst hz; (conv => cbv)) | (refine call_r h1 rfl rfl ?_; conv => cbv) | (refine call_fr [2, 1] hfi rfl rfl (by decide) (by repeat' first | exact trivial | refine And.intro ?_ ?_ | rfl) rfl rfl ?_; rintro r hc' ⟨sh, mx, v, es, rl, ve, el, rfl, rfl⟩; (conv => cbv)) | exact gu | exact trivial | refine And.intro ?_ ?_ | (intro hc; exact absurd hc (by decide)) | (intro hc; exfalso; omega) | (intro hc; (first | rw [wrap_small (by omega) (by omega)] at hc | rw [nI_eq] at hc | skip); try (conv => cbv))
    exact gnone _
   | some o =>
    simp only at hfi
    have good := gsome o rfl
    clear gnone gsome
    obtain ⟨ho1, ho2⟩ := hdo o rfl
    clear hdo
    obtain ⟨no, hno⟩ : ∃ no, no = o.length := ⟨_, rfl⟩
    rw [← hno] at hfi ho2
    simp only [← hres2] at good
    have hr0 := ordR_zero ch o
    rw [← hr0] at hfi
    have hrl := fun k => ordR_len (ch := ch) (o := o) (k := k)
    have hra2 := fun k i => ordR_at (ch := ch) (o := o) (k := k) (i := i)
    have hrs := fun k i => ordR_set (ch := ch) (o := o) (k := k) (i := i)
    rw [← hno] at hrl good
    generalize ordR ch o = oR at *
    obtain ⟨el0, hel0⟩ : ∃ el0, el0 = oR 0 := ⟨_, rfl⟩
    rw [← hel0] at hfi
    conv => cbv
    repeat' first | (refine call_r hpr rfl rfl ?_; conv => cbv) | (refine call_r h0 rfl rfl ?_; conv => cbv) | (intro (c : Int) hc; refine (fun (hz : bz = c) => ?_) (hbz.trans (shlU hcln (by omega) hc).symm); subst hz; (conv => cbv)) | (intro (c : Int) hc; refine (fun (hz : fz = c) => ?_) (hfz.trans (fullU (b := 0) (by omega) hbz hc).symm); subst hz; (conv => cbv)) | (refine call_r h1 rfl rfl ?_; conv => cbv) | (refine call_fr [2, 1] hfi rfl rfl (by decide) (by repeat' first | exact trivial | refine And.intro ?_ ?_ | rfl) rfl rfl ?_; rintro r hc' ⟨sh, mx, v, es, rl, ve, el, rfl, rfl, hel⟩; (conv => cbv)) | exact gu | exact trivial | refine And.intro ?_ ?_ | (intro hc; exact absurd hc (by decide)) | (intro hc; exfalso; omega) | (intro hc; (first | rw [wrap_small (by omega) (by omega)] at hc | rw [nI_eq] at hc | skip); try (conv => cbv))
    subst hel
    rename_i noz hnoz
    have hrl2 : el.length = no := by rw [hel0]; exact hrl 0
    refine loop_up no (fun s : Int × List (List D) => [(8, .c (.ptr 1 0 0 0)), (11, .c (.arr 6 ve 0 no)), (56, .c (.arr 6 ve 0 no)), (57, iA noz), (58, iA s.1)])
     (fun s => [.bx [.d (iD nodes), .d (.list false 1 ol), .d (.list false 7 ll)], .bx [.rp [iD nodes, .list false 1 ol, .list false 7 ll, .list false 1 cl, .list false 1 sl, .list false 1 rb, .list false 1 ra]], .bx [.fn false n_update_Order_1 []], .bx [.d (iD (Λ cl)), .fn true n_update_job_fits [.rp [iD nodes, .list false 1 ol, .list false 7 ll, .list false 1 cl, .list false 1 sl, .list false 1 rb, .list false 1 ra]], .fn false n_update_Order_2 [.ptr 2 0 0 0, .ptr 1 0 0 0], .fn false n_update_Order_3 [.ptr 2 0 0 0, .ptr 1 0 0 0]], .mp v es, .bx [.d (iD (Λ cl)), .fn true n_update_job_fits [.rp [iD nodes, .list false 1 ol, .list false 7 ll, .list false 1 cl, .list false 1 sl, .list false 1 rb, .list false 1 ra]], .fn false n_update_Order_2 [.ptr 2 0 0 0, .ptr 1 0 0 0], .fn false n_update_Order_3 [.ptr 2 0 0 0, .ptr 1 0 0 0], .d (.int .u32 sh), .d (.int .u32 mx), .mp 4], .da rl ve 1 s.2])
     (fun k s => s.1 = k ∧ k ≤ no ∧ s.2 = oR k) (0, el) (Wk.ca) ⟨rfl, by omega, hel0⟩ (fun k s h => h.2.1) ?_
    rintro k ⟨i, e1⟩ Q' ⟨hi, hk, he1⟩ norm ex rt
    simp only at hi he1
    have he1l : e1.length = no := by rw [he1]; exact hrl k
    by_cases hlt : k < no
    ·clear good
     obtain ⟨x, hx⟩ : ∃ x, o[k]? = some x := ⟨_, List.getElem?_eq_getElem (by omega)⟩
     have hxl := ho1 x (List.mem_of_getElem? hx)
     obtain ⟨kk, hkk⟩ : ∃ kk, kk = k := ⟨_, rfl⟩
     obtain ⟨xz, hxz⟩ : ∃ xz : Int, xz = (x : Int) := ⟨_, rfl⟩
     have hek : e1[kk]? = some [iD xz] := by rw [he1, hkk, hxz]; exact hra2 k x hx
     have hxt : xz.toNat = x := by omega
     have hcx : cl[xz.toNat]? = some [iD (ch.getD x 0)] := by rw [hxt]; exact hcl x hxl
     have hst := hrs k x hx
     rw [← he1, ← hkk] at hst
     generalize ch.getD x 0 = gx at *
     clear hcl hra2 hrs hrl
     conv => cbv
     repeat' first | (intro (k : Nat) hk; refine (fun (hz : kk = k) => ?_) ?_; rotate_left; omega; subst hz; (conv => cbv)) | (intro (e : List D) he; cases Option.some.inj (he.symm.trans hek); (conv => cbv)) | (intro (e : List D) he; cases Option.some.inj (he.symm.trans hcx); (conv => cbv)) | exact gu | exact trivial | refine And.intro ?_ ?_ | (intro hc; exact absurd hc (by decide)) | (intro hc; exfalso; omega) | (intro hc; (first | rw [wrap_small (by omega) (by omega)] at hc | rw [nI_eq] at hc | skip); try (conv => cbv))
     refine norm _ _ (_, _) ?_ (Wk.ca)
     refine ⟨by simp only; omega, by omega, ?_⟩
     simp only
     rw [← hkk, ← hst]; assumption
    ·obtain rfl : k = no := by omega
     have lf := good 6 ve k rl
     rw [← he1] at lf
     conv => cbv
     repeat' first | (refine ex _ _ _ ?_; (conv => cbv)) | (refine rt _ _ ?_; (conv => cbv)) | exact gu | exact trivial | refine And.intro ?_ ?_ | (intro hc; exact absurd hc (by decide)) | (intro hc; exfalso; omega) | (intro hc; (first | rw [wrap_small (by omega) (by omega)] at hc | rw [nI_eq] at hc | skip); try (conv => cbv))
     exact lf _ rfl rfl
theorem pOrder_fr (P : Program) (hP : P = Try.prog) (t : Top) (a b : List Tn) (ra : idOk a) (rb : idOk b) : FrS P n_update_Order [topA t, tnsA a, tnsA b] (.tup [intsA (orderRes t a b).1, iA (orderRes t a b).2]) :=
 FrS.of_tup (pOrder_raw P hP t a b ra rb) fun e he d hd => by
  obtain ⟨x, _, rfl⟩ := List.mem_map.1 he
  simp only [encI, List.mem_singleton] at hd
  subst hd; rfl
theorem pOrder_ok (P : Program) (hP : P = Try.prog) (t : Top) (a b : List Tn) (ra : idOk a) (rb : idOk b) : Ret P n_update_Order [topA t, tnsA a, tnsA b] (.tup [intsA (orderRes t a b).1, iA (orderRes t a b).2]) :=
 (FnS.fresh (h := []) (pOrder_fr P hP t a b ra rb) rfl).mono fun r' h' ⟨_, h⟩ => by rw [h]; exact ⟨rfl, rfl⟩
end Go.Ab

/-
  Updates, part u: small functions of the laws.
-/
namespace Go.Ab
open Go.Proofs
theorem program48_ok (P : Program) (hP : P = Try.prog) (l : List Tn) (h70 : ∀ x ∈ l, x.arcs.length ≤ 70) (hl : l.length ≤ 1000) : Ret P n_law48_program [tnsA l] (tnsA l) := by
 refine ret_start (hP ▸ mixed) (hP ▸ fn_law48_program) (hP ▸ c_law48_program) (Nat.le_of_ble_eq_true rfl) fun Λ Λo K hK => ?_
 clear hP
 have leaf : ∀ y, y = l.map encTn → K (.c (.d (.list false 3 y))) := fun y hy => by rw [hy]; exact hK
 clear hK
 simp only [tnsA, tnsD] at *
 generalize llh : l.map encTn = ll at *
 have lln : Λ ll = l.length := by rw [Λo, ← llh]; simp
 have lll : ll.length = l.length := by rw [← llh]; simp
 conv => cbv
 repeat' first | exact gu | exact trivial | refine And.intro ?_ ?_ | (intro hc; exact absurd hc (by decide)) | (intro hc; exfalso; omega) | (intro hc; (first | rw [wrap_small (by omega) (by omega)] at hc | rw [nI_eq] at hc | skip); try (conv => cbv))
 refine loop_up l.length (fun s : Int × Nat × Nat × Bool × List (List D) => [(0, .c (.d (.list false 3 ll))), (3, .c (.arr 0 s.2.1 0 s.2.2.1)), (4, iA s.1)]) (fun s => [.da s.2.2.2.1 s.2.1 3 s.2.2.2.2])
  (fun k s => s.1 = k ∧ k ≤ l.length ∧ s.2.2.1 = k ∧ s.2.2.2.2 = ll.take k) (0, 0, 0, false, []) (.trans (.nilS 3 3 rfl) (Wk.cw)) ⟨rfl, by omega, rfl, rfl⟩ (fun k s h => h.2.1) ?_
 rintro k ⟨i, ve, no, r, es⟩ Q' ⟨hi, hk, hno, hes⟩ norm ex rt
 simp only at hi hno hes
 have hesl : es.length = no := by rw [hes, List.length_take]; omega
 by_cases hlt : k < l.length
 ·clear leaf
  obtain ⟨x, hx⟩ : ∃ x, l[k]? = some x := ⟨_, List.getElem?_eq_getElem hlt⟩
  have hxa := elt_at llh hi hx
  have h70x := h70 x (List.mem_of_getElem? hx)
  obtain ⟨xi, xa, xr⟩ := x
  simp only [encTn, intsD] at hxa h70x
  obtain ⟨xl, xlh⟩ : ∃ xl, xl = xa.map encI := ⟨_, rfl⟩
  rw [← xlh] at hxa
  have xll : xl.length = xa.length := by rw [xlh]; simp
  have htk := take_succ_get (l := ll) (k := k) (x := [iD xi, .list false 1 xl, iD xr]) (by rw [← hxa, hi]; rfl)
  obtain ⟨e1, he1⟩ : ∃ e1, e1 = [] ++ xl := ⟨_, rfl⟩
  obtain ⟨n1, hn1⟩ : ∃ n1, n1 = 0 + xl.length := ⟨_, rfl⟩
  have hte : List.take n1 e1 = xl := by rw [he1, List.nil_append, List.take_of_length_le (by omega)]
  conv => cbv
  repeat' first | (refine ex _ _ _ ?_; (conv => cbv)) | (refine rt _ _ ?_; (conv => cbv)) | (intro e he; cases Option.some.inj (he.symm.trans hxa); (conv => cbv)) | (intro (m : Nat) (r : Bool) (y : List (List D)) hm hr hy; refine (fun (hz : n1 = m) (hz2 : e1 = y) => ?_) (by first | omega | (simp only [List.length_cons, List.length_nil] at hm; omega)) (by first | (rw [hy, List.drop_zero, List.take_of_length_le (by omega)]; exact he1) | (rw [hy]; exact he1)); subst hz; subst hz2; (conv => cbv)) | exact gu | exact trivial | refine And.intro ?_ ?_ | (intro hc; exact absurd hc (by decide)) | (intro hc; exfalso; omega) | (intro hc; (first | rw [wrap_small (by omega) (by omega)] at hc | rw [nI_eq] at hc | skip); try (conv => cbv))
  rename_i n2 r2 y hn2 hr2 hy i2
  have hy2 : y = es ++ [[iD xi, .list false 1 (List.take n1 e1), iD xr]] := by
   rw [hy, List.drop_zero, List.take_of_length_le (by omega)]
   clear hte hy he1 hn1 hn2
   cases n1 <;> cases e1 <;> rfl
  have hn3 : n2 = no + 1 := hn2
  refine norm _ _ (i2, ve.succ, n2, r2, y) ?_ (Wk.cw)
  refine ⟨by simp only; omega, by omega, by simp only; omega, ?_⟩
  simp only
  rw [hy2, hte, htk, hes]
 ·rw [List.take_of_length_le (by omega)] at hes
  conv => cbv
  repeat' first | (refine ex _ _ _ ?_; (conv => cbv)) | (refine rt _ _ ?_; (conv => cbv)) | exact gu | exact trivial | refine And.intro ?_ ?_ | (intro hc; exact absurd hc (by decide)) | (intro hc; exfalso; omega) | (intro hc; (first | rw [wrap_small (by omega) (by omega)] at hc | rw [nI_eq] at hc | skip); try (conv => cbv))
  exact leaf _ (by rw [hc, List.drop_zero, List.take_of_length_le (by omega), hes])
theorem small48_ok (P : Program) (hP : P = Try.prog) (t : Top) (a b : List Tn) (most : Int) : Ret P n_law48_small [topA t, .agg [.d (tnsD a), .d (tnsD b)], iA most] (bA (decide (t.links.length ≤ 10) && (decide (t.ov.length ≤ 20) && (fewS a most && fewS b most)))) := by
 have h1 := rfew_ok P hP a most
 have h2 := rfew_ok P hP b most
 refine ret_start (hP ▸ mixed) (hP ▸ fn_law48_small) (hP ▸ c_law48_small) (Nat.le_of_ble_eq_true rfl) fun Λ Λo K hK => ?_
 clear hP
 simp only [tnsA, tnsD] at *
 generalize fewS a most = F1 at *
 generalize fewS b most = F2 at *
 generalize a.map encTn = al at *
 generalize b.map encTn = bl at *
 have leaf : ∀ b, b = (decide (t.links.length ≤ 10) && (decide (t.ov.length ≤ 20) && (F1 && F2))) → K (bA b) := fun b h => by rw [h]; exact hK
 clear hK
 obtain ⟨nodes, ov, links⟩ := t
 simp only [topA, boolsD, linksD] at *
 generalize hol : ov.map encB = ol at *
 generalize hll : links.map encLk = ll at *
 have hlo : Λ ol = ov.length := by rw [Λo, ← hol]; simp
 have hls : Λ ll = links.length := by rw [Λo, ← hll]; simp
 conv => cbv
 repeat' first | refine call_b h1 rfl rfl ?_ ?_ | refine call_b h2 rfl rfl ?_ ?_ | exact gu | exact trivial | refine And.intro ?_ ?_ | (intro hc; exact absurd hc (by decide)) | (intro hc; exfalso; omega) | (intro hc; (first | rw [wrap_small (by omega) (by omega)] at hc | rw [nI_eq] at hc | skip); try (conv => cbv))
 all_goals refine leaf _ ?_
 all_goals first
  | (rw [decide_eq_false (by omega)]; rfl)
  | (rw [decide_eq_true (show links.length ≤ 10 by omega), decide_eq_false (by omega)]; rfl)
  | (rw [decide_eq_true (show links.length ≤ 10 by omega), decide_eq_true (show ov.length ≤ 20 by omega)]; simp_all)
end Go.Ab

/-
  Updates, part v: the examples of the document.
-/
namespace Go.Ab
open Go.Proofs
def parL : Lk := ⟨0, 1, 1, 1, 2, 1, 0⟩
def parT : Top := ⟨2, [], [parL, parL]⟩
theorem parallel_ok (P : Program) (hP : P = Try.prog) : Ret P n_law48_parallel [] (topA parT) := by
 refine ret_start (hP ▸ mixed) (hP ▸ fn_law48_parallel) (hP ▸ c_law48_parallel) (Nat.le_of_ble_eq_true rfl) fun Λ Λo K hK => ?_
 clear hP
 conv => cbv
 repeat' first | (intro (y : List (List D)) hy; subst hy; (conv => cbv)) | exact gu | exact trivial | refine And.intro ?_ ?_ | (intro hc; exact absurd hc (by decide)) | (intro hc; exfalso; omega) | (intro hc; (first | rw [wrap_small (by omega) (by omega)] at hc | rw [nI_eq] at hc | skip); try (conv => cbv))
 exact hK
def exA (r : Int) : List Tn := [⟨1, [0], r⟩, ⟨2, [2], r⟩]
def exB (r : Int) : List Tn := [⟨1, [2], r⟩, ⟨2, [0], r⟩]
theorem ex_one : orderRes parT (exA 1) (exB 1) = ([1, 2], 0) := by decide
theorem ex_two : orderRes parT (exA 2) (exB 2) = ([], 8) := by decide
theorem ex_prop : properS parT (exA 2) = true := by decide
theorem awake48_ok (P : Program) (hP : P = Try.prog) : Ret P n_law48_awake [] (bA true) := by
 have ida : ∀ r, idOk (exA r) := fun r x hx => by simp only [exA, List.mem_cons, List.not_mem_nil, or_false] at hx; rcases hx with rfl | rfl <;> simp only <;> omega
 have idb : ∀ r, idOk (exB r) := fun r x hx => by simp only [exB, List.mem_cons, List.not_mem_nil, or_false] at hx; rcases hx with rfl | rfl <;> simp only <;> omega
 have h1 := pOrder_fr P hP parT (exA 1) (exB 1) (ida 1) (idb 1)
 have h2 := pOrder_fr P hP parT (exA 2) (exB 2) (ida 2) (idb 2)
 rw [ex_one] at h1
 rw [ex_two] at h2
 have h3 := pproper_ok P hP parT (exA 2)
 rw [ex_prop] at h3
 have h4 := parallel_ok P hP
 have h5 := sameInts_ok P hP [1, 2] [1, 2]
 rw [decide_eq_true rfl] at h5
 refine ret_start (hP ▸ mixed) (hP ▸ fn_law48_awake) (hP ▸ c_law48_awake) (Nat.le_of_ble_eq_true rfl) fun Λ Λo K hK => ?_
 clear hP
 conv => cbv
 repeat' first | (refine call_r h4 rfl rfl ?_; (conv => cbv)) | (refine look_fr h1 rfl ?_; (conv => cbv)) | (refine look_fr h2 rfl ?_; (conv => cbv)) | (refine look_b h3 rfl ?_ ?_) | (refine call_b h5 rfl rfl ?_ ?_) | (refine look_b h5 rfl ?_ ?_) | (intro (k : Nat) hk; refine (fun (hz : 0 = k) => ?_) ?_; rotate_left; omega; subst hz; (conv => cbv)) | (intro (k : Nat) hk; refine (fun (hz : 1 = k) => ?_) ?_; rotate_left; omega; subst hz; (conv => cbv)) | (intro (e : List D) (he : some _ = some e); cases he; (conv => cbv)) | (intro (x : List (List D)) hx; subst hx; (conv => cbv)) | exact gu | exact trivial | refine And.intro ?_ ?_ | (intro hc; exact absurd hc (by decide)) | (intro hc; exfalso; omega) | (intro hc; (first | rw [wrap_small (by omega) (by omega)] at hc | rw [nI_eq] at hc | skip); try (conv => cbv))
 exact hK
end Go.Ab

/-
  Updates, part w: the laws that compare with the reference.
-/
namespace Go.Ab
open Go.Proofs
abbrev plansA (a b : List Tn) : AV := .agg [.d (tnsD a), .d (tnsD b)]
def smallS (t : Top) (a b : List Tn) (most : Int) : Bool := decide (t.links.length ≤ 10) && (decide (t.ov.length ≤ 20) && (fewS a most && fewS b most))
theorem fewS_spec {l : List Tn} {most : Int} (h : fewS l most = true) : (∀ x ∈ l, x.arcs.length ≤ 70) ∧ (l.length : Int) ≤ most := by
 simp only [fewS, Bool.and_eq_true, decide_eq_true_eq] at h; exact h
theorem small_spec {t : Top} {a b : List Tn} {most : Int} (h : smallS t a b most = true) : ((∀ x ∈ a, x.arcs.length ≤ 70) ∧ (a.length : Int) ≤ most) ∧ (∀ x ∈ b, x.arcs.length ≤ 70) ∧ (b.length : Int) ≤ most := by
 simp only [smallS, Bool.and_eq_true] at h
 exact ⟨fewS_spec h.2.2.1, fewS_spec h.2.2.2⟩
theorem prog_few {P : Program} (hP : P = Try.prog) {l : List Tn} {most : Int} (h : (∀ x ∈ l, x.arcs.length ≤ 70) ∧ (l.length : Int) ≤ most) (hm : most ≤ 1000) : Ret P n_law48_program [tnsA l] (tnsA l) :=
 program48_ok P hP l h.1 (by have := h.2; omega)
end Go.Ab

/-
  Updates, part y: orders that are found, and orders that are safe.
-/
namespace Go.Ab
open Go.Proofs
theorem mask_bit_lt {ch o : List Int} (ho : ∀ x ∈ o, x ∈ ch) {i : Nat} (h : (maskS ch o).testBit i = true) : i < ch.length := by
 rw [maskS, fold_tb] at h
 rcases h with h | ⟨x, hx, rfl⟩
 ·simp at h
 ·exact idx_lt (ho x hx)
theorem goodD_take {ch o : List Int} (hg : goodD ch o) (k : Nat) : goodD ch (o.take k) :=
 ⟨hg.1.sublist (List.take_sublist _ _), fun x hx => hg.2 x (List.mem_of_mem_take hx)⟩
theorem cnt_mask {ch o : List Int} (hc : ch.Nodup) (hg : goodD ch o) : ∀ k, k ≤ o.length → cnt ch.length (maskS ch (o.take k)) + k = ch.length := by
 intro k
 induction k with
 | zero => intro _; rw [List.take_zero, show maskS ch [] = 0 from rfl, cnt_none]; rfl
 | succ k ih =>
  intro hk
  have hx : o[k]? = some (o[k]) := List.getElem?_eq_getElem (by omega)
  have h1 := ih (by omega)
  have hxc := hg.2 _ (List.mem_of_getElem? hx)
  have hjx := idx_get hxc
  have hb : (maskS ch (o.take k)).testBit (ch.idxOf o[k]) = false := by
   rw [Bool.eq_false_iff]
   intro h
   exact nodup_atU hg.1 hx ((mask_tb hc (goodD_take hg k).2 hjx).1 h)
  have h2 := cnt_set hb (idx_lt hxc)
  rw [take_succ_get hx, mask_snoc]
  omega
theorem mask_all {ch o : List Int} (hc : ch.Nodup) (hg : goodD ch o) (hl : o.length = ch.length) : maskS ch o = fullM ch.length := by
 have h1 := cnt_mask hc hg o.length (Nat.le_refl _)
 rw [List.take_length] at h1
 have h2 := cnt_zero (n := ch.length) (m := maskS ch o) (by omega)
 apply Nat.eq_of_testBit_eq
 intro i
 rw [Bool.eq_iff_iff, full_tb]
 exact ⟨mask_bit_lt hg.2, fun h => h2 i h⟩
theorem all_in {ch o : List Int} (hc : ch.Nodup) (hg : goodD ch o) (hl : o.length = ch.length) : ∀ x ∈ ch, x ∈ o := fun x hx => by
 have h1 := mask_all hc hg hl
 have h2 := mask_tb hc hg.2 (idx_get hx)
 rw [h1, full_tb] at h2
 exact h2.1 (idx_lt hx)
theorem fresh_nodup {J : Stps} : ∀ {s : List Nat} {m : Nat}, Fresh J m s → s.Nodup ∧ ∀ i ∈ s, m.testBit i = false := by
 intro s
 induction s with
 | nil => intro m _; exact ⟨.nil, by simp⟩
 | cons x r ih =>
  intro m h
  obtain ⟨h1, h2⟩ := ih h.2.2
  refine ⟨List.nodup_cons.2 ⟨fun hx => ?_, h1⟩, fun i hi => ?_⟩
  ·have := h2 x hx; rw [tb_set_self] at this; cases this
  ·rcases List.mem_cons.1 hi with rfl | hi
   ·exact h.2.1
   ·have := h2 i hi
    rw [tb_set] at this
    simp only [Bool.or_eq_false_iff] at this
    exact this.1
structure Safe (t : Top) (a b : List Tn) (o : List Int) : Prop where
 pa : properS t a = true
 pb : properS t b = true
 good : goodD (changedS a b) o
 len : o.length = (changedS a b).length
 fit : (stepsT t a b).Fit 0 (-1)
 seq : Seq (stepsT t a b) 0 (o.map (changedS a b).idxOf)
theorem safe_check {t : Top} {a b : List Tn} {o : List Int} : checkRes t a b o = 0 ↔ Safe t a b o := by
 constructor
 ·intro h
  rw [checkRes] at h
  split at h
  ·cases h
  ·rename_i hp
   have hp := Classical.not_not.1 hp
   split at h
   ·cases h
   ·rename_i hg
    have hg := Classical.not_not.1 hg
    split at h
    ·rename_i hs; exact ⟨hp.1, hp.2, hg.1, hg.2, hs.1, hs.2⟩
    ·cases h
 ·intro h
  rw [checkRes, if_neg (not_not_intro ⟨h.pa, h.pb⟩), if_neg (not_not_intro ⟨h.good, h.len⟩), if_pos ⟨h.fit, h.seq⟩]
theorem order_nil {t : Top} {a b : List Tn} (h : (orderRes t a b).2 ≠ 0) : (orderRes t a b).1 = [] := by
 rw [orderRes] at h ⊢
 split
 ·rfl
 ·rename_i hp
  rw [if_neg hp] at h
  split
  ·rfl
  ·rename_i hf
   rw [if_neg hf] at h
   split
   ·rfl
   ·rename_i hd; rw [hd] at h; exact absurd rfl h
theorem getD_idx {ch : List Int} (hc : ch.Nodup) : ∀ {s : List Nat}, (∀ i ∈ s, i < ch.length) → (s.map fun i => ch.getD i 0).map ch.idxOf = s := by
 intro s
 induction s with
 | nil => intro _; rfl
 | cons i s ih =>
  intro h
  rw [List.map_cons, List.map_cons, ih fun j hj => h j (by simp [hj])]
  have hi := h i (by simp)
  have : ch[i]? = some (ch.getD i 0) := by rw [List.getD_eq_getElem?_getD, List.getElem?_eq_getElem hi]; rfl
  rw [nodup_idx hc this]
theorem order_safe {t : Top} {a b : List Tn} (h : (orderRes t a b).2 = 0) : Safe t a b (orderRes t a b).1 := by
 rw [orderRes] at h
 rw [orderRes]
 split
 ·rename_i hp; rw [if_pos hp] at h; cases h
 ·rename_i hp
  rw [if_neg hp] at h
  have hp2 := Classical.not_not.1 hp
  split
  ·rename_i hf; rw [if_pos hf] at h; cases h
  ·rename_i hf
   rw [if_neg hf] at h
   have hf2 := Classical.not_not.1 hf
   cases hd : dfs (stepsT t a b) (changedS a b).length 0 [] with
   | none => rw [hd] at h; cases h
   | some s =>
    simp only
    have hc := lt_nodup (changed_inc a b)
    obtain ⟨s2, e1, e2, e3, e4⟩ := dfs_seq _ _ _ _ hd
    rw [List.nil_append] at e1
    subst e1
    have hlt : ∀ i ∈ s, i < (changedS a b).length := fresh_lt e3
    have hid := getD_idx hc hlt
    have hnd := (fresh_nodup e3).1
    refine ⟨hp2.1, hp2.2, ⟨?_, ?_⟩, by rw [List.length_map]; exact e2, hf2.1, by rw [hid]; exact e4⟩
    ·rw [← hid] at hnd
     exact (List.pairwise_map.1 hnd).imp fun h e => h (by rw [e])
    ·intro x hx
     obtain ⟨i, hi, rfl⟩ := List.mem_map.1 hx
     rw [List.getD_eq_getElem?_getD, List.getElem?_eq_getElem (hlt i hi)]
     exact List.getElem_mem _
end Go.Ab

/-
  Updates, part gb: the law that an order that is found is safe.
-/
namespace Go.Ab
open Go.Proofs
theorem sinc_extU : ∀ {a b : List Int}, a.Pairwise (· < ·) → b.Pairwise (· < ·) → (∀ x, x ∈ a ↔ x ∈ b) → a = b
 | [], [], _, _, _ => rfl
 | [], y :: b, _, _, h => absurd ((h y).2 (by simp)) (by simp)
 | x :: a, [], _, _, h => absurd ((h x).1 (by simp)) (by simp)
 | x :: a, y :: b, ha, hb, h => by
  rw [List.pairwise_cons] at ha hb
  have e : x = y := by
   rcases List.mem_cons.1 ((h x).1 (by simp)) with e | e
   ·exact e
   ·rcases List.mem_cons.1 ((h y).2 (by simp)) with e2 | e2
    ·exact e2.symm
    ·have := ha.1 y e2; have := hb.1 x e; omega
  subst e
  rw [sinc_extU ha.2 hb.2 fun z => ⟨fun hz => ?_, fun hz => ?_⟩]
  ·rcases List.mem_cons.1 ((h z).1 (List.mem_cons_of_mem _ hz)) with e | e
   ·have := ha.1 z hz; omega
   ·exact e
  ·rcases List.mem_cons.1 ((h z).2 (List.mem_cons_of_mem _ hz)) with e | e
   ·have := hb.1 z hz; omega
   ·exact e
def insD : List Int → Int → List Int
 | [], n => [n]
 | x :: l, n => if x < n then x :: insD l n else n :: x :: l
def sortS (l : List Int) : List Int := l.foldl insD []
theorem insD_at {n : Int} : ∀ {l : List Int} {k : Nat}, (∀ y ∈ l.take k, y < n) → (∀ x, l[k]? = some x → n ≤ x) → k ≤ l.length → insD l n = l.take k ++ ([n] ++ l.drop k) := by
 intro l
 induction l with
 | nil => intro k _ h hk; simp only [List.length_nil, Nat.le_zero] at hk; subst hk; rfl
 | cons z l ih =>
  intro k hlt h hk
  cases k with
  | zero => have := h z rfl; simp only [List.take_zero, List.drop_zero, List.nil_append, List.cons_append]; rw [insD, if_neg (by omega)]
  | succ k =>
   simp only [List.getElem?_cons_succ, List.take_succ_cons, List.mem_cons, List.length_cons, List.drop_succ_cons, List.cons_append] at h hlt hk ⊢
   rw [insD, if_pos (hlt z (.inl rfl)), ih (fun y hy => hlt y (.inr hy)) h (by omega)]
   rfl
theorem insD_len (n : Int) : ∀ l : List Int, (insD l n).length = l.length + 1 := by
 intro l
 induction l with
 | nil => rfl
 | cons x l ih =>
  rw [insD]
  split
  ·simp only [List.length_cons]; omega
  ·simp
theorem insD_ins {n : Int} : ∀ {l : List Int}, n ∉ l → insD l n = insS l n := by
 intro l
 induction l with
 | nil => intro _; rfl
 | cons x l ih =>
  intro h
  simp only [List.mem_cons, not_or] at h
  rw [insD, insS]
  split
  ·rw [ih h.2]
  ·rw [if_neg (fun e => h.1 e.symm)]
theorem sort_fold : ∀ (l s : List Int), s.Pairwise (· < ·) → (s ++ l).Nodup → l.foldl insD s = l.foldl insS s := by
 intro l
 induction l with
 | nil => intro s _ _; rfl
 | cons x l ih =>
  intro s hs hn
  rw [List.foldl_cons, List.foldl_cons]
  rw [List.nodup_append] at hn
  have hx : x ∉ s := fun h => hn.2.2 x h x (by simp) rfl
  rw [insD_ins hx]
  refine ih _ (sinc_ins hs) ?_
  rw [List.nodup_append]
  refine ⟨lt_nodup (sinc_ins hs), (List.nodup_cons.1 hn.2.1).2, fun y hy z hz e => ?_⟩
  subst e
  rcases mem_ins.1 hy with rfl | hy
  ·exact (List.nodup_cons.1 hn.2.1).1 hz
  ·exact hn.2.2 y hy y (by simp [hz]) rfl
theorem sort_len (l : List Int) : (sortS l).length = l.length := by
 have : ∀ (l s : List Int), (l.foldl insD s).length = s.length + l.length := by
  intro l
  induction l with
  | nil => intro s; rfl
  | cons x l ih => intro s; rw [List.foldl_cons, ih, insD_len, List.length_cons]; omega
 rw [sortS, this]; simp
theorem sort_safe {t : Top} {a b : List Tn} {o : List Int} (h : Safe t a b o) : sortS o = changedS a b := by
 have hc := changed_inc a b
 rw [sortS, sort_fold o [] .nil (by simpa using h.good.1)]
 have h1 := fold_ins o [] .nil
 refine sinc_extU h1.1 hc fun x => ?_
 rw [h1.2]
 exact ⟨fun hx => h.good.2 x (hx.resolve_left (by simp)), fun hx => .inr (all_in (lt_nodup hc) h.good h.len x hx)⟩
theorem wk_z2 {m : Nat} {L : Lv} {h : Hp} (l v sz k : Nat) {r : Bool} {es : List (List D)} (hl : h[l]? = some (.da r v sz es)) (hk : k = es.length) (h1 : okL l v k L) (h2 : okH l v k h) : Wk m L h (zL l v sz es L) (zH l v sz es 0 h) :=
 .fz l v sz r es hl (fun i => .inr (by rw [← lkN_eq, ← lkN_eq, lkN_z]; exact zA_ok hk (okL_get h1 i))) (zH_ok hk h2)
theorem sorted48_ok (P : Program) (hP : P = Try.prog) (l : List Int) (hl : l.length ≤ 1000) : Ret P n_law48_sorted [intsA l] (intsA (sortS l)) := by
 refine ret_start (hP ▸ mixed) (hP ▸ fn_law48_sorted) (hP ▸ c_law48_sorted) (Nat.le_of_ble_eq_true rfl) fun Λ Λo K hK => ?_
 clear hP
 have leaf : ∀ y, y = (sortS l).map encI → K (.c (.d (.list false 1 y))) := fun y hy => by rw [hy]; exact hK
 clear hK
 obtain ⟨F, hF⟩ : ∃ F : Nat → List Int, F = fun k => sortS (l.take k) := ⟨_, rfl⟩
 have hF0 : F 0 = [] := by rw [hF]; rfl
 have hFs : ∀ k x, l[k]? = some x → F (k + 1) = insD (F k) x := fun k x h => by
  rw [hF]
  simp only
  rw [take_succ_get h, sortS, List.foldl_append]; rfl
 have hFl : ∀ k, k ≤ l.length → (F k).length = k := fun k hk => by rw [hF]; simp only; rw [sort_len, List.length_take]; omega
 have leaf : ∀ y, y = (F l.length).map encI → K (.c (.d (.list false 1 y))) := fun y hy => leaf y (by rw [hy, hF]; simp only; rw [List.take_length])
 clear hF
 simp only [intsA, intsD] at *
 generalize llh : List.map encI l = ll at *
 have lln : Λ ll = l.length := by rw [Λo, ← llh]; simp
 have lll : ll.length = l.length := by rw [← llh]; simp
 conv => cbv
 repeat' first | exact gu | exact trivial | refine And.intro ?_ ?_ | (intro hc; exact absurd hc (by decide)) | (intro hc; exfalso; omega) | (intro hc; (first | rw [wrap_small (by omega) (by omega)] at hc | rw [nI_eq] at hc | skip); try (conv => cbv))
 refine loop_up l.length (fun s : Int × List (List D) => [(0, .c (.d (.list false 1 ll))), (3, .c (.d (.list false 1 s.2))), (4, iA s.1)]) (fun _ => [])
  (fun k s => s.1 = k ∧ k ≤ l.length ∧ s.2 = (F k).map encI) (0, []) (.trans (.fg 3) (Wk.cw)) ⟨rfl, by omega, by rw [hF0]; rfl⟩ (fun k s h => h.2.1) ?_
 rintro k ⟨i, cl⟩ Q' ⟨hi, hk, hcl⟩ norm ex rt
 simp only at hi hcl
 by_cases hlt : k < l.length
 rotate_left
 ·obtain rfl : k = l.length := by omega
  have lf := leaf _ hcl
  conv => cbv
  repeat' first | (refine ex _ _ _ ?_; (conv => cbv)) | (refine rt _ _ ?_; (conv => cbv)) | exact gu | exact trivial | refine And.intro ?_ ?_ | (intro hc; exact absurd hc (by decide)) | (intro hc; exfalso; omega) | (intro hc; (first | rw [wrap_small (by omega) (by omega)] at hc | rw [nI_eq] at hc | skip); try (conv => cbv))
  exact lf
 clear leaf
 obtain ⟨x, hx⟩ : ∃ x, l[k]? = some x := ⟨_, List.getElem?_eq_getElem hlt⟩
 have hxa := elt_at llh hi hx
 have hnx := hFs k x hx
 have hcn := hFl k hk
 generalize F k = c at *
 have cln : Λ cl = c.length := by rw [Λo, hcl]; simp
 have cll : cl.length = c.length := by rw [hcl]; simp
 conv => cbv
 repeat' first | (refine ex _ _ _ ?_; (conv => cbv)) | (refine rt _ _ ?_; (conv => cbv)) | exact gu | exact trivial | refine And.intro ?_ ?_ | (intro hc; exact absurd hc (by decide)) | (intro hc; exfalso; omega) | (intro hc; (first | rw [wrap_small (by omega) (by omega)] at hc | rw [nI_eq] at hc | skip); try (conv => cbv))
 refine loop_upx k (fun j : Int => [(0, .c (.d (.list false 1 ll))), (3, .c (.d (.list false 1 cl))), (4, iA i), (5, iA j)]) (fun _ => []) (fun m j => j = m ∧ m ≤ k ∧ ∀ y ∈ c.take m, y < x) 0 2
  (fun (j : Int) => [(0, .c (.d (.list false 1 ll))), (3, .c (.d (.list false 1 cl))), (4, iA i), (5, iA j)]) (fun _ => []) (fun j => ∃ m : Nat, j = m ∧ m ≤ k ∧ (∀ y ∈ c.take m, y < x) ∧ ∀ y, c[m]? = some y → x ≤ y) (Wk.cw) ⟨rfl, by omega, by simp⟩ (fun k s h => h.2.1) ?_ ?_
 ·rintro m j Q2 ⟨hj, hm, hall⟩ norm2 jn2 ex2 rt2
  clear norm ex rt hnx
  by_cases hmk : m < k
  ·obtain ⟨y, hy⟩ : ∃ y, c[m]? = some y := ⟨_, List.getElem?_eq_getElem (by omega)⟩
   have hya := elt_at hcl.symm hj hy
   conv => cbv
   repeat' first | (intro (e : List D) he; cases Option.some.inj (he.symm.trans hya); (conv => cbv)) | (intro (e : List D) he; cases Option.some.inj (he.symm.trans hxa); (conv => cbv)) | exact gu | exact trivial | refine And.intro ?_ ?_ | (intro hc; exact absurd hc (by decide)) | (intro hc; exfalso; omega) | (intro hc; (first | rw [wrap_small (by omega) (by omega)] at hc | rw [nI_eq] at hc | skip); try (conv => cbv))
   ·refine norm2 _ _ _ ?_ (Wk.cw)
    refine ⟨by omega, by omega, fun z hz => ?_⟩
    rcases (mem_take_succ hy).1 hz with h | h
    ·exact hall z h
    ·omega
   ·refine jn2 _ _ _ ⟨m, hj, hm, hall, fun z hz => ?_⟩ (Wk.cw)
    rw [hy] at hz; cases hz; omega
  ·conv => cbv
   repeat' first | exact gu | exact trivial | refine And.intro ?_ ?_ | (intro hc; exact absurd hc (by decide)) | (intro hc; exfalso; omega) | (intro hc; (first | rw [wrap_small (by omega) (by omega)] at hc | rw [nI_eq] at hc | skip); try (conv => cbv))
   exact jn2 _ _ _ ⟨m, hj, hm, hall, fun z hz => by have := get_lt hz; omega⟩ (Wk.cw)
 ·rintro j ⟨m, hj, hm, hall, hge⟩
  have jm : j.toNat = m := by omega
  obtain ⟨tk, htk⟩ : ∃ tk, tk = cl.take j.toNat := ⟨_, rfl⟩
  obtain ⟨dk, hdk⟩ : ∃ dk, dk = cl.drop j.toNat := ⟨_, rfl⟩
  have tkl : tk.length = m := by rw [htk, List.length_take]; omega
  have dkl : dk.length = c.length - m := by rw [hdk, List.length_drop]; omega
  obtain ⟨e1, he1⟩ : ∃ e1, e1 = [] ++ tk := ⟨_, rfl⟩
  obtain ⟨n1, hn1⟩ : ∃ n1, n1 = 0 + tk.length := ⟨_, rfl⟩
  obtain ⟨e2, he2⟩ : ∃ e2, e2 = e1 ++ [[iD x]] := ⟨_, rfl⟩
  obtain ⟨n2, hn2⟩ : ∃ n2, n2 = n1 + 1 := ⟨_, rfl⟩
  obtain ⟨e3, he3⟩ : ∃ e3, e3 = e2 ++ dk := ⟨_, rfl⟩
  obtain ⟨n3, hn3⟩ : ∃ n3, n3 = n2 + dk.length := ⟨_, rfl⟩
  have el1 : e1.length = n1 := by rw [he1, List.length_append, List.length_nil]; omega
  have el2 : e2.length = n2 := by rw [he2, List.length_append]; simp; omega
  have el3 : e3.length = n3 := by rw [he3, List.length_append]; omega
  have hnew : e3 = (F (k + 1)).map encI := by
   rw [hnx, insD_at hall hge (by omega), List.map_append, List.map_append, List.map_take, List.map_drop, ← hcl, he3, he2, he1, htk, hdk, jm]
   simp [encI]
  conv => cbv
  repeat' first | (refine ex _ _ _ ?_; (conv => cbv)) | (refine rt _ _ ?_; (conv => cbv)) | (intro (e : List D) he; cases Option.some.inj (he.symm.trans hxa); (conv => cbv)) | (intro (z : List (List D)) hz; first | (refine (fun (hq : tk = z) => ?_) (htk.trans hz.symm); subst hq; (conv => cbv)) | (refine (fun (hq : dk = z) => ?_) (hdk.trans hz.symm); subst hq; (conv => cbv))) | (intro (m : Nat) (r : Bool) (y : List (List D)) hm hr hy; refine (fun (hz : n1 = m) (hz2 : e1 = y) => ?_) (by first | omega | (simp only [List.length_cons, List.length_nil] at hm; omega)) (by first | (rw [hy, List.drop_zero, List.take_of_length_le (by omega)]; exact he1) | (rw [hy]; exact he1)); subst hz; subst hz2; (conv => cbv)) | (intro (m : Nat) (r : Bool) (y : List (List D)) hm hr hy; refine (fun (hz : n2 = m) (hz2 : e2 = y) => ?_) (by first | omega | (simp only [List.length_cons, List.length_nil] at hm; omega)) (by first | (rw [hy, List.drop_zero, List.take_of_length_le (by omega)]; exact he2) | (rw [hy]; exact he2)); subst hz; subst hz2; (conv => cbv)) | (intro (m : Nat) (r : Bool) (y : List (List D)) hm hr hy; refine (fun (hz : n3 = m) (hz2 : e3 = y) => ?_) (by first | omega | (simp only [List.length_cons, List.length_nil] at hm; omega)) (by first | (rw [hy, List.drop_zero, List.take_of_length_le (by omega)]; exact he3) | (rw [hy]; exact he3)); subst hz; subst hz2; (conv => cbv)) | exact gu | exact trivial | refine And.intro ?_ ?_ | (intro hc; exact absurd hc (by decide)) | (intro hc; exfalso; omega) | (intro hc; (first | rw [wrap_small (by omega) (by omega)] at hc | rw [nI_eq] at hc | skip); try (conv => cbv))
  rename_i i2
  refine norm _ _ (i2, e3) ?_ (.trans (wk_z2 0 3 1 n3 rfl el3.symm (by repeat' first | exact trivial | refine And.intro ?_ ?_ | rfl) (by repeat' first | exact trivial | refine And.intro ?_ ?_ | rfl)) (Wk.ca))
  exact ⟨by simp only; omega, by omega, hnew⟩
theorem safe_mom {t : Top} {a b : List Tn} {o : List Int} (h : Safe t a b o) {i : Nat} {mv : Int} (hi : i ≤ o.length) (hm : mv = -1 ∨ o[i]? = some mv) :
  loadsRes t a b (o.take i) mv = (loadsS t a b (o.take i) mv, 0) ∧ fitsS t (loadsS t a b (o.take i) mv) = true := by
 have hg := goodD_take h.good i
 have hin : ∀ k, ∀ y ∈ o.take k, y ∈ changedS a b := fun k y hy => h.good.2 y (List.mem_of_mem_take hy)
 have hs := (seq_ref h.pa h.pb h.good).1 h.seq
 refine ⟨?_, ?_⟩
 ·rw [loadsRes, if_neg (not_not_intro ⟨h.pa, h.pb⟩), if_neg (not_not_intro hg), if_neg]
  rintro ⟨h1, h2⟩
  have hx := hm.resolve_left h1
  exact h2 ⟨h.good.2 _ (List.mem_of_getElem? hx), nodup_atU h.good.1 hx⟩
 ·by_cases h1 : mv = -1
  ·subst h1
   cases i with
   | zero =>
    have := (fit_iff h.pa h.pb (hin 0) (mv := -1) (mi := -1) (.inl ⟨rfl, rfl⟩)).2
    exact this h.fit
   | succ j => exact (hs j o[j] (List.getElem?_eq_getElem (by omega))).2
  ·exact (hs i mv (hm.resolve_left h1)).1
end Go.Ab

/-
  Updates, part gc: the law that an order that is found is safe (written by r48/safe.py).
-/
namespace Go.Ab
open Go.Proofs
theorem law48_safe (P : Program) (hP : P = Try.prog) (t : Top) (a b : List Tn) (ra : idOk a) (rb : idOk b) : Ret P n_law48_UpdateSafe [topA t, plansA a b] (bA true) := by
 have h0 := awake48_ok P hP
 have h1 : Ret P n_law48_small [topA t, plansA a b, iA 8] (bA (smallS t a b 8)) := small48_ok P hP t a b 8
 cases hs : smallS t a b 8 with
 | false =>
  rw [hs] at h1
  refine ret_start (hP ▸ mixed) (hP ▸ fn_law48_UpdateSafe) (hP ▸ c_law48_UpdateSafe) (Nat.le_of_ble_eq_true rfl) fun Λ Λo K hK => ?_
  clear hP
  simp only [plansA, tnsA, tnsD, intsA, intsD] at *
  generalize a.map encTn = al at *
  generalize b.map encTn = bl at *
  obtain ⟨nodes, ov, links⟩ := t
  simp only [topA, boolsD, linksD] at *
  generalize hol : ov.map encB = ol at *
  generalize hll : links.map encLk = ll at *
  have hlo : Λ ol = ov.length := by rw [Λo, ← hol]; simp
  have hls : Λ ll = links.length := by rw [Λo, ← hll]; simp
  conv => cbv
  repeat' first | refine call_b h0 rfl rfl ?_ ?_ | refine call_b h1 rfl rfl ?_ ?_ | exact gu | exact trivial | refine And.intro ?_ ?_ | (intro hc; exact absurd hc (by decide)) | (intro hc; exfalso; omega) | (intro hc; (first | rw [wrap_small (by omega) (by omega)] at hc | rw [nI_eq] at hc | skip); try (conv => cbv))
  exact hK
 | true =>
  have hsp := small_spec hs
  have h2 := prog_few hP hsp.1 (by decide)
  have h3 := prog_few hP hsp.2 (by decide)
  have h4 := pOrder_ok P hP t a b ra rb
  rw [hs] at h1
  by_cases he : (orderRes t a b).2 = 0
  rotate_left
  ·have hn := order_nil he
   refine ret_start (hP ▸ mixed) (hP ▸ fn_law48_UpdateSafe) (hP ▸ c_law48_UpdateSafe) (Nat.le_of_ble_eq_true rfl) fun Λ Λo K hK => ?_
   clear hP
   generalize orderRes t a b = c at *
   obtain ⟨c1, c2⟩ := c
   simp only at he hn
   subst hn
   have hl0 : Λ ([] : List (List D)) = 0 := by rw [Λo]; rfl
   simp only [plansA, tnsA, tnsD, intsA, intsD, List.map_nil] at *
   generalize a.map encTn = al at *
   generalize b.map encTn = bl at *
   obtain ⟨nodes, ov, links⟩ := t
   simp only [topA, boolsD, linksD] at *
   generalize hol : ov.map encB = ol at *
   generalize hll : links.map encLk = ll at *
   have hlo : Λ ol = ov.length := by rw [Λo, ← hol]; simp
   have hls : Λ ll = links.length := by rw [Λo, ← hll]; simp
   conv => cbv
   repeat' first | refine call_b h0 rfl rfl ?_ ?_ | refine call_b h1 rfl rfl ?_ ?_ | (refine call_r h2 rfl rfl ?_; conv => cbv) | (refine call_r h3 rfl rfl ?_; conv => cbv) | (refine call_r h4 rfl rfl ?_; conv => cbv) | exact gu | exact trivial | refine And.intro ?_ ?_ | (intro hc; exact absurd hc (by decide)) | (intro hc; exfalso; omega) | (intro hc; (first | rw [wrap_small (by omega) (by omega)] at hc | rw [nI_eq] at hc | skip); try (conv => cbv))
   all_goals exact hK
  have hsf := order_safe he
  have hc16 : (changedS a b).length ≤ 24 := by
   rw [changedS]
   split
   ·rw [chS]
    have := fold_len (p := fun i => eqS a b i) ((a ++ b).map (·.id)) []
    simp only [List.length_map, List.length_append, List.length_nil] at this
    have := hsp.1.2; have := hsp.2.2; omega
   ·simp
  have hol : (orderRes t a b).1.length ≤ 24 := by rw [hsf.len]; exact hc16
  have h5 := pCheck_ok P hP t a b ra rb (orderRes t a b).1
  rw [safe_check.2 hsf] at h5
  have h6 := rchanged_ok P hP a b
  have h7 := sorted48_ok P hP (orderRes t a b).1 (by omega)
  rw [sort_safe hsf] at h7
  have h8 := sameInts_ok P hP (changedS a b) (changedS a b)
  rw [decide_eq_true rfl] at h8
  obtain ⟨G, hG⟩ : ∃ G : Nat → Int → List Int, G = fun i mv => loadsS t a b ((orderRes t a b).1.take i) mv := ⟨_, rfl⟩
  have hlen : ∀ i mv, (G i mv).length = 2 * t.links.length := fun i mv => by rw [hG]; exact loadsS_len ..
  have hmom : ∀ (i : Nat) (mv : Int), i ≤ (orderRes t a b).1.length → (mv = -1 ∨ (orderRes t a b).1[i]? = some mv) → Ret P n_ref48_Loads [topA t, tnsA a, tnsA b, intsA ((orderRes t a b).1.take i), iA mv] (.tup [intsA (G i mv), iA 0]) := fun i mv h1 h2 => by
   have := rLoads_ok P hP t a b ((orderRes t a b).1.take i) mv
   rw [(safe_mom hsf h1 h2).1] at this
   rw [hG]; exact this
  have hfit : ∀ (i : Nat) (mv : Int), i ≤ (orderRes t a b).1.length → (mv = -1 ∨ (orderRes t a b).1[i]? = some mv) → ∀ e : Nat, e < (G i mv).length → ((G i mv)[e]?).getD 0 ≤ (lkAt t e).cap := fun i mv h1 h2 => by
   have := (safe_mom hsf h1 h2).2
   rw [hG]
   exact of_decide_eq_true this
  have hcap : ∀ e : Nat, e < 2 * t.links.length → ∃ x, t.links[e / 2]? = some x ∧ lkAt t e = x := fun e he => by
   have h1 : t.links[e / 2]? = some (t.links[e / 2]) := List.getElem?_eq_getElem (by omega)
   exact ⟨_, h1, by rw [lkAt, show ((e : Int) / 2).toNat = e / 2 by omega, h1]; rfl⟩
  have hll10 : t.links.length ≤ 10 := by
   simp only [smallS, Bool.and_eq_true, decide_eq_true_eq] at hs; exact hs.1
  refine ret_start (hP ▸ mixed) (hP ▸ fn_law48_UpdateSafe) (hP ▸ c_law48_UpdateSafe) (Nat.le_of_ble_eq_true rfl) fun Λ Λo K hK => ?_
  clear hP hsf hs hsp hG
  generalize orderRes t a b = c at *
  obtain ⟨o, c2⟩ := c
  simp only at he hol hlen hmom hfit h4 h5 h7
  subst he
  generalize hlk : lkAt t = lk at *
  generalize changedS a b = ch at *
  have hmom : ∀ (i : Nat) (mv : Int), i ≤ o.length → (mv = -1 ∨ o[i]? = some mv) → Ret P n_ref48_Loads [topA t, tnsA a, tnsA b, .c (.d (.list false 1 ((o.map encI).take i))), iA mv] (.tup [.c (.d (.list false 1 ((G i mv).map encI))), iA 0]) := fun i mv h1 h2 => by
   have := hmom i mv h1 h2
   rw [intsA, intsD, List.map_take] at this
   exact this
  simp only [plansA, tnsA, tnsD, intsA, intsD] at *
  generalize a.map encTn = al at *
  generalize b.map encTn = bl at *
  generalize ch.map encI = cl at *
  generalize olh : o.map encI = ol' at *
  have oln : Λ ol' = o.length := by rw [Λo, ← olh]; simp
  have oll : ol'.length = o.length := by rw [← olh]; simp
  obtain ⟨nodes, ov, links⟩ := t
  simp only [topA, boolsD, linksD] at *
  generalize hol : ov.map encB = ol at *
  generalize hll : links.map encLk = ll at *
  have hlo : Λ ol = ov.length := by rw [Λo, ← hol]; simp
  have hls : Λ ll = links.length := by rw [Λo, ← hll]; simp
  conv => cbv
  repeat' first | refine call_b h0 rfl rfl ?_ ?_ | refine call_b h1 rfl rfl ?_ ?_ | (refine call_r h2 rfl rfl ?_; conv => cbv) | (refine call_r h3 rfl rfl ?_; conv => cbv) | (refine call_r h4 rfl rfl ?_; conv => cbv) | (refine call_r h5 rfl rfl ?_; conv => cbv) | (refine call_r h6 rfl rfl ?_; conv => cbv) | (refine call_r h7 rfl rfl ?_; conv => cbv) | refine call_b h8 rfl rfl ?_ ?_ | exact gu | exact trivial | refine And.intro ?_ ?_ | (intro hc; exact absurd hc (by decide)) | (intro hc; exfalso; omega) | (intro hc; (first | rw [wrap_small (by omega) (by omega)] at hc | rw [nI_eq] at hc | skip); try (conv => cbv))
  clear h0 h1 h2 h3 h4 h5 h6 h7 h8
  refine loop_up (o.length + 1) (fun i : Int => [(2, .c (.ptr 0 0 0 0)), (3, .c (.ptr 1 0 0 0)), (5, .c (.d (.list false 1 ol'))), (7, iA i)])
   (fun _ => [.bx [.d (iD nodes), .d (.list false 1 ol), .d (.list false 7 ll)], .bx [.d (.list false 3 al), .d (.list false 3 bl)]])
   (fun k i => i = k ∧ k ≤ o.length + 1) 0 (Wk.ca) ⟨rfl, by omega⟩ (fun k s h => h.2) ?_
  rintro k i Q' ⟨hi, hk⟩ norm ex rt
  by_cases hlt : k ≤ o.length
  rotate_left
  ·clear hmom hfit norm
   conv => cbv
   repeat' first | (refine ex _ _ _ ?_; (conv => cbv)) | (refine rt _ _ ?_; (conv => cbv)) | exact gu | exact trivial | refine And.intro ?_ ?_ | (intro hc; exact absurd hc (by decide)) | (intro hc; exfalso; omega) | (intro hc; (first | rw [wrap_small (by omega) (by omega)] at hc | rw [nI_eq] at hc | skip); try (conv => cbv))
   exact hK
  clear hK
  have hk := hlt
  obtain ⟨tk, htk⟩ : ∃ tk, tk = List.take k ol' := ⟨_, rfl⟩
  have htk2 : tk = List.take i.toNat ol' := by rw [htk, show i.toNat = k by omega]
  by_cases hko : k < o.length
  ·obtain ⟨y, hy⟩ : ∃ y, o[k]? = some y := ⟨_, List.getElem?_eq_getElem hko⟩
   have hya := elt_at olh hi hy
   conv => cbv
   repeat' first | (refine ex _ _ _ ?_; (conv => cbv)) | (refine rt _ _ ?_; (conv => cbv)) | (intro (e : List D) he; cases Option.some.inj (he.symm.trans hya); (conv => cbv)) | exact gu | exact trivial | refine And.intro ?_ ?_ | (intro hc; exact absurd hc (by decide)) | (intro hc; exfalso; omega) | (intro hc; (first | rw [wrap_small (by omega) (by omega)] at hc | rw [nI_eq] at hc | skip); try (conv => cbv))
   rename_i n2 r2 e2 hn2 hr2
   have hn3 : n2 = 2 := hn2
   have he3 : e2 = [[iD (-1)], [iD y]] := hc
   refine loop_up 2 (fun s : Int × Nat × Nat × Bool × List (List D) => [(2, .c (.ptr 0 0 0 0)), (3, .c (.ptr 1 0 0 0)), (5, .c (.d (.list false 1 ol'))), (7, iA i), (8, .c (.arr 2 s.2.1 0 s.2.2.1)), (9, iA s.1)])
    (fun s => [.bx [.d (iD nodes), .d (.list false 1 ol), .d (.list false 7 ll)], .bx [.d (.list false 3 al), .d (.list false 3 bl)], .da s.2.2.2.1 s.2.1 1 s.2.2.2.2])
    (fun m s => s.1 = m ∧ m ≤ s.2.2.1 ∧ s.2.2.1 ≤ 2 ∧ ∃ ms : List Int, s.2.2.2.2 = ms.map encI ∧ ms.length = s.2.2.1 ∧ ∀ z ∈ ms, z = -1 ∨ o[k]? = some z) (0, 1, n2, r2, e2) (Wk.ca) ⟨rfl, by simp only; omega, by simp only; omega, [-1, y], he3, hn3.symm, fun z hz => by simp only [List.mem_cons, List.not_mem_nil, or_false] at hz; rcases hz with rfl | rfl; exact .inl rfl; exact .inr hy⟩ (fun m s h => by have := h.2.1; have := h.2.2.1; omega) ?_
   rintro m ⟨j, ve, no, r, es⟩ Q2 ⟨hj, hm, hno, ms, hes, hml, hms⟩ norm2 ex2 rt2
   simp only at hj hm hno hes hml
   have esl : es.length = no := by rw [hes, List.length_map]; omega
   by_cases hmlt : m < no
   rotate_left
   ·clear hmom hfit
    conv => cbv
    repeat' first | (refine ex2 _ _ _ ?_; (conv => cbv)) | (refine rt2 _ _ ?_; (conv => cbv)) | exact gu | exact trivial | refine And.intro ?_ ?_ | (intro hc; exact absurd hc (by decide)) | (intro hc; exfalso; omega) | (intro hc; (first | rw [wrap_small (by omega) (by omega)] at hc | rw [nI_eq] at hc | skip); try (conv => cbv))
    rename_i i2
    refine norm _ _ i2 ?_ (Wk.ca)
    exact ⟨by omega, by omega⟩
   obtain ⟨mv, hmv⟩ : ∃ mv, ms[m]? = some mv := ⟨_, List.getElem?_eq_getElem (by omega)⟩
   have hmz := hms mv (List.mem_of_getElem? hmv)
   have hme : es[m]? = some [iD mv] := by rw [hes, List.getElem?_map, hmv]; rfl
   have hme2 : es[j.toNat]? = some [iD mv] := by rw [show j.toNat = m by omega]; exact hme
   have hL := hmom k mv hk hmz
   have hF := hfit k mv hk hmz
   have hGl := hlen k mv
   rw [← htk] at hL
   generalize G k mv = g at *
   generalize glh : g.map encI = gl at *
   have gll : Λ gl = g.length := by rw [Λo, ← glh]; simp
   clear hmom hfit hlen
   conv => cbv
   repeat' first | (refine ex2 _ _ _ ?_; (conv => cbv)) | (refine rt2 _ _ ?_; (conv => cbv)) | (intro (z : List (List D)) hz; refine (fun (hq : tk = z) => ?_) (htk2.trans hz.symm); subst hq; (conv => cbv)) | (intro (k : Nat) hk; refine (fun (hz : m = k) => ?_) ?_; rotate_left; omega; subst hz; (conv => cbv)) | (intro (e : List D) he; cases Option.some.inj (he.symm.trans hme); (conv => cbv)) | (intro (e : List D) he; cases Option.some.inj (he.symm.trans hme2); (conv => cbv)) | (refine call_r hL rfl rfl ?_; conv => cbv) | exact gu | exact trivial | refine And.intro ?_ ?_ | (intro hc; exact absurd hc (by decide)) | (intro hc; exfalso; omega) | (intro hc; (first | rw [wrap_small (by omega) (by omega)] at hc | rw [nI_eq] at hc | skip); try (conv => cbv))
   refine loop_up g.length (fun s : Int => [(2, .c (.ptr 0 0 0 0)), (3, .c (.ptr 1 0 0 0)), (5, .c (.d (.list false 1 ol'))), (7, iA i), (8, .c (.arr 2 ve 0 no)), (9, iA j), (10, .c (.d (.list false 1 gl))), (12, iA s)])
    (fun s => [.bx [.d (iD nodes), .d (.list false 1 ol), .d (.list false 7 ll)], .bx [.d (.list false 3 al), .d (.list false 3 bl)], .da r ve 1 es])
    (fun n s => s = n ∧ n ≤ g.length) 0 (Wk.ca) ⟨rfl, by omega⟩ (fun n s h => h.2) ?_
   rintro n e Q3 ⟨he, hn⟩ norm3 ex3 rt3
   by_cases hnlt : n < g.length
   rotate_left
   ·clear hF
    conv => cbv
    repeat' first | (refine ex3 _ _ _ ?_; (conv => cbv)) | (refine rt3 _ _ ?_; (conv => cbv)) | exact gu | exact trivial | refine And.intro ?_ ?_ | (intro hc; exact absurd hc (by decide)) | (intro hc; exfalso; omega) | (intro hc; (first | rw [wrap_small (by omega) (by omega)] at hc | rw [nI_eq] at hc | skip); try (conv => cbv))
    rename_i i2
    refine norm2 _ _ (i2, ve, no, r, es) ?_ (Wk.ca)
    exact ⟨by simp only; omega, by simp only; omega, hno, ms, hes, hml, hms⟩
   obtain ⟨x, hx⟩ : ∃ x, g[n]? = some x := ⟨_, List.getElem?_eq_getElem hnlt⟩
   have hxa := elt_at glh he hx
   obtain ⟨⟨ca, cb, cc, cd, ce, cf, cg⟩, hc1, hc2⟩ := hcap n (by omega)
   have hxc : x ≤ ce := by
    have := hF n hnlt
    rw [hx, hc2] at this
    exact this
   have hq := tdiv2 (x := e) (by omega) (by omega)
   obtain ⟨q, hqe⟩ : ∃ q, e / 2 = q := ⟨_, rfl⟩
   rw [hqe] at hq
   have hca := elt_at hll (i := q) (k := n / 2) (by omega) hc1
   simp only [encLk] at hca
   have hls : Λ ll = links.length := by assumption
   clear hF norm norm2
   conv => cbv
   repeat' first | (refine ex3 _ _ _ ?_; (conv => cbv)) | (refine rt3 _ _ ?_; (conv => cbv)) | (intro (_ : Unit); decide) | (intro q' hq'; refine (fun (hz : q = q') => ?_) (hq.symm.trans hq'.symm); subst hz; (conv => cbv)) | (intro (e : List D) he; cases Option.some.inj (he.symm.trans hxa); (conv => cbv)) | (intro (e : List D) he; cases Option.some.inj (he.symm.trans hca); (conv => cbv)) | exact gu | exact trivial | refine And.intro ?_ ?_ | (intro hc; exact absurd hc (by decide)) | (intro hc; exfalso; omega) | (intro hc; (first | rw [wrap_small (by omega) (by omega)] at hc | rw [nI_eq] at hc | skip); try (conv => cbv))
   rename_i i2
   refine norm3 _ _ i2 ?_ (Wk.ca)
   exact ⟨by omega, by omega⟩
  ·conv => cbv
   repeat' first | (refine ex _ _ _ ?_; (conv => cbv)) | (refine rt _ _ ?_; (conv => cbv)) | exact gu | exact trivial | refine And.intro ?_ ?_ | (intro hc; exact absurd hc (by decide)) | (intro hc; exfalso; omega) | (intro hc; (first | rw [wrap_small (by omega) (by omega)] at hc | rw [nI_eq] at hc | skip); try (conv => cbv))
   refine loop_up 2 (fun s : Int × Nat × Nat × Bool × List (List D) => [(2, .c (.ptr 0 0 0 0)), (3, .c (.ptr 1 0 0 0)), (5, .c (.d (.list false 1 ol'))), (7, iA i), (8, .c (.arr 2 s.2.1 0 s.2.2.1)), (9, iA s.1)])
    (fun s => [.bx [.d (iD nodes), .d (.list false 1 ol), .d (.list false 7 ll)], .bx [.d (.list false 3 al), .d (.list false 3 bl)], .da s.2.2.2.1 s.2.1 1 s.2.2.2.2])
    (fun m s => s.1 = m ∧ m ≤ s.2.2.1 ∧ s.2.2.1 ≤ 2 ∧ ∃ ms : List Int, s.2.2.2.2 = ms.map encI ∧ ms.length = s.2.2.1 ∧ ∀ z ∈ ms, z = -1 ∨ o[k]? = some z) (0, 0, 1, true, [[iD (-1)]]) (Wk.ca) ⟨rfl, by simp only; omega, by simp only; omega, [-1], rfl, rfl, fun z hz => by simp only [List.mem_cons, List.not_mem_nil, or_false] at hz; exact .inl hz⟩ (fun m s h => by have := h.2.1; have := h.2.2.1; omega) ?_
   rintro m ⟨j, ve, no, r, es⟩ Q2 ⟨hj, hm, hno, ms, hes, hml, hms⟩ norm2 ex2 rt2
   simp only at hj hm hno hes hml
   have esl : es.length = no := by rw [hes, List.length_map]; omega
   by_cases hmlt : m < no
   rotate_left
   ·clear hmom hfit
    conv => cbv
    repeat' first | (refine ex2 _ _ _ ?_; (conv => cbv)) | (refine rt2 _ _ ?_; (conv => cbv)) | exact gu | exact trivial | refine And.intro ?_ ?_ | (intro hc; exact absurd hc (by decide)) | (intro hc; exfalso; omega) | (intro hc; (first | rw [wrap_small (by omega) (by omega)] at hc | rw [nI_eq] at hc | skip); try (conv => cbv))
    rename_i i2
    refine norm _ _ i2 ?_ (Wk.ca)
    exact ⟨by omega, by omega⟩
   obtain ⟨mv, hmv⟩ : ∃ mv, ms[m]? = some mv := ⟨_, List.getElem?_eq_getElem (by omega)⟩
   have hmz := hms mv (List.mem_of_getElem? hmv)
   have hme : es[m]? = some [iD mv] := by rw [hes, List.getElem?_map, hmv]; rfl
   have hme2 : es[j.toNat]? = some [iD mv] := by rw [show j.toNat = m by omega]; exact hme
   have hL := hmom k mv hk hmz
   have hF := hfit k mv hk hmz
   have hGl := hlen k mv
   rw [← htk] at hL
   generalize G k mv = g at *
   generalize glh : g.map encI = gl at *
   have gll : Λ gl = g.length := by rw [Λo, ← glh]; simp
   clear hmom hfit hlen
   conv => cbv
   repeat' first | (refine ex2 _ _ _ ?_; (conv => cbv)) | (refine rt2 _ _ ?_; (conv => cbv)) | (intro (z : List (List D)) hz; refine (fun (hq : tk = z) => ?_) (htk2.trans hz.symm); subst hq; (conv => cbv)) | (intro (k : Nat) hk; refine (fun (hz : m = k) => ?_) ?_; rotate_left; omega; subst hz; (conv => cbv)) | (intro (e : List D) he; cases Option.some.inj (he.symm.trans hme); (conv => cbv)) | (intro (e : List D) he; cases Option.some.inj (he.symm.trans hme2); (conv => cbv)) | (refine call_r hL rfl rfl ?_; conv => cbv) | exact gu | exact trivial | refine And.intro ?_ ?_ | (intro hc; exact absurd hc (by decide)) | (intro hc; exfalso; omega) | (intro hc; (first | rw [wrap_small (by omega) (by omega)] at hc | rw [nI_eq] at hc | skip); try (conv => cbv))
   refine loop_up g.length (fun s : Int => [(2, .c (.ptr 0 0 0 0)), (3, .c (.ptr 1 0 0 0)), (5, .c (.d (.list false 1 ol'))), (7, iA i), (8, .c (.arr 2 ve 0 no)), (9, iA j), (10, .c (.d (.list false 1 gl))), (12, iA s)])
    (fun s => [.bx [.d (iD nodes), .d (.list false 1 ol), .d (.list false 7 ll)], .bx [.d (.list false 3 al), .d (.list false 3 bl)], .da r ve 1 es])
    (fun n s => s = n ∧ n ≤ g.length) 0 (Wk.ca) ⟨rfl, by omega⟩ (fun n s h => h.2) ?_
   rintro n e Q3 ⟨he, hn⟩ norm3 ex3 rt3
   by_cases hnlt : n < g.length
   rotate_left
   ·clear hF
    conv => cbv
    repeat' first | (refine ex3 _ _ _ ?_; (conv => cbv)) | (refine rt3 _ _ ?_; (conv => cbv)) | exact gu | exact trivial | refine And.intro ?_ ?_ | (intro hc; exact absurd hc (by decide)) | (intro hc; exfalso; omega) | (intro hc; (first | rw [wrap_small (by omega) (by omega)] at hc | rw [nI_eq] at hc | skip); try (conv => cbv))
    rename_i i2
    refine norm2 _ _ (i2, ve, no, r, es) ?_ (Wk.ca)
    exact ⟨by simp only; omega, by simp only; omega, hno, ms, hes, hml, hms⟩
   obtain ⟨x, hx⟩ : ∃ x, g[n]? = some x := ⟨_, List.getElem?_eq_getElem hnlt⟩
   have hxa := elt_at glh he hx
   obtain ⟨⟨ca, cb, cc, cd, ce, cf, cg⟩, hc1, hc2⟩ := hcap n (by omega)
   have hxc : x ≤ ce := by
    have := hF n hnlt
    rw [hx, hc2] at this
    exact this
   have hq := tdiv2 (x := e) (by omega) (by omega)
   obtain ⟨q, hqe⟩ : ∃ q, e / 2 = q := ⟨_, rfl⟩
   rw [hqe] at hq
   have hca := elt_at hll (i := q) (k := n / 2) (by omega) hc1
   simp only [encLk] at hca
   have hls : Λ ll = links.length := by assumption
   clear hF norm norm2
   conv => cbv
   repeat' first | (refine ex3 _ _ _ ?_; (conv => cbv)) | (refine rt3 _ _ ?_; (conv => cbv)) | (intro (_ : Unit); decide) | (intro q' hq'; refine (fun (hz : q = q') => ?_) (hq.symm.trans hq'.symm); subst hz; (conv => cbv)) | (intro (e : List D) he; cases Option.some.inj (he.symm.trans hxa); (conv => cbv)) | (intro (e : List D) he; cases Option.some.inj (he.symm.trans hca); (conv => cbv)) | exact gu | exact trivial | refine And.intro ?_ ?_ | (intro hc; exact absurd hc (by decide)) | (intro hc; exfalso; omega) | (intro hc; (first | rw [wrap_small (by omega) (by omega)] at hc | rw [nI_eq] at hc | skip); try (conv => cbv))
   rename_i i2
   refine norm3 _ _ i2 ?_ (Wk.ca)
   exact ⟨by omega, by omega⟩
end Go.Ab

