/-
  Merged texts, part q.
-/
import Derived.Test.YtmcjlpmlnfbjaaaZp
/-
  Updates, part s: the first order, as the program finds it.
-/
namespace Go.Ab
open Go.Proofs
abbrev fnsA (t : Top) (ids : List Int) (J : Stps) : List CV := [.fn true n_update_job_fits [jobJ t ids J], .fn false n_update_Order_2 [.ptr 0 0 0 0, .ptr 1 0 0 0], .fn false n_update_Order_3 [.ptr 0 0 0 0, .ptr 1 0 0 0]]
abbrev frstH (t : Top) (ids : List Int) (J : Stps) (sh mx : Int) (v : Nat) (es : List (DV × DV)) (rl : Bool) (ve : Nat) (el : List (List D)) : Hp :=
 [.bx [.fn false n_update_Order_1 []], .bx [jobJ t ids J], .bx (.d (iD J.n) :: fnsA t ids J), .mp v es, .bx (.d (iD J.n) :: fnsA t ids J ++ [.d (.int .u32 sh), .d (.int .u32 mx), .mp 3]), .da rl ve 1 el]
def encN (i : Nat) : List D := [iD i]
theorem kinds_hit {J : Stps} {sh mx c m i : Nat} (hk : Kinds J sh mx) (hfu : J.Fit (fullM J.n) (-1)) (hc : cnt J.n m = c + 1) (hi : i < J.n) (hb : m.testBit i = false) (hf : J.Fit m i) :
  CM J mx (cnt J.n (bitS m i ||| sh)) (bitS m i ||| sh) ↔ Can J c (bitS m i) := by
 have h1 := cnt_set hb hi
 rw [complete_spec hk (fu := fullM J.n) (fun j hj => full_tb.2 hj) hfu (fit_after hb hf)]
 rw [show cnt J.n (bitS m i) = c by omega]
theorem pfirst_ok (P : Program) (hP : P = Try.prog) (t : Top) (ids : List Int) (J : Stps) (hn : ids.length = J.n) (hs : SmlJ J) (hw : J.w = 2 * t.links.length) (hC : ∀ e : Nat, J.C e = (lkAt t e).cap) (hf0 : J.Fit 0 (-1)) (hfu : J.Fit (fullM J.n) (-1)) :
  FnS P n_sequence_First [.agg (.d (iD J.n) :: fnsA t ids J)] (stepH t ids J) fun r h' => ∃ sh mx v es rl ve el, h' = frstH t ids J sh mx v es rl ve el ∧
   match dfs J J.n 0 [] with
   | none => r = .tup [.c (.d (.list true 1 [])), bA false]
   | some o => r = .tup [.c (.arr 5 ve 0 o.length), bA true] ∧ el = o.map encN := by
 have hfo : FnOk P n_update_job_fits := hP ▸ ⟨_, fn_update_job_fits, rfl, by decide⟩
 have hf2 : FnOk P n_update_Order_2 := hP ▸ ⟨_, fn_update_Order_2, rfl, by decide⟩
 have hf3 : FnOk P n_update_Order_3 := hP ▸ ⟨_, fn_update_Order_3, rfl, by decide⟩
 have hft := fun m hm (mi : Int) => pjfits_ok P hP t ids J hn hs hw hC m hm mi
 have hcm := fun sh mx h1 h2 h3 m h4 => pcomplete_ok P hP t ids J hn hs hw hC sh mx h1 h2 h3 _ m h4 (Nat.lt_succ_self _)
 have hshr := fun i hi => pshr_ok P hP t ids J i hi hs.n
 have hgro := fun i hi => pgro_ok P hP t ids J i hi hs.n
 have hn24 := hs.n
 refine heap_start (hP ▸ mixed) (hP ▸ fn_sequence_First) (hP ▸ c_sequence_First) (Nat.le_of_ble_eq_true rfl) fun Λ Λo K hK => ?_
 clear hP hs hw hC
 have none_ : dfs J J.n 0 [] = none → ∀ sh mx v es rl ve el, K (.tup [.c (.d (.list true 1 [])), bA false]) (frstH t ids J sh mx v es rl ve el) := fun h sh mx v es rl ve el => hK _ _ ⟨sh, mx, v, es, rl, ve, el, rfl, by rw [h]⟩
 have some_ : ∀ o, dfs J J.n 0 [] = some o → ∀ sh mx v es rl ve el no, no = o.length → el = o.map encN → K (.tup [.c (.arr 5 ve 0 no), bA true]) (frstH t ids J sh mx v es rl ve el) := fun o h sh mx v es rl ve el no h1 h2 => hK _ _ ⟨sh, mx, v, es, rl, ve, el, rfl, by rw [h]; simp only; rw [h1]; exact ⟨rfl, h2⟩⟩
 clear hK
 obtain ⟨D0, hD0⟩ : ∃ D0, D0 = dfs J J.n 0 [] := ⟨_, rfl⟩
 rw [← hD0] at none_ some_
 obtain ⟨nz, hnz⟩ : ∃ nz : Int, nz = (J.n : Int) := ⟨_, rfl⟩
 simp only [stepH, frstH, fnsA, srchA, srchH, jobJ, tabD, intsD, boolsD, linksD, List.cons_append, List.nil_append] at *
 rw [← hnz] at none_ some_ hcm ⊢
 generalize t.ov.map encB = ol at *
 generalize t.links.map encLk = kl at *
 generalize t.nodes = nodes at *
 generalize arrS J.w J.S = sl at *
 generalize (rowsF J.n J.w J.B).map (fun l => [D.list false 1 l]) = rb at *
 generalize (rowsF J.n J.w J.A).map (fun l => [D.list false 1 l]) = ra at *
 generalize ids.map encI = cl at *
 obtain ⟨jb, hjb⟩ : ∃ jb : List D, jb = [iD nodes, .list false 1 ol, .list false 7 kl, .list false 1 cl, .list false 1 sl, .list false 1 rb, .list false 1 ra] := ⟨_, rfl⟩
 simp only [← hjb] at hft hcm hshr hgro none_ some_ ⊢
 clear hjb
 conv => cbv
 repeat' first | exact gu | exact trivial | refine And.intro ?_ ?_ | (intro hc; exact absurd hc (by decide)) | (intro hc; exfalso; omega) | (intro hc; (first | rw [wrap_small (by omega) (by omega)] at hc | rw [nI_eq] at hc | skip); try (conv => cbv))
 refine loop_upx J.n (fun s : Int × Int × Int => [(1, .c (.ptr 2 0 0 0)), (4, .c (.ptr 4 0 0 0)), (14, iA nz), (15, iA s.1)]) (fun s => [.bx [.fn false n_update_Order_1 []], .bx [.rp jb], .bx [.d (iD nz), .fn true n_update_job_fits [.rp jb], .fn false n_update_Order_2 [.ptr 0 0 0 0, .ptr 1 0 0 0], .fn false n_update_Order_3 [.ptr 0 0 0 0, .ptr 1 0 0 0]], .mp 0 [], .bx [.d (iD nz), .fn true n_update_job_fits [.rp jb], .fn false n_update_Order_2 [.ptr 0 0 0 0, .ptr 1 0 0 0], .fn false n_update_Order_3 [.ptr 0 0 0 0, .ptr 1 0 0 0], .d (.int .u32 s.2.1), .d (.int .u32 s.2.2), .mp 3]])
  (fun k s => s.1 = k ∧ k ≤ J.n ∧ ∃ sh mx : Nat, s.2.1 = sh ∧ s.2.2 = mx ∧ sh < 4294967296 ∧ mx < 4294967296 ∧ (∀ j, sh.testBit j = true ↔ j < k ∧ J.shr j) ∧ ∀ j, mx.testBit j = true ↔ j < k ∧ ¬ J.shr j ∧ ¬ J.gro j) (0, 0, 0) 0
  (fun s : Int × Int => [(1, .c (.ptr 2 0 0 0)), (4, .c (.ptr 4 0 0 0))]) (fun s => [.bx [.fn false n_update_Order_1 []], .bx [.rp jb], .bx [.d (iD nz), .fn true n_update_job_fits [.rp jb], .fn false n_update_Order_2 [.ptr 0 0 0 0, .ptr 1 0 0 0], .fn false n_update_Order_3 [.ptr 0 0 0 0, .ptr 1 0 0 0]], .mp 0 [], .bx [.d (iD nz), .fn true n_update_job_fits [.rp jb], .fn false n_update_Order_2 [.ptr 0 0 0 0, .ptr 1 0 0 0], .fn false n_update_Order_3 [.ptr 0 0 0 0, .ptr 1 0 0 0], .d (.int .u32 s.1), .d (.int .u32 s.2), .mp 3]])
  (fun s => ∃ sh mx : Nat, s.1 = sh ∧ s.2 = mx ∧ sh < 4294967296 ∧ mx < 4294967296 ∧ Kinds J sh mx)
  (Wk.ca) ⟨rfl, by omega, 0, 0, rfl, rfl, by decide, by decide, fun j => by simp, fun j => by simp⟩ (fun k s h => h.2.1) ?_ ?_
 ·rintro k ⟨i, shz, mxz⟩ Q' ⟨hi, hk, sh, mx, hshz, hmxz, hsl, hml, hsb, hmb⟩ norm jn ex rt
  simp only at hi hshz hmxz
  by_cases hlt : k < J.n
  rotate_left
  ·obtain rfl : k = J.n := by omega
   clear norm none_ some_
   conv => cbv
   repeat' first | exact gu | exact trivial | refine And.intro ?_ ?_ | (intro hc; exact absurd hc (by decide)) | (intro hc; exfalso; omega) | (intro hc; (first | rw [wrap_small (by omega) (by omega)] at hc | rw [nI_eq] at hc | skip); try (conv => cbv))
   exact jn _ _ (shz, mxz) ⟨sh, mx, hshz, hmxz, hsl, hml, ⟨hsb, hmb⟩⟩ (Wk.ca)
  clear jn none_ some_
  obtain ⟨kk, hkk⟩ : ∃ kk, kk = k := ⟨_, rfl⟩
  have hik : i = (kk : Int) := by omega
  have hsk := hshr kk (by omega)
  have hgk := hgro kk (by omega)
  obtain ⟨S, hS⟩ : ∃ S, S = decide (J.shr kk) := ⟨_, rfl⟩
  obtain ⟨G, hG⟩ : ∃ G, G = decide (J.gro kk) := ⟨_, rfl⟩
  rw [← hS, ← hik] at hsk
  rw [← hG, ← hik] at hgk
  obtain ⟨n1, hn1⟩ : ∃ n1 : Int, n1 = ((sh ||| 2 ^ kk : Nat) : Int) := ⟨_, rfl⟩
  obtain ⟨n2, hn2⟩ : ∃ n2 : Int, n2 = ((mx ||| 2 ^ kk : Nat) : Int) := ⟨_, rfl⟩
  have b1 : n1 = (bitS sh kk : Nat) := hn1
  have b2 : n2 = (bitS mx kk : Nat) := hn2
  have l1 := bitS_lt (i := kk) hsl (by omega)
  have l2 := bitS_lt (i := kk) hml (by omega)
  clear hft hcm hshr hgro
  cases S with
  | true =>
   have hS2 : J.shr kk := of_decide_eq_true hS.symm
   conv => cbv
   repeat' first | (refine ex _ _ _ ?_; (conv => cbv)) | (refine rt _ _ ?_; (conv => cbv)) | exact hf2 | (refine callv_fr [0, 1] hsk rfl rfl (by decide) (by repeat' first | exact trivial | refine And.intro ?_ ?_ | rfl) rfl rfl ?_; rintro r hc' ⟨rfl, rfl⟩; (conv => cbv)) | (refine ⟨.int .u32 n1, orU hshz (shlU hik (by omega) (by assumption)) hsl (pow_lt32 (by omega)) hn1, ?_⟩; intro d' hd; subst hd; (conv => cbv)) | exact gu | exact trivial | refine And.intro ?_ ?_ | (intro hc; exact absurd hc (by decide)) | (intro hc; exfalso; omega) | (intro hc; (first | rw [wrap_small (by omega) (by omega)] at hc | rw [nI_eq] at hc | skip); try (conv => cbv))
   refine norm _ _ (_, n1, mxz) ?_ (Wk.ca)
   refine ⟨by simp only; omega, by omega, bitS sh kk, mx, b1, hmxz, l1, hml, fun j => ?_, fun j => ?_⟩
   ·rw [tb_set, Bool.or_eq_true, hsb, decide_eq_true_eq]
    constructor
    ·rintro (h | h)
     ·exact ⟨by omega, h.2⟩
     ·subst h; exact ⟨by omega, hS2⟩
    ·rintro ⟨h1, h2⟩
     by_cases e : j = k
     ·exact .inr (by omega)
     ·exact .inl ⟨by omega, h2⟩
   ·rw [hmb]
    constructor
    ·rintro ⟨h1, h2⟩; exact ⟨by omega, h2⟩
    ·rintro ⟨h1, h2⟩
     by_cases e : j = k
     ·have : j = kk := by omega
      subst this; exact absurd hS2 h2.1
     ·exact ⟨by omega, h2⟩
  | false =>
   have hS2 : ¬ J.shr kk := of_decide_eq_false hS.symm
   have hsb2 : ∀ j, sh.testBit j = true ↔ j < k + 1 ∧ J.shr j := fun j => by
    rw [hsb]
    constructor
    ·rintro ⟨h1, h2⟩; exact ⟨by omega, h2⟩
    ·rintro ⟨h1, h2⟩
     by_cases e : j = k
     ·have : j = kk := by omega
      subst this; exact absurd h2 hS2
     ·exact ⟨by omega, h2⟩
   cases G with
   | true =>
    have hG2 : J.gro kk := of_decide_eq_true hG.symm
    conv => cbv
    repeat' first | (refine ex _ _ _ ?_; (conv => cbv)) | (refine rt _ _ ?_; (conv => cbv)) | exact hf2 | exact hf3 | (refine callv_fr [0, 1] hsk rfl rfl (by decide) (by repeat' first | exact trivial | refine And.intro ?_ ?_ | rfl) rfl rfl ?_; rintro r hc' ⟨rfl, rfl⟩; (conv => cbv)) | (refine callv_fr [0, 1] hgk rfl rfl (by decide) (by repeat' first | exact trivial | refine And.intro ?_ ?_ | rfl) rfl rfl ?_; rintro r hc' ⟨rfl, rfl⟩; (conv => cbv)) | exact gu | exact trivial | refine And.intro ?_ ?_ | (intro hc; exact absurd hc (by decide)) | (intro hc; exfalso; omega) | (intro hc; (first | rw [wrap_small (by omega) (by omega)] at hc | rw [nI_eq] at hc | skip); try (conv => cbv))
    refine norm _ _ (_, shz, mxz) ?_ (Wk.ca)
    refine ⟨by simp only; omega, by omega, sh, mx, hshz, hmxz, hsl, hml, hsb2, fun j => ?_⟩
    rw [hmb]
    constructor
    ·rintro ⟨h1, h2⟩; exact ⟨by omega, h2⟩
    ·rintro ⟨h1, h2⟩
     by_cases e : j = k
     ·have : j = kk := by omega
      subst this; exact absurd hG2 h2.2
     ·exact ⟨by omega, h2⟩
   | false =>
    have hG2 : ¬ J.gro kk := of_decide_eq_false hG.symm
    conv => cbv
    repeat' first | (refine ex _ _ _ ?_; (conv => cbv)) | (refine rt _ _ ?_; (conv => cbv)) | exact hf2 | exact hf3 | (refine callv_fr [0, 1] hsk rfl rfl (by decide) (by repeat' first | exact trivial | refine And.intro ?_ ?_ | rfl) rfl rfl ?_; rintro r hc' ⟨rfl, rfl⟩; (conv => cbv)) | (refine callv_fr [0, 1] hgk rfl rfl (by decide) (by repeat' first | exact trivial | refine And.intro ?_ ?_ | rfl) rfl rfl ?_; rintro r hc' ⟨rfl, rfl⟩; (conv => cbv)) | (refine ⟨.int .u32 n2, orU hmxz (shlU hik (by omega) (by assumption)) hml (pow_lt32 (by omega)) hn2, ?_⟩; intro d' hd; subst hd; (conv => cbv)) | exact gu | exact trivial | refine And.intro ?_ ?_ | (intro hc; exact absurd hc (by decide)) | (intro hc; exfalso; omega) | (intro hc; (first | rw [wrap_small (by omega) (by omega)] at hc | rw [nI_eq] at hc | skip); try (conv => cbv))
    refine norm _ _ (_, shz, n2) ?_ (Wk.ca)
    refine ⟨by simp only; omega, by omega, sh, bitS mx kk, hshz, b2, hsl, l2, hsb2, fun j => ?_⟩
    rw [tb_set, Bool.or_eq_true, hmb, decide_eq_true_eq]
    constructor
    ·rintro (h | h)
     ·exact ⟨by omega, h.2⟩
     ·subst h; exact ⟨by omega, hS2, hG2⟩
    ·rintro ⟨h1, h2⟩
     by_cases e : j = k
     ·exact .inr (by omega)
     ·exact .inl ⟨by omega, h2⟩
 rintro ⟨shz, mxz⟩ ⟨sh, mx, hshz, hmxz, hsl, hml, hkd⟩
 simp only at hshz hmxz
 have hcm := hcm sh mx hsl hml fun i hi => ((hkd.mx i).1 hi).1
 rw [← hshz, ← hmxz] at hcm
 clear hshr hgro
 have hgd := fun c m i => @kinds_hit J sh mx c m i hkd hfu
 have hmz0 : (0 : Int) = ((0 : Nat) : Int) := rfl
 conv => cbv
 repeat' first | exact gu | exact trivial | refine And.intro ?_ ?_ | (intro hc; exact absurd hc (by decide)) | (intro hc; exfalso; omega) | (intro hc; (first | rw [wrap_small (by omega) (by omega)] at hc | rw [nI_eq] at hc | skip); try (conv => cbv))
 refine loop_upx J.n (fun s : Int × (Nat × List (DV × DV)) × Nat × Nat × Bool × List (List D) => [(1, .c (.ptr 2 0 0 0)), (4, .c (.ptr 4 0 0 0)), (6, .c (.arr 5 s.2.2.1 0 s.2.2.2.1)), (7, .c (.d (.int .u32 s.1)))]) (fun s => [.bx [.fn false n_update_Order_1 []], .bx [.rp jb], .bx [.d (iD nz), .fn true n_update_job_fits [.rp jb], .fn false n_update_Order_2 [.ptr 0 0 0 0, .ptr 1 0 0 0], .fn false n_update_Order_3 [.ptr 0 0 0 0, .ptr 1 0 0 0]], .mp s.2.1.1 s.2.1.2, .bx [.d (iD nz), .fn true n_update_job_fits [.rp jb], .fn false n_update_Order_2 [.ptr 0 0 0 0, .ptr 1 0 0 0], .fn false n_update_Order_3 [.ptr 0 0 0 0, .ptr 1 0 0 0], .d (.int .u32 shz), .d (.int .u32 mxz), .mp 3], .da s.2.2.2.2.1 s.2.2.1 1 s.2.2.2.2.2])
  (fun k s => k ≤ J.n ∧ ∃ (m : Nat) (acc l : List Nat), s.1 = m ∧ m < 4294967296 ∧ s.2.2.2.1 = acc.length ∧ acc.length = k ∧ s.2.2.2.2.2 = acc.map encN ∧ cnt J.n m + k = J.n ∧ J.Fit m (-1) ∧ D0 = dfs J (cnt J.n m) m acc ∧ setU l = s.2.1.2 ∧ ∀ x ∈ l, ¬ CM J mx (cnt J.n x) x) (0, (0, []), 0, 0, false, []) 3
  (fun s : (Nat × List (DV × DV)) × Nat × Nat × Bool × List (List D) => [(6, .c (.arr 5 s.2.1 0 s.2.2.1))]) (fun s => [.bx [.fn false n_update_Order_1 []], .bx [.rp jb], .bx [.d (iD nz), .fn true n_update_job_fits [.rp jb], .fn false n_update_Order_2 [.ptr 0 0 0 0, .ptr 1 0 0 0], .fn false n_update_Order_3 [.ptr 0 0 0 0, .ptr 1 0 0 0]], .mp s.1.1 s.1.2, .bx [.d (iD nz), .fn true n_update_job_fits [.rp jb], .fn false n_update_Order_2 [.ptr 0 0 0 0, .ptr 1 0 0 0], .fn false n_update_Order_3 [.ptr 0 0 0 0, .ptr 1 0 0 0], .d (.int .u32 shz), .d (.int .u32 mxz), .mp 3], .da s.2.2.2.1 s.2.1 1 s.2.2.2.2])
  (fun s => ∃ acc, D0 = some acc ∧ s.2.2.1 = acc.length ∧ s.2.2.2.2 = acc.map encN)
  (.trans (.nilS 6 1 rfl) (Wk.ca)) ⟨by omega, 0, [], [], rfl, by decide, rfl, rfl, rfl, cnt_none, hf0, by rw [hD0, cnt_none], rfl, by simp⟩ (fun k s h => h.1) ?_ ?_
 ·rintro k ⟨dz, ⟨v, es⟩, ve, no, r, el⟩ Q' ⟨hk, m, acc, l, hdz, hml2, hno, hacc, hel, hcnt, hfm, hD, hes, hbad⟩ norm jn ex rt
  simp only at hdz hno hel hes
  have hell : el.length = no := by rw [hel, List.length_map, hno]
  by_cases hlt : k < J.n
  rotate_left
  ·have hc0 : cnt J.n m = 0 := by omega
   rw [hc0] at hD
   have hkn : no = J.n := by omega
   clear norm none_ some_ hcm hft
   conv => cbv
   repeat' first | exact gu | exact trivial | refine And.intro ?_ ?_ | (intro hc; exact absurd hc (by decide)) | (intro hc; exfalso; omega) | (intro hc; (first | rw [wrap_small (by omega) (by omega)] at hc | rw [nI_eq] at hc | skip); try (conv => cbv))
   exact jn _ _ ((v, es), ve, no, r, el) ⟨acc, hD, hno, hel⟩ (Wk.ca)
  clear jn
  obtain ⟨c, hcq⟩ : ∃ c, cnt J.n m = c + 1 := ⟨cnt J.n m - 1, by omega⟩
  rw [hcq] at hD hcnt
  conv => cbv
  repeat' first | exact gu | exact trivial | refine And.intro ?_ ?_ | (intro hc; exact absurd hc (by decide)) | (intro hc; exfalso; omega) | (intro hc; (first | rw [wrap_small (by omega) (by omega)] at hc | rw [nI_eq] at hc | skip); try (conv => cbv))
  refine loop_upx J.n (fun s : Int × Nat × List (DV × DV) => [(1, .c (.ptr 2 0 0 0)), (4, .c (.ptr 4 0 0 0)), (6, .c (.arr 5 ve 0 no)), (7, .c (.d (.int .u32 dz))), (48, iA nz), (49, iA s.1)]) (fun s => [.bx [.fn false n_update_Order_1 []], .bx [.rp jb], .bx [.d (iD nz), .fn true n_update_job_fits [.rp jb], .fn false n_update_Order_2 [.ptr 0 0 0 0, .ptr 1 0 0 0], .fn false n_update_Order_3 [.ptr 0 0 0 0, .ptr 1 0 0 0]], .mp s.2.1 s.2.2, .bx [.d (iD nz), .fn true n_update_job_fits [.rp jb], .fn false n_update_Order_2 [.ptr 0 0 0 0, .ptr 1 0 0 0], .fn false n_update_Order_3 [.ptr 0 0 0 0, .ptr 1 0 0 0], .d (.int .u32 shz), .d (.int .u32 mxz), .mp 3], .da r ve 1 el])
   (fun k s => s.1 = k ∧ k ≤ J.n ∧ ∃ l, setU l = s.2.2 ∧ (∀ x ∈ l, ¬ CM J mx (cnt J.n x) x) ∧ ∀ j, j < k → ¬ Good J c m j) (0, v, es) 5
   (fun s : Nat × List (DV × DV) => []) (fun s => [.bx [.fn false n_update_Order_1 []], .bx [.rp jb], .bx [.d (iD nz), .fn true n_update_job_fits [.rp jb], .fn false n_update_Order_2 [.ptr 0 0 0 0, .ptr 1 0 0 0], .fn false n_update_Order_3 [.ptr 0 0 0 0, .ptr 1 0 0 0]], .mp s.1 s.2, .bx [.d (iD nz), .fn true n_update_job_fits [.rp jb], .fn false n_update_Order_2 [.ptr 0 0 0 0, .ptr 1 0 0 0], .fn false n_update_Order_3 [.ptr 0 0 0 0, .ptr 1 0 0 0], .d (.int .u32 shz), .d (.int .u32 mxz), .mp 3], .da r ve 1 el])
   (fun s => ∀ j, j < J.n → ¬ Good J c m j) (Wk.ca) ⟨rfl, by omega, l, hes, hbad, fun j hj => by omega⟩ (fun k s h => h.2.1) ?_ ?_
  ·rintro k2 ⟨i, v2, es2⟩ Q2 ⟨hi, hk2, l2, hes2, hbad2, hng⟩ norm2 jn2 ex2 rt2
   simp only at hi hes2
   by_cases hlt2 : k2 < J.n
   rotate_left
   ·obtain rfl : k2 = J.n := by omega
    clear norm norm2 none_ some_ hcm hft
    conv => cbv
    repeat' first | exact gu | exact trivial | refine And.intro ?_ ?_ | (intro hc; exact absurd hc (by decide)) | (intro hc; exfalso; omega) | (intro hc; (first | rw [wrap_small (by omega) (by omega)] at hc | rw [nI_eq] at hc | skip); try (conv => cbv))
    exact jn2 _ _ (v2, es2) hng (Wk.ca)
   clear jn2
   obtain ⟨kk, hkk⟩ : ∃ kk, kk = k2 := ⟨_, rfl⟩
   have hik : i = (kk : Int) := by omega
   have hfk := hft m hml2 (kk : Int)
   obtain ⟨F, hF⟩ : ∃ F, F = decide (J.Fit m kk) := ⟨_, rfl⟩
   rw [← hF, ← hik, ← hdz] at hfk
   have nx : ¬ Good J c m kk → ∀ j, j < k2 + 1 → ¬ Good J c m j := fun h j hj => by
    by_cases e : j = k2
    ·rw [e, ← hkk]; exact h
    ·exact hng j (by omega)
   obtain ⟨z2, hz2⟩ : ∃ z2 : Int, z2 = ((m &&& 2 ^ kk : Nat) : Int) := ⟨_, rfl⟩
   obtain ⟨nb, hnb⟩ : ∃ nb : Int, nb = ((m ||| 2 ^ kk : Nat) : Int) := ⟨_, rfl⟩
   have hb2 : z2 = 0 ↔ m.testBit kk = false := by
    rw [hz2, ← tb_and]; constructor <;> intro h <;> omega
   have hnb2 : nb = ((bitS m kk : Nat) : Int) := hnb
   have hbl := bitS_lt (i := kk) hml2 (by omega)
   have hck := hcm (bitS m kk) hbl v2 es2 l2 hes2 hbad2
   rw [← hnb2] at hck
   have hgk := hgd c m kk hcq (by omega)
   clear hft hcm hgd
   cases hm2b : m.testBit kk with
   | true =>
    have hz : z2 ≠ 0 := fun h => by rw [hb2.1 h] at hm2b; cases hm2b
    have hnk : ¬ Good J c m kk := fun h => by have := h.1; rw [hm2b] at this; cases this
    clear hck hgk norm none_ some_
    conv => cbv
    repeat' first | (refine ex _ _ _ ?_; (conv => cbv)) | (refine rt _ _ ?_; (conv => cbv)) | (refine ⟨.int .u32 z2, andU hdz (shlU hik (by omega) (by assumption)) hml2 (pow_lt32 (by omega)) hz2, ?_⟩; intro d' hd; subst hd; (conv => cbv)) | exact hfo | (refine callv_r hfk rfl rfl ?_; (conv => cbv)) | exact gu | exact trivial | refine And.intro ?_ ?_ | (intro hc; exact absurd hc (by decide)) | (intro hc; exfalso; omega) | (intro hc; (first | rw [wrap_small (by omega) (by omega)] at hc | rw [nI_eq] at hc | skip); try (conv => cbv))
    refine norm2 _ _ (_, v2, es2) ?_ (Wk.ca)
    exact ⟨by simp only; omega, by omega, l2, hes2, hbad2, nx hnk⟩
   | false =>
    have hz : z2 = 0 := hb2.2 hm2b
    cases F with
    | false =>
     have hnk : ¬ Good J c m kk := fun h => of_decide_eq_false hF.symm h.2.1
     clear hck hgk norm none_ some_
     conv => cbv
     repeat' first | (refine ex _ _ _ ?_; (conv => cbv)) | (refine rt _ _ ?_; (conv => cbv)) | (refine ⟨.int .u32 z2, andU hdz (shlU hik (by omega) (by assumption)) hml2 (pow_lt32 (by omega)) hz2, ?_⟩; intro d' hd; subst hd; (conv => cbv)) | exact hfo | (refine callv_r hfk rfl rfl ?_; (conv => cbv)) | exact gu | exact trivial | refine And.intro ?_ ?_ | (intro hc; exact absurd hc (by decide)) | (intro hc; exfalso; omega) | (intro hc; (first | rw [wrap_small (by omega) (by omega)] at hc | rw [nI_eq] at hc | skip); try (conv => cbv))
     refine norm2 _ _ (_, v2, es2) ?_ (Wk.ca)
     exact ⟨by simp only; omega, by omega, l2, hes2, hbad2, nx hnk⟩
    | true =>
     have hfit : J.Fit m kk := of_decide_eq_true hF.symm
     have hgk := hgk hm2b hfit
     conv => cbv
     repeat' first | (refine ex _ _ _ ?_; (conv => cbv)) | (refine rt _ _ ?_; (conv => cbv)) | (refine ⟨.int .u32 z2, andU hdz (shlU hik (by omega) (by assumption)) hml2 (pow_lt32 (by omega)) hz2, ?_⟩; intro d' hd; subst hd; (conv => cbv)) | (refine ⟨.int .u32 nb, orU hdz (shlU hik (by omega) (by assumption)) hml2 (pow_lt32 (by omega)) hnb, ?_⟩; intro d' hd; subst hd; (conv => cbv)) | exact hfo | (refine callv_r hfk rfl rfl ?_; (conv => cbv)) | (refine call_fr [0, 1, 3] hck rfl rfl (by decide) (by repeat' first | exact trivial | refine And.intro ?_ ?_ | rfl) rfl rfl ?_; rintro r' hc' ⟨v3, es3, l3, b3, rfl, hb3, rfl, hes3, hbad3⟩; (conv => cbv)) | exact gu | exact trivial | refine And.intro ?_ ?_ | (intro hc; exact absurd hc (by decide)) | (intro hc; exfalso; omega) | (intro hc; (first | rw [wrap_small (by omega) (by omega)] at hc | rw [nI_eq] at hc | skip); try (conv => cbv))
     cases b3 with
     | true =>
      have hgood : Good J c m kk := ⟨hm2b, hfit, hgk.1 (hb3.1 rfl)⟩
      have hst := dfs_step (acc := acc) (by omega) hgood (fun j hj => hng j (by omega))
      rw [← hD] at hst
      have hcs := cnt_set hm2b (show kk < J.n by omega)
      repeat' first | (refine ex _ _ _ ?_; (conv => cbv)) | (refine rt _ _ ?_; (conv => cbv)) | (refine ⟨.int .u32 nb, orU hdz (shlU hik (by omega) (by assumption)) hml2 (pow_lt32 (by omega)) hnb, ?_⟩; intro d' hd; subst hd; (conv => cbv)) | decide | (intro (_ : Unit); simp only [List.length_append, List.length_take, List.length_drop, List.length_set, List.length_replicate, List.length_cons, List.length_nil]; omega) | (intro (_ : Unit); refine ⟨rfl, ?_⟩; simp only [List.length_append, List.length_take, List.length_drop, List.length_set, List.length_replicate, List.length_cons, List.length_nil]; omega) | (refine ex2 _ _ _ ?_; (conv => cbv)) | exact gu | exact trivial | refine And.intro ?_ ?_ | (intro hc; exact absurd hc (by decide)) | (intro hc; exfalso; omega) | (intro hc; (first | rw [wrap_small (by omega) (by omega)] at hc | rw [nI_eq] at hc | skip); try (conv => cbv))
      rename_i n2 r2 y hn2 hr2
      have hy : y = el ++ [[iD i]] := by rw [hc, List.drop_zero, List.take_of_length_le (by omega)]; rfl
      have hn3 : n2 = no + 1 := by rw [hn2]; simp
      have hcc : cnt J.n (bitS m kk) = c := by omega
      refine norm _ _ (nb, (v3, es3), ve.succ, n2, r2, y) ?_ (Wk.ca)
      refine ⟨by omega, bitS m kk, acc ++ [kk], l3, hnb2, hbl, by simp only [List.length_append, List.length_cons, List.length_nil]; omega, by simp only [List.length_append, List.length_cons, List.length_nil]; omega, ?_, by omega, fit_after hm2b hfit, by rw [hcc]; exact hst, hes3, hbad3⟩
      simp only
      rw [hy, hel, List.map_append, hik]; rfl
     | false =>
      have hnk : ¬ Good J c m kk := fun h => by have := hb3.2 (hgk.2 h.2.2); cases this
      clear norm none_ some_
      repeat' first | (refine ex _ _ _ ?_; (conv => cbv)) | (refine rt _ _ ?_; (conv => cbv)) | exact gu | exact trivial | refine And.intro ?_ ?_ | (intro hc; exact absurd hc (by decide)) | (intro hc; exfalso; omega) | (intro hc; (first | rw [wrap_small (by omega) (by omega)] at hc | rw [nI_eq] at hc | skip); try (conv => cbv))
      refine norm2 _ _ (_, v3, es3) ?_ (Wk.ca)
      exact ⟨by simp only; omega, by omega, l3, hes3, hbad3, nx hnk⟩
  ·rintro ⟨v2, es2⟩ hng
   have hDn : D0 = none := by rw [hD]; exact dfs_none hng
   have kn := none_ hDn shz mxz v2 es2 r ve el
   clear norm none_ some_ hcm hft
   conv => cbv
   repeat' first | (refine rt _ _ ?_; (conv => cbv)) | exact gu | exact trivial | refine And.intro ?_ ?_ | (intro hc; exact absurd hc (by decide)) | (intro hc; exfalso; omega) | (intro hc; (first | rw [wrap_small (by omega) (by omega)] at hc | rw [nI_eq] at hc | skip); try (conv => cbv))
   exact kn
 ·rintro ⟨⟨v, es⟩, ve, no, r, el⟩ ⟨acc, hD, hno, hel⟩
  simp only at hno hel
  have ks := some_ acc hD shz mxz v es r ve el no hno hel
  clear none_ some_ hcm hft
  conv => cbv
  repeat' first | exact gu | exact trivial | refine And.intro ?_ ?_ | (intro hc; exact absurd hc (by decide)) | (intro hc; exfalso; omega) | (intro hc; (first | rw [wrap_small (by omega) (by omega)] at hc | rw [nI_eq] at hc | skip); try (conv => cbv))
  exact ks
end Go.Ab

/-
  Updates, part t: the program's order.
-/
namespace Go.Ab
open Go.Proofs
theorem fresh_lt {J : Stps} : ∀ {s : List Nat} {m : Nat}, Fresh J m s → ∀ i ∈ s, i < J.n := by
 intro s
 induction s with
 | nil => intro m _ i hi; cases hi
 | cons x r ih =>
  intro m h i hi
  rcases List.mem_cons.1 hi with e | hi
  ·rw [e]; exact h.1
  ·exact ih h.2.2 i hi
def ordR (ch : List Int) (o : List Nat) (k : Nat) : List (List D) := (o.take k).map (fun i => [iD (ch.getD i 0)]) ++ (o.drop k).map encN
theorem ordR_zero (ch : List Int) (o : List Nat) : ordR ch o 0 = o.map encN := by simp [ordR]
theorem ordR_all (ch : List Int) (o : List Nat) : ordR ch o o.length = (o.map fun i => ch.getD i 0).map encI := by simp [ordR, encI, Function.comp_def]
theorem ordR_len {ch : List Int} {o : List Nat} {k : Nat} : (ordR ch o k).length = o.length := by
 simp only [ordR, List.length_append, List.length_map, List.length_take, List.length_drop]; omega
theorem ordR_at {ch : List Int} {o : List Nat} {k i : Nat} (h : o[k]? = some i) : (ordR ch o k)[k]? = some (encN i) := by
 have hk := get_lt h
 rw [ordR, List.getElem?_append_right (by simp; omega)]
 simp only [List.length_map, List.length_take]
 rw [show k - min k o.length = 0 by omega, List.getElem?_map, List.getElem?_drop, Nat.add_zero, h]; rfl
theorem ordR_set {ch : List Int} {o : List Nat} {k i : Nat} (h : o[k]? = some i) : (ordR ch o k).set k [iD (ch.getD i 0)] = ordR ch o (k + 1) := by
 have hk := get_lt h
 have hd : o.drop k = i :: o.drop (k + 1) := by
  rw [List.drop_eq_getElem_cons hk]
  rw [List.getElem?_eq_getElem hk] at h
  rw [Option.some.inj h]
 rw [ordR, List.set_append_right _ _ (by simp; omega), ordR, take_succ_get h, hd]
 simp only [List.length_map, List.length_take, List.map_append, List.map_cons, List.map_nil, List.append_assoc]
 rw [show k - min k o.length = 0 by omega]
 rfl
def OrdR (es : List (List D)) (e : Int) (r : AV) (h' : Hp) : Prop := (∃ l v n rl, r = .tup [.c (.arr l v 0 n), iA e] ∧ h'[l]? = some (Blk.da rl v 1 es) ∧ n = es.length) ∨ (es = [] ∧ ∃ nl, r = .tup [.c (.d (.list nl 1 [])), iA e])
theorem dr_intU {G : Nat → Prop} {w : World} {v : Value} {n : Int} (h : DR G w v (iD n)) : v = .int .i64 n := by cases h; rfl
theorem FrS.of_tup {P : Program} {f : Nat} {vargs : List AV} {es : List (List D)} {e : Int} (hf : FnS P f vargs [] (OrdR es e)) (hsc : ∀ e ∈ es, ∀ d ∈ e, scalD d = true) : FrS P f vargs (.tup [.c (.d (.list false 1 es)), iA e]) where
 pure := rfl
 out w vs hv := by
  refine (hf.out (below w) [] w vs (HR_nil fun b hb => hb) hv).mono fun e w' ⟨v, r, G', ι', h', he, hR, hr, hvr, hx⟩ => ?_
  have hsame : ∀ b, b < w.heap.size → w'.heap[b]? = w.heap[b]? := fun b hb => hx.frame b hb fun ⟨l, blk, h1, _⟩ => by simp at h1
  have hnew : ∀ b, owned ι' h' b → w.heap.size ≤ b := fun b ho => by
   rcases hx.onew b ho with ⟨l, blk, h1, _⟩ | h1
   ·simp at h1
   ·exact h1
  refine ⟨v, he, hx.quiet, hx.size, hsame, ?_⟩
  rcases hR with ⟨l, ver, n, rl, rfl, h1, h2⟩ | ⟨rfl, nl, rfl⟩
  ·cases hvr with
   | tup cs _ hn hc =>
    refine .tup cs _ hn fun i u x hu hx => ?_
    match i, hx with
    | 0, hx => cases hx; exact .c _ _ (.d _ _ (new_arr hr (inv_c (hc 0 u _ hu rfl)) h1 h2 hnew hsc))
    | 1, hx => cases hx; have := dr_intU (inv_d (hc 1 u _ hu rfl)); rw [this]; exact .c _ _ (.d _ _ (.int _ _))
  ·cases hvr with
   | tup cs _ hn hc =>
    refine .tup cs _ hn fun i u x hu hx => ?_
    match i, hx with
    | 0, hx =>
     cases hx
     have hd := inv_d (hc 0 u _ hu rfl)
     generalize hx : D.list nl 1 [] = x at hd
     cases hd with
     | nils nl' sz' => cases hx; exact .c _ _ (.d _ _ (.nils _ _))
     | emp a sz' => cases hx; exact .c _ _ (.d _ _ (.emp _ _))
     | sl b' off cap' sz' l' g hG hcap hmax hsz hc hr' =>
      cases hx
      exact .c _ _ (.d _ _ (.sl b' off cap' 1 [] g (fun h => absurd rfl h) hcap hmax (by simp) (by simp) (by simp)))
     | _ => cases hx
    | 1, hx => cases hx; have := dr_intU (inv_d (hc 1 u _ hu rfl)); rw [this]; exact .c _ _ (.d _ _ (.int _ _))
theorem pOrder_raw (P : Program) (hP : P = Try.prog) (t : Top) (a b : List Tn) (ra : idOk a) (rb : idOk b) : FnS P n_update_Order [topA t, tnsA a, tnsA b] [] (OrdR ((orderRes t a b).1.map encI) (orderRes t a b).2) := by
 by_cases hpp : properS t a = true ∧ properS t b = true
 rotate_left
 ·have hpr := prepare_no P hP t a b hpp
  refine heap_start (hP ▸ mixed) (hP ▸ fn_update_Order) (hP ▸ c_update_Order) (Nat.le_of_ble_eq_true rfl) fun Λ Λo K hK => ?_
  clear hP
  rw [orderRes, if_pos hpp] at hK
  have kz := fun h' => hK (.tup [.c (.d (.list true 1 [])), iA 1]) h' (.inr ⟨rfl, true, rfl⟩)
  clear hK
  simp only [tnsA, tnsD, intsA, intsD, List.map_nil] at *
  generalize a.map encTn = al at *
  generalize b.map encTn = bl at *
  obtain ⟨nodes, ov, links⟩ := t
  simp only [topA, boolsD, linksD] at *
  generalize hol : ov.map encB = ol at *
  generalize hll : links.map encLk = ll at *
  have hlo : Λ ol = ov.length := by rw [Λo, ← hol]; simp
  have hls : Λ ll = links.length := by rw [Λo, ← hll]; simp
  conv => cbv
  repeat' first | (refine call_r hpr rfl rfl ?_; conv => cbv) | exact gu | exact trivial | refine And.intro ?_ ?_ | (intro hc; exact absurd hc (by decide)) | (intro hc; exfalso; omega) | (intro hc; (first | rw [wrap_small (by omega) (by omega)] at hc | rw [nI_eq] at hc | skip); try (conv => cbv))
  exact kz _
 have hres : orderRes t a b = (if ¬ ((stepsT t a b).Fit 0 (-1) ∧ (stepsT t a b).Fit (fullM (changedS a b).length) (-1)) then ([], 12)
   else match dfs (stepsT t a b) (changedS a b).length 0 [] with
   | none => ([], 8)
   | some o => (o.map fun i => (changedS a b).getD i 0, 0) : List Int × Int) := by
  rw [orderRes, if_neg (not_not_intro hpp)]; rfl
 obtain ⟨p1, p2⟩ := hpp
 have hpr := prepare_yes P hP t a b ra rb p1 p2
 have hsm := sml_steps p1 p2
 have hft := fun m hm mi => pjfits_ok P hP t (changedS a b) (stepsT t a b) rfl hsm rfl (fun _ => rfl) m hm mi
 have hfi := pfirst_ok P hP t (changedS a b) (stepsT t a b) rfl hsm rfl (fun _ => rfl)
 rw [jobC_J] at hpr
 have hc24 := ch_len24 p1 p2
 have hfo : FnOk P n_update_Order_1 := hP ▸ ⟨_, fn_update_Order_1, rfl, by decide⟩
 have hJn : (stepsT t a b).n = (changedS a b).length := rfl
 refine heap_start (hP ▸ mixed) (hP ▸ fn_update_Order) (hP ▸ c_update_Order) (Nat.le_of_ble_eq_true rfl) fun Λ Λo K hK => ?_
 clear hP p1 p2 hsm
 rw [hres] at hK
 clear hres
 generalize stepsT t a b = J at *
 generalize changedS a b = ch at *
 rw [← hJn] at hK hc24
 have h0 := hft 0 (by decide) (-1)
 have h1 := hft (fullM J.n) (full_lt (by omega)) (-1)
 have bad : ¬ (J.Fit 0 (-1) ∧ J.Fit (fullM J.n) (-1)) → ∀ h', K (.tup [.c (.d (.list true 1 [])), iA 12]) h' := fun h h' => by
  rw [if_pos h] at hK; exact hK _ _ (.inr ⟨rfl, true, rfl⟩)
 have gnone : J.Fit 0 (-1) → J.Fit (fullM J.n) (-1) → dfs J J.n 0 [] = none → ∀ h', K (.tup [.c (.d (.list true 1 [])), iA 8]) h' := fun h h2 h3 h' => by
  rw [if_neg (not_not_intro ⟨h, h2⟩), h3] at hK; exact hK _ _ (.inr ⟨rfl, true, rfl⟩)
 have gsome : J.Fit 0 (-1) → J.Fit (fullM J.n) (-1) → ∀ o, dfs J J.n 0 [] = some o → ∀ l v n rl h', h'[l]? = some (Blk.da rl v 1 ((o.map fun i => ch.getD i 0).map encI)) → n = o.length → K (.tup [.c (.arr l v 0 n), iA 0]) h' := fun h h2 o h3 l v n rl h' h4 h5 => by
  rw [if_neg (not_not_intro ⟨h, h2⟩), h3] at hK; exact hK _ _ (.inl ⟨l, v, n, rl, rfl, h4, by rw [h5]; simp⟩)
 clear hK hft
 obtain ⟨F0, hF0⟩ : ∃ F, F = decide (J.Fit 0 (-1)) := ⟨_, rfl⟩
 obtain ⟨F1, hF1⟩ : ∃ F, F = decide (J.Fit (fullM J.n) (-1)) := ⟨_, rfl⟩
 obtain ⟨bz, hbz⟩ : ∃ bz : Int, bz = ((2 ^ J.n : Nat) : Int) := ⟨_, rfl⟩
 obtain ⟨fz, hfz⟩ : ∃ fz : Int, fz = (fullM J.n : Nat) := ⟨_, rfl⟩
 rw [← hF0] at h0
 rw [← hF1, ← hfz] at h1
 have hf0 : F0 = true ↔ J.Fit 0 (-1) := by rw [hF0]; exact decide_eq_true_iff
 have hf1 : F1 = true ↔ J.Fit (fullM J.n) (-1) := by rw [hF1]; exact decide_eq_true_iff
 clear hF0 hF1
 have hsq := fun o (h : dfs J J.n 0 [] = some o) => dfs_seq J.n 0 [] o h
 generalize hdf : dfs J J.n 0 [] = df at *
 have hdo : ∀ o, df = some o → (∀ i ∈ o, i < J.n) ∧ o.length = J.n := fun o h => by
  obtain ⟨s, e1, e2, e3, _⟩ := hsq o h
  rw [List.nil_append] at e1
  subst e1
  exact ⟨fresh_lt e3, e2⟩
 clear hsq hdf
 have hcl : ∀ i, i < J.n → (ch.map encI)[i]? = some [iD (ch.getD i 0)] := fun i hi => by
  rw [List.getElem?_map, List.getD_eq_getElem?_getD, List.getElem?_eq_getElem (by omega)]; rfl
 have hcln : Λ (ch.map encI) = J.n := by rw [Λo, List.length_map, hJn]
 obtain ⟨nz, hnz⟩ : ∃ nz : Int, nz = (J.n : Int) := ⟨_, rfl⟩
 simp only [stepH, frstH, fnsA, jobJ, tabD, tnsA, tnsD, intsA, intsD, boolsD, linksD, List.map_nil, List.cons_append, List.nil_append] at *
 generalize a.map encTn = al at *
 generalize b.map encTn = bl at *
 have hres2 : ∀ o : List Nat, ordR ch o o.length = (o.map fun i => ch.getD i 0).map encI := ordR_all ch
 generalize ch.map encI = cl at *
 generalize arrS J.w J.S = sl at *
 generalize (rowsF J.n J.w J.B).map (fun l => [D.list false 1 l]) = rb at *
 generalize (rowsF J.n J.w J.A).map (fun l => [D.list false 1 l]) = ra at *
 obtain ⟨nodes, ov, links⟩ := t
 simp only [topA, boolsD, linksD] at *
 generalize hol : ov.map encB = ol at *
 generalize hll : links.map encLk = ll at *
 have hlo : Λ ol = ov.length := by rw [Λo, ← hol]; simp
 have hls : Λ ll = links.length := by rw [Λo, ← hll]; simp
 cases F0 with
 | false =>
  have k1 := bad fun h => by have := hf0.2 h.1; cases this
  clear hfi gnone gsome bad hdo hcl
  conv => cbv
  repeat' first | (refine call_r hpr rfl rfl ?_; conv => cbv) | (refine call_r h0 rfl rfl ?_; conv => cbv) | exact gu | exact trivial | refine And.intro ?_ ?_ | (intro hc; exact absurd hc (by decide)) | (intro hc; exfalso; omega) | (intro hc; (first | rw [wrap_small (by omega) (by omega)] at hc | rw [nI_eq] at hc | skip); try (conv => cbv))
  exact k1 _
 | true =>
  cases F1 with
  | false =>
   have k1 := bad fun h => by have := hf1.2 h.2; cases this
   clear hfi gnone gsome bad hdo hcl
   conv => cbv
   repeat' first | (refine call_r hpr rfl rfl ?_; conv => cbv) | (refine call_r h0 rfl rfl ?_; conv => cbv) | (intro (c : Int) hc; refine (fun (hz : bz = c) => ?_) (hbz.trans (shlU hcln (by omega) hc).symm); subst hz; (conv => cbv)) | (intro (c : Int) hc; refine (fun (hz : fz = c) => ?_) (hfz.trans (fullU (b := 0) (by omega) hbz hc).symm); subst hz; (conv => cbv)) | (refine call_r h1 rfl rfl ?_; conv => cbv) | exact gu | exact trivial | refine And.intro ?_ ?_ | (intro hc; exact absurd hc (by decide)) | (intro hc; exfalso; omega) | (intro hc; (first | rw [wrap_small (by omega) (by omega)] at hc | rw [nI_eq] at hc | skip); try (conv => cbv))
   exact k1 _
  | true =>
   have hfi := hfi (hf0.1 rfl) (hf1.1 rfl)
   rw [← hcln] at hfi
   have gnone := gnone (hf0.1 rfl) (hf1.1 rfl)
   have gsome := gsome (hf0.1 rfl) (hf1.1 rfl)
   clear bad
   cases df with
   | none =>
    simp only at hfi
    have gnone := gnone rfl
    clear hdo gsome
    conv => cbv
    repeat' first | (refine call_r hpr rfl rfl ?_; conv => cbv) | (refine call_r h0 rfl rfl ?_; conv => cbv) | (intro (c : Int) hc; refine (fun (hz : bz = c) => ?_) (hbz.trans (shlU hcln (by omega) hc).symm); subst hz; (conv => cbv)) | (intro (c : Int) hc; refine (fun (hz : fz = c) => ?_) (hfz.trans (fullU (b := 0) (by omega) hbz hc).symm); subst hz; (conv => cbv)) | (refine call_r h1 rfl rfl ?_; conv => cbv) | (refine call_fr [2, 1] hfi rfl rfl (by decide) (by repeat' first | exact trivial | refine And.intro ?_ ?_ | rfl) rfl rfl ?_; rintro r hc' ⟨sh, mx, v, es, rl, ve, el, rfl, rfl⟩; (conv => cbv)) | exact gu | exact trivial | refine And.intro ?_ ?_ | (intro hc; exact absurd hc (by decide)) | (intro hc; exfalso; omega) | (intro hc; (first | rw [wrap_small (by omega) (by omega)] at hc | rw [nI_eq] at hc | skip); try (conv => cbv))
    exact gnone _
   | some o =>
    simp only at hfi
    have good := gsome o rfl
    clear gnone gsome
    obtain ⟨ho1, ho2⟩ := hdo o rfl
    clear hdo
    obtain ⟨no, hno⟩ : ∃ no, no = o.length := ⟨_, rfl⟩
    rw [← hno] at hfi ho2
    simp only [← hres2] at good
    have hr0 := ordR_zero ch o
    rw [← hr0] at hfi
    have hrl := fun k => ordR_len (ch := ch) (o := o) (k := k)
    have hra2 := fun k i => ordR_at (ch := ch) (o := o) (k := k) (i := i)
    have hrs := fun k i => ordR_set (ch := ch) (o := o) (k := k) (i := i)
    rw [← hno] at hrl good
    generalize ordR ch o = oR at *
    obtain ⟨el0, hel0⟩ : ∃ el0, el0 = oR 0 := ⟨_, rfl⟩
    rw [← hel0] at hfi
    conv => cbv
    repeat' first | (refine call_r hpr rfl rfl ?_; conv => cbv) | (refine call_r h0 rfl rfl ?_; conv => cbv) | (intro (c : Int) hc; refine (fun (hz : bz = c) => ?_) (hbz.trans (shlU hcln (by omega) hc).symm); subst hz; (conv => cbv)) | (intro (c : Int) hc; refine (fun (hz : fz = c) => ?_) (hfz.trans (fullU (b := 0) (by omega) hbz hc).symm); subst hz; (conv => cbv)) | (refine call_r h1 rfl rfl ?_; conv => cbv) | (refine call_fr [2, 1] hfi rfl rfl (by decide) (by repeat' first | exact trivial | refine And.intro ?_ ?_ | rfl) rfl rfl ?_; rintro r hc' ⟨sh, mx, v, es, rl, ve, el, rfl, rfl, hel⟩; (conv => cbv)) | exact gu | exact trivial | refine And.intro ?_ ?_ | (intro hc; exact absurd hc (by decide)) | (intro hc; exfalso; omega) | (intro hc; (first | rw [wrap_small (by omega) (by omega)] at hc | rw [nI_eq] at hc | skip); try (conv => cbv))
    subst hel
    rename_i noz hnoz
    have hrl2 : el.length = no := by rw [hel0]; exact hrl 0
    refine loop_up no (fun s : Int × List (List D) => [(8, .c (.ptr 1 0 0 0)), (11, .c (.arr 6 ve 0 no)), (56, .c (.arr 6 ve 0 no)), (57, iA noz), (58, iA s.1)])
     (fun s => [.bx [.d (iD nodes), .d (.list false 1 ol), .d (.list false 7 ll)], .bx [.rp [iD nodes, .list false 1 ol, .list false 7 ll, .list false 1 cl, .list false 1 sl, .list false 1 rb, .list false 1 ra]], .bx [.fn false n_update_Order_1 []], .bx [.d (iD (Λ cl)), .fn true n_update_job_fits [.rp [iD nodes, .list false 1 ol, .list false 7 ll, .list false 1 cl, .list false 1 sl, .list false 1 rb, .list false 1 ra]], .fn false n_update_Order_2 [.ptr 2 0 0 0, .ptr 1 0 0 0], .fn false n_update_Order_3 [.ptr 2 0 0 0, .ptr 1 0 0 0]], .mp v es, .bx [.d (iD (Λ cl)), .fn true n_update_job_fits [.rp [iD nodes, .list false 1 ol, .list false 7 ll, .list false 1 cl, .list false 1 sl, .list false 1 rb, .list false 1 ra]], .fn false n_update_Order_2 [.ptr 2 0 0 0, .ptr 1 0 0 0], .fn false n_update_Order_3 [.ptr 2 0 0 0, .ptr 1 0 0 0], .d (.int .u32 sh), .d (.int .u32 mx), .mp 4], .da rl ve 1 s.2])
     (fun k s => s.1 = k ∧ k ≤ no ∧ s.2 = oR k) (0, el) (Wk.ca) ⟨rfl, by omega, hel0⟩ (fun k s h => h.2.1) ?_
    rintro k ⟨i, e1⟩ Q' ⟨hi, hk, he1⟩ norm ex rt
    simp only at hi he1
    have he1l : e1.length = no := by rw [he1]; exact hrl k
    by_cases hlt : k < no
    ·clear good
     obtain ⟨x, hx⟩ : ∃ x, o[k]? = some x := ⟨_, List.getElem?_eq_getElem (by omega)⟩
     have hxl := ho1 x (List.mem_of_getElem? hx)
     obtain ⟨kk, hkk⟩ : ∃ kk, kk = k := ⟨_, rfl⟩
     obtain ⟨xz, hxz⟩ : ∃ xz : Int, xz = (x : Int) := ⟨_, rfl⟩
     have hek : e1[kk]? = some [iD xz] := by rw [he1, hkk, hxz]; exact hra2 k x hx
     have hxt : xz.toNat = x := by omega
     have hcx : cl[xz.toNat]? = some [iD (ch.getD x 0)] := by rw [hxt]; exact hcl x hxl
     have hst := hrs k x hx
     rw [← he1, ← hkk] at hst
     generalize ch.getD x 0 = gx at *
     clear hcl hra2 hrs hrl
     conv => cbv
     repeat' first | (intro (k : Nat) hk; refine (fun (hz : kk = k) => ?_) ?_; rotate_left; omega; subst hz; (conv => cbv)) | (intro (e : List D) he; cases Option.some.inj (he.symm.trans hek); (conv => cbv)) | (intro (e : List D) he; cases Option.some.inj (he.symm.trans hcx); (conv => cbv)) | exact gu | exact trivial | refine And.intro ?_ ?_ | (intro hc; exact absurd hc (by decide)) | (intro hc; exfalso; omega) | (intro hc; (first | rw [wrap_small (by omega) (by omega)] at hc | rw [nI_eq] at hc | skip); try (conv => cbv))
     refine norm _ _ (_, _) ?_ (Wk.ca)
     refine ⟨by simp only; omega, by omega, ?_⟩
     simp only
     rw [← hkk, ← hst]; assumption
    ·obtain rfl : k = no := by omega
     have lf := good 6 ve k rl
     rw [← he1] at lf
     conv => cbv
     repeat' first | (refine ex _ _ _ ?_; (conv => cbv)) | (refine rt _ _ ?_; (conv => cbv)) | exact gu | exact trivial | refine And.intro ?_ ?_ | (intro hc; exact absurd hc (by decide)) | (intro hc; exfalso; omega) | (intro hc; (first | rw [wrap_small (by omega) (by omega)] at hc | rw [nI_eq] at hc | skip); try (conv => cbv))
     exact lf _ rfl rfl
theorem pOrder_fr (P : Program) (hP : P = Try.prog) (t : Top) (a b : List Tn) (ra : idOk a) (rb : idOk b) : FrS P n_update_Order [topA t, tnsA a, tnsA b] (.tup [intsA (orderRes t a b).1, iA (orderRes t a b).2]) :=
 FrS.of_tup (pOrder_raw P hP t a b ra rb) fun e he d hd => by
  obtain ⟨x, _, rfl⟩ := List.mem_map.1 he
  simp only [encI, List.mem_singleton] at hd
  subst hd; rfl
theorem pOrder_ok (P : Program) (hP : P = Try.prog) (t : Top) (a b : List Tn) (ra : idOk a) (rb : idOk b) : Ret P n_update_Order [topA t, tnsA a, tnsA b] (.tup [intsA (orderRes t a b).1, iA (orderRes t a b).2]) :=
 (FnS.fresh (h := []) (pOrder_fr P hP t a b ra rb) rfl).mono fun r' h' ⟨_, h⟩ => by rw [h]; exact ⟨rfl, rfl⟩
end Go.Ab

/-
  Updates, part u: small functions of the laws.
-/
namespace Go.Ab
open Go.Proofs
theorem program48_ok (P : Program) (hP : P = Try.prog) (l : List Tn) (h70 : ∀ x ∈ l, x.arcs.length ≤ 70) (hl : l.length ≤ 1000) : Ret P n_law48_program [tnsA l] (tnsA l) := by
 refine ret_start (hP ▸ mixed) (hP ▸ fn_law48_program) (hP ▸ c_law48_program) (Nat.le_of_ble_eq_true rfl) fun Λ Λo K hK => ?_
 clear hP
 have leaf : ∀ y, y = l.map encTn → K (.c (.d (.list false 3 y))) := fun y hy => by rw [hy]; exact hK
 clear hK
 simp only [tnsA, tnsD] at *
 generalize llh : l.map encTn = ll at *
 have lln : Λ ll = l.length := by rw [Λo, ← llh]; simp
 have lll : ll.length = l.length := by rw [← llh]; simp
 conv => cbv
 repeat' first | exact gu | exact trivial | refine And.intro ?_ ?_ | (intro hc; exact absurd hc (by decide)) | (intro hc; exfalso; omega) | (intro hc; (first | rw [wrap_small (by omega) (by omega)] at hc | rw [nI_eq] at hc | skip); try (conv => cbv))
 refine loop_up l.length (fun s : Int × Nat × Nat × Bool × List (List D) => [(0, .c (.d (.list false 3 ll))), (3, .c (.arr 0 s.2.1 0 s.2.2.1)), (4, iA s.1)]) (fun s => [.da s.2.2.2.1 s.2.1 3 s.2.2.2.2])
  (fun k s => s.1 = k ∧ k ≤ l.length ∧ s.2.2.1 = k ∧ s.2.2.2.2 = ll.take k) (0, 0, 0, false, []) (.trans (.nilS 3 3 rfl) (Wk.cw)) ⟨rfl, by omega, rfl, rfl⟩ (fun k s h => h.2.1) ?_
 rintro k ⟨i, ve, no, r, es⟩ Q' ⟨hi, hk, hno, hes⟩ norm ex rt
 simp only at hi hno hes
 have hesl : es.length = no := by rw [hes, List.length_take]; omega
 by_cases hlt : k < l.length
 ·clear leaf
  obtain ⟨x, hx⟩ : ∃ x, l[k]? = some x := ⟨_, List.getElem?_eq_getElem hlt⟩
  have hxa := elt_at llh hi hx
  have h70x := h70 x (List.mem_of_getElem? hx)
  obtain ⟨xi, xa, xr⟩ := x
  simp only [encTn, intsD] at hxa h70x
  obtain ⟨xl, xlh⟩ : ∃ xl, xl = xa.map encI := ⟨_, rfl⟩
  rw [← xlh] at hxa
  have xll : xl.length = xa.length := by rw [xlh]; simp
  have htk := take_succ_get (l := ll) (k := k) (x := [iD xi, .list false 1 xl, iD xr]) (by rw [← hxa, hi]; rfl)
  obtain ⟨e1, he1⟩ : ∃ e1, e1 = [] ++ xl := ⟨_, rfl⟩
  obtain ⟨n1, hn1⟩ : ∃ n1, n1 = 0 + xl.length := ⟨_, rfl⟩
  have hte : List.take n1 e1 = xl := by rw [he1, List.nil_append, List.take_of_length_le (by omega)]
  conv => cbv
  repeat' first | (refine ex _ _ _ ?_; (conv => cbv)) | (refine rt _ _ ?_; (conv => cbv)) | (intro e he; cases Option.some.inj (he.symm.trans hxa); (conv => cbv)) | (intro (m : Nat) (r : Bool) (y : List (List D)) hm hr hy; refine (fun (hz : n1 = m) (hz2 : e1 = y) => ?_) (by first | omega | (simp only [List.length_cons, List.length_nil] at hm; omega)) (by first | (rw [hy, List.drop_zero, List.take_of_length_le (by omega)]; exact he1) | (rw [hy]; exact he1)); subst hz; subst hz2; (conv => cbv)) | exact gu | exact trivial | refine And.intro ?_ ?_ | (intro hc; exact absurd hc (by decide)) | (intro hc; exfalso; omega) | (intro hc; (first | rw [wrap_small (by omega) (by omega)] at hc | rw [nI_eq] at hc | skip); try (conv => cbv))
  rename_i n2 r2 y hn2 hr2 hy i2
  have hy2 : y = es ++ [[iD xi, .list false 1 (List.take n1 e1), iD xr]] := by
   rw [hy, List.drop_zero, List.take_of_length_le (by omega)]
   clear hte hy he1 hn1 hn2
   cases n1 <;> cases e1 <;> rfl
  have hn3 : n2 = no + 1 := hn2
  refine norm _ _ (i2, ve.succ, n2, r2, y) ?_ (Wk.cw)
  refine ⟨by simp only; omega, by omega, by simp only; omega, ?_⟩
  simp only
  rw [hy2, hte, htk, hes]
 ·rw [List.take_of_length_le (by omega)] at hes
  conv => cbv
  repeat' first | (refine ex _ _ _ ?_; (conv => cbv)) | (refine rt _ _ ?_; (conv => cbv)) | exact gu | exact trivial | refine And.intro ?_ ?_ | (intro hc; exact absurd hc (by decide)) | (intro hc; exfalso; omega) | (intro hc; (first | rw [wrap_small (by omega) (by omega)] at hc | rw [nI_eq] at hc | skip); try (conv => cbv))
  exact leaf _ (by rw [hc, List.drop_zero, List.take_of_length_le (by omega), hes])
theorem small48_ok (P : Program) (hP : P = Try.prog) (t : Top) (a b : List Tn) (most : Int) : Ret P n_law48_small [topA t, .agg [.d (tnsD a), .d (tnsD b)], iA most] (bA (decide (t.links.length ≤ 10) && (decide (t.ov.length ≤ 20) && (fewS a most && fewS b most)))) := by
 have h1 := rfew_ok P hP a most
 have h2 := rfew_ok P hP b most
 refine ret_start (hP ▸ mixed) (hP ▸ fn_law48_small) (hP ▸ c_law48_small) (Nat.le_of_ble_eq_true rfl) fun Λ Λo K hK => ?_
 clear hP
 simp only [tnsA, tnsD] at *
 generalize fewS a most = F1 at *
 generalize fewS b most = F2 at *
 generalize a.map encTn = al at *
 generalize b.map encTn = bl at *
 have leaf : ∀ b, b = (decide (t.links.length ≤ 10) && (decide (t.ov.length ≤ 20) && (F1 && F2))) → K (bA b) := fun b h => by rw [h]; exact hK
 clear hK
 obtain ⟨nodes, ov, links⟩ := t
 simp only [topA, boolsD, linksD] at *
 generalize hol : ov.map encB = ol at *
 generalize hll : links.map encLk = ll at *
 have hlo : Λ ol = ov.length := by rw [Λo, ← hol]; simp
 have hls : Λ ll = links.length := by rw [Λo, ← hll]; simp
 conv => cbv
 repeat' first | refine call_b h1 rfl rfl ?_ ?_ | refine call_b h2 rfl rfl ?_ ?_ | exact gu | exact trivial | refine And.intro ?_ ?_ | (intro hc; exact absurd hc (by decide)) | (intro hc; exfalso; omega) | (intro hc; (first | rw [wrap_small (by omega) (by omega)] at hc | rw [nI_eq] at hc | skip); try (conv => cbv))
 all_goals refine leaf _ ?_
 all_goals first
  | (rw [decide_eq_false (by omega)]; rfl)
  | (rw [decide_eq_true (show links.length ≤ 10 by omega), decide_eq_false (by omega)]; rfl)
  | (rw [decide_eq_true (show links.length ≤ 10 by omega), decide_eq_true (show ov.length ≤ 20 by omega)]; simp_all)
end Go.Ab

/-
  Updates, part v: the examples of the document.
-/
namespace Go.Ab
open Go.Proofs
def parL : Lk := ⟨0, 1, 1, 1, 2, 1, 0⟩
def parT : Top := ⟨2, [], [parL, parL]⟩
theorem parallel_ok (P : Program) (hP : P = Try.prog) : Ret P n_law48_parallel [] (topA parT) := by
 refine ret_start (hP ▸ mixed) (hP ▸ fn_law48_parallel) (hP ▸ c_law48_parallel) (Nat.le_of_ble_eq_true rfl) fun Λ Λo K hK => ?_
 clear hP
 conv => cbv
 repeat' first | (intro (y : List (List D)) hy; subst hy; (conv => cbv)) | exact gu | exact trivial | refine And.intro ?_ ?_ | (intro hc; exact absurd hc (by decide)) | (intro hc; exfalso; omega) | (intro hc; (first | rw [wrap_small (by omega) (by omega)] at hc | rw [nI_eq] at hc | skip); try (conv => cbv))
 exact hK
def exA (r : Int) : List Tn := [⟨1, [0], r⟩, ⟨2, [2], r⟩]
def exB (r : Int) : List Tn := [⟨1, [2], r⟩, ⟨2, [0], r⟩]
theorem ex_one : orderRes parT (exA 1) (exB 1) = ([1, 2], 0) := by decide
theorem ex_two : orderRes parT (exA 2) (exB 2) = ([], 8) := by decide
theorem ex_prop : properS parT (exA 2) = true := by decide
theorem awake48_ok (P : Program) (hP : P = Try.prog) : Ret P n_law48_awake [] (bA true) := by
 have ida : ∀ r, idOk (exA r) := fun r x hx => by simp only [exA, List.mem_cons, List.not_mem_nil, or_false] at hx; rcases hx with rfl | rfl <;> simp only <;> omega
 have idb : ∀ r, idOk (exB r) := fun r x hx => by simp only [exB, List.mem_cons, List.not_mem_nil, or_false] at hx; rcases hx with rfl | rfl <;> simp only <;> omega
 have h1 := pOrder_fr P hP parT (exA 1) (exB 1) (ida 1) (idb 1)
 have h2 := pOrder_fr P hP parT (exA 2) (exB 2) (ida 2) (idb 2)
 rw [ex_one] at h1
 rw [ex_two] at h2
 have h3 := pproper_ok P hP parT (exA 2)
 rw [ex_prop] at h3
 have h4 := parallel_ok P hP
 have h5 := sameInts_ok P hP [1, 2] [1, 2]
 rw [decide_eq_true rfl] at h5
 refine ret_start (hP ▸ mixed) (hP ▸ fn_law48_awake) (hP ▸ c_law48_awake) (Nat.le_of_ble_eq_true rfl) fun Λ Λo K hK => ?_
 clear hP
 conv => cbv
 repeat' first | (refine call_r h4 rfl rfl ?_; (conv => cbv)) | (refine look_fr h1 rfl ?_; (conv => cbv)) | (refine look_fr h2 rfl ?_; (conv => cbv)) | (refine look_b h3 rfl ?_ ?_) | (refine call_b h5 rfl rfl ?_ ?_) | (refine look_b h5 rfl ?_ ?_) | (intro (k : Nat) hk; refine (fun (hz : 0 = k) => ?_) ?_; rotate_left; omega; subst hz; (conv => cbv)) | (intro (k : Nat) hk; refine (fun (hz : 1 = k) => ?_) ?_; rotate_left; omega; subst hz; (conv => cbv)) | (intro (e : List D) (he : some _ = some e); cases he; (conv => cbv)) | (intro (x : List (List D)) hx; subst hx; (conv => cbv)) | exact gu | exact trivial | refine And.intro ?_ ?_ | (intro hc; exact absurd hc (by decide)) | (intro hc; exfalso; omega) | (intro hc; (first | rw [wrap_small (by omega) (by omega)] at hc | rw [nI_eq] at hc | skip); try (conv => cbv))
 exact hK
end Go.Ab

/-
  Updates, part w: the laws that compare with the reference.
-/
namespace Go.Ab
open Go.Proofs
abbrev plansA (a b : List Tn) : AV := .agg [.d (tnsD a), .d (tnsD b)]
def smallS (t : Top) (a b : List Tn) (most : Int) : Bool := decide (t.links.length ≤ 10) && (decide (t.ov.length ≤ 20) && (fewS a most && fewS b most))
theorem fewS_spec {l : List Tn} {most : Int} (h : fewS l most = true) : (∀ x ∈ l, x.arcs.length ≤ 70) ∧ (l.length : Int) ≤ most := by
 simp only [fewS, Bool.and_eq_true, decide_eq_true_eq] at h; exact h
theorem small_spec {t : Top} {a b : List Tn} {most : Int} (h : smallS t a b most = true) : ((∀ x ∈ a, x.arcs.length ≤ 70) ∧ (a.length : Int) ≤ most) ∧ (∀ x ∈ b, x.arcs.length ≤ 70) ∧ (b.length : Int) ≤ most := by
 simp only [smallS, Bool.and_eq_true] at h
 exact ⟨fewS_spec h.2.2.1, fewS_spec h.2.2.2⟩
theorem prog_few {P : Program} (hP : P = Try.prog) {l : List Tn} {most : Int} (h : (∀ x ∈ l, x.arcs.length ≤ 70) ∧ (l.length : Int) ≤ most) (hm : most ≤ 1000) : Ret P n_law48_program [tnsA l] (tnsA l) :=
 program48_ok P hP l h.1 (by have := h.2; omega)
end Go.Ab

/-
  Updates, part y: orders that are found, and orders that are safe.
-/
namespace Go.Ab
open Go.Proofs
theorem mask_bit_lt {ch o : List Int} (ho : ∀ x ∈ o, x ∈ ch) {i : Nat} (h : (maskS ch o).testBit i = true) : i < ch.length := by
 rw [maskS, fold_tb] at h
 rcases h with h | ⟨x, hx, rfl⟩
 ·simp at h
 ·exact idx_lt (ho x hx)
theorem goodD_take {ch o : List Int} (hg : goodD ch o) (k : Nat) : goodD ch (o.take k) :=
 ⟨hg.1.sublist (List.take_sublist _ _), fun x hx => hg.2 x (List.mem_of_mem_take hx)⟩
theorem cnt_mask {ch o : List Int} (hc : ch.Nodup) (hg : goodD ch o) : ∀ k, k ≤ o.length → cnt ch.length (maskS ch (o.take k)) + k = ch.length := by
 intro k
 induction k with
 | zero => intro _; rw [List.take_zero, show maskS ch [] = 0 from rfl, cnt_none]; rfl
 | succ k ih =>
  intro hk
  have hx : o[k]? = some (o[k]) := List.getElem?_eq_getElem (by omega)
  have h1 := ih (by omega)
  have hxc := hg.2 _ (List.mem_of_getElem? hx)
  have hjx := idx_get hxc
  have hb : (maskS ch (o.take k)).testBit (ch.idxOf o[k]) = false := by
   rw [Bool.eq_false_iff]
   intro h
   exact nodup_atU hg.1 hx ((mask_tb hc (goodD_take hg k).2 hjx).1 h)
  have h2 := cnt_set hb (idx_lt hxc)
  rw [take_succ_get hx, mask_snoc]
  omega
theorem mask_all {ch o : List Int} (hc : ch.Nodup) (hg : goodD ch o) (hl : o.length = ch.length) : maskS ch o = fullM ch.length := by
 have h1 := cnt_mask hc hg o.length (Nat.le_refl _)
 rw [List.take_length] at h1
 have h2 := cnt_zero (n := ch.length) (m := maskS ch o) (by omega)
 apply Nat.eq_of_testBit_eq
 intro i
 rw [Bool.eq_iff_iff, full_tb]
 exact ⟨mask_bit_lt hg.2, fun h => h2 i h⟩
theorem all_in {ch o : List Int} (hc : ch.Nodup) (hg : goodD ch o) (hl : o.length = ch.length) : ∀ x ∈ ch, x ∈ o := fun x hx => by
 have h1 := mask_all hc hg hl
 have h2 := mask_tb hc hg.2 (idx_get hx)
 rw [h1, full_tb] at h2
 exact h2.1 (idx_lt hx)
theorem fresh_map {J : Stps} {ch : List Int} (hn : J.n = ch.length) (hc : ch.Nodup) : ∀ (rest pre : List Int), goodD ch (pre ++ rest) → Fresh J (maskS ch pre) (rest.map ch.idxOf) := by
 intro rest
 induction rest with
 | nil => intro pre _; trivial
 | cons x r ih =>
  intro pre hg
  have hxc : x ∈ ch := hg.2 x (by simp)
  refine ⟨by rw [hn]; exact idx_lt hxc, ?_, ?_⟩
  ·rw [Bool.eq_false_iff]
   intro h
   have h1 := (mask_tb hc (fun y hy => hg.2 y (by simp [hy])) (idx_get hxc)).1 h
   have h2 := hg.1
   rw [List.nodup_append] at h2
   exact h2.2.2 x h1 x (by simp) rfl
  ·rw [← mask_snoc]
   exact ih (pre ++ [x]) (by rw [List.append_assoc]; exact hg)
theorem fresh_nodup {J : Stps} : ∀ {s : List Nat} {m : Nat}, Fresh J m s → s.Nodup ∧ ∀ i ∈ s, m.testBit i = false := by
 intro s
 induction s with
 | nil => intro m _; exact ⟨.nil, by simp⟩
 | cons x r ih =>
  intro m h
  obtain ⟨h1, h2⟩ := ih h.2.2
  refine ⟨List.nodup_cons.2 ⟨fun hx => ?_, h1⟩, fun i hi => ?_⟩
  ·have := h2 x hx; rw [tb_set_self] at this; cases this
  ·rcases List.mem_cons.1 hi with rfl | hi
   ·exact h.2.1
   ·have := h2 i hi
    rw [tb_set] at this
    simp only [Bool.or_eq_false_iff] at this
    exact this.1
structure Safe (t : Top) (a b : List Tn) (o : List Int) : Prop where
 pa : properS t a = true
 pb : properS t b = true
 good : goodD (changedS a b) o
 len : o.length = (changedS a b).length
 fit : (stepsT t a b).Fit 0 (-1)
 seq : Seq (stepsT t a b) 0 (o.map (changedS a b).idxOf)
theorem safe_check {t : Top} {a b : List Tn} {o : List Int} : checkRes t a b o = 0 ↔ Safe t a b o := by
 constructor
 ·intro h
  rw [checkRes] at h
  split at h
  ·cases h
  ·rename_i hp
   have hp := Classical.not_not.1 hp
   split at h
   ·cases h
   ·rename_i hg
    have hg := Classical.not_not.1 hg
    split at h
    ·rename_i hs; exact ⟨hp.1, hp.2, hg.1, hg.2, hs.1, hs.2⟩
    ·cases h
 ·intro h
  rw [checkRes, if_neg (not_not_intro ⟨h.pa, h.pb⟩), if_neg (not_not_intro ⟨h.good, h.len⟩), if_pos ⟨h.fit, h.seq⟩]
theorem safe_full {t : Top} {a b : List Tn} {o : List Int} (h : Safe t a b o) : (stepsT t a b).Fit (fullM (changedS a b).length) (-1) := by
 have hc := lt_nodup (changed_inc a b)
 rw [← mask_all hc h.good h.len]
 have hq := seq_iff (J := stepsT t a b) (ch := changedS a b) o []
 rw [show maskS (changedS a b) [] = 0 from rfl] at hq
 simp only [List.nil_append] at hq
 have h1 := hq.1 h.seq
 rcases Nat.eq_zero_or_pos o.length with h0 | h0
 ·rw [List.eq_nil_of_length_eq_zero h0]; exact h.fit
 ·have hx : o[o.length - 1]? = some (o[o.length - 1]) := List.getElem?_eq_getElem (by omega)
  have := (h1 _ _ hx).2
  rw [show o.length - 1 + 1 = o.length by omega, List.take_length] at this
  exact this
theorem safe_order {t : Top} {a b : List Tn} {o : List Int} (h : Safe t a b o) : (orderRes t a b).2 = 0 := by
 have hc := lt_nodup (changed_inc a b)
 have hfr := fresh_map (J := stepsT t a b) (ch := changedS a b) rfl hc o [] (by simpa using h.good)
 have hcan := seq_can _ _ hfr h.seq
 rw [List.length_map, h.len] at hcan
 have hs := (dfs_can (J := stepsT t a b) (changedS a b).length 0 []).2 hcan
 rw [orderRes, if_neg (not_not_intro ⟨h.pa, h.pb⟩), if_neg (not_not_intro ⟨h.fit, safe_full h⟩)]
 cases hd : dfs (stepsT t a b) (changedS a b).length 0 [] with
 | none => rw [hd] at hs; cases hs
 | some s => rfl
theorem getD_idx {ch : List Int} (hc : ch.Nodup) : ∀ {s : List Nat}, (∀ i ∈ s, i < ch.length) → (s.map fun i => ch.getD i 0).map ch.idxOf = s := by
 intro s
 induction s with
 | nil => intro _; rfl
 | cons i s ih =>
  intro h
  rw [List.map_cons, List.map_cons, ih fun j hj => h j (by simp [hj])]
  have hi := h i (by simp)
  have : ch[i]? = some (ch.getD i 0) := by rw [List.getD_eq_getElem?_getD, List.getElem?_eq_getElem hi]; rfl
  rw [nodup_idx hc this]
theorem order_safe {t : Top} {a b : List Tn} (h : (orderRes t a b).2 = 0) : Safe t a b (orderRes t a b).1 := by
 rw [orderRes] at h
 rw [orderRes]
 split
 ·rename_i hp; rw [if_pos hp] at h; cases h
 ·rename_i hp
  rw [if_neg hp] at h
  have hp2 := Classical.not_not.1 hp
  split
  ·rename_i hf; rw [if_pos hf] at h; cases h
  ·rename_i hf
   rw [if_neg hf] at h
   have hf2 := Classical.not_not.1 hf
   cases hd : dfs (stepsT t a b) (changedS a b).length 0 [] with
   | none => rw [hd] at h; cases h
   | some s =>
    simp only
    have hc := lt_nodup (changed_inc a b)
    obtain ⟨s2, e1, e2, e3, e4⟩ := dfs_seq _ _ _ _ hd
    rw [List.nil_append] at e1
    subst e1
    have hlt : ∀ i ∈ s, i < (changedS a b).length := fresh_lt e3
    have hid := getD_idx hc hlt
    have hnd := (fresh_nodup e3).1
    refine ⟨hp2.1, hp2.2, ⟨?_, ?_⟩, by rw [List.length_map]; exact e2, hf2.1, by rw [hid]; exact e4⟩
    ·rw [← hid] at hnd
     exact (List.pairwise_map.1 hnd).imp fun h e => h (by rw [e])
    ·intro x hx
     obtain ⟨i, hi, rfl⟩ := List.mem_map.1 hx
     rw [List.getD_eq_getElem?_getD, List.getElem?_eq_getElem (hlt i hi)]
     exact List.getElem_mem _
end Go.Ab

/-
  Updates, part gb: the law that an order that is found is safe.
-/
namespace Go.Ab
open Go.Proofs
theorem sinc_extU : ∀ {a b : List Int}, a.Pairwise (· < ·) → b.Pairwise (· < ·) → (∀ x, x ∈ a ↔ x ∈ b) → a = b
 | [], [], _, _, _ => rfl
 | [], y :: b, _, _, h => absurd ((h y).2 (by simp)) (by simp)
 | x :: a, [], _, _, h => absurd ((h x).1 (by simp)) (by simp)
 | x :: a, y :: b, ha, hb, h => by
  rw [List.pairwise_cons] at ha hb
  have e : x = y := by
   rcases List.mem_cons.1 ((h x).1 (by simp)) with e | e
   ·exact e
   ·rcases List.mem_cons.1 ((h y).2 (by simp)) with e2 | e2
    ·exact e2.symm
    ·have := ha.1 y e2; have := hb.1 x e; omega
  subst e
  rw [sinc_extU ha.2 hb.2 fun z => ⟨fun hz => ?_, fun hz => ?_⟩]
  ·rcases List.mem_cons.1 ((h z).1 (List.mem_cons_of_mem _ hz)) with e | e
   ·have := ha.1 z hz; omega
   ·exact e
  ·rcases List.mem_cons.1 ((h z).2 (List.mem_cons_of_mem _ hz)) with e | e
   ·have := hb.1 z hz; omega
   ·exact e
theorem safe_mom {t : Top} {a b : List Tn} {o : List Int} (h : Safe t a b o) {i : Nat} {mv : Int} (hi : i ≤ o.length) (hm : mv = -1 ∨ o[i]? = some mv) :
  loadsRes t a b (o.take i) mv = (loadsS t a b (o.take i) mv, 0) ∧ fitsS t (loadsS t a b (o.take i) mv) = true := by
 have hg := goodD_take h.good i
 have hin : ∀ k, ∀ y ∈ o.take k, y ∈ changedS a b := fun k y hy => h.good.2 y (List.mem_of_mem_take hy)
 have hs := (seq_ref h.pa h.pb h.good).1 h.seq
 refine ⟨?_, ?_⟩
 ·rw [loadsRes, if_neg (not_not_intro ⟨h.pa, h.pb⟩), if_neg (not_not_intro hg), if_neg]
  rintro ⟨h1, h2⟩
  have hx := hm.resolve_left h1
  exact h2 ⟨h.good.2 _ (List.mem_of_getElem? hx), nodup_atU h.good.1 hx⟩
 ·by_cases h1 : mv = -1
  ·subst h1
   cases i with
   | zero =>
    have := (fit_iff h.pa h.pb (hin 0) (mv := -1) (mi := -1) (.inl ⟨rfl, rfl⟩)).2
    exact this h.fit
   | succ j => exact (hs j o[j] (List.getElem?_eq_getElem (by omega))).2
  ·exact (hs i mv (hm.resolve_left h1)).1
end Go.Ab

/-
  Updates, part gd: the law of the opposite update.
-/
namespace Go.Ab
open Go.Proofs
theorem ids_comm (a b : List Tn) : idsS a b = idsS b a := sinc_extU (idsS_inc a b) (idsS_inc b a) fun x => by rw [idsS_mem, idsS_mem]; exact Or.comm
theorem eqS_comm (a b : List Tn) (z : Int) : eqS a b z = eqS b a z := by
 rw [eqS, eqS, Bool.eq_iff_iff, decide_eq_true_iff, decide_eq_true_iff]
 exact ⟨Eq.symm, Eq.symm⟩
theorem chS_comm (a b : List Tn) : chS a b = chS b a := sinc_extU (chS_inc a b) (chS_inc b a) fun x => by rw [chS_mem, chS_mem, eqS_comm]; exact and_congr_left fun _ => Or.comm
theorem changed_comm (a b : List Tn) : changedS a b = changedS b a := by
 rw [changedS, changedS, chS_comm a b]
 by_cases h : namedS a = true ∧ namedS b = true
 ·rw [if_pos h, if_pos h.symm]
 ·rw [if_neg h, if_neg fun h' => h h'.symm]
theorem rate_same {a b : List Tn} {id : Int} (h : eqS a b id = true) (e : Int) : rateS a id e = rateS b id e := by
 rw [rateS, rateS, of_decide_eq_true h]
theorem loads_opp {t : Top} {a b : List Tn} (ha : properS t a = true) (hb : properS t b = true) {d d' : List Int} {mv : Int} (hd : ∀ x ∈ d, x ∈ changedS a b) (hd' : ∀ x ∈ d', x ∈ changedS a b)
  (h : ∀ x ∈ changedS a b, x ∈ d' ↔ x ∉ d ∧ x ≠ mv) (hm : mv ∉ d) : loadsS t b a d' mv = loadsS t a b d mv := by
 have hce := changed_eq ha hb
 rw [loadsS, loadsS]
 refine List.map_congr_left fun n _ => ?_
 rw [loadS, loadS, ids_comm b a]
 congr 1
 refine List.map_congr_left fun id hid => ?_
 by_cases hc : id ∈ changedS a b
 ·rw [ctS, ctS]
  by_cases h1 : id ∈ d
  ·have h2 : id ∉ d' := fun h' => ((h id hc).1 h').1 h1
   have h3 : ¬ id = mv := fun e => hm (e ▸ h1)
   rw [if_neg h2, if_neg h3, if_pos h1]
  ·by_cases h3 : id = mv
   ·have h2 : id ∉ d' := fun h' => ((h id hc).1 h').2 h3
    rw [if_neg h2, if_pos h3, if_neg h1, if_pos h3, Int.max_comm]
   ·rw [if_pos ((h id hc).2 ⟨h1, h3⟩), if_neg h1, if_neg h3]
 ·have hr : rateS a id n = rateS b id n := by
   refine rate_same ?_ n
   rw [hce, chS_mem] at hc
   cases he : eqS a b id with
   | true => rfl
   | false => exact absurd ⟨idsS_mem.1 hid, he⟩ hc
  rw [ctS, ctS, if_neg (fun h' => hc (hd' _ h')), if_neg (fun h' => hc (hd _ h')), hr, Int.max_self, ite_self]
theorem ch_pos {t : Top} {a b : List Tn} (ha : properS t a = true) (hb : properS t b = true) : ∀ x ∈ changedS a b, 0 ≤ x := by
 intro x hx
 rw [changed_eq ha hb, chS_mem] at hx
 rcases hx.1 with h | h
 ·obtain ⟨y, hy, rfl⟩ := List.mem_map.1 h; exact ((properS_spec.1 ha).2.2 y hy).1
 ·obtain ⟨y, hy, rfl⟩ := List.mem_map.1 h; exact ((properS_spec.1 hb).2.2 y hy).1
theorem safe_rev {t : Top} {a b : List Tn} {o : List Int} (h : Safe t a b o) : Safe t b a o.reverse := by
 have hc := lt_nodup (changed_inc a b)
 have hall := all_in hc h.good h.len
 have hpos := ch_pos h.pa h.pb
 have hg : goodD (changedS b a) o.reverse := ⟨(List.reverse_perm o).nodup_iff.2 h.good.1, fun x hx => by rw [changed_comm b a]; exact h.good.2 x (List.mem_reverse.1 hx)⟩
 have hopp : ∀ j ≤ o.length, ∀ mv, (mv = -1 ∨ o[j]? = some mv) → ∀ d', (∀ x, x ∈ d' ↔ x ∈ o.drop j ∧ x ≠ mv) → fitsS t (loadsS t b a d' mv) = true := fun j hj mv hm d' hd' => by
  have h1 := (safe_mom h hj hm).2
  have hin : ∀ x ∈ o.take j, x ∈ changedS a b := fun x hx => h.good.2 x (List.mem_of_mem_take hx)
  rw [loads_opp h.pa h.pb hin (fun x hx => h.good.2 x (List.mem_of_mem_drop ((hd' x).1 hx).1)) ?_ ?_]
  ·exact h1
  ·intro x hx
   rw [hd']
   have hxo := hall x hx
   rw [← List.take_append_drop j o, List.mem_append] at hxo
   have hn := h.good.1
   rw [← List.take_append_drop j o, List.nodup_append] at hn
   exact ⟨fun h' => ⟨fun h2 => hn.2.2 x h2 x h'.1 rfl, h'.2⟩, fun h' => ⟨hxo.resolve_left h'.1, h'.2⟩⟩
  ·rcases hm with rfl | hm
   ·intro h2; have := hpos _ (hin _ h2); omega
   ·exact nodup_atU h.good.1 hm
 have hne : ∀ x ∈ o, x ≠ -1 := fun x hx e => by have := hpos x (h.good.2 x hx); omega
 refine ⟨h.pb, h.pa, hg, by rw [List.length_reverse, h.len, changed_comm], ?_, ?_⟩
 ·refine (fit_iff (done := []) h.pb h.pa (by simp) (mv := -1) (mi := -1) (.inl ⟨rfl, rfl⟩)).1 ?_
  exact hopp o.length (Nat.le_refl _) (-1) (.inl rfl) [] (by simp)
 ·rw [seq_ref h.pb h.pa hg]
  intro i x hx
  have hi := get_lt hx
  rw [List.length_reverse] at hi
  rw [List.getElem?_reverse hi] at hx
  obtain ⟨j, hj⟩ : ∃ j, j = o.length - 1 - i := ⟨_, rfl⟩
  rw [← hj] at hx
  have hjl := get_lt hx
  have hdr : o.drop j = x :: o.drop (j + 1) := by
   rw [List.drop_eq_getElem_cons hjl]
   rw [List.getElem?_eq_getElem hjl] at hx
   rw [Option.some.inj hx]
  have hnx : x ∉ o.drop (j + 1) := by
   have hn := h.good.1.sublist (List.drop_sublist j o)
   rw [hdr] at hn
   exact (List.nodup_cons.1 hn).1
  constructor
  ·refine hopp j (by omega) x (.inr hx) _ fun y => ?_
   rw [List.take_reverse, List.mem_reverse, show o.length - i = j + 1 by omega, hdr, List.mem_cons]
   exact ⟨fun h' => ⟨.inr h', fun e => hnx (e ▸ h')⟩, fun h' => h'.1.resolve_left h'.2⟩
  ·refine hopp j (by omega) (-1) (.inl rfl) _ fun y => ?_
   rw [List.take_reverse, List.mem_reverse, show o.length - (i + 1) = j by omega]
   exact ⟨fun h' => ⟨h', hne y (List.mem_of_mem_drop h')⟩, fun h' => h'.1⟩
theorem fit_full {t : Top} {a b : List Tn} (ha : properS t a = true) (hb : properS t b = true) : (stepsT t b a).Fit 0 (-1) ↔ (stepsT t a b).Fit (fullM (changedS a b).length) (-1) := by
 have hc := lt_nodup (changed_inc a b)
 have hg : goodD (changedS a b) (changedS a b) := ⟨hc, fun x hx => hx⟩
 have h1 := fit_iff (done := []) hb ha (by simp) (mv := -1) (mi := -1) (.inl ⟨rfl, rfl⟩)
 have h2 := fit_iff (done := changedS a b) ha hb (fun x hx => hx) (mv := -1) (mi := -1) (.inl ⟨rfl, rfl⟩)
 rw [mask_all hc hg rfl] at h2
 rw [loads_opp ha hb (d := changedS a b) (d' := []) (fun x hx => hx) (by simp) (fun x hx => by simp [hx]) (fun h => by have := ch_pos ha hb _ h; omega)] at h1
 exact h1.symm.trans h2
theorem order_err {t : Top} {a b : List Tn} : (orderRes t a b).2 = (orderRes t b a).2 := by
 by_cases hp : properS t a = true ∧ properS t b = true
 rotate_left
 ·rw [orderRes, orderRes, if_pos hp, if_pos fun h => hp h.symm]
 have f1 := fit_full hp.1 hp.2
 have f2 := fit_full hp.2 hp.1
 have key : ((orderRes t a b).2 = 0 ↔ (orderRes t b a).2 = 0) := ⟨fun h => safe_order (safe_rev (order_safe h)), fun h => safe_order (safe_rev (order_safe h))⟩
 rw [orderRes, orderRes, if_neg (not_not_intro hp), if_neg (not_not_intro hp.symm)] at key ⊢
 by_cases hf : (stepsT t a b).Fit 0 (-1) ∧ (stepsT t a b).Fit (fullM (changedS a b).length) (-1)
 rotate_left
 ·rw [if_pos hf, if_pos fun h => hf ⟨f2.2 h.2, f1.1 h.1⟩]
 rw [if_neg (not_not_intro hf), if_neg (not_not_intro ⟨f1.2 hf.2, f2.1 hf.1⟩)] at key ⊢
 split at key <;> split at key <;> first | rfl | (exact absurd (key.1 rfl) (by decide)) | (exact absurd (key.2 rfl) (by decide)) | skip
 all_goals first | (simp_all; done) | skip
theorem law48_reverse (P : Program) (hP : P = Try.prog) (t : Top) (a b : List Tn) (ra : idOk a) (rb : idOk b) : Ret P n_law48_UpdateReverse [topA t, plansA a b] (bA true) := by
 have h0 := awake48_ok P hP
 have h1 : Ret P n_law48_small [topA t, plansA a b, iA 8] (bA (smallS t a b 8)) := small48_ok P hP t a b 8
 cases hs : smallS t a b 8 with
 | false =>
  rw [hs] at h1
  refine ret_start (hP ▸ mixed) (hP ▸ fn_law48_UpdateReverse) (hP ▸ c_law48_UpdateReverse) (Nat.le_of_ble_eq_true rfl) fun Λ Λo K hK => ?_
  clear hP
  simp only [plansA, tnsA, tnsD, intsA, intsD] at *
  generalize a.map encTn = al at *
  generalize b.map encTn = bl at *
  obtain ⟨nodes, ov, links⟩ := t
  simp only [topA, boolsD, linksD] at *
  generalize hol : ov.map encB = ol at *
  generalize hll : links.map encLk = ll at *
  have hlo : Λ ol = ov.length := by rw [Λo, ← hol]; simp
  have hls : Λ ll = links.length := by rw [Λo, ← hll]; simp
  conv => cbv
  repeat' first | refine call_b h0 rfl rfl ?_ ?_ | refine call_b h1 rfl rfl ?_ ?_ | exact gu | exact trivial | refine And.intro ?_ ?_ | (intro hc; exact absurd hc (by decide)) | (intro hc; exfalso; omega) | (intro hc; (first | rw [wrap_small (by omega) (by omega)] at hc | rw [nI_eq] at hc | skip); try (conv => cbv))
  exact hK
 | true =>
  have hsp := small_spec hs
  have h2 := prog_few hP hsp.1 (by decide)
  have h3 := prog_few hP hsp.2 (by decide)
  have h4 := pOrder_ok P hP t a b ra rb
  have h5 := pOrder_ok P hP t b a rb ra
  rw [← order_err] at h5
  rw [hs] at h1
  by_cases he : (orderRes t a b).2 = 0
  rotate_left
  ·refine ret_start (hP ▸ mixed) (hP ▸ fn_law48_UpdateReverse) (hP ▸ c_law48_UpdateReverse) (Nat.le_of_ble_eq_true rfl) fun Λ Λo K hK => ?_
   clear hP
   generalize orderRes t a b = c at *
   generalize orderRes t b a = d at *
   obtain ⟨c1, c2⟩ := c
   simp only at he
   simp only [plansA, tnsA, tnsD, intsA, intsD] at *
   generalize a.map encTn = al at *
   generalize b.map encTn = bl at *
   generalize c1.map encI = cl at *
   generalize d.1.map encI = dl at *
   obtain ⟨nodes, ov, links⟩ := t
   simp only [topA, boolsD, linksD] at *
   generalize hol : ov.map encB = ol at *
   generalize hll : links.map encLk = ll at *
   have hlo : Λ ol = ov.length := by rw [Λo, ← hol]; simp
   have hls : Λ ll = links.length := by rw [Λo, ← hll]; simp
   conv => cbv
   repeat' first | refine call_b h0 rfl rfl ?_ ?_ | refine call_b h1 rfl rfl ?_ ?_ | (refine call_r h2 rfl rfl ?_; conv => cbv) | (refine call_r h3 rfl rfl ?_; conv => cbv) | (refine call_r h4 rfl rfl ?_; conv => cbv) | (refine call_r h5 rfl rfl ?_; conv => cbv) | exact gu | exact trivial | refine And.intro ?_ ?_ | (intro hc; exact absurd hc (by decide)) | (intro hc; exfalso; omega) | (intro hc; (first | rw [wrap_small (by omega) (by omega)] at hc | rw [nI_eq] at hc | skip); try (conv => cbv))
   all_goals exact hK
  have hsf := order_safe he
  have hc16 : (changedS a b).length ≤ 24 := by
   rw [changedS]
   split
   ·rw [chS]
    have := fold_len (p := fun i => eqS a b i) ((a ++ b).map (·.id)) []
    simp only [List.length_map, List.length_append, List.length_nil] at this
    have := hsp.1.2; have := hsp.2.2; omega
   ·simp
  have hol : (orderRes t a b).1.length ≤ 24 := by rw [hsf.len]; exact hc16
  have h6 := pCheck_ok P hP t b a rb ra (orderRes t a b).1.reverse
  rw [safe_check.2 (safe_rev hsf)] at h6
  refine ret_start (hP ▸ mixed) (hP ▸ fn_law48_UpdateReverse) (hP ▸ c_law48_UpdateReverse) (Nat.le_of_ble_eq_true rfl) fun Λ Λo K hK => ?_
  clear hP hsf hs hsp
  generalize orderRes t a b = c at *
  generalize orderRes t b a = d at *
  obtain ⟨o, c2⟩ := c
  simp only at he hol h4 h5 h6
  subst he
  simp only [plansA, tnsA, tnsD, intsA, intsD] at *
  generalize a.map encTn = al at *
  generalize b.map encTn = bl at *
  generalize d.1.map encI = dl at *
  obtain ⟨bk, hbk⟩ : ∃ bk, bk = o.reverse.map encI := ⟨_, rfl⟩
  rw [← hbk] at h6
  have bkl : bk.length = o.length := by rw [hbk]; simp
  generalize olh : o.map encI = ol' at *
  have oln : Λ ol' = o.length := by rw [Λo, ← olh]; simp
  obtain ⟨nodes, ov, links⟩ := t
  simp only [topA, boolsD, linksD] at *
  generalize hol : ov.map encB = ol at *
  generalize hll : links.map encLk = ll at *
  have hlo : Λ ol = ov.length := by rw [Λo, ← hol]; simp
  have hls : Λ ll = links.length := by rw [Λo, ← hll]; simp
  conv => cbv
  repeat' first | refine call_b h0 rfl rfl ?_ ?_ | refine call_b h1 rfl rfl ?_ ?_ | (refine call_r h2 rfl rfl ?_; conv => cbv) | (refine call_r h3 rfl rfl ?_; conv => cbv) | (refine call_r h4 rfl rfl ?_; conv => cbv) | (refine call_r h5 rfl rfl ?_; conv => cbv) | exact gu | exact trivial | refine And.intro ?_ ?_ | (intro hc; exact absurd hc (by decide)) | (intro hc; exfalso; omega) | (intro hc; (first | rw [wrap_small (by omega) (by omega)] at hc | rw [nI_eq] at hc | skip); try (conv => cbv))
  clear h0 h1 h2 h3 h4 h5
  rename_i i0 hi0
  refine loop_up o.length (fun s : Int × Nat × Nat × Bool × List (List D) => [(2, .c (.ptr 0 0 0 0)), (5, .c (.d (.list false 3 al))), (6, .c (.d (.list false 3 bl))), (7, .c (.d (.list false 1 ol'))), (11, .c (.arr 2 s.2.1 0 s.2.2.1)), (12, iA s.1)])
   (fun s => [.bx [.d (iD nodes), .d (.list false 1 ol), .d (.list false 7 ll)], .bx [.d (.list false 3 al), .d (.list false 3 bl)], .da s.2.2.2.1 s.2.1 1 s.2.2.2.2])
   (fun k s => s.1 = (o.length : Int) - 1 - k ∧ k ≤ o.length ∧ s.2.2.1 = k ∧ s.2.2.2.2 = bk.take k) (_, 0, 0, false, []) (.trans (.nilS 11 1 rfl) (Wk.cw)) ⟨by simp only; omega, by omega, rfl, by simp⟩ (fun k s h => h.2.1) ?_
  rintro k ⟨i, ve, no, r, es⟩ Q' ⟨hi, hk, hno, hes⟩ norm ex rt
  simp only at hi hno hes
  have esl : es.length = no := by rw [hes, List.length_take]; omega
  by_cases hlt : k < o.length
  ·obtain ⟨x, hx⟩ : ∃ x, o[o.length - 1 - k]? = some x := ⟨_, List.getElem?_eq_getElem (by omega)⟩
   have hxa := elt_at olh (i := i) (k := o.length - 1 - k) (by omega) hx
   have hbx : bk[k]? = some [iD x] := by
    rw [hbk, List.getElem?_map, List.getElem?_reverse hlt, hx]; rfl
   have htk := take_succ_get hbx
   clear h6
   conv => cbv
   repeat' first | (refine ex _ _ _ ?_; (conv => cbv)) | (refine rt _ _ ?_; (conv => cbv)) | (intro e he; cases Option.some.inj (he.symm.trans hxa); (conv => cbv)) | exact gu | exact trivial | refine And.intro ?_ ?_ | (intro hc; exact absurd hc (by decide)) | (intro hc; exfalso; omega) | (intro hc; (first | rw [wrap_small (by omega) (by omega)] at hc | rw [nI_eq] at hc | skip); try (conv => cbv))
   rename_i n2 r2 y hn2 hr2 hyo i2
   have hy2 : y = es ++ [[iD x]] := by rw [hyo, List.drop_zero, List.take_of_length_le (by omega)]
   refine norm _ _ (i2, ve.succ, n2, r2, y) ?_ (Wk.ca)
   refine ⟨by simp only; omega, by omega, hn2.trans (by rw [hno]; rfl), ?_⟩
   simp only
   rw [hy2, hes, htk]
  ·obtain rfl : k = o.length := by omega
   rw [List.take_of_length_le (by omega)] at hes
   subst hes
   have hnl : no = es.length := esl.symm
   conv => cbv
   repeat' first | (refine ex _ _ _ ?_; (conv => cbv)) | (refine rt _ _ ?_; (conv => cbv)) | (refine call_z 2 (ve) 1 no rfl hnl (by simp [okL, okA, okCs, okC, bq_lit]) (by first | (simp [okH, okB, okCs, okC]; done) | simp [okH, okB, okCs, okC, bq_lit]) ?_; simp only [zL, zA, zCs, zC, zH, zB, bq_self, bq_old]; conv => cbv) | (refine call_r h6 rfl rfl ?_; conv => cbv) | exact gu | exact trivial | refine And.intro ?_ ?_ | (intro hc; exact absurd hc (by decide)) | (intro hc; exfalso; omega) | (intro hc; (first | rw [wrap_small (by omega) (by omega)] at hc | rw [nI_eq] at hc | skip); try (conv => cbv))
   all_goals exact hK
end Go.Ab

