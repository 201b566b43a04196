/-
  Merged texts, part m.
-/
import Derived.Test.YtollegfnkaomeaaZl
/-
  Compressing, part b: halves of prefixes, and their order; the reference's prefixes.
-/
namespace Go.Ab
open Go.Proofs
theorem hi_or {a n : Int} (ha : inU a) (h0 : 0 ≤ n) (h1 : n < 32) (hv : a % szP n = 0) : ∀ c : Int, c = IntKind.u32.wrap (1 * 2 ^ (min (31 - n).toNat (IntKind.bits .u32))) → binD .or (.int .u32 a) (.int .u32 c) = some (.int .u32 (a + szP (n + 1))) := by
 intro c hc
 obtain ⟨m, hm⟩ : ∃ m : Nat, a = m := ⟨a.toNat, (Int.toNat_of_nonneg ha.1).symm⟩
 have hml : m < 4294967296 := by have := ha.2; omega
 have hk : szP (n + 1) = 2 ^ (31 - n.toNat) := by rw [szP, show 32 - (n + 1).toNat = 31 - n.toNat by omega]
 have hc2 := shlU (b := 31 - n) (i := 31 - n.toNat) (by omega) (by omega) hc
 refine orU hm hc2 hml (pow_lt32 (by omega)) ?_
 have hz : m % 2 ^ (31 - n.toNat + 1) = 0 := by
  rw [szP, show 32 - n.toNat = 31 - n.toNat + 1 by omega] at hv
  rw [hm] at hv
  omega
 rw [hm, hk]
 have : m ||| 2 ^ (31 - n.toNat) = m + 2 ^ (31 - n.toNat) := by
  have h1 := Nat.two_pow_add_eq_or_of_lt (i := 31 - n.toNat + 1) (b := 2 ^ (31 - n.toNat)) (by rw [Nat.pow_succ]; have := Nat.two_pow_pos (31 - n.toNat); omega) (m / 2 ^ (31 - n.toNat + 1))
  have h2 := Nat.div_add_mod m (2 ^ (31 - n.toNat + 1))
  rw [hz, Nat.add_zero] at h2
  rw [h2] at h1
  exact h1.symm
 rw [this]; omega
theorem psplit_ok (P : Program) (hP : P = Try.prog) (p : Pfx) (hp : inU p.addr) (hv : validP p = true) (h32 : p.len ≠ 32) : Ret P n_prefix_Split [pfA p] (.tup [pfA (loP p), pfA (hiP p), iA 0]) := by
 have hva := pvalid_ok P hP p hp
 obtain ⟨v0, v1, v2⟩ := of_decide_eq_true hv
 have hor := hi_or hp v0 (by omega) v2
 rw [hv] at hva
 refine ret_start (hP ▸ mixed) (hP ▸ fn_prefix_Split) (hP ▸ c_prefix_Split) (Nat.le_of_ble_eq_true rfl) fun Λ Λo K hK => ?_
 clear hP
 obtain ⟨addr, len⟩ := p
 simp only [loP, hiP] at *
 obtain ⟨n1, hn1⟩ : ∃ n1, n1 = len + 1 := ⟨_, rfl⟩
 obtain ⟨d, hd⟩ : ∃ d, d = 31 - len := ⟨_, rfl⟩
 rw [← hn1] at hor hK
 rw [← hd] at hor
 generalize addr + (szP n1 : Int) = y at *
 conv => cbv
 repeat' first | refine call_b hva rfl rfl ?_ ?_ | (intro (k : Int) hk; rw [wrap_small (by omega) (by omega)] at hk; refine (fun (hz : n1 = k) => ?_) ?_; rotate_left; omega; subst hz; (conv => cbv)) | (intro (k : Int) hk; rw [wrap_small (by omega) (by omega)] at hk; refine (fun (hz : d = k) => ?_) ?_; rotate_left; omega; subst hz; (conv => cbv)) | (refine ⟨.int .u32 y, hor _ (by assumption), ?_⟩; intro d' hd; subst hd; (conv => cbv)) | exact gu | exact trivial | refine And.intro ?_ ?_ | (intro hc; exact absurd hc (by decide)) | (intro hc; exfalso; omega) | (intro hc; (first | rw [wrap_small (by omega) (by omega)] at hc | rw [nI_eq] at hc | skip); try (conv => cbv))
 all_goals exact hK
/-! order -/
theorem nanU_ok (P : Program) (hP : P = Try.prog) (n : Int) : Ret P n_cmp_isNaN_uint32 [.c (.d (u32D n))] (bA false) := by
 refine ret_start (hP ▸ mixed) (hP ▸ fn_cmp_isNaN_uint32) (hP ▸ c_cmp_isNaN_uint32) (Nat.le_of_ble_eq_true rfl) fun Λ Λo K hK => ?_
 clear hP
 conv => cbv
 repeat' first | exact gu | exact trivial | refine And.intro ?_ ?_ | (intro hc; exact absurd hc (by decide)) | (intro hc; exfalso; omega) | (intro hc; (first | rw [wrap_small (by omega) (by omega)] at hc | rw [nI_eq] at hc | skip); try (conv => cbv))
 exact hK
theorem nanI_ok (P : Program) (hP : P = Try.prog) (n : Int) : Ret P n_cmp_isNaN_int [iA n] (bA false) := by
 refine ret_start (hP ▸ mixed) (hP ▸ fn_cmp_isNaN_int) (hP ▸ c_cmp_isNaN_int) (Nat.le_of_ble_eq_true rfl) fun Λ Λo K hK => ?_
 clear hP
 conv => cbv
 repeat' first | exact gu | exact trivial | refine And.intro ?_ ?_ | (intro hc; exact absurd hc (by decide)) | (intro hc; exfalso; omega) | (intro hc; (first | rw [wrap_small (by omega) (by omega)] at hc | rw [nI_eq] at hc | skip); try (conv => cbv))
 exact hK
def cmpZ (a b : Int) : Int := if a < b then -1 else if b < a then 1 else 0
theorem cmpU_ok (P : Program) (hP : P = Try.prog) (a b : Int) : Ret P n_cmp_Compare_uint32 [.c (.d (u32D a)), .c (.d (u32D b))] (iA (cmpZ a b)) := by
 have h1 := fun n => nanU_ok P hP n
 refine ret_start (hP ▸ mixed) (hP ▸ fn_cmp_Compare_uint32) (hP ▸ c_cmp_Compare_uint32) (Nat.le_of_ble_eq_true rfl) fun Λ Λo K hK => ?_
 clear hP
 have leaf : ∀ c, c = cmpZ a b → K (iA c) := fun c h => by rw [h]; exact hK
 clear hK
 conv => cbv
 repeat' first | refine call_b (h1 _) rfl rfl ?_ ?_ | exact gu | exact trivial | refine And.intro ?_ ?_ | (intro hc; exact absurd hc (by decide)) | (intro hc; exfalso; omega) | (intro hc; (first | rw [wrap_small (by omega) (by omega)] at hc | rw [nI_eq] at hc | skip); try (conv => cbv))
 all_goals refine leaf _ ?_
 all_goals rw [cmpZ]
 ·rw [if_pos (by omega)]
 ·rw [if_neg (by omega), if_pos (by omega)]
 ·rw [if_neg (by omega), if_neg (by omega)]
theorem cmpI_ok (P : Program) (hP : P = Try.prog) (a b : Int) : Ret P n_cmp_Compare_int [iA a, iA b] (iA (cmpZ a b)) := by
 have h1 := fun n => nanI_ok P hP n
 refine ret_start (hP ▸ mixed) (hP ▸ fn_cmp_Compare_int) (hP ▸ c_cmp_Compare_int) (Nat.le_of_ble_eq_true rfl) fun Λ Λo K hK => ?_
 clear hP
 have leaf : ∀ c, c = cmpZ a b → K (iA c) := fun c h => by rw [h]; exact hK
 clear hK
 conv => cbv
 repeat' first | refine call_b (h1 _) rfl rfl ?_ ?_ | exact gu | exact trivial | refine And.intro ?_ ?_ | (intro hc; exact absurd hc (by decide)) | (intro hc; exfalso; omega) | (intro hc; (first | rw [wrap_small (by omega) (by omega)] at hc | rw [nI_eq] at hc | skip); try (conv => cbv))
 all_goals refine leaf _ ?_
 all_goals rw [cmpZ]
 ·rw [if_pos (by omega)]
 ·rw [if_neg (by omega), if_pos (by omega)]
 ·rw [if_neg (by omega), if_neg (by omega)]
theorem or2_ok (P : Program) (hP : P = Try.prog) (a b : Int) : Ret P n_cmp_Or_int [.c (.d (.list false 1 [[iD a], [iD b]]))] (iA (if a = 0 then b else a)) := by
 refine ret_start (hP ▸ mixed) (hP ▸ fn_cmp_Or_int) (hP ▸ c_cmp_Or_int) (Nat.le_of_ble_eq_true rfl) fun Λ Λo K hK => ?_
 clear hP
 have y1 : a ≠ 0 → K (iA a) := fun h => by rw [if_neg h] at hK; exact hK
 have y2 : a = 0 → K (iA b) := fun h => by rw [if_pos h] at hK; exact hK
 clear hK
 obtain ⟨l, hl⟩ : ∃ l, l = [[iD a], [iD b]] := ⟨_, rfl⟩
 have hln : Λ l = 2 := by rw [Λo, hl]; rfl
 have g0 : l[(0 : Int).toNat]? = some [iD a] := by rw [hl]; rfl
 have g1 : l[(1 : Int).toNat]? = some [iD b] := by rw [hl]; rfl
 rw [← hl]
 clear hl
 conv => cbv
 repeat' first | exact gu | exact trivial | refine And.intro ?_ ?_ | (intro hc; exact absurd hc (by decide)) | (intro hc; exfalso; omega) | (intro hc; (first | rw [wrap_small (by omega) (by omega)] at hc | rw [nI_eq] at hc | skip); try (conv => cbv))
 refine loop_up 2 (fun i : Int => [(3, iA 0), (6, .c (.d (.list false 1 l))), (7, iA (Λ l)), (8, iA i)]) (fun _ => []) (fun k i => i = k ∧ k ≤ 2 ∧ (k = 1 → a = 0) ∧ (k = 2 → a = 0 ∧ b = 0)) 0 (Wk.cw) ⟨rfl, by omega, by omega, by omega⟩ (fun k s h => h.2.1) ?_
 rintro k i Q' ⟨hi, hk, h1, h2⟩ norm ex rt
 match k, hk with
 | 0, _ =>
  obtain rfl : i = 0 := hi
  conv => cbv
  repeat' first | (refine ex _ _ _ ?_; (conv => cbv)) | (refine rt _ _ ?_; (conv => cbv)) | (intro (e : List D) he; cases Option.some.inj (he.symm.trans g0); (conv => cbv)) | exact gu | exact trivial | refine And.intro ?_ ?_ | (intro hc; exact absurd hc (by decide)) | (intro hc; exfalso; omega) | (intro hc; (first | rw [wrap_small (by omega) (by omega)] at hc | rw [nI_eq] at hc | skip); try (conv => cbv))
  ·exact y1 (by assumption)
  ·rename_i i2
   refine norm _ _ i2 ?_ (Wk.cw)
   exact ⟨by omega, by omega, fun _ => (by assumption), by omega⟩
 | 1, _ =>
  obtain rfl : i = 1 := hi
  have h1 := h1 rfl
  conv => cbv
  repeat' first | (refine ex _ _ _ ?_; (conv => cbv)) | (refine rt _ _ ?_; (conv => cbv)) | (intro (e : List D) he; cases Option.some.inj (he.symm.trans g1); (conv => cbv)) | exact gu | exact trivial | refine And.intro ?_ ?_ | (intro hc; exact absurd hc (by decide)) | (intro hc; exfalso; omega) | (intro hc; (first | rw [wrap_small (by omega) (by omega)] at hc | rw [nI_eq] at hc | skip); try (conv => cbv))
  ·exact y2 h1
  ·rename_i i2
   refine norm _ _ i2 ?_ (Wk.cw)
   exact ⟨by omega, by omega, by omega, fun _ => ⟨h1, (by assumption)⟩⟩
 | 2, _ =>
  obtain ⟨ha, hb⟩ := h2 rfl
  have y2 := y2 ha
  rw [hb] at y2
  conv => cbv
  repeat' first | (refine ex _ _ _ ?_; (conv => cbv)) | (refine rt _ _ ?_; (conv => cbv)) | exact gu | exact trivial | refine And.intro ?_ ?_ | (intro hc; exact absurd hc (by decide)) | (intro hc; exfalso; omega) | (intro hc; (first | rw [wrap_small (by omega) (by omega)] at hc | rw [nI_eq] at hc | skip); try (conv => cbv))
  exact y2
theorem cmpP_eq (p q : Pfx) : cmpP p q = if cmpZ p.addr q.addr = 0 then cmpZ p.len q.len else cmpZ p.addr q.addr := by
 have e : (p = q) ↔ (p.addr = q.addr ∧ p.len = q.len) := ⟨fun h => by rw [h]; exact ⟨rfl, rfl⟩, fun h => Pfx.ext' h.1 h.2⟩
 rw [cmpP, cmpZ, cmpZ]
 simp only [e]
 by_cases h1 : p.addr < q.addr
 ·simp [h1]
 ·by_cases h2 : q.addr < p.addr
  ·have : ¬ p.addr = q.addr := by omega
   simp [h1, h2, this]
  ·have h3 : p.addr = q.addr := by omega
   simp only [h1, h2, h3, if_false, true_and, false_or, if_true]
   by_cases h4 : p.len < q.len
   ·simp [h4]
   ·by_cases h5 : q.len < p.len
    ·have : ¬ p.len = q.len := by omega
     simp [h4, h5, this]
    ·have : p.len = q.len := by omega
     simp [this]
theorem pcmp_ok (P : Program) (hP : P = Try.prog) (p q : Pfx) : Ret P n_prefix_Compare [pfA p, pfA q] (iA (cmpP p q)) := by
 have h1 := cmpU_ok P hP p.addr q.addr
 have h2 := cmpI_ok P hP p.len q.len
 have h3 := or2_ok P hP (cmpZ p.addr q.addr) (cmpZ p.len q.len)
 rw [← cmpP_eq] at h3
 refine ret_start (hP ▸ mixed) (hP ▸ fn_prefix_Compare) (hP ▸ c_prefix_Compare) (Nat.le_of_ble_eq_true rfl) fun Λ Λo K hK => ?_
 clear hP
 obtain ⟨pa, pl⟩ := p
 obtain ⟨qa, ql⟩ := q
 simp only at h1 h2 h3
 generalize cmpP _ _ = c at *
 generalize cmpZ pa qa = x at *
 generalize cmpZ pl ql = y at *
 conv => cbv
 repeat' first | (refine call_r h1 rfl rfl ?_; conv => cbv) | (refine call_r h2 rfl rfl ?_; conv => cbv) | (refine call_z 2 0 1 2 rfl rfl (by repeat' first | exact trivial | refine And.intro ?_ ?_ | rfl) (by repeat' first | exact trivial | refine And.intro ?_ ?_ | rfl) ?_; conv => cbv) | (refine call_r h3 rfl rfl ?_; conv => cbv) | exact gu | exact trivial | refine And.intro ?_ ?_ | (intro hc; exact absurd hc (by decide)) | (intro hc; exfalso; omega) | (intro hc; (first | rw [wrap_small (by omega) (by omega)] at hc | rw [nI_eq] at hc | skip); try (conv => cbv))
 all_goals exact hK
/-! the reference -/
theorem maskN_zero : maskN 0 = 0 := by rw [maskN, szP]; rfl
theorem maskN_succ {n : Int} (h0 : 0 ≤ n) (h1 : n < 32) : ∀ c : Int, c = IntKind.u32.wrap (1 * 2 ^ (min (31 - n).toNat (IntKind.bits .u32))) → binD .or (.int .u32 (maskN n)) (.int .u32 c) = some (.int .u32 (maskN (n + 1))) := by
 have hv : maskN n % szP n = 0 := by
  have h2 : (4294967296 : Int) = szP n * 2 ^ n.toNat := by
   rw [szP]
   have h3 : (2 : Nat) ^ (32 - n.toNat) * 2 ^ n.toNat = 4294967296 := by rw [← Nat.pow_add, show 32 - n.toNat + n.toNat = 32 by omega]
   have h4 : ((2 ^ n.toNat : Nat) : Int) = (2 : Int) ^ n.toNat := Int.natCast_pow 2 _
   rw [← h4, ← Int.natCast_mul, h3]; rfl
  rw [maskN, Int.sub_emod, Int.emod_self, h2, Int.mul_emod_right]; rfl
 have h := hi_or (a := maskN n) (n := n) (maskN_rg n) h0 h1 hv
 have e : maskN n + szP (n + 1) = maskN (n + 1) := by
  have := szP_split h0 h1
  rw [maskN, maskN]; omega
 rw [e] at h
 exact h
theorem rmask_ok (P : Program) (hP : P = Try.prog) (n : Int) (h0 : 0 ≤ n) (h1 : n ≤ 32) : Ret P n_ref04_mask [iA n] (.c (.d (u32D (maskN n)))) := by
 refine ret_start (hP ▸ mixed) (hP ▸ fn_ref04_mask) (hP ▸ c_ref04_mask) (Nat.le_of_ble_eq_true rfl) fun Λ Λo K hK => ?_
 clear hP
 obtain ⟨M, hM⟩ : ∃ M : Int → Int, M = maskN := ⟨_, rfl⟩
 have m0 : M 0 = 0 := by rw [hM]; exact maskN_zero
 have ms := fun k (q0 : 0 ≤ k) (q1 : k < 32) => maskN_succ (n := k) q0 q1
 rw [← hM] at hK ms
 clear hM
 conv => cbv
 repeat' first | exact gu | exact trivial | refine And.intro ?_ ?_ | (intro hc; exact absurd hc (by decide)) | (intro hc; exfalso; omega) | (intro hc; (first | rw [wrap_small (by omega) (by omega)] at hc | rw [nI_eq] at hc | skip); try (conv => cbv))
 refine loop_up n.toNat (fun s : Int × Int => [(0, iA n), (3, .c (.d (u32D s.2))), (4, iA s.1)]) (fun _ => []) (fun k s => s.1 = k ∧ k ≤ n.toNat ∧ s.2 = M k) (0, 0) (Wk.cw) ⟨rfl, by omega, m0.symm⟩ (fun k s h => h.2.1) ?_
 rintro k ⟨i, m⟩ Q' ⟨hi, hk, hm⟩ norm ex rt
 simp only at hi hm
 by_cases hlt : k < n.toNat
 ·have h2 := ms k (by omega) (by omega)
  rw [← hm, ← hi] at h2
  obtain ⟨d, hd⟩ : ∃ d, d = 31 - i := ⟨_, rfl⟩
  have hdw : IntKind.u64.wrap d = d := wrapu64 (by omega) (by omega)
  rw [← hd] at h2
  obtain ⟨m2, hm2⟩ : ∃ m2, m2 = M (i + 1) := ⟨_, rfl⟩
  rw [← hm2] at h2
  conv => cbv
  repeat' first | (refine ex _ _ _ ?_; (conv => cbv)) | (refine rt _ _ ?_; (conv => cbv)) | (intro (k : Int) hk; rw [wrap_small (by omega) (by omega)] at hk; refine (fun (hz : d = k) => ?_) ?_; rotate_left; omega; subst hz; (conv => cbv)) | (intro (c : Int) (hc : c = IntKind.u64.wrap d); refine (fun (hz : d = c) => ?_) (hdw.symm.trans hc.symm); subst hz; (conv => cbv)) | (refine ⟨.int .u32 m2, h2 _ (by assumption), ?_⟩; intro d' hd; subst hd; (conv => cbv)) | exact gu | exact trivial | refine And.intro ?_ ?_ | (intro hc; exact absurd hc (by decide)) | (intro hc; exfalso; omega) | (intro hc; (first | rw [wrap_small (by omega) (by omega)] at hc | rw [nI_eq] at hc | skip); try (conv => cbv))
  rename_i i2
  refine norm _ _ (i2, m2) ?_ (Wk.cw)
  have hi2 : i2 = i + 1 := by omega
  exact ⟨by simp only; omega, by omega, by simp only; rw [hm2, hi]; rfl⟩
 ·obtain rfl : k = n.toNat := by omega
  have hn : ((n.toNat : Nat) : Int) = n := by omega
  rw [hn] at hm
  rw [← hm] at hK
  conv => cbv
  repeat' first | (refine ex _ _ _ ?_; (conv => cbv)) | (refine rt _ _ ?_; (conv => cbv)) | exact gu | exact trivial | refine And.intro ?_ ?_ | (intro hc; exact absurd hc (by decide)) | (intro hc; exfalso; omega) | (intro hc; (first | rw [wrap_small (by omega) (by omega)] at hc | rw [nI_eq] at hc | skip); try (conv => cbv))
  exact hK
theorem rvalid04_ok (P : Program) (hP : P = Try.prog) (p : Pfx) (hp : inU p.addr) : Ret P n_ref04_Valid [pfA p] (bA (validP p)) := by
 have hmk := fun h0 h1 => rmask_ok P hP p.len h0 h1
 have hbt := fun h0 h1 => cont_bits (a := p.addr) (n := p.len) hp h0 h1
 refine ret_start (hP ▸ mixed) (hP ▸ fn_ref04_Valid) (hP ▸ c_ref04_Valid) (Nat.le_of_ble_eq_true rfl) fun Λ Λo K hK => ?_
 clear hP
 obtain ⟨addr, len⟩ := p
 have yes : 0 ≤ len → len ≤ 32 → addr % szP len = 0 → K (bA true) := fun h0 h1 h2 => by rw [validP, decide_eq_true (by exact ⟨h0, h1, h2⟩)] at hK; exact hK
 have no : ¬ (0 ≤ len ∧ len ≤ 32 ∧ addr % szP len = 0) → K (bA false) := fun h => by rw [validP, decide_eq_false h] at hK; exact hK
 clear hK
 simp only at hmk hbt
 generalize maskN len = mk at *
 generalize addr % (szP len : Int) = z at *
 obtain ⟨y, hy⟩ : ∃ y, y = addr - z := ⟨_, rfl⟩
 rw [← hy] at hbt
 by_cases hr : 0 ≤ len ∧ len ≤ 32
 ·have hb1 := hbt hr.1 hr.2
  have hmk := hmk hr.1 hr.2
  conv => cbv
  repeat' first | (refine call_r hmk rfl rfl ?_; conv => cbv) | (refine ⟨.int .u32 y, hb1, ?_⟩; intro d' hd; subst hd; (conv => cbv)) | exact gu | exact trivial | refine And.intro ?_ ?_ | (intro hc; exact absurd hc (by decide)) | (intro hc; exfalso; omega) | (intro hc; (first | rw [wrap_small (by omega) (by omega)] at hc | rw [nI_eq] at hc | skip); try (conv => cbv))
  all_goals first
   | exact yes hr.1 hr.2 (by omega)
   | exact no fun h => by omega
 ·have no := no fun h => hr ⟨h.1, h.2.1⟩
  clear hmk hbt yes
  conv => cbv
  repeat' first | exact gu | exact trivial | refine And.intro ?_ ?_ | (intro hc; exact absurd hc (by decide)) | (intro hc; exfalso; omega) | (intro hc; (first | rw [wrap_small (by omega) (by omega)] at hc | rw [nI_eq] at hc | skip); try (conv => cbv))
  all_goals exact no
theorem rcont_ok (P : Program) (hP : P = Try.prog) (p : Pfx) (x : Int) (hp : inU p.addr) (hx : inU x) : Ret P n_ref04_Contains [pfA p, .c (.d (u32D x))] (bA (contP p x)) := by
 have hva := rvalid04_ok P hP p hp
 have hmk := fun h0 h1 => rmask_ok P hP p.len h0 h1
 have hbt := fun h0 h1 => cont_bits (a := p.addr) (n := p.len) hx h0 h1
 have hci := @cont_iff p x
 have hvr : validP p = true → 0 ≤ p.len ∧ p.len ≤ 32 := fun h => ⟨(of_decide_eq_true h).1, (of_decide_eq_true h).2.1⟩
 refine ret_start (hP ▸ mixed) (hP ▸ fn_ref04_Contains) (hP ▸ c_ref04_Contains) (Nat.le_of_ble_eq_true rfl) fun Λ Λo K hK => ?_
 clear hP
 rw [contP] at hK
 generalize validP p = V at *
 obtain ⟨addr, len⟩ := p
 have yes : V = true → (addr ≤ x ∧ x < addr + szP len) → K (bA true) := fun h0 h1 => by rw [h0, decide_eq_true h1] at hK; exact hK
 have no : V = false ∨ ¬ (addr ≤ x ∧ x < addr + szP len) → K (bA false) := fun h => by
  rcases h with h | h
  ·rw [h] at hK; exact hK
  ·rw [decide_eq_false h, Bool.and_false] at hK; exact hK
 clear hK
 simp only at hmk hbt hci hvr
 generalize maskN len = mk at *
 generalize x - x % szP len = y at *
 cases V with
 | false =>
  have no := no (.inl rfl)
  clear hmk hbt yes hci
  conv => cbv
  repeat' first | refine call_b hva rfl rfl ?_ ?_ | exact gu | exact trivial | refine And.intro ?_ ?_ | (intro hc; exact absurd hc (by decide)) | (intro hc; exfalso; omega) | (intro hc; (first | rw [wrap_small (by omega) (by omega)] at hc | rw [nI_eq] at hc | skip); try (conv => cbv))
  all_goals exact no
 | true =>
  obtain ⟨r0, r1⟩ := hvr rfl
  have hb1 := hbt r0 r1
  have hmk := hmk r0 r1
  have hci := hci rfl
  conv => cbv
  repeat' first | refine call_b hva rfl rfl ?_ ?_ | (refine call_r hmk rfl rfl ?_; conv => cbv) | (refine ⟨.int .u32 y, hb1, ?_⟩; intro d' hd; subst hd; (conv => cbv)) | exact gu | exact trivial | refine And.intro ?_ ?_ | (intro hc; exact absurd hc (by decide)) | (intro hc; exfalso; omega) | (intro hc; (first | rw [wrap_small (by omega) (by omega)] at hc | rw [nI_eq] at hc | skip); try (conv => cbv))
  all_goals first
   | exact yes rfl (hci.1 (by assumption))
   | exact no (.inr fun h => absurd (hci.2 h) (by assumption))
end Go.Ab

