/-
  Merged texts, part q.
-/
import Derived.Test.YtollegfnkaomeaaZp
/-
  Compressing: the longest prefix that two addresses share, in plain terms.
-/
namespace Go.Ab
open Go.Proofs
def comP (r n : Pfx) : Int := 32 - (lenU (r.addr.toNat ^^^ n.addr.toNat) : Nat)
def fkP (r n : Pfx) : Pfx := ⟨r.addr - r.addr % szP (comP r n), comP r n⟩
theorem xor_high {a b L : Nat} (h : a ^^^ b < 2 ^ L) : a / 2 ^ L = b / 2 ^ L := by
 have h1 : (a ^^^ b) >>> L = 0 := by rw [Nat.shiftRight_eq_div_pow]; exact Nat.div_eq_of_lt h
 rw [Nat.shiftRight_xor_distrib] at h1
 rw [← Nat.shiftRight_eq_div_pow, ← Nat.shiftRight_eq_div_pow]
 exact Nat.eq_of_testBit_eq fun i => by
  have := congrArg (fun z => z.testBit i) h1
  simp only [Nat.testBit_xor, Nat.zero_testBit] at this
  cases h2 : (a >>> L).testBit i <;> cases h3 : (b >>> L).testBit i <;> simp_all
theorem xor_bit {a b L : Nat} (h : 2 ^ L ≤ a ^^^ b) (h' : a ^^^ b < 2 ^ (L + 1)) : a / 2 ^ L % 2 ≠ b / 2 ^ L % 2 := by
 have hb : (a ^^^ b).testBit L = true := by
  rw [Nat.testBit_eq_decide_div_mod_eq]
  have : (a ^^^ b) / 2 ^ L = 1 := by
   have hp := Nat.two_pow_pos L
   have h1 := (Nat.le_div_iff_mul_le hp).2 (by rw [Nat.one_mul]; exact h)
   have h2 := (Nat.div_lt_iff_lt_mul hp).2 (show a ^^^ b < 2 * 2 ^ L by rw [Nat.pow_succ] at h'; omega)
   omega
  rw [this]; rfl
 rw [Nat.testBit_xor, Nat.testBit_eq_decide_div_mod_eq, Nat.testBit_eq_decide_div_mod_eq] at hb
 intro e
 rw [e] at hb
 simp at hb
theorem fork_ok {r n : Pfx} (hr : validP r = true) (ur : inU r.addr) (hn : validP n = true) (un : inU n.addr) (c1 : covP r n = false) (c2 : covP n r = false) : ForkP r n (fkP r n) ∧ 0 ≤ comP r n ∧ comP r n < 32 := by
 obtain ⟨r0, r1, r2⟩ := valid_spec.1 hr
 obtain ⟨n0, n1, n2⟩ := valid_spec.1 hn
 obtain ⟨u0, u1⟩ := ur
 obtain ⟨v0, v1⟩ := un
 obtain ⟨a, ha⟩ : ∃ a : Nat, r.addr = a := ⟨r.addr.toNat, by omega⟩
 obtain ⟨b, hb⟩ : ∃ b : Nat, n.addr = b := ⟨n.addr.toNat, by omega⟩
 have hz : a ^^^ b < 4294967296 := Nat.xor_lt_two_pow (n := 32) (by omega) (by omega)
 -- addresses that share a prefix's bits
 have share : ∀ k : Int, 0 ≤ k → k ≤ 32 → a / szP k = b / szP k → ∀ x : Int, x % szP k = 0 → ((x ≤ a ∧ (a : Int) < x + szP k) ↔ (x ≤ b ∧ (b : Int) < x + szP k)) := by
  intro k k0 k1 he x hx
  have hp := szP_pos k
  have e1 : x = x / szP k * szP k := (Int.ediv_mul_cancel (Int.dvd_of_emod_eq_zero hx)).symm
  have hda := Nat.div_add_mod a (szP k)
  have hdb := Nat.div_add_mod b (szP k)
  have hma := Nat.mod_lt a hp
  have hmb := Nat.mod_lt b hp
  rw [he] at hda
  generalize szP k = s at *
  generalize b / s = q at *
  generalize hq : x / (s : Int) = y at *
  have hy : ((s * q : Nat) : Int) = (s : Int) * q := by simp
  rw [Int.mul_comm] at e1
  have key : ∀ z : Int, (s : Int) * q ≤ z → z < (s : Int) * q + s → ((x ≤ z ∧ z < x + s) ↔ y = q) := by
   intro z z1 z2
   constructor
   ·rintro ⟨g1, g2⟩
    have h1 : (s : Int) * y < s * (q + 1) := by rw [Int.mul_add, Int.mul_one]; omega
    have h2 : (s : Int) * q < s * (y + 1) := by rw [Int.mul_add, Int.mul_one]; omega
    have h3 := Int.lt_of_mul_lt_mul_left h1 (by omega)
    have h4 := Int.lt_of_mul_lt_mul_left h2 (by omega)
    omega
   ·intro e
    subst e
    omega
  rw [key a (by omega) (by omega), key b (by omega) (by omega)]
 have hlow : ∀ k : Int, 0 ≤ k → k ≤ comP r n → a / szP k = b / szP k := by
  intro k k0 k1
  simp only [comP, ha, hb, Int.toNat_natCast] at k1
  refine xor_high (Nat.lt_of_lt_of_le (lenU_lt _) (Nat.pow_le_pow_right (by omega) ?_))
  omega
 have hne : a ^^^ b ≠ 0 := by
  intro e
  have hab : a = b := by
   have := xor_high (a := a) (b := b) (L := 0) (by rw [e]; simp)
   simpa using this
  rcases Int.le_total r.len n.len with hl | hl
  ·have : covP r n = true := cov_spec.2 ⟨hn, hr, ⟨by omega, by have := szP_pos r.len; omega⟩, hl⟩
   rw [c1] at this; cases this
  ·have : covP n r = true := cov_spec.2 ⟨hr, hn, ⟨by omega, by have := szP_pos n.len; omega⟩, hl⟩
   rw [c2] at this; cases this
 obtain ⟨z1, z2⟩ := lenU_le hne
 have z3 := lenU_32 hz
 have z4 := lenU_lt (a ^^^ b)
 have hc : comP r n = 32 - (lenU (a ^^^ b) : Nat) := by simp only [comP, ha, hb, Int.toNat_natCast]
 have hc0 : 0 ≤ comP r n := by omega
 have hc1 : comP r n < 32 := by omega
 have hin : ∀ p : Pfx, validP p = true → p.len ≤ comP r n → (inP p a ↔ inP p b) := fun p hp hl => by
  obtain ⟨p0, p1, p2⟩ := valid_spec.1 hp
  exact share p.len p0 p1 (hlow _ p0 hl) p.addr p2
 have hrl : comP r n < r.len := by
  rcases Int.lt_or_le (comP r n) r.len with h | h
  ·exact h
  ·exfalso
   have hra : inP r n.addr := by
    rw [hb]; refine (hin r hr h).1 ?_
    have := szP_pos r.len
    exact ⟨by omega, by omega⟩
   by_cases hl : r.len ≤ n.len
   ·have : covP r n = true := cov_spec.2 ⟨hn, hr, hra, hl⟩
    rw [c1] at this; cases this
   ·have hna : inP n r.addr := by
     rw [ha]; refine (hin n hn (by omega)).2 ?_
     have := szP_pos n.len
     exact ⟨by omega, by omega⟩
    have : covP n r = true := cov_spec.2 ⟨hr, hn, hna, by omega⟩
    rw [c2] at this; cases this
 have hnl : comP r n < n.len := by
  rcases Int.lt_or_le (comP r n) n.len with h | h
  ·exact h
  ·exfalso
   have hna : inP n r.addr := by
    rw [ha]; refine (hin n hn h).2 ?_
    have := szP_pos n.len
    exact ⟨by omega, by omega⟩
   have : covP n r = true := cov_spec.2 ⟨hr, hn, hna, by omega⟩
   rw [c2] at this; cases this
 have hp := szP_pos (comP r n)
 have hv : validP (fkP r n) = true := valid_spec.2 ⟨hc0, by simp only [fkP]; omega, by
  simp only [fkP]
  exact Int.emod_eq_zero_of_dvd (Int.dvd_self_sub_emod)⟩
 have hmod := Int.emod_nonneg r.addr (show (szP (comP r n) : Int) ≠ 0 by omega)
 have hmod2 := Int.emod_lt_of_pos r.addr (show (0 : Int) < szP (comP r n) by omega)
 have hmod3 : r.addr % szP (comP r n) ≤ r.addr := by
  rw [ha, ← Int.natCast_emod]
  have := Nat.mod_le a (szP (comP r n))
  omega
 have hira : inP (fkP r n) r.addr := ⟨by simp only [fkP]; omega, by simp only [fkP]; omega⟩
 refine ⟨⟨hv, ⟨by simp only [fkP]; omega, by simp only [fkP]; omega⟩, hira, ?_, ⟨hrl, hnl⟩, ?_⟩, hc0, hc1⟩
 ·rw [hb]; refine (hin _ hv (Int.le_refl _)).1 ?_
  rw [← ha]; exact hira
 ·simp only [fkP, bitA, ha, hb]
  have hs : szP (comP r n + 1) = 2 ^ (lenU (a ^^^ b) - 1) := by
   rw [szP]; congr 1; omega
  rw [hs]
  have := xor_bit (a := a) (b := b) (L := lenU (a ^^^ b) - 1) z1 (by rw [show lenU (a ^^^ b) - 1 + 1 = lenU (a ^^^ b) by omega]; exact z4)
  intro e
  apply this
  have e' : ((a / 2 ^ (lenU (a ^^^ b) - 1) % 2 : Nat) : Int) = ((b / 2 ^ (lenU (a ^^^ b) - 1) % 2 : Nat) : Int) := by
   simpa using e
  omega
end Go.Ab

/-
  Compressing: leading zeros, and the prefix above.
-/
namespace Go.Ab
open Go.Proofs
theorem lead32_ok (P : Program) (hP : P = Try.prog) (x : Int) (hx : inU x) : Ret P n_math_bits_LeadingZeros32 [.c (.d (u32D x))] (iA (32 - (lenU x.toNat : Nat))) := by
 have hl := len32_ok P hP x hx
 have lle : lenU x.toNat ≤ 32 := lenU_32 (by have := hx.2; omega)
 obtain ⟨y, hy⟩ : ∃ y : Int, y = 32 - (lenU x.toNat : Nat) := ⟨_, rfl⟩
 rw [← hy]
 have hn : (0 : Int) ≤ lenU x.toNat := by omega
 have hn2 : (lenU x.toNat : Int) ≤ 32 := by omega
 clear lle
 generalize (lenU x.toNat : Int) = n at *
 refine ret_start (hP ▸ mixed) (hP ▸ fn_math_bits_LeadingZeros32) (hP ▸ c_math_bits_LeadingZeros32) (Nat.le_of_ble_eq_true rfl) fun Λ Λo K hK => ?_
 clear hP
 conv => cbv
 repeat' first | (refine call_r hl rfl rfl ?_; conv => cbv) | (intro (k : Int) hk; rw [wrap_small (by omega) (by omega)] at hk; refine (fun (hz : y = k) => ?_) ?_; rotate_left; omega; subst hz; (conv => cbv)) | exact gu | exact trivial | refine And.intro ?_ ?_ | (intro hc; exact absurd hc (by decide)) | (intro hc; exfalso; omega) | (intro hc; (first | rw [wrap_small (by omega) (by omega)] at hc | rw [nI_eq] at hc | skip); try (conv => cbv)) | refine CallG.old ?_
 all_goals exact hK
def parP (p : Pfx) : Pfx := ⟨p.addr - p.addr % szP (p.len - 1), p.len - 1⟩
theorem pparent_ok (P : Program) (hP : P = Try.prog) (p : Pfx) (hp : inU p.addr) (hv : validP p = true) (h0 : p.len ≠ 0) : Ret P n_prefix_Parent [pfA p] (.tup [pfA (parP p), iA 0]) := by
 have hva := pvalid_ok P hP p hp
 obtain ⟨v0, v1, v2⟩ := of_decide_eq_true hv
 have hmk := pmask_ok P hP (p.len - 1) (by omega) (by omega)
 have hb1 := cont_bits (a := p.addr) (n := p.len - 1) hp (by omega) (by omega)
 rw [hv] at hva
 refine ret_start (hP ▸ mixed) (hP ▸ fn_prefix_Parent) (hP ▸ c_prefix_Parent) (Nat.le_of_ble_eq_true rfl) fun Λ Λo K hK => ?_
 clear hP
 obtain ⟨addr, len⟩ := p
 simp only [parP] at *
 obtain ⟨n1, hn1⟩ : ∃ n1, n1 = len - 1 := ⟨_, rfl⟩
 rw [← hn1] at hmk hb1 hK
 generalize maskN n1 = mk at *
 generalize addr - addr % (szP n1 : Int) = y at *
 conv => cbv
 repeat' first | refine call_b hva rfl rfl ?_ ?_ | (refine call_r hmk rfl rfl ?_; conv => cbv) | (intro (k : Int) hk; rw [wrap_small (by omega) (by omega)] at hk; refine (fun (hz : n1 = k) => ?_) ?_; rotate_left; omega; subst hz; (conv => cbv)) | (refine ⟨.int .u32 y, hb1, ?_⟩; intro d' hd; subst hd; (conv => cbv)) | exact gu | exact trivial | refine And.intro ?_ ?_ | (intro hc; exact absurd hc (by decide)) | (intro hc; exfalso; omega) | (intro hc; (first | rw [wrap_small (by omega) (by omega)] at hc | rw [nI_eq] at hc | skip); try (conv => cbv)) | refine CallG.old ?_
 all_goals exact hK
end Go.Ab

/-
  Compressing: putting a route where one is, or above.
-/
namespace Go.Ab
open Go.Proofs
theorem mup_at' {m m' : Ar} {b : Nat} {x : AB} (h : m' = mup m b x) : m' b = some x := by rw [h]; exact mup_at _ _ _
theorem mup_ne' {m m' : Ar} {b i : Nat} {x : AB} (h : m' = mup m b x) (hi : i ≠ b) : m' i = m i := by rw [h]; exact mup_ne hi
theorem put_same (P : Program) (hP : P = Try.prog) (m : Ar) (p : Pfx) (v w : Int) (h : Bool) (bl N : Nat) (ka kb : D) (hm : m bl = some (.cs N (nodeD p v h ka kb))) :
  FnS P n_trie_node_put [.c (.d (.adr bl 0)), rtA ⟨p, w⟩] [.am m] fun r' h' => ∃ m' tl, r' = .c (.d (.adr bl 0)) ∧ h' = .am m' :: tl ∧ m' bl = some (.cs N (nodeD p w true ka kb)) ∧ ∀ i, i ≠ bl → m' i = m i := by
 refine heap_start (hP ▸ mixed) (hP ▸ fn_trie_node_put) (hP ▸ c_trie_node_put) (Nat.le_of_ble_eq_true rfl) fun Λ Λo K hK => ?_
 clear hP
 obtain ⟨pa, pl⟩ := p
 simp only [nodeD] at *
 have fin : ∀ m' tl, m' bl = some (.cs N [u32D pa, iD pl, iD w, .bool true, ka, kb]) → (∀ i, i ≠ bl → m' i = m i) → K (.c (.d (.adr bl 0))) (.am m' :: tl) := fun m' tl h1 h2 => hK _ _ ⟨m', tl, rfl, rfl, h1, h2⟩
 clear hK
 conv => cbv
 repeat' first | exact gu | exact trivial | refine And.intro ?_ ?_ | (intro hc; exact absurd hc (by decide)) | (intro hc; exfalso; omega) | (intro hc; (first | rw [wrap_small (by omega) (by omega)] at hc | rw [nI_eq] at hc | skip); try (conv => cbv)) | refine CallG.old ?_
 left
 intro (_ : Unit)
 conv => cbv
 repeat' first | (refine ⟨N, _, _, hm, rfl, rfl, ?_⟩; (conv => cbv)) | (refine ⟨N, _, _, hm, rfl, ?_⟩; (conv => cbv)) | (refine ⟨N, _, hm, Nat.le_of_ble_eq_true rfl, ?_⟩; intro m1 hm1; have hm := mup_at' hm1; (conv => cbv)) | exact gu | exact trivial | refine And.intro ?_ ?_ | (intro hc; exact absurd hc (by decide)) | (intro hc; exfalso; omega) | (intro hc; (first | rw [wrap_small (by omega) (by omega)] at hc | rw [nI_eq] at hc | skip); try (conv => cbv)) | refine CallG.old ?_
 exact fin _ _ hm fun i hi => (mup_ne' hm1 hi).trans (mup_ne' (by assumption) hi)
theorem put_above (P : Program) (hP : P = Try.prog) (m : Ar) (r : Rt) (p : Pfx) (v : Int) (h : Bool) (bl N : Nat) (ka kb : D) (hm : m bl = some (.cs N (nodeD p v h ka kb))) (hr : inU r.p.addr) (hp : inU p.addr) (hne : p ≠ r.p) (c1 : covP p r.p = false) (c2 : covP r.p p = true) :
  FnS P n_trie_node_put [.c (.d (.adr bl 0)), rtA r] [.am m] fun r' h' => ∃ m' tl c M, r' = .c (.d (.adr c 0)) ∧ h' = .am m' :: tl ∧ m c = none ∧ m' c = some (.cs M (nodeD r.p r.val true (if bitA p.addr r.p.len = 0 then .adr bl 0 else .nilp) (if bitA p.addr r.p.len = 0 then .nilp else .adr bl 0))) ∧ ∀ i, i ≠ c → m' i = m i := by
 have hl : 0 ≤ r.p.len ∧ r.p.len < 32 := by
  obtain ⟨h1, h2, h3, h4⟩ := cov_inv c2
  obtain ⟨z0, z1, _⟩ := valid_spec.1 h1
  exact ⟨z0, by have := (half_cov hr c2 (fun e => hne e.symm)).1; omega⟩
 have hc1 := pcov_ok P hP p r.p hp hr
 have hc2 := pcov_ok P hP r.p p hr hp
 have hbr := branch_ok P hP p.addr r.p.len hp hl.1 hl.2
 rw [c1] at hc1
 rw [c2] at hc2
 have h01 := bit_01 p.addr r.p.len
 refine heap_start (hP ▸ mixed) (hP ▸ fn_trie_node_put) (hP ▸ c_trie_node_put) (Nat.le_of_ble_eq_true rfl) fun Λ Λo K hK => ?_
 clear hP
 have fin : ∀ (m' : Ar) tl c M, m c = none → m' c = some (.cs M (nodeD r.p r.val true (if bitA p.addr r.p.len = 0 then .adr bl 0 else .nilp) (if bitA p.addr r.p.len = 0 then .nilp else .adr bl 0))) → (∀ i, i ≠ c → m' i = m i) → K (.c (.d (.adr c 0))) (.am m' :: tl) := fun m' tl c M h1 h2 h3 => hK _ _ ⟨m', tl, c, M, rfl, rfl, h1, h2, h3⟩
 clear hK
 obtain ⟨pa, pl⟩ := p
 obtain ⟨⟨ra, rl⟩, rv⟩ := r
 have hne' : ¬ (pa = ra ∧ pl = rl) := fun e => hne (Pfx.ext' e.1 e.2)
 simp only [nodeD, pfA] at *
 generalize bitA pa rl = z at *
 conv => cbv
 repeat' first | exact gu | exact trivial | refine And.intro ?_ ?_ | (intro hc; exact absurd hc (by decide)) | (intro hc; exfalso; omega) | (intro hc; (first | rw [wrap_small (by omega) (by omega)] at hc | rw [nI_eq] at hc | skip); try (conv => cbv)) | refine CallG.old ?_
 left
 intro (_ : Unit)
 conv => cbv
 repeat' first | (refine ⟨N, _, _, hm, rfl, rfl, ?_⟩; (conv => cbv)) | (refine ⟨N, _, _, hm, rfl, ?_⟩; (conv => cbv)) | (refine ⟨N, _, _, hmb, rfl, rfl, ?_⟩; (conv => cbv)) | (refine ⟨N, _, _, hmb, rfl, ?_⟩; (conv => cbv)) | (refine ⟨M, _, hmc, Nat.le_of_ble_eq_true rfl, ?_⟩; intro m2 hm2; have hmc2 := mup_at' hm2; (conv => cbv)) | (right; intro (_ : Unit); intro (c : Nat) (M : Nat) (m1 : Ar) hcn (_ : _ ≤ M) hm1; have hmc := mup_at' hm1; have hbc : bl ≠ c := (fun e => by rw [e, hcn] at hm; cases hm); have hmb := (mup_ne' hm1 hbc).trans hm; (conv => cbv)) | refine call_b hc1 rfl rfl ?_ ?_ | refine call_b hc2 rfl rfl ?_ ?_  | (refine call_r hbr rfl rfl ?_; conv => cbv) | exact gu | exact trivial | refine And.intro ?_ ?_ | (intro hc; exact absurd hc (by decide)) | (intro hc; exfalso; omega) | (intro hc; (first | rw [wrap_small (by omega) (by omega)] at hc | rw [nI_eq] at hc | skip); try (conv => cbv)) | refine CallG.old ?_
 all_goals refine fin _ _ c M hcn ?_ fun i hi => (mup_ne' hm2 hi).trans (mup_ne' hm1 hi)
 ·rw [if_pos (by omega), if_pos (by omega)]; exact hmc2
 ·rw [if_neg (by omega), if_neg (by omega)]; exact hmc2
theorem wrF_fr {P : Program} {h : Hp} {f : Nat} {args' : List AV} {K : AV → Hp → Prop} {args : List AV} {hc : Hp} {R : AV → Hp → Prop} (σ : List Nat) (hf : FnS P f args hc R) (ha : args' = rnAs (rho σ h.length) args) (hlen : σ.length = hc.length) (hnd : σ.Nodup)
  (hh : frOk h (rho σ h.length) 0 hc) (hcl : refsH hc.length hc = true) (hca : args.all (refsA hc.length) = true) (k : ∀ r hc', R r hc' → K (rnA (rho σ h.length) r) (backH h σ hc')) : ∃ R', FnS P f args' h R' ∧ ∀ r h', R' r h' → K r h' := by
 subst ha
 refine ⟨_, hf.frame σ h hlen hnd (fun i b hb => by have := frOk_get hh i b hb; rw [Nat.zero_add] at this; exact this) hcl (fun x hx => List.all_eq_true.1 hca x hx), ?_⟩
 rintro r h' ⟨r0, hc', h1, rfl, rfl⟩
 exact k r0 hc' h1
theorem put_below (P : Program) (hP : P = Try.prog) (m : Ar) (r : Rt) (p : Pfx) (v : Int) (h : Bool) (bl N : Nat) (ka kb : D) (hm : m bl = some (.cs N (nodeD p v h ka kb))) (hr : inU r.p.addr) (hp : inU p.addr) (hne : p ≠ r.p) (c1 : covP p r.p = true)
  (R : D → Ar → Prop) (hcall : FnS P n_trie_node_put [.c (.d (if bitA r.p.addr p.len = 0 then ka else kb)), rtA r] [.am m] fun r' h' => ∃ k1 m1, r' = .c (.d k1) ∧ h' = [.am m1] ∧ R k1 m1) (hkeep : ∀ k1 m1, R k1 m1 → m1 bl = m bl) (hsh : ∀ k1 m1, R k1 m1 → k1 = .nilp ∨ ∃ c, k1 = .adr c 0) :
  FnS P n_trie_node_put [.c (.d (.adr bl 0)), rtA r] [.am m] fun r' h' => ∃ m1 k1 m' tl, R k1 m1 ∧ r' = .c (.d (.adr bl 0)) ∧ h' = .am m' :: tl ∧ m' bl = some (.cs N (nodeD p v h (if bitA r.p.addr p.len = 0 then k1 else ka) (if bitA r.p.addr p.len = 0 then kb else k1))) ∧ ∀ i, i ≠ bl → m' i = m1 i := by
 have hl : 0 ≤ p.len ∧ p.len < 32 := by
  obtain ⟨h1, h2, h3, h4⟩ := cov_inv c1
  obtain ⟨z0, z1, _⟩ := valid_spec.1 h1
  exact ⟨z0, by have := (half_cov hp c1 hne).1; omega⟩
 have hc1 := pcov_ok P hP p r.p hp hr
 have hbr := branch_ok P hP r.p.addr p.len hr hl.1 hl.2
 rw [c1] at hc1
 have h01 := bit_01 r.p.addr p.len
 refine heap_start (hP ▸ mixed) (hP ▸ fn_trie_node_put) (hP ▸ c_trie_node_put) (Nat.le_of_ble_eq_true rfl) fun Λ Λo K hK => ?_
 clear hP
 have fin : ∀ (m1 : Ar) k1 (m' : Ar) tl, R k1 m1 → m' bl = some (.cs N (nodeD p v h (if bitA r.p.addr p.len = 0 then k1 else ka) (if bitA r.p.addr p.len = 0 then kb else k1))) → (∀ i, i ≠ bl → m' i = m1 i) → K (.c (.d (.adr bl 0))) (.am m' :: tl) := fun m1 k1 m' tl h0 h1 h2 => hK _ _ ⟨m1, k1, m', tl, h0, rfl, rfl, h1, h2⟩
 clear hK
 obtain ⟨pa, pl⟩ := p
 obtain ⟨⟨ra, rl⟩, rv⟩ := r
 have hne' : ¬ (pa = ra ∧ pl = rl) := fun e => hne (Pfx.ext' e.1 e.2)
 simp only [nodeD, pfA] at *
 generalize bitA ra pl = z at *
 conv => cbv
 repeat' first | exact gu | exact trivial | refine And.intro ?_ ?_ | (intro hc; exact absurd hc (by decide)) | (intro hc; exfalso; omega) | (intro hc; (first | rw [wrap_small (by omega) (by omega)] at hc | rw [nI_eq] at hc | skip); try (conv => cbv)) | refine CallG.old ?_
 left
 intro (_ : Unit)
 conv => cbv
 repeat' first | (refine ⟨N, _, _, hm, rfl, rfl, ?_⟩; (conv => cbv)) | (refine ⟨N, _, _, hm, rfl, ?_⟩; (conv => cbv)) | refine call_b hc1 rfl rfl ?_ ?_ | (refine call_r hbr rfl rfl ?_; conv => cbv) | exact gu | exact trivial | refine And.intro ?_ ?_ | (intro hc; exact absurd hc (by decide)) | (intro hc; exfalso; omega) | (intro hc; (first | rw [wrap_small (by omega) (by omega)] at hc | rw [nI_eq] at hc | skip); try (conv => cbv)) | refine CallG.old ?_
 ·have hz : z = 0 := by omega
  rw [if_pos hz] at hcall
  refine wrF_fr [0] hcall rfl rfl (by decide) ⟨rfl, trivial⟩ rfl rfl ?_
  rintro r hc' ⟨k1, m1, rfl, rfl, hR⟩
  have hm1 := (hkeep _ _ hR).trans hm
  rcases hsh _ _ hR with rfl | ⟨c, rfl⟩
  ·conv => cbv
   repeat' first | (refine ⟨N, _, hm1, Nat.le_of_ble_eq_true rfl, ?_⟩; intro m2 hm2; have hmc2 := mup_at' hm2; (conv => cbv)) | exact gu | exact trivial | refine And.intro ?_ ?_ | (intro hc; exact absurd hc (by decide)) | (intro hc; exfalso; omega) | (intro hc; (first | rw [wrap_small (by omega) (by omega)] at hc | rw [nI_eq] at hc | skip); try (conv => cbv)) | refine CallG.old ?_
   all_goals first
    | (exfalso; omega)
    | (refine fin m1 _ m2 _ hR ?_ fun i hi => mup_ne' hm2 hi; rw [if_pos hz, if_pos hz]; exact hmc2)
  ·conv => cbv
   repeat' first | (refine ⟨N, _, hm1, Nat.le_of_ble_eq_true rfl, ?_⟩; intro m2 hm2; have hmc2 := mup_at' hm2; (conv => cbv)) | exact gu | exact trivial | refine And.intro ?_ ?_ | (intro hc; exact absurd hc (by decide)) | (intro hc; exfalso; omega) | (intro hc; (first | rw [wrap_small (by omega) (by omega)] at hc | rw [nI_eq] at hc | skip); try (conv => cbv)) | refine CallG.old ?_
   all_goals first
    | (exfalso; omega)
    | (refine fin m1 _ m2 _ hR ?_ fun i hi => mup_ne' hm2 hi; rw [if_pos hz, if_pos hz]; exact hmc2)
 ·have hz : ¬ z = 0 := by omega
  rw [if_neg hz] at hcall
  refine wrF_fr [0] hcall rfl rfl (by decide) ⟨rfl, trivial⟩ rfl rfl ?_
  rintro r hc' ⟨k1, m1, rfl, rfl, hR⟩
  have hm1 := (hkeep _ _ hR).trans hm
  rcases hsh _ _ hR with rfl | ⟨c, rfl⟩
  ·conv => cbv
   repeat' first | (refine ⟨N, _, hm1, Nat.le_of_ble_eq_true rfl, ?_⟩; intro m2 hm2; have hmc2 := mup_at' hm2; (conv => cbv)) | exact gu | exact trivial | refine And.intro ?_ ?_ | (intro hc; exact absurd hc (by decide)) | (intro hc; exfalso; omega) | (intro hc; (first | rw [wrap_small (by omega) (by omega)] at hc | rw [nI_eq] at hc | skip); try (conv => cbv)) | refine CallG.old ?_
   all_goals first
    | (exfalso; omega)
    | (refine fin m1 _ m2 _ hR ?_ fun i hi => mup_ne' hm2 hi; rw [if_neg hz, if_neg hz]; exact hmc2)
  ·conv => cbv
   repeat' first | (refine ⟨N, _, hm1, Nat.le_of_ble_eq_true rfl, ?_⟩; intro m2 hm2; have hmc2 := mup_at' hm2; (conv => cbv)) | exact gu | exact trivial | refine And.intro ?_ ?_ | (intro hc; exact absurd hc (by decide)) | (intro hc; exfalso; omega) | (intro hc; (first | rw [wrap_small (by omega) (by omega)] at hc | rw [nI_eq] at hc | skip); try (conv => cbv)) | refine CallG.old ?_
   all_goals first
    | (exfalso; omega)
    | (refine fin m1 _ m2 _ hR ?_ fun i hi => mup_ne' hm2 hi; rw [if_neg hz, if_neg hz]; exact hmc2)
end Go.Ab

/-
  Compressing: putting a route beside a node.
-/
namespace Go.Ab
open Go.Proofs
def cutA (x n : Int) : Int := x - x % szP n
theorem cut_valid {x n : Int} (hx : inU x) (h0 : 0 ≤ n) (h1 : n ≤ 32) : validP ⟨cutA x n, n⟩ = true ∧ inU (cutA x n) := by
 have hp := szP_pos n
 have hm := Int.emod_nonneg x (show (szP n : Int) ≠ 0 by omega)
 have hm2 : x % szP n ≤ x := by
  obtain ⟨a, ha⟩ : ∃ a : Nat, x = a := ⟨x.toNat, by have := hx.1; omega⟩
  rw [ha, ← Int.natCast_emod]
  have := Nat.mod_le a (szP n)
  omega
 refine ⟨valid_spec.2 ⟨h0, h1, Int.emod_eq_zero_of_dvd Int.dvd_self_sub_emod⟩, ?_⟩
 obtain ⟨u0, u1⟩ := hx
 unfold cutA
 exact ⟨by omega, by omega⟩
theorem cut_parent {x n : Int} (h0 : 0 < n) (h1 : n ≤ 32) : parP ⟨cutA x n, n⟩ = ⟨cutA x (n - 1), n - 1⟩ := by
 have hd := szP_dvd (m := n - 1) (n := n) (by omega)
 have hp := szP_pos (n - 1)
 refine Pfx.ext' ?_ rfl
 simp only [parP, cutA]
 obtain ⟨c, hc⟩ := hd
 rw [hc]
 have hsz : ((szP n * c : Nat) : Int) = (szP n : Int) * c := by simp
 have h2 : (x - x % (szP n : Int)) % ((szP n : Int) * c) = x % ((szP n : Int) * c) - x % (szP n : Int) := by
  have e1 : x % ((szP n : Int) * c) % (szP n : Int) = x % (szP n : Int) := Int.emod_emod_of_dvd _ (Int.dvd_mul_right _ _)
  have p1 := szP_pos n
  have hc0 : 0 < (szP n : Int) * c := by rw [← hsz, ← hc]; omega
  have b1 := Int.emod_nonneg x (show (szP n : Int) * c ≠ 0 by omega)
  have b2 := Int.emod_lt_of_pos x hc0
  have b3 := Int.emod_nonneg (x % ((szP n : Int) * c)) (show (szP n : Int) ≠ 0 by omega)
  have b4 : x % ((szP n : Int) * c) % (szP n : Int) ≤ x % ((szP n : Int) * c) := by
   have := Int.mul_ediv_add_emod (x % ((szP n : Int) * c)) (szP n)
   have h5 := Int.ediv_nonneg b1 (show (0 : Int) ≤ szP n by omega)
   have h6 := Int.mul_nonneg (show (0 : Int) ≤ szP n by omega) h5
   omega
  rw [e1] at b3 b4
  have e2 : x - x % (szP n : Int) = (x % ((szP n : Int) * c) - x % (szP n : Int)) + ((szP n : Int) * c) * (x / ((szP n : Int) * c)) := by
   have := Int.mul_ediv_add_emod x ((szP n : Int) * c)
   omega
  rw [e2, Int.add_mul_emod_self_left]
  exact Int.emod_eq_of_lt (by omega) (by omega)
 rw [hsz, h2]
 omega
theorem xorU {a b c : Int} {m n : Nat} (ha : a = m) (hb : b = n) (hm : m < 4294967296) (hn : n < 4294967296) (hc : c = ((m ^^^ n : Nat) : Int)) : binD .xor (.int .u32 a) (.int .u32 b) = some (.int .u32 c) := by
 subst ha hb hc
 have e : binD .xor (.int .u32 m) (.int .u32 n) = some (.int .u32 (IntKind.u32.wrap (BitVec.ofInt 32 (m : Int) ^^^ BitVec.ofInt 32 (n : Int)).toNat)) := rfl
 have hl : m ^^^ n < 4294967296 := Nat.xor_lt_two_pow (n := 32) hm hn
 rw [e, bv32, bv32, BitVec.toNat_xor, BitVec.toNat_ofNat, BitVec.toNat_ofNat, Nat.mod_eq_of_lt hm, Nat.mod_eq_of_lt hn, wrapu32 (by omega) (by omega)]
theorem put_beside (P : Program) (hP : P = Try.prog) (m : Ar) (r : Rt) (p : Pfx) (v : Int) (h : Bool) (bl N : Nat) (ka kb : D) (hm : m bl = some (.cs N (nodeD p v h ka kb))) (vr : validP r.p = true) (hr : inU r.p.addr) (vp : validP p = true) (hp : inU p.addr) (c1 : covP p r.p = false) (c2 : covP r.p p = false) :
  FnS P n_trie_node_put [.c (.d (.adr bl 0)), rtA r] [.am m] fun r' h' => ∃ (m' : Ar) (tl : Hp) (b c N' M : Nat), r' = .c (.d (.adr c 0)) ∧ h' = .am m' :: tl ∧ m b = none ∧ m c = none ∧ c ≠ b ∧ m' b = some (.cs N' (nodeD r.p r.val true .nilp .nilp)) ∧
   m' c = some (.cs M (nodeD (fkP r.p p) 0 false (if bitA r.p.addr (comP r.p p) = 0 then .adr b 0 else .adr bl 0) (if bitA r.p.addr (comP r.p p) = 0 then .adr bl 0 else .adr b 0))) ∧ ∀ i, i ≠ b → i ≠ c → m' i = m i := by
 obtain ⟨fk, g0, g1⟩ := fork_ok vr hr vp hp c2 c1
 have hbits : bitA r.p.addr (comP r.p p) ≠ bitA p.addr (comP r.p p) := fk.b
 clear fk
 have hne : p ≠ r.p := fun e => by rw [e, cov_self vr] at c1; cases c1
 have hc1 := pcov_ok P hP p r.p hp hr
 have hc2 := pcov_ok P hP r.p p hr hp
 rw [c1] at hc1
 rw [c2] at hc2
 have hb1 := branch_ok P hP r.p.addr (comP r.p p) hr g0 g1
 have hb2 := branch_ok P hP p.addr (comP r.p p) hp g0 g1
 have h01 := bit_01 r.p.addr (comP r.p p)
 have h02 := bit_01 p.addr (comP r.p p)
 have hx := xorU (a := r.p.addr) (b := p.addr) (m := r.p.addr.toNat) (n := p.addr.toNat) (by have := hr.1; omega) (by have := hp.1; omega) (by have := hr.2; have := hr.1; omega) (by have := hp.2; have := hp.1; omega) rfl
 have hxl : r.p.addr.toNat ^^^ p.addr.toNat < 4294967296 := Nat.xor_lt_two_pow (n := 32) (by have := hr.2; have := hr.1; omega) (by have := hp.2; have := hp.1; omega)
 have hlz := lead32_ok P hP ((r.p.addr.toNat ^^^ p.addr.toNat : Nat) : Int) ⟨by omega, by omega⟩
 have hcom : (32 - (lenU ((r.p.addr.toNat ^^^ p.addr.toNat : Nat) : Int).toNat : Nat) : Int) = comP r.p p := by rw [Int.toNat_natCast]; rfl
 rw [hcom] at hlz
 clear hcom hxl
 have hpar : ∀ n : Int, 0 < n → n ≤ 32 → Ret P n_prefix_Parent [pfA ⟨cutA r.p.addr n, n⟩] (.tup [pfA ⟨cutA r.p.addr (n - 1), n - 1⟩, iA 0]) := fun n n0 n1 => by
  obtain ⟨q1, q2⟩ := cut_valid hr (show 0 ≤ n by omega) n1
  have := pparent_ok P hP ⟨cutA r.p.addr n, n⟩ q2 q1 (by show n ≠ 0; omega)
  rwa [cut_parent n0 n1] at this
 have hcut : cutA r.p.addr 32 = r.p.addr := by
  have : szP 32 = 1 := rfl
  rw [cutA, this]; omega
 refine heap_start (hP ▸ mixed) (hP ▸ fn_trie_node_put) (hP ▸ c_trie_node_put) (Nat.le_of_ble_eq_true rfl) fun Λ Λo K hK => ?_
 clear hP
 have fin : ∀ (m' : Ar) (tl : Hp) (b c N' M : Nat), m b = none → m c = none → c ≠ b → m' b = some (.cs N' (nodeD r.p r.val true .nilp .nilp)) →
   m' c = some (.cs M (nodeD ⟨cutA r.p.addr (comP r.p p), comP r.p p⟩ 0 false (if bitA r.p.addr (comP r.p p) = 0 then .adr b 0 else .adr bl 0) (if bitA r.p.addr (comP r.p p) = 0 then .adr bl 0 else .adr b 0))) → (∀ i, i ≠ b → i ≠ c → m' i = m i) → K (.c (.d (.adr c 0))) (.am m' :: tl) :=
  fun m' tl b c N' M h1 h2 h3 h4 h5 h6 => hK _ _ ⟨m', tl, b, c, N', M, rfl, rfl, h1, h2, h3, h4, h5, h6⟩
 clear hK c1 c2 vr vp
 obtain ⟨pa, pl⟩ := p
 obtain ⟨⟨ra, rl⟩, rv⟩ := r
 have hne' : ¬ (pa = ra ∧ pl = rl) := fun e => hne (Pfx.ext' e.1 e.2)
 clear hne
 simp only [nodeD, pfA] at *
 generalize comP ⟨ra, rl⟩ ⟨pa, pl⟩ = cm at *
 generalize bitA ra cm = z at *
 generalize bitA pa cm = y at *
 generalize ((ra.toNat ^^^ pa.toNat : Nat) : Int) = xr at *
 generalize cutA ra = cut at *
 conv => cbv
 repeat' first | exact gu | exact trivial | refine And.intro ?_ ?_ | (intro hc; exact absurd hc (by decide)) | (intro hc; exfalso; omega) | (intro hc; (first | rw [wrap_small (by omega) (by omega)] at hc | rw [nI_eq] at hc | skip); try (conv => cbv)) | refine CallG.old ?_
 left
 intro (_ : Unit)
 conv => cbv
 repeat' first | (refine ⟨N, _, _, hm, rfl, rfl, ?_⟩; (conv => cbv)) | (refine ⟨N, _, _, hm, rfl, ?_⟩; (conv => cbv)) | (refine ⟨N, _, _, hmb, rfl, rfl, ?_⟩; (conv => cbv)) | (refine ⟨N, _, _, hmb, rfl, ?_⟩; (conv => cbv)) | (right; intro (_ : Unit); intro (c : Nat) (M : Nat) (m1 : Ar) hcn (_ : _ ≤ M) hm1; have hmc := mup_at' hm1; have hbc : bl ≠ c := (fun e => by rw [e, hcn] at hm; cases hm); have hmb := (mup_ne' hm1 hbc).trans hm; (conv => cbv); fail_if_success (right)) | refine call_b hc1 rfl rfl ?_ ?_ | refine call_b hc2 rfl rfl ?_ ?_ | (refine call_r hlz rfl rfl ?_; conv => cbv) | (refine ⟨.int .u32 xr, hx, ?_⟩; intro d' hd; subst hd; (conv => cbv)) | exact gu | exact trivial | refine And.intro ?_ ?_ | (intro hc; exact absurd hc (by decide)) | (intro hc; exfalso; omega) | (intro hc; (first | rw [wrap_small (by omega) (by omega)] at hc | rw [nI_eq] at hc | skip); try (conv => cbv)) | refine CallG.old ?_
 left
 intro (_ : Unit)
 conv => cbv
 repeat' first | exact gu | exact trivial | refine And.intro ?_ ?_ | (intro hc; exact absurd hc (by decide)) | (intro hc; exfalso; omega) | (intro hc; (first | rw [wrap_small (by omega) (by omega)] at hc | rw [nI_eq] at hc | skip); try (conv => cbv)) | refine CallG.old ?_
 refine loop_upx 32 (fun (s : Int × Int) => [(0, .c (.d (.adr bl 0))), (3, .c (.ptr 1 0 0 0)), (6, .c (.d (.adr c 0))), (7, iA cm), (8, .c (.ptr 2 0 0 0))]) (fun s => [.am m1, .bx [.d (u32D ra), .d (iD rl), .d (iD rv)], .bx [.d (u32D s.1), .d (iD s.2)]])
  (fun k s => s.2 = 32 - k ∧ s.1 = cut s.2 ∧ cm ≤ s.2) (ra, 32)
  1 (fun (_ : Unit) => [(0, .c (.d (.adr bl 0))), (3, .c (.ptr 1 0 0 0)), (6, .c (.d (.adr c 0))), (7, iA cm), (8, .c (.ptr 2 0 0 0))]) (fun _ => [.am m1, .bx [.d (u32D ra), .d (iD rl), .d (iD rv)], .bx [.d (u32D (cut cm)), .d (iD cm)]])
  (fun _ => True)
  (Wk.ch) ⟨by simp, hcut.symm, by simp only; omega⟩ (fun k s h => by omega) ?_ ?_
 ·rintro k ⟨x, n⟩ Q' ⟨h1, h2, h3⟩ norm jn ex rt
  simp only at h1 h2 h3
  subst h2
  have hpn := hpar n
  conv => cbv
  have hcv : ∀ a b : Int, a - 1 = b → (a - 1 = b) := fun _ _ h => h
  repeat' first | (refine call_r (hpn (by omega) (by omega)) rfl rfl ?_; conv => cbv) | exact gu | exact trivial | refine And.intro ?_ ?_ | (intro hc; exact absurd hc (by decide)) | (intro hc; exfalso; omega) | (intro hc; (first | rw [wrap_small (by omega) (by omega)] at hc | rw [nI_eq] at hc | skip); try (conv => cbv)) | refine CallG.old ?_
  ·refine norm _ _ (cut (n - 1), n - 1) ⟨?_, rfl, ?_⟩ (Wk.ch)
   ·show n - 1 = 32 - ((k + 1 : Nat) : Int); omega
   ·show cm ≤ n - 1; omega
  ·obtain rfl : n = cm := by omega
   exact jn _ _ () trivial (Wk.ch)
 ·rintro - -
  conv => cbv
  right
  intro (_ : Unit)
  intro (d : Nat) (M' : Nat) (m2 : Ar) hdn (_ : _ ≤ M') hm2
  have hcd : c ≠ d := fun e => by rw [← e, hmc] at hdn; cases hdn
  have hbd : bl ≠ d := fun e => by rw [← e, hmb] at hdn; cases hdn
  have hmd := mup_at' hm2
  have hmc := (mup_ne' hm2 hcd).trans hmc
  have hmb := (mup_ne' hm2 hbd).trans hmb
  conv => cbv
  repeat' first | (refine ⟨N, _, _, hmb3, rfl, rfl, ?_⟩; (conv => cbv)) | (refine ⟨N, _, _, hmb3, rfl, ?_⟩; (conv => cbv)) | (refine call_r hb1 rfl rfl ?_; conv => cbv) | (refine call_r hb2 rfl rfl ?_; conv => cbv) | (refine ⟨M', _, hmd3, Nat.le_of_ble_eq_true rfl, ?_⟩; intro m4 hm4; have hmd4 := mup_at' hm4; (conv => cbv)) | (refine ⟨M', _, hmd, Nat.le_of_ble_eq_true rfl, ?_⟩; intro m3 hm3; have hmd3 := mup_at' hm3; have hmb3 := (mup_ne' hm3 hbd).trans hmb; (conv => cbv)) | exact gu | exact trivial | refine And.intro ?_ ?_ | (intro hc; exact absurd hc (by decide)) | (intro hc; exfalso; omega) | (intro hc; (first | rw [wrap_small (by omega) (by omega)] at hc | rw [nI_eq] at hc | skip); try (conv => cbv)) | refine CallG.old ?_
  all_goals
   have hdn0 : m d = none := (mup_ne' hm1 (fun e => hcd e.symm)).symm.trans hdn
   have hmc4 := (mup_ne' hm4 hcd).trans ((mup_ne' hm3 hcd).trans hmc)
   have hfr : ∀ i, i ≠ c → i ≠ d → m4 i = m i := fun i h1 h2 => (mup_ne' hm4 h2).trans ((mup_ne' hm3 h2).trans ((mup_ne' hm2 h2).trans (mup_ne' hm1 h1)))
   refine (fun he => fin m4 _ c d M M' hcn hdn0 (fun e => hcd e.symm) hmc4 he hfr) ?_
   first
    | (exfalso; omega)
    | (rw [if_pos (by omega), if_pos (by omega)]; exact hmd4)
    | (rw [if_neg (by omega), if_neg (by omega)]; exact hmd4)
end Go.Ab

/-
  Compressing: putting a route into a trie.
-/
namespace Go.Ab
open Go.Proofs
theorem put_cut {P : Program} {f : Nat} {args : List AV} {m : Ar} {S : Nat → Prop} {t : Tri} (hf : FnS P f args [.am m] fun r' h' => ∃ m' tl, h' = .am m' :: tl ∧ PutR m S t r' m') :
  FnS P f args [.am m] fun r' h' => ∃ m', h' = [.am m'] ∧ PutR m S t r' m' := by
 refine (hf.cut fun r h' hr => ?_).mono fun r h1 ⟨h2, hr, hl⟩ => ?_
 ·obtain ⟨m', tl, rfl, k', S', rfl, _⟩ := hr
  exact ⟨rfl, rfl⟩
 ·obtain ⟨m', tl, he, hp⟩ := hr
  match h1, hl with
  | [x], _ =>
   simp only [List.cons_append, List.nil_append, List.cons.injEq] at he
   obtain ⟨rfl, _⟩ := he
   exact ⟨m', rfl, hp⟩
theorem putR_shape {m m1 : Ar} {S : Nat → Prop} {t : Tri} {k1 : D} (h : PutR m S t (.c (.d k1)) m1) : k1 = .nilp ∨ ∃ c, k1 = .adr c 0 := by
 obtain ⟨k', S', e, h1, _⟩ := h
 cases e
 cases t with
 | nil => exact .inl h1
 | node p v h a b => obtain ⟨bl, N, ka, kb, Sa, Sb, rfl, _⟩ := h1; exact .inr ⟨bl, rfl⟩
theorem put_ok (P : Program) (hP : P = Try.prog) : ∀ (t : Tri) (m : Ar) (k : D) (S : Nat → Prop) (r : Rt), WfTr t → validP r.p = true → inU r.p.addr → TrA m k t S → (∀ i, S i → m i ≠ none) →
  FnS P n_trie_node_put [.c (.d k), rtA r] [.am m] fun r' h' => ∃ m', h' = [.am m'] ∧ PutR m S (putT fkP t r) r' m'
 |.nil, m, k, S, r, _, _, _, ht, _ => by
  have ht : k = .nilp := ht
  subst ht
  exact put_cut (put_nil P hP fkP m S r)
 |.node p v h a b, m, k, S, r, hw, hv, hu, ht, hS => by
  have ht0 := ht
  obtain ⟨bl, N, ka, kb, Sa, Sb, rfl, hm, ta, tb, hbl, na, nb, sa, sb, sd⟩ := ht
  obtain ⟨w1, w2, w3, w4, w5, w6⟩ := hw
  have hml : m bl ≠ none := by rw [hm]; simp
  rw [putT]
  by_cases he : p = r.p
  ·rw [if_pos he]
   have h0 := put_same P hP m p v r.val h bl N ka kb hm
   rw [show (⟨p, r.val⟩ : Rt) = r by rw [he]] at h0
   refine put_cut (h0.mono fun r' h' ⟨m', tl, e1, e2, e3, e4⟩ => ?_)
   subst e1
   exact ⟨m', tl, e2, putR_same ta tb hbl na nb sa sb sd hS e3 e4⟩
  ·rw [if_neg he]
   by_cases hc : covP p r.p = true
   ·rw [if_pos hc]
    by_cases hz : bitA r.p.addr p.len = 0
    ·rw [if_pos hz]
     refine put_cut ((put_below P hP m r p v h bl N ka kb hm hu w2 he hc (fun k1 m1 => PutR m Sa (putT fkP a r) (.c (.d k1)) m1) ?_ (fun k1 m1 hp => ?_) fun k1 m1 hp => putR_shape hp).mono fun r' h' ⟨m1, k1, m', tl, hp, e1, e2, e3, e4⟩ => ?_)
     ·rw [if_pos hz]
      refine (put_ok P hP a m ka Sa r w5 hv hu ta fun i hi => hS i (sa i hi)).mono fun r' h' ⟨m1, e1, hp⟩ => ?_
      obtain ⟨k', S', e, _⟩ := id hp
      exact ⟨k', m1, e, e1, e ▸ hp⟩
     ·obtain ⟨_, _, _, _, _, _, l3, _⟩ := hp
      exact l3 bl hml na
     ·subst e1
      rw [if_pos hz, if_pos hz] at e3
      exact ⟨m', tl, e2, putR_kid0 hml tb hbl na nb sa sb sd hS hp e3 e4⟩
    ·rw [if_neg hz]
     refine put_cut ((put_below P hP m r p v h bl N ka kb hm hu w2 he hc (fun k1 m1 => PutR m Sb (putT fkP b r) (.c (.d k1)) m1) ?_ (fun k1 m1 hp => ?_) fun k1 m1 hp => putR_shape hp).mono fun r' h' ⟨m1, k1, m', tl, hp, e1, e2, e3, e4⟩ => ?_)
     ·rw [if_neg hz]
      refine (put_ok P hP b m kb Sb r w6 hv hu tb fun i hi => hS i (sb i hi)).mono fun r' h' ⟨m1, e1, hp⟩ => ?_
      obtain ⟨k', S', e, _⟩ := id hp
      exact ⟨k', m1, e, e1, e ▸ hp⟩
     ·obtain ⟨_, _, _, _, _, _, l3, _⟩ := hp
      exact l3 bl hml nb
     ·subst e1
      rw [if_neg hz, if_neg hz] at e3
      exact ⟨m', tl, e2, putR_kid1 hml ta hbl na nb sa sb sd hS hp e3 e4⟩
   ·rw [if_neg hc]
    by_cases hd : covP r.p p = true
    ·rw [if_pos hd]
     refine put_cut ((put_above P hP m r p v h bl N ka kb hm hu w2 he (by simpa using hc) hd).mono fun r' h' ⟨m', tl, c, M, e1, e2, e3, e4, e5⟩ => ?_)
     subst e1
     refine ⟨m', tl, e2, ?_⟩
     by_cases hz : bitA p.addr r.p.len = 0
     ·rw [if_pos hz]
      rw [if_pos hz, if_pos hz] at e4
      exact putR_up true ht0 hS e3 e4 e5
     ·rw [if_neg hz]
      rw [if_neg hz, if_neg hz] at e4
      exact putR_up false ht0 hS e3 e4 e5
    ·rw [if_neg hd]
     refine put_cut ((put_beside P hP m r p v h bl N ka kb hm hv hu w1 w2 (by simpa using hc) (by simpa using hd)).mono fun r' h' ⟨m', tl, c, d, N', M, e1, e2, e3, e4, e5, e6, e7, e8⟩ => ?_)
     subst e1
     refine ⟨m', tl, e2, ?_⟩
     have hlen : (fkP r.p p).len = comP r.p p := rfl
     rw [hlen]
     by_cases hz : bitA r.p.addr (comP r.p p) = 0
     ·rw [if_pos hz]
      rw [if_pos hz, if_pos hz] at e7
      exact putR_fork true ht0 hS e3 e4 e5 e6 e7 e8
     ·rw [if_neg hz]
      rw [if_neg hz, if_neg hz] at e7
      exact putR_fork false ht0 hS e3 e4 e5 e6 e7 e8
end Go.Ab

/-
  Compressing: a trie and its routes.
-/
namespace Go.Ab
open Go.Proofs
theorem tnew_ok (P : Program) (hP : P = Try.prog) : FnS P n_trie_New [] [] fun r' h' => r' = .c (.ptr 0 0 0 0) ∧ h' = [.bx [.d .nilp]] := by
 refine heap_start (hP ▸ mixed) (hP ▸ fn_trie_New) (hP ▸ c_trie_New) (Nat.le_of_ble_eq_true rfl) fun Λ Λo K hK => ?_
 clear hP
 conv => cbv
 repeat' first | exact gu | exact trivial | refine And.intro ?_ ?_ | (intro hc; exact absurd hc (by decide)) | (intro hc; exfalso; omega) | (intro hc; (first | rw [wrap_small (by omega) (by omega)] at hc | rw [nI_eq] at hc | skip); try (conv => cbv)) | refine CallG.old ?_
 exact hK _ _ ⟨rfl, rfl⟩
theorem cut2H {P : Program} {f : Nat} {args : List AV} {h : Hp} {R : AV → Hp → Prop} (n : Nat) (hl : h.length = n) (hf : FnS P f args h fun r' h' => ∃ h0 tl, h' = h0 ++ tl ∧ h0.length = n ∧ refsA n r' = true ∧ refsH n h0 = true ∧ R r' h0) : FnS P f args h R := by
 subst hl
 refine (hf.cut fun r h' hr => ?_).mono fun r h1 ⟨h2, hr, hl⟩ => ?_
 ·obtain ⟨h0, tl, rfl, h1, h2, h3, _⟩ := hr
  refine ⟨h2, ?_⟩
  rw [← h1, List.take_left]
  rw [h1]; exact h3
 ·obtain ⟨h0, tl, he, h3, _, _, hR⟩ := hr
  have : h1 = h0 := (List.append_inj he (by omega)).1
  rw [this]; exact hR
def TrS (m0 m : Ar) (k : D) (t : Tri) : Prop := ∃ S, TrA m k t S ∧ (∀ i, S i → m i ≠ none) ∧ (∀ i, S i → m0 i = none) ∧ ∀ i, m0 i ≠ none → m i = m0 i
theorem TrS.put {m0 m m' : Ar} {k : D} {t t' : Tri} {S : Nat → Prop} {r : AV} (h : TrA m k t S ∧ (∀ i, S i → m i ≠ none) ∧ (∀ i, S i → m0 i = none) ∧ ∀ i, m0 i ≠ none → m i = m0 i) (hp : PutR m S t' r m') : ∃ k', r = .c (.d k') ∧ TrS m0 m' k' t' := by
 obtain ⟨h1, h2, h3, h4⟩ := h
 obtain ⟨k', S', rfl, p1, p2, p3, p4, p5⟩ := hp
 refine ⟨k', rfl, S', p1, p2, fun i hi => ?_, fun i hi => ?_⟩
 ·rcases p3 i hi with q | q
  ·exact h3 i q
  ·cases hm : m0 i with
   | none => rfl
   | some x => have := h4 i (by rw [hm]; simp); rw [q, hm] at this; cases this
 ·rw [p4 i (by rw [h4 i hi]; exact hi) fun hS => hi (h3 i hS)]
  exact h4 i hi
theorem tput_ok (P : Program) (hP : P = Try.prog) (m0 m : Ar) (k : D) (t : Tri) (r : Rt) (hw : WfTr t) (hv : validP r.p = true) (hu : inU r.p.addr) (ht : TrS m0 m k t) :
  FnS P n_trie_Trie_Put [.c (.ptr 1 0 0 0), rtA r] [.am m, .bx [.d k]] fun r' h' => ∃ m' k', r' = iA 0 ∧ h' = [.am m', .bx [.d k']] ∧ TrS m0 m' k' (putT fkP t r) := by
 obtain ⟨S, t1, t2, t3, t4⟩ := ht
 have hput := put_ok P hP t m k S r hw hv hu t1 t2
 have hva := pvalid_ok P hP r.p hu
 rw [hv] at hva
 refine cut2H 2 rfl ?_
 refine heap_start (hP ▸ mixed) (hP ▸ fn_trie_Trie_Put) (hP ▸ c_trie_Trie_Put) (Nat.le_of_ble_eq_true rfl) fun Λ Λo K hK => ?_
 clear hP
 have fin : ∀ m' k' tl, TrS m0 m' k' (putT fkP t r) → K (iA 0) (.am m' :: .bx [.d k'] :: tl) := fun m' k' tl h => hK _ _ ⟨[.am m', .bx [.d k']], tl, rfl, rfl, rfl, rfl, m', k', rfl, rfl, h⟩
 clear hK
 generalize putT fkP t r = t' at *
 obtain ⟨⟨ra, rl⟩, rv⟩ := r
 simp only [rtA, pfA] at *
 conv => cbv
 repeat' first | exact gu | exact trivial | refine And.intro ?_ ?_ | (intro hc; exact absurd hc (by decide)) | (intro hc; exfalso; omega) | (intro hc; (first | rw [wrap_small (by omega) (by omega)] at hc | rw [nI_eq] at hc | skip); try (conv => cbv)) | refine CallG.old ?_
 left
 intro (_ : Unit)
 conv => cbv
 repeat' first | refine call_b hva rfl rfl ?_ ?_ | exact gu | exact trivial | refine And.intro ?_ ?_ | (intro hc; exact absurd hc (by decide)) | (intro hc; exfalso; omega) | (intro hc; (first | rw [wrap_small (by omega) (by omega)] at hc | rw [nI_eq] at hc | skip); try (conv => cbv)) | refine CallG.old ?_
 refine wrF_fr [0] hput rfl rfl (by decide) ⟨rfl, trivial⟩ rfl rfl ?_
 rintro r hc' ⟨m', rfl, hp⟩
 obtain ⟨k', rfl, hs⟩ := TrS.put ⟨t1, t2, t3, t4⟩ hp
 have fin := fin m' k' [.bx [.d (u32D ra), .d (iD rl), .d (iD rv)]] hs
 clear hs hp hput t1 t2 t3 t4
 conv => cbv
 repeat' first | exact gu | exact trivial | refine And.intro ?_ ?_ | (intro hc; exact absurd hc (by decide)) | (intro hc; exfalso; omega) | (intro hc; (first | rw [wrap_small (by omega) (by omega)] at hc | rw [nI_eq] at hc | skip); try (conv => cbv)) | refine CallG.old ?_
 exact fin
end Go.Ab

/-
  Compressing: looking an address up in a trie.
-/
namespace Go.Ab
open Go.Proofs
def hgt : Tri → Nat
 | .nil => 0
 | .node _ _ _ a b => max (hgt a) (hgt b) + 1
theorem cutT {P : Program} {f : Nat} {args : List AV} {h : Hp} {R : AV → Hp → Prop} (n : Nat) (hl : h.length = n) (hf : FnS P f args h fun r' h' => ∃ x y h0 tl, r' = .tup [x, y] ∧ h' = h0 ++ tl ∧ h0.length = n ∧ refsA n x = true ∧ refsA n y = true ∧ refsH n h0 = true ∧ R r' h0) : FnS P f args h R := by
 subst hl
 refine (hf.cut2 fun r h' hr => ?_).mono fun r h1 ⟨h2, hr, hl⟩ => ?_
 ·obtain ⟨x, y, h0, tl, e, rfl, h1, h2, h3, h4, _⟩ := hr
  refine ⟨x, y, e, h2, h3, ?_⟩
  rw [← h1, List.take_left]
  rw [h1]; exact h4
 ·obtain ⟨x, y, h0, tl, e, he, h3, _, _, _, hR⟩ := hr
  have : h1 = h0 := (List.append_inj he (by omega)).1
  rw [this]; exact hR
def LkI (m : Ar) (t : Tri) (x : Int) (n : Nat) (s : D × Int × Int × Int × Bool) : Prop := ∃ (t' : Tri) (S' : Nat → Prop) (o : Option Rt), TrA m s.1 t' S' ∧ WfTr t' ∧ n + hgt t' ≤ hgt t ∧ s.2 = encO o ∧ lookT x t' o = lookT x t none
theorem tlook_ok (P : Program) (hP : P = Try.prog) (m : Ar) (k : D) (t : Tri) (S : Nat → Prop) (x : Int) (hw : WfTr t) (ht : TrA m k t S) (hx : inU x) (ra rn rv : Int) (rf : Bool) (hres : encO (lookT x t none) = (ra, rn, rv, rf)) :
  FnS P n_trie_Trie_Lookup [.c (.ptr 1 0 0 0), .c (.d (u32D x))] [.am m, .bx [.d k]] fun r' h' => r' = .tup [.agg [.d (u32D ra), .d (iD rn), .d (iD rv)], bA rf] ∧ h' = [.am m, .bx [.d k]] := by
 have hco := fun (p : Pfx) (hp : inU p.addr) => pcont_ok P hP p x hp hx
 have hbr := fun (n : Int) (h0 : 0 ≤ n) (h1 : n < 32) => branch_ok P hP x n hx h0 h1
 have h01 := bit_01 x
 have hsh : ∀ (t : Tri) (k : D) (S : Nat → Prop), TrA m k t S → fgD k = k := fun t k S h => by
  cases t with
  | nil => rw [show k = .nilp from h]; rfl
  | node p v hh a b => obtain ⟨bl, N, ka, kb, Sa, Sb, rfl, _⟩ := h; rfl
 refine cutT 2 rfl ?_
 refine heap_start (hP ▸ mixed) (hP ▸ fn_trie_Trie_Lookup) (hP ▸ c_trie_Trie_Lookup) (Nat.le_of_ble_eq_true rfl) fun Λ Λo K hK => ?_
 clear hP
 have fin : ∀ tl, K (.tup [.agg [.d (u32D ra), .d (iD rn), .d (iD rv)], bA rf]) (.am m :: .bx [.d k] :: tl) := fun tl => hK _ _ ⟨_, _, [.am m, .bx [.d k]], tl, rfl, rfl, rfl, rfl, rfl, rfl, rfl, rfl⟩
 clear hK
 conv => cbv
 repeat' first | (left; intro (_ : Unit); (conv => cbv)) | exact gu | exact trivial | refine And.intro ?_ ?_ | (intro hc; exact absurd hc (by decide)) | (intro hc; exfalso; omega) | (intro hc; (first | rw [wrap_small (by omega) (by omega)] at hc | rw [nI_eq] at hc | skip); try (conv => cbv)) | refine CallG.old ?_
 refine loop_upx (hgt t) (fun (s : D × Int × Int × Int × Bool) => [(0, .c (.ptr 1 0 0 0)), (1, .c (.d (u32D x))), (4, .c (.ptr 2 0 0 0)), (6, .c (.ptr 3 0 0 0)), (7, bA s.2.2.2.2), (8, .c (.d s.1))]) (fun s => [.am m, .bx [.d k], .bx [.d (u32D 0), .d (iD 0), .d (iD 0)], .bx [.d (u32D s.2.1), .d (iD s.2.2.1), .d (iD s.2.2.2.1)]])
  (LkI m t x) (k, 0, 0, 0, false)
  0 (fun (d : D) => [(0, .c (.ptr 1 0 0 0)), (1, .c (.d (u32D x))), (4, .c (.ptr 2 0 0 0)), (6, .c (.ptr 3 0 0 0)), (7, bA rf), (8, .c (.d d))]) (fun _ => [.am m, .bx [.d k], .bx [.d (u32D 0), .d (iD 0), .d (iD 0)], .bx [.d (u32D ra), .d (iD rn), .d (iD rv)]])
  (fun _ => True) (Wk.ca) ⟨t, S, none, ht, hw, by omega, rfl, rfl⟩ (fun n s h => by obtain ⟨_, _, _, _, _, h, _⟩ := h; omega) ?_ ?_
 ·clear fin
  rintro n ⟨kd, a, b, c, f⟩ Q' ⟨t', S', o, hT, hW, hh, ho, hl⟩ norm jn ex rt
  simp only at hT ho
  cases t' with
  | nil =>
   obtain rfl : kd = .nilp := hT
   have hr : encO o = (ra, rn, rv, rf) := by rw [← hres, ← hl]; rfl
   rw [hr] at ho
   cases ho
   conv => cbv
   repeat' first | exact gu | exact trivial | refine And.intro ?_ ?_ | (intro hc; exact absurd hc (by decide)) | (intro hc; exfalso; omega) | (intro hc; (first | rw [wrap_small (by omega) (by omega)] at hc | rw [nI_eq] at hc | skip); try (conv => cbv)) | refine CallG.old ?_
   exact jn _ _ D.nilp trivial (Wk.ca)
  | node p v h ta tb =>
   obtain ⟨bl, N, ka, kb, Sa, Sb, rfl, hm, hta, htb, _⟩ := hT
   obtain ⟨w1, w2, w3, w4, w5, w6⟩ := hW
   have hc := hco p w2
   obtain ⟨z0, z1, _⟩ := valid_spec.1 w1
   have hb := fun h32 => hbr p.len z0 h32
   have h01 := h01 p.len
   simp only [hgt] at hh
   have hga : hgt ta + 1 ≤ hgt t - n := by omega
   have hgb : hgt tb + 1 ≤ hgt t - n := by omega
   have hfa := hsh ta ka Sa hta
   have hfb := hsh tb kb Sb htb
   rw [lookT] at hl
   cases hcp : contP p x with
   | false =>
    rw [hcp] at hl hc
    simp only [Bool.false_eq_true, if_false] at hl
    have hr : encO o = (ra, rn, rv, rf) := by rw [← hres, ← hl]
    rw [hr] at ho
    cases ho
    obtain ⟨pa, pl⟩ := p
    simp only [pfA, nodeD] at *
    conv => cbv
    repeat' first | (refine ⟨N, _, _, hm, rfl, rfl, ?_⟩; (conv => cbv)) | (refine ⟨N, _, _, hm, rfl, ?_⟩; (conv => cbv)) | refine call_b hc rfl rfl ?_ ?_ | exact gu | exact trivial | refine And.intro ?_ ?_ | (intro hc; exact absurd hc (by decide)) | (intro hc; exfalso; omega) | (intro hc; (first | rw [wrap_small (by omega) (by omega)] at hc | rw [nI_eq] at hc | skip); try (conv => cbv)) | refine CallG.old ?_
    exact jn _ _ (D.adr bl 0) trivial (Wk.ca)
   | true =>
    rw [hcp] at hl hc
    simp only [if_true] at hl
    by_cases h32 : p.len = 32
    ·rw [if_pos h32] at hl
     have hr : encO (if h = true then some ⟨p, v⟩ else o) = (ra, rn, rv, rf) := by rw [← hres, ← hl]
     obtain ⟨pa, pl⟩ := p
     simp only at h32
     subst h32
     cases h with
     | true =>
      simp only [if_true, encO, Prod.mk.injEq] at hr
      obtain ⟨rfl, rfl, rfl, rfl⟩ := hr
      simp only [pfA, nodeD] at *
      conv => cbv
      repeat' first | (refine ⟨N, _, _, hm, rfl, rfl, ?_⟩; (conv => cbv)) | (refine ⟨N, _, _, hm, rfl, ?_⟩; (conv => cbv)) | refine call_b hc rfl rfl ?_ ?_ | exact gu | exact trivial | refine And.intro ?_ ?_ | (intro hc; exact absurd hc (by decide)) | (intro hc; exfalso; omega) | (intro hc; (first | rw [wrap_small (by omega) (by omega)] at hc | rw [nI_eq] at hc | skip); try (conv => cbv)) | refine CallG.old ?_
      exact jn _ _ (D.adr bl 0) trivial (Wk.ca)
     | false =>
      simp only [Bool.false_eq_true, if_false] at hr
      rw [hr] at ho
      cases ho
      simp only [pfA, nodeD] at *
      conv => cbv
      repeat' first | (refine ⟨N, _, _, hm, rfl, rfl, ?_⟩; (conv => cbv)) | (refine ⟨N, _, _, hm, rfl, ?_⟩; (conv => cbv)) | refine call_b hc rfl rfl ?_ ?_ | exact gu | exact trivial | refine And.intro ?_ ?_ | (intro hc; exact absurd hc (by decide)) | (intro hc; exfalso; omega) | (intro hc; (first | rw [wrap_small (by omega) (by omega)] at hc | rw [nI_eq] at hc | skip); try (conv => cbv)) | refine CallG.old ?_
      exact jn _ _ (D.adr bl 0) trivial (Wk.ca)
    ·rw [if_neg h32] at hl
     have hb := hb (by omega)
     obtain ⟨pa, pl⟩ := p
     simp only at h32
     have nx : ∀ (kk : D) (tt : Tri) (SS : Nat → Prop) (o' : Option Rt), TrA m kk tt SS → WfTr tt → hgt tt + 1 ≤ hgt t - n → lookT x tt o' = lookT x t none → ∀ a b c f, (a, b, c, f) = encO o' → LkI m t x (n + 1) (kk, a, b, c, f) :=
      fun kk tt SS o' q1 q2 q3 q4 a b c f q5 => ⟨tt, SS, o', q1, q2, by omega, q5, q4⟩
     cases h with
     | true =>
      simp only [if_true] at hl
      have na := fun (hz : bitA x pl = 0) => nx ka ta Sa (some ⟨⟨pa, pl⟩, v⟩) hta w5 hga (by rw [if_pos hz] at hl; exact hl) pa pl v true rfl
      have nb := fun (hz : bitA x pl ≠ 0) => nx kb tb Sb (some ⟨⟨pa, pl⟩, v⟩) htb w6 hgb (by rw [if_neg hz] at hl; exact hl) pa pl v true rfl
      clear hl nx
      simp only [pfA, nodeD] at *
      generalize bitA x pl = z at *
      conv => cbv
      repeat' first | (refine ⟨N, _, _, hm, rfl, rfl, ?_⟩; (conv => cbv)) | (refine ⟨N, _, _, hm, rfl, ?_⟩; (conv => cbv)) | refine call_b hc rfl rfl ?_ ?_ | (refine call_r hb rfl rfl ?_; conv => cbv) | exact gu | exact trivial | refine And.intro ?_ ?_ | (intro hc; exact absurd hc (by decide)) | (intro hc; exfalso; omega) | (intro hc; (first | rw [wrap_small (by omega) (by omega)] at hc | rw [nI_eq] at hc | skip); try (conv => cbv)) | refine CallG.old ?_
      ·exact norm _ _ (ka, pa, pl, v, true) (na (by omega)) (Wk.ca)
      ·exact norm _ _ (kb, pa, pl, v, true) (nb (by omega)) (Wk.ca)
     | false =>
      simp only [Bool.false_eq_true, if_false] at hl
      have na := fun (hz : bitA x pl = 0) => nx ka ta Sa o hta w5 hga (by rw [if_pos hz] at hl; exact hl) a b c f ho
      have nb := fun (hz : bitA x pl ≠ 0) => nx kb tb Sb o htb w6 hgb (by rw [if_neg hz] at hl; exact hl) a b c f ho
      clear hl nx
      simp only [pfA, nodeD] at *
      generalize bitA x pl = z at *
      conv => cbv
      repeat' first | (refine ⟨N, _, _, hm, rfl, rfl, ?_⟩; (conv => cbv)) | (refine ⟨N, _, _, hm, rfl, ?_⟩; (conv => cbv)) | refine call_b hc rfl rfl ?_ ?_ | (refine call_r hb rfl rfl ?_; conv => cbv) | exact gu | exact trivial | refine And.intro ?_ ?_ | (intro hc; exact absurd hc (by decide)) | (intro hc; exfalso; omega) | (intro hc; (first | rw [wrap_small (by omega) (by omega)] at hc | rw [nI_eq] at hc | skip); try (conv => cbv)) | refine CallG.old ?_
      ·exact norm _ _ (ka, a, b, c, f) (na (by omega)) (Wk.ca)
      ·exact norm _ _ (kb, a, b, c, f) (nb (by omega)) (Wk.ca)
 ·rintro d -
  conv => cbv
  repeat' first | exact gu | exact trivial | refine And.intro ?_ ?_ | (intro hc; exact absurd hc (by decide)) | (intro hc; exfalso; omega) | (intro hc; (first | rw [wrap_small (by omega) (by omega)] at hc | rw [nI_eq] at hc | skip); try (conv => cbv)) | refine CallG.old ?_
  exact fin _
end Go.Ab

/-
  The engine: functions that work in an arena of their own; at their end it is given up, and what leads into it is plain data.
-/
namespace Go.Ab
inductive ThD (m : Ar) : D → D → Prop
 | same (x : D) : ThD m x x
 | fg (x : D) : ThD m x (fgD x)
 | row (b o sz n cap N : Nat) (xs : List D) (rows : List (List D)) (g : Nat → Nat → D) (hm : m b = some (.cs N xs)) (hn : rows.length = n) (hcap : n ≤ cap) (hmx : n ≤ 9223372036854775807)
   (hs : ∀ (i : Nat) (e : List D), rows[i]? = some e → e.length = sz) (hx : ∀ (i : Nat) (e : List D) (j : Nat) (x : D), rows[i]? = some e → e[j]? = some x → xs[o + i * sz + j]? = some (g i j))
   (hr : ∀ (i : Nat) (e : List D) (j : Nat) (x : D), rows[i]? = some e → e[j]? = some x → ThD m (g i j) x) : ThD m (.sl b o sz n cap) (.list false sz rows)
 | list (nl : Bool) (sz : Nat) (l l' : List (List D)) (hlen : l.length = l'.length) (hs : ∀ (i : Nat) (e : List D), l'[i]? = some e → e.length = sz)
   (hr : ∀ (i : Nat) (e e' : List D) (j : Nat) (x x' : D), l[i]? = some e → l'[i]? = some e' → e[j]? = some x → e'[j]? = some x' → ThD m x x') : ThD m (.list nl sz l) (.list nl sz l')
section
variable {G : Nat → Prop} {ι : Io} {h : Hp} {w : World} {m : Ar}
theorem thD_sound {G' : Nat → Prop} (hG : ∀ b x, m b = some x → G' b ∧ ABR G' w b x) {x x' : D} (ht : ThD m x x') : ∀ {v : Value}, DR G' w v x → DR G' w v x' := by
 induction ht with
 | same x => exact fun h => h
 | fg x => exact fun h => h.fg
 | row b o sz n cap N xs rows g hm hn hcap hmx hs hx hr ih =>
  intro v hd
  cases hd
  obtain ⟨hg, c, t, fr, a1, a2, a3, a4, a5⟩ := hG b _ hm
  subst hn
  refine .sl b o cap sz rows (fun i j => (c[o + i * sz + j]?).getD undef) (fun _ => hg) hcap hmx hs (fun i e j x he hx' => ?_) fun i e j x he hx' => ?_
  ·obtain ⟨v, hv, _⟩ := a5 _ _ (hx i e j x he hx')
   rw [cell_of a1, hv]; rfl
  ·obtain ⟨v, hv, hd⟩ := a5 _ _ (hx i e j x he hx')
   simp only [hv, Option.getD_some]
   exact ih i e j x he hx' hd
 | list nl sz l l' hlen hs hr ih =>
  intro v hd
  cases hd with
  | nils =>
   have : l' = [] := List.eq_nil_of_length_eq_zero (by simpa using hlen.symm)
   subst this; exact .nils nl sz
  | emp a =>
   have : l' = [] := List.eq_nil_of_length_eq_zero (by simpa using hlen.symm)
   subst this; exact .emp a sz
  | sl b off cap _ _ g hg hcap hmax hsz hc hr' =>
   have both : ∀ (i : Nat) (e' : List D) (j : Nat) (x' : D), l'[i]? = some e' → e'[j]? = some x' → ∃ e x, l[i]? = some e ∧ e[j]? = some x := by
    intro i e' j x' he hx
    have hi := get_lt he
    have hj := get_lt hx
    have h1 : l[i]? = some (l[i]'(by omega)) := List.getElem?_eq_getElem _
    have h2 := hsz i _ h1
    have h3 := hs i e' he
    exact ⟨_, _, h1, List.getElem?_eq_getElem (by omega)⟩
   rw [hlen]
   refine .sl b off cap sz l' g (fun hne => hg fun h0 => hne ?_) (by omega) (by omega) hs (fun i e j x he hx => ?_) fun i e j x he hx => ?_
   ·subst h0; exact List.eq_nil_of_length_eq_zero (by simpa using hlen.symm)
   ·obtain ⟨e0, x0, h1, h2⟩ := both i e j x he hx
    exact hc i e0 j x0 h1 h2
   ·obtain ⟨e0, x0, h1, h2⟩ := both i e j x he hx
    exact ih i e0 e j x0 x h1 he h2 hx (hr' i e0 j x0 h1 h2)
theorem HR.thaw (r : HR G ι h w) (h0 : h[0]? = some (.am m)) : HR (fun b => G b ∨ ∃ x, m b = some x) ι (h.set 0 .dead) w ∧ Ext G ι h w (fun b => G b ∨ ∃ x, m b = some x) ι (h.set 0 .dead) w ∧
    ∀ b x, m b = some x → (G b ∨ ∃ x, m b = some x) ∧ ABR (fun b => G b ∨ ∃ x, m b = some x) w b x := by
  have hgm : ∀ b, G b → (G b ∨ ∃ x, m b = some x) ∧ w.heap[b]? = w.heap[b]? := fun b hb => ⟨.inl hb, rfl⟩
  have hext : Ext G ι h w (fun b => G b ∨ ∃ x, m b = some x) ι (h.set 0 .dead) w :=
    { size := Nat.le_refl _
      quiet := ⟨rfl, rfl, rfl, Nat.le_refl _⟩
      frame := fun _ _ _ => rfl
      gmono := fun _ h => .inl h
      gnew := fun b hb => by
        rcases hb with h | ⟨x, hx⟩
        · exact .inl h
        · exact .inr (.inr (am_owned h0 hx))
      onew := fun b ho => .inl (owned_set h0 own1_dead ho)
      keep := fun l k hk => by
        by_cases e : 0 = l
        · subst e
          exact ⟨.dead, by rw [List.getElem?_set_self (get_lt h0)], by cases k <;> trivial⟩
        · exact ⟨k, by rw [List.getElem?_set_ne e]; exact hk, Kept.refl ι w l k⟩ }
  refine ⟨?_, hext, fun b x hx => ⟨.inr ⟨x, hx⟩, (r.blk 0 _ h0 b x hx).mono hgm rfl⟩⟩
  exact
    { len := by simp [r.len]
      own := own_kill r
      g := fun b hb => by
        rcases hb with hb | ⟨x, hx⟩
        · exact ⟨(r.g b hb).1, fun ho => (r.g b hb).2 (owned_set h0 own1_dead ho)⟩
        · refine ⟨owned_lt r (am_owned h0 hx), fun ⟨l, k, g1, g2⟩ => ?_⟩
          rcases get_set g1 with ⟨_, e2, _⟩ | ⟨e0, e1⟩
          · subst e2; exact own1_dead g2
          · exact e0 (r.own 0 l b _ k h0 e1 ⟨x, hx⟩ g2).symm
      blk := fun l k hk => by
        rcases get_set hk with ⟨_, d2, _⟩ | ⟨_, d1⟩
        · subst d2; trivial
        · exact BR.ext hext r d1 rfl fun _ _ => rfl }
end
def ThDs (m : Ar) : List D → List D → Prop
 | [], [] => True
 | x :: r, y :: s => ThD m x y ∧ ThDs m r s
 | _, _ => False
theorem thDs_get {m : Ar} : ∀ {l l' : List D}, ThDs m l l' → ∀ (i : Nat) (y : D), l'[i]? = some y → ∃ x, l[i]? = some x ∧ ThD m x y := by
 intro l
 induction l with
 | nil => intro l' h; cases l' with | nil => simp | cons => exact h.elim
 | cons x r ih =>
  intro l' h
  cases l' with
  | nil => exact h.elim
  | cons y s =>
   obtain ⟨h1, h2⟩ := h
   intro i b hb
   cases i with
   | zero => simp at hb; subst hb; exact ⟨x, rfl, h1⟩
   | succ i => simp at hb; obtain ⟨z, hz, ht⟩ := ih h2 i b hb; exact ⟨z, by simpa using hz, ht⟩
inductive ThC (m : Ar) : CV → CV → Prop
 | same (x : CV) (hx : pureC x = true) : ThC m x x
 | d (x x' : D) (h : ThD m x x') : ThC m (.d x) (.d x')
 | rp (l l' : List D) (h : ThDs m l l') : ThC m (.rp l) (.rp l')
def ThCs (m : Ar) : List CV → List CV → Prop
 | [], [] => True
 | x :: r, y :: s => ThC m x y ∧ ThCs m r s
 | _, _ => False
inductive ThA (m : Ar) : AV → AV → Prop
 | c (x y : CV) (h : ThC m x y) : ThA m (.c x) (.c y)
 | agg (l l' : List CV) (h : ThCs m l l') : ThA m (.agg l) (.agg l')
def ThAs (m : Ar) : List AV → List AV → Prop
 | [], [] => True
 | x :: r, y :: s => ThA m x y ∧ ThAs m r s
 | _, _ => False
theorem thC_pure {m : Ar} {x y : CV} (h : ThC m x y) : pureC y = true := by
 cases h with
 | same _ hx => exact hx
 | d => rfl
 | rp => rfl
theorem thCs_pure {m : Ar} : ∀ {l l' : List CV}, ThCs m l l' → l.length = l'.length ∧ l'.all pureC = true ∧ ∀ (i : Nat) (x y : CV), l[i]? = some x → l'[i]? = some y → ThC m x y := by
 intro l
 induction l with
 | nil => intro l' h; cases l' with | nil => simp | cons => exact h.elim
 | cons x r ih =>
  intro l' h
  cases l' with
  | nil => exact h.elim
  | cons y s =>
   obtain ⟨h1, h2⟩ := h
   obtain ⟨i1, i2, i3⟩ := ih h2
   refine ⟨by simp [i1], by simp [thC_pure h1, i2], fun i a b ha hb => ?_⟩
   cases i with
   | zero => simp at ha hb; subst ha hb; exact h1
   | succ i => simp at ha hb; exact i3 i a b ha hb
theorem thA_pure {m : Ar} {x y : AV} (h : ThA m x y) : pureA y = true := by
 cases h with
 | c _ _ h => exact thC_pure h
 | agg _ _ h => exact (thCs_pure h).2.1
theorem thAs_get {m : Ar} : ∀ {l l' : List AV}, ThAs m l l' → l.length = l'.length ∧ pureA.pureAs l' = true ∧ ∀ (i : Nat) (x y : AV), l[i]? = some x → l'[i]? = some y → ThA m x y := by
 intro l
 induction l with
 | nil => intro l' h; cases l' with | nil => simp [pureA.pureAs] | cons => exact h.elim
 | cons x r ih =>
  intro l' h
  cases l' with
  | nil => exact h.elim
  | cons y s =>
   obtain ⟨h1, h2⟩ := h
   obtain ⟨i1, i2, i3⟩ := ih h2
   refine ⟨by simp [i1], by simp [pureA.pureAs, thA_pure h1, i2], fun i a b ha hb => ?_⟩
   cases i with
   | zero => simp at ha hb; subst ha hb; exact h1
   | succ i => simp at ha hb; exact i3 i a b ha hb
def RetA (res : List (Nat × Option (Option Nat))) (L : Lv) (h : Hp) (K : AV → Prop) : Prop :=
 match resA (lkN L) h res with
 | some vs => vFrzAs h vs fun rs h2 => match h2 with
  | .am m :: _ => ∃ rs', ThAs m rs rs' ∧ K (pack rs')
  | _ => False
 | none => False
def am0 : Ar := fun _ => none
def vcFAE (res : List (Nat × Option (Option Nat))) (K : AV → Prop) : Post := fun x L h => match x with
 | .exit _ => False
 | _ => RetA res L h K
def vcFA (P : Program) (Λ : Len) (af : AF) (args : List AV) (K : AV → Prop) : Prop :=
 match af with
 | ⟨_, res, body⟩ => vcC P Λ 1 body (argL 0 args) [.am am0] (vcFAE res K)
theorem HR.am0 {G : Nat → Prop} {w : World} {ι : Io} (r : HR G ι [] w) : HR G [(0, 0)] [.am am0] w :=
  { len := rfl
    own := fun l l' b k k' h1 h2 _ _ => by
      have := get_lt h1; have := get_lt h2; simp at *; omega
    g := fun b hb => ⟨(r.g b hb).1, fun ⟨l, k, h1, h2⟩ => by
      have hl : l = 0 := by have := get_lt h1; simpa using this
      subst hl; cases h1
      obtain ⟨x, hx⟩ := h2; cases hx⟩
    blk := fun l k h1 => by
      have hl : l = 0 := by have := get_lt h1; simpa using this
      subst hl; cases h1
      intro b x hx; cases hx }
theorem fn_arena {P : Program} {f : Nat} {fn : Func} {af : AF} {args : List AV} {K : AV → Prop} (hmo : P.follows .mixedOrders = true) (hf : P.funcs[f]? = some fn) (hc : compF P fn = some af) (hl : args.length ≤ af.nt) (hv : ∀ Λ : Len, (∀ l, Λ l = (l.length : Int)) → vcFA P Λ af args K) :
    FnS P f args [] fun r _ => pureA r = true ∧ K r := by
  obtain ⟨c, hb, hcc, hres, hnt⟩ := compF_spec hc
  have hv1 := hv (fun l => (l.length : Int)) fun _ => rfl
  refine ⟨fun G ι w vs hr hvs => ?_⟩
  have hr1 := hr.am0
  have hι : ι = [] := by have := hr.len; exact List.eq_nil_of_length_eq_zero this
  subst hι
  have hvs1 : VRs G w [(0, 0)] [.am am0] vs args := ⟨hvs.1, fun i v x h1 h2 => (hvs.2 i v x h1 h2).mono (fun b hb => ⟨hb, rfl⟩) (fun l k hk => by simp at hk)⟩
  have none1 : ∀ b, ¬ owned [(0, 0)] [.am am0] b := fun b ⟨l, k, h1, h2⟩ => by
    have hl : l = 0 := by have := get_lt h1; simpa using this
    subst hl; cases h1
    obtain ⟨x, hx⟩ := h2; cases hx
  have henter := enter_fits (af := af) hnt (by omega) hr1 hvs1
  have hwp := vcC_sound (h0 := [.am am0]) (Λ := fun l => (l.length : Int)) (fun _ => rfl) (m := 1) hmo (by simp) c af.body _ _ (vcFAE af.res K) _ w hcc (by cases af; exact hv1) henter
  refine .of hf (calls_marks hf hb (wpIn_mono hwp fun x a w' ⟨L, h', hq, hfit⟩ => ?_))
  have fin : RetA af.res L h' K → LeavesInM Fence.wide 0 P fn a.tmps (fun e w' => ∃ v r G' ι' h'', e = .returned v ∧ (pureA r = true ∧ K r) ∧ HR G' ι' h'' w' ∧ VR G' w' ι' h'' v r ∧ Ext G [] [] w G' ι' h'' w') a.defers .returning w' := by
    intro hret
    refine fits_leave hfit fun G1 ι1 w' rel ext => ?_
    unfold RetA at hret
    split at hret
    · rename_i vs' hvs'
      obtain ⟨rs, h2, hrs, hret⟩ := vFrzAs_sound hret
      split at hret
      · rename_i m rest
        obtain ⟨rs', ht, hK⟩ := hret
        rw [lkN_fun] at hvs'
        obtain ⟨us, q1, q2⟩ := results_all (P := P) (fn := fn) (af := af) hres rel.hr rel.env hvs'
        obtain ⟨G2, k1, k2, k3, k4⟩ := frzAs_sound rel.hr q2 hrs
        obtain ⟨j1, j2, j3⟩ := HR.thaw k1 (m := m) rfl
        have e := (ext.trans k2).trans j2
        obtain ⟨t1, t2, t3⟩ := thAs_get ht
        have hvr : VRs (fun b => G2 b ∨ ∃ x, m b = some x) w' ι1 (List.set (.am m :: rest) 0 .dead) us rs' := by
          refine ⟨by rw [k3.1, t1], fun i v y h1 h2 => ?_⟩
          have hi := get_lt h2
          have hx : rs[i]? = some (rs[i]'(by omega)) := List.getElem?_eq_getElem _
          have hvx := (k3.2 i v _ h1 hx).ext j2 k1
          have hth := t3 i _ y hx h2
          revert hvx hth
          generalize rs[i]'(by omega) = z
          intro hvx hth
          have cc : ∀ {v : Value} {p q : CV}, CR (fun b => G2 b ∨ ∃ x, m b = some x) w' ι1 (List.set (.am m :: rest) 0 .dead) v p → ThC m p q → CR (fun b => G2 b ∨ ∃ x, m b = some x) w' ι1 (List.set (.am m :: rest) 0 .dead) v q := by
            intro v p q hp hq
            cases hq with
            | same => exact hp
            | d x x' h => cases hp with | d _ _ hd => exact .d _ _ (thD_sound j3 h hd)
            | rp l l' h =>
              cases hp with
              | rp b o _ hG hc =>
                refine .rp b o _ hG fun k y hy => ?_
                obtain ⟨x, hx, ht⟩ := thDs_get h k y hy
                obtain ⟨v, hv, hd⟩ := hc k x hx
                exact ⟨v, hv, thD_sound j3 ht hd⟩
          cases hth with
          | c _ _ h => cases hvx with | c _ _ hc => exact .c _ _ (cc hc h)
          | agg l l' h =>
            obtain ⟨u1, u2, u3⟩ := thCs_pure h
            cases hvx with
            | agg cs _ hn hc =>
              refine .agg _ _ (by omega) fun j v y hv hy => ?_
              have hj := get_lt hy
              exact cc (hc j v _ hv (List.getElem?_eq_getElem (by omega))) (u3 j _ y (List.getElem?_eq_getElem (by omega)) hy)
        refine ⟨_, q1, _, pack rs', _, ι1, _, rfl, ⟨?_, hK⟩, j1, pack_sound hvr, ?_⟩
        · cases rs' with
          | nil => rfl
          | cons x rs' =>
            cases rs' with
            | nil => simp only [pureA.pureAs, Bool.and_true] at t2; exact t2
            | cons y rs' => exact t2
        · exact
            { size := e.size
              quiet := e.quiet
              frame := fun b hb _ => e.frame b hb (none1 b)
              gmono := e.gmono
              gnew := fun b hb => by
                rcases e.gnew b hb with h | h | h
                · exact .inl h
                · exact .inr (.inl h)
                · exact absurd h (none1 b)
              onew := fun b hb => by
                rcases e.onew b hb with h | h
                · exact absurd h (none1 b)
                · exact .inr h
              keep := fun l k hk => by simp at hk }
      · exact hret.elim
    · exact hret.elim
  cases x with
  | normal => exact fin hq
  | ret => exact fin hq
  | exit i => exact hq.elim
  | goto => exact hq.elim
  | panic => exact hq.elim
  | outgrown => exact hq.elim
end Go.Ab

/-
  Compressing: the routes of a trie, one after the other.
-/
namespace Go.Ab
open Go.Proofs
theorem routes_nd : ∀ {t : Tri}, WfTr t → ((routesT t).map (·.p)).Nodup
 | .nil, _ => List.nodup_nil
 |.node p v h a b, hw => by
  obtain ⟨ca, cb⟩ := node_cov hw
  obtain ⟨h1, h2, h3, h4, h5, h6⟩ := hw
  have na := routes_nd h5
  have nb := routes_nd h6
  have hab : ((routesT a ++ routesT b).map (·.p)).Nodup := by
   rw [List.map_append]
   refine List.nodup_append.2 ⟨na, nb, fun x hx y hy e => ?_⟩
   obtain ⟨r, hr, rfl⟩ := List.mem_map.1 hx
   obtain ⟨q, hq, rfl⟩ := List.mem_map.1 hy
   exact lo_hi (ca r hr) (cb q hq) e
  rw [routesT]
  cases h with
  | false => exact hab
  | true =>
   simp only [if_true, List.cons_append, List.nil_append, List.map_cons]
   refine List.nodup_cons.2 ⟨fun hm => ?_, hab⟩
   obtain ⟨r, hr, e⟩ := List.mem_map.1 hm
   rcases List.mem_append.1 hr with hr | hr
   ·exact half_ne.1 (ca r hr) e
   ·exact half_ne.2 (cb r hr) e
theorem nodup_map {α β : Type} {f : α → β} {l : List α} (h : (l.map f).Nodup) : l.Nodup := by
 rw [List.nodup_iff_pairwise_ne, List.pairwise_map] at h
 rw [List.nodup_iff_pairwise_ne]
 exact h.imp fun hn e => hn (by rw [e])
theorem build_len (fk : Pfx → Pfx → Pfx) (hfk : ∀ r n : Pfx, validP r = true → inU r.addr → validP n = true → inU n.addr → covP r n = false → covP n r = false → ForkP r n (fk r n)) {l : List Rt}
  (hu : ∀ r ∈ l, inU r.p.addr) (hv : validR l = true) : (routesT (buildT fk l)).length = l.length := by
 obtain ⟨h1, h2⟩ := build_law fk hfk hu hv
 have n1 := nodup_map (routes_nd h1)
 have n2 := nodup_map (validR_spec.1 hv).2
 exact Nat.le_antisymm (n1.length_le_of_subset fun q hq => (h2 q).1 hq) (n2.length_le_of_subset fun q hq => (h2 q).2 hq)
structure YlT (P : Program) (l N : Nat) (O : Nat → Prop) (J : Nat → Ar → Prop) : Prop where
 no : NoFn P l
 out : ∀ k m r, J k m → k < N → FnS P (8589934592 + l) [rtA r] [.am m] fun q h' => q = bA true ∧ ∃ m', h' = [.am m'] ∧ J (k + 1) m' ∧ ∀ b, m b ≠ none → ¬ O b → m' b = m b
theorem callV_ylT {P : Program} {h : Hp} {f l : Nat} {args : List AV} {K : AV → Hp → Prop} (hf : f = 8589934592 + l) (hk : FnS P (8589934592 + l) args h K) : CallV P h f args K := by
 rw [hf]; exact .fn hk
theorem TrA.frameN {m m' : Ar} {O : Nat → Prop} {t : Tri} {k : D} {S : Nat → Prop} (h : TrA m k t S) (hS : ∀ i, S i → m i ≠ none ∧ ¬ O i) (hm : ∀ b, m b ≠ none → ¬ O b → m' b = m b) : TrA m' k t S ∧ ∀ i, S i → m' i ≠ none ∧ ¬ O i :=
 ⟨h.frame fun i hi => hm i (hS i hi).1 (hS i hi).2, fun i hi => ⟨by rw [hm i (hS i hi).1 (hS i hi).2]; exact (hS i hi).1, (hS i hi).2⟩⟩
theorem visit_ok (P : Program) (hP : P = Try.prog) {l N : Nat} {O : Nat → Prop} {J : Nat → Ar → Prop} (hY : YlT P l N O J) : ∀ (t : Tri) {m : Ar} {kd : D} {S : Nat → Prop} {k : Nat}, TrA m kd t S → (∀ i, S i → m i ≠ none ∧ ¬ O i) → J k m → k + (routesT t).length ≤ N →
  FnS P n_trie_node_visit [.c (.d kd), .c (.d (.yl l))] [.am m] fun r h' => r = bA true ∧ ∃ m', h' = [.am m'] ∧ J (k + (routesT t).length) m' ∧ ∀ b, m b ≠ none → ¬ O b → m' b = m b := by
 intro t
 induction t with
 | nil =>
  intro m kd S k hT hS hj hN
  obtain rfl : kd = .nilp := hT
  refine heap_start (hP ▸ mixed) (hP ▸ fn_trie_node_visit) (hP ▸ c_trie_node_visit) (Nat.le_of_ble_eq_true rfl) fun Λ Λo K hK => ?_
  clear hP
  have hend := hK (bA true) [.am m] ⟨rfl, m, rfl, hj, fun _ _ _ => rfl⟩
  conv => cbv
  repeat' first | exact gu | exact trivial | refine And.intro ?_ ?_ | (intro hc; exact absurd hc (by decide)) | (intro hc; exfalso; omega) | (intro hc; (first | rw [wrap_small (by omega) (by omega)] at hc | rw [nI_eq] at hc | skip); try (conv => cbv)) | refine CallG.old ?_
  exact hend
 | node p v h a b iha ihb =>
  intro m kd S k hT hS hj hN
  obtain ⟨bl, Nb, ka, kb, Sa, Sb, rfl, hm, hta, htb, hbl, hna, hnb, hsa, hsb, hsd⟩ := hT
  have hno := hY.no
  refine heap_start (hP ▸ mixed) (hP ▸ fn_trie_node_visit) (hP ▸ c_trie_node_visit) (Nat.le_of_ble_eq_true rfl) fun Λ Λo K hK => ?_
  clear hP
  have hlen : (routesT (.node p v h a b)).length = (if h = true then 1 else 0) + (routesT a).length + (routesT b).length := by
   rw [routesT]; cases h <;> simp <;> omega
  rw [hlen] at hN
  have hend := fun m' (h1 : J (k + (if h = true then 1 else 0) + (routesT a).length + (routesT b).length) m') h2 => hK (bA true) [.am m'] ⟨rfl, m', rfl, by rw [hlen, ← Nat.add_assoc, ← Nat.add_assoc]; exact h1, h2⟩
  clear hK hlen
  have hout := fun (hk : k < N) => hY.out k m ⟨p, v⟩ hj hk
  obtain ⟨pa, pl⟩ := p
  cases h with
  | true =>
   simp only [if_true] at hN hend
   replace hout := hout (by omega)
   simp only [rtA, nodeD] at *
   -- what the kids see behind the yield
   have hA : ∀ m1, J (k + 1) m1 → (∀ b, m b ≠ none → ¬ O b → m1 b = m b) → m1 bl = some (.cs Nb [u32D pa, iD pl, iD v, .bool true, ka, kb]) ∧ FnS P n_trie_node_visit [.c (.d ka), .c (.d (.yl l))] [.am m1] fun r h' => r = bA true ∧ ∃ m', h' = [.am m'] ∧ J (k + 1 + (routesT a).length) m' ∧ ∀ b, m1 b ≠ none → ¬ O b → m' b = m1 b := fun m1 h1 h2 => by
    obtain ⟨f1, f2⟩ := hta.frameN (fun i hi => hS i (hsa i hi)) h2
    exact ⟨by rw [h2 bl (hS bl hbl).1 (hS bl hbl).2]; exact hm, iha f1 f2 h1 (by omega)⟩
   have hB : ∀ m2, J (k + 1 + (routesT a).length) m2 → (∀ b, m b ≠ none → ¬ O b → m2 b = m b) → m2 bl = some (.cs Nb [u32D pa, iD pl, iD v, .bool true, ka, kb]) ∧ FnS P n_trie_node_visit [.c (.d kb), .c (.d (.yl l))] [.am m2] fun r h' => r = bA true ∧ ∃ m', h' = [.am m'] ∧ J (k + 1 + (routesT a).length + (routesT b).length) m' ∧ ∀ b, m2 b ≠ none → ¬ O b → m' b = m2 b := fun m2 h1 h2 => by
    obtain ⟨f1, f2⟩ := htb.frameN (fun i hi => hS i (hsb i hi)) h2
    exact ⟨by rw [h2 bl (hS bl hbl).1 (hS bl hbl).2]; exact hm, ihb f1 f2 h1 (by omega)⟩
   have htr : ∀ m1 m2 : Ar, (∀ b, m b ≠ none → ¬ O b → m1 b = m b) → (∀ b, m1 b ≠ none → ¬ O b → m2 b = m1 b) → ∀ b, m b ≠ none → ¬ O b → m2 b = m b := fun m1 m2 h1 h2 b hb ho => by
    rw [h2 b (by rw [h1 b hb ho]; exact hb) ho, h1 b hb ho]
   clear iha ihb hta htb hS hj hY
   conv => cbv
   repeat' first | (refine ⟨Nb, _, _, hm2, rfl, rfl, ?_⟩; (conv => cbv)) | (refine ⟨Nb, _, _, hm2, rfl, ?_⟩; (conv => cbv)) | (refine ⟨Nb, _, _, hm1, rfl, rfl, ?_⟩; (conv => cbv)) | (refine ⟨Nb, _, _, hm1, rfl, ?_⟩; (conv => cbv)) | (refine ⟨Nb, _, _, hm, rfl, rfl, ?_⟩; (conv => cbv)) | (refine ⟨Nb, _, _, hm, rfl, ?_⟩; (conv => cbv)) | exact hno | (refine callV_ylT (l := l) (by generalize l = l0; cases l0 <;> rfl) (FnS.mono hout ?_); rintro r h' ⟨rfl, m1, rfl, hj1, hk1⟩; obtain ⟨hm1, hvA⟩ := hA m1 hj1 hk1; (conv => cbv)) | (refine call_fr [0] hvA rfl rfl (by decide) (by repeat' first | exact trivial | refine And.intro ?_ ?_ | rfl) rfl rfl ?_; rintro r hc' ⟨rfl, m2, rfl, hj2, hk2⟩; (have hk2' := htr m1 m2 hk1 hk2); obtain ⟨hm2, hvB⟩ := hB m2 hj2 hk2'; (conv => cbv)) | (refine call_fr [0] hvB rfl rfl (by decide) (by repeat' first | exact trivial | refine And.intro ?_ ?_ | rfl) rfl rfl ?_; rintro r hc' ⟨rfl, m3, rfl, hj3, hk3⟩; (have hfin := hend m3 hj3 (htr m2 m3 hk2' hk3)); (conv => cbv)) | exact hfin | exact gu | exact trivial | refine And.intro ?_ ?_ | (intro hc; exact absurd hc (by decide)) | (intro hc; exfalso; omega) | (intro hc; (first | rw [wrap_small (by omega) (by omega)] at hc | rw [nI_eq] at hc | skip); try (conv => cbv)) | refine CallG.old ?_
  | false =>
   simp only [Bool.false_eq_true, if_false, Nat.add_zero, Nat.zero_add] at hN hend
   clear hout
   simp only [nodeD] at *
   have hvA := iha hta (fun i hi => hS i (hsa i hi)) hj (by omega)
   have hB : ∀ m2, J (k + (routesT a).length) m2 → (∀ b, m b ≠ none → ¬ O b → m2 b = m b) → m2 bl = some (.cs Nb [u32D pa, iD pl, iD v, .bool false, ka, kb]) ∧ FnS P n_trie_node_visit [.c (.d kb), .c (.d (.yl l))] [.am m2] fun r h' => r = bA true ∧ ∃ m', h' = [.am m'] ∧ J (k + (routesT a).length + (routesT b).length) m' ∧ ∀ b, m2 b ≠ none → ¬ O b → m' b = m2 b := fun m2 h1 h2 => by
    obtain ⟨f1, f2⟩ := htb.frameN (fun i hi => hS i (hsb i hi)) h2
    exact ⟨by rw [h2 bl (hS bl hbl).1 (hS bl hbl).2]; exact hm, ihb f1 f2 h1 (by omega)⟩
   have htr : ∀ m1 m2 : Ar, (∀ b, m b ≠ none → ¬ O b → m1 b = m b) → (∀ b, m1 b ≠ none → ¬ O b → m2 b = m1 b) → ∀ b, m b ≠ none → ¬ O b → m2 b = m b := fun m1 m2 h1 h2 b hb ho => by
    rw [h2 b (by rw [h1 b hb ho]; exact hb) ho, h1 b hb ho]
   clear iha ihb hta htb hS hj hY
   conv => cbv
   repeat' first | (refine ⟨Nb, _, _, hm2, rfl, rfl, ?_⟩; (conv => cbv)) | (refine ⟨Nb, _, _, hm2, rfl, ?_⟩; (conv => cbv)) | (refine ⟨Nb, _, _, hm, rfl, rfl, ?_⟩; (conv => cbv)) | (refine ⟨Nb, _, _, hm, rfl, ?_⟩; (conv => cbv)) | (refine call_fr [0] hvA rfl rfl (by decide) (by repeat' first | exact trivial | refine And.intro ?_ ?_ | rfl) rfl rfl ?_; rintro r hc' ⟨rfl, m2, rfl, hj2, hk2⟩; obtain ⟨hm2, hvB⟩ := hB m2 hj2 hk2; (conv => cbv)) | (refine call_fr [0] hvB rfl rfl (by decide) (by repeat' first | exact trivial | refine And.intro ?_ ?_ | rfl) rfl rfl ?_; rintro r hc' ⟨rfl, m3, rfl, hj3, hk3⟩; (have hfin := hend m3 hj3 (htr m2 m3 hk2 hk3)); (conv => cbv)) | exact hfin | exact gu | exact trivial | refine And.intro ?_ ?_ | (intro hc; exact absurd hc (by decide)) | (intro hc; exfalso; omega) | (intro hc; (first | rw [wrap_small (by omega) (by omega)] at hc | rw [nI_eq] at hc | skip); try (conv => cbv)) | refine CallG.old ?_
theorem all1_ok (P : Program) (hP : P = Try.prog) {l N : Nat} {O : Nat → Prop} {J : Nat → Ar → Prop} (hY : YlT P l N O J) {t : Tri} {m : Ar} {kd : D} {S : Nat → Prop} {k : Nat} (hT : TrA m kd t S) (hS : ∀ i, S i → m i ≠ none ∧ ¬ O i) (hj : J k m) (hN : k + (routesT t).length ≤ N) :
  FnS P n_trie_Trie_All_1 [.c (.d (.yl l)), .c (.ptr 2 0 0 0)] [.am m, .bx [.d kd], .bx [.ptr 1 0 0 0]] fun _ h' => ∃ m', h' = [.am m', .bx [.d kd], .bx [.ptr 1 0 0 0]] ∧ J (k + (routesT t).length) m' ∧ ∀ b, m b ≠ none → ¬ O b → m' b = m b := by
 have hv := visit_ok P hP hY t hT hS hj hN
 have hsh : fgD kd = kd := by
  cases t with
  | nil => rw [show kd = .nilp from hT]; rfl
  | node p v hh a b => obtain ⟨bl, N, ka, kb, Sa, Sb, rfl, _⟩ := hT; rfl
 refine heap_start (hP ▸ mixed) (hP ▸ fn_trie_Trie_All_1) (hP ▸ c_trie_Trie_All_1) (Nat.le_of_ble_eq_true rfl) fun Λ Λo K hK => ?_
 clear hP hT hS hY
 have hend := fun m' h1 h2 => hK (.tup []) [.am m', .bx [.d kd], .bx [.ptr 1 0 0 0]] ⟨m', rfl, h1, h2⟩
 clear hK
 conv => cbv
 repeat' first | (refine call_fr [0] hv rfl rfl (by decide) (by repeat' first | exact trivial | refine And.intro ?_ ?_ | rfl) rfl rfl ?_; rintro r hc' ⟨rfl, m3, rfl, hj3, hk3⟩; (have hfin := hend m3 hj3 hk3); (conv => cbv)) | exact hfin | exact gu | exact trivial | refine And.intro ?_ ?_ | (intro hc; exact absurd hc (by decide)) | (intro hc; exfalso; omega) | (intro hc; (first | rw [wrap_small (by omega) (by omega)] at hc | rw [nI_eq] at hc | skip); try (conv => cbv)) | refine CallG.old ?_
theorem tall_ok (P : Program) (hP : P = Try.prog) (m : Ar) (kd : D) : FnS P n_trie_Trie_All [.c (.ptr 1 0 0 0)] [.am m, .bx [.d kd]] fun r h' => r = .c (.fn false n_trie_Trie_All_1 [.ptr 2 0 0 0]) ∧ h' = [.am m, .bx [.d kd], .bx [.ptr 1 0 0 0]] := by
 refine heap_start (hP ▸ mixed) (hP ▸ fn_trie_Trie_All) (hP ▸ c_trie_Trie_All) (Nat.le_of_ble_eq_true rfl) fun Λ Λo K hK => ?_
 clear hP
 have hend := hK _ _ ⟨rfl, rfl⟩
 conv => cbv
 repeat' first | (left; intro (_ : Unit); (conv => cbv)) | exact hend | exact gu | exact trivial | refine And.intro ?_ ?_ | (intro hc; exact absurd hc (by decide)) | (intro hc; exfalso; omega) | (intro hc; (first | rw [wrap_small (by omega) (by omega)] at hc | rw [nI_eq] at hc | skip); try (conv => cbv)) | refine CallG.old ?_
set_option maxRecDepth 100000 in
theorem nofnT (P : Program) (hP : P = Try.prog) (l : Nat) : NoFn P l := by
 subst hP
 have : Try.prog.funcs.size ≤ 8589934592 := Nat.le_of_ble_eq_true (by kernel_rfl)
 exact ⟨Array.getElem?_eq_none (by omega)⟩
theorem tlen_ok (P : Program) (hP : P = Try.prog) {m : Ar} {k : D} {S : Nat → Prop} {t : Tri} (hT : TrA m k t S) (hS : ∀ i, S i → m i ≠ none) (hN : (routesT t).length ≤ 1000) :
    FnS P n_trie_Trie_Len [.c (.ptr 1 0 0 0)] [.am m, .bx [.d k]] fun r h' => r = iA (routesT t).length ∧ ∃ m', h' = [.am m', .bx [.d k]] := by
  have hall := fun m => tall_ok P hP m k
  have h1 := fun {l N : Nat} {O : Nat → Prop} {J : Nat → Ar → Prop} (hY : YlT P l N O J) {m : Ar} (hT : TrA m k t S) hS hj hN => all1_ok P hP hY (t := t) (m := m) (kd := k) (S := S) (k := 0) hT hS hj hN
  have hno := nofnT P hP
  have hfok : FnOk P n_trie_Trie_All_1 := ⟨_, hP ▸ fn_trie_Trie_All_1, rfl, by decide⟩
  refine cut2H 2 rfl ?_
  refine heap_start (hP ▸ mixed) (hP ▸ fn_trie_Trie_Len) (hP ▸ c_trie_Trie_Len) (Nat.le_of_ble_eq_true rfl) fun Λ Λo K hK => ?_
  clear hP
  have hend := fun m' tl => hK (iA (routesT t).length) (.am m' :: .bx [.d k] :: tl) ⟨[.am m', .bx [.d k]], tl, rfl, rfl, rfl, rfl, rfl, m', rfl⟩
  clear hK
  conv => cbv
  repeat' first | (right; intro (_ : Unit); intro (Bs : Nat) (Nb : Nat) (m2a : Ar) hbn (_ : _ ≤ Nb) hm2a; (conv => cbv)) | (refine ⟨Nb, [iD 0], by rw [hm2a, mup_at] <;> rfl, Nat.le_of_ble_eq_true rfl, ?_⟩; intro m2 hm2b; (conv => cbv)) | (refine call_fr [0, 1] (hall m2) rfl rfl (by decide) (by repeat' first | exact trivial | refine And.intro ?_ ?_ | rfl) rfl rfl ?_; rintro r hc' ⟨rfl, rfl⟩; (conv => cbv)) | exact gu | exact trivial | refine And.intro ?_ ?_ | (intro hc; exact absurd hc (by decide)) | (intro hc; exfalso; omega) | (intro hc; (first | rw [wrap_small (by omega) (by omega)] at hc | rw [nI_eq] at hc | skip); try (conv => cbv)) | refine CallG.old ?_
  have hm2 : m2 = mup m Bs (.cs Nb [iD 0]) := by
    rw [hm2b, hm2a]
    funext b
    by_cases e : b = Bs
    · rw [e, mup_at, mup_at]; rfl
    · simp only [mup_ne e]
  refine ⟨m2, _, _, _, rfl, rfl, rfl, hfok, hno, fun l' rdy bsy hl' hYl => ?_⟩
  have hs2 : m2 Bs = some (.cs Nb [iD 0]) := by rw [hm2, mup_at]
  have hlb : l' ≠ Bs := fun e => by rw [e, hs2] at hl'; cases hl'
  have hr : ∀ (m1 : Ar) (c : Nat) (N : Nat) (r : Rt) (K : Ar → Prop), m1 l' = some rdy → m1 Bs = some (.cs N [iD c]) → c < 1000 → (∀ m3 N3, m3 l' = some rdy → m3 Bs = some (.cs N3 [iD (c + 1 : Nat)]) → (∀ b, b ≠ Bs → b ≠ l' → m3 b = m1 b) → K m3) →
      FnS P (8589934592 + l') [rtA r] [.am m1] fun q h' => q = .c (.d (.bool true)) ∧ ∃ m3 tl, h' = .am m3 :: tl ∧ K m3 := by
    intro m1 c N r K g1 g2 hc hKm
    refine hYl m1 (rtA r) K g1 rfl ?_
    have g2b : mup m1 l' bsy Bs = some (.cs N [iD c]) := by rw [mup_ne (fun e => hlb e.symm)]; exact g2
    obtain ⟨c1, hc1⟩ : ∃ z : Int, z = ((c + 1 : Nat) : Int) := ⟨_, rfl⟩
    obtain ⟨cz, hcz⟩ : ∃ z : Int, z = (c : Int) := ⟨_, rfl⟩
    clear hYl h1 hend
    rw [← hc1] at hKm
    rw [← hcz] at g2b
    obtain ⟨⟨ra, rn⟩, rv⟩ := r
    generalize hmb : mup m1 l' bsy = m1b at *
    conv => cbv
    repeat' first | (refine ⟨m1, _, rfl, g1, ?_⟩; rw [hmb]; (conv => cbv)) | (refine ⟨N, _, _, g2b, rfl, ?_⟩; (conv => cbv)) | (intro (k : Int) hk; rw [wrap_small (by omega) (by omega)] at hk; refine (fun (hz : c1 = k) => ?_) ?_; rotate_left; omega; subst hz; (conv => cbv)) | (refine ⟨N, _, g2b, Nat.le_of_ble_eq_true rfl, ?_⟩; intro m6 hm6; (conv => cbv)) | exact gu | exact trivial | refine And.intro ?_ ?_ | (intro hc; exact absurd hc (by decide)) | (intro hc; exfalso; omega) | (intro hc; (first | rw [wrap_small (by omega) (by omega)] at hc | rw [nI_eq] at hc | skip); try (conv => cbv)) | refine CallG.old ?_
    refine ⟨m6, [], rfl, ?_, hKm _ N (mup_at _ _ _) ?_ fun b h1 h2 => ?_⟩
    · rw [hm6, mup_ne hlb, ← hmb, mup_at]
    · rw [mup_ne (fun e => hlb e.symm), hm6, mup_at, hk]; rfl
    · rw [mup_ne h2, hm6, mup_ne h1, ← hmb, mup_ne h2]
  have hY : YlT P l' 1000 (fun b => b = Bs ∨ b = l') (fun c m => m l' = some rdy ∧ ∃ N, m Bs = some (.cs N [iD c])) := {
    no := hno l'
    out := fun c m1 r ⟨j1, N, j2⟩ hc => by
      have hk := hr m1 c N r (fun m3 => (m3 l' = some rdy ∧ ∃ N, m3 Bs = some (.cs N [iD (c + 1 : Nat)])) ∧ ∀ b, m1 b ≠ none → ¬ (b = Bs ∨ b = l') → m3 b = m1 b) j1 j2 hc fun m3 N3 e1 e2 e3 => ⟨⟨e1, N3, e2⟩, fun b _ hb => e3 b (fun e => hb (.inl e)) fun e => hb (.inr e)⟩
      refine (hk.cut ?_).mono ?_
      · rintro q h' ⟨rfl, m3, tl, rfl, -⟩
        exact ⟨rfl, rfl⟩
      · rintro q h1' ⟨h2', ⟨rfl, m3, tl, e, hO3⟩, hl⟩
        match h1', hl with
        | [k], _ =>
          simp only [List.cons_append, List.nil_append, List.cons.injEq] at e
          exact ⟨rfl, m3, by rw [e.1], hO3⟩ }
  have hk2 : ∀ b, m b ≠ none → mup m2 l' rdy b = m b := fun b hb => by
    have hbB : b ≠ Bs := fun e => by rw [e] at hb; exact hb hbn
    have h2 : m2 b = m b := by rw [hm2, mup_ne hbB]
    rw [mup_ne (fun e => by rw [e] at h2; rw [h2] at hl'; rw [e] at hb; exact hb hl'), h2]
  have hl0 : m l' = none := by
    have h2 : m2 l' = m l' := by rw [hm2, mup_ne hlb]
    rw [← h2]; exact hl'
  refine (h1 hY (m := mup m2 l' rdy) (hT.frame fun i hi => hk2 i (hS i hi)) (fun i hi => ⟨by rw [hk2 i (hS i hi)]; exact hS i hi, fun h => h.elim (fun e => hS i hi (e ▸ hbn)) fun e => hS i hi (e ▸ hl0)⟩) ⟨mup_at _ _ _, Nb, by rw [mup_ne (fun e => hlb e.symm)]; exact hs2⟩ (by omega)).mono ?_
  rintro r h' ⟨m5, rfl, ⟨q1, N5, q2⟩, h5⟩
  refine ⟨m5, _, rfl, q1, ?_⟩
  have g1 : mdel m5 l' Bs = some (.cs N5 [iD (routesT t).length]) := by rw [mdel_ne (fun e => hlb e.symm)]; simpa using q2
  have hfin := fun tl => hend (mdel m5 l') tl
  clear hY hr hYl h1 hend
  generalize mdel m5 l' = m6 at *
  obtain ⟨cn, hcn⟩ : ∃ z : Int, z = ((routesT t).length : Int) := ⟨_, rfl⟩
  rw [← hcn] at g1 hfin
  conv => cbv
  repeat' first | (refine ⟨N5, _, _, g1, rfl, ?_⟩; (conv => cbv)) | exact hfin _ | exact gu | exact trivial | refine And.intro ?_ ?_ | (intro hc; exact absurd hc (by decide)) | (intro hc; exfalso; omega) | (intro hc; (first | rw [wrap_small (by omega) (by omega)] at hc | rw [nI_eq] at hc | skip); try (conv => cbv)) | refine CallG.old ?_
end Go.Ab

/-
  Compressing: the program's Lookup.
-/
namespace Go.Ab
open Go.Proofs
theorem arena_start {P : Program} {f : Nat} {fn : Func} {af : AF} {args : List AV} {r : AV} (hm : P.follows .mixedOrders = true) (hf : P.funcs[f]? = some fn) (hc : compF P fn = some af) (hl : args.length ≤ af.nt)
  (hv : ∀ (Λ : Len), (∀ l, Λ l = (l.length : Int)) → ∀ (K : AV → Prop), K r → vcFA P Λ af args K) : Ret P f args r :=
 fn_arena (K := fun r' => r' = r) hm hf hc hl fun Λ h => hv Λ h _ rfl
end Go.Ab

