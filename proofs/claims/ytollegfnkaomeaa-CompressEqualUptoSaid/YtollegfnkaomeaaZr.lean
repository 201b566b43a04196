/-
  Merged texts, part r.
-/
import Derived.Test.YtollegfnkaomeaaZq
/-
  Compressing: leading zeros, and the prefix above.
-/
namespace Go.Ab
open Go.Proofs
theorem lead32_ok (P : Program) (hP : P = Try.prog) (x : Int) (hx : inU x) : Ret P n_math_bits_LeadingZeros32 [.c (.d (u32D x))] (iA (32 - (lenU x.toNat : Nat))) := by
 have hl := len32_ok P hP x hx
 have lle : lenU x.toNat ≤ 32 := lenU_32 (by have := hx.2; omega)
 obtain ⟨y, hy⟩ : ∃ y : Int, y = 32 - (lenU x.toNat : Nat) := ⟨_, rfl⟩
 rw [← hy]
 have hn : (0 : Int) ≤ lenU x.toNat := by omega
 have hn2 : (lenU x.toNat : Int) ≤ 32 := by omega
 clear lle
 generalize (lenU x.toNat : Int) = n at *
 refine ret_start (hP ▸ mixed) (hP ▸ fn_math_bits_LeadingZeros32) (hP ▸ c_math_bits_LeadingZeros32) (Nat.le_of_ble_eq_true rfl) fun Λ Λo K hK => ?_
 clear hP
 conv => cbv
 repeat' first | (refine call_r hl rfl rfl ?_; conv => cbv) | (intro (k : Int) hk; rw [wrap_small (by omega) (by omega)] at hk; refine (fun (hz : y = k) => ?_) ?_; rotate_left; omega; subst hz; (conv => cbv)) | exact gu | exact trivial | refine And.intro ?_ ?_ | (intro hc; exact absurd hc (by decide)) | (intro hc; exfalso; omega) | (intro hc; (first | rw [wrap_small (by omega) (by omega)] at hc | rw [nI_eq] at hc | skip); try (conv => cbv))
 all_goals exact hK
def parP (p : Pfx) : Pfx := ⟨p.addr - p.addr % szP (p.len - 1), p.len - 1⟩
theorem pparent_ok (P : Program) (hP : P = Try.prog) (p : Pfx) (hp : inU p.addr) (hv : validP p = true) (h0 : p.len ≠ 0) : Ret P n_prefix_Parent [pfA p] (.tup [pfA (parP p), iA 0]) := by
 have hva := pvalid_ok P hP p hp
 obtain ⟨v0, v1, v2⟩ := of_decide_eq_true hv
 have hmk := pmask_ok P hP (p.len - 1) (by omega) (by omega)
 have hb1 := cont_bits (a := p.addr) (n := p.len - 1) hp (by omega) (by omega)
 rw [hv] at hva
 refine ret_start (hP ▸ mixed) (hP ▸ fn_prefix_Parent) (hP ▸ c_prefix_Parent) (Nat.le_of_ble_eq_true rfl) fun Λ Λo K hK => ?_
 clear hP
 obtain ⟨addr, len⟩ := p
 simp only [parP] at *
 obtain ⟨n1, hn1⟩ : ∃ n1, n1 = len - 1 := ⟨_, rfl⟩
 rw [← hn1] at hmk hb1 hK
 generalize maskN n1 = mk at *
 generalize addr - addr % (szP n1 : Int) = y at *
 conv => cbv
 repeat' first | refine call_b hva rfl rfl ?_ ?_ | (refine call_r hmk rfl rfl ?_; conv => cbv) | (intro (k : Int) hk; rw [wrap_small (by omega) (by omega)] at hk; refine (fun (hz : n1 = k) => ?_) ?_; rotate_left; omega; subst hz; (conv => cbv)) | (refine ⟨.int .u32 y, hb1, ?_⟩; intro d' hd; subst hd; (conv => cbv)) | exact gu | exact trivial | refine And.intro ?_ ?_ | (intro hc; exact absurd hc (by decide)) | (intro hc; exfalso; omega) | (intro hc; (first | rw [wrap_small (by omega) (by omega)] at hc | rw [nI_eq] at hc | skip); try (conv => cbv))
 all_goals exact hK
end Go.Ab

/-
  Compressing: putting a route where one is, or above.
-/
namespace Go.Ab
open Go.Proofs
theorem mup_at' {m m' : Ar} {b : Nat} {x : AB} (h : m' = mup m b x) : m' b = some x := by rw [h]; exact mup_at _ _ _
theorem mup_ne' {m m' : Ar} {b i : Nat} {x : AB} (h : m' = mup m b x) (hi : i ≠ b) : m' i = m i := by rw [h]; exact mup_ne hi
theorem put_same (P : Program) (hP : P = Try.prog) (m : Ar) (p : Pfx) (v w : Int) (h : Bool) (bl N : Nat) (ka kb : D) (hm : m bl = some (.cs N (nodeD p v h ka kb))) :
  FnS P n_trie_node_put [.c (.d (.adr bl 0)), rtA ⟨p, w⟩] [.am m] fun r' h' => ∃ m' tl, r' = .c (.d (.adr bl 0)) ∧ h' = .am m' :: tl ∧ m' bl = some (.cs N (nodeD p w true ka kb)) ∧ ∀ i, i ≠ bl → m' i = m i := by
 refine heap_start (hP ▸ mixed) (hP ▸ fn_trie_node_put) (hP ▸ c_trie_node_put) (Nat.le_of_ble_eq_true rfl) fun Λ Λo K hK => ?_
 clear hP
 obtain ⟨pa, pl⟩ := p
 simp only [nodeD] at *
 have fin : ∀ m' tl, m' bl = some (.cs N [u32D pa, iD pl, iD w, .bool true, ka, kb]) → (∀ i, i ≠ bl → m' i = m i) → K (.c (.d (.adr bl 0))) (.am m' :: tl) := fun m' tl h1 h2 => hK _ _ ⟨m', tl, rfl, rfl, h1, h2⟩
 clear hK
 conv => cbv
 repeat' first | exact gu | exact trivial | refine And.intro ?_ ?_ | (intro hc; exact absurd hc (by decide)) | (intro hc; exfalso; omega) | (intro hc; (first | rw [wrap_small (by omega) (by omega)] at hc | rw [nI_eq] at hc | skip); try (conv => cbv))
 left
 intro (_ : Unit)
 conv => cbv
 repeat' first | (refine ⟨N, _, _, hm, rfl, rfl, ?_⟩; (conv => cbv)) | (refine ⟨N, _, _, hm, rfl, ?_⟩; (conv => cbv)) | (refine ⟨N, _, hm, Nat.le_of_ble_eq_true rfl, ?_⟩; intro m1 hm1; have hm := mup_at' hm1; (conv => cbv)) | exact gu | exact trivial | refine And.intro ?_ ?_ | (intro hc; exact absurd hc (by decide)) | (intro hc; exfalso; omega) | (intro hc; (first | rw [wrap_small (by omega) (by omega)] at hc | rw [nI_eq] at hc | skip); try (conv => cbv))
 exact fin _ _ hm fun i hi => (mup_ne' hm1 hi).trans (mup_ne' (by assumption) hi)
theorem put_above (P : Program) (hP : P = Try.prog) (m : Ar) (r : Rt) (p : Pfx) (v : Int) (h : Bool) (bl N : Nat) (ka kb : D) (hm : m bl = some (.cs N (nodeD p v h ka kb))) (hr : inU r.p.addr) (hp : inU p.addr) (hne : p ≠ r.p) (c1 : covP p r.p = false) (c2 : covP r.p p = true) :
  FnS P n_trie_node_put [.c (.d (.adr bl 0)), rtA r] [.am m] fun r' h' => ∃ m' tl c M, r' = .c (.d (.adr c 0)) ∧ h' = .am m' :: tl ∧ m c = none ∧ m' c = some (.cs M (nodeD r.p r.val true (if bitA p.addr r.p.len = 0 then .adr bl 0 else .nilp) (if bitA p.addr r.p.len = 0 then .nilp else .adr bl 0))) ∧ ∀ i, i ≠ c → m' i = m i := by
 have hl : 0 ≤ r.p.len ∧ r.p.len < 32 := by
  obtain ⟨h1, h2, h3, h4⟩ := cov_inv c2
  obtain ⟨z0, z1, _⟩ := valid_spec.1 h1
  exact ⟨z0, by have := (half_cov hr c2 (fun e => hne e.symm)).1; omega⟩
 have hc1 := pcov_ok P hP p r.p hp hr
 have hc2 := pcov_ok P hP r.p p hr hp
 have hbr := branch_ok P hP p.addr r.p.len hp hl.1 hl.2
 rw [c1] at hc1
 rw [c2] at hc2
 have h01 := bit_01 p.addr r.p.len
 refine heap_start (hP ▸ mixed) (hP ▸ fn_trie_node_put) (hP ▸ c_trie_node_put) (Nat.le_of_ble_eq_true rfl) fun Λ Λo K hK => ?_
 clear hP
 have fin : ∀ (m' : Ar) tl c M, m c = none → m' c = some (.cs M (nodeD r.p r.val true (if bitA p.addr r.p.len = 0 then .adr bl 0 else .nilp) (if bitA p.addr r.p.len = 0 then .nilp else .adr bl 0))) → (∀ i, i ≠ c → m' i = m i) → K (.c (.d (.adr c 0))) (.am m' :: tl) := fun m' tl c M h1 h2 h3 => hK _ _ ⟨m', tl, c, M, rfl, rfl, h1, h2, h3⟩
 clear hK
 obtain ⟨pa, pl⟩ := p
 obtain ⟨⟨ra, rl⟩, rv⟩ := r
 have hne' : ¬ (pa = ra ∧ pl = rl) := fun e => hne (Pfx.ext' e.1 e.2)
 simp only [nodeD, pfA] at *
 generalize bitA pa rl = z at *
 conv => cbv
 repeat' first | exact gu | exact trivial | refine And.intro ?_ ?_ | (intro hc; exact absurd hc (by decide)) | (intro hc; exfalso; omega) | (intro hc; (first | rw [wrap_small (by omega) (by omega)] at hc | rw [nI_eq] at hc | skip); try (conv => cbv))
 left
 intro (_ : Unit)
 conv => cbv
 repeat' first | (refine ⟨N, _, _, hm, rfl, rfl, ?_⟩; (conv => cbv)) | (refine ⟨N, _, _, hm, rfl, ?_⟩; (conv => cbv)) | (refine ⟨N, _, _, hmb, rfl, rfl, ?_⟩; (conv => cbv)) | (refine ⟨N, _, _, hmb, rfl, ?_⟩; (conv => cbv)) | (refine ⟨M, _, hmc, Nat.le_of_ble_eq_true rfl, ?_⟩; intro m2 hm2; have hmc2 := mup_at' hm2; (conv => cbv)) | (right; intro (_ : Unit); intro (c : Nat) (M : Nat) (m1 : Ar) hcn (_ : _ ≤ M) hm1; have hmc := mup_at' hm1; have hbc : bl ≠ c := (fun e => by rw [e, hcn] at hm; cases hm); have hmb := (mup_ne' hm1 hbc).trans hm; (conv => cbv)) | refine call_b hc1 rfl rfl ?_ ?_ | refine call_b hc2 rfl rfl ?_ ?_  | (refine call_r hbr rfl rfl ?_; conv => cbv) | exact gu | exact trivial | refine And.intro ?_ ?_ | (intro hc; exact absurd hc (by decide)) | (intro hc; exfalso; omega) | (intro hc; (first | rw [wrap_small (by omega) (by omega)] at hc | rw [nI_eq] at hc | skip); try (conv => cbv))
 all_goals refine fin _ _ c M hcn ?_ fun i hi => (mup_ne' hm2 hi).trans (mup_ne' hm1 hi)
 ·rw [if_pos (by omega), if_pos (by omega)]; exact hmc2
 ·rw [if_neg (by omega), if_neg (by omega)]; exact hmc2
theorem wrF_fr {P : Program} {h : Hp} {f : Nat} {args' : List AV} {K : AV → Hp → Prop} {args : List AV} {hc : Hp} {R : AV → Hp → Prop} (σ : List Nat) (hf : FnS P f args hc R) (ha : args' = rnAs (rho σ h.length) args) (hlen : σ.length = hc.length) (hnd : σ.Nodup)
  (hh : frOk h (rho σ h.length) 0 hc) (hcl : refsH hc.length hc = true) (hca : args.all (refsA hc.length) = true) (k : ∀ r hc', R r hc' → K (rnA (rho σ h.length) r) (backH h σ hc')) : ∃ R', FnS P f args' h R' ∧ ∀ r h', R' r h' → K r h' := by
 subst ha
 refine ⟨_, hf.frame σ h hlen hnd (fun i b hb => by have := frOk_get hh i b hb; rw [Nat.zero_add] at this; exact this) hcl (fun x hx => List.all_eq_true.1 hca x hx), ?_⟩
 rintro r h' ⟨r0, hc', h1, rfl, rfl⟩
 exact k r0 hc' h1
theorem put_below (P : Program) (hP : P = Try.prog) (m : Ar) (r : Rt) (p : Pfx) (v : Int) (h : Bool) (bl N : Nat) (ka kb : D) (hm : m bl = some (.cs N (nodeD p v h ka kb))) (hr : inU r.p.addr) (hp : inU p.addr) (hne : p ≠ r.p) (c1 : covP p r.p = true)
  (R : D → Ar → Prop) (hcall : FnS P n_trie_node_put [.c (.d (if bitA r.p.addr p.len = 0 then ka else kb)), rtA r] [.am m] fun r' h' => ∃ k1 m1, r' = .c (.d k1) ∧ h' = [.am m1] ∧ R k1 m1) (hkeep : ∀ k1 m1, R k1 m1 → m1 bl = m bl) (hsh : ∀ k1 m1, R k1 m1 → k1 = .nilp ∨ ∃ c, k1 = .adr c 0) :
  FnS P n_trie_node_put [.c (.d (.adr bl 0)), rtA r] [.am m] fun r' h' => ∃ m1 k1 m' tl, R k1 m1 ∧ r' = .c (.d (.adr bl 0)) ∧ h' = .am m' :: tl ∧ m' bl = some (.cs N (nodeD p v h (if bitA r.p.addr p.len = 0 then k1 else ka) (if bitA r.p.addr p.len = 0 then kb else k1))) ∧ ∀ i, i ≠ bl → m' i = m1 i := by
 have hl : 0 ≤ p.len ∧ p.len < 32 := by
  obtain ⟨h1, h2, h3, h4⟩ := cov_inv c1
  obtain ⟨z0, z1, _⟩ := valid_spec.1 h1
  exact ⟨z0, by have := (half_cov hp c1 hne).1; omega⟩
 have hc1 := pcov_ok P hP p r.p hp hr
 have hbr := branch_ok P hP r.p.addr p.len hr hl.1 hl.2
 rw [c1] at hc1
 have h01 := bit_01 r.p.addr p.len
 refine heap_start (hP ▸ mixed) (hP ▸ fn_trie_node_put) (hP ▸ c_trie_node_put) (Nat.le_of_ble_eq_true rfl) fun Λ Λo K hK => ?_
 clear hP
 have fin : ∀ (m1 : Ar) k1 (m' : Ar) tl, R k1 m1 → m' bl = some (.cs N (nodeD p v h (if bitA r.p.addr p.len = 0 then k1 else ka) (if bitA r.p.addr p.len = 0 then kb else k1))) → (∀ i, i ≠ bl → m' i = m1 i) → K (.c (.d (.adr bl 0))) (.am m' :: tl) := fun m1 k1 m' tl h0 h1 h2 => hK _ _ ⟨m1, k1, m', tl, h0, rfl, rfl, h1, h2⟩
 clear hK
 obtain ⟨pa, pl⟩ := p
 obtain ⟨⟨ra, rl⟩, rv⟩ := r
 have hne' : ¬ (pa = ra ∧ pl = rl) := fun e => hne (Pfx.ext' e.1 e.2)
 simp only [nodeD, pfA] at *
 generalize bitA ra pl = z at *
 conv => cbv
 repeat' first | exact gu | exact trivial | refine And.intro ?_ ?_ | (intro hc; exact absurd hc (by decide)) | (intro hc; exfalso; omega) | (intro hc; (first | rw [wrap_small (by omega) (by omega)] at hc | rw [nI_eq] at hc | skip); try (conv => cbv))
 left
 intro (_ : Unit)
 conv => cbv
 repeat' first | (refine ⟨N, _, _, hm, rfl, rfl, ?_⟩; (conv => cbv)) | (refine ⟨N, _, _, hm, rfl, ?_⟩; (conv => cbv)) | refine call_b hc1 rfl rfl ?_ ?_ | (refine call_r hbr rfl rfl ?_; conv => cbv) | exact gu | exact trivial | refine And.intro ?_ ?_ | (intro hc; exact absurd hc (by decide)) | (intro hc; exfalso; omega) | (intro hc; (first | rw [wrap_small (by omega) (by omega)] at hc | rw [nI_eq] at hc | skip); try (conv => cbv))
 ·have hz : z = 0 := by omega
  rw [if_pos hz] at hcall
  refine wrF_fr [0] hcall rfl rfl (by decide) ⟨rfl, trivial⟩ rfl rfl ?_
  rintro r hc' ⟨k1, m1, rfl, rfl, hR⟩
  have hm1 := (hkeep _ _ hR).trans hm
  rcases hsh _ _ hR with rfl | ⟨c, rfl⟩
  ·conv => cbv
   repeat' first | (refine ⟨N, _, hm1, Nat.le_of_ble_eq_true rfl, ?_⟩; intro m2 hm2; have hmc2 := mup_at' hm2; (conv => cbv)) | exact gu | exact trivial | refine And.intro ?_ ?_ | (intro hc; exact absurd hc (by decide)) | (intro hc; exfalso; omega) | (intro hc; (first | rw [wrap_small (by omega) (by omega)] at hc | rw [nI_eq] at hc | skip); try (conv => cbv))
   all_goals first
    | (exfalso; omega)
    | (refine fin m1 _ m2 _ hR ?_ fun i hi => mup_ne' hm2 hi; rw [if_pos hz, if_pos hz]; exact hmc2)
  ·conv => cbv
   repeat' first | (refine ⟨N, _, hm1, Nat.le_of_ble_eq_true rfl, ?_⟩; intro m2 hm2; have hmc2 := mup_at' hm2; (conv => cbv)) | exact gu | exact trivial | refine And.intro ?_ ?_ | (intro hc; exact absurd hc (by decide)) | (intro hc; exfalso; omega) | (intro hc; (first | rw [wrap_small (by omega) (by omega)] at hc | rw [nI_eq] at hc | skip); try (conv => cbv))
   all_goals first
    | (exfalso; omega)
    | (refine fin m1 _ m2 _ hR ?_ fun i hi => mup_ne' hm2 hi; rw [if_pos hz, if_pos hz]; exact hmc2)
 ·have hz : ¬ z = 0 := by omega
  rw [if_neg hz] at hcall
  refine wrF_fr [0] hcall rfl rfl (by decide) ⟨rfl, trivial⟩ rfl rfl ?_
  rintro r hc' ⟨k1, m1, rfl, rfl, hR⟩
  have hm1 := (hkeep _ _ hR).trans hm
  rcases hsh _ _ hR with rfl | ⟨c, rfl⟩
  ·conv => cbv
   repeat' first | (refine ⟨N, _, hm1, Nat.le_of_ble_eq_true rfl, ?_⟩; intro m2 hm2; have hmc2 := mup_at' hm2; (conv => cbv)) | exact gu | exact trivial | refine And.intro ?_ ?_ | (intro hc; exact absurd hc (by decide)) | (intro hc; exfalso; omega) | (intro hc; (first | rw [wrap_small (by omega) (by omega)] at hc | rw [nI_eq] at hc | skip); try (conv => cbv))
   all_goals first
    | (exfalso; omega)
    | (refine fin m1 _ m2 _ hR ?_ fun i hi => mup_ne' hm2 hi; rw [if_neg hz, if_neg hz]; exact hmc2)
  ·conv => cbv
   repeat' first | (refine ⟨N, _, hm1, Nat.le_of_ble_eq_true rfl, ?_⟩; intro m2 hm2; have hmc2 := mup_at' hm2; (conv => cbv)) | exact gu | exact trivial | refine And.intro ?_ ?_ | (intro hc; exact absurd hc (by decide)) | (intro hc; exfalso; omega) | (intro hc; (first | rw [wrap_small (by omega) (by omega)] at hc | rw [nI_eq] at hc | skip); try (conv => cbv))
   all_goals first
    | (exfalso; omega)
    | (refine fin m1 _ m2 _ hR ?_ fun i hi => mup_ne' hm2 hi; rw [if_neg hz, if_neg hz]; exact hmc2)
end Go.Ab

/-
  Compressing: putting a route beside a node.
-/
namespace Go.Ab
open Go.Proofs
def cutA (x n : Int) : Int := x - x % szP n
theorem cut_valid {x n : Int} (hx : inU x) (h0 : 0 ≤ n) (h1 : n ≤ 32) : validP ⟨cutA x n, n⟩ = true ∧ inU (cutA x n) := by
 have hp := szP_pos n
 have hm := Int.emod_nonneg x (show (szP n : Int) ≠ 0 by omega)
 have hm2 : x % szP n ≤ x := by
  obtain ⟨a, ha⟩ : ∃ a : Nat, x = a := ⟨x.toNat, by have := hx.1; omega⟩
  rw [ha, ← Int.natCast_emod]
  have := Nat.mod_le a (szP n)
  omega
 refine ⟨valid_spec.2 ⟨h0, h1, Int.emod_eq_zero_of_dvd Int.dvd_self_sub_emod⟩, ?_⟩
 obtain ⟨u0, u1⟩ := hx
 unfold cutA
 exact ⟨by omega, by omega⟩
theorem cut_parent {x n : Int} (h0 : 0 < n) (h1 : n ≤ 32) : parP ⟨cutA x n, n⟩ = ⟨cutA x (n - 1), n - 1⟩ := by
 have hd := szP_dvd (m := n - 1) (n := n) (by omega)
 have hp := szP_pos (n - 1)
 refine Pfx.ext' ?_ rfl
 simp only [parP, cutA]
 obtain ⟨c, hc⟩ := hd
 rw [hc]
 have hsz : ((szP n * c : Nat) : Int) = (szP n : Int) * c := by simp
 have h2 : (x - x % (szP n : Int)) % ((szP n : Int) * c) = x % ((szP n : Int) * c) - x % (szP n : Int) := by
  have e1 : x % ((szP n : Int) * c) % (szP n : Int) = x % (szP n : Int) := Int.emod_emod_of_dvd _ (Int.dvd_mul_right _ _)
  have p1 := szP_pos n
  have hc0 : 0 < (szP n : Int) * c := by rw [← hsz, ← hc]; omega
  have b1 := Int.emod_nonneg x (show (szP n : Int) * c ≠ 0 by omega)
  have b2 := Int.emod_lt_of_pos x hc0
  have b3 := Int.emod_nonneg (x % ((szP n : Int) * c)) (show (szP n : Int) ≠ 0 by omega)
  have b4 : x % ((szP n : Int) * c) % (szP n : Int) ≤ x % ((szP n : Int) * c) := by
   have := Int.mul_ediv_add_emod (x % ((szP n : Int) * c)) (szP n)
   have h5 := Int.ediv_nonneg b1 (show (0 : Int) ≤ szP n by omega)
   have h6 := Int.mul_nonneg (show (0 : Int) ≤ szP n by omega) h5
   omega
  rw [e1] at b3 b4
  have e2 : x - x % (szP n : Int) = (x % ((szP n : Int) * c) - x % (szP n : Int)) + ((szP n : Int) * c) * (x / ((szP n : Int) * c)) := by
   have := Int.mul_ediv_add_emod x ((szP n : Int) * c)
   omega
  rw [e2, Int.add_mul_emod_self_left]
  exact Int.emod_eq_of_lt (by omega) (by omega)
 rw [hsz, h2]
 omega
theorem xorU {a b c : Int} {m n : Nat} (ha : a = m) (hb : b = n) (hm : m < 4294967296) (hn : n < 4294967296) (hc : c = ((m ^^^ n : Nat) : Int)) : binD .xor (.int .u32 a) (.int .u32 b) = some (.int .u32 c) := by
 subst ha hb hc
 have e : binD .xor (.int .u32 m) (.int .u32 n) = some (.int .u32 (IntKind.u32.wrap (BitVec.ofInt 32 (m : Int) ^^^ BitVec.ofInt 32 (n : Int)).toNat)) := rfl
 have hl : m ^^^ n < 4294967296 := Nat.xor_lt_two_pow (n := 32) hm hn
 rw [e, bv32, bv32, BitVec.toNat_xor, BitVec.toNat_ofNat, BitVec.toNat_ofNat, Nat.mod_eq_of_lt hm, Nat.mod_eq_of_lt hn, wrapu32 (by omega) (by omega)]
theorem put_beside (P : Program) (hP : P = Try.prog) (m : Ar) (r : Rt) (p : Pfx) (v : Int) (h : Bool) (bl N : Nat) (ka kb : D) (hm : m bl = some (.cs N (nodeD p v h ka kb))) (vr : validP r.p = true) (hr : inU r.p.addr) (vp : validP p = true) (hp : inU p.addr) (c1 : covP p r.p = false) (c2 : covP r.p p = false) :
  FnS P n_trie_node_put [.c (.d (.adr bl 0)), rtA r] [.am m] fun r' h' => ∃ (m' : Ar) (tl : Hp) (b c N' M : Nat), r' = .c (.d (.adr c 0)) ∧ h' = .am m' :: tl ∧ m b = none ∧ m c = none ∧ c ≠ b ∧ m' b = some (.cs N' (nodeD r.p r.val true .nilp .nilp)) ∧
   m' c = some (.cs M (nodeD (fkP r.p p) 0 false (if bitA r.p.addr (comP r.p p) = 0 then .adr b 0 else .adr bl 0) (if bitA r.p.addr (comP r.p p) = 0 then .adr bl 0 else .adr b 0))) ∧ ∀ i, i ≠ b → i ≠ c → m' i = m i := by
 obtain ⟨fk, g0, g1⟩ := fork_ok vr hr vp hp c2 c1
 have hbits : bitA r.p.addr (comP r.p p) ≠ bitA p.addr (comP r.p p) := fk.b
 clear fk
 have hne : p ≠ r.p := fun e => by rw [e, cov_self vr] at c1; cases c1
 have hc1 := pcov_ok P hP p r.p hp hr
 have hc2 := pcov_ok P hP r.p p hr hp
 rw [c1] at hc1
 rw [c2] at hc2
 have hb1 := branch_ok P hP r.p.addr (comP r.p p) hr g0 g1
 have hb2 := branch_ok P hP p.addr (comP r.p p) hp g0 g1
 have h01 := bit_01 r.p.addr (comP r.p p)
 have h02 := bit_01 p.addr (comP r.p p)
 have hx := xorU (a := r.p.addr) (b := p.addr) (m := r.p.addr.toNat) (n := p.addr.toNat) (by have := hr.1; omega) (by have := hp.1; omega) (by have := hr.2; have := hr.1; omega) (by have := hp.2; have := hp.1; omega) rfl
 have hxl : r.p.addr.toNat ^^^ p.addr.toNat < 4294967296 := Nat.xor_lt_two_pow (n := 32) (by have := hr.2; have := hr.1; omega) (by have := hp.2; have := hp.1; omega)
 have hlz := lead32_ok P hP ((r.p.addr.toNat ^^^ p.addr.toNat : Nat) : Int) ⟨by omega, by omega⟩
 have hcom : (32 - (lenU ((r.p.addr.toNat ^^^ p.addr.toNat : Nat) : Int).toNat : Nat) : Int) = comP r.p p := by rw [Int.toNat_natCast]; rfl
 rw [hcom] at hlz
 clear hcom hxl
 have hpar : ∀ n : Int, 0 < n → n ≤ 32 → Ret P n_prefix_Parent [pfA ⟨cutA r.p.addr n, n⟩] (.tup [pfA ⟨cutA r.p.addr (n - 1), n - 1⟩, iA 0]) := fun n n0 n1 => by
  obtain ⟨q1, q2⟩ := cut_valid hr (show 0 ≤ n by omega) n1
  have := pparent_ok P hP ⟨cutA r.p.addr n, n⟩ q2 q1 (by show n ≠ 0; omega)
  rwa [cut_parent n0 n1] at this
 have hcut : cutA r.p.addr 32 = r.p.addr := by
  have : szP 32 = 1 := rfl
  rw [cutA, this]; omega
 refine heap_start (hP ▸ mixed) (hP ▸ fn_trie_node_put) (hP ▸ c_trie_node_put) (Nat.le_of_ble_eq_true rfl) fun Λ Λo K hK => ?_
 clear hP
 have fin : ∀ (m' : Ar) (tl : Hp) (b c N' M : Nat), m b = none → m c = none → c ≠ b → m' b = some (.cs N' (nodeD r.p r.val true .nilp .nilp)) →
   m' c = some (.cs M (nodeD ⟨cutA r.p.addr (comP r.p p), comP r.p p⟩ 0 false (if bitA r.p.addr (comP r.p p) = 0 then .adr b 0 else .adr bl 0) (if bitA r.p.addr (comP r.p p) = 0 then .adr bl 0 else .adr b 0))) → (∀ i, i ≠ b → i ≠ c → m' i = m i) → K (.c (.d (.adr c 0))) (.am m' :: tl) :=
  fun m' tl b c N' M h1 h2 h3 h4 h5 h6 => hK _ _ ⟨m', tl, b, c, N', M, rfl, rfl, h1, h2, h3, h4, h5, h6⟩
 clear hK c1 c2 vr vp
 obtain ⟨pa, pl⟩ := p
 obtain ⟨⟨ra, rl⟩, rv⟩ := r
 have hne' : ¬ (pa = ra ∧ pl = rl) := fun e => hne (Pfx.ext' e.1 e.2)
 clear hne
 simp only [nodeD, pfA] at *
 generalize comP ⟨ra, rl⟩ ⟨pa, pl⟩ = cm at *
 generalize bitA ra cm = z at *
 generalize bitA pa cm = y at *
 generalize ((ra.toNat ^^^ pa.toNat : Nat) : Int) = xr at *
 generalize cutA ra = cut at *
 conv => cbv
 repeat' first | exact gu | exact trivial | refine And.intro ?_ ?_ | (intro hc; exact absurd hc (by decide)) | (intro hc; exfalso; omega) | (intro hc; (first | rw [wrap_small (by omega) (by omega)] at hc | rw [nI_eq] at hc | skip); try (conv => cbv))
 left
 intro (_ : Unit)
 conv => cbv
 repeat' first | (refine ⟨N, _, _, hm, rfl, rfl, ?_⟩; (conv => cbv)) | (refine ⟨N, _, _, hm, rfl, ?_⟩; (conv => cbv)) | (refine ⟨N, _, _, hmb, rfl, rfl, ?_⟩; (conv => cbv)) | (refine ⟨N, _, _, hmb, rfl, ?_⟩; (conv => cbv)) | (right; intro (_ : Unit); intro (c : Nat) (M : Nat) (m1 : Ar) hcn (_ : _ ≤ M) hm1; have hmc := mup_at' hm1; have hbc : bl ≠ c := (fun e => by rw [e, hcn] at hm; cases hm); have hmb := (mup_ne' hm1 hbc).trans hm; (conv => cbv); fail_if_success (right)) | refine call_b hc1 rfl rfl ?_ ?_ | refine call_b hc2 rfl rfl ?_ ?_ | (refine call_r hlz rfl rfl ?_; conv => cbv) | (refine ⟨.int .u32 xr, hx, ?_⟩; intro d' hd; subst hd; (conv => cbv)) | exact gu | exact trivial | refine And.intro ?_ ?_ | (intro hc; exact absurd hc (by decide)) | (intro hc; exfalso; omega) | (intro hc; (first | rw [wrap_small (by omega) (by omega)] at hc | rw [nI_eq] at hc | skip); try (conv => cbv))
 left
 intro (_ : Unit)
 conv => cbv
 repeat' first | exact gu | exact trivial | refine And.intro ?_ ?_ | (intro hc; exact absurd hc (by decide)) | (intro hc; exfalso; omega) | (intro hc; (first | rw [wrap_small (by omega) (by omega)] at hc | rw [nI_eq] at hc | skip); try (conv => cbv))
 refine loop_upx 32 (fun (s : Int × Int) => [(0, .c (.d (.adr bl 0))), (3, .c (.ptr 1 0 0 0)), (6, .c (.d (.adr c 0))), (7, iA cm), (8, .c (.ptr 2 0 0 0))]) (fun s => [.am m1, .bx [.d (u32D ra), .d (iD rl), .d (iD rv)], .bx [.d (u32D s.1), .d (iD s.2)]])
  (fun k s => s.2 = 32 - k ∧ s.1 = cut s.2 ∧ cm ≤ s.2) (ra, 32)
  1 (fun (_ : Unit) => [(0, .c (.d (.adr bl 0))), (3, .c (.ptr 1 0 0 0)), (6, .c (.d (.adr c 0))), (7, iA cm), (8, .c (.ptr 2 0 0 0))]) (fun _ => [.am m1, .bx [.d (u32D ra), .d (iD rl), .d (iD rv)], .bx [.d (u32D (cut cm)), .d (iD cm)]])
  (fun _ => True)
  (Wk.ch) ⟨by simp, hcut.symm, by simp only; omega⟩ (fun k s h => by omega) ?_ ?_
 ·rintro k ⟨x, n⟩ Q' ⟨h1, h2, h3⟩ norm jn ex rt
  simp only at h1 h2 h3
  subst h2
  have hpn := hpar n
  conv => cbv
  have hcv : ∀ a b : Int, a - 1 = b → (a - 1 = b) := fun _ _ h => h
  repeat' first | (refine call_r (hpn (by omega) (by omega)) rfl rfl ?_; conv => cbv) | exact gu | exact trivial | refine And.intro ?_ ?_ | (intro hc; exact absurd hc (by decide)) | (intro hc; exfalso; omega) | (intro hc; (first | rw [wrap_small (by omega) (by omega)] at hc | rw [nI_eq] at hc | skip); try (conv => cbv))
  ·refine norm _ _ (cut (n - 1), n - 1) ⟨?_, rfl, ?_⟩ (Wk.ch)
   ·show n - 1 = 32 - ((k + 1 : Nat) : Int); omega
   ·show cm ≤ n - 1; omega
  ·obtain rfl : n = cm := by omega
   exact jn _ _ () trivial (Wk.ch)
 ·rintro - -
  conv => cbv
  right
  intro (_ : Unit)
  intro (d : Nat) (M' : Nat) (m2 : Ar) hdn (_ : _ ≤ M') hm2
  have hcd : c ≠ d := fun e => by rw [← e, hmc] at hdn; cases hdn
  have hbd : bl ≠ d := fun e => by rw [← e, hmb] at hdn; cases hdn
  have hmd := mup_at' hm2
  have hmc := (mup_ne' hm2 hcd).trans hmc
  have hmb := (mup_ne' hm2 hbd).trans hmb
  conv => cbv
  repeat' first | (refine ⟨N, _, _, hmb3, rfl, rfl, ?_⟩; (conv => cbv)) | (refine ⟨N, _, _, hmb3, rfl, ?_⟩; (conv => cbv)) | (refine call_r hb1 rfl rfl ?_; conv => cbv) | (refine call_r hb2 rfl rfl ?_; conv => cbv) | (refine ⟨M', _, hmd3, Nat.le_of_ble_eq_true rfl, ?_⟩; intro m4 hm4; have hmd4 := mup_at' hm4; (conv => cbv)) | (refine ⟨M', _, hmd, Nat.le_of_ble_eq_true rfl, ?_⟩; intro m3 hm3; have hmd3 := mup_at' hm3; have hmb3 := (mup_ne' hm3 hbd).trans hmb; (conv => cbv)) | exact gu | exact trivial | refine And.intro ?_ ?_ | (intro hc; exact absurd hc (by decide)) | (intro hc; exfalso; omega) | (intro hc; (first | rw [wrap_small (by omega) (by omega)] at hc | rw [nI_eq] at hc | skip); try (conv => cbv))
  all_goals
   have hdn0 : m d = none := (mup_ne' hm1 (fun e => hcd e.symm)).symm.trans hdn
   have hmc4 := (mup_ne' hm4 hcd).trans ((mup_ne' hm3 hcd).trans hmc)
   have hfr : ∀ i, i ≠ c → i ≠ d → m4 i = m i := fun i h1 h2 => (mup_ne' hm4 h2).trans ((mup_ne' hm3 h2).trans ((mup_ne' hm2 h2).trans (mup_ne' hm1 h1)))
   refine (fun he => fin m4 _ c d M M' hcn hdn0 (fun e => hcd e.symm) hmc4 he hfr) ?_
   first
    | (exfalso; omega)
    | (rw [if_pos (by omega), if_pos (by omega)]; exact hmd4)
    | (rw [if_neg (by omega), if_neg (by omega)]; exact hmd4)
end Go.Ab

/-
  Compressing: putting a route into a trie.
-/
namespace Go.Ab
open Go.Proofs
theorem put_cut {P : Program} {f : Nat} {args : List AV} {m : Ar} {S : Nat → Prop} {t : Tri} (hf : FnS P f args [.am m] fun r' h' => ∃ m' tl, h' = .am m' :: tl ∧ PutR m S t r' m') :
  FnS P f args [.am m] fun r' h' => ∃ m', h' = [.am m'] ∧ PutR m S t r' m' := by
 refine (hf.cut fun r h' hr => ?_).mono fun r h1 ⟨h2, hr, hl⟩ => ?_
 ·obtain ⟨m', tl, rfl, k', S', rfl, _⟩ := hr
  exact ⟨rfl, rfl⟩
 ·obtain ⟨m', tl, he, hp⟩ := hr
  match h1, hl with
  | [x], _ =>
   simp only [List.cons_append, List.nil_append, List.cons.injEq] at he
   obtain ⟨rfl, _⟩ := he
   exact ⟨m', rfl, hp⟩
theorem putR_shape {m m1 : Ar} {S : Nat → Prop} {t : Tri} {k1 : D} (h : PutR m S t (.c (.d k1)) m1) : k1 = .nilp ∨ ∃ c, k1 = .adr c 0 := by
 obtain ⟨k', S', e, h1, _⟩ := h
 cases e
 cases t with
 | nil => exact .inl h1
 | node p v h a b => obtain ⟨bl, N, ka, kb, Sa, Sb, rfl, _⟩ := h1; exact .inr ⟨bl, rfl⟩
theorem put_ok (P : Program) (hP : P = Try.prog) : ∀ (t : Tri) (m : Ar) (k : D) (S : Nat → Prop) (r : Rt), WfTr t → validP r.p = true → inU r.p.addr → TrA m k t S → (∀ i, S i → m i ≠ none) →
  FnS P n_trie_node_put [.c (.d k), rtA r] [.am m] fun r' h' => ∃ m', h' = [.am m'] ∧ PutR m S (putT fkP t r) r' m'
 | .nil, m, k, S, r, _, _, _, ht, _ => by
  have ht : k = .nilp := ht
  subst ht
  exact put_cut (put_nil P hP fkP m S r)
 | .node p v h a b, m, k, S, r, hw, hv, hu, ht, hS => by
  have ht0 := ht
  obtain ⟨bl, N, ka, kb, Sa, Sb, rfl, hm, ta, tb, hbl, na, nb, sa, sb, sd⟩ := ht
  obtain ⟨w1, w2, w3, w4, w5, w6⟩ := hw
  have hml : m bl ≠ none := by rw [hm]; simp
  rw [putT]
  by_cases he : p = r.p
  ·rw [if_pos he]
   have h0 := put_same P hP m p v r.val h bl N ka kb hm
   rw [show (⟨p, r.val⟩ : Rt) = r by rw [he]] at h0
   refine put_cut (h0.mono fun r' h' ⟨m', tl, e1, e2, e3, e4⟩ => ?_)
   subst e1
   exact ⟨m', tl, e2, putR_same ta tb hbl na nb sa sb sd hS e3 e4⟩
  ·rw [if_neg he]
   by_cases hc : covP p r.p = true
   ·rw [if_pos hc]
    by_cases hz : bitA r.p.addr p.len = 0
    ·rw [if_pos hz]
     refine put_cut ((put_below P hP m r p v h bl N ka kb hm hu w2 he hc (fun k1 m1 => PutR m Sa (putT fkP a r) (.c (.d k1)) m1) ?_ (fun k1 m1 hp => ?_) fun k1 m1 hp => putR_shape hp).mono fun r' h' ⟨m1, k1, m', tl, hp, e1, e2, e3, e4⟩ => ?_)
     ·rw [if_pos hz]
      refine (put_ok P hP a m ka Sa r w5 hv hu ta fun i hi => hS i (sa i hi)).mono fun r' h' ⟨m1, e1, hp⟩ => ?_
      obtain ⟨k', S', e, _⟩ := id hp
      exact ⟨k', m1, e, e1, e ▸ hp⟩
     ·obtain ⟨_, _, _, _, _, _, l3, _⟩ := hp
      exact l3 bl hml na
     ·subst e1
      rw [if_pos hz, if_pos hz] at e3
      exact ⟨m', tl, e2, putR_kid0 hml tb hbl na nb sa sb sd hS hp e3 e4⟩
    ·rw [if_neg hz]
     refine put_cut ((put_below P hP m r p v h bl N ka kb hm hu w2 he hc (fun k1 m1 => PutR m Sb (putT fkP b r) (.c (.d k1)) m1) ?_ (fun k1 m1 hp => ?_) fun k1 m1 hp => putR_shape hp).mono fun r' h' ⟨m1, k1, m', tl, hp, e1, e2, e3, e4⟩ => ?_)
     ·rw [if_neg hz]
      refine (put_ok P hP b m kb Sb r w6 hv hu tb fun i hi => hS i (sb i hi)).mono fun r' h' ⟨m1, e1, hp⟩ => ?_
      obtain ⟨k', S', e, _⟩ := id hp
      exact ⟨k', m1, e, e1, e ▸ hp⟩
     ·obtain ⟨_, _, _, _, _, _, l3, _⟩ := hp
      exact l3 bl hml nb
     ·subst e1
      rw [if_neg hz, if_neg hz] at e3
      exact ⟨m', tl, e2, putR_kid1 hml ta hbl na nb sa sb sd hS hp e3 e4⟩
   ·rw [if_neg hc]
    by_cases hd : covP r.p p = true
    ·rw [if_pos hd]
     refine put_cut ((put_above P hP m r p v h bl N ka kb hm hu w2 he (by simpa using hc) hd).mono fun r' h' ⟨m', tl, c, M, e1, e2, e3, e4, e5⟩ => ?_)
     subst e1
     refine ⟨m', tl, e2, ?_⟩
     by_cases hz : bitA p.addr r.p.len = 0
     ·rw [if_pos hz]
      rw [if_pos hz, if_pos hz] at e4
      exact putR_up true ht0 hS e3 e4 e5
     ·rw [if_neg hz]
      rw [if_neg hz, if_neg hz] at e4
      exact putR_up false ht0 hS e3 e4 e5
    ·rw [if_neg hd]
     refine put_cut ((put_beside P hP m r p v h bl N ka kb hm hv hu w1 w2 (by simpa using hc) (by simpa using hd)).mono fun r' h' ⟨m', tl, c, d, N', M, e1, e2, e3, e4, e5, e6, e7, e8⟩ => ?_)
     subst e1
     refine ⟨m', tl, e2, ?_⟩
     have hlen : (fkP r.p p).len = comP r.p p := rfl
     rw [hlen]
     by_cases hz : bitA r.p.addr (comP r.p p) = 0
     ·rw [if_pos hz]
      rw [if_pos hz, if_pos hz] at e7
      exact putR_fork true ht0 hS e3 e4 e5 e6 e7 e8
     ·rw [if_neg hz]
      rw [if_neg hz, if_neg hz] at e7
      exact putR_fork false ht0 hS e3 e4 e5 e6 e7 e8
end Go.Ab

/-
  Compressing: a trie and its routes.
-/
namespace Go.Ab
open Go.Proofs
theorem tnew_ok (P : Program) (hP : P = Try.prog) : FnS P n_trie_New [] [] fun r' h' => r' = .c (.ptr 0 0 0 0) ∧ h' = [.bx [.d .nilp]] := by
 refine heap_start (hP ▸ mixed) (hP ▸ fn_trie_New) (hP ▸ c_trie_New) (Nat.le_of_ble_eq_true rfl) fun Λ Λo K hK => ?_
 clear hP
 conv => cbv
 repeat' first | exact gu | exact trivial | refine And.intro ?_ ?_ | (intro hc; exact absurd hc (by decide)) | (intro hc; exfalso; omega) | (intro hc; (first | rw [wrap_small (by omega) (by omega)] at hc | rw [nI_eq] at hc | skip); try (conv => cbv))
 exact hK _ _ ⟨rfl, rfl⟩
theorem cut2H {P : Program} {f : Nat} {args : List AV} {h : Hp} {R : AV → Hp → Prop} (n : Nat) (hl : h.length = n) (hf : FnS P f args h fun r' h' => ∃ h0 tl, h' = h0 ++ tl ∧ h0.length = n ∧ refsA n r' = true ∧ refsH n h0 = true ∧ R r' h0) : FnS P f args h R := by
 subst hl
 refine (hf.cut fun r h' hr => ?_).mono fun r h1 ⟨h2, hr, hl⟩ => ?_
 ·obtain ⟨h0, tl, rfl, h1, h2, h3, _⟩ := hr
  refine ⟨h2, ?_⟩
  rw [← h1, List.take_left]
  rw [h1]; exact h3
 ·obtain ⟨h0, tl, he, h3, _, _, hR⟩ := hr
  have : h1 = h0 := (List.append_inj he (by omega)).1
  rw [this]; exact hR
def TrS (m0 m : Ar) (k : D) (t : Tri) : Prop := ∃ S, TrA m k t S ∧ (∀ i, S i → m i ≠ none) ∧ (∀ i, S i → m0 i = none) ∧ ∀ i, m0 i ≠ none → m i = m0 i
theorem TrS.put {m0 m m' : Ar} {k : D} {t t' : Tri} {S : Nat → Prop} {r : AV} (h : TrA m k t S ∧ (∀ i, S i → m i ≠ none) ∧ (∀ i, S i → m0 i = none) ∧ ∀ i, m0 i ≠ none → m i = m0 i) (hp : PutR m S t' r m') : ∃ k', r = .c (.d k') ∧ TrS m0 m' k' t' := by
 obtain ⟨h1, h2, h3, h4⟩ := h
 obtain ⟨k', S', rfl, p1, p2, p3, p4, p5⟩ := hp
 refine ⟨k', rfl, S', p1, p2, fun i hi => ?_, fun i hi => ?_⟩
 ·rcases p3 i hi with q | q
  ·exact h3 i q
  ·cases hm : m0 i with
   | none => rfl
   | some x => have := h4 i (by rw [hm]; simp); rw [q, hm] at this; cases this
 ·rw [p4 i (by rw [h4 i hi]; exact hi) fun hS => hi (h3 i hS)]
  exact h4 i hi
theorem tput_ok (P : Program) (hP : P = Try.prog) (m0 m : Ar) (k : D) (t : Tri) (r : Rt) (hw : WfTr t) (hv : validP r.p = true) (hu : inU r.p.addr) (ht : TrS m0 m k t) :
  FnS P n_trie_Trie_Put [.c (.ptr 1 0 0 0), rtA r] [.am m, .bx [.d k]] fun r' h' => ∃ m' k', r' = iA 0 ∧ h' = [.am m', .bx [.d k']] ∧ TrS m0 m' k' (putT fkP t r) := by
 obtain ⟨S, t1, t2, t3, t4⟩ := ht
 have hput := put_ok P hP t m k S r hw hv hu t1 t2
 have hva := pvalid_ok P hP r.p hu
 rw [hv] at hva
 refine cut2H 2 rfl ?_
 refine heap_start (hP ▸ mixed) (hP ▸ fn_trie_Trie_Put) (hP ▸ c_trie_Trie_Put) (Nat.le_of_ble_eq_true rfl) fun Λ Λo K hK => ?_
 clear hP
 have fin : ∀ m' k' tl, TrS m0 m' k' (putT fkP t r) → K (iA 0) (.am m' :: .bx [.d k'] :: tl) := fun m' k' tl h => hK _ _ ⟨[.am m', .bx [.d k']], tl, rfl, rfl, rfl, rfl, m', k', rfl, rfl, h⟩
 clear hK
 generalize putT fkP t r = t' at *
 obtain ⟨⟨ra, rl⟩, rv⟩ := r
 simp only [rtA, pfA] at *
 conv => cbv
 repeat' first | exact gu | exact trivial | refine And.intro ?_ ?_ | (intro hc; exact absurd hc (by decide)) | (intro hc; exfalso; omega) | (intro hc; (first | rw [wrap_small (by omega) (by omega)] at hc | rw [nI_eq] at hc | skip); try (conv => cbv))
 left
 intro (_ : Unit)
 conv => cbv
 repeat' first | refine call_b hva rfl rfl ?_ ?_ | exact gu | exact trivial | refine And.intro ?_ ?_ | (intro hc; exact absurd hc (by decide)) | (intro hc; exfalso; omega) | (intro hc; (first | rw [wrap_small (by omega) (by omega)] at hc | rw [nI_eq] at hc | skip); try (conv => cbv))
 refine wrF_fr [0] hput rfl rfl (by decide) ⟨rfl, trivial⟩ rfl rfl ?_
 rintro r hc' ⟨m', rfl, hp⟩
 obtain ⟨k', rfl, hs⟩ := TrS.put ⟨t1, t2, t3, t4⟩ hp
 have fin := fin m' k' [.bx [.d (u32D ra), .d (iD rl), .d (iD rv)]] hs
 clear hs hp hput t1 t2 t3 t4
 conv => cbv
 repeat' first | exact gu | exact trivial | refine And.intro ?_ ?_ | (intro hc; exact absurd hc (by decide)) | (intro hc; exfalso; omega) | (intro hc; (first | rw [wrap_small (by omega) (by omega)] at hc | rw [nI_eq] at hc | skip); try (conv => cbv))
 exact fin
theorem build_ok6 (P : Program) (hP : P = Try.prog) (m0 : Ar) (l : List Rt) (hu : ∀ r ∈ l, inU r.p.addr) (hv : validR l = true) :
  FnS P n_compress_build [rtsA l] [.am m0] fun r' h' => ∃ m' k', r' = .c (.ptr 1 0 0 0) ∧ h' = [.am m', .bx [.d k']] ∧ TrS m0 m' k' (buildT fkP l) := by
 have hnew := tnew_ok P hP
 have hput := fun (m : Ar) (k : D) (t : Tri) (r : Rt) => tput_ok P hP m0 m k t r
 have hwf : ∀ k ≤ l.length, WfTr (buildT fkP (l.take k)) := fun k _ => (build_law fkP (fun r n a b c d e f => (fork_ok a b c d e f).1) (fun r hr => hu r (List.mem_of_mem_take hr)) (by
  obtain ⟨v1, v2⟩ := validR_spec.1 hv
  refine validR_spec.2 ⟨fun r hr => v1 r (List.mem_of_mem_take hr), ?_⟩
  rw [List.map_take]
  exact v2.sublist (List.take_sublist _ _))).1
 have hv1 := (validR_spec.1 hv).1
 refine heap_start (hP ▸ mixed) (hP ▸ fn_compress_build) (hP ▸ c_compress_build) (Nat.le_of_ble_eq_true rfl) fun Λ Λo K hK => ?_
 clear hP
 have fin : ∀ m' k', TrS m0 m' k' (buildT fkP l) → K (.c (.ptr 1 0 0 0)) [.am m', .bx [.d k']] := fun m' k' h => hK _ _ ⟨m', k', rfl, rfl, h⟩
 clear hK
 have h00 : TrS m0 m0 .nilp (buildT fkP (l.take 0)) := ⟨fun _ => False, rfl, fun _ h => h.elim, fun _ h => h.elim, fun _ _ => rfl⟩
 have hstep : ∀ (k : Nat) (r : Rt), l[k]? = some r → buildT fkP (l.take (k + 1)) = putT fkP (buildT fkP (l.take k)) r := fun k r h => by
  rw [take_succ_get h, buildT, List.foldl_append]; rfl
 have hfull : l.take l.length = l := List.take_of_length_le (Nat.le_refl _)
 simp only [rtsA, rtsD]
 generalize rlh : l.map encRt = rl at *
 have lln : Λ rl = l.length := by rw [Λo, ← rlh]; simp
 conv => cbv
 repeat' first | (refine call_fr [] hnew rfl rfl (by decide) trivial rfl rfl ?_; rintro r hc' ⟨rfl, rfl⟩; (conv => cbv)) | exact gu | exact trivial | refine And.intro ?_ ?_ | (intro hc; exact absurd hc (by decide)) | (intro hc; exfalso; omega) | (intro hc; (first | rw [wrap_small (by omega) (by omega)] at hc | rw [nI_eq] at hc | skip); try (conv => cbv))
 refine loop_up l.length (fun (s : Int × D × Ar) => [(0, .c (.d (.list false 3 rl))), (3, .c (.ptr 1 0 0 0)), (7, .c (.d (.list false 3 rl))), (8, iA (Λ rl)), (9, iA s.1)]) (fun s => [.am s.2.2, .bx [.d s.2.1]])
  (fun k s => s.1 = k ∧ k ≤ l.length ∧ TrS m0 s.2.2 s.2.1 (buildT fkP (l.take k))) (0, .nilp, m0) (Wk.ch) ⟨rfl, by omega, h00⟩ (fun k s h => h.2.1) ?_
 rintro k ⟨i, kd, m⟩ Q' ⟨hi, hk, hs⟩ norm ex rt
 simp only at hi hs
 by_cases hlt : k < l.length
 ·obtain ⟨r, hr⟩ : ∃ r, l[k]? = some r := ⟨_, List.getElem?_eq_getElem hlt⟩
  have hra := elt_at rlh hi hr
  have hp := hput m kd _ r (hwf k hk) (hv1 r (List.mem_of_getElem? hr)).1 (hu r (List.mem_of_getElem? hr)) hs
  rw [← hstep k r hr] at hp
  obtain ⟨⟨ra, rn⟩, rv⟩ := r
  simp only [encRt, rtA] at hra hp
  conv => cbv
  repeat' first | (refine ex _ _ _ ?_; (conv => cbv)) | (refine rt _ _ ?_; (conv => cbv)) | (intro e he; cases Option.some.inj (he.symm.trans hra); (conv => cbv)) | (left; intro (_ : Unit); (conv => cbv)) | (refine call_fr [0, 1] hp rfl rfl (by decide) (by repeat' first | exact trivial | refine And.intro ?_ ?_ | rfl) rfl rfl ?_; rintro r hc' ⟨m', k', rfl, rfl, hs'⟩; (conv => cbv)) | exact gu | exact trivial | refine And.intro ?_ ?_ | (intro hc; exact absurd hc (by decide)) | (intro hc; exfalso; omega) | (intro hc; (first | rw [wrap_small (by omega) (by omega)] at hc | rw [nI_eq] at hc | skip); try (conv => cbv))
  rename_i c
  obtain rfl : c = ((k + 1 : Nat) : Int) := by omega
  refine norm _ _ (((k + 1 : Nat) : Int), k', m') ?_ ?_
  rotate_left
  ·exact (Wk.ca)
  exact ⟨rfl, by omega, hs'⟩
 ·conv => cbv
  repeat' first | (refine ex _ _ _ ?_; (conv => cbv)) | (refine rt _ _ ?_; (conv => cbv)) | exact gu | exact trivial | refine And.intro ?_ ?_ | (intro hc; exact absurd hc (by decide)) | (intro hc; exfalso; omega) | (intro hc; (first | rw [wrap_small (by omega) (by omega)] at hc | rw [nI_eq] at hc | skip); try (conv => cbv))
  obtain rfl : k = l.length := by omega
  rw [hfull] at hs
  exact fin _ _ hs
end Go.Ab

/-
  Compressing: looking an address up in a trie.
-/
namespace Go.Ab
open Go.Proofs
def hgt : Tri → Nat
 | .nil => 0
 | .node _ _ _ a b => max (hgt a) (hgt b) + 1
theorem cutT {P : Program} {f : Nat} {args : List AV} {h : Hp} {R : AV → Hp → Prop} (n : Nat) (hl : h.length = n) (hf : FnS P f args h fun r' h' => ∃ x y h0 tl, r' = .tup [x, y] ∧ h' = h0 ++ tl ∧ h0.length = n ∧ refsA n x = true ∧ refsA n y = true ∧ refsH n h0 = true ∧ R r' h0) : FnS P f args h R := by
 subst hl
 refine (hf.cut2 fun r h' hr => ?_).mono fun r h1 ⟨h2, hr, hl⟩ => ?_
 ·obtain ⟨x, y, h0, tl, e, rfl, h1, h2, h3, h4, _⟩ := hr
  refine ⟨x, y, e, h2, h3, ?_⟩
  rw [← h1, List.take_left]
  rw [h1]; exact h4
 ·obtain ⟨x, y, h0, tl, e, he, h3, _, _, _, hR⟩ := hr
  have : h1 = h0 := (List.append_inj he (by omega)).1
  rw [this]; exact hR
def LkI (m : Ar) (t : Tri) (x : Int) (n : Nat) (s : D × Int × Int × Int × Bool) : Prop := ∃ (t' : Tri) (S' : Nat → Prop) (o : Option Rt), TrA m s.1 t' S' ∧ WfTr t' ∧ n + hgt t' ≤ hgt t ∧ s.2 = encO o ∧ lookT x t' o = lookT x t none
theorem tlook_ok (P : Program) (hP : P = Try.prog) (m : Ar) (k : D) (t : Tri) (S : Nat → Prop) (x : Int) (hw : WfTr t) (ht : TrA m k t S) (hx : inU x) (ra rn rv : Int) (rf : Bool) (hres : encO (lookT x t none) = (ra, rn, rv, rf)) :
  FnS P n_trie_Trie_Lookup [.c (.ptr 1 0 0 0), .c (.d (u32D x))] [.am m, .bx [.d k]] fun r' h' => r' = .tup [.agg [.d (u32D ra), .d (iD rn), .d (iD rv)], bA rf] ∧ h' = [.am m, .bx [.d k]] := by
 have hco := fun (p : Pfx) (hp : inU p.addr) => pcont_ok P hP p x hp hx
 have hbr := fun (n : Int) (h0 : 0 ≤ n) (h1 : n < 32) => branch_ok P hP x n hx h0 h1
 have h01 := bit_01 x
 have hsh : ∀ (t : Tri) (k : D) (S : Nat → Prop), TrA m k t S → fgD k = k := fun t k S h => by
  cases t with
  | nil => rw [show k = .nilp from h]; rfl
  | node p v hh a b => obtain ⟨bl, N, ka, kb, Sa, Sb, rfl, _⟩ := h; rfl
 refine cutT 2 rfl ?_
 refine heap_start (hP ▸ mixed) (hP ▸ fn_trie_Trie_Lookup) (hP ▸ c_trie_Trie_Lookup) (Nat.le_of_ble_eq_true rfl) fun Λ Λo K hK => ?_
 clear hP
 have fin : ∀ tl, K (.tup [.agg [.d (u32D ra), .d (iD rn), .d (iD rv)], bA rf]) (.am m :: .bx [.d k] :: tl) := fun tl => hK _ _ ⟨_, _, [.am m, .bx [.d k]], tl, rfl, rfl, rfl, rfl, rfl, rfl, rfl, rfl⟩
 clear hK
 conv => cbv
 repeat' first | (left; intro (_ : Unit); (conv => cbv)) | exact gu | exact trivial | refine And.intro ?_ ?_ | (intro hc; exact absurd hc (by decide)) | (intro hc; exfalso; omega) | (intro hc; (first | rw [wrap_small (by omega) (by omega)] at hc | rw [nI_eq] at hc | skip); try (conv => cbv))
 refine loop_upx (hgt t) (fun (s : D × Int × Int × Int × Bool) => [(0, .c (.ptr 1 0 0 0)), (1, .c (.d (u32D x))), (4, .c (.ptr 2 0 0 0)), (6, .c (.ptr 3 0 0 0)), (7, bA s.2.2.2.2), (8, .c (.d s.1))]) (fun s => [.am m, .bx [.d k], .bx [.d (u32D 0), .d (iD 0), .d (iD 0)], .bx [.d (u32D s.2.1), .d (iD s.2.2.1), .d (iD s.2.2.2.1)]])
  (LkI m t x) (k, 0, 0, 0, false)
  0 (fun (d : D) => [(0, .c (.ptr 1 0 0 0)), (1, .c (.d (u32D x))), (4, .c (.ptr 2 0 0 0)), (6, .c (.ptr 3 0 0 0)), (7, bA rf), (8, .c (.d d))]) (fun _ => [.am m, .bx [.d k], .bx [.d (u32D 0), .d (iD 0), .d (iD 0)], .bx [.d (u32D ra), .d (iD rn), .d (iD rv)]])
  (fun _ => True) (Wk.ca) ⟨t, S, none, ht, hw, by omega, rfl, rfl⟩ (fun n s h => by obtain ⟨_, _, _, _, _, h, _⟩ := h; omega) ?_ ?_
 ·clear fin
  rintro n ⟨kd, a, b, c, f⟩ Q' ⟨t', S', o, hT, hW, hh, ho, hl⟩ norm jn ex rt
  simp only at hT ho
  cases t' with
  | nil =>
   obtain rfl : kd = .nilp := hT
   have hr : encO o = (ra, rn, rv, rf) := by rw [← hres, ← hl]; rfl
   rw [hr] at ho
   cases ho
   conv => cbv
   repeat' first | exact gu | exact trivial | refine And.intro ?_ ?_ | (intro hc; exact absurd hc (by decide)) | (intro hc; exfalso; omega) | (intro hc; (first | rw [wrap_small (by omega) (by omega)] at hc | rw [nI_eq] at hc | skip); try (conv => cbv))
   exact jn _ _ D.nilp trivial (Wk.ca)
  | node p v h ta tb =>
   obtain ⟨bl, N, ka, kb, Sa, Sb, rfl, hm, hta, htb, _⟩ := hT
   obtain ⟨w1, w2, w3, w4, w5, w6⟩ := hW
   have hc := hco p w2
   obtain ⟨z0, z1, _⟩ := valid_spec.1 w1
   have hb := fun h32 => hbr p.len z0 h32
   have h01 := h01 p.len
   simp only [hgt] at hh
   have hga : hgt ta + 1 ≤ hgt t - n := by omega
   have hgb : hgt tb + 1 ≤ hgt t - n := by omega
   have hfa := hsh ta ka Sa hta
   have hfb := hsh tb kb Sb htb
   rw [lookT] at hl
   cases hcp : contP p x with
   | false =>
    rw [hcp] at hl hc
    simp only [Bool.false_eq_true, if_false] at hl
    have hr : encO o = (ra, rn, rv, rf) := by rw [← hres, ← hl]
    rw [hr] at ho
    cases ho
    obtain ⟨pa, pl⟩ := p
    simp only [pfA, nodeD] at *
    conv => cbv
    repeat' first | (refine ⟨N, _, _, hm, rfl, rfl, ?_⟩; (conv => cbv)) | (refine ⟨N, _, _, hm, rfl, ?_⟩; (conv => cbv)) | refine call_b hc rfl rfl ?_ ?_ | exact gu | exact trivial | refine And.intro ?_ ?_ | (intro hc; exact absurd hc (by decide)) | (intro hc; exfalso; omega) | (intro hc; (first | rw [wrap_small (by omega) (by omega)] at hc | rw [nI_eq] at hc | skip); try (conv => cbv))
    exact jn _ _ (D.adr bl 0) trivial (Wk.ca)
   | true =>
    rw [hcp] at hl hc
    simp only [if_true] at hl
    by_cases h32 : p.len = 32
    ·rw [if_pos h32] at hl
     have hr : encO (if h = true then some ⟨p, v⟩ else o) = (ra, rn, rv, rf) := by rw [← hres, ← hl]
     obtain ⟨pa, pl⟩ := p
     simp only at h32
     subst h32
     cases h with
     | true =>
      simp only [if_true, encO, Prod.mk.injEq] at hr
      obtain ⟨rfl, rfl, rfl, rfl⟩ := hr
      simp only [pfA, nodeD] at *
      conv => cbv
      repeat' first | (refine ⟨N, _, _, hm, rfl, rfl, ?_⟩; (conv => cbv)) | (refine ⟨N, _, _, hm, rfl, ?_⟩; (conv => cbv)) | refine call_b hc rfl rfl ?_ ?_ | exact gu | exact trivial | refine And.intro ?_ ?_ | (intro hc; exact absurd hc (by decide)) | (intro hc; exfalso; omega) | (intro hc; (first | rw [wrap_small (by omega) (by omega)] at hc | rw [nI_eq] at hc | skip); try (conv => cbv))
      exact jn _ _ (D.adr bl 0) trivial (Wk.ca)
     | false =>
      simp only [Bool.false_eq_true, if_false] at hr
      rw [hr] at ho
      cases ho
      simp only [pfA, nodeD] at *
      conv => cbv
      repeat' first | (refine ⟨N, _, _, hm, rfl, rfl, ?_⟩; (conv => cbv)) | (refine ⟨N, _, _, hm, rfl, ?_⟩; (conv => cbv)) | refine call_b hc rfl rfl ?_ ?_ | exact gu | exact trivial | refine And.intro ?_ ?_ | (intro hc; exact absurd hc (by decide)) | (intro hc; exfalso; omega) | (intro hc; (first | rw [wrap_small (by omega) (by omega)] at hc | rw [nI_eq] at hc | skip); try (conv => cbv))
      exact jn _ _ (D.adr bl 0) trivial (Wk.ca)
    ·rw [if_neg h32] at hl
     have hb := hb (by omega)
     obtain ⟨pa, pl⟩ := p
     simp only at h32
     have nx : ∀ (kk : D) (tt : Tri) (SS : Nat → Prop) (o' : Option Rt), TrA m kk tt SS → WfTr tt → hgt tt + 1 ≤ hgt t - n → lookT x tt o' = lookT x t none → ∀ a b c f, (a, b, c, f) = encO o' → LkI m t x (n + 1) (kk, a, b, c, f) :=
      fun kk tt SS o' q1 q2 q3 q4 a b c f q5 => ⟨tt, SS, o', q1, q2, by omega, q5, q4⟩
     cases h with
     | true =>
      simp only [if_true] at hl
      have na := fun (hz : bitA x pl = 0) => nx ka ta Sa (some ⟨⟨pa, pl⟩, v⟩) hta w5 hga (by rw [if_pos hz] at hl; exact hl) pa pl v true rfl
      have nb := fun (hz : bitA x pl ≠ 0) => nx kb tb Sb (some ⟨⟨pa, pl⟩, v⟩) htb w6 hgb (by rw [if_neg hz] at hl; exact hl) pa pl v true rfl
      clear hl nx
      simp only [pfA, nodeD] at *
      generalize bitA x pl = z at *
      conv => cbv
      repeat' first | (refine ⟨N, _, _, hm, rfl, rfl, ?_⟩; (conv => cbv)) | (refine ⟨N, _, _, hm, rfl, ?_⟩; (conv => cbv)) | refine call_b hc rfl rfl ?_ ?_ | (refine call_r hb rfl rfl ?_; conv => cbv) | exact gu | exact trivial | refine And.intro ?_ ?_ | (intro hc; exact absurd hc (by decide)) | (intro hc; exfalso; omega) | (intro hc; (first | rw [wrap_small (by omega) (by omega)] at hc | rw [nI_eq] at hc | skip); try (conv => cbv))
      ·exact norm _ _ (ka, pa, pl, v, true) (na (by omega)) (Wk.ca)
      ·exact norm _ _ (kb, pa, pl, v, true) (nb (by omega)) (Wk.ca)
     | false =>
      simp only [Bool.false_eq_true, if_false] at hl
      have na := fun (hz : bitA x pl = 0) => nx ka ta Sa o hta w5 hga (by rw [if_pos hz] at hl; exact hl) a b c f ho
      have nb := fun (hz : bitA x pl ≠ 0) => nx kb tb Sb o htb w6 hgb (by rw [if_neg hz] at hl; exact hl) a b c f ho
      clear hl nx
      simp only [pfA, nodeD] at *
      generalize bitA x pl = z at *
      conv => cbv
      repeat' first | (refine ⟨N, _, _, hm, rfl, rfl, ?_⟩; (conv => cbv)) | (refine ⟨N, _, _, hm, rfl, ?_⟩; (conv => cbv)) | refine call_b hc rfl rfl ?_ ?_ | (refine call_r hb rfl rfl ?_; conv => cbv) | exact gu | exact trivial | refine And.intro ?_ ?_ | (intro hc; exact absurd hc (by decide)) | (intro hc; exfalso; omega) | (intro hc; (first | rw [wrap_small (by omega) (by omega)] at hc | rw [nI_eq] at hc | skip); try (conv => cbv))
      ·exact norm _ _ (ka, a, b, c, f) (na (by omega)) (Wk.ca)
      ·exact norm _ _ (kb, a, b, c, f) (nb (by omega)) (Wk.ca)
 ·rintro d -
  conv => cbv
  repeat' first | exact gu | exact trivial | refine And.intro ?_ ?_ | (intro hc; exact absurd hc (by decide)) | (intro hc; exfalso; omega) | (intro hc; (first | rw [wrap_small (by omega) (by omega)] at hc | rw [nI_eq] at hc | skip); try (conv => cbv))
  exact fin _
end Go.Ab

/-
  The engine: functions that work in an arena of their own; at their end it is given up, and what leads into it is plain data.
-/
namespace Go.Ab
inductive ThD (m : Ar) : D → D → Prop
 | same (x : D) : ThD m x x
 | fg (x : D) : ThD m x (fgD x)
 | row (b o sz n cap N : Nat) (xs : List D) (rows : List (List D)) (g : Nat → Nat → D) (hm : m b = some (.cs N xs)) (hn : rows.length = n) (hcap : n ≤ cap) (hmx : n ≤ 9223372036854775807)
   (hs : ∀ (i : Nat) (e : List D), rows[i]? = some e → e.length = sz) (hx : ∀ (i : Nat) (e : List D) (j : Nat) (x : D), rows[i]? = some e → e[j]? = some x → xs[o + i * sz + j]? = some (g i j))
   (hr : ∀ (i : Nat) (e : List D) (j : Nat) (x : D), rows[i]? = some e → e[j]? = some x → ThD m (g i j) x) : ThD m (.sl b o sz n cap) (.list false sz rows)
 | list (nl : Bool) (sz : Nat) (l l' : List (List D)) (hlen : l.length = l'.length) (hs : ∀ (i : Nat) (e : List D), l'[i]? = some e → e.length = sz)
   (hr : ∀ (i : Nat) (e e' : List D) (j : Nat) (x x' : D), l[i]? = some e → l'[i]? = some e' → e[j]? = some x → e'[j]? = some x' → ThD m x x') : ThD m (.list nl sz l) (.list nl sz l')
section
variable {G : Nat → Prop} {ι : Io} {h : Hp} {w : World} {m : Ar}
theorem thD_sound {G' : Nat → Prop} (hG : ∀ b x, m b = some x → G' b ∧ ABR G' w b x) {x x' : D} (ht : ThD m x x') : ∀ {v : Value}, DR G' w v x → DR G' w v x' := by
 induction ht with
 | same x => exact fun h => h
 | fg x => exact fun h => h.fg
 | row b o sz n cap N xs rows g hm hn hcap hmx hs hx hr ih =>
  intro v hd
  cases hd
  obtain ⟨hg, c, t, fr, a1, a2, a3, a4, a5⟩ := hG b _ hm
  subst hn
  refine .sl b o cap sz rows (fun i j => (c[o + i * sz + j]?).getD undef) (fun _ => hg) hcap hmx hs (fun i e j x he hx' => ?_) fun i e j x he hx' => ?_
  ·obtain ⟨v, hv, _⟩ := a5 _ _ (hx i e j x he hx')
   rw [cell_of a1, hv]; rfl
  ·obtain ⟨v, hv, hd⟩ := a5 _ _ (hx i e j x he hx')
   simp only [hv, Option.getD_some]
   exact ih i e j x he hx' hd
 | list nl sz l l' hlen hs hr ih =>
  intro v hd
  cases hd with
  | nils =>
   have : l' = [] := List.eq_nil_of_length_eq_zero (by simpa using hlen.symm)
   subst this; exact .nils nl sz
  | emp a =>
   have : l' = [] := List.eq_nil_of_length_eq_zero (by simpa using hlen.symm)
   subst this; exact .emp a sz
  | sl b off cap _ _ g hg hcap hmax hsz hc hr' =>
   have both : ∀ (i : Nat) (e' : List D) (j : Nat) (x' : D), l'[i]? = some e' → e'[j]? = some x' → ∃ e x, l[i]? = some e ∧ e[j]? = some x := by
    intro i e' j x' he hx
    have hi := get_lt he
    have hj := get_lt hx
    have h1 : l[i]? = some (l[i]'(by omega)) := List.getElem?_eq_getElem _
    have h2 := hsz i _ h1
    have h3 := hs i e' he
    exact ⟨_, _, h1, List.getElem?_eq_getElem (by omega)⟩
   rw [hlen]
   refine .sl b off cap sz l' g (fun hne => hg fun h0 => hne ?_) (by omega) (by omega) hs (fun i e j x he hx => ?_) fun i e j x he hx => ?_
   ·subst h0; exact List.eq_nil_of_length_eq_zero (by simpa using hlen.symm)
   ·obtain ⟨e0, x0, h1, h2⟩ := both i e j x he hx
    exact hc i e0 j x0 h1 h2
   ·obtain ⟨e0, x0, h1, h2⟩ := both i e j x he hx
    exact ih i e0 e j x0 x h1 he h2 hx (hr' i e0 j x0 h1 h2)
theorem HR.thaw (r : HR G ι h w) (h0 : h[0]? = some (.am m)) : HR (fun b => G b ∨ ∃ x, m b = some x) ι (h.set 0 .dead) w ∧ Ext G ι h w (fun b => G b ∨ ∃ x, m b = some x) ι (h.set 0 .dead) w ∧
    ∀ b x, m b = some x → (G b ∨ ∃ x, m b = some x) ∧ ABR (fun b => G b ∨ ∃ x, m b = some x) w b x := by
  have hgm : ∀ b, G b → (G b ∨ ∃ x, m b = some x) ∧ w.heap[b]? = w.heap[b]? := fun b hb => ⟨.inl hb, rfl⟩
  have hext : Ext G ι h w (fun b => G b ∨ ∃ x, m b = some x) ι (h.set 0 .dead) w :=
    { size := Nat.le_refl _
      quiet := ⟨rfl, rfl, rfl, Nat.le_refl _⟩
      frame := fun _ _ _ => rfl
      gmono := fun _ h => .inl h
      gnew := fun b hb => by
        rcases hb with h | ⟨x, hx⟩
        · exact .inl h
        · exact .inr (.inr (am_owned h0 hx))
      onew := fun b ho => .inl (owned_set h0 own1_dead ho)
      keep := fun l k hk => by
        by_cases e : 0 = l
        · subst e
          exact ⟨.dead, by rw [List.getElem?_set_self (get_lt h0)], by cases k <;> trivial⟩
        · exact ⟨k, by rw [List.getElem?_set_ne e]; exact hk, Kept.refl ι w l k⟩ }
  refine ⟨?_, hext, fun b x hx => ⟨.inr ⟨x, hx⟩, (r.blk 0 _ h0 b x hx).mono hgm rfl⟩⟩
  exact
    { len := by simp [r.len]
      own := own_kill r
      g := fun b hb => by
        rcases hb with hb | ⟨x, hx⟩
        · exact ⟨(r.g b hb).1, fun ho => (r.g b hb).2 (owned_set h0 own1_dead ho)⟩
        · refine ⟨owned_lt r (am_owned h0 hx), fun ⟨l, k, g1, g2⟩ => ?_⟩
          rcases get_set g1 with ⟨_, e2, _⟩ | ⟨e0, e1⟩
          · subst e2; exact own1_dead g2
          · exact e0 (r.own 0 l b _ k h0 e1 ⟨x, hx⟩ g2).symm
      blk := fun l k hk => by
        rcases get_set hk with ⟨_, d2, _⟩ | ⟨_, d1⟩
        · subst d2; trivial
        · exact BR.ext hext r d1 rfl fun _ _ => rfl }
end
def ThDs (m : Ar) : List D → List D → Prop
 | [], [] => True
 | x :: r, y :: s => ThD m x y ∧ ThDs m r s
 | _, _ => False
theorem thDs_get {m : Ar} : ∀ {l l' : List D}, ThDs m l l' → ∀ (i : Nat) (y : D), l'[i]? = some y → ∃ x, l[i]? = some x ∧ ThD m x y := by
 intro l
 induction l with
 | nil => intro l' h; cases l' with | nil => simp | cons => exact h.elim
 | cons x r ih =>
  intro l' h
  cases l' with
  | nil => exact h.elim
  | cons y s =>
   obtain ⟨h1, h2⟩ := h
   intro i b hb
   cases i with
   | zero => simp at hb; subst hb; exact ⟨x, rfl, h1⟩
   | succ i => simp at hb; obtain ⟨z, hz, ht⟩ := ih h2 i b hb; exact ⟨z, by simpa using hz, ht⟩
inductive ThC (m : Ar) : CV → CV → Prop
 | same (x : CV) (hx : pureC x = true) : ThC m x x
 | d (x x' : D) (h : ThD m x x') : ThC m (.d x) (.d x')
 | rp (l l' : List D) (h : ThDs m l l') : ThC m (.rp l) (.rp l')
def ThCs (m : Ar) : List CV → List CV → Prop
 | [], [] => True
 | x :: r, y :: s => ThC m x y ∧ ThCs m r s
 | _, _ => False
inductive ThA (m : Ar) : AV → AV → Prop
 | c (x y : CV) (h : ThC m x y) : ThA m (.c x) (.c y)
 | agg (l l' : List CV) (h : ThCs m l l') : ThA m (.agg l) (.agg l')
def ThAs (m : Ar) : List AV → List AV → Prop
 | [], [] => True
 | x :: r, y :: s => ThA m x y ∧ ThAs m r s
 | _, _ => False
theorem thC_pure {m : Ar} {x y : CV} (h : ThC m x y) : pureC y = true := by
 cases h with
 | same _ hx => exact hx
 | d => rfl
 | rp => rfl
theorem thCs_pure {m : Ar} : ∀ {l l' : List CV}, ThCs m l l' → l.length = l'.length ∧ l'.all pureC = true ∧ ∀ (i : Nat) (x y : CV), l[i]? = some x → l'[i]? = some y → ThC m x y := by
 intro l
 induction l with
 | nil => intro l' h; cases l' with | nil => simp | cons => exact h.elim
 | cons x r ih =>
  intro l' h
  cases l' with
  | nil => exact h.elim
  | cons y s =>
   obtain ⟨h1, h2⟩ := h
   obtain ⟨i1, i2, i3⟩ := ih h2
   refine ⟨by simp [i1], by simp [thC_pure h1, i2], fun i a b ha hb => ?_⟩
   cases i with
   | zero => simp at ha hb; subst ha hb; exact h1
   | succ i => simp at ha hb; exact i3 i a b ha hb
theorem thA_pure {m : Ar} {x y : AV} (h : ThA m x y) : pureA y = true := by
 cases h with
 | c _ _ h => exact thC_pure h
 | agg _ _ h => exact (thCs_pure h).2.1
theorem thAs_get {m : Ar} : ∀ {l l' : List AV}, ThAs m l l' → l.length = l'.length ∧ pureA.pureAs l' = true ∧ ∀ (i : Nat) (x y : AV), l[i]? = some x → l'[i]? = some y → ThA m x y := by
 intro l
 induction l with
 | nil => intro l' h; cases l' with | nil => simp [pureA.pureAs] | cons => exact h.elim
 | cons x r ih =>
  intro l' h
  cases l' with
  | nil => exact h.elim
  | cons y s =>
   obtain ⟨h1, h2⟩ := h
   obtain ⟨i1, i2, i3⟩ := ih h2
   refine ⟨by simp [i1], by simp [pureA.pureAs, thA_pure h1, i2], fun i a b ha hb => ?_⟩
   cases i with
   | zero => simp at ha hb; subst ha hb; exact h1
   | succ i => simp at ha hb; exact i3 i a b ha hb
def RetA (res : List (Nat × Option (Option Nat))) (L : Lv) (h : Hp) (K : AV → Prop) : Prop :=
 match resA (lkN L) h res with
 | some vs => vFrzAs h vs fun rs h2 => match h2 with
  | .am m :: _ => ∃ rs', ThAs m rs rs' ∧ K (pack rs')
  | _ => False
 | none => False
def am0 : Ar := fun _ => none
def vcFAE (res : List (Nat × Option (Option Nat))) (K : AV → Prop) : Post := fun x L h => match x with
 | .exit _ => False
 | _ => RetA res L h K
def vcFA (P : Program) (Λ : Len) (af : AF) (args : List AV) (K : AV → Prop) : Prop :=
 match af with
 | ⟨_, res, body⟩ => vcC P Λ 1 body (argL 0 args) [.am am0] (vcFAE res K)
theorem HR.am0 {G : Nat → Prop} {w : World} {ι : Io} (r : HR G ι [] w) : HR G [(0, 0)] [.am am0] w :=
  { len := rfl
    own := fun l l' b k k' h1 h2 _ _ => by
      have := get_lt h1; have := get_lt h2; simp at *; omega
    g := fun b hb => ⟨(r.g b hb).1, fun ⟨l, k, h1, h2⟩ => by
      have hl : l = 0 := by have := get_lt h1; simpa using this
      subst hl; cases h1
      obtain ⟨x, hx⟩ := h2; cases hx⟩
    blk := fun l k h1 => by
      have hl : l = 0 := by have := get_lt h1; simpa using this
      subst hl; cases h1
      intro b x hx; cases hx }
theorem fn_arena {P : Program} {f : Nat} {fn : Func} {af : AF} {args : List AV} {K : AV → Prop} (hmo : P.follows .mixedOrders = true) (hf : P.funcs[f]? = some fn) (hc : compF P fn = some af) (hl : args.length ≤ af.nt) (hv : ∀ Λ : Len, (∀ l, Λ l = (l.length : Int)) → vcFA P Λ af args K) :
    FnS P f args [] fun r _ => pureA r = true ∧ K r := by
  obtain ⟨c, hb, hcc, hres, hnt⟩ := compF_spec hc
  have hv1 := hv (fun l => (l.length : Int)) fun _ => rfl
  refine ⟨fun G ι w vs hr hvs => ?_⟩
  have hr1 := hr.am0
  have hι : ι = [] := by have := hr.len; exact List.eq_nil_of_length_eq_zero this
  subst hι
  have hvs1 : VRs G w [(0, 0)] [.am am0] vs args := ⟨hvs.1, fun i v x h1 h2 => (hvs.2 i v x h1 h2).mono (fun b hb => ⟨hb, rfl⟩) (fun l k hk => by simp at hk)⟩
  have none1 : ∀ b, ¬ owned [(0, 0)] [.am am0] b := fun b ⟨l, k, h1, h2⟩ => by
    have hl : l = 0 := by have := get_lt h1; simpa using this
    subst hl; cases h1
    obtain ⟨x, hx⟩ := h2; cases hx
  have henter := enter_fits (af := af) hnt (by omega) hr1 hvs1
  have hwp := vcC_sound (h0 := [.am am0]) (Λ := fun l => (l.length : Int)) (fun _ => rfl) (m := 1) hmo (by simp) c af.body _ _ (vcFAE af.res K) _ w hcc (by cases af; exact hv1) henter
  refine calls_of_wp hf hb (wp_mono hwp fun x a w' ⟨L, h', hq, hfit⟩ => ?_)
  have fin : RetA af.res L h' K → a.defers = [] ∧ ∃ v, (results fn a.tmps).run P w' = .ok v w' ∧ ∃ v' r G' ι' h'', Ending.returned v = .returned v' ∧ (pureA r = true ∧ K r) ∧ HR G' ι' h'' w' ∧ VR G' w' ι' h'' v' r ∧ Ext G [] [] w G' ι' h'' w' := by
    intro hret
    obtain ⟨G1, ι1, st⟩ := hfit
    refine ⟨st.rel.dfr, ?_⟩
    unfold RetA at hret
    split at hret
    · rename_i vs' hvs'
      obtain ⟨rs, h2, hrs, hret⟩ := vFrzAs_sound hret
      split at hret
      · rename_i m rest
        obtain ⟨rs', ht, hK⟩ := hret
        rw [lkN_fun] at hvs'
        obtain ⟨us, q1, q2⟩ := results_all (P := P) (fn := fn) (af := af) hres st.rel.hr st.rel.env hvs'
        obtain ⟨G2, k1, k2, k3, k4⟩ := frzAs_sound st.rel.hr q2 hrs
        obtain ⟨j1, j2, j3⟩ := HR.thaw k1 (m := m) rfl
        have e := (st.ext.trans k2).trans j2
        obtain ⟨t1, t2, t3⟩ := thAs_get ht
        have hvr : VRs (fun b => G2 b ∨ ∃ x, m b = some x) w' ι1 (List.set (.am m :: rest) 0 .dead) us rs' := by
          refine ⟨by rw [k3.1, t1], fun i v y h1 h2 => ?_⟩
          have hi := get_lt h2
          have hx : rs[i]? = some (rs[i]'(by omega)) := List.getElem?_eq_getElem _
          have hvx := (k3.2 i v _ h1 hx).ext j2 k1
          have hth := t3 i _ y hx h2
          revert hvx hth
          generalize rs[i]'(by omega) = z
          intro hvx hth
          have cc : ∀ {v : Value} {p q : CV}, CR (fun b => G2 b ∨ ∃ x, m b = some x) w' ι1 (List.set (.am m :: rest) 0 .dead) v p → ThC m p q → CR (fun b => G2 b ∨ ∃ x, m b = some x) w' ι1 (List.set (.am m :: rest) 0 .dead) v q := by
            intro v p q hp hq
            cases hq with
            | same => exact hp
            | d x x' h => cases hp with | d _ _ hd => exact .d _ _ (thD_sound j3 h hd)
            | rp l l' h =>
              cases hp with
              | rp b o _ hG hc =>
                refine .rp b o _ hG fun k y hy => ?_
                obtain ⟨x, hx, ht⟩ := thDs_get h k y hy
                obtain ⟨v, hv, hd⟩ := hc k x hx
                exact ⟨v, hv, thD_sound j3 ht hd⟩
          cases hth with
          | c _ _ h => cases hvx with | c _ _ hc => exact .c _ _ (cc hc h)
          | agg l l' h =>
            obtain ⟨u1, u2, u3⟩ := thCs_pure h
            cases hvx with
            | agg cs _ hn hc =>
              refine .agg _ _ (by omega) fun j v y hv hy => ?_
              have hj := get_lt hy
              exact cc (hc j v _ hv (List.getElem?_eq_getElem (by omega))) (u3 j _ y (List.getElem?_eq_getElem (by omega)) hy)
        refine ⟨_, q1, _, pack rs', _, ι1, _, rfl, ⟨?_, hK⟩, j1, pack_sound hvr, ?_⟩
        · cases rs' with
          | nil => rfl
          | cons x rs' =>
            cases rs' with
            | nil => simp only [pureA.pureAs, Bool.and_true] at t2; exact t2
            | cons y rs' => exact t2
        · exact
            { size := e.size
              quiet := e.quiet
              frame := fun b hb _ => e.frame b hb (none1 b)
              gmono := e.gmono
              gnew := fun b hb => by
                rcases e.gnew b hb with h | h | h
                · exact .inl h
                · exact .inr (.inl h)
                · exact absurd h (none1 b)
              onew := fun b hb => by
                rcases e.onew b hb with h | h
                · exact absurd h (none1 b)
                · exact .inr h
              keep := fun l k hk => by simp at hk }
      · exact hret.elim
    · exact hret.elim
  cases x with
  | normal => exact fin hq
  | ret => exact fin hq
  | exit i => exact hq.elim
  | goto => exact hq.elim
  | panic => exact hq.elim
  | outgrown => exact hq.elim
end Go.Ab

/-
  Compressing: the program's Lookup.
-/
namespace Go.Ab
open Go.Proofs
theorem arena_start {P : Program} {f : Nat} {fn : Func} {af : AF} {args : List AV} {r : AV} (hm : P.follows .mixedOrders = true) (hf : P.funcs[f]? = some fn) (hc : compF P fn = some af) (hl : args.length ≤ af.nt)
  (hv : ∀ (Λ : Len), (∀ l, Λ l = (l.length : Int)) → ∀ (K : AV → Prop), K r → vcFA P Λ af args K) : Ret P f args r :=
 fn_arena (K := fun r' => r' = r) hm hf hc hl fun Λ h => hv Λ h _ rfl
end Go.Ab

/-
  Compressing: putting lists of routes together.
-/
namespace Go.Ab
open Go.Proofs
def encRts (l : List Rt) : List D := [rtsD l]
theorem call_in {P : Program} {m : Nat} {L : Lv} {h : Hp} {f : Nat} {fn : Func} {af : AF} {xs : List X} {K : Lv → AV → Hp → Prop} (hm : P.follows .mixedOrders = true) (hf : P.funcs[f]? = some fn) (hc : compF P fn = some af) (hl : (evsN L xs).length ≤ af.nt)
  (hv : ∀ Λ : Len, (∀ l, Λ l = (l.length : Int)) → vcH P Λ af (evsN L xs) h (K L)) : CallS P m false L h f xs K := .fn (fn_heap hm hf hc hl hv)
def sumLenR (l : List (List Rt)) : Nat := (l.map List.length).sum
theorem sumLenR_take {l : List (List Rt)} {k : Nat} {x : List Rt} (h : l[k]? = some x) : sumLenR (l.take (k + 1)) = sumLenR (l.take k) + x.length := by
 rw [take_succ_get h]; simp [sumLenR]
theorem sumLenR_le (l : List (List Rt)) (k : Nat) : sumLenR (l.take k) ≤ sumLenR l := by
 have : sumLenR l = sumLenR (l.take k) + sumLenR (l.drop k) := by
  conv => lhs; rw [← List.take_append_drop k l]
  simp [sumLenR, -List.take_append_drop]
 omega
theorem flat_lenR (l : List (List Rt)) : l.flatten.length = sumLenR l := by simp [sumLenR, List.length_flatten]
theorem concatRts_ok (P : Program) (hP : P = Try.prog) (l : List (List Rt)) (hl : sumLenR l ≤ 1000000) : Ret P n_slices_Concat_api_Route_api_Route [.c (.d (.list false 1 (l.map encRts)))] (rtsA l.flatten) := by
 refine ret_start (hP ▸ mixed) (hP ▸ fn_slices_Concat_api_Route_api_Route) (hP ▸ c_slices_Concat_api_Route_api_Route) (Nat.le_of_ble_eq_true rfl) fun Λ Λo K hK => ?_
 have gm : P.follows .mixedOrders = true := hP ▸ mixed
 have gf := hP ▸ fn_slices_Grow_api_Route_api_Route
 have gc := hP ▸ c_slices_Grow_api_Route_api_Route
 clear hP
 generalize llh : l.map encRts = ll at *
 have lln : Λ ll = l.length := by rw [Λo, ← llh]; simp
 conv => cbv
 repeat' first | exact gu | exact trivial | refine And.intro ?_ ?_ | (intro hc; exact absurd hc (by decide)) | (intro hc; exfalso; omega) | (intro hc; (first | rw [wrap_small (by omega) (by omega)] at hc | rw [nI_eq] at hc | skip); try (conv => cbv))
 refine loop_up l.length (fun (s : Int × Int) => [(0, .c (.d (.list false 1 ll))), (3, iA s.2), (9, .c (.d (.list false 1 ll))), (10, iA (Λ ll)), (11, iA s.1)]) (fun _ => []) (fun k s => s.1 = k ∧ k ≤ l.length ∧ s.2 = sumLenR (l.take k)) (0, 0) (Wk.cw) ⟨rfl, by omega, by simp [sumLenR]⟩ (fun k s h => h.2.1) ?_
 rintro k ⟨i, sz⟩ Q' ⟨hi, hk, hsz⟩ norm ex rt
 simp only at hi hsz
 have hle := sumLenR_le l k
 by_cases hlt : k < l.length
 ·obtain ⟨x, hx⟩ : ∃ x, l[k]? = some x := ⟨_, List.getElem?_eq_getElem hlt⟩
  have hxa := elt_at llh hi hx
  have hst := sumLenR_take hx
  have hle2 := sumLenR_le l (k + 1)
  simp only [encRts, rtsD] at hxa
  generalize xlh : List.map encRt x = xl at *
  have xln : Λ xl = x.length := by rw [Λo, ← xlh]; simp
  conv => cbv
  repeat' first | (refine ex _ _ _ ?_; (conv => cbv)) | (refine rt _ _ ?_; (conv => cbv)) | (intro e he; cases Option.some.inj (he.symm.trans hxa); (conv => cbv)) | exact gu | exact trivial | refine And.intro ?_ ?_ | (intro hc; exact absurd hc (by decide)) | (intro hc; exfalso; omega) | (intro hc; (first | rw [wrap_small (by omega) (by omega)] at hc | rw [nI_eq] at hc | skip); try (conv => cbv))
  refine norm _ _ (_, _) ?_ (Wk.cw)
  exact ⟨by simp only; omega, by omega, by simp only; omega⟩
 ·conv => cbv
  repeat' first | (refine ex _ _ _ ?_; (conv => cbv)) | (refine rt _ _ ?_; (conv => cbv)) | exact gu | exact trivial | refine And.intro ?_ ?_ | (intro hc; exact absurd hc (by decide)) | (intro hc; exfalso; omega) | (intro hc; (first | rw [wrap_small (by omega) (by omega)] at hc | rw [nI_eq] at hc | skip); try (conv => cbv))
  clear norm ex rt
  rw [List.take_of_length_le (by omega)] at hsz
  refine call_in gm gf gc (Nat.le_of_ble_eq_true rfl) fun Λ' Λo' => ?_
  have hΛ0 : Λ' [] = 0 := by rw [Λo']; rfl
  conv => cbv
  repeat' first | exact gu | exact trivial | refine And.intro ?_ ?_ | (intro hc; exact absurd hc (by decide)) | (intro hc; exfalso; omega) | (intro hc; (first | rw [wrap_small (by omega) (by omega)] at hc | rw [nI_eq] at hc | skip); try (conv => cbv))
  all_goals (clear gm gf gc)
  all_goals first
   | refine loop_up l.length (fun (s : Int × Nat × Nat × Bool × List (List D)) => [(6, .c (.arr 0 s.2.1 0 s.2.2.1)), (25, .c (.d (.list false 1 ll))), (26, iA (Λ ll)), (27, iA s.1)]) (fun s => [.da s.2.2.2.1 s.2.1 3 s.2.2.2.2]) (fun k s => s.1 = k ∧ k ≤ l.length ∧ s.2.2.1 = sumLenR (l.take k) ∧ s.2.2.2.2.take s.2.2.1 = (l.take k).flatten.map encRt) (0, 0, _, _, _) (Wk.cw) ⟨rfl, by omega, ?_, ?_⟩ (fun k s h => h.2.1) ?_
   | refine loop_up l.length (fun (s : Int × Nat × Nat × Bool × List (List D)) => [(6, .c (.arr 0 s.2.1 0 s.2.2.1)), (25, .c (.d (.list false 1 ll))), (26, iA (Λ ll)), (27, iA s.1)]) (fun s => [.da s.2.2.2.1 s.2.1 3 s.2.2.2.2]) (fun k s => s.1 = k ∧ k ≤ l.length ∧ s.2.2.1 = sumLenR (l.take k) ∧ s.2.2.2.2.take s.2.2.1 = (l.take k).flatten.map encRt) (0, 0, 0, false, []) (.trans (.nilS 6 3 rfl) (Wk.cw)) ⟨rfl, by omega, rfl, rfl⟩ (fun k s h => h.2.1) ?_
  ·rename_i n0 hn0; rw [show n0 = 0 by omega]; rfl
  ·rename_i n0 hn0; rw [show n0 = 0 by omega]; rfl
  all_goals clear hle hlt hi hk
  all_goals rintro k ⟨i, v, n, r, es⟩ Q' ⟨hi, hk, hn, hes⟩ norm ex rt
  all_goals simp only at hi hes hn
  all_goals have hle := sumLenR_le l k
  all_goals by_cases hlt : k < l.length
  case pos | pos =>
   obtain ⟨x, hx⟩ : ∃ x, l[k]? = some x := ⟨_, List.getElem?_eq_getElem hlt⟩
   have hxa := elt_at llh hi hx
   have hst := sumLenR_take hx
   have hle2 := sumLenR_le l (k + 1)
   simp only [encRts, rtsD] at hxa
   generalize xlh : List.map encRt x = xl at *
   have xln : Λ xl = x.length := by rw [Λo, ← xlh]; simp
   have xll : xl.length = x.length := by rw [← xlh]; simp
   conv => cbv
   repeat' first | (refine ex _ _ _ ?_; (conv => cbv)) | (refine rt _ _ ?_; (conv => cbv)) | (intro e he; cases Option.some.inj (he.symm.trans hxa); (conv => cbv)) | (intro (_ : Unit); refine ⟨rfl, ?_⟩; rw [xll]; omega) | exact gu | exact trivial | refine And.intro ?_ ?_ | (intro hc; exact absurd hc (by decide)) | (intro hc; exfalso; omega) | (intro hc; (first | rw [wrap_small (by omega) (by omega)] at hc | rw [nI_eq] at hc | skip); try (conv => cbv))
   rename_i m r' es' hm hr he' _
   refine norm _ _ (_, _, _, _, _) ?_ (Wk.cw)
   refine ⟨by simp only; omega, by omega, by simp only; omega, ?_⟩
   simp only
   rw [hm, he', take_succ_get hx, List.drop_zero, xll, hes, ← xlh]
   have : n = (List.map encRt (List.take k l).flatten).length := by rw [List.length_map, flat_lenR]; exact hn
   rw [List.take_of_length_le (by simp only [List.length_append, List.length_map] at this ⊢; omega)]
   simp
  all_goals
   conv => cbv
   repeat' first | (refine ex _ _ _ ?_; (conv => cbv)) | (refine rt _ _ ?_; (conv => cbv)) | exact gu | exact trivial | refine And.intro ?_ ?_ | (intro hc; exact absurd hc (by decide)) | (intro hc; exfalso; omega) | (intro hc; (first | rw [wrap_small (by omega) (by omega)] at hc | rw [nI_eq] at hc | skip); try (conv => cbv))
   rename_i ls
   have : ls = l.flatten.map encRt := by rw [hc, List.drop_zero, hes, List.take_of_length_le (by omega)]
   subst this
   exact hK
end Go.Ab

/-
  Compressing: the program's Equal.
-/
namespace Go.Ab
open Go.Proofs
abbrev twoH (m : Ar) (kx ky : D) : Hp := [.am m, .bx [.d kx], .bx [.d ky], .bx [.ptr 1 0 0 0], .bx [.ptr 2 0 0 0]]
theorem tsame_ok (P : Program) (hP : P = Try.prog) (m : Ar) (kx ky : D) (ta tb : Tri) (Sa Sb : Nat → Prop) (x : Int) (wa : WfTr ta) (wb : WfTr tb) (ha : TrA m kx ta Sa) (hb : TrA m ky tb Sb) (hx : inU x) (va vb : Int) (ea : (encO (lookT x ta none)).2.2.1 = va) (eb : (encO (lookT x tb none)).2.2.1 = vb) :
  FnS P n_compress_Equal_1 [.c (.d (u32D x)), .c (.ptr 3 0 0 0), .c (.ptr 4 0 0 0)] (twoH m kx ky) fun r' h' => r' = bA (decide (va = vb)) ∧ h' = twoH m kx ky := by
 obtain ⟨⟨a1, a2, a3, a4⟩, hza⟩ : ∃ z, encO (lookT x ta none) = z := ⟨_, rfl⟩
 obtain ⟨⟨b1, b2, b3, b4⟩, hzb⟩ : ∃ z, encO (lookT x tb none) = z := ⟨_, rfl⟩
 have la := tlook_ok P hP m kx ta Sa x wa ha hx _ _ _ _ hza
 have lb := tlook_ok P hP m ky tb Sb x wb hb hx _ _ _ _ hzb
 rw [hza] at ea
 rw [hzb] at eb
 simp only at ea eb
 subst ea eb
 clear hza hzb
 refine cut2H 5 rfl ?_
 refine heap_start (hP ▸ mixed) (hP ▸ fn_compress_Equal_1) (hP ▸ c_compress_Equal_1) (Nat.le_of_ble_eq_true rfl) fun Λ Λo K hK => ?_
 clear hP ha hb
 have fin : ∀ b tl, b = decide (a3 = b3) → K (bA b) (.am m :: .bx [.d kx] :: .bx [.d ky] :: .bx [.ptr 1 0 0 0] :: .bx [.ptr 2 0 0 0] :: tl) := fun b tl h => by
  subst h; exact hK _ _ ⟨twoH m kx ky, tl, rfl, rfl, rfl, rfl, rfl, rfl⟩
 clear hK
 simp only [twoH] at *
 conv => cbv
 repeat' first | (refine call_fr [0, 1] la rfl rfl (by decide) (by repeat' first | exact trivial | refine And.intro ?_ ?_ | rfl) rfl rfl ?_; rintro r hc' ⟨rfl, rfl⟩; (conv => cbv)) | (refine call_fr [0, 2] lb rfl rfl (by decide) (by repeat' first | exact trivial | refine And.intro ?_ ?_ | rfl) rfl rfl ?_; rintro r hc' ⟨rfl, rfl⟩; (conv => cbv)) | (left; intro (_ : Unit); (conv => cbv)) | exact gu | exact trivial | refine And.intro ?_ ?_ | (intro hc; exact absurd hc (by decide)) | (intro hc; exfalso; omega) | (intro hc; (first | rw [wrap_small (by omega) (by omega)] at hc | rw [nI_eq] at hc | skip); try (conv => cbv))
 ·exact fin true _ (decide_eq_true (by omega)).symm
 ·exact fin false _ (decide_eq_false (by omega)).symm
theorem beh64 {addr len c d s v : Int} (ha : inU addr) (h0 : 0 ≤ len) (h1 : len ≤ 32) (hc : c = IntKind.u64.wrap addr) (hd : d = 32 - len) (hs : s = IntKind.u64.wrap (1 * 2 ^ min d.toNat IntKind.u64.bits)) (hv : v = IntKind.u64.wrap (c + s)) : v = addr + szP len := by
 have e64 : ∀ d, IntKind.u64.wrap d = d % 18446744073709551616 := fun _ => rfl
 have hb : IntKind.u64.bits = 64 := rfl
 rw [e64] at hc hs hv
 obtain ⟨a0, a1⟩ := ha
 have hm : min d.toNat IntKind.u64.bits = 32 - len.toNat := by rw [hb]; omega
 have hp : (1 : Int) * 2 ^ min d.toNat IntKind.u64.bits = (szP len : Int) := by rw [hm, Int.one_mul, szP]; push_cast; rfl
 rw [hp] at hs
 have hz := szP_le len
 omega
theorem beh_end {p : Pfx} (hv : validP p = true) (hu : inU p.addr) : p.addr + szP p.len ≤ 4294967296 ∧ (p.addr + szP p.len < 4294967296 → behP p = p.addr + szP p.len) ∧ (¬ p.addr + szP p.len < 4294967296 → behP p = 0) := by
 obtain ⟨h0, h1, h2⟩ := valid_spec.1 hv
 obtain ⟨u0, u1⟩ := hu
 have hp := szP_pos p.len
 have hd : (szP p.len : Int) ∣ 4294967296 := by
  have : (szP p.len : Int) ∣ (szP 0 : Int) := by exact_mod_cast szP_dvd (m := 0) (n := p.len) h0
  have e : (szP 0 : Int) = 4294967296 := by rw [szP]; rfl
  rw [e] at this; exact this
 have ha := Int.dvd_of_emod_eq_zero h2
 obtain ⟨c, hc⟩ := hd
 obtain ⟨d, hdd⟩ := ha
 have hle : p.addr + szP p.len ≤ 4294967296 := by
  rw [hdd, hc]
  have hlt : (szP p.len : Int) * d < szP p.len * c := by rw [← hdd, ← hc]; exact u1
  have := Int.lt_of_mul_lt_mul_left hlt (by omega)
  have h3 : (szP p.len : Int) * (d + 1) ≤ szP p.len * c := Int.mul_le_mul_of_nonneg_left (by omega) (by omega)
  rw [Int.mul_add, Int.mul_one] at h3
  exact h3
 refine ⟨hle, fun h => ?_, fun h => ?_⟩
 ·rw [behP]; omega
 ·rw [behP]; omega
end Go.Ab

