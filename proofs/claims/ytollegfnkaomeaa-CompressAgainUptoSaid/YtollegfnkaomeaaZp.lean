/-
  Merged texts, part p.
-/
import Derived.Test.YtollegfnkaomeaaZo
import Derived.KernelRfl
/-
  Compressing, part t: what the law looks at first.
-/
namespace Go.Ab
open Go.Proofs
theorem few_ok (P : Program) (hP : P = Try.prog) (l : List Rt) : Ret P n_law06_few [rtsA l] (bA (decide (l.length ≤ 20))) := by
 refine ret_start (hP ▸ mixed) (hP ▸ fn_law06_few) (hP ▸ c_law06_few) (Nat.le_of_ble_eq_true rfl) fun Λ Λo K hK => ?_
 clear hP
 have yes : l.length ≤ 20 → K (bA true) := fun h => by rw [decide_eq_true h] at hK; exact hK
 have no : ¬ l.length ≤ 20 → K (bA false) := fun h => by rw [decide_eq_false h] at hK; exact hK
 clear hK
 simp only [rtsA, rtsD] at *
 generalize rlh : l.map encRt = rl at *
 have rln : Λ rl = l.length := by rw [Λo, ← rlh]; simp
 conv => cbv
 repeat' first | exact gu | exact trivial | refine And.intro ?_ ?_ | (intro hc; exact absurd hc (by decide)) | (intro hc; exfalso; omega) | (intro hc; (first | rw [wrap_small (by omega) (by omega)] at hc | rw [nI_eq] at hc | skip); try (conv => cbv))
 all_goals first | exact yes (by omega) | exact no (by omega)
theorem route_at (P : Program) (hP : P = Try.prog) (a b n v z : Int)
  (hz : ∀ x y u w, x = IntKind.u32.wrap a → u = IntKind.u32.wrap (x * 2 ^ min (Int.toNat 24) IntKind.u32.bits) → y = IntKind.u32.wrap b → w = IntKind.u32.wrap (y * 2 ^ min (Int.toNat 16) IntKind.u32.bits) → binD BinOp.or (D.int IntKind.u32 u) (D.int IntKind.u32 w) = some (.int .u32 z)) :
  Ret P n_law06_route [iA a, iA b, iA n, iA v] (.agg [.d (u32D z), .d (iD n), .d (iD v)]) := by
 refine ret_start (hP ▸ mixed) (hP ▸ fn_law06_route) (hP ▸ c_law06_route) (Nat.le_of_ble_eq_true rfl) fun Λ Λo K hK => ?_
 clear hP
 conv => cbv
 repeat' first | (refine ⟨.int .u32 z, hz _ _ _ _ (by assumption) (by assumption) (by assumption) (by assumption), ?_⟩; intro d' hd; subst hd; (conv => cbv)) | exact gu | exact trivial | refine And.intro ?_ ?_ | (intro hc; exact absurd hc (by decide)) | (intro hc; exfalso; omega) | (intro hc; (first | rw [wrap_small (by omega) (by omega)] at hc | rw [nI_eq] at hc | skip); try (conv => cbv))
 exact hK
theorem route_z {a b z : Int} (h : binD BinOp.or (D.int IntKind.u32 (IntKind.u32.wrap (IntKind.u32.wrap a * 2 ^ min (Int.toNat 24) IntKind.u32.bits))) (D.int IntKind.u32 (IntKind.u32.wrap (IntKind.u32.wrap b * 2 ^ min (Int.toNat 16) IntKind.u32.bits))) = some (.int .u32 z)) :
  ∀ x y u w, x = IntKind.u32.wrap a → u = IntKind.u32.wrap (x * 2 ^ min (Int.toNat 24) IntKind.u32.bits) → y = IntKind.u32.wrap b → w = IntKind.u32.wrap (y * 2 ^ min (Int.toNat 16) IntKind.u32.bits) → binD BinOp.or (D.int IntKind.u32 u) (D.int IntKind.u32 w) = some (.int .u32 z) := by
 rintro x y u w rfl rfl rfl rfl
 exact h
theorem comp_1 : compS [⟨⟨167772160, 9⟩, 1⟩, ⟨⟨176160768, 9⟩, 1⟩, ⟨⟨171966464, 10⟩, 2⟩] = [⟨⟨167772160, 8⟩, 1⟩, ⟨⟨171966464, 10⟩, 2⟩] := by kernel_rfl
theorem comp_2 : compS [⟨⟨0, 1⟩, 1⟩, ⟨⟨2147483648, 1⟩, 2⟩] = [⟨⟨0, 0⟩, 1⟩, ⟨⟨2147483648, 1⟩, 2⟩] := by kernel_rfl
set_option maxHeartbeats 2000000 in
theorem awake_ok (P : Program) (hP : P = Try.prog) : Ret P n_law06_awake [] (bA true) := by
 have r1 := route_at P hP 10 0 9 1 167772160 (route_z (by kernel_rfl))
 have r2 := route_at P hP 10 128 9 1 176160768 (route_z (by kernel_rfl))
 have r3 := route_at P hP 10 64 10 2 171966464 (route_z (by kernel_rfl))
 have r4 := route_at P hP 0 0 1 1 0 (route_z (by kernel_rfl))
 have r5 := route_at P hP 128 0 1 2 2147483648 (route_z (by kernel_rfl))
 have r6 := route_at P hP 10 0 8 1 167772160 (route_z (by kernel_rfl))
 have c1 := compress_ok P hP [⟨⟨167772160, 9⟩, 1⟩, ⟨⟨176160768, 9⟩, 1⟩, ⟨⟨171966464, 10⟩, 2⟩] (by intro r hr; simp only [List.mem_cons, List.not_mem_nil, or_false] at hr; rcases hr with rfl | rfl | rfl <;> exact ⟨⟨by decide, by decide⟩, by decide, by decide⟩) (by decide)
 have c2 := compress_ok P hP [⟨⟨0, 1⟩, 1⟩, ⟨⟨2147483648, 1⟩, 2⟩] (by intro r hr; simp only [List.mem_cons, List.not_mem_nil, or_false] at hr; rcases hr with rfl | rfl <;> exact ⟨⟨by decide, by decide⟩, by decide, by decide⟩) (by decide)
 rw [comp_1, show validR [⟨⟨167772160, 9⟩, 1⟩, ⟨⟨176160768, 9⟩, 1⟩, ⟨⟨171966464, 10⟩, 2⟩] = true by kernel_rfl] at c1
 rw [comp_2, show validR [⟨⟨0, 1⟩, 1⟩, ⟨⟨2147483648, 1⟩, 2⟩] = true by kernel_rfl] at c2
 simp only [if_true, rtsA, rtsD, encRt, List.map_cons, List.map_nil] at c1 c2
 refine ret_start (hP ▸ mixed) (hP ▸ fn_law06_awake) (hP ▸ c_law06_awake) (Nat.le_of_ble_eq_true rfl) fun Λ Λo K hK => ?_
 clear hP
 have l1 : Λ [[.int .u32 167772160, .int .i64 8, .int .i64 1], [.int .u32 171966464, .int .i64 10, .int .i64 2]] = 2 := by rw [Λo]; rfl
 have l2 : Λ [[.int .u32 0, .int .i64 0, .int .i64 1], [.int .u32 2147483648, .int .i64 1, .int .i64 2]] = 2 := by rw [Λo]; rfl
 have e0 : ([[.int .u32 167772160, .int .i64 8, .int .i64 1], [.int .u32 171966464, .int .i64 10, .int .i64 2]] : List (List D))[Int.toNat 0]? = some [.int .u32 167772160, .int .i64 8, .int .i64 1] := rfl
 have e1 : ([[.int .u32 167772160, .int .i64 8, .int .i64 1], [.int .u32 171966464, .int .i64 10, .int .i64 2]] : List (List D))[Int.toNat 1]? = some [.int .u32 171966464, .int .i64 10, .int .i64 2] := rfl
 conv => cbv
 repeat' first | (refine call_r r1 rfl rfl ?_; conv => cbv) | (refine call_r r2 rfl rfl ?_; conv => cbv) | (refine call_r r3 rfl rfl ?_; conv => cbv) | (refine call_r r4 rfl rfl ?_; conv => cbv) | (refine call_r r5 rfl rfl ?_; conv => cbv) | (refine call_r r6 rfl rfl ?_; conv => cbv) | (refine call_r c1 rfl rfl ?_; conv => cbv) | (refine call_r c2 rfl rfl ?_; conv => cbv) | (refine call_z 0 0 3 3 rfl rfl (by repeat' first | exact trivial | refine And.intro ?_ ?_ | rfl) (by repeat' first | exact trivial | refine And.intro ?_ ?_ | rfl) ?_; conv => cbv) | (refine call_z 1 0 3 2 rfl rfl (by repeat' first | exact trivial | refine And.intro ?_ ?_ | rfl) (by repeat' first | exact trivial | refine And.intro ?_ ?_ | rfl) ?_; conv => cbv) | (intro (e : List D) he; cases Option.some.inj (he.symm.trans e0); (conv => cbv)) | (intro (e : List D) he; cases Option.some.inj (he.symm.trans e1); (conv => cbv)) | exact gu | exact trivial | refine And.intro ?_ ?_ | (intro hc; exact absurd hc (by decide)) | (intro hc; exfalso; omega) | (intro hc; (first | rw [wrap_small (by omega) (by omega)] at hc | rw [nI_eq] at hc | skip); try (conv => cbv))
 exact hK
end Go.Ab

/-
  Compressing, part u: the laws Effect and Least.
-/
namespace Go.Ab
open Go.Proofs
theorem tbl_comp {l : List Rt} (h : validR l = true) : compS l = tblS l := if_pos h
end Go.Ab

/-
  Compressing, part v: the laws Again and Order.
-/
namespace Go.Ab
open Go.Proofs
set_option maxHeartbeats 8000000 in
theorem again_law (P : Program) (hP : P = Try.prog) (l : List Rt) (p : Pfx) (hu : InR l) (hpu : inU p.addr) : Ret P n_law06_CompressAgain [rtsA l, pfA p] (bA true) := by
 have haw := awake_ok P hP
 have hfw := few_ok P hP l
 have hvr := rvalidR_ok P hP l fun r hr => (hu r hr).1
 by_cases hf : l.length ≤ 20
 ·rw [decide_eq_true hf] at hfw
  cases hv : validR l with
  | false =>
   rw [hv] at hvr
   refine ret_start (hP ▸ mixed) (hP ▸ fn_law06_CompressAgain) (hP ▸ c_law06_CompressAgain) (Nat.le_of_ble_eq_true rfl) fun Λ Λo K hK => ?_
   clear hP
   simp only [rtsA, rtsD, pfA] at *
   generalize l.map encRt = rl at *
   obtain ⟨pa, pl⟩ := p
   conv => cbv
   repeat' first | refine call_b haw rfl rfl ?_ ?_ | refine call_b hfw rfl rfl ?_ ?_ | refine call_b hvr rfl rfl ?_ ?_ | (intro hc; cases hc; done) | exact gu | exact trivial | refine And.intro ?_ ?_ | (intro hc; exact absurd hc (by decide)) | (intro hc; exfalso; omega) | (intro hc; (first | rw [wrap_small (by omega) (by omega)] at hc | rw [nI_eq] at hc | skip); try (conv => cbv))
   exact hK
  | true =>
   have hco := compress_ok P hP l hu (by omega)
   have hte := tbl_le hu hv
   have hti := tbl_in hu hv
   have htv := tbl_valid hu hv
   have hco2 := compress_ok P hP (tblS l) hti (by omega)
   rw [htv, tbl_comp htv] at hco2
   rw [hv, tbl_comp hv] at hco
   rw [hv] at hvr
   have hln : (tblS (tblS l)).length = (tblS l).length := tbl_same hti htv hu hv fun x hx => tbl_look hu hv hx
   have hlk := look06_ok P hP l p.addr (fun r hr => (hu r hr).1) hpu
   rw [if_pos hv] at hlk
   obtain ⟨M, hM⟩ : ∃ M, M = l ++ [⟨p, lookR l p.addr⟩] := ⟨_, rfl⟩
   have hlv : -9223372036854775808 ≤ lookR l p.addr ∧ lookR l p.addr ≤ 9223372036854775807 := by
    have h := isB_find l p.addr
    rw [lookR]
    cases hfd : findR l p.addr with
    | none => decide
    | some r => rw [hfd] at h; exact (hu r h.1).2
   have hMu : InR M := fun r hr => by
    rw [hM, List.mem_append, List.mem_singleton] at hr
    rcases hr with h | rfl
    ·exact hu r h
    ·exact ⟨hpu, hlv⟩
   have hMl : M.length = l.length + 1 := by rw [hM]; simp
   have hMe : M.map encRt = l.map encRt ++ [[u32D p.addr, iD p.len, iD (lookR l p.addr)]] := by rw [hM, List.map_append]; rfl
   have hvM := rvalidR_ok P hP M fun r hr => (hMu r hr).1
   have heM := equal06_ok P hP l M (fun r hr => (hu r hr).1) (fun r hr => (hMu r hr).1) (by omega) (by omega)
   have hcM := compress_ok P hP M hMu (by omega)
   have hsM : validR M = true → sameS l M = true → (tblS M).length = (tblS l).length := fun h1 h2 =>
    (tbl_same hu hv hMu h1 (same_all (fun r hr => (hu r hr).1) hv (fun r hr => (hMu r hr).1) h1 h2)).symm
   rw [hv] at heM
   clear hM
   refine ret_start (hP ▸ mixed) (hP ▸ fn_law06_CompressAgain) (hP ▸ c_law06_CompressAgain) (Nat.le_of_ble_eq_true rfl) fun Λ Λo K hK => ?_
   clear hP
   obtain ⟨pa, pl⟩ := p
   simp only [rtsA, rtsD, if_true, pfA, Bool.true_and] at *
   generalize lookR l pa = w at *
   generalize tblS (tblS l) = U at *
   generalize tblS l = T at *
   generalize rlh : l.map encRt = rl at *
   generalize tlh : T.map encRt = tl at *
   generalize ulh : U.map encRt = ul at *
   have tln : Λ tl = T.length := by rw [Λo, ← tlh]; simp
   have uln : Λ ul = U.length := by rw [Λo, ← ulh]; simp
   have rll : rl.length = l.length := by rw [← rlh]; simp
   have rln : Λ rl = l.length := by rw [Λo, ← rlh]; simp
   generalize mlh : M.map encRt = ml at *
   have mll : ml.length = l.length + 1 := by rw [← mlh, List.length_map, hMl]
   have K1 : K (bA true) := hK
   cases hvm : validR M with
   | false =>
    rw [hvm] at hvM
    conv => cbv
    repeat' first | refine call_b haw rfl rfl ?_ ?_ | refine call_b hfw rfl rfl ?_ ?_ | refine call_b hvr rfl rfl ?_ ?_ | (intro hc; cases hc; done) | (refine call_r hco rfl rfl ?_; conv => cbv) | (refine call_r hco2 rfl rfl ?_; conv => cbv) | (refine call_r hlk rfl rfl ?_; conv => cbv) | exact gu | exact trivial | refine And.intro ?_ ?_ | (intro hc; exact absurd hc (by decide)) | (intro hc; exfalso; omega) | (intro hc; (first | rw [wrap_small (by omega) (by omega)] at hc | rw [nI_eq] at hc | skip); try (conv => cbv))
    rename_i n1 b1 e1 hn1 hb1 he1 n2 b2 e2 hn2 hb2
    have he2 := hc
    obtain rfl : e2 = ml := by rw [he2, he1, hMe]; simp only [List.drop_zero, List.take_nil, List.nil_append]; rw [List.take_of_length_le (by rw [hn1, rll]; simp)]
    have hn3 : n2 = e2.length := by rw [hn2, hn1, mll, rll]; simp
    (refine call_z 1 (2) 3 n2 rfl hn3 (by simp [okL, okA, okCs, okC, bq_lit]) (by first | (simp [okH, okB, okCs, okC]; done) | simp [okH, okB, okCs, okC, bq_lit]) ?_; simp only [zL, zA, zCs, zC, zH, zB, bq_self, bq_old]; conv => cbv)
    repeat' first | refine call_b hvM rfl rfl ?_ ?_ | (intro hc; cases hc; done) | exact gu | exact trivial | refine And.intro ?_ ?_ | (intro hc; exact absurd hc (by decide)) | (intro hc; exfalso; omega) | (intro hc; (first | rw [wrap_small (by omega) (by omega)] at hc | rw [nI_eq] at hc | skip); try (conv => cbv))
    exact hK
   | true =>
    rw [hvm] at hvM heM hcM
    rw [tbl_comp hvm] at hcM
    have hsM := hsM hvm
    simp only [if_true, Bool.true_and] at heM hcM
    generalize tblS M = W at *
    generalize wlh : W.map encRt = wl at *
    have wln : Λ wl = W.length := by rw [Λo, ← wlh]; simp
    cases hsm : sameS l M with
    | false =>
     rw [hsm] at heM
     conv => cbv
     repeat' first | refine call_b haw rfl rfl ?_ ?_ | refine call_b hfw rfl rfl ?_ ?_ | refine call_b hvr rfl rfl ?_ ?_ | (intro hc; cases hc; done) | (refine call_r hco rfl rfl ?_; conv => cbv) | (refine call_r hco2 rfl rfl ?_; conv => cbv) | (refine call_r hlk rfl rfl ?_; conv => cbv) | exact gu | exact trivial | refine And.intro ?_ ?_ | (intro hc; exact absurd hc (by decide)) | (intro hc; exfalso; omega) | (intro hc; (first | rw [wrap_small (by omega) (by omega)] at hc | rw [nI_eq] at hc | skip); try (conv => cbv))
     rename_i n1 b1 e1 hn1 hb1 he1 n2 b2 e2 hn2 hb2
     have he2 := hc
     obtain rfl : e2 = ml := by rw [he2, he1, hMe]; simp only [List.drop_zero, List.take_nil, List.nil_append]; rw [List.take_of_length_le (by rw [hn1, rll]; simp)]
     have hn3 : n2 = e2.length := by rw [hn2, hn1, mll, rll]; simp
     (refine call_z 1 (2) 3 n2 rfl hn3 (by simp [okL, okA, okCs, okC, bq_lit]) (by first | (simp [okH, okB, okCs, okC]; done) | simp [okH, okB, okCs, okC, bq_lit]) ?_; simp only [zL, zA, zCs, zC, zH, zB, bq_self, bq_old]; conv => cbv)
     repeat' first | refine call_b hvM rfl rfl ?_ ?_ | (intro hc; cases hc; done) | (refine call_r heM rfl rfl ?_; conv => cbv) | exact gu | exact trivial | refine And.intro ?_ ?_ | (intro hc; exact absurd hc (by decide)) | (intro hc; exfalso; omega) | (intro hc; (first | rw [wrap_small (by omega) (by omega)] at hc | rw [nI_eq] at hc | skip); try (conv => cbv))
     exact hK
    | true =>
     rw [hsm] at heM
     have hsM := hsM hsm
     conv => cbv
     repeat' first | refine call_b haw rfl rfl ?_ ?_ | refine call_b hfw rfl rfl ?_ ?_ | refine call_b hvr rfl rfl ?_ ?_ | (intro hc; cases hc; done) | (refine call_r hco rfl rfl ?_; conv => cbv) | (refine call_r hco2 rfl rfl ?_; conv => cbv) | (refine call_r hlk rfl rfl ?_; conv => cbv) | exact gu | exact trivial | refine And.intro ?_ ?_ | (intro hc; exact absurd hc (by decide)) | (intro hc; exfalso; omega) | (intro hc; (first | rw [wrap_small (by omega) (by omega)] at hc | rw [nI_eq] at hc | skip); try (conv => cbv))
     rename_i n1 b1 e1 hn1 hb1 he1 n2 b2 e2 hn2 hb2
     have he2 := hc
     obtain rfl : e2 = ml := by rw [he2, he1, hMe]; simp only [List.drop_zero, List.take_nil, List.nil_append]; rw [List.take_of_length_le (by rw [hn1, rll]; simp)]
     have hn3 : n2 = e2.length := by rw [hn2, hn1, mll, rll]; simp
     (refine call_z 1 (2) 3 n2 rfl hn3 (by simp [okL, okA, okCs, okC, bq_lit]) (by first | (simp [okH, okB, okCs, okC]; done) | simp [okH, okB, okCs, okC, bq_lit]) ?_; simp only [zL, zA, zCs, zC, zH, zB, bq_self, bq_old]; conv => cbv)
     repeat' first | refine call_b hvM rfl rfl ?_ ?_ | (intro hc; cases hc; done) | (refine call_r heM rfl rfl ?_; conv => cbv) | (refine call_r hcM rfl rfl ?_; conv => cbv) | exact gu | exact trivial | refine And.intro ?_ ?_ | (intro hc; exact absurd hc (by decide)) | (intro hc; exfalso; omega) | (intro hc; (first | rw [wrap_small (by omega) (by omega)] at hc | rw [nI_eq] at hc | skip); try (conv => cbv))
     all_goals exact hK
 ·rw [decide_eq_false hf] at hfw
  refine ret_start (hP ▸ mixed) (hP ▸ fn_law06_CompressAgain) (hP ▸ c_law06_CompressAgain) (Nat.le_of_ble_eq_true rfl) fun Λ Λo K hK => ?_
  clear hP
  simp only [rtsA, rtsD, pfA] at *
  generalize l.map encRt = rl at *
  obtain ⟨pa, pl⟩ := p
  conv => cbv
  repeat' first | refine call_b haw rfl rfl ?_ ?_ | refine call_b hfw rfl rfl ?_ ?_ | (intro hc; cases hc; done) | exact gu | exact trivial | refine And.intro ?_ ?_ | (intro hc; exact absurd hc (by decide)) | (intro hc; exfalso; omega) | (intro hc; (first | rw [wrap_small (by omega) (by omega)] at hc | rw [nI_eq] at hc | skip); try (conv => cbv))
  exact hK
end Go.Ab

