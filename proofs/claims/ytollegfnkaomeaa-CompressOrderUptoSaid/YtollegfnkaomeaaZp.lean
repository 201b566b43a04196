/-
  Merged texts, part p.
-/
import Derived.Test.YtollegfnkaomeaaZo
import Derived.KernelRfl
/-
  Compressing, part t: what the law looks at first.
-/
namespace Go.Ab
open Go.Proofs
theorem few_ok (P : Program) (hP : P = Try.prog) (l : List Rt) : Ret P n_law06_few [rtsA l] (bA (decide (l.length ≤ 20))) := by
 refine ret_start (hP ▸ mixed) (hP ▸ fn_law06_few) (hP ▸ c_law06_few) (Nat.le_of_ble_eq_true rfl) fun Λ Λo K hK => ?_
 clear hP
 have yes : l.length ≤ 20 → K (bA true) := fun h => by rw [decide_eq_true h] at hK; exact hK
 have no : ¬ l.length ≤ 20 → K (bA false) := fun h => by rw [decide_eq_false h] at hK; exact hK
 clear hK
 simp only [rtsA, rtsD] at *
 generalize rlh : l.map encRt = rl at *
 have rln : Λ rl = l.length := by rw [Λo, ← rlh]; simp
 conv => cbv
 repeat' first | exact gu | exact trivial | refine And.intro ?_ ?_ | (intro hc; exact absurd hc (by decide)) | (intro hc; exfalso; omega) | (intro hc; (first | rw [wrap_small (by omega) (by omega)] at hc | rw [nI_eq] at hc | skip); try (conv => cbv))
 all_goals first | exact yes (by omega) | exact no (by omega)
theorem route_at (P : Program) (hP : P = Try.prog) (a b n v z : Int)
  (hz : ∀ x y u w, x = IntKind.u32.wrap a → u = IntKind.u32.wrap (x * 2 ^ min (Int.toNat 24) IntKind.u32.bits) → y = IntKind.u32.wrap b → w = IntKind.u32.wrap (y * 2 ^ min (Int.toNat 16) IntKind.u32.bits) → binD BinOp.or (D.int IntKind.u32 u) (D.int IntKind.u32 w) = some (.int .u32 z)) :
  Ret P n_law06_route [iA a, iA b, iA n, iA v] (.agg [.d (u32D z), .d (iD n), .d (iD v)]) := by
 refine ret_start (hP ▸ mixed) (hP ▸ fn_law06_route) (hP ▸ c_law06_route) (Nat.le_of_ble_eq_true rfl) fun Λ Λo K hK => ?_
 clear hP
 conv => cbv
 repeat' first | (refine ⟨.int .u32 z, hz _ _ _ _ (by assumption) (by assumption) (by assumption) (by assumption), ?_⟩; intro d' hd; subst hd; (conv => cbv)) | exact gu | exact trivial | refine And.intro ?_ ?_ | (intro hc; exact absurd hc (by decide)) | (intro hc; exfalso; omega) | (intro hc; (first | rw [wrap_small (by omega) (by omega)] at hc | rw [nI_eq] at hc | skip); try (conv => cbv))
 exact hK
theorem route_z {a b z : Int} (h : binD BinOp.or (D.int IntKind.u32 (IntKind.u32.wrap (IntKind.u32.wrap a * 2 ^ min (Int.toNat 24) IntKind.u32.bits))) (D.int IntKind.u32 (IntKind.u32.wrap (IntKind.u32.wrap b * 2 ^ min (Int.toNat 16) IntKind.u32.bits))) = some (.int .u32 z)) :
  ∀ x y u w, x = IntKind.u32.wrap a → u = IntKind.u32.wrap (x * 2 ^ min (Int.toNat 24) IntKind.u32.bits) → y = IntKind.u32.wrap b → w = IntKind.u32.wrap (y * 2 ^ min (Int.toNat 16) IntKind.u32.bits) → binD BinOp.or (D.int IntKind.u32 u) (D.int IntKind.u32 w) = some (.int .u32 z) := by
 rintro x y u w rfl rfl rfl rfl
 exact h
theorem comp_1 : compS [⟨⟨167772160, 9⟩, 1⟩, ⟨⟨176160768, 9⟩, 1⟩, ⟨⟨171966464, 10⟩, 2⟩] = [⟨⟨167772160, 8⟩, 1⟩, ⟨⟨171966464, 10⟩, 2⟩] := by kernel_rfl
theorem comp_2 : compS [⟨⟨0, 1⟩, 1⟩, ⟨⟨2147483648, 1⟩, 2⟩] = [⟨⟨0, 0⟩, 1⟩, ⟨⟨2147483648, 1⟩, 2⟩] := by kernel_rfl
set_option maxHeartbeats 2000000 in
theorem awake_ok (P : Program) (hP : P = Try.prog) : Ret P n_law06_awake [] (bA true) := by
 have r1 := route_at P hP 10 0 9 1 167772160 (route_z (by kernel_rfl))
 have r2 := route_at P hP 10 128 9 1 176160768 (route_z (by kernel_rfl))
 have r3 := route_at P hP 10 64 10 2 171966464 (route_z (by kernel_rfl))
 have r4 := route_at P hP 0 0 1 1 0 (route_z (by kernel_rfl))
 have r5 := route_at P hP 128 0 1 2 2147483648 (route_z (by kernel_rfl))
 have r6 := route_at P hP 10 0 8 1 167772160 (route_z (by kernel_rfl))
 have c1 := compress_ok P hP [⟨⟨167772160, 9⟩, 1⟩, ⟨⟨176160768, 9⟩, 1⟩, ⟨⟨171966464, 10⟩, 2⟩] (by intro r hr; simp only [List.mem_cons, List.not_mem_nil, or_false] at hr; rcases hr with rfl | rfl | rfl <;> exact ⟨⟨by decide, by decide⟩, by decide, by decide⟩) (by decide)
 have c2 := compress_ok P hP [⟨⟨0, 1⟩, 1⟩, ⟨⟨2147483648, 1⟩, 2⟩] (by intro r hr; simp only [List.mem_cons, List.not_mem_nil, or_false] at hr; rcases hr with rfl | rfl <;> exact ⟨⟨by decide, by decide⟩, by decide, by decide⟩) (by decide)
 rw [comp_1, show validR [⟨⟨167772160, 9⟩, 1⟩, ⟨⟨176160768, 9⟩, 1⟩, ⟨⟨171966464, 10⟩, 2⟩] = true by kernel_rfl] at c1
 rw [comp_2, show validR [⟨⟨0, 1⟩, 1⟩, ⟨⟨2147483648, 1⟩, 2⟩] = true by kernel_rfl] at c2
 simp only [if_true, rtsA, rtsD, encRt, List.map_cons, List.map_nil] at c1 c2
 refine ret_start (hP ▸ mixed) (hP ▸ fn_law06_awake) (hP ▸ c_law06_awake) (Nat.le_of_ble_eq_true rfl) fun Λ Λo K hK => ?_
 clear hP
 have l1 : Λ [[.int .u32 167772160, .int .i64 8, .int .i64 1], [.int .u32 171966464, .int .i64 10, .int .i64 2]] = 2 := by rw [Λo]; rfl
 have l2 : Λ [[.int .u32 0, .int .i64 0, .int .i64 1], [.int .u32 2147483648, .int .i64 1, .int .i64 2]] = 2 := by rw [Λo]; rfl
 have e0 : ([[.int .u32 167772160, .int .i64 8, .int .i64 1], [.int .u32 171966464, .int .i64 10, .int .i64 2]] : List (List D))[Int.toNat 0]? = some [.int .u32 167772160, .int .i64 8, .int .i64 1] := rfl
 have e1 : ([[.int .u32 167772160, .int .i64 8, .int .i64 1], [.int .u32 171966464, .int .i64 10, .int .i64 2]] : List (List D))[Int.toNat 1]? = some [.int .u32 171966464, .int .i64 10, .int .i64 2] := rfl
 conv => cbv
 repeat' first | (refine call_r r1 rfl rfl ?_; conv => cbv) | (refine call_r r2 rfl rfl ?_; conv => cbv) | (refine call_r r3 rfl rfl ?_; conv => cbv) | (refine call_r r4 rfl rfl ?_; conv => cbv) | (refine call_r r5 rfl rfl ?_; conv => cbv) | (refine call_r r6 rfl rfl ?_; conv => cbv) | (refine call_r c1 rfl rfl ?_; conv => cbv) | (refine call_r c2 rfl rfl ?_; conv => cbv) | (refine call_z 0 0 3 3 rfl rfl (by repeat' first | exact trivial | refine And.intro ?_ ?_ | rfl) (by repeat' first | exact trivial | refine And.intro ?_ ?_ | rfl) ?_; conv => cbv) | (refine call_z 1 0 3 2 rfl rfl (by repeat' first | exact trivial | refine And.intro ?_ ?_ | rfl) (by repeat' first | exact trivial | refine And.intro ?_ ?_ | rfl) ?_; conv => cbv) | (intro (e : List D) he; cases Option.some.inj (he.symm.trans e0); (conv => cbv)) | (intro (e : List D) he; cases Option.some.inj (he.symm.trans e1); (conv => cbv)) | exact gu | exact trivial | refine And.intro ?_ ?_ | (intro hc; exact absurd hc (by decide)) | (intro hc; exfalso; omega) | (intro hc; (first | rw [wrap_small (by omega) (by omega)] at hc | rw [nI_eq] at hc | skip); try (conv => cbv))
 exact hK
end Go.Ab

/-
  Compressing, part u: the laws Effect and Least.
-/
namespace Go.Ab
open Go.Proofs
theorem tbl_comp {l : List Rt} (h : validR l = true) : compS l = tblS l := if_pos h
end Go.Ab

/-
  Compressing, part v: the laws Again and Order.
-/
namespace Go.Ab
open Go.Proofs
set_option maxHeartbeats 8000000 in
theorem order_law (P : Program) (hP : P = Try.prog) (l : List Rt) (n : Int) (hu : InR l) : Ret P n_law06_CompressOrder [rtsA l, iA n] (bA true) := by
 have haw := awake_ok P hP
 have hfw := few_ok P hP l
 have hvr := rvalidR_ok P hP l fun r hr => (hu r hr).1
 by_cases hf : l.length ≤ 20
 ·rw [decide_eq_true hf] at hfw
  by_cases hok : validR l = true ∧ 0 ≤ n ∧ n ≤ l.length
  ·obtain ⟨hv, hn0, hnl⟩ := hok
   have hco := compress_ok P hP l hu (by omega)
   rw [hv, tbl_comp hv] at hco
   obtain ⟨M, hM⟩ : ∃ M, M = l.drop n.toNat ++ l.take n.toNat := ⟨_, rfl⟩
   have hMp : M.Perm l := by rw [hM]; exact List.perm_append_comm.trans (by rw [List.take_append_drop])
   have hMu : InR M := fun r hr => hu r (hMp.mem_iff.1 hr)
   obtain ⟨hMv, hMt⟩ := tbl_perm hMp.symm hv
   have hcM := compress_ok P hP M hMu (by rw [hMp.length_eq]; omega)
   rw [hMv, tbl_comp hMv, ← hMt] at hcM
   have hMe : M.map encRt = (l.map encRt).drop n.toNat ++ (l.map encRt).take n.toNat := by rw [hM, List.map_append, List.map_drop, List.map_take]
   have hMl := hMp.length_eq
   rw [hv] at hvr
   clear hM hMp hMu hMv hMt
   refine ret_start (hP ▸ mixed) (hP ▸ fn_law06_CompressOrder) (hP ▸ c_law06_CompressOrder) (Nat.le_of_ble_eq_true rfl) fun Λ Λo K hK => ?_
   clear hP
   simp only [rtsA, rtsD, if_true] at *
   generalize tblS l = T at *
   generalize rlh : l.map encRt = rl at *
   generalize tlh : T.map encRt = tl at *
   have tln : Λ tl = T.length := by rw [Λo, ← tlh]; simp
   have rll : rl.length = l.length := by rw [← rlh]; simp
   have rln : Λ rl = l.length := by rw [Λo, ← rlh]; simp
   generalize mlh : M.map encRt = ml at *
   have mll : ml.length = l.length := by rw [← mlh, List.length_map, hMl]
   have dln : Λ (rl.drop n.toNat) = l.length - n := by rw [Λo, List.length_drop, rll]; omega
   have tkn : Λ (rl.take n.toNat) = n := by rw [Λo, List.length_take, rll]; omega
   conv => cbv
   repeat' first | refine call_b haw rfl rfl ?_ ?_ | refine call_b hfw rfl rfl ?_ ?_ | refine call_b hvr rfl rfl ?_ ?_ | (intro hc; cases hc; done) | (refine call_r hco rfl rfl ?_; conv => cbv) | exact gu | exact trivial | refine And.intro ?_ ?_ | (intro hc; exact absurd hc (by decide)) | (intro hc; exfalso; omega) | (intro hc; (first | rw [wrap_small (by omega) (by omega)] at hc | rw [nI_eq] at hc | skip); try (conv => cbv))
   rename_i n1 b1 e1 hn1 hb1
   obtain rfl : rl = e1 := by rw [hc]; simp
   have hn2 : n1 = rl.length := by omega
   obtain ⟨dl, hdl⟩ : ∃ dl, dl = List.drop n.toNat rl := ⟨_, rfl⟩
   obtain ⟨tk, htk⟩ : ∃ tk, tk = List.take n.toNat rl := ⟨_, rfl⟩
   rw [← hdl] at dln hMe
   rw [← htk] at tkn hMe
   have dll : dl.length + n.toNat = l.length := by rw [hdl, List.length_drop, rll]; omega
   have tkl : tk.length = n.toNat := by rw [htk, List.length_take, rll]; omega
   clear hc
   (refine call_z 0 (1) 3 n1 rfl hn2 (by simp [okL, okA, okCs, okC, bq_lit]) (by first | (simp [okH, okB, okCs, okC]; done) | simp [okH, okB, okCs, okC, bq_lit]) ?_; simp only [zL, zA, zCs, zC, zH, zB, bq_self, bq_old]; conv => cbv)
   repeat' first | (intro hc; cases hc; done) | (refine call_r hco rfl rfl ?_; conv => cbv) | (intro (x : List (List D)) (hx : x = List.drop n.toNat rl); refine (fun (hz : dl = x) => ?_) (hdl.trans hx.symm); subst hz; (conv => cbv)) | (intro (x : List (List D)) (hx : x = List.take n.toNat rl); refine (fun (hz : tk = x) => ?_) (htk.trans hx.symm); subst hz; (conv => cbv)) | exact gu | exact trivial | refine And.intro ?_ ?_ | (intro hc; exact absurd hc (by decide)) | (intro hc; exfalso; omega) | (intro hc; (first | rw [wrap_small (by omega) (by omega)] at hc | rw [nI_eq] at hc | skip); try (conv => cbv))
   rename_i m1 c1 f1 hm1 hc1 hf1 m2 c2 f2 hm2 hc2
   obtain rfl : ml = f2 := by rw [hc, hf1, hMe]; simp only [List.drop_zero, List.take_nil, List.nil_append]; rw [List.take_of_length_le (by rw [hm1]; omega)]
   have hm3 : m2 = ml.length := by omega
   clear hc
   (refine call_z 1 (2) 3 m2 rfl hm3 (by simp [okL, okA, okCs, okC, bq_lit]) (by first | (simp [okH, okB, okCs, okC]; done) | simp [okH, okB, okCs, okC, bq_lit]) ?_; simp only [zL, zA, zCs, zC, zH, zB, bq_self, bq_old]; conv => cbv)
   repeat' first | (intro hc; cases hc; done) | (refine call_r hcM rfl rfl ?_; conv => cbv) | (refine call_r hco rfl rfl ?_; conv => cbv) | exact gu | exact trivial | refine And.intro ?_ ?_ | (intro hc; exact absurd hc (by decide)) | (intro hc; exfalso; omega) | (intro hc; (first | rw [wrap_small (by omega) (by omega)] at hc | rw [nI_eq] at hc | skip); try (conv => cbv))
   refine loop_up T.length (fun (i : Int) => [(0, .c (.d (.list false 3 rl))), (5, .c (.d (.list false 3 rl))), (6, .c (.d (.list false 3 tl))), (10, .c (.d (.list false 3 tl))), (88, iA (Λ tl)), (89, iA i)]) (fun _ => [])
    (fun k i => i = k ∧ k ≤ T.length) 0 (Wk.cw) ⟨rfl, by omega⟩ (fun k s h => h.2) ?_
   rintro k i Q' ⟨hi, hk⟩ norm ex rt
   by_cases hlt : k < T.length
   ·obtain ⟨x, hx⟩ : ∃ x, T[k]? = some x := ⟨_, List.getElem?_eq_getElem hlt⟩
    have hxa := elt_at tlh hi hx
    obtain ⟨⟨xa, xl⟩, xv⟩ := x
    simp only [encRt] at hxa
    conv => cbv
    repeat' first | (refine ex _ _ _ ?_; (conv => cbv)) | (refine rt _ _ ?_; (conv => cbv)) | (intro e he; cases Option.some.inj (he.symm.trans hxa); (conv => cbv)) | exact gu | exact trivial | refine And.intro ?_ ?_ | (intro hc; exact absurd hc (by decide)) | (intro hc; exfalso; omega) | (intro hc; (first | rw [wrap_small (by omega) (by omega)] at hc | rw [nI_eq] at hc | skip); try (conv => cbv))
    all_goals try (exfalso; simp_all; done)
    refine norm _ _ _ ?_ (Wk.cw)
    exact ⟨by omega, by omega⟩
   ·conv => cbv
    repeat' first | (refine ex _ _ _ ?_; (conv => cbv)) | (refine rt _ _ ?_; (conv => cbv)) | exact gu | exact trivial | refine And.intro ?_ ?_ | (intro hc; exact absurd hc (by decide)) | (intro hc; exfalso; omega) | (intro hc; (first | rw [wrap_small (by omega) (by omega)] at hc | rw [nI_eq] at hc | skip); try (conv => cbv))
    clear norm ex rt
    refine loop_up l.length (fun (i : Int) => [(0, .c (.d (.list false 3 rl))), (5, .c (.d (.list false 3 rl))), (103, iA (Λ rl)), (104, iA i)]) (fun _ => [])
     (fun k i => i = k ∧ k ≤ l.length) 0 (Wk.cw) ⟨rfl, by omega⟩ (fun k s h => h.2) ?_
    rintro k i Q' ⟨hi, hk⟩ norm ex rt
    by_cases hlt : k < l.length
    ·obtain ⟨x, hx⟩ : ∃ x, l[k]? = some x := ⟨_, List.getElem?_eq_getElem hlt⟩
     have hxa := elt_at rlh hi hx
     obtain ⟨⟨xa, xl⟩, xv⟩ := x
     simp only [encRt] at hxa
     conv => cbv
     repeat' first | (refine ex _ _ _ ?_; (conv => cbv)) | (refine rt _ _ ?_; (conv => cbv)) | (intro e he; cases Option.some.inj (he.symm.trans hxa); (conv => cbv)) | exact gu | exact trivial | refine And.intro ?_ ?_ | (intro hc; exact absurd hc (by decide)) | (intro hc; exfalso; omega) | (intro hc; (first | rw [wrap_small (by omega) (by omega)] at hc | rw [nI_eq] at hc | skip); try (conv => cbv))
     all_goals try (exfalso; simp_all; done)
     refine norm _ _ _ ?_ (Wk.cw)
     exact ⟨by omega, by omega⟩
    ·conv => cbv
     repeat' first | (refine ex _ _ _ ?_; (conv => cbv)) | (refine rt _ _ ?_; (conv => cbv)) | exact gu | exact trivial | refine And.intro ?_ ?_ | (intro hc; exact absurd hc (by decide)) | (intro hc; exfalso; omega) | (intro hc; (first | rw [wrap_small (by omega) (by omega)] at hc | rw [nI_eq] at hc | skip); try (conv => cbv))
     exact hK
  ·cases hv : validR l with
   | false =>
    rw [hv] at hvr
    refine ret_start (hP ▸ mixed) (hP ▸ fn_law06_CompressOrder) (hP ▸ c_law06_CompressOrder) (Nat.le_of_ble_eq_true rfl) fun Λ Λo K hK => ?_
    clear hP
    simp only [rtsA, rtsD] at *
    generalize l.map encRt = rl at *
    conv => cbv
    repeat' first | refine call_b haw rfl rfl ?_ ?_ | refine call_b hfw rfl rfl ?_ ?_ | refine call_b hvr rfl rfl ?_ ?_ | (intro hc; cases hc; done) | exact gu | exact trivial | refine And.intro ?_ ?_ | (intro hc; exact absurd hc (by decide)) | (intro hc; exfalso; omega) | (intro hc; (first | rw [wrap_small (by omega) (by omega)] at hc | rw [nI_eq] at hc | skip); try (conv => cbv))
    exact hK
   | true =>
    rw [hv] at hvr
    have hb : ¬ (0 ≤ n ∧ n ≤ l.length) := fun h => hok ⟨hv, h⟩
    refine ret_start (hP ▸ mixed) (hP ▸ fn_law06_CompressOrder) (hP ▸ c_law06_CompressOrder) (Nat.le_of_ble_eq_true rfl) fun Λ Λo K hK => ?_
    clear hP
    simp only [rtsA, rtsD] at *
    generalize rlh : l.map encRt = rl at *
    have rln : Λ rl = l.length := by rw [Λo, ← rlh]; simp
    conv => cbv
    repeat' first | refine call_b haw rfl rfl ?_ ?_ | refine call_b hfw rfl rfl ?_ ?_ | refine call_b hvr rfl rfl ?_ ?_ | (intro hc; cases hc; done) | exact gu | exact trivial | refine And.intro ?_ ?_ | (intro hc; exact absurd hc (by decide)) | (intro hc; exfalso; omega) | (intro hc; (first | rw [wrap_small (by omega) (by omega)] at hc | rw [nI_eq] at hc | skip); try (conv => cbv))
    all_goals exact hK
 ·rw [decide_eq_false hf] at hfw
  refine ret_start (hP ▸ mixed) (hP ▸ fn_law06_CompressOrder) (hP ▸ c_law06_CompressOrder) (Nat.le_of_ble_eq_true rfl) fun Λ Λo K hK => ?_
  clear hP
  simp only [rtsA, rtsD] at *
  generalize l.map encRt = rl at *
  conv => cbv
  repeat' first | refine call_b haw rfl rfl ?_ ?_ | refine call_b hfw rfl rfl ?_ ?_ | (intro hc; cases hc; done) | exact gu | exact trivial | refine And.intro ?_ ?_ | (intro hc; exact absurd hc (by decide)) | (intro hc; exfalso; omega) | (intro hc; (first | rw [wrap_small (by omega) (by omega)] at hc | rw [nI_eq] at hc | skip); try (conv => cbv))
  exact hK
end Go.Ab

