/-
  Merged texts, part s.
-/
import Derived.Test.YtollegfnkaomeaaZr
import Derived.KernelRfl
/-
  Compressing, part t: what the law looks at first.
-/
namespace Go.Ab
open Go.Proofs
theorem few_ok (P : Program) (hP : P = Try.prog) (l : List Rt) : Ret P n_law06_few [rtsA l] (bA (decide (l.length ≤ 20))) := by
 refine ret_start (hP ▸ mixed) (hP ▸ fn_law06_few) (hP ▸ c_law06_few) (Nat.le_of_ble_eq_true rfl) fun Λ Λo K hK => ?_
 clear hP
 have yes : l.length ≤ 20 → K (bA true) := fun h => by rw [decide_eq_true h] at hK; exact hK
 have no : ¬ l.length ≤ 20 → K (bA false) := fun h => by rw [decide_eq_false h] at hK; exact hK
 clear hK
 simp only [rtsA, rtsD] at *
 generalize rlh : l.map encRt = rl at *
 have rln : Λ rl = l.length := by rw [Λo, ← rlh]; simp
 conv => cbv
 repeat' first | exact gu | exact trivial | refine And.intro ?_ ?_ | (intro hc; exact absurd hc (by decide)) | (intro hc; exfalso; omega) | (intro hc; (first | rw [wrap_small (by omega) (by omega)] at hc | rw [nI_eq] at hc | skip); try (conv => cbv))
 all_goals first | exact yes (by omega) | exact no (by omega)
theorem route_at (P : Program) (hP : P = Try.prog) (a b n v z : Int)
  (hz : ∀ x y u w, x = IntKind.u32.wrap a → u = IntKind.u32.wrap (x * 2 ^ min (Int.toNat 24) IntKind.u32.bits) → y = IntKind.u32.wrap b → w = IntKind.u32.wrap (y * 2 ^ min (Int.toNat 16) IntKind.u32.bits) → binD BinOp.or (D.int IntKind.u32 u) (D.int IntKind.u32 w) = some (.int .u32 z)) :
  Ret P n_law06_route [iA a, iA b, iA n, iA v] (.agg [.d (u32D z), .d (iD n), .d (iD v)]) := by
 refine ret_start (hP ▸ mixed) (hP ▸ fn_law06_route) (hP ▸ c_law06_route) (Nat.le_of_ble_eq_true rfl) fun Λ Λo K hK => ?_
 clear hP
 conv => cbv
 repeat' first | (refine ⟨.int .u32 z, hz _ _ _ _ (by assumption) (by assumption) (by assumption) (by assumption), ?_⟩; intro d' hd; subst hd; (conv => cbv)) | exact gu | exact trivial | refine And.intro ?_ ?_ | (intro hc; exact absurd hc (by decide)) | (intro hc; exfalso; omega) | (intro hc; (first | rw [wrap_small (by omega) (by omega)] at hc | rw [nI_eq] at hc | skip); try (conv => cbv))
 exact hK
theorem route_z {a b z : Int} (h : binD BinOp.or (D.int IntKind.u32 (IntKind.u32.wrap (IntKind.u32.wrap a * 2 ^ min (Int.toNat 24) IntKind.u32.bits))) (D.int IntKind.u32 (IntKind.u32.wrap (IntKind.u32.wrap b * 2 ^ min (Int.toNat 16) IntKind.u32.bits))) = some (.int .u32 z)) :
  ∀ x y u w, x = IntKind.u32.wrap a → u = IntKind.u32.wrap (x * 2 ^ min (Int.toNat 24) IntKind.u32.bits) → y = IntKind.u32.wrap b → w = IntKind.u32.wrap (y * 2 ^ min (Int.toNat 16) IntKind.u32.bits) → binD BinOp.or (D.int IntKind.u32 u) (D.int IntKind.u32 w) = some (.int .u32 z) := by
 rintro x y u w rfl rfl rfl rfl
 exact h
theorem comp_1 : compS [⟨⟨167772160, 9⟩, 1⟩, ⟨⟨176160768, 9⟩, 1⟩, ⟨⟨171966464, 10⟩, 2⟩] = [⟨⟨167772160, 8⟩, 1⟩, ⟨⟨171966464, 10⟩, 2⟩] := by kernel_rfl
theorem comp_2 : compS [⟨⟨0, 1⟩, 1⟩, ⟨⟨2147483648, 1⟩, 2⟩] = [⟨⟨0, 0⟩, 1⟩, ⟨⟨2147483648, 1⟩, 2⟩] := by kernel_rfl
set_option maxHeartbeats 2000000 in
theorem awake_ok (P : Program) (hP : P = Try.prog) : Ret P n_law06_awake [] (bA true) := by
 have r1 := route_at P hP 10 0 9 1 167772160 (route_z (by kernel_rfl))
 have r2 := route_at P hP 10 128 9 1 176160768 (route_z (by kernel_rfl))
 have r3 := route_at P hP 10 64 10 2 171966464 (route_z (by kernel_rfl))
 have r4 := route_at P hP 0 0 1 1 0 (route_z (by kernel_rfl))
 have r5 := route_at P hP 128 0 1 2 2147483648 (route_z (by kernel_rfl))
 have r6 := route_at P hP 10 0 8 1 167772160 (route_z (by kernel_rfl))
 have c1 := compress_ok P hP [⟨⟨167772160, 9⟩, 1⟩, ⟨⟨176160768, 9⟩, 1⟩, ⟨⟨171966464, 10⟩, 2⟩] (by intro r hr; simp only [List.mem_cons, List.not_mem_nil, or_false] at hr; rcases hr with rfl | rfl | rfl <;> exact ⟨⟨by decide, by decide⟩, by decide, by decide⟩) (by decide)
 have c2 := compress_ok P hP [⟨⟨0, 1⟩, 1⟩, ⟨⟨2147483648, 1⟩, 2⟩] (by intro r hr; simp only [List.mem_cons, List.not_mem_nil, or_false] at hr; rcases hr with rfl | rfl <;> exact ⟨⟨by decide, by decide⟩, by decide, by decide⟩) (by decide)
 rw [comp_1, show validR [⟨⟨167772160, 9⟩, 1⟩, ⟨⟨176160768, 9⟩, 1⟩, ⟨⟨171966464, 10⟩, 2⟩] = true by kernel_rfl] at c1
 rw [comp_2, show validR [⟨⟨0, 1⟩, 1⟩, ⟨⟨2147483648, 1⟩, 2⟩] = true by kernel_rfl] at c2
 simp only [if_true, rtsA, rtsD, encRt, List.map_cons, List.map_nil] at c1 c2
 refine ret_start (hP ▸ mixed) (hP ▸ fn_law06_awake) (hP ▸ c_law06_awake) (Nat.le_of_ble_eq_true rfl) fun Λ Λo K hK => ?_
 clear hP
 have l1 : Λ [[.int .u32 167772160, .int .i64 8, .int .i64 1], [.int .u32 171966464, .int .i64 10, .int .i64 2]] = 2 := by rw [Λo]; rfl
 have l2 : Λ [[.int .u32 0, .int .i64 0, .int .i64 1], [.int .u32 2147483648, .int .i64 1, .int .i64 2]] = 2 := by rw [Λo]; rfl
 have e0 : ([[.int .u32 167772160, .int .i64 8, .int .i64 1], [.int .u32 171966464, .int .i64 10, .int .i64 2]] : List (List D))[Int.toNat 0]? = some [.int .u32 167772160, .int .i64 8, .int .i64 1] := rfl
 have e1 : ([[.int .u32 167772160, .int .i64 8, .int .i64 1], [.int .u32 171966464, .int .i64 10, .int .i64 2]] : List (List D))[Int.toNat 1]? = some [.int .u32 171966464, .int .i64 10, .int .i64 2] := rfl
 conv => cbv
 repeat' first | (refine call_r r1 rfl rfl ?_; conv => cbv) | (refine call_r r2 rfl rfl ?_; conv => cbv) | (refine call_r r3 rfl rfl ?_; conv => cbv) | (refine call_r r4 rfl rfl ?_; conv => cbv) | (refine call_r r5 rfl rfl ?_; conv => cbv) | (refine call_r r6 rfl rfl ?_; conv => cbv) | (refine call_r c1 rfl rfl ?_; conv => cbv) | (refine call_r c2 rfl rfl ?_; conv => cbv) | (refine call_z 0 0 3 3 rfl rfl (by repeat' first | exact trivial | refine And.intro ?_ ?_ | rfl) (by repeat' first | exact trivial | refine And.intro ?_ ?_ | rfl) ?_; conv => cbv) | (refine call_z 1 0 3 2 rfl rfl (by repeat' first | exact trivial | refine And.intro ?_ ?_ | rfl) (by repeat' first | exact trivial | refine And.intro ?_ ?_ | rfl) ?_; conv => cbv) | (intro (e : List D) he; cases Option.some.inj (he.symm.trans e0); (conv => cbv)) | (intro (e : List D) he; cases Option.some.inj (he.symm.trans e1); (conv => cbv)) | exact gu | exact trivial | refine And.intro ?_ ?_ | (intro hc; exact absurd hc (by decide)) | (intro hc; exfalso; omega) | (intro hc; (first | rw [wrap_small (by omega) (by omega)] at hc | rw [nI_eq] at hc | skip); try (conv => cbv))
 exact hK
end Go.Ab

/-
  Compressing: Equal answers as its reference does.
-/
namespace Go.Ab
open Go.Proofs
theorem edges_mem {a : List Rt} {x : Int} : x ∈ edgesS a ↔ x = 0 ∨ ∃ r ∈ a, x = r.p.addr ∨ x = behP r.p := by
 simp only [edgesS, List.mem_cons, List.mem_flatMap, List.not_mem_nil, or_false]
theorem cequal_bad (P : Program) (hP : P = Try.prog) (a b : List Rt) (hua : ∀ r ∈ a, inU r.p.addr) (hub : ∀ r ∈ b, inU r.p.addr) (hv : (validR a && validR b) = false) : Ret P n_compress_Equal [rtsA a, rtsA b] (.tup [bA false, iA 1]) := by
 have hva := cvalid_ok P hP a hua
 have hvb := cvalid_ok P hP b hub
 refine ret_start (hP ▸ mixed) (hP ▸ fn_compress_Equal) (hP ▸ c_compress_Equal) (Nat.le_of_ble_eq_true rfl) fun Λ Λo K hK => ?_
 clear hP hua hub
 simp only [rtsA, rtsD] at *
 generalize a.map encRt = al at *
 generalize b.map encRt = bl at *
 generalize validR a = va at *
 generalize validR b = vb at *
 cases va <;> cases vb <;> first | (cases hv; done) | skip
 all_goals conv => cbv
 all_goals repeat' first | refine call_b hva rfl rfl ?_ ?_ | refine call_b hvb rfl rfl ?_ ?_ | (intro hc; cases hc; done) | exact gu | exact trivial | refine And.intro ?_ ?_ | (intro hc; exact absurd hc (by decide)) | (intro hc; exfalso; omega) | (intro hc; (first | rw [wrap_small (by omega) (by omega)] at hc | rw [nI_eq] at hc | skip); try (conv => cbv))
 all_goals exact hK
set_option maxHeartbeats 2000000 in
theorem cequal_good (P : Program) (hP : P = Try.prog) (a b : List Rt) (hua : ∀ r ∈ a, inU r.p.addr) (hub : ∀ r ∈ b, inU r.p.addr) (hla : a.length ≤ 100000) (hlb : b.length ≤ 100000) (hv1 : validR a = true) (hv2 : validR b = true) :
  Ret P n_compress_Equal [rtsA a, rtsA b] (.tup [bA (sameS a b), iA 0]) := by
 have hva := cvalid_ok P hP a hua
 have hvb := cvalid_ok P hP b hub
 rw [hv1] at hva
 rw [hv2] at hvb
 have hba := fun m0 => build_ok6 P hP m0 a hua hv1
 have hbb := fun m0 => build_ok6 P hP m0 b hub hv2
 have hwa := (build_law fkP (fun r n a b c d e f => (fork_ok a b c d e f).1) hua hv1).1
 have hwb := (build_law fkP (fun r n a b c d e f => (fork_ok a b c d e f).1) hub hv2).1
 have hka : ∀ x, (encO (lookT x (buildT fkP a) none)).2.2.1 = lookR a x := fun x => by
  rw [build_look fkP (fun r n a b c d e f => (fork_ok a b c d e f).1) hua hv1 x, lookR]; cases findR a x <;> rfl
 have hkb : ∀ x, (encO (lookT x (buildT fkP b) none)).2.2.1 = lookR b x := fun x => by
  rw [build_look fkP (fun r n a b c d e f => (fork_ok a b c d e f).1) hub hv2 x, lookR]; cases findR b x <;> rfl
 have hsm := fun m kx ky Sa Sb x h1 h2 h3 => tsame_ok P hP m kx ky (buildT fkP a) (buildT fkP b) Sa Sb x hwa hwb h1 h2 h3 _ _ (hka x) (hkb x)
 have hcc := concatRts_ok P hP [a, b] (by simp [sumLenR]; omega)
 simp only [List.flatten_cons, List.flatten_nil, List.append_nil, List.map_cons, List.map_nil, encRts] at hcc
 have hfo : FnOk P n_compress_Equal_1 := hP ▸ ⟨_, fn_compress_Equal_1, rfl, by decide⟩
 have hut : ∀ r ∈ a ++ b, inU r.p.addr ∧ validP r.p = true := fun r hr => by
  rcases List.mem_append.1 hr with h | h
  ·exact ⟨hua r h, ((validR_spec.1 hv1).1 r h).1⟩
  ·exact ⟨hub r h, ((validR_spec.1 hv2).1 r h).1⟩
 have hmem : ∀ x, x ∈ edgesS a ++ edgesS b ↔ x = 0 ∨ ∃ r ∈ a ++ b, x = r.p.addr ∨ x = behP r.p := fun x => by
  rw [List.mem_append, edges_mem, edges_mem]
  constructor
  ·rintro ((h | ⟨r, h1, h2⟩) | (h | ⟨r, h1, h2⟩))
   ·exact .inl h
   ·exact .inr ⟨r, List.mem_append_left _ h1, h2⟩
   ·exact .inl h
   ·exact .inr ⟨r, List.mem_append_right _ h1, h2⟩
  ·rintro (h | ⟨r, h1, h2⟩)
   ·exact .inl (.inl h)
   ·rcases List.mem_append.1 h1 with h | h
    ·exact .inl (.inr ⟨r, h, h2⟩)
    ·exact .inr (.inr ⟨r, h, h2⟩)
 have htl : (a ++ b).length ≤ 200000 := by rw [List.length_append]; omega
 refine arena_start (hP ▸ mixed) (hP ▸ fn_compress_Equal) (hP ▸ c_compress_Equal) (Nat.le_of_ble_eq_true rfl) fun Λ Λo K hK => ?_
 clear hP
 have no : ∀ x, (x = 0 ∨ ∃ r ∈ a ++ b, x = r.p.addr ∨ x = behP r.p) → lookR a x ≠ lookR b x → K (.tup [bA false, iA 0]) := fun x hx h3 => by
  rw [show sameS a b = false from Bool.eq_false_iff.2 fun h => h3 (of_decide_eq_true (List.all_eq_true.1 h x ((hmem x).2 hx)))] at hK; exact hK
 have yes : (∀ x, (x = 0 ∨ ∃ r ∈ a ++ b, x = r.p.addr ∨ x = behP r.p) → lookR a x = lookR b x) → K (.tup [bA true, iA 0]) := fun h3 => by
  rw [show sameS a b = true from List.all_eq_true.2 fun x hx => decide_eq_true (h3 x ((hmem x).1 hx))] at hK; exact hK
 clear hK hka hkb hmem hwa hwb
 generalize lookR a = ka at *
 generalize lookR b = kb at *
 generalize a ++ b = T at *
 generalize buildT fkP a = ta at *
 generalize buildT fkP b = tb at *
 simp only [rtsA, rtsD] at *
 generalize a.map encRt = al at *
 generalize b.map encRt = bl at *
 generalize tlh : T.map encRt = tl at *
 have tln : Λ tl = T.length := by rw [Λo, ← tlh]; simp
 conv => cbv
 repeat' first | refine call_b hva rfl rfl ?_ ?_ | refine call_b hvb rfl rfl ?_ ?_ | exact gu | exact trivial | refine And.intro ?_ ?_ | (intro hc; exact absurd hc (by decide)) | (intro hc; exfalso; omega) | (intro hc; (first | rw [wrap_small (by omega) (by omega)] at hc | rw [nI_eq] at hc | skip); try (conv => cbv))
 refine call_fr [0] (hba _) rfl rfl (by decide) (by repeat' first | exact trivial | refine And.intro ?_ ?_ | rfl) rfl rfl ?_
 rintro r hc' ⟨m1, kx, rfl, rfl, Sa, ta1, ta2, -, -⟩
 conv => cbv
 repeat' first | exact gu | exact trivial | refine And.intro ?_ ?_ | (intro hc; exact absurd hc (by decide)) | (intro hc; exfalso; omega) | (intro hc; (first | rw [wrap_small (by omega) (by omega)] at hc | rw [nI_eq] at hc | skip); try (conv => cbv))
 refine call_fr [0] (hbb _) rfl rfl (by decide) (by repeat' first | exact trivial | refine And.intro ?_ ?_ | rfl) rfl rfl ?_
 rintro r hc' ⟨m2, ky, rfl, rfl, Sb, tb1, tb2, tb3, tb4⟩
 have ta3 := ta1.frame (m' := m2) fun i hi => tb4 i (ta2 i hi)
 have hs := fun x h => hsm m2 kx ky Sa Sb x ta3 tb1 h
 clear hba hbb hsm ta1 ta2 tb1 tb2 tb3 tb4 ta3
 have hs0 := hs 0 ⟨by omega, by omega⟩
 by_cases h0 : ka 0 = kb 0
 rotate_left
 ·rw [decide_eq_false h0] at hs0
  conv => cbv
  repeat' first | exact hfo | (refine callv_fr [0, 1, 2, 3, 4] hs0 rfl rfl (by decide) (by repeat' first | exact trivial | refine And.intro ?_ ?_ | rfl) rfl rfl ?_; rintro r hc' ⟨rfl, rfl⟩; (conv => cbv)) | (left; intro (_ : Unit); (conv => cbv)) | exact gu | exact trivial | refine And.intro ?_ ?_ | (intro hc; exact absurd hc (by decide)) | (intro hc; exfalso; omega) | (intro hc; (first | rw [wrap_small (by omega) (by omega)] at hc | rw [nI_eq] at hc | skip); try (conv => cbv))
  exact ⟨[bA false, iA 0], ⟨.c _ _ (.d _ _ (.same _)), .c _ _ (.d _ _ (.same _)), trivial⟩, no 0 (.inl rfl) h0⟩
 rw [decide_eq_true h0] at hs0
 conv => cbv
 repeat' first | exact hfo | (refine callv_fr [0, 1, 2, 3, 4] hs0 rfl rfl (by decide) (by repeat' first | exact trivial | refine And.intro ?_ ?_ | rfl) rfl rfl ?_; rintro r hc' ⟨rfl, rfl⟩; (conv => cbv)) | (left; intro (_ : Unit); (conv => cbv)) | (refine call_r hcc rfl rfl ?_; conv => cbv) | (refine call_z 5 0 1 2 rfl rfl (by repeat' first | exact trivial | refine And.intro ?_ ?_ | rfl) (by repeat' first | exact trivial | refine And.intro ?_ ?_ | rfl) ?_; conv => cbv) | exact gu | exact trivial | refine And.intro ?_ ?_ | (intro hc; exact absurd hc (by decide)) | (intro hc; exfalso; omega) | (intro hc; (first | rw [wrap_small (by omega) (by omega)] at hc | rw [nI_eq] at hc | skip); try (conv => cbv))
 have no' : ∀ x, (x = 0 ∨ ∃ r ∈ T, x = r.p.addr ∨ x = behP r.p) → ka x ≠ kb x → ∃ rs', ThAs m2 [bA false, iA 0] rs' ∧ K (pack rs') := fun x h1 h2 => ⟨[bA false, iA 0], ⟨.c _ _ (.d _ _ (.same _)), .c _ _ (.d _ _ (.same _)), trivial⟩, no x h1 h2⟩
 have yes' : (∀ r ∈ T, ka r.p.addr = kb r.p.addr ∧ ka (behP r.p) = kb (behP r.p)) → ∃ rs', ThAs m2 [bA true, iA 0] rs' ∧ K (pack rs') := fun h => ⟨[bA true, iA 0], ⟨.c _ _ (.d _ _ (.same _)), .c _ _ (.d _ _ (.same _)), trivial⟩, yes fun x hx => by
  rcases hx with rfl | ⟨r, hr, rfl | rfl⟩
  ·exact h0
  ·exact (h r hr).1
  ·exact (h r hr).2⟩
 clear no yes
 refine loop_up T.length (fun (i : Int) => [(8, .c (.fn false 43 [.ptr 3 0 0 0, .ptr 4 0 0 0])), (31, .c (.d (.list false 3 tl))), (32, iA (Λ tl)), (33, iA i)]) (fun _ => twoH m2 kx ky)
  (fun k i => i = k ∧ k ≤ T.length ∧ ∀ r ∈ T.take k, ka r.p.addr = kb r.p.addr ∧ ka (behP r.p) = kb (behP r.p)) 0 (Wk.ca) ⟨rfl, by omega, by simp⟩ (fun k s h => h.2.1) ?_
 rintro k i Q' ⟨hi, hk, hall⟩ norm ex rt
 by_cases hlt : k < T.length
 ·obtain ⟨r, hr⟩ : ∃ r, T[k]? = some r := ⟨_, List.getElem?_eq_getElem hlt⟩
  have hra := elt_at tlh hi hr
  have hrm := List.mem_of_getElem? hr
  obtain ⟨hu, hv⟩ := hut r hrm
  have hs1 := hs r.p.addr hu
  have hs2 := fun h => hs (behP r.p) h
  obtain ⟨e1, e2, e3⟩ := beh_end hv hu
  have hp : (0 : Int) < szP r.p.len := by have := szP_pos r.p.len; omega
  obtain ⟨v0, v1, _⟩ := valid_spec.1 hv
  have no1 := no' r.p.addr (.inr ⟨r, hrm, .inl rfl⟩)
  have no2 := no' (behP r.p) (.inr ⟨r, hrm, .inr rfl⟩)
  have nx : ka r.p.addr = kb r.p.addr → ka (behP r.p) = kb (behP r.p) → ∀ q ∈ T.take (k + 1), ka q.p.addr = kb q.p.addr ∧ ka (behP q.p) = kb (behP q.p) := fun g1 g2 q hq => by
   rw [take_succ_get hr] at hq
   rcases List.mem_append.1 hq with hq | hq
   ·exact hall q hq
   ·rw [List.mem_singleton] at hq; rw [hq]; exact ⟨g1, g2⟩
  obtain ⟨be, hbe⟩ : ∃ be : Int, be = r.p.addr + szP r.p.len := ⟨_, rfl⟩
  have hb64 := fun c d s v => @beh64 r.p.addr r.p.len c d s v hu v0 v1
  rw [← hbe] at e1 e2 e3 hb64
  obtain ⟨⟨ra, rn⟩, rv⟩ := r
  simp only [encRt] at *
  have hu0 := hu.1
  have hu1 := hu.2
  generalize (szP rn : Int) = sz at *
  generalize behP ⟨ra, rn⟩ = bp at *
  by_cases g1 : ka ra = kb ra
  rotate_left
  ·rw [decide_eq_false g1] at hs1
   have no1 := no1 g1
   clear no2 hs2 hs no' yes' nx norm ex hall hs0 hcc hut
   conv => cbv
   repeat' first | (refine ex _ _ _ ?_; (conv => cbv)) | (refine rt _ _ ?_; (conv => cbv)) | exact hfo | (intro e he; cases Option.some.inj (he.symm.trans hra); (conv => cbv)) | (refine callv_fr [0, 1, 2, 3, 4] hs1 rfl rfl (by decide) (by repeat' first | exact trivial | refine And.intro ?_ ?_ | rfl) rfl rfl ?_; rintro r hc' ⟨rfl, rfl⟩; (conv => cbv)) | (left; intro (_ : Unit); (conv => cbv)) | exact gu | exact trivial | refine And.intro ?_ ?_ | (intro hc; exact absurd hc (by decide)) | (intro hc; exfalso; omega) | (intro hc; (first | rw [wrap_small (by omega) (by omega)] at hc | rw [nI_eq] at hc | skip); try (conv => cbv))
   exact no1
  ·rw [decide_eq_true g1] at hs1
   clear no1 no' yes' hs hs0 hcc hut hva hvb
   have hbe0 : 0 ≤ be := by omega
   by_cases hb : be < 4294967296
   ·obtain rfl : bp = be := e2 hb
    have hs2 := hs2 ⟨hbe0, hb⟩
    by_cases g2 : ka bp = kb bp
    ·rw [decide_eq_true g2] at hs2
     have nx2 := nx g1 g2
     clear no2 ex hall nx
     conv => cbv
     repeat' first | (refine ex _ _ _ ?_; (conv => cbv)) | (refine rt _ _ ?_; (conv => cbv)) | exact hfo | (intro e he; cases Option.some.inj (he.symm.trans hra); (conv => cbv)) | (refine callv_fr [0, 1, 2, 3, 4] hs1 rfl rfl (by decide) (by repeat' first | exact trivial | refine And.intro ?_ ?_ | rfl) rfl rfl ?_; rintro r hc' ⟨rfl, rfl⟩; (conv => cbv)) | (intro (v : Int) (hv : v = IntKind.u64.wrap (_ + _)); obtain rfl : bp = v := (hb64 _ _ _ v (by assumption) (by assumption) (by assumption) hv).symm; (conv => cbv)) | (intro (w : Int) (hw : w = IntKind.u32.wrap bp); rw [wrapu32 (by omega) (by omega)] at hw; subst hw; (conv => cbv)) | (refine callv_fr [0, 1, 2, 3, 4] hs2 rfl rfl (by decide) (by repeat' first | exact trivial | refine And.intro ?_ ?_ | rfl) rfl rfl ?_; rintro r hc' ⟨rfl, rfl⟩; (conv => cbv)) | (left; intro (_ : Unit); (conv => cbv)) | exact gu | exact trivial | refine And.intro ?_ ?_ | (intro hc; exact absurd hc (by decide)) | (intro hc; exfalso; omega) | (intro hc; (first | rw [wrap_small (by omega) (by omega)] at hc | rw [nI_eq] at hc | skip); try (conv => cbv))
     rename_i j
     exact norm _ _ j ⟨by omega, by omega, nx2⟩ (Wk.ca)
    ·rw [decide_eq_false g2] at hs2
     have no3 := no2 g2
     clear no2 nx norm ex hall
     conv => cbv
     repeat' first | (refine ex _ _ _ ?_; (conv => cbv)) | (refine rt _ _ ?_; (conv => cbv)) | exact hfo | (intro e he; cases Option.some.inj (he.symm.trans hra); (conv => cbv)) | (refine callv_fr [0, 1, 2, 3, 4] hs1 rfl rfl (by decide) (by repeat' first | exact trivial | refine And.intro ?_ ?_ | rfl) rfl rfl ?_; rintro r hc' ⟨rfl, rfl⟩; (conv => cbv)) | (intro (v : Int) (hv : v = IntKind.u64.wrap (_ + _)); obtain rfl : bp = v := (hb64 _ _ _ v (by assumption) (by assumption) (by assumption) hv).symm; (conv => cbv)) | (intro (w : Int) (hw : w = IntKind.u32.wrap bp); rw [wrapu32 (by omega) (by omega)] at hw; subst hw; (conv => cbv)) | (refine callv_fr [0, 1, 2, 3, 4] hs2 rfl rfl (by decide) (by repeat' first | exact trivial | refine And.intro ?_ ?_ | rfl) rfl rfl ?_; rintro r hc' ⟨rfl, rfl⟩; (conv => cbv)) | (left; intro (_ : Unit); (conv => cbv)) | exact gu | exact trivial | refine And.intro ?_ ?_ | (intro hc; exact absurd hc (by decide)) | (intro hc; exfalso; omega) | (intro hc; (first | rw [wrap_small (by omega) (by omega)] at hc | rw [nI_eq] at hc | skip); try (conv => cbv))
     exact no3
   ·have hz := e3 hb
    subst hz
    have nx2 := nx g1 h0
    clear nx no2 ex hall hs2
    conv => cbv
    repeat' first | (refine ex _ _ _ ?_; (conv => cbv)) | (refine rt _ _ ?_; (conv => cbv)) | exact hfo | (intro e he; cases Option.some.inj (he.symm.trans hra); (conv => cbv)) | (refine callv_fr [0, 1, 2, 3, 4] hs1 rfl rfl (by decide) (by repeat' first | exact trivial | refine And.intro ?_ ?_ | rfl) rfl rfl ?_; rintro r hc' ⟨rfl, rfl⟩; (conv => cbv)) | (intro (v : Int) (hv : v = IntKind.u64.wrap (_ + _)); obtain rfl : be = v := (hb64 _ _ _ v (by assumption) (by assumption) (by assumption) hv).symm; (conv => cbv)) | (intro (w : Int) (hw : w = IntKind.u32.wrap be); rw [wrapu32 (by omega) (by omega)] at hw; subst hw; (conv => cbv)) | (left; intro (_ : Unit); (conv => cbv)) | exact gu | exact trivial | refine And.intro ?_ ?_ | (intro hc; exact absurd hc (by decide)) | (intro hc; exfalso; omega) | (intro hc; (first | rw [wrap_small (by omega) (by omega)] at hc | rw [nI_eq] at hc | skip); try (conv => cbv))
    rename_i j
    exact norm _ _ j ⟨by omega, by omega, nx2⟩ (Wk.ca)
 ·conv => cbv
  repeat' first | (refine ex _ _ _ ?_; (conv => cbv)) | (refine rt _ _ ?_; (conv => cbv)) | exact gu | exact trivial | refine And.intro ?_ ?_ | (intro hc; exact absurd hc (by decide)) | (intro hc; exfalso; omega) | (intro hc; (first | rw [wrap_small (by omega) (by omega)] at hc | rw [nI_eq] at hc | skip); try (conv => cbv))
  have := yes' fun r hr => hall r (by rw [List.take_of_length_le (by omega)]; exact hr)
  exact this
theorem cequal_ok (P : Program) (hP : P = Try.prog) (a b : List Rt) (hua : ∀ r ∈ a, inU r.p.addr) (hub : ∀ r ∈ b, inU r.p.addr) (hla : a.length ≤ 100000) (hlb : b.length ≤ 100000) :
  Ret P n_compress_Equal [rtsA a, rtsA b] (.tup [bA (validR a && validR b && sameS a b), iA (if validR a && validR b then 0 else 1)]) := by
 cases h : (validR a && validR b) with
 | false => exact cequal_bad P hP a b hua hub h
 | true =>
  obtain ⟨h1, h2⟩ := Bool.and_eq_true _ _ ▸ h
  exact cequal_good P hP a b hua hub hla hlb h1 h2
theorem equal_law (P : Program) (hP : P = Try.prog) (a b : List Rt) (hua : ∀ r ∈ a, inU r.p.addr) (hub : ∀ r ∈ b, inU r.p.addr) : Ret P n_law06_CompressEqual [rtsA a, rtsA b] (bA true) := by
 have haw := awake_ok P hP
 have hfa := few_ok P hP a
 have hfb := few_ok P hP b
 by_cases hs : a.length ≤ 20 ∧ b.length ≤ 20
 ·have h1 := cequal_ok P hP a b hua hub (by omega) (by omega)
  have h2 := equal06_ok P hP a b hua hub (by omega) (by omega)
  generalize (validR a && validR b && sameS a b) = z at *
  generalize (if (validR a && validR b) = true then (0 : Int) else 1) = e at *
  rw [decide_eq_true hs.1] at hfa
  rw [decide_eq_true hs.2] at hfb
  refine ret_start (hP ▸ mixed) (hP ▸ fn_law06_CompressEqual) (hP ▸ c_law06_CompressEqual) (Nat.le_of_ble_eq_true rfl) fun Λ Λo K hK => ?_
  clear hP
  simp only [rtsA, rtsD] at *
  generalize a.map encRt = al at *
  generalize b.map encRt = bl at *
  cases z <;> conv => cbv
  all_goals repeat' first | refine call_b haw rfl rfl ?_ ?_ | refine call_b hfa rfl rfl ?_ ?_ | refine call_b hfb rfl rfl ?_ ?_ | (intro hc; cases hc; done) | (refine call_r h1 rfl rfl ?_; conv => cbv) | (refine call_r h2 rfl rfl ?_; conv => cbv) | exact gu | exact trivial | refine And.intro ?_ ?_ | (intro hc; exact absurd hc (by decide)) | (intro hc; exfalso; omega) | (intro hc; (first | rw [wrap_small (by omega) (by omega)] at hc | rw [nI_eq] at hc | skip); try (conv => cbv))
  all_goals exact hK
 ·refine ret_start (hP ▸ mixed) (hP ▸ fn_law06_CompressEqual) (hP ▸ c_law06_CompressEqual) (Nat.le_of_ble_eq_true rfl) fun Λ Λo K hK => ?_
  clear hP
  have no : ¬ (decide (a.length ≤ 20) = true ∧ decide (b.length ≤ 20) = true) := fun h => hs ⟨of_decide_eq_true h.1, of_decide_eq_true h.2⟩
  simp only [rtsA, rtsD] at *
  generalize a.map encRt = al at *
  generalize b.map encRt = bl at *
  generalize decide (a.length ≤ 20) = x at *
  generalize decide (b.length ≤ 20) = y at *
  cases x <;> cases y <;> first | (exact absurd ⟨rfl, rfl⟩ no) | skip
  all_goals conv => cbv
  all_goals repeat' first | refine call_b haw rfl rfl ?_ ?_ | refine call_b hfa rfl rfl ?_ ?_ | refine call_b hfb rfl rfl ?_ ?_ | (intro hc; cases hc; done) | exact gu | exact trivial | refine And.intro ?_ ?_ | (intro hc; exact absurd hc (by decide)) | (intro hc; exfalso; omega) | (intro hc; (first | rw [wrap_small (by omega) (by omega)] at hc | rw [nI_eq] at hc | skip); try (conv => cbv))
  all_goals exact hK
end Go.Ab

