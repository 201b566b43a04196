/-
  The statements of chapter 23, part f: node segments of the node itself.
-/
import Derived.Test.YtlmddegckmbgkaaNc
namespace Go.Ab
open Go.Proofs

theorem bq_self (n : Nat) : Nat.beq n n = true := Nat.beq_refl n
theorem bq_old (n : Nat) : Nat.beq n n.succ = false := by
  rw [Bool.eq_false_iff]; intro h; have := Nat.eq_of_beq_eq_true h; omega
theorem bq_lit (a b : Nat) : Nat.beq a b = decide (a = b) := by
  by_cases h : a = b
  · subst h; simp
  · rw [decide_eq_false h, Bool.eq_false_iff]; exact fun h' => h (Nat.eq_of_beq_eq_true h')

set_option maxHeartbeats 4000000 in
theorem reached_law (P : Program) (hP : P = Try.prog) (c : Cas) (n : Int) (hs : sizeC c ≤ 10000000) (hn : 0 ≤ n ∧ n ≤ 255) : Ret P n_law23_ForwardReached [casA c, .c (.d (.int .u8 n))] (bA true) := by
  have haw : Ret P n_law23_awake [] (bA true) := hP ▸ awake_ok
  have hlg := large_ok P hP c hs
  have hstep := fun (h : largeB c = false) => step_ok P hP c.t c.x c.p (fit_of h)
  have hstep2 := fun (h : largeB c = false) (hl : (n.tmod 5).toNat + c.p.stack.length ≤ 32) => step_ok P hP c.t c.x {c.p with stack := List.replicate (n.tmod 5).toNat ⟨1, c.x.node⟩ ++ c.p.stack} ⟨(fit_of h).1, by simp; omega⟩
  have hsk : largeB c = false → c.p.stack.length ≤ 400 := fun h => by have := (large_no h).1; simp only [sizeC] at this; omega
  have hre := fun h => @reached c.t c.x c.p (n.tmod 5).toNat h
  have hsi := fun a b => sameInts_ok P hP a b
  have hsm := fun p q => same_ok P hP p q
  refine ret_start (hP ▸ mixed) (hP ▸ fn_law23_ForwardReached) (hP ▸ c_law23_ForwardReached) (Nat.le_of_ble_eq_true rfl) fun Λ Λo K hK => ?_
  clear hP
  obtain ⟨t, ⟨node, to, down⟩, ⟨id, src, dst, flow, stack, hops⟩⟩ := c
  simp only at hre hstep hstep2 hsk
  generalize largeB _ = lg at *
  generalize stepS t ⟨node, to, down⟩ ⟨id, src, dst, flow, stack, hops⟩ = st at *
  generalize stepS t ⟨node, to, down⟩ ⟨id, src, dst, flow, _, hops⟩ = st2 at *
  obtain ⟨arcs, p1, r⟩ := st
  obtain ⟨arcs2, p2, r2⟩ := st2
  simp only [casA, tabA, pktA, ansA, tupA, boolsD, linksD, entsD, intsA, intsD, segsD, List.map_append] at *
  generalize hdl : down.map encI = dl at *
  generalize elh : List.map encEnt to = el at *
  obtain ⟨nodes, ov, links⟩ := t
  simp only [topA, boolsD, linksD] at *
  generalize hol : ov.map encB = ol at *
  generalize hll : links.map encLk = ll at *
  have hlo : Λ ol = ov.length := by rw [Λo, ← hol]; simp
  have hls : Λ ll = links.length := by rw [Λo, ← hll]; simp
  generalize slh : List.map encSeg stack = sl at *
  have sln : Λ sl = stack.length := by rw [Λo, ← slh]; simp
  have hm5 : 0 ≤ n.tmod 5 ∧ n.tmod 5 < 5 := ⟨Int.tmod_nonneg _ hn.1, Int.tmod_lt_of_pos _ (by decide)⟩
  cases lg
  case true =>
    conv => cbv
    repeat' first | refine call_b haw rfl rfl ?_ ?_ | refine call_b hlg rfl rfl ?_ ?_ | (intro hc; cases hc; done) | (intro (_ : Unit); first | omega | rfl | exact ⟨rfl, by omega⟩ | (simp only [nI_eq]; omega) | ((repeat' first | rfl | omega | refine And.intro ?_ ?_ | (simp only [nI_eq]; omega) | exact Nat.le_of_ble_eq_true rfl); done)) | exact trivial | refine And.intro ?_ ?_ | (intro hc; exact absurd hc (by decide)) | (intro hc; exfalso; omega) | (intro hc; (first | rw [wrap_small (by omega) (by omega)] at hc | rw [nI_eq] at hc | skip); try (conv => cbv))
    exact hK
  have hs1 := hstep rfl
  have hsk := hsk rfl
  clear hstep
  generalize hm : n.tmod 5 = m5 at *
  by_cases hcd : m5.toNat + stack.length ≤ 32
  case neg =>
    conv => cbv
    repeat' first | refine call_b haw rfl rfl ?_ ?_ | refine call_b hlg rfl rfl ?_ ?_ | (intro hc; cases hc; done) | (intro c hc; have hc2 : m5 = c := (hc.trans hm).symm; subst hc2; try (conv => cbv)) | (intro (_ : Unit); first | omega | rfl | exact ⟨rfl, by omega⟩ | (simp only [nI_eq]; omega) | ((repeat' first | rfl | omega | refine And.intro ?_ ?_ | (simp only [nI_eq]; omega) | exact Nat.le_of_ble_eq_true rfl); done)) | exact trivial | refine And.intro ?_ ?_ | (intro hc; exact absurd hc (by decide)) | (intro hc; exfalso; omega) | (intro hc; (first | rw [wrap_small (by omega) (by omega)] at hc | rw [nI_eq] at hc | skip); try (conv => cbv))
    all_goals first | exact hK | (exfalso; omega)
  have hs2 := hstep2 rfl hcd
  have hre := hre hcd
  clear hstep2
  have hsi := hsi arcs2 arcs
  have hsm := hsm p2 p1
  have hlike : decide (arcs2 = arcs) = true ∧ r2 = r ∧ (0 < r2 ∨ sameP p2 p1 = true) := by
    obtain ⟨g1, g2, g3⟩ := hre
    refine ⟨decide_eq_true g1, g2, g3.imp (fun g => g) fun g => ?_⟩
    simp only at g; subst g; simp [sameP]
  clear hre
  obtain ⟨id1, src1, dst1, flow1, stack1, hops1⟩ := p1
  obtain ⟨id2, src2, dst2, flow2, stack2, hops2⟩ := p2
  generalize sameP _ _ = sam at *
  generalize decide (arcs2 = arcs) = sai at *
  generalize arcs.map encI = al at *
  generalize arcs2.map encI = al2 at *
  generalize stack1.map encSeg = sl1 at *
  generalize stack2.map encSeg = sl2 at *
  obtain ⟨g1, g2, g3⟩ := hlike
  generalize hrep : List.map encSeg (List.replicate m5.toNat ⟨1, node⟩) ++ sl = rsl at *
  conv => cbv
  repeat' first | refine call_b haw rfl rfl ?_ ?_ | refine call_b hlg rfl rfl ?_ ?_ | (intro hc; cases hc; done) | (intro c hc; have hc2 : m5 = c := (hc.trans hm).symm; subst hc2; try (conv => cbv)) | (intro (_ : Unit); first | omega | rfl | exact ⟨rfl, by omega⟩ | (simp only [nI_eq]; omega) | ((repeat' first | rfl | omega | refine And.intro ?_ ?_ | (simp only [nI_eq]; omega) | exact Nat.le_of_ble_eq_true rfl); done)) | exact trivial | refine And.intro ?_ ?_ | (intro hc; exact absurd hc (by decide)) | (intro hc; exfalso; omega) | (intro hc; (first | rw [wrap_small (by omega) (by omega)] at hc | rw [nI_eq] at hc | skip); try (conv => cbv))
  all_goals try (exfalso; omega)
  have hc2 := hc.symm
  subst hc2
  have slL : sl.length = stack.length := by rw [← slh]; simp
  generalize hN : m5.toNat = N at *
  refine loop_upx N (fun (s : Int × Nat × Nat × Bool × List (List D)) => [(2, .c (.ptr 0 0 0 0)), (5, .c (.ptr 1 0 0 0)), (32, iA m5), (33, iA s.1)])
    (fun s => [.bx [.d (iD nodes), .d (.list false 1 ol), .d (.list false 7 ll), .d (iD node), .d (.list false 3 el), .d (.list false 1 dl), .d (iD id), .d (iD src), .d (iD dst), .d (iD flow), .d (.list false 2 sl), .d (iD hops)],
      .bx [.d (iD id), .d (iD src), .d (iD dst), .d (iD flow), .arr 2 s.2.1 0 s.2.2.1, .d (iD hops)], .da s.2.2.2.1 s.2.1 2 s.2.2.2.2])
    (fun k s => s.1 = k ∧ k ≤ N ∧ s.2.2.1 = s.2.2.2.2.length ∧ s.2.2.2.2 = List.map encSeg (List.replicate k ⟨1, node⟩)) (0, 0, 0, false, [])
    0 (fun (s : Nat × Bool) => [(2, .c (.ptr 0 0 0 0)), (5, .c (.ptr 1 0 0 0))])
    (fun s => [.bx [.d (iD nodes), .d (.list false 1 ol), .d (.list false 7 ll), .d (iD node), .d (.list false 3 el), .d (.list false 1 dl), .d (iD id), .d (iD src), .d (iD dst), .d (iD flow), .d (.list false 2 sl), .d (iD hops)],
      .bx [.d (iD id), .d (iD src), .d (iD dst), .d (iD flow), .arr 2 s.1 0 N, .d (iD hops)], .da s.2 s.1 2 (List.map encSeg (List.replicate N ⟨1, node⟩))]) (fun _ => True)
    (.trans (.nilB 1 4 2 _ rfl rfl) (Wk.cut ⟨_, rfl⟩ (Nat.zero_le _) rfl (by repeat' first | exact trivial | refine And.intro ?_ ?_ | rfl))) ⟨rfl, by omega, rfl, rfl⟩ (fun k s h => h.2.1) ?_ ?_
  · rintro k ⟨i, ve, m, r0, es⟩ Q' ⟨hi, hk, hml, hes⟩ norm jn ex rt
    simp only at hi hml hes
    have hel : es.length = k := by rw [hes]; simp
    by_cases hlt : k < N
    · conv => cbv
      repeat' first | (refine ex _ _ _ ?_; (conv => cbv)) | (intro (_ : Unit); refine ⟨rfl, ?_⟩; simp only [List.length_cons, List.length_nil]; omega) | (intro (_ : Unit); first | omega | rfl | exact ⟨rfl, by omega⟩ | (simp only [nI_eq]; omega) | ((repeat' first | rfl | omega | refine And.intro ?_ ?_ | (simp only [nI_eq]; omega) | exact Nat.le_of_ble_eq_true rfl); done)) | exact trivial | refine And.intro ?_ ?_ | (intro hc; exact absurd hc (by decide)) | (intro hc; exfalso; omega) | (intro hc; (first | rw [wrap_small (by omega) (by omega)] at hc | rw [nI_eq] at hc | skip); try (conv => cbv))
      rename_i m' r' es2 hm' hr' he' i'
      refine norm _ _ (_, _, _, _, _) ?_ (Wk.cut ⟨_, rfl⟩ (Nat.zero_le _) rfl (by repeat' first | exact trivial | refine And.intro ?_ ?_ | rfl))
      have e : es2 = List.map encSeg (List.replicate (k + 1) ⟨1, node⟩) := by
        rw [he', List.drop_zero, hml, List.take_length, hes, List.replicate_succ', List.map_append]; rfl
      exact ⟨by simp only; omega, by omega, by simp only; rw [hm', he', List.drop_zero, hml, List.take_length]; simp, e⟩
    · conv => cbv
      repeat' first | (intro (_ : Unit); first | omega | rfl | exact ⟨rfl, by omega⟩ | (simp only [nI_eq]; omega) | ((repeat' first | rfl | omega | refine And.intro ?_ ?_ | (simp only [nI_eq]; omega) | exact Nat.le_of_ble_eq_true rfl); done)) | exact trivial | refine And.intro ?_ ?_ | (intro hc; exact absurd hc (by decide)) | (intro hc; exfalso; omega) | (intro hc; (first | rw [wrap_small (by omega) (by omega)] at hc | rw [nI_eq] at hc | skip); try (conv => cbv))
      have e : k = N := by omega
      subst e
      subst hes
      rw [List.length_map, List.length_replicate] at hml
      subst hml
      exact jn _ _ (_, _) trivial (Wk.cut ⟨_, rfl⟩ (Nat.zero_le _) rfl (by repeat' first | exact trivial | refine And.intro ?_ ?_ | rfl))
  rintro ⟨ve, r0⟩ -
  generalize hrl : List.map encSeg (List.replicate N ⟨1, node⟩) = rl at *
  have hrlL : rl.length = N := by rw [← hrl]; simp
  conv => cbv
  repeat' first | (intro (_ : Unit); refine ⟨rfl, ?_⟩; rw [slL]; omega) | (intro (_ : Unit); first | omega | rfl | exact ⟨rfl, by omega⟩ | (simp only [nI_eq]; omega) | ((repeat' first | rfl | omega | refine And.intro ?_ ?_ | (simp only [nI_eq]; omega) | exact Nat.le_of_ble_eq_true rfl); done)) | exact trivial | refine And.intro ?_ ?_ | (intro hc; exact absurd hc (by decide)) | (intro hc; exfalso; omega) | (intro hc; (first | rw [wrap_small (by omega) (by omega)] at hc | rw [nI_eq] at hc | skip); try (conv => cbv))
  rename_i m' r' es2 hm' hr'
  have e : es2 = rsl := by rw [hc, ← hrep, List.drop_zero, ← hrlL, List.take_length]
  subst e
  (refine call_z 2 (ve + 1) 2 m' rfl (by rw [hm', ← hrep]; simp; omega) (by simp [okL, okA, okCs, okC, bq_lit]) (by first | (simp [okH, okB, okCs, okC]; done) | simp [okH, okB, okCs, okC, bq_lit]) ?_; simp only [zL, zA, zCs, zC, zH, zB, bq_self, bq_old]; conv => cbv)
  repeat' first | (refine call_r hs2 rfl rfl ?_; conv => cbv) | (refine call_r hs1 rfl rfl ?_; conv => cbv) | refine call_b hsi rfl rfl ?_ ?_ | refine call_b hsm rfl rfl ?_ ?_ | (intro (_ : Unit); first | omega | rfl | exact ⟨rfl, by omega⟩ | (simp only [nI_eq]; omega) | ((repeat' first | rfl | omega | refine And.intro ?_ ?_ | (simp only [nI_eq]; omega) | exact Nat.le_of_ble_eq_true rfl); done)) | exact trivial | refine And.intro ?_ ?_ | (intro hc; exact absurd hc (by decide)) | (intro hc; exfalso; omega) | (intro hc; (first | rw [wrap_small (by omega) (by omega)] at hc | rw [nI_eq] at hc | skip); try (conv => cbv))
  all_goals try exact hK
  all_goals (exfalso; first | omega | (exact absurd ‹sai = false› (by rw [g1]; decide)) | (rcases g3 with g3 | g3; omega; exact absurd ‹sam = false› (by rw [g3]; decide)))

end Go.Ab
