/-
  Merged texts, part o.
-/
import Derived.Test.YtlmddegckmbgkaaZn
/-
  The statements of chapter 23, part l: the stack of a packet that leaves is new memory.
-/
namespace Go.Ab
open Go.Proofs
theorem seg_set {l : List Seg} {i : Nat} {k n : Int} : (l.map encSeg).set i [iD k, iD n] = (l.set i ⟨k, n⟩).map encSeg := by
 rw [List.map_set]; rfl
set_option maxHeartbeats 4000000 in
theorem apart_law (P : Program) (hP : P = Try.prog) (c : Cas) (hs : sizeC c ≤ 10000000) : Ret P n_law23_ForwardApart [casA c] (bA true) := by
 have haw : Ret P n_law23_awake [] (bA true) := hP ▸ awake_ok
 have hlg := large_ok P hP c hs
 have hstep := fun (h : largeB c = false) => step_new P hP c.t c.x c.p (fit_of h)
 have hrst := fun (h : largeB c = false) => rstep_ok P hP c.t c.x c.p (fit_of h)
 have hsk : largeB c = false → c.p.stack.length ≤ 400 := fun h => by have := (large_no h).1; simp only [sizeC] at this; omega
 have hsm := fun p => same_refl P hP p
 have hbn : (stepS c.t c.x c.p).2.2 = 0 → (stepS c.t c.x c.p).2.1.stack.length ≤ 32 := fun h => ((bnd_step c.t c.x c.p).yes h).2.1
 refine ret_start (hP ▸ mixed) (hP ▸ fn_law23_ForwardApart) (hP ▸ c_law23_ForwardApart) (Nat.le_of_ble_eq_true rfl) fun Λ Λo K hK => ?_
 clear hP
 obtain ⟨t, ⟨node, to, down⟩, ⟨id, src, dst, flow, stack, hops⟩⟩ := c
 simp only at hstep hrst hsk hbn
 generalize largeB _ = lg at *
 have hsm1 := hsm ⟨id, src, dst, flow, stack, hops⟩
 generalize stepS t ⟨node, to, down⟩ ⟨id, src, dst, flow, stack, hops⟩ = st at *
 obtain ⟨arcs, ⟨id1, src1, dst1, flow1, stack1, hops1⟩, r⟩ := st
 have hsm2 := hsm ⟨id1, src1, dst1, flow1, stack1, hops1⟩
 clear hsm
 simp only at hbn
 simp only [casA, tabA, pktA, ansA, tupA, boolsD, linksD, entsD, intsA, intsD, segsD, StkR] at *
 generalize down.map encI = dl at *
 generalize List.map encEnt to = el at *
 generalize slh : List.map encSeg stack = sl at *
 have sln : Λ sl = stack.length := by rw [Λo, ← slh]; simp
 have slL : sl.length = stack.length := by rw [← slh]; simp
 generalize arcs.map encI = al at *
 generalize slh1 : stack1.map encSeg = sl1 at *
 have sl1L : sl1.length = stack1.length := by rw [← slh1]; simp
 obtain ⟨nodes, ov, links⟩ := t
 simp only [topA, boolsD, linksD] at *
 generalize hol : ov.map encB = ol at *
 generalize hll : links.map encLk = ll at *
 have hlo : Λ ol = ov.length := by rw [Λo, ← hol]; simp
 have hls : Λ ll = links.length := by rw [Λo, ← hll]; simp
 cases lg
 case true =>
  conv => cbv
  repeat' first | refine call_b haw rfl rfl ?_ ?_ | refine call_b hlg rfl rfl ?_ ?_ | (intro hc; cases hc; done) | exact gu | exact trivial | refine And.intro ?_ ?_ | (intro hc; exact absurd hc (by decide)) | (intro hc; exfalso; omega) | (intro hc; (first | rw [wrap_small (by omega) (by omega)] at hc | rw [nI_eq] at hc | skip); try (conv => cbv))
  exact hK
 have hs1 := hstep rfl
 have hs2 := hrst rfl
 have hsk := hsk rfl
 clear hstep hrst
 conv => cbv
 repeat' first | refine call_b haw rfl rfl ?_ ?_ | refine call_b hlg rfl rfl ?_ ?_ | (intro hc; cases hc; done) | exact gu | exact trivial | refine And.intro ?_ ?_ | (intro hc; exact absurd hc (by decide)) | (intro hc; exfalso; omega) | (intro hc; (first | rw [wrap_small (by omega) (by omega)] at hc | rw [nI_eq] at hc | skip); try (conv => cbv))
 rename_i n1 r1 es1 hn1 hr1
 obtain rfl : es1 = sl := by rw [hc]; simp
 (refine call_z 2 1 2 n1 rfl (by rw [hn1]; simp) (by repeat' first | exact trivial | refine And.intro ?_ ?_ | rfl) (by repeat' first | exact trivial | refine And.intro ?_ ?_ | rfl) ?_; conv => cbv)
 refine call_newC mkS_ok hs1 rfl rfl ?_
 intro nl c T hn
 rcases hn with ⟨k, rl, rfl, rfl, hk⟩ | ⟨hnil, nk, rfl, rfl⟩
 ·conv => cbv
  repeat' first | exact gu | exact trivial | refine And.intro ?_ ?_ | (intro hc; exact absurd hc (by decide)) | (intro hc; exfalso; omega) | (intro hc; (first | rw [wrap_small (by omega) (by omega)] at hc | rw [nI_eq] at hc | skip); try (conv => cbv))
  ·exact hK
  ·rename_i kz hkz
   refine loop_up k (fun s : Int × List (List D) => [(1, .c (.ptr 0 0 0 0)), (3, .c (.ptr 1 0 0 0)), (5, .c (.ptr 4 0 0 0)), (40, iA kz), (41, iA s.1)])
    (fun s => [.bx [.d (iD nodes), .d (.list false 1 ol), .d (.list false 7 ll), .d (iD node), .d (.list false 3 el), .d (.list false 1 dl), .d (iD id), .d (iD src), .d (iD dst), .d (iD flow), .d (.list false 2 es1), .d (iD hops)],
     .bx [.d (iD id), .d (iD src), .d (iD dst), .d (iD flow), .d (.list false 2 es1), .d (iD hops)], .dead, .da rl 1 2 s.2, .bx [.d (iD id1), .d (iD src1), .d (iD dst1), .d (iD flow1), .arr 3 1 0 k, .d (iD hops1)]])
    (fun j s => s.1 = j ∧ j ≤ k ∧ ∃ l : List Seg, s.2 = l.map encSeg ∧ l.length = k) (0, sl1) (Wk.ca) ⟨rfl, by omega, stack1, slh1.symm, by omega⟩ (fun j s h => h.2.1) ?_
   rintro j ⟨i, es⟩ Q' ⟨hi, hj, l, hes, hll2⟩ norm ex rt
   simp only at hi hes
   have esl : es.length = k := by rw [hes, List.length_map]; exact hll2
   by_cases hlt : j < k
   ·obtain ⟨⟨xk, xn⟩, hx⟩ : ∃ x, l[j]? = some x := ⟨_, List.getElem?_eq_getElem (by omega)⟩
    obtain ⟨jj, hjj⟩ : ∃ jj, jj = j := ⟨_, rfl⟩
    have hxa : es[jj]? = some [iD xk, iD xn] := by rw [hes, hjj, List.getElem?_map, hx]; rfl
    have hxb : es[i.toNat]? = some [iD xk, iD xn] := by rw [show i.toNat = jj by omega]; exact hxa
    obtain ⟨y, hy⟩ : ∃ y, y = IntKind.i64.wrap (xn + 1) := ⟨_, rfl⟩
    obtain ⟨es2, hes2⟩ : ∃ es2, es2 = es.set jj [iD xk, iD y] := ⟨_, rfl⟩
    clear hs1 hs2 hsm1 hsm2
    conv => cbv
    repeat' first | (refine ex _ _ _ ?_; (conv => cbv)) | (refine rt _ _ ?_; (conv => cbv)) | (intro (z : Int) (hz : z = IntKind.i64.wrap (xn + 1)); refine (fun (hq : y = z) => ?_) (hy.trans hz.symm); subst hq; (conv => cbv)) | (intro (k : Nat) hk; refine (fun (hz : jj = k) => ?_) ?_; rotate_left; omega; subst hz; (conv => cbv)) | (intro (e : List D) he; cases Option.some.inj (he.symm.trans hxa); (conv => cbv)) | (intro (e : List D) he; cases Option.some.inj (he.symm.trans hxb); (conv => cbv)) | (intro (x : List (List D)) (hx : x = es.set jj [iD xk, iD y]); refine (fun (hz : es2 = x) => ?_) (hes2.trans hx.symm); subst hz; (conv => cbv)) | exact gu | exact trivial | refine And.intro ?_ ?_ | (intro hc; exact absurd hc (by decide)) | (intro hc; exfalso; omega) | (intro hc; (first | rw [wrap_small (by omega) (by omega)] at hc | rw [nI_eq] at hc | skip); try (conv => cbv))
    rename_i i2
    refine norm _ _ (i2, es2) ?_ (Wk.ca)
    exact ⟨by simp only; omega, by omega, l.set jj ⟨xk, y⟩, by simp only; rw [hes2, hes, seg_set], by rw [List.length_set]; exact hll2⟩
   ·conv => cbv
    repeat' first | (refine ex _ _ _ ?_; (conv => cbv)) | (refine rt _ _ ?_; (conv => cbv)) | exact gu | exact trivial | refine And.intro ?_ ?_ | (intro hc; exact absurd hc (by decide)) | (intro hc; exfalso; omega) | (intro hc; (first | rw [wrap_small (by omega) (by omega)] at hc | rw [nI_eq] at hc | skip); try (conv => cbv))
    refine call_newC mkS_ok hs1 rfl rfl ?_
    intro nl2 c2 T2 hn2
    rcases hn2 with ⟨k2, rl2, rfl, rfl, hk2⟩ | ⟨hnil2, nk2, rfl, rfl⟩
    ·conv => cbv
     repeat' first | (refine call_r hs2 rfl rfl ?_; conv => cbv) | refine call_b hsm1 rfl rfl ?_ ?_ | (refine call_z 5 1 2 k2 rfl hk2 (by repeat' first | exact trivial | refine And.intro ?_ ?_ | rfl) (by repeat' first | exact trivial | refine And.intro ?_ ?_ | rfl) ?_; conv => cbv) | refine call_b hsm2 rfl rfl ?_ ?_ | exact gu | exact trivial | refine And.intro ?_ ?_ | (intro hc; exact absurd hc (by decide)) | (intro hc; exfalso; omega) | (intro hc; (first | rw [wrap_small (by omega) (by omega)] at hc | rw [nI_eq] at hc | skip); try (conv => cbv))
     all_goals exact hK
    ·subst hnil2
     conv => cbv
     repeat' first | (refine call_r hs2 rfl rfl ?_; conv => cbv) | refine call_b hsm1 rfl rfl ?_ ?_ | refine call_b hsm2 rfl rfl ?_ ?_ | exact gu | exact trivial | refine And.intro ?_ ?_ | (intro hc; exact absurd hc (by decide)) | (intro hc; exfalso; omega) | (intro hc; (first | rw [wrap_small (by omega) (by omega)] at hc | rw [nI_eq] at hc | skip); try (conv => cbv))
     all_goals exact hK
 ·conv => cbv
  repeat' first | exact gu | exact trivial | refine And.intro ?_ ?_ | (intro hc; exact absurd hc (by decide)) | (intro hc; exfalso; omega) | (intro hc; (first | rw [wrap_small (by omega) (by omega)] at hc | rw [nI_eq] at hc | skip); try (conv => cbv))
  ·exact hK
  ·have h00 : Λ ([] : List (List D)) = 0 := by rw [Λo]; rfl
   refine loop_up 0 (fun s : Int => [(1, .c (.ptr 0 0 0 0)), (3, .c (.ptr 1 0 0 0)), (5, .c (.ptr 3 0 0 0)), (40, iA (Λ [])), (41, iA s)])
    (fun s => [.bx [.d (iD nodes), .d (.list false 1 ol), .d (.list false 7 ll), .d (iD node), .d (.list false 3 el), .d (.list false 1 dl), .d (iD id), .d (iD src), .d (iD dst), .d (iD flow), .d (.list false 2 es1), .d (iD hops)],
     .bx [.d (iD id), .d (iD src), .d (iD dst), .d (iD flow), .d (.list false 2 es1), .d (iD hops)], .dead, .bx [.d (iD id1), .d (iD src1), .d (iD dst1), .d (iD flow1), .d (.list nk 2 []), .d (iD hops1)]])
    (fun j s => j = 0 ∧ s = 0) 0 (Wk.ca) ⟨rfl, rfl⟩ (fun j s h => by omega) ?_
   rintro j i Q' ⟨_, hi⟩ norm ex rt
   clear norm
   conv => cbv
   repeat' first | (refine ex _ _ _ ?_; (conv => cbv)) | (refine rt _ _ ?_; (conv => cbv)) | exact gu | exact trivial | refine And.intro ?_ ?_ | (intro hc; exact absurd hc (by decide)) | (intro hc; exfalso; omega) | (intro hc; (first | rw [wrap_small (by omega) (by omega)] at hc | rw [nI_eq] at hc | skip); try (conv => cbv))
   refine call_newC mkS_ok hs1 rfl rfl ?_
   intro nl2 c2 T2 hn2
   rcases hn2 with ⟨k2, rl2, rfl, rfl, hk2⟩ | ⟨hnil2, nk2, rfl, rfl⟩
   ·conv => cbv
    repeat' first | (refine call_r hs2 rfl rfl ?_; conv => cbv) | refine call_b hsm1 rfl rfl ?_ ?_ | (refine call_z 4 1 2 k2 rfl hk2 (by repeat' first | exact trivial | refine And.intro ?_ ?_ | rfl) (by repeat' first | exact trivial | refine And.intro ?_ ?_ | rfl) ?_; conv => cbv) | refine call_b hsm2 rfl rfl ?_ ?_ | exact gu | exact trivial | refine And.intro ?_ ?_ | (intro hc; exact absurd hc (by decide)) | (intro hc; exfalso; omega) | (intro hc; (first | rw [wrap_small (by omega) (by omega)] at hc | rw [nI_eq] at hc | skip); try (conv => cbv))
    all_goals exact hK
   ·subst hnil2
    conv => cbv
    repeat' first | (refine call_r hs2 rfl rfl ?_; conv => cbv) | refine call_b hsm1 rfl rfl ?_ ?_ | refine call_b hsm2 rfl rfl ?_ ?_ | exact gu | exact trivial | refine And.intro ?_ ?_ | (intro hc; exact absurd hc (by decide)) | (intro hc; exfalso; omega) | (intro hc; (first | rw [wrap_small (by omega) (by omega)] at hc | rw [nI_eq] at hc | skip); try (conv => cbv))
    all_goals exact hK
end Go.Ab

