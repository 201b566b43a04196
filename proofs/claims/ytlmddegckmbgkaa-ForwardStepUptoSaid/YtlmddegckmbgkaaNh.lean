/-
  The statements of chapter 23, part h: the specification's step, and the two steps compared.
-/
import Derived.Test.YtlmddegckmbgkaaNg
namespace Go.Ab
open Go.Proofs

theorem wk_z {m : Nat} {L : Lv} {h : Hp} (l v sz k : Nat) {r : Bool} {es : List (List D)} (hl : h[l]? = some (.da r v sz es)) (hk : k = es.length) (h1 : okL l v k L) (h2 : okH l v k h) : Wk m L h (zL l v sz es L) (zH l v sz es 0 h) :=
  .fz l v sz r es hl (fun i => .inr (by rw [← lkN_eq, ← lkN_eq, lkN_z]; exact zA_ok hk (okL_get h1 i))) (zH_ok hk h2)

set_option maxHeartbeats 4000000 in
theorem rstep_ok (P : Program) (hP : P = Try.prog) (t : Top) (x : Tab) (p : Pkt) (hf : Fit x p) : Ret P n_ref23_Step [topA t, tabA x, pktA p] (ansA (stepS t x p)) := by
  have hval := rtableValid_ok P hP t x
  have hrt := fun l (hl : l.length ≤ 1000) (hv : tabB t x = true) => rroute_ok P hP t x p l hf hl (tabB_spec.1 hv).2.2.1
  refine ret_start (hP ▸ mixed) (hP ▸ fn_ref23_Step) (hP ▸ c_ref23_Step) (Nat.le_of_ble_eq_true rfl) fun Λ Λo K hK => ?_
  clear hP
  have k1 : ¬ (tabB t x = true ∧ 0 ≤ p.dst ∧ p.dst < t.nodes) → K (ansA ([], p, 1)) := by
    intro h; unfold stepS at hK; rw [if_neg h] at hK; exact hK
  have k2 : (tabB t x = true ∧ 0 ≤ p.dst ∧ p.dst < t.nodes) → p.stack.length > 32 → K (ansA ([], p, 5)) := by
    intro h h'; unfold stepS at hK; rw [if_pos h, if_pos h'] at hK; exact hK
  have k3 : (tabB t x = true ∧ 0 ≤ p.dst ∧ p.dst < t.nodes) → ¬ p.stack.length > 32 → K (ansA (fin p (rroute t x p (skipS x.node p.stack)))) := by
    intro h h'; unfold stepS at hK; rw [if_pos h, if_neg h'] at hK; rw [fin_route h.1]; exact hK
  clear hK
  have hskip : ∀ s r, s = ⟨1, x.node⟩ → skipS x.node (s :: r) = skipS x.node r := by intro s r h; subst h; simp [skipS]
  have hskip' : ∀ s r, s ≠ ⟨1, x.node⟩ → skipS x.node (s :: r) = s :: r := by intro s r h; simp [skipS, h]
  have hsn : skipS x.node [] = [] := rfl
  have hhops : ∀ l, (rroute t x p l).2.2 = 0 → 0 ≤ p.hops ∧ p.hops < 255 := fun l h => rroute_hops h
  generalize skipS x.node = sk at *
  generalize rroute t x p = rs at *
  generalize tabB t x = vb at *
  obtain ⟨nodes, ov, links⟩ := t
  obtain ⟨node, to, down⟩ := x
  obtain ⟨id, src, dst, flow, stack, hops⟩ := p
  simp only [topA, tabA, entsD, boolsD, linksD, pktA, ansA, tupA, intsA, intsD, segsD, List.map_nil] at *
  generalize hol : ov.map encB = ol at *
  generalize hll : links.map encLk = ll at *
  generalize htl : to.map encEnt = tl at *
  generalize hdl : down.map encI = dl at *
  generalize slh : List.map encSeg stack = sl at *
  have sln : Λ sl = stack.length := by rw [Λo, ← slh]; simp
  have slL : sl.length = stack.length := by rw [← slh]; simp
  have hf2 : stack.length ≤ 1000 := hf.2
  by_cases hcd : (vb = true ∧ 0 ≤ dst ∧ dst < nodes) ∧ ¬ stack.length > 32
  case neg =>
    cases vb
    all_goals conv => cbv
    all_goals repeat' first | refine call_b hval rfl rfl ?_ ?_ | (intro hc; cases hc; done) | (intro (_ : Unit); first | omega | rfl | exact ⟨rfl, by omega⟩ | (simp only [nI_eq]; omega) | ((repeat' first | rfl | omega | refine And.intro ?_ ?_ | (simp only [nI_eq]; omega) | exact Nat.le_of_ble_eq_true rfl); done)) | exact trivial | refine And.intro ?_ ?_ | (intro hc; exact absurd hc (by decide)) | (intro hc; exfalso; omega) | (intro hc; (first | rw [wrap_small (by omega) (by omega)] at hc | rw [nI_eq] at hc | skip); try (conv => cbv))
    all_goals first
      | (refine k1 ?_; intro h; exact absurd h.1 (by decide))
      | (refine k1 ?_; intro h; omega)
      | (refine k2 ⟨rfl, ?_, ?_⟩ ?_ <;> omega)
      | (exfalso; exact hcd ⟨⟨rfl, by omega, by omega⟩, by omega⟩)
  obtain ⟨⟨hv, hd1, hd2⟩, hlen⟩ := hcd
  subst hv
  have kr := k3 ⟨rfl, hd1, hd2⟩ hlen
  clear k1 k2 k3
  conv => cbv
  repeat' first | refine call_b hval rfl rfl ?_ ?_ | (intro hc; cases hc; done) | (intro (_ : Unit); first | omega | rfl | exact ⟨rfl, by omega⟩ | (simp only [nI_eq]; omega) | ((repeat' first | rfl | omega | refine And.intro ?_ ?_ | (simp only [nI_eq]; omega) | exact Nat.le_of_ble_eq_true rfl); done)) | exact trivial | refine And.intro ?_ ?_ | (intro hc; exact absurd hc (by decide)) | (intro hc; exfalso; omega) | (intro hc; (first | rw [wrap_small (by omega) (by omega)] at hc | rw [nI_eq] at hc | skip); try (conv => cbv))
  all_goals try (exfalso; omega)
  rename_i n1 r1 es1 hn1 hr1
  obtain rfl : es1 = sl := by rw [hc]; simp
  refine loop_upx stack.length (fun (s : List Seg) => [(3, .c (.ptr 0 0 0 0)), (4, .c (.ptr 1 0 0 0)), (5, .c (.ptr 2 0 0 0)), (6, .c (.d (.list true 1 []))), (7, .c (.ptr 3 0 0 0)), (8, iA 0), (9, .c (.d (.list false 2 (s.map encSeg))))]) (fun _ => stepH nodes ol ll node tl dl id src dst flow es1 hops) (fun k s => s.length + k = stack.length ∧ sk s = sk stack) stack
    1 (fun (s : List Seg) => [(3, .c (.ptr 0 0 0 0)), (4, .c (.ptr 1 0 0 0)), (5, .c (.ptr 2 0 0 0)), (6, .c (.d (.list true 1 []))), (7, .c (.ptr 3 0 0 0)), (8, iA 0), (9, .c (.d (.list false 2 (s.map encSeg))))]) (fun _ => stepH nodes ol ll node tl dl id src dst flow es1 hops) (fun s => s.length ≤ 1000 ∧ sk stack = s)
    (by rw [slh]; exact .trans (wk_z 4 1 2 n1 rfl (by rw [hn1]; simp) (by repeat' first | exact trivial | refine And.intro ?_ ?_ | rfl) (by repeat' first | exact trivial | refine And.intro ?_ ?_ | rfl)) (Wk.cut ⟨_, rfl⟩ (Nat.zero_le _) rfl (by repeat' first | exact trivial | refine And.intro ?_ ?_ | rfl))) ⟨by omega, rfl⟩ (fun k s h => by omega) ?_ ?_
  · rintro k s Q' ⟨hk, hs⟩ norm jn ex rt
    have hj : ∀ L' h', sk s = s → Wk 0 L' h' [(3, .c (.ptr 0 0 0 0)), (4, .c (.ptr 1 0 0 0)), (5, .c (.ptr 2 0 0 0)), (6, .c (.d (.list true 1 []))), (7, .c (.ptr 3 0 0 0)), (8, iA 0), (9, .c (.d (.list false 2 (s.map encSeg))))] (stepH nodes ol ll node tl dl id src dst flow es1 hops) → Q' (.exit 1) L' h' := fun L' h' hw => jn L' h' s ⟨by omega, by rw [← hs, hw]⟩
    generalize rlh : List.map encSeg s = rl at *
    have rln : Λ rl = s.length := by rw [Λo, ← rlh]; simp
    conv => cbv
    repeat' first | (intro e he; obtain ⟨⟨xk, xn⟩, hx, rfl⟩ := map_get' rlh he; (conv => cbv)) | (intro (_ : Unit); first | omega | rfl | exact ⟨rfl, by omega⟩ | (simp only [nI_eq]; omega) | ((repeat' first | rfl | omega | refine And.intro ?_ ?_ | (simp only [nI_eq]; omega) | exact Nat.le_of_ble_eq_true rfl); done)) | exact trivial | refine And.intro ?_ ?_ | (intro hc; exact absurd hc (by decide)) | (intro hc; exfalso; omega) | (intro hc; (first | rw [wrap_small (by omega) (by omega)] at hc | rw [nI_eq] at hc | skip); try (conv => cbv))
    · rename_i hxe rl'
      cases s with
      | nil => cases hx
      | cons s0 r =>
        cases hx
        have e : rl' = r.map encSeg := by rw [hc, ← rlh]; rfl
        subst e
        refine norm _ _ r ?_ (Wk.cut ⟨_, rfl⟩ (Nat.zero_le _) rfl (by repeat' first | exact trivial | refine And.intro ?_ ?_ | rfl))
        rw [hskip _ _ (by rw [hxe.1, hxe.2.1])] at hs
        simp only [List.length_cons] at hk
        exact ⟨by omega, hs⟩
    all_goals refine hj _ _ ?_ (Wk.cut ⟨_, rfl⟩ (Nat.zero_le _) rfl (by repeat' first | exact trivial | refine And.intro ?_ ?_ | rfl))
    · cases s with
      | nil => exact hsn
      | cons s0 r =>
        cases hx
        refine hskip' _ _ fun h => hc ?_
        injection h with h1 h2
        exact ⟨h1, h2, trivial⟩
    · cases s with
      | nil => exact hsn
      | cons s0 r => exfalso; simp only [List.length_cons] at rln; omega
  rintro s ⟨hsl, hsk⟩
  rw [hsk] at kr
  clear hskip hskip' hsn hsk
  have hrt := hrt s hsl rfl
  have hh := hhops s
  clear hhops
  generalize rs s = a at *
  obtain ⟨ra, rl, rr⟩ := a
  have f1 : rr = -1 → K (ansA (ra, ⟨id, src, dst, flow, [], hops⟩, rr)) := fun h => by simpa [fin, ansA, tupA, pktA, intsA, intsD, segsD, h] using kr
  have f2 : rr = 0 → K (ansA (ra, ⟨id, src, dst, flow, rl, hops + 1⟩, rr)) := fun h => by simpa [fin, ansA, tupA, pktA, intsA, intsD, segsD, h] using kr
  have f3 : rr ≠ -1 → rr ≠ 0 → K (ansA (ra, ⟨id, src, dst, flow, stack, hops⟩, rr)) := fun h h' => by simpa [fin, ansA, tupA, pktA, intsA, intsD, segsD, h, h'] using kr
  clear kr
  simp only [ansA, rA, tupA, pktA, intsA, intsD, segsA, segsD, List.map_nil] at f1 f2 f3 hrt hh
  rw [slh] at f3
  generalize hsm : List.map encSeg s = sm at *
  generalize List.map encI ra = ral at *
  generalize List.map encSeg rl = rll at *
  conv => cbv
  repeat' first | (refine call_r hrt rfl rfl ?_; conv => cbv) | (intro (_ : Unit); first | omega | rfl | exact ⟨rfl, by omega⟩ | (simp only [nI_eq]; omega) | ((repeat' first | rfl | omega | refine And.intro ?_ ?_ | (simp only [nI_eq]; omega) | exact Nat.le_of_ble_eq_true rfl); done)) | exact trivial | refine And.intro ?_ ?_ | (intro hc; exact absurd hc (by decide)) | (intro hc; exfalso; omega) | (intro hc; (first | rw [wrap_small (by omega) (by omega)] at hc | rw [nI_eq] at hc | skip); try (conv => cbv))
  all_goals first
    | exact f1 (by omega)
    | exact f3 (by omega) (by omega)
    | (have hh := hh (by omega); have g := f2 (by omega); rw [hc] at *; exact g)
    | trace_state

end Go.Ab
