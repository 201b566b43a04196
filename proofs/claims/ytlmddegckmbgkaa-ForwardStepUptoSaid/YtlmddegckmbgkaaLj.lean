/-
  Contracts, part j: forward.Step.
-/
import Derived.Test.YtlmddegckmbgkaaLi
namespace Go.Ab
open Go.Proofs

abbrev Ans := List Int × Pkt × Int
def ent (x : Tab) (n : Int) : Ety := x.to.getD n.toNat default
def plainS (t : Top) (x : Tab) (p : Pkt) : Ans :=
  if p.dst = x.node then ([], {p with stack := []}, -1)
  else if p.hops < 0 ∨ 255 ≤ p.hops then ([], p, 4)
  else if (0 ≤ p.dst ∧ p.dst < t.nodes) ∧ 0 < (ent x p.dst).arcs.length then enterS p [] (ent x p.dst) else ([], p, 1)
def routeS (t : Top) (x : Tab) (p : Pkt) : List Seg → Ans
  | [] => plainS t x p
  | s :: r =>
    if p.hops < 0 ∨ 255 ≤ p.hops then ([], p, 4)
    else if s.kind = 1 then (if (0 ≤ s.num ∧ s.num < t.nodes) ∧ 0 < (ent x s.num).arcs.length then enterS p (s :: r) (ent x s.num) else plainS t x p)
    else if s.kind = 2 then (if (0 ≤ s.num ∧ s.num < 2 * t.links.length) ∧ tailG t s.num = x.node then (if s.num ∈ x.down then plainS t x p else leaveS p r [s.num]) else ([], p, 2))
    else ([], p, 1)
def skipS (n : Int) (l : List Seg) : List Seg := l.dropWhile fun s => decide (s = ⟨1, n⟩)
def stepS (t : Top) (x : Tab) (p : Pkt) : Ans :=
  if tabB t x = true ∧ 0 ≤ p.dst ∧ p.dst < t.nodes then (if p.stack.length > 32 then ([], p, 5) else routeS t x p (skipS x.node p.stack)) else ([], p, 1)

theorem plain_K {K : Ans → Prop} {t : Top} {x : Tab} {p : Pkt} (h : K (plainS t x p)) :
    (p.dst = x.node → K ([], {p with stack := []}, -1)) ∧ (p.dst ≠ x.node → (p.hops < 0 ∨ 255 ≤ p.hops) → K ([], p, 4)) ∧
    (p.dst ≠ x.node → ¬ (p.hops < 0 ∨ 255 ≤ p.hops) → (0 ≤ p.dst ∧ p.dst < t.nodes) → 0 < (ent x p.dst).arcs.length → K (enterS p [] (ent x p.dst))) ∧
    (p.dst ≠ x.node → ¬ (p.hops < 0 ∨ 255 ≤ p.hops) → ¬ ((0 ≤ p.dst ∧ p.dst < t.nodes) ∧ 0 < (ent x p.dst).arcs.length) → K ([], p, 1)) := by
  unfold plainS at h
  refine ⟨fun h1 => ?_, fun h1 h2 => ?_, fun h1 h2 h3 h4 => ?_, fun h1 h2 h3 => ?_⟩
  · rw [if_pos h1] at h; exact h
  · rw [if_neg h1, if_pos h2] at h; exact h
  · rw [if_neg h1, if_neg h2, if_pos ⟨h3, h4⟩] at h; exact h
  · rw [if_neg h1, if_neg h2, if_neg h3] at h; exact h

theorem route_K {K : Ans → Prop} {t : Top} {x : Tab} {p : Pkt} {s : Seg} {r : List Seg} (h : K (routeS t x p (s :: r))) :
    ((p.hops < 0 ∨ 255 ≤ p.hops) → K ([], p, 4)) ∧
    (¬ (p.hops < 0 ∨ 255 ≤ p.hops) → s.kind = 1 → (0 ≤ s.num ∧ s.num < t.nodes) → 0 < (ent x s.num).arcs.length → K (enterS p (s :: r) (ent x s.num))) ∧
    (¬ (p.hops < 0 ∨ 255 ≤ p.hops) → s.kind = 1 → ¬ ((0 ≤ s.num ∧ s.num < t.nodes) ∧ 0 < (ent x s.num).arcs.length) → K (plainS t x p)) ∧
    (¬ (p.hops < 0 ∨ 255 ≤ p.hops) → s.kind = 2 → ¬ ((0 ≤ s.num ∧ s.num < 2 * t.links.length) ∧ tailG t s.num = x.node) → K ([], p, 2)) ∧
    (¬ (p.hops < 0 ∨ 255 ≤ p.hops) → s.kind = 2 → (0 ≤ s.num ∧ s.num < 2 * t.links.length) → tailG t s.num = x.node → s.num ∈ x.down → K (plainS t x p)) ∧
    (¬ (p.hops < 0 ∨ 255 ≤ p.hops) → s.kind = 2 → (0 ≤ s.num ∧ s.num < 2 * t.links.length) → tailG t s.num = x.node → s.num ∉ x.down → K (leaveS p r [s.num])) ∧
    (¬ (p.hops < 0 ∨ 255 ≤ p.hops) → s.kind ≠ 1 → s.kind ≠ 2 → K ([], p, 1)) := by
  simp only [routeS] at h
  refine ⟨fun h1 => ?_, fun h1 h2 h3 h4 => ?_, fun h1 h2 h3 => ?_, fun h1 h2 h3 => ?_, fun h1 h2 h3 h4 h5 => ?_, fun h1 h2 h3 h4 h5 => ?_, fun h1 h2 h3 => ?_⟩
  · rw [if_pos h1] at h; exact h
  · rw [if_neg h1, if_pos h2, if_pos ⟨h3, h4⟩] at h; exact h
  · rw [if_neg h1, if_pos h2, if_neg h3] at h; exact h
  · rw [if_neg h1, if_neg (by omega), if_pos h2, if_neg h3] at h; exact h
  · rw [if_neg h1, if_neg (by omega), if_pos h2, if_pos ⟨h3, h4⟩, if_pos h5] at h; exact h
  · rw [if_neg h1, if_neg (by omega), if_pos h2, if_pos ⟨h3, h4⟩, if_neg h5] at h; exact h
  · rw [if_neg h1, if_neg h2, if_neg h3] at h; exact h

def Fit (x : Tab) (p : Pkt) : Prop := (∀ e ∈ x.to, e.arcs.length ≤ 1000 ∧ e.push.length ≤ 1000) ∧ p.stack.length ≤ 1000

abbrev stepH (nodes : Int) (ol ll : List (List D)) (node : Int) (tl dl : List (List D)) (id src dst flow : Int) (sl : List (List D)) (hops : Int) : Hp :=
  [.bx [.d (iD nodes), .d (.list false 1 ol), .d (.list false 7 ll)], .bx [.d (iD node), .d (.list false 3 tl), .d (.list false 1 dl)],
   .bx [.d (iD id), .d (iD src), .d (iD dst), .d (iD flow), .d (.list false 2 sl), .d (iD hops)], .bx [.d (iD 0), .d (iD 0), .d (iD 0), .d (iD 0), .d (.list true 2 []), .d (iD 0)]]
abbrev stepL (l : List (List D)) : Lv := [(3, .c (.ptr 0 0 0 0)), (4, .c (.ptr 1 0 0 0)), (5, .c (.ptr 2 0 0 0)), (6, .c (.d (.list true 1 []))), (7, .c (.ptr 3 0 0 0)), (8, iA 0), (9, .c (.d (.list false 2 l)))]

set_option maxHeartbeats 4000000 in
theorem step_ok (P : Program) (hP : P = Try.prog) (t : Top) (x : Tab) (p : Pkt) (hf : Fit x p) : Ret P n_forward_Step [topA t, tabA x, pktA p] (ansA (stepS t x p)) := by
  obtain ⟨hf1, hf2⟩ := hf
  have hval := tableValid_ok P hP t x
  have hnode := fun n => gnode_ok P hP t n
  have harc := fun n => garc_ok P hP t n
  have htail := fun n => gtail_ok P hP t n
  have hcont := fun n => contains_ok P hP x.down n
  have hdrop := fun r => drop_ok P hP p r (by omega)
  have hwith := with_ok P hP p [] (by simp)
  have hleave := fun r n => leave_ok P hP p r [n]
  have henter := fun l e => enter_ok P hP p l e
  refine ret_start (hP ▸ mixed) (hP ▸ fn_forward_Step) (hP ▸ c_forward_Step) (Nat.le_of_ble_eq_true rfl) fun Λ Λo K hK => ?_
  clear hP
  have k1 : ¬ (tabB t x = true ∧ 0 ≤ p.dst ∧ p.dst < t.nodes) → K (ansA ([], p, 1)) := by
    intro h; unfold stepS at hK; rw [if_neg h] at hK; exact hK
  have k2 : (tabB t x = true ∧ 0 ≤ p.dst ∧ p.dst < t.nodes) → p.stack.length > 32 → K (ansA ([], p, 5)) := by
    intro h h'; unfold stepS at hK; rw [if_pos h, if_pos h'] at hK; exact hK
  have k3 : (tabB t x = true ∧ 0 ≤ p.dst ∧ p.dst < t.nodes) → ¬ p.stack.length > 32 → K (ansA (routeS t x p (skipS x.node p.stack))) := by
    intro h h'; unfold stepS at hK; rw [if_pos h, if_neg h'] at hK; exact hK
  clear hK
  have hspec := @tabB_spec t x
  have hpk := @plain_K (fun a => K (ansA a)) t x p
  have hrk := @route_K (fun a => K (ansA a)) t x p
  have hskip : ∀ s r, s = ⟨1, x.node⟩ → skipS x.node (s :: r) = skipS x.node r := by intro s r h; subst h; simp [skipS]
  have hskip' : ∀ s r, s ≠ ⟨1, x.node⟩ → skipS x.node (s :: r) = s :: r := by intro s r h; simp [skipS, h]
  have hsn : skipS x.node [] = [] := rfl
  generalize skipS x.node = sk at *
  generalize hvb : tabB t x = vb at *
  obtain ⟨nodes, ov, links⟩ := t
  obtain ⟨node, to, down⟩ := x
  obtain ⟨id, src, dst, flow, stack, hops⟩ := p
  generalize htg : tailG ⟨nodes, ov, links⟩ = tg at *
  generalize hrs : routeS ⟨nodes, ov, links⟩ ⟨node, to, down⟩ ⟨id, src, dst, flow, stack, hops⟩ = rs at *
  simp only [topA, tabA, entsD, boolsD, linksD, segsA, segsD, pktA, ansA, tupA, intsA, intsD, List.map_nil, List.map_cons, encI] at *
  generalize hol : ov.map encB = ol at *
  generalize hll : links.map encLk = ll at *
  generalize htl : to.map encEnt = tl at *
  have tln : Λ tl = to.length := by rw [Λo, ← htl]; simp
  generalize hdl : down.map encI = dl at *
  generalize slh : List.map encSeg stack = sl at *
  have sln : Λ sl = stack.length := by rw [Λo, ← slh]; simp
  conv => cbv
  repeat' first | refine call_b hval rfl rfl ?_ ?_ | refine call_b (hnode _) rfl rfl ?_ ?_ | (refine call_r (hdrop _) rfl rfl ?_; conv => cbv) | (intro (_ : Unit); first | omega | rfl | exact ⟨rfl, by omega⟩ | (simp only [nI_eq]; omega) | ((repeat' first | rfl | omega | refine And.intro ?_ ?_ | (simp only [nI_eq]; omega) | exact Nat.le_of_ble_eq_true rfl); done)) | exact trivial | refine And.intro ?_ ?_ | (intro hc; exact absurd hc (by decide)) | (intro hc; exfalso; omega) | (intro hc; (first | rw [wrap_small (by omega) (by omega)] at hc | rw [nI_eq] at hc | skip); try (conv => cbv))
  all_goals try simp only [decide_eq_true_eq, decide_eq_false_iff_not] at *
  all_goals try (first | (refine k1 ?_; first | omega | simp_all; done) | (refine k2 ⟨by assumption, by omega, by omega⟩ (by omega)))
  rename_i hvt hd1 _
  have hvt : vb = true := by assumption
  have hd : 0 ≤ dst ∧ dst < nodes := by assumption
  have kr : K (ansA (rs (sk stack))) := k3 ⟨hvt, hd⟩ (by omega)
  have hto : (to.length : Int) = nodes := (hspec.1 hvt).2.2.1
  have hlk : (links.length : Int) ≤ 256 := (validT_spec.1 (hspec.1 hvt).1).2.2.1
  have hento : ∀ n : Int, 0 ≤ n → n < nodes → ∃ a r q, to[n.toNat]? = some ⟨a, r, q⟩ ∧ ent ⟨node, to, down⟩ n = ⟨a, r, q⟩ ∧ a.length ≤ 1000 ∧ q.length ≤ 1000 := by
    intro n h1 h2
    have h3 : to[n.toNat]? = some (to[n.toNat]'(by omega)) := List.getElem?_eq_getElem (by omega)
    have h4 := hf1 _ (List.getElem_mem (l := to) (n := n.toNat) (by omega))
    generalize to[n.toNat]'(by omega) = e at h3 h4
    obtain ⟨a, r, q⟩ := e
    exact ⟨a, r, q, h3, by simp [ent, List.getD, h3], h4⟩
  clear k1 k2 k3 hspec hvb hf1
  refine loop_upx stack.length (fun (s : List Seg) => (10, .c (.ptr 4 0 0 0)) :: stepL (s.map encSeg)) (fun _ => stepH nodes ol ll node tl dl id src dst flow sl hops ++ [.bx [.d (iD 1), .d (iD node)]]) (fun k s => s.length + k = stack.length ∧ sk s = sk stack) stack
    0 (fun (s : List Seg) => stepL (s.map encSeg)) (fun _ => stepH nodes ol ll node tl dl id src dst flow sl hops) (fun s => s.length ≤ 1000 ∧ K (ansA (rs s))) (by rw [slh]; exact Wk.cut ⟨_, rfl⟩ (Nat.zero_le _) rfl (by repeat' first | exact trivial | refine And.intro ?_ ?_ | rfl)) ⟨by omega, rfl⟩ (fun k s h => by omega) ?_ ?_
  · rintro k s Q' ⟨hk, hs⟩ norm jn ex rt
    rw [← hs] at kr
    have hj : ∀ L' h', sk s = s → Wk 0 L' h' (stepL (s.map encSeg)) (stepH nodes ol ll node tl dl id src dst flow sl hops) → Q' (.exit 0) L' h' := fun L' h' hw => jn L' h' s ⟨by omega, by rw [hw] at kr; exact kr⟩
    generalize rlh : List.map encSeg s = rl at *
    have rln : Λ rl = s.length := by rw [Λo, ← rlh]; simp
    conv => cbv
    repeat' first | (intro e he; obtain ⟨⟨xk, xn⟩, hx, rfl⟩ := map_get' rlh he; (conv => cbv)) | (intro (_ : Unit); first | omega | rfl | exact ⟨rfl, by omega⟩ | (simp only [nI_eq]; omega) | ((repeat' first | rfl | omega | refine And.intro ?_ ?_ | (simp only [nI_eq]; omega) | exact Nat.le_of_ble_eq_true rfl); done)) | exact trivial | refine And.intro ?_ ?_ | (intro hc; exact absurd hc (by decide)) | (intro hc; exfalso; omega) | (intro hc; (first | rw [wrap_small (by omega) (by omega)] at hc | rw [nI_eq] at hc | skip); try (conv => cbv))
    · rename_i hxe rl'
      cases s with
      | nil => cases hx
      | cons s0 r =>
        cases hx
        have e : rl' = r.map encSeg := by rw [hc, ← rlh]; rfl
        subst e
        refine norm _ _ r ?_ (Wk.cut ⟨_, rfl⟩ (Nat.zero_le _) rfl (by repeat' first | exact trivial | refine And.intro ?_ ?_ | rfl))
        rw [hskip _ _ (by rw [hxe.1, hxe.2.1])] at hs
        simp only [List.length_cons] at hk
        exact ⟨by omega, hs⟩
    all_goals refine hj _ _ ?_ (Wk.cut ⟨_, rfl⟩ (Nat.zero_le _) rfl (by repeat' first | exact trivial | refine And.intro ?_ ?_ | rfl))
    · cases s with
      | nil => exact hsn
      | cons s0 r =>
        cases hx
        refine hskip' _ _ fun h => hc ?_
        injection h with h1 h2
        exact ⟨h1, h2, trivial⟩
    · cases s with
      | nil => exact hsn
      | cons s0 r => exfalso; simp only [List.length_cons] at rln; omega
  clear kr hskip hskip' hsn
  rintro s ⟨hsl, kr⟩
  generalize hsm : List.map encSeg s = sm
  conv => cbv
  refine loop_up 1 (fun (s : List Seg) => stepL (s.map encSeg)) (fun _ => stepH nodes ol ll node tl dl id src dst flow sl hops) (fun k s => k ≤ 1 ∧ (k = 1 → s = []) ∧ s.length ≤ 1000 ∧ K (ansA (rs s))) s (by rw [hsm]; exact Wk.cut ⟨_, rfl⟩ (Nat.zero_le _) rfl (by repeat' first | exact trivial | refine And.intro ?_ ?_ | rfl)) ⟨by omega, by omega, by omega, kr⟩ (fun k s h => h.1) ?_
  clear kr hsl hsm sm
  rintro k s Q' ⟨hk, hks, hsl, kr⟩ norm ex rt
  cases s with
  | nil =>
    obtain ⟨f1, f2, f3, f4⟩ := hpk (by have := kr; rw [← hrs] at this; exact this)
    obtain ⟨ea, er, eq, hx, he, hb1, hb2⟩ := hento dst hd.1 hd.2
    have hxa : tl[dst.toNat]? = some (encEnt ⟨ea, er, eq⟩) := by rw [← htl]; simp [hx]
    have hen := henter [] ⟨ea, er, eq⟩ (by simp) (Nat.le_trans hf2 (by decide)) (Nat.le_trans hb1 (by decide)) (Nat.le_trans hb2 (by decide))
    rw [he] at f3 f4
    clear norm hrk hpk hento
    generalize enterS ⟨id, src, dst, flow, stack, hops⟩ [] ⟨ea, er, eq⟩ = en at *
    obtain ⟨na, ⟨j1, j2, j3, j4, j5, j6⟩, nr⟩ := en
    simp only [encEnt, entA, intsD, segsD, List.map_nil] at hxa hen f1 f2 f3 f4 ⊢
    generalize ealh : List.map encI ea = eal at *
    have ealn : Λ eal = ea.length := by rw [Λo, ← ealh]; simp
    generalize eqlh : List.map encSeg eq = eql at *
    have eqln : Λ eql = eq.length := by rw [Λo, ← eqlh]; simp
    generalize List.map encI na = nal at *
    generalize List.map encSeg j5 = jl at *
    have hΛ0 : Λ [] = 0 := by rw [Λo]; rfl
    conv => cbv
    repeat' first | (refine ex _ _ _ ?_; (conv => cbv)) | (refine rt _ _ ?_; (conv => cbv)) | (intro e he; cases Option.some.inj (he.symm.trans hxa); (conv => cbv)) | (refine call_r hwith rfl rfl ?_; conv => cbv) | (refine call_r (hdrop _) rfl rfl ?_; conv => cbv) | refine call_b (hnode _) rfl rfl ?_ ?_ | (refine call_r (hen (by omega) (by omega)) rfl rfl ?_; conv => cbv) | (intro (_ : Unit); first | omega | rfl | exact ⟨rfl, by omega⟩ | (simp only [nI_eq]; omega) | ((repeat' first | rfl | omega | refine And.intro ?_ ?_ | (simp only [nI_eq]; omega) | exact Nat.le_of_ble_eq_true rfl); done)) | exact trivial | refine And.intro ?_ ?_ | (intro hc; exact absurd hc (by decide)) | (intro hc; exfalso; omega) | (intro hc; (first | rw [wrap_small (by omega) (by omega)] at hc | rw [nI_eq] at hc | skip); try (conv => cbv))
    all_goals try simp only [decide_eq_true_eq, decide_eq_false_iff_not] at *
    all_goals first
      | (refine f1 ?_; assumption)
      | (refine f2 ?_ ?_; assumption; omega)
      | (refine f3 ?_ ?_ ?_ ?_; assumption; omega; omega; omega)
      | (refine f4 ?_ ?_ ?_; assumption; omega; omega)
  | cons s0 r =>
    obtain ⟨s1, s2⟩ := s0
    obtain rfl : k = 0 := by
      rcases Nat.lt_or_ge k 1 with h | h
      · omega
      · exact absurd (hks (by omega)) (by simp)
    obtain ⟨f1, f2, f3, f4, f5, f6, f7⟩ := hrk (s := ⟨s1, s2⟩) (r := r) kr
    have f3 : ¬ (hops < 0 ∨ 255 ≤ hops) → s1 = 1 → ¬ ((0 ≤ s2 ∧ s2 < nodes) ∧ 0 < (ent ⟨node, to, down⟩ s2).arcs.length) → K (ansA (rs [])) := by rw [← hrs]; exact f3
    have f5 : ¬ (hops < 0 ∨ 255 ≤ hops) → s1 = 2 → (0 ≤ s2 ∧ s2 < 2 * links.length) → tg s2 = node → s2 ∈ down → K (ansA (rs [])) := by rw [← hrs]; exact f5
    simp only at f1 f2 f4 f6 f7
    have hlv := hleave r s2 (by simp only [List.length_cons] at hsl; omega) (by simp)
    have hnx : ∀ L' h', K (ansA (rs [])) → Wk 0 L' h' (stepL []) (stepH nodes ol ll node tl dl id src dst flow sl hops) → Q' .normal L' h' := fun L' h' hK hw => norm L' h' [] ⟨by omega, fun _ => rfl, by simp, hK⟩ hw
    generalize hrlh : List.map encSeg (⟨s1, s2⟩ :: r) = rl at *
    have rln : Λ rl = r.length + 1 := by rw [Λo, ← hrlh]; simp
    have rl0 : rl[(0 : Int).toNat]? = some [iD s1, iD s2] := by rw [← hrlh]; rfl
    have rl1 : List.drop 1 rl = r.map encSeg := by rw [← hrlh]; rfl
    by_cases hs2 : 0 ≤ s2 ∧ s2 < nodes
    · obtain ⟨ea, er, eq, hx, he, hb1, hb2⟩ := hento s2 hs2.1 hs2.2
      have hxa : tl[s2.toNat]? = some (encEnt ⟨ea, er, eq⟩) := by rw [← htl]; simp [hx]
      have hen := henter (⟨s1, s2⟩ :: r) ⟨ea, er, eq⟩ (by omega) (Nat.le_trans hf2 (by decide)) (Nat.le_trans hb1 (by decide)) (Nat.le_trans hb2 (by decide))
      rw [he] at f2 f3
      generalize enterS ⟨id, src, dst, flow, stack, hops⟩ (⟨s1, s2⟩ :: r) ⟨ea, er, eq⟩ = en at *
      obtain ⟨na, ⟨j1, j2, j3, j4, j5, j6⟩, nr⟩ := en
      simp only [hrlh] at hen
      simp only [encEnt, entA, leaveS, intsD, segsD, List.map_nil, List.map_cons, encI] at hxa hen f1 f2 f3 f4 f5 f6 f7 hlv ⊢
      generalize List.map encSeg r = rr at *
      generalize ealh : List.map encI ea = eal at *
      have ealn : Λ eal = ea.length := by rw [Λo, ← ealh]; simp
      generalize eqlh : List.map encSeg eq = eql at *
      have eqln : Λ eql = eq.length := by rw [Λo, ← eqlh]; simp
      generalize List.map encI na = nal at *
      generalize List.map encSeg j5 = jl at *
      clear hpk hento kr norm henter hleave
      conv => cbv
      repeat' first | (refine ex _ _ _ ?_; (conv => cbv)) | (refine rt _ _ ?_; (conv => cbv)) | (intro e he; cases Option.some.inj (he.symm.trans hxa); (conv => cbv)) | (intro e he; cases Option.some.inj (he.symm.trans rl0); (conv => cbv)) | (intro x hx; have e := hx.trans rl1; subst e; (conv => cbv)) | (refine call_r (hdrop _) rfl rfl ?_; conv => cbv) | refine call_b (hnode _) rfl rfl ?_ ?_ | refine call_b (harc _ hlk) rfl rfl ?_ ?_ | refine call_i (htail _ (by simp only [decide_eq_true_eq] at *; omega) (by simp only [decide_eq_true_eq] at *; omega) hlk) rfl rfl ?_ | refine call_b (hcont _) rfl rfl ?_ ?_ | (refine call_r (hen (by omega) (by omega)) rfl rfl ?_; conv => cbv) | (refine call_z 4 0 1 1 rfl rfl (by repeat' first | exact trivial | refine And.intro ?_ ?_ | rfl) (by repeat' first | exact trivial | refine And.intro ?_ ?_ | rfl) ?_; conv => cbv) | (refine call_r (hlv (by omega) (by omega)) rfl rfl ?_; conv => cbv) | (intro (_ : Unit); first | omega | rfl | exact ⟨rfl, by omega⟩ | (simp only [nI_eq]; omega) | ((repeat' first | rfl | omega | refine And.intro ?_ ?_ | (simp only [nI_eq]; omega) | exact Nat.le_of_ble_eq_true rfl); done)) | exact trivial | refine And.intro ?_ ?_ | (intro hc; exact absurd hc (by decide)) | (intro hc; exfalso; omega) | (intro hc; (first | rw [wrap_small (by omega) (by omega)] at hc | rw [nI_eq] at hc | skip); try (conv => cbv))
      all_goals try simp only [decide_eq_true_eq, decide_eq_false_iff_not] at *
      all_goals try subst hc
      all_goals first
        | (refine f1 ?_; omega)
        | (refine f2 ?_ ?_ ?_ ?_; omega; omega; omega; omega)
        | (refine f4 ?_ ?_ ?_; omega; omega; omega)
        | (refine f6 ?_ ?_ ?_ ?_ ?_; omega; omega; omega; omega; assumption)
        | (refine f7 ?_ ?_ ?_; omega; omega; omega)
        | (refine hnx _ _ ?_ (.trans (.fg 9) (Wk.cut ⟨_, rfl⟩ (Nat.zero_le _) rfl (by repeat' first | exact trivial | refine And.intro ?_ ?_ | rfl))); first | (refine f3 ?_ ?_ ?_; omega; omega; omega; done) | (refine f5 ?_ ?_ ?_ ?_ ?_; omega; omega; omega; omega; assumption; done))
        | trace_state
    · simp only [leaveS, List.map_nil, List.map_cons, encI] at f1 f4 f5 f6 f7 hlv ⊢
      generalize List.map encSeg r = rr at *
      clear hpk hento kr norm henter hleave f2
      conv => cbv
      repeat' first | (refine ex _ _ _ ?_; (conv => cbv)) | (refine rt _ _ ?_; (conv => cbv)) | (intro e he; cases Option.some.inj (he.symm.trans rl0); (conv => cbv)) | (intro x hx; have e := hx.trans rl1; subst e; (conv => cbv)) | (refine call_r (hdrop _) rfl rfl ?_; conv => cbv) | refine call_b (hnode _) rfl rfl ?_ ?_ | refine call_b (harc _ hlk) rfl rfl ?_ ?_ | refine call_i (htail _ (by simp only [decide_eq_true_eq] at *; omega) (by simp only [decide_eq_true_eq] at *; omega) hlk) rfl rfl ?_ | refine call_b (hcont _) rfl rfl ?_ ?_ | (refine call_z 4 0 1 1 rfl rfl (by repeat' first | exact trivial | refine And.intro ?_ ?_ | rfl) (by repeat' first | exact trivial | refine And.intro ?_ ?_ | rfl) ?_; conv => cbv) | (refine call_r (hlv (by omega) (by omega)) rfl rfl ?_; conv => cbv) | (intro hc; exact absurd (of_decide_eq_true hc) hs2) | (intro (_ : Unit); first | omega | rfl | exact ⟨rfl, by omega⟩ | (simp only [nI_eq]; omega) | ((repeat' first | rfl | omega | refine And.intro ?_ ?_ | (simp only [nI_eq]; omega) | exact Nat.le_of_ble_eq_true rfl); done)) | exact trivial | refine And.intro ?_ ?_ | (intro hc; exact absurd hc (by decide)) | (intro hc; exfalso; omega) | (intro hc; (first | rw [wrap_small (by omega) (by omega)] at hc | rw [nI_eq] at hc | skip); try (conv => cbv))
      all_goals try simp only [decide_eq_true_eq, decide_eq_false_iff_not] at *
      all_goals try subst hc
      all_goals first
        | (refine f1 ?_; omega)
        | (refine f4 ?_ ?_ ?_; omega; omega; omega)
        | (refine f6 ?_ ?_ ?_ ?_ ?_; omega; omega; omega; omega; assumption)
        | (refine f7 ?_ ?_ ?_; omega; omega; omega)
        | (refine hnx _ _ ?_ (.trans (.fg 9) (Wk.cut ⟨_, rfl⟩ (Nat.zero_le _) rfl (by repeat' first | exact trivial | refine And.intro ?_ ?_ | rfl))); first | (refine f3 ?_ ?_ ?_; omega; omega; omega; done) | (refine f5 ?_ ?_ ?_ ?_ ?_; omega; omega; omega; omega; assumption; done))
        | trace_state

end Go.Ab
