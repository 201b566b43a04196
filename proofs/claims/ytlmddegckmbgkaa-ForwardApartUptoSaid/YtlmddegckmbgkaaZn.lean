/-
  Merged texts, part n.
-/
import Derived.Test.YtlmddegckmbgkaaZm
/-
  Chapter 23: forward.Step, with a stack that is new memory.
-/
namespace Go.Ab
open Go.Proofs
set_option maxHeartbeats 4000000 in
theorem step_new (P : Program) (hP : P = Try.prog) (t : Top) (x : Tab) (p : Pkt) (hf : Fit x p) : FnS P n_forward_Step [topA t, tabA x, pktA p] [] (StkR (stepS t x p)) := by
 obtain ⟨hf1, hf2⟩ := hf
 have hval := tableValid_ok P hP t x
 have hnode := fun n => gnode_ok P hP t n
 have harc := fun n => garc_ok P hP t n
 have htail := fun n => gtail_ok P hP t n
 have hcont := fun n => contains_ok P hP x.down n
 have hdrop := fun r => drop_new P hP p r (by omega)
 have hwith := with_new P hP p [] (by simp)
 have hleave := fun r n => leave_new P hP p r [n]
 have henter := fun l e => enter_new P hP p l e
 refine FnS.newC mkS_ok (heap_start (hP ▸ mixed) (hP ▸ fn_forward_Step) (hP ▸ c_forward_Step) (Nat.le_of_ble_eq_true rfl) fun Λ Λo K hK => ?_)
 clear hP
 obtain ⟨KQ, hKQ⟩ : ∃ KQ : List (List D) → Int → Int → Int → Int → List (List D) → Int → Int → Prop, KQ = fun al id src dst flow es hops rs => ∀ nl c H, NewX es c H → K (stkA nl al id src dst flow c hops rs) H := ⟨_, rfl⟩
 have lf : ∀ {al : List (List D)} {id src dst flow : Int} {es : List (List D)} {hops rs : Int}, KQ al id src dst flow es hops rs → ∀ {nl : Bool} {c : CV} {H : Hp}, NewX es c H → K (.tup [.c (.d (.list nl 1 al)), .agg [.d (iD id), .d (iD src), .d (iD dst), .d (iD flow), c, .d (iD hops)], iA rs]) H := by
  intro al id src dst flow es hops rs hq nl c H hn
  rw [hKQ] at hq; exact hq nl c H hn
 have hK : kq KQ (stepS t x p) := by rw [kq, hKQ]; exact fun nl c H hn => hK _ _ ⟨nl, c, rfl, hn⟩
 clear hKQ
 have k1 : ¬ (tabB t x = true ∧ 0 ≤ p.dst ∧ p.dst < t.nodes) → kq KQ ([], p, 1) := by
  intro h; unfold stepS at hK; rw [if_neg h] at hK; exact hK
 have k2 : (tabB t x = true ∧ 0 ≤ p.dst ∧ p.dst < t.nodes) → p.stack.length > 32 → kq KQ ([], p, 5) := by
  intro h h'; unfold stepS at hK; rw [if_pos h, if_pos h'] at hK; exact hK
 have k3 : (tabB t x = true ∧ 0 ≤ p.dst ∧ p.dst < t.nodes) → ¬ p.stack.length > 32 → kq KQ (routeS t x p (skipS x.node p.stack)) := by
  intro h h'; unfold stepS at hK; rw [if_pos h, if_neg h'] at hK; exact hK
 clear hK
 have hspec := @tabB_spec t x
 have hpk := @plain_K (kq KQ) t x p
 have hrk := @route_K (kq KQ) t x p
 have hskip : ∀ s r, s = ⟨1, x.node⟩ → skipS x.node (s :: r) = skipS x.node r := by intro s r h; subst h; simp [skipS]
 have hskip' : ∀ s r, s ≠ ⟨1, x.node⟩ → skipS x.node (s :: r) = s :: r := by intro s r h; simp [skipS, h]
 have hsn : skipS x.node [] = [] := rfl
 generalize skipS x.node = sk at *
 generalize hvb : tabB t x = vb at *
 obtain ⟨nodes, ov, links⟩ := t
 obtain ⟨node, to, down⟩ := x
 obtain ⟨id, src, dst, flow, stack, hops⟩ := p
 generalize htg : tailG ⟨nodes, ov, links⟩ = tg at *
 generalize hrs : routeS ⟨nodes, ov, links⟩ ⟨node, to, down⟩ ⟨id, src, dst, flow, stack, hops⟩ = rs at *
 simp only [topA, tabA, entsD, boolsD, linksD, segsA, segsD, pktA, kq, StkR, intsA, intsD, List.map_nil, List.map_cons, encI] at *
 generalize hol : ov.map encB = ol at *
 generalize hll : links.map encLk = ll at *
 generalize htl : to.map encEnt = tl at *
 have tln : Λ tl = to.length := by rw [Λo, ← htl]; simp
 generalize hdl : down.map encI = dl at *
 generalize slh : List.map encSeg stack = sl at *
 have sln : Λ sl = stack.length := by rw [Λo, ← slh]; simp
 conv => cbv
 repeat' first | refine call_b hval rfl rfl ?_ ?_ | refine call_b (hnode _) rfl rfl ?_ ?_ | (refine call_newC mkS_ok (hdrop _) rfl rfl ?_; intro nl c T hn; rcases hn with ⟨k, rl, rfl, rfl, hk⟩ | ⟨hnil, nk, rfl, rfl⟩ <;> (conv => cbv)) | exact gu | exact trivial | refine And.intro ?_ ?_ | (intro hc; exact absurd hc (by decide)) | (intro hc; exfalso; omega) | (intro hc; (first | rw [wrap_small (by omega) (by omega)] at hc | rw [nI_eq] at hc | skip); try (conv => cbv))
 all_goals try simp only [decide_eq_true_eq, decide_eq_false_iff_not] at *
 all_goals try (first | (refine lf (k1 ?_) ?_; rotate_left; (first | (refine .inl ⟨_, _, _, rfl, rfl, ?_⟩; first | assumption | rfl | omega) | (refine .inr ⟨?_, _, rfl⟩; first | rfl | assumption)); (first | omega | simp_all); done) | (refine lf (k2 ⟨by assumption, by omega, by omega⟩ (by omega)) ?_; (first | (refine .inl ⟨_, _, _, rfl, rfl, ?_⟩; first | assumption | rfl | omega) | (refine .inr ⟨?_, _, rfl⟩; first | rfl | assumption))))
 rename_i hvt hd1 _
 have hvt : vb = true := by assumption
 have hd : 0 ≤ dst ∧ dst < nodes := by assumption
 have kr : kq KQ (rs (sk stack)) := k3 ⟨hvt, hd⟩ (by omega)
 have hto : (to.length : Int) = nodes := (hspec.1 hvt).2.2.1
 have hlk : (links.length : Int) ≤ 256 := (validT_spec.1 (hspec.1 hvt).1).2.2.1
 have hento : ∀ n : Int, 0 ≤ n → n < nodes → ∃ a r q, to[n.toNat]? = some ⟨a, r, q⟩ ∧ ent ⟨node, to, down⟩ n = ⟨a, r, q⟩ ∧ a.length ≤ 1000 ∧ q.length ≤ 1000 := by
  intro n h1 h2
  have h3 : to[n.toNat]? = some (to[n.toNat]'(by omega)) := List.getElem?_eq_getElem (by omega)
  have h4 := hf1 _ (List.getElem_mem (l := to) (n := n.toNat) (by omega))
  generalize to[n.toNat]'(by omega) = e at h3 h4
  obtain ⟨a, r, q⟩ := e
  exact ⟨a, r, q, h3, by simp [ent, List.getD, h3], h4⟩
 clear k1 k2 k3 hspec hvb hf1
 refine loop_upx stack.length (fun (s : List Seg) => (10, .c (.ptr 4 0 0 0)) :: stepL (s.map encSeg)) (fun _ => stepH nodes ol ll node tl dl id src dst flow sl hops ++ [.bx [.d (iD 1), .d (iD node)]]) (fun k s => s.length + k = stack.length ∧ sk s = sk stack) stack
  0 (fun (s : List Seg) => stepL (s.map encSeg)) (fun _ => stepH nodes ol ll node tl dl id src dst flow sl hops) (fun s => s.length ≤ 1000 ∧ kq KQ (rs s)) (by rw [slh]; exact Wk.cw) ⟨by omega, rfl⟩ (fun k s h => by omega) ?_ ?_
 ·rintro k s Q' ⟨hk, hs⟩ norm jn ex rt
  rw [← hs] at kr
  have hj : ∀ L' h', sk s = s → Wk 0 L' h' (stepL (s.map encSeg)) (stepH nodes ol ll node tl dl id src dst flow sl hops) → Q' (.exit 0) L' h' := fun L' h' hw => jn L' h' s ⟨by omega, by rw [hw] at kr; exact kr⟩
  generalize rlh : List.map encSeg s = rl at *
  have rln : Λ rl = s.length := by rw [Λo, ← rlh]; simp
  conv => cbv
  repeat' first | (intro e he; obtain ⟨⟨xk, xn⟩, hx, rfl⟩ := map_get' rlh he; (conv => cbv)) | exact gu | exact trivial | refine And.intro ?_ ?_ | (intro hc; exact absurd hc (by decide)) | (intro hc; exfalso; omega) | (intro hc; (first | rw [wrap_small (by omega) (by omega)] at hc | rw [nI_eq] at hc | skip); try (conv => cbv))
  ·rename_i hxe rl'
   cases s with
   | nil => cases hx
   | cons s0 r =>
    cases hx
    have e : rl' = r.map encSeg := by rw [hc, ← rlh]; rfl
    subst e
    refine norm _ _ r ?_ (Wk.cw)
    rw [hskip _ _ (by rw [hxe.1, hxe.2.1])] at hs
    simp only [List.length_cons] at hk
    exact ⟨by omega, hs⟩
  all_goals refine hj _ _ ?_ (Wk.cw)
  ·cases s with
   | nil => exact hsn
   | cons s0 r =>
    cases hx
    refine hskip' _ _ fun h => hc ?_
    injection h with h1 h2
    exact ⟨h1, h2, trivial⟩
  ·cases s with
   | nil => exact hsn
   | cons s0 r => exfalso; simp only [List.length_cons] at rln; omega
 clear kr hskip hskip' hsn
 rintro s ⟨hsl, kr⟩
 generalize hsm : List.map encSeg s = sm
 conv => cbv
 refine loop_up 1 (fun (s : List Seg) => stepL (s.map encSeg)) (fun _ => stepH nodes ol ll node tl dl id src dst flow sl hops) (fun k s => k ≤ 1 ∧ (k = 1 → s = []) ∧ s.length ≤ 1000 ∧ kq KQ (rs s)) s (by rw [hsm]; exact Wk.cw) ⟨by omega, by omega, by omega, kr⟩ (fun k s h => h.1) ?_
 clear kr hsl hsm sm
 rintro k s Q' ⟨hk, hks, hsl, kr⟩ norm ex rt
 cases s with
 | nil =>
  obtain ⟨f1, f2, f3, f4⟩ := hpk (by have := kr; rw [← hrs] at this; exact this)
  obtain ⟨ea, er, eq, hx, he, hb1, hb2⟩ := hento dst hd.1 hd.2
  have hxa : tl[dst.toNat]? = some (encEnt ⟨ea, er, eq⟩) := by rw [← htl]; simp [hx]
  have hen := henter [] ⟨ea, er, eq⟩ (by simp) (Nat.le_trans hf2 (by decide)) (Nat.le_trans hb1 (by decide)) (Nat.le_trans hb2 (by decide))
  rw [he] at f3 f4
  clear norm hrk hpk hento
  generalize enterS ⟨id, src, dst, flow, stack, hops⟩ [] ⟨ea, er, eq⟩ = en at *
  obtain ⟨na, ⟨j1, j2, j3, j4, j5, j6⟩, nr⟩ := en
  simp only [encEnt, entA, intsD, segsD, List.map_nil, kq, StkR] at hxa hen f1 f2 f3 f4 ⊢
  generalize ealh : List.map encI ea = eal at *
  have ealn : Λ eal = ea.length := by rw [Λo, ← ealh]; simp
  generalize eqlh : List.map encSeg eq = eql at *
  have eqln : Λ eql = eq.length := by rw [Λo, ← eqlh]; simp
  generalize List.map encI na = nal at *
  generalize List.map encSeg j5 = jl at *
  have hΛ0 : Λ [] = 0 := by rw [Λo]; rfl
  conv => cbv
  repeat' first | (refine ex _ _ _ ?_; (conv => cbv)) | (refine rt _ _ ?_; (conv => cbv)) | (intro e he; cases Option.some.inj (he.symm.trans hxa); (conv => cbv)) | (refine call_newC mkP_ok hwith rfl rfl ?_; intro nl c T hn; rcases hn with ⟨k, rl, rfl, rfl, hk⟩ | ⟨hnil, nk, rfl, rfl⟩ <;> (conv => cbv)) | (refine call_newC mkS_ok (hdrop _) rfl rfl ?_; intro nl c T hn; rcases hn with ⟨k, rl, rfl, rfl, hk⟩ | ⟨hnil, nk, rfl, rfl⟩ <;> (conv => cbv)) | refine call_b (hnode _) rfl rfl ?_ ?_ | (refine call_newC mkS_ok (hen (by omega) (by omega)) rfl rfl ?_; intro nl c T hn; rcases hn with ⟨k, rl, rfl, rfl, hk⟩ | ⟨hnil, nk, rfl, rfl⟩ <;> (conv => cbv)) | exact gu | exact trivial | refine And.intro ?_ ?_ | (intro hc; exact absurd hc (by decide)) | (intro hc; exfalso; omega) | (intro hc; (first | rw [wrap_small (by omega) (by omega)] at hc | rw [nI_eq] at hc | skip); try (conv => cbv))
  all_goals try simp only [decide_eq_true_eq, decide_eq_false_iff_not] at *
  all_goals first
   | (refine lf (f1 ?_) ?_; assumption; (first | (refine .inl ⟨_, _, _, rfl, rfl, ?_⟩; first | assumption | rfl | omega) | (refine .inr ⟨?_, _, rfl⟩; first | rfl | assumption)))
   | (refine lf (f2 ?_ ?_) ?_; assumption; omega; (first | (refine .inl ⟨_, _, _, rfl, rfl, ?_⟩; first | assumption | rfl | omega) | (refine .inr ⟨?_, _, rfl⟩; first | rfl | assumption)))
   | (refine lf (f3 ?_ ?_ ?_ ?_) ?_; assumption; omega; omega; omega; (first | (refine .inl ⟨_, _, _, rfl, rfl, ?_⟩; first | assumption | rfl | omega) | (refine .inr ⟨?_, _, rfl⟩; first | rfl | assumption)))
   | (refine lf (f4 ?_ ?_ ?_) ?_; assumption; omega; omega; (first | (refine .inl ⟨_, _, _, rfl, rfl, ?_⟩; first | assumption | rfl | omega) | (refine .inr ⟨?_, _, rfl⟩; first | rfl | assumption)))
 | cons s0 r =>
  obtain ⟨s1, s2⟩ := s0
  obtain rfl : k = 0 := by
   rcases Nat.lt_or_ge k 1 with h | h
   ·omega
   ·exact absurd (hks (by omega)) (by simp)
  obtain ⟨f1, f2, f3, f4, f5, f6, f7⟩ := hrk (s := ⟨s1, s2⟩) (r := r) kr
  have f3 : ¬ (hops < 0 ∨ 255 ≤ hops) → s1 = 1 → ¬ ((0 ≤ s2 ∧ s2 < nodes) ∧ 0 < (ent ⟨node, to, down⟩ s2).arcs.length) → kq KQ (rs []) := by rw [← hrs]; exact f3
  have f5 : ¬ (hops < 0 ∨ 255 ≤ hops) → s1 = 2 → (0 ≤ s2 ∧ s2 < 2 * links.length) → tg s2 = node → s2 ∈ down → kq KQ (rs []) := by rw [← hrs]; exact f5
  simp only at f1 f2 f4 f6 f7
  have hlv := hleave r s2 (by simp only [List.length_cons] at hsl; omega) (by simp)
  have hnx : ∀ L' h', kq KQ (rs []) → Wk 0 L' h' (stepL []) (stepH nodes ol ll node tl dl id src dst flow sl hops) → Q' .normal L' h' := fun L' h' hK hw => norm L' h' [] ⟨by omega, fun _ => rfl, by simp, hK⟩ hw
  generalize hrlh : List.map encSeg (⟨s1, s2⟩ :: r) = rl at *
  have rln : Λ rl = r.length + 1 := by rw [Λo, ← hrlh]; simp
  have rl0 : rl[(0 : Int).toNat]? = some [iD s1, iD s2] := by rw [← hrlh]; rfl
  have rl1 : List.drop 1 rl = r.map encSeg := by rw [← hrlh]; rfl
  by_cases hs2 : 0 ≤ s2 ∧ s2 < nodes
  ·obtain ⟨ea, er, eq, hx, he, hb1, hb2⟩ := hento s2 hs2.1 hs2.2
   have hxa : tl[s2.toNat]? = some (encEnt ⟨ea, er, eq⟩) := by rw [← htl]; simp [hx]
   have hen := henter (⟨s1, s2⟩ :: r) ⟨ea, er, eq⟩ (by omega) (Nat.le_trans hf2 (by decide)) (Nat.le_trans hb1 (by decide)) (Nat.le_trans hb2 (by decide))
   rw [he] at f2 f3
   generalize enterS ⟨id, src, dst, flow, stack, hops⟩ (⟨s1, s2⟩ :: r) ⟨ea, er, eq⟩ = en at *
   obtain ⟨na, ⟨j1, j2, j3, j4, j5, j6⟩, nr⟩ := en
   simp only [hrlh] at hen
   simp only [encEnt, entA, leaveS, intsD, segsD, List.map_nil, List.map_cons, encI, kq, StkR] at hxa hen f1 f2 f3 f4 f5 f6 f7 hlv hnx ⊢
   generalize List.map encSeg r = rr at *
   generalize ealh : List.map encI ea = eal at *
   have ealn : Λ eal = ea.length := by rw [Λo, ← ealh]; simp
   generalize eqlh : List.map encSeg eq = eql at *
   have eqln : Λ eql = eq.length := by rw [Λo, ← eqlh]; simp
   generalize List.map encI na = nal at *
   generalize List.map encSeg j5 = jl at *
   clear hpk hento kr norm henter hleave
   conv => cbv
   repeat' first | (refine ex _ _ _ ?_; (conv => cbv)) | (refine rt _ _ ?_; (conv => cbv)) | (intro e he; cases Option.some.inj (he.symm.trans hxa); (conv => cbv)) | (intro e he; cases Option.some.inj (he.symm.trans rl0); (conv => cbv)) | (intro x hx; have e := hx.trans rl1; subst e; (conv => cbv)) | (refine call_newC mkS_ok (hdrop _) rfl rfl ?_; intro nl c T hn; rcases hn with ⟨k, rl, rfl, rfl, hk⟩ | ⟨hnil, nk, rfl, rfl⟩ <;> (conv => cbv)) | refine call_b (hnode _) rfl rfl ?_ ?_ | refine call_b (harc _ hlk) rfl rfl ?_ ?_ | refine call_i (htail _ (by simp only [decide_eq_true_eq] at *; omega) (by simp only [decide_eq_true_eq] at *; omega) hlk) rfl rfl ?_ | refine call_b (hcont _) rfl rfl ?_ ?_ | (refine call_newC mkS_ok (hen (by omega) (by omega)) rfl rfl ?_; intro nl c T hn; rcases hn with ⟨k, rl, rfl, rfl, hk⟩ | ⟨hnil, nk, rfl, rfl⟩ <;> (conv => cbv)) | (refine call_z 4 0 1 1 rfl rfl (by repeat' first | exact trivial | refine And.intro ?_ ?_ | rfl) (by repeat' first | exact trivial | refine And.intro ?_ ?_ | rfl) ?_; conv => cbv) | (refine call_newC mkS_ok (hlv (by omega) (by omega)) rfl rfl ?_; intro nl c T hn; rcases hn with ⟨k, rl, rfl, rfl, hk⟩ | ⟨hnil, nk, rfl, rfl⟩ <;> (conv => cbv)) | exact gu | exact trivial | refine And.intro ?_ ?_ | (intro hc; exact absurd hc (by decide)) | (intro hc; exfalso; omega) | (intro hc; (first | rw [wrap_small (by omega) (by omega)] at hc | rw [nI_eq] at hc | skip); try (conv => cbv))
   all_goals try simp only [decide_eq_true_eq, decide_eq_false_iff_not] at *
   all_goals try subst hc
   all_goals first
    | (refine lf (f1 ?_) ?_; omega; (first | (refine .inl ⟨_, _, _, rfl, rfl, ?_⟩; first | assumption | rfl | omega) | (refine .inr ⟨?_, _, rfl⟩; first | rfl | assumption)))
    | (refine lf (f2 ?_ ?_ ?_ ?_) ?_; omega; omega; omega; omega; (first | (refine .inl ⟨_, _, _, rfl, rfl, ?_⟩; first | assumption | rfl | omega) | (refine .inr ⟨?_, _, rfl⟩; first | rfl | assumption)))
    | (refine lf (f4 ?_ ?_ ?_) ?_; omega; omega; omega; (first | (refine .inl ⟨_, _, _, rfl, rfl, ?_⟩; first | assumption | rfl | omega) | (refine .inr ⟨?_, _, rfl⟩; first | rfl | assumption)))
    | (refine lf (f6 ?_ ?_ ?_ ?_ ?_) ?_; omega; omega; omega; omega; assumption; (first | (refine .inl ⟨_, _, _, rfl, rfl, ?_⟩; first | assumption | rfl | omega) | (refine .inr ⟨?_, _, rfl⟩; first | rfl | assumption)))
    | (refine lf (f7 ?_ ?_ ?_) ?_; omega; omega; omega; (first | (refine .inl ⟨_, _, _, rfl, rfl, ?_⟩; first | assumption | rfl | omega) | (refine .inr ⟨?_, _, rfl⟩; first | rfl | assumption)))
    | (refine hnx _ _ ?_ (.trans (.fg 9) (Wk.cw)); first | (refine f3 ?_ ?_ ?_; omega; omega; omega; done) | (refine f5 ?_ ?_ ?_ ?_ ?_; omega; omega; omega; omega; assumption; done))
    | trace_state
  ·simp only [leaveS, List.map_nil, List.map_cons, encI, kq, StkR] at f1 f3 f4 f5 f6 f7 hlv hnx ⊢
   generalize List.map encSeg r = rr at *
   clear hpk hento kr norm henter hleave f2
   conv => cbv
   repeat' first | (refine ex _ _ _ ?_; (conv => cbv)) | (refine rt _ _ ?_; (conv => cbv)) | (intro e he; cases Option.some.inj (he.symm.trans rl0); (conv => cbv)) | (intro x hx; have e := hx.trans rl1; subst e; (conv => cbv)) | (refine call_newC mkS_ok (hdrop _) rfl rfl ?_; intro nl c T hn; rcases hn with ⟨k, rl, rfl, rfl, hk⟩ | ⟨hnil, nk, rfl, rfl⟩ <;> (conv => cbv)) | refine call_b (hnode _) rfl rfl ?_ ?_ | refine call_b (harc _ hlk) rfl rfl ?_ ?_ | refine call_i (htail _ (by simp only [decide_eq_true_eq] at *; omega) (by simp only [decide_eq_true_eq] at *; omega) hlk) rfl rfl ?_ | refine call_b (hcont _) rfl rfl ?_ ?_ | (refine call_z 4 0 1 1 rfl rfl (by repeat' first | exact trivial | refine And.intro ?_ ?_ | rfl) (by repeat' first | exact trivial | refine And.intro ?_ ?_ | rfl) ?_; conv => cbv) | (refine call_newC mkS_ok (hlv (by omega) (by omega)) rfl rfl ?_; intro nl c T hn; rcases hn with ⟨k, rl, rfl, rfl, hk⟩ | ⟨hnil, nk, rfl, rfl⟩ <;> (conv => cbv)) | (intro hc; exact absurd (of_decide_eq_true hc) hs2) | exact gu | exact trivial | refine And.intro ?_ ?_ | (intro hc; exact absurd hc (by decide)) | (intro hc; exfalso; omega) | (intro hc; (first | rw [wrap_small (by omega) (by omega)] at hc | rw [nI_eq] at hc | skip); try (conv => cbv))
   all_goals try simp only [decide_eq_true_eq, decide_eq_false_iff_not] at *
   all_goals try subst hc
   all_goals first
    | (refine lf (f1 ?_) ?_; omega; (first | (refine .inl ⟨_, _, _, rfl, rfl, ?_⟩; first | assumption | rfl | omega) | (refine .inr ⟨?_, _, rfl⟩; first | rfl | assumption)))
    | (refine lf (f4 ?_ ?_ ?_) ?_; omega; omega; omega; (first | (refine .inl ⟨_, _, _, rfl, rfl, ?_⟩; first | assumption | rfl | omega) | (refine .inr ⟨?_, _, rfl⟩; first | rfl | assumption)))
    | (refine lf (f6 ?_ ?_ ?_ ?_ ?_) ?_; omega; omega; omega; omega; assumption; (first | (refine .inl ⟨_, _, _, rfl, rfl, ?_⟩; first | assumption | rfl | omega) | (refine .inr ⟨?_, _, rfl⟩; first | rfl | assumption)))
    | (refine lf (f7 ?_ ?_ ?_) ?_; omega; omega; omega; (first | (refine .inl ⟨_, _, _, rfl, rfl, ?_⟩; first | assumption | rfl | omega) | (refine .inr ⟨?_, _, rfl⟩; first | rfl | assumption)))
    | (refine hnx _ _ ?_ (.trans (.fg 9) (Wk.cw)); first | (refine f3 ?_ ?_ ?_; omega; omega; omega; done) | (refine f5 ?_ ?_ ?_ ?_ ?_; omega; omega; omega; omega; assumption; done))
    | trace_state
end Go.Ab

/-
  Contracts, part k: functions that runs do not go through.
-/
namespace Go.Ab
open Go.Proofs
def natClone2 : List AV → Option AV
 | [.c (.d (.list false 2 l))] => if l.length ≤ 1000000 then some (.c (.d (.list false 2 l))) else none
 | _ => none
theorem natClone2_ok (args : List AV) (r : AV) (h : natClone2 args = some r) : FnS Try.prog n_slices_Clone_api_Segment_api_Segment args [] fun r' _ => r' = r := by
 unfold natClone2 at h
 split at h
 ·split at h
  ·rename_i l hl
   cases h
   exact (cloneSegs_raw Try.prog rfl l hl).mono fun _ _ h => h.2
  ·cases h
 ·cases h
def natClone1 : List AV → Option AV
 | [.c (.d (.list false 1 l))] => if l.length ≤ 1000000 then some (.c (.d (.list false 1 l))) else none
 | _ => none
theorem natClone1_ok (args : List AV) (r : AV) (h : natClone1 args = some r) : FnS Try.prog n_slices_Clone_int_int args [] fun r' _ => r' = r := by
 unfold natClone1 at h
 split at h
 ·split at h
  ·rename_i l hl
   cases h
   exact (cloneInts_raw Try.prog rfl l hl).mono fun _ _ h => h.2
  ·cases h
 ·cases h
end Go.Ab

/-
  Contracts of the shortest paths (the document's), part a: costs, masks.
-/
namespace Go.Ab
open Go.Proofs
theorem cost_ok (P : Program) (hP : P = Try.prog) (t : Top) (a : Int) : Ret P n_ref09_Cost [topA t, iA a] (iA (costT t a)) := by
 refine ret_start (hP ▸ mixed) (hP ▸ fn_ref09_Cost) (hP ▸ c_ref09_Cost) (Nat.le_of_ble_eq_true rfl) fun Λ Λo K hK => ?_
 have hw := arcs_ok P hP t
 clear hP
 have leaf : ∀ b, costT t a = b → K (iA b) := fun b hb => by rw [← hb]; exact hK
 have hv2 := arcsT_le t
 have hta : costT t a = if 0 ≤ a ∧ a < arcsT t then (if a % 2 = 0 then (lkAt t a).c0 else (lkAt t a).c1) else -1 := rfl
 have hat : ∀ x, t.links[(a / 2).toNat]? = some x → lkAt t a = x := fun x hx => by simp [lkAt, hx]
 generalize arcsT t = v at *
 obtain ⟨nodes, ov, links⟩ := t
 simp only [topA, boolsD, linksD] at *
 generalize hol : ov.map encB = ol at *
 generalize hll : links.map encLk = ll at *
 have hlo : Λ ol = ov.length := by rw [Λo, ← hol]; simp
 have hls : Λ ll = links.length := by rw [Λo, ← hll]; simp
 conv => cbv
 repeat' first | refine call_i hw rfl rfl ?_ | (intro hc; rw [tdiv2 (by omega) (by omega)] at hc; conv => cbv) | (intro hc; rw [tmod2 (by omega)] at hc; conv => cbv) | (intro (_ : Unit); decide) | (intro e he; obtain ⟨⟨xa, xb, xc, xd, xe, xf, xg⟩, hx, rfl⟩ := map_get' hll he; (conv => cbv)) | exact gu | exact trivial | refine And.intro ?_ ?_ | (intro hc; exact absurd hc (by decide)) | (intro hc; exfalso; omega) | (intro hc; (first | rw [wrap_small (by omega) (by omega)] at hc | rw [nI_eq] at hc | skip); try (conv => cbv))
 ·exact leaf _ (by rw [hta, if_neg (by omega)])
 ·exact leaf _ (by rw [hta, if_neg (by omega)])
 all_goals
  refine leaf _ ?_
  rw [hta, if_pos (by omega), hat _ (get_at hx (by omega))]
 ·rw [if_pos (by omega)]
 ·rw [if_neg (by omega)]
abbrev boolsA (l : List Bool) : AV := .c (.d (boolsD l))
def ovT (t : Top) (n : Int) : Bool := validT t && decide (0 ≤ n ∧ n < t.ov.length) && t.ov.getD n.toNat false
theorem overloaded_ok (P : Program) (hP : P = Try.prog) (t : Top) (n : Int) : Ret P n_ref09_Overloaded [topA t, iA n] (bA (ovT t n)) := by
 refine ret_start (hP ▸ mixed) (hP ▸ fn_ref09_Overloaded) (hP ▸ c_ref09_Overloaded) (Nat.le_of_ble_eq_true rfl) fun Λ Λo K hK => ?_
 have hw := valid_ok P hP t
 clear hP
 have leaf : ∀ b, ovT t n = b → K (bA b) := fun b hb => by rw [← hb]; exact hK
 have hta : ovT t n = (validT t && decide (0 ≤ n ∧ n < t.ov.length) && t.ov.getD n.toNat false) := rfl
 generalize ovT t n = r at *
 generalize validT t = v at *
 obtain ⟨nodes, ov, links⟩ := t
 simp only [topA, boolsD, linksD] at *
 generalize hol : ov.map encB = ol at *
 generalize hll : links.map encLk = ll at *
 have hlo : Λ ol = ov.length := by rw [Λo, ← hol]; simp
 have hls : Λ ll = links.length := by rw [Λo, ← hll]; simp
 conv => cbv
 repeat' first | refine call_b hw rfl rfl ?_ ?_ | (intro e he; obtain ⟨x, hx, rfl⟩ := map_get' hol he; (conv => cbv)) | exact gu | exact trivial | refine And.intro ?_ ?_ | (intro hc; exact absurd hc (by decide)) | (intro hc; exfalso; omega) | (intro hc; (first | rw [wrap_small (by omega) (by omega)] at hc | rw [nI_eq] at hc | skip); try (conv => cbv))
 ·refine leaf _ (hta.trans ?_)
  rw [‹v = true›, decide_eq_true (by omega)]; simp [hx]
 ·refine leaf _ (hta.trans ?_)
  rw [decide_eq_false (by omega)]; simp
 ·refine leaf _ (hta.trans ?_)
  rw [decide_eq_false (by omega)]; simp
 ·refine leaf _ (hta.trans ?_)
  rw [hc]; simp
def upB (down : List Bool) (a : Int) : Bool := decide (down.length = 0) || !down.getD a.toNat false
theorem up_ok (P : Program) (hP : P = Try.prog) (down : List Bool) (a : Int) (h : down.length = 0 ∨ (0 ≤ a ∧ a < down.length)) : Ret P n_ref11_Up [boolsA down, iA a] (bA (upB down a)) := by
 refine ret_start (hP ▸ mixed) (hP ▸ fn_ref11_Up) (hP ▸ c_ref11_Up) (Nat.le_of_ble_eq_true rfl) fun Λ Λo K hK => ?_
 clear hP
 have leaf : ∀ b, upB down a = b → K (bA b) := fun b hb => by rw [← hb]; exact hK
 have hta : upB down a = (decide (down.length = 0) || !down.getD a.toNat false) := rfl
 generalize upB down a = r at *
 simp only [boolsA, boolsD] at *
 generalize hdl : down.map encB = dl at *
 have hdn : Λ dl = down.length := by rw [Λo, ← hdl]; simp
 conv => cbv
 repeat' first | (intro e he; obtain ⟨x, hx, rfl⟩ := map_get' hdl he; (conv => cbv)) | exact gu | exact trivial | refine And.intro ?_ ?_ | (intro hc; exact absurd hc (by decide)) | (intro hc; exfalso; omega) | (intro hc; (first | rw [wrap_small (by omega) (by omega)] at hc | rw [nI_eq] at hc | skip); try (conv => cbv))
 ·refine leaf _ (hta.trans ?_)
  rw [decide_eq_true (by omega)]; simp
 ·have e : r = !x := by
   rw [hta, decide_eq_false (by omega)]; simp [hx]
  cases x
  ·conv => cbv
   exact leaf _ e
  ·conv => cbv
   exact leaf _ e
def fitsB (t : Top) (down : List Bool) : Bool := validT t && (decide (down.length = 0) || decide (down.length = 2 * t.links.length))
theorem fits_ok (P : Program) (hP : P = Try.prog) (t : Top) (down : List Bool) : Ret P n_ref11_Fits [topA t, boolsA down] (bA (fitsB t down)) := by
 refine ret_start (hP ▸ mixed) (hP ▸ fn_ref11_Fits) (hP ▸ c_ref11_Fits) (Nat.le_of_ble_eq_true rfl) fun Λ Λo K hK => ?_
 have hw := valid_ok P hP t
 clear hP
 have h256 : validT t = true → (t.links.length : Int) ≤ 256 := fun h => (validT_spec.1 h).2.2.1
 have leaf : ∀ b, fitsB t down = b → K (bA b) := fun b hb => by rw [← hb]; exact hK
 have hta : fitsB t down = (validT t && (decide (down.length = 0) || decide (down.length = 2 * t.links.length))) := rfl
 generalize fitsB t down = r at *
 generalize validT t = v at *
 simp only [boolsA, boolsD] at *
 generalize hdl : down.map encB = dl at *
 have hdn : Λ dl = down.length := by rw [Λo, ← hdl]; simp
 obtain ⟨nodes, ov, links⟩ := t
 simp only [topA, boolsD, linksD] at *
 generalize hol : ov.map encB = ol at *
 generalize hll : links.map encLk = ll at *
 have hlo : Λ ol = ov.length := by rw [Λo, ← hol]; simp
 have hls : Λ ll = links.length := by rw [Λo, ← hll]; simp
 cases v
 all_goals (try simp only [forall_const] at h256)
 all_goals (conv => cbv)
 all_goals (repeat' first | refine call_b hw rfl rfl ?_ ?_ | (intro hc; cases hc; done) | exact gu | exact trivial | refine And.intro ?_ ?_ | (intro hc; exact absurd hc (by decide)) | (intro hc; exfalso; omega) | (intro hc; (first | rw [wrap_small (by omega) (by omega)] at hc | rw [nI_eq] at hc | skip); try (conv => cbv)))
 ·exact leaf _ (hta.trans (by simp))
 all_goals (refine leaf _ (hta.trans ?_); first | (rw [decide_eq_true (p := down.length = 0) (by omega)]; simp; done) | (rw [decide_eq_true (p := down.length = 2 * links.length) (by omega)]; simp; done) | (rw [decide_eq_false (p := down.length = 0) (by omega), decide_eq_false (p := down.length = 2 * links.length) (by omega)]; simp; done))
def transitB (t : Top) (n e : Int) : Bool := decide (n = e) || !ovT t n
theorem transit_ok (P : Program) (hP : P = Try.prog) (t : Top) (n e : Int) : Ret P n_ref11_transit [topA t, iA n, iA e] (bA (transitB t n e)) := by
 refine ret_start (hP ▸ mixed) (hP ▸ fn_ref11_transit) (hP ▸ c_ref11_transit) (Nat.le_of_ble_eq_true rfl) fun Λ Λo K hK => ?_
 have hw := overloaded_ok P hP t n
 clear hP
 have leaf : ∀ b, transitB t n e = b → K (bA b) := fun b hb => by rw [← hb]; exact hK
 have hta : transitB t n e = (decide (n = e) || !ovT t n) := rfl
 generalize transitB t n e = r at *
 generalize ovT t n = v at *
 obtain ⟨nodes, ov, links⟩ := t
 simp only [topA, boolsD, linksD] at *
 generalize hol : ov.map encB = ol at *
 generalize hll : links.map encLk = ll at *
 have hlo : Λ ol = ov.length := by rw [Λo, ← hol]; simp
 have hls : Λ ll = links.length := by rw [Λo, ← hll]; simp
 conv => cbv
 repeat' first | refine call_b hw rfl rfl ?_ ?_ | exact gu | exact trivial | refine And.intro ?_ ?_ | (intro hc; exact absurd hc (by decide)) | (intro hc; exfalso; omega) | (intro hc; (first | rw [wrap_small (by omega) (by omega)] at hc | rw [nI_eq] at hc | skip); try (conv => cbv))
 all_goals (refine leaf _ ?_; simp_all)
def arcsTo (k : Nat) : List Int := (List.range k).map fun (k : Nat) => (k : Int)
def outT (t : Top) (n : Int) : List Int := (arcsTo (arcsT t).toNat).filter fun a => decide (tailT t a = n)
theorem arcsTo_succ (k : Nat) : arcsTo (k + 1) = arcsTo k ++ [(k : Int)] := by simp [arcsTo, List.range_succ]
theorem out_ok (P : Program) (hP : P = Try.prog) (t : Top) (n : Int) : Ret P n_ref09_Out [topA t, iA n] (intsA (outT t n)) := by
 refine ret_start (hP ▸ mixed) (hP ▸ fn_ref09_Out) (hP ▸ c_ref09_Out) (Nat.le_of_ble_eq_true rfl) fun Λ Λo K hK => ?_
 have hw := arcs_ok P hP t
 have ht := tail_ok P hP t
 clear hP
 have hv2 := arcsT_le t
 have ho : outT t n = (arcsTo (arcsT t).toNat).filter fun a => decide (tailT t a = n) := rfl
 rw [ho] at hK
 clear ho
 generalize hf : tailT t = f at *
 generalize arcsT t = v at *
 obtain ⟨nodes, ov, links⟩ := t
 simp only [topA, boolsD, linksD] at *
 generalize hol : ov.map encB = ol at *
 generalize hll : links.map encLk = ll at *
 have hlo : Λ ol = ov.length := by rw [Λo, ← hol]; simp
 have hls : Λ ll = links.length := by rw [Λo, ← hll]; simp
 simp only [intsA, intsD] at hK
 conv => cbv
 repeat' first | exact gu | exact trivial | refine And.intro ?_ ?_ | (intro hc; exact absurd hc (by decide)) | (intro hc; exfalso; omega) | (intro hc; (first | rw [wrap_small (by omega) (by omega)] at hc | rw [nI_eq] at hc | skip); try (conv => cbv))
 refine loop_up v.toNat (fun (s : Int × Nat × Nat × Bool × List (List D)) => [(1, iA n), (2, .c (.ptr 0 0 0 0)), (5, .c (.arr 1 s.2.1 0 s.2.2.1)), (6, iA s.1)]) (fun s => [.bx [.d (.int .i64 nodes), .d (.list false 1 ol), .d (.list false 7 ll)], .da s.2.2.2.1 s.2.1 1 s.2.2.2.2])
  (fun k s => s.1 = k ∧ k ≤ v.toNat ∧ s.2.2.1 = s.2.2.2.2.length ∧ s.2.2.2.2 = (((arcsTo k).filter fun a => decide (f a = n)).map encI)) (0, 0, 0, false, []) (.trans (.nilS 5 1 rfl) (Wk.cw)) ⟨rfl, by omega, rfl, rfl⟩ (fun k s h => h.2.1) ?_
 rintro k ⟨i, ve, m, r, es⟩ Q' ⟨hi, hk, hm, hes⟩ norm ex rt
 simp only at hi hm hes
 have hesl : es.length ≤ k := by
  rw [hes, List.length_map]
  refine Nat.le_trans (List.length_filter_le _ _) ?_
  simp [arcsTo]
 conv => cbv
 repeat' first | (refine ex _ _ _ ?_; (conv => cbv)) | (refine rt _ _ ?_; (conv => cbv)) | refine call_i hw rfl rfl ?_ | refine call_i (ht _) rfl rfl ?_ | (intro (_ : Unit); refine ⟨rfl, ?_⟩; simp only [List.length_cons, List.length_nil]; omega) | exact gu | exact trivial | refine And.intro ?_ ?_ | (intro hc; exact absurd hc (by decide)) | (intro hc; exfalso; omega) | (intro hc; (first | rw [wrap_small (by omega) (by omega)] at hc | rw [nI_eq] at hc | skip); try (conv => cbv))
 ·rename_i hfi hn m' r' es' hm' hr' he' i'
  refine norm _ _ (_, _, _, _, _) ?_ (Wk.cw)
  have e : es' = ((arcsTo (k + 1)).filter fun a => decide (f a = n)).map encI := by
   rw [he', List.drop_zero, hm, List.take_length, hes, arcsTo_succ, List.filter_append, List.map_append]
   rw [← hi, List.filter_cons_of_pos (by simp only [decide_eq_true_eq]; omega)]; rfl
  exact ⟨by simp only; omega, by omega, by simp only; rw [hm', he', List.drop_zero, hm, List.take_length]; simp, e⟩
 ·rename_i hfi hn i'
  refine norm _ _ (_, _, _, _, _) ?_ (Wk.cw)
  have e : es = ((arcsTo (k + 1)).filter fun a => decide (f a = n)).map encI := by
   rw [hes, arcsTo_succ, List.filter_append, List.map_append]
   rw [← hi, List.filter_cons_of_neg (by simp only [decide_eq_true_eq]; omega)]; simp
  exact ⟨by simp only; omega, by omega, hm, e⟩
 ·rename_i ls
  have e : ls = ((arcsTo v.toNat).filter fun a => decide (f a = n)).map encI := by
   rw [hc, List.drop_zero, hm, List.take_length, hes, show k = v.toNat by omega]
  subst e
  exact hK
end Go.Ab

/-
  Shortest paths, part b: distances, plainly.
-/
namespace Go.Ab
open Go.Proofs
def xOf (t : Top) (fr : Bool) (a : Int) : Int := if fr then headT t a else tailT t a
def yOf (t : Top) (fr : Bool) (a : Int) : Int := if fr then tailT t a else headT t a
def okArc (t : Top) (down : List Bool) (e : Int) (fr : Bool) (a : Int) : Bool := upB down a && transitB t (yOf t fr a) e
abbrev gt (D : List Int) (i : Int) : Int := D.getD i.toNat (-1)
def fixAt (t : Top) (down : List Bool) (e : Int) (fr : Bool) (D : List Int) (a : Int) : Prop :=
 okArc t down e fr a = true → 0 ≤ gt D (yOf t fr a) → 0 ≤ gt D (xOf t fr a) ∧ gt D (xOf t fr a) ≤ gt D (yOf t fr a) + costT t a
structure IsDist (t : Top) (down : List Bool) (e : Int) (fr : Bool) (D : List Int) : Prop where
 len : (D.length : Int) = t.nodes
 zero : gt D e = 0
 lo : ∀ i, 0 ≤ i → i < t.nodes → -1 ≤ gt D i
 fix : ∀ a : Int, 0 ≤ a → a < 2 * t.links.length → fixAt t down e fr D a
 tight : ∀ x, 0 ≤ x → x < t.nodes → x ≠ e → 0 ≤ gt D x → ∃ a : Int, 0 ≤ a ∧ a < 2 * t.links.length ∧ okArc t down e fr a = true ∧ xOf t fr a = x ∧ 0 ≤ gt D (yOf t fr a) ∧ gt D x = gt D (yOf t fr a) + costT t a
theorem arc_facts {t : Top} (hv : validT t = true) {a : Int} (h0 : 0 ≤ a) (h1 : a < 2 * t.links.length) :
  (0 ≤ tailT t a ∧ tailT t a < t.nodes) ∧ (0 ≤ headT t a ∧ headT t a < t.nodes) ∧ tailT t a ≠ headT t a ∧ 1 ≤ costT t a ∧ costT t a ≤ 65535 := by
 have ha : arcsT t = 2 * t.links.length := by rw [arcsT, if_pos hv]
 have hx : t.links[(a / 2).toNat]? = some (t.links[(a / 2).toNat]'(by omega)) := List.getElem?_eq_getElem (by omega)
 have hk := okLk_spec.1 ((validT_spec.1 hv).2.2.2 _ (List.getElem_mem (l := t.links) (n := (a / 2).toNat) (by omega)))
 have hl : lkAt t a = t.links[(a / 2).toNat]'(by omega) := by rw [lkAt, hx]; rfl
 rw [← hl] at hk
 have hin : 0 ≤ a ∧ a < arcsT t := by omega
 simp only [tailT, headT, costT, if_pos hin]
 by_cases h : a % 2 = 0
 ·simp only [if_pos h]; omega
 ·simp only [if_neg h]; omega
theorem xy_facts {t : Top} (hv : validT t = true) (fr : Bool) {a : Int} (h0 : 0 ≤ a) (h1 : a < 2 * t.links.length) :
  (0 ≤ xOf t fr a ∧ xOf t fr a < t.nodes) ∧ (0 ≤ yOf t fr a ∧ yOf t fr a < t.nodes) ∧ xOf t fr a ≠ yOf t fr a := by
 have := arc_facts hv h0 h1
 cases fr
 ·simp only [xOf, yOf, Bool.false_eq_true, if_false]; exact ⟨this.1, this.2.1, this.2.2.1⟩
 ·simp only [xOf, yOf, if_true]; exact ⟨this.2.1, this.1, fun h => this.2.2.1 h.symm⟩
theorem dist_le {t : Top} (hv : validT t = true) {down : List Bool} {e : Int} {fr : Bool} {D D' : List Int} (h : IsDist t down e fr D) (h' : IsDist t down e fr D') : ∀ (n : Nat) (x : Int), 0 ≤ x → x < t.nodes → gt D x = n → 0 ≤ gt D' x ∧ gt D' x ≤ n := by
 intro n
 induction n using Nat.strongRecOn with
 | _ n ih =>
  intro x h0 h1 hx
  by_cases hxe : x = e
  ·subst hxe; rw [h'.zero]; omega
  ·obtain ⟨a, a0, a1, ha, hxa, hy, hd⟩ := h.tight x h0 h1 hxe (by omega)
   have hf := xy_facts hv fr a0 a1
   have hc := arc_facts hv a0 a1
   obtain ⟨i0, i1⟩ := ih (gt D (yOf t fr a)).toNat (by omega) (yOf t fr a) hf.2.1.1 hf.2.1.2 (by omega)
   obtain ⟨j0, j1⟩ := h'.fix a a0 a1 ha i0
   rw [hxa] at j0 j1
   exact ⟨j0, by omega⟩
theorem dist_unique {t : Top} (hv : validT t = true) {down : List Bool} {e : Int} {fr : Bool} {D D' : List Int} (h : IsDist t down e fr D) (h' : IsDist t down e fr D') : D = D' := by
 have hl := h.len
 have hl' := h'.len
 have key : ∀ x : Int, 0 ≤ x → x < t.nodes → gt D x = gt D' x := by
  intro x h0 h1
  have l1 := h.lo x h0 h1
  have l2 := h'.lo x h0 h1
  by_cases c : 0 ≤ gt D x
  ·have e1 := dist_le hv h h' (gt D x).toNat x h0 h1 (by omega)
   have e2 := dist_le hv h' h (gt D' x).toNat x h0 h1 (by omega)
   omega
  ·by_cases c' : 0 ≤ gt D' x
   ·have e2 := dist_le hv h' h (gt D' x).toNat x h0 h1 (by omega)
    omega
   ·omega
 apply List.ext_getElem?
 intro i
 rcases Nat.lt_or_ge i D.length with hi | hi
 ·have := key (i : Int) (by omega) (by omega)
  simp only [gt, Int.toNat_natCast, List.getD_eq_getElem?_getD, List.getElem?_eq_getElem hi, List.getElem?_eq_getElem (show i < D'.length by omega), Option.getD_some] at this
  rw [List.getElem?_eq_getElem hi, List.getElem?_eq_getElem (by omega), this]
 ·rw [List.getElem?_eq_none hi, List.getElem?_eq_none (by omega)]
noncomputable def distS (t : Top) (down : List Bool) (e : Int) (fr : Bool) : List Int := by
 classical
 exact if h : ∃ D, IsDist t down e fr D then Classical.choose h else []
theorem distS_eq {t : Top} (hv : validT t = true) {down : List Bool} {e : Int} {fr : Bool} {D : List Int} (h : IsDist t down e fr D) : distS t down e fr = D := by
 have hx : ∃ D, IsDist t down e fr D := ⟨D, h⟩
 unfold distS
 rw [dif_pos hx]
 exact dist_unique hv (Classical.choose_spec hx) h
/-! While the distances are searched for. -/
def wt (d : Int) : Nat := if d < 0 then 5000000 else d.toNat
def msr (D : List Int) : Nat := (D.map wt).sum
def cntD (D : List Int) : Nat := (D.map fun d => if d < 0 then 0 else 1).sum
theorem sum_set (f : Int → Nat) : ∀ (D : List Int) (i : Nat) (v : Int) (u : Int), D[i]? = some u → ((D.set i v).map f).sum + f u = (D.map f).sum + f v := by
 intro D
 induction D with
 | nil => intro i v u h; simp at h
 | cons d D ih =>
  intro i v u h
  cases i with
  | zero => simp at h; subst h; simp; omega
  | succ i =>
   simp only [List.getElem?_cons_succ] at h
   have := ih i v u h
   simp only [List.set_cons_succ, List.map_cons, List.sum_cons]
   omega
theorem cnt_le : ∀ (D : List Int), cntD D ≤ D.length := by
 intro D
 induction D with
 | nil => simp [cntD]
 | cons d D ih => simp only [cntD, List.map_cons, List.sum_cons, List.length_cons] at *; split <;> omega
structure Mid (t : Top) (down : List Bool) (e : Int) (fr : Bool) (D : List Int) : Prop where
 len : (D.length : Int) = t.nodes
 zero : gt D e = 0
 lo : ∀ i, 0 ≤ i → i < t.nodes → -1 ≤ gt D i
 hi : ∀ i, 0 ≤ i → i < t.nodes → gt D i ≤ 65535 * cntD D
 loose : ∀ x, 0 ≤ x → x < t.nodes → x ≠ e → 0 ≤ gt D x → ∃ a : Int, 0 ≤ a ∧ a < 2 * t.links.length ∧ okArc t down e fr a = true ∧ xOf t fr a = x ∧ 0 ≤ gt D (yOf t fr a) ∧ gt D (yOf t fr a) + costT t a ≤ gt D x
theorem Mid.le {t : Top} (hv : validT t = true) {down : List Bool} {e : Int} {fr : Bool} {D : List Int} (h : Mid t down e fr D) {i : Int} (h0 : 0 ≤ i) (h1 : i < t.nodes) : gt D i ≤ 4194240 := by
 have := h.hi i h0 h1
 have h2 := cnt_le D
 have h3 := h.len
 have h4 := (validT_spec.1 hv).1
 omega
theorem Mid.dist {t : Top} {down : List Bool} {e : Int} {fr : Bool} {D : List Int} (h : Mid t down e fr D) (hf : ∀ a : Int, 0 ≤ a → a < 2 * t.links.length → fixAt t down e fr D a) : IsDist t down e fr D where
 len := h.len
 zero := h.zero
 lo := h.lo
 fix := hf
 tight x h0 h1 hx hd := by
  obtain ⟨a, a0, a1, ha, hxa, hy, hc⟩ := h.loose x h0 h1 hx hd
  have := (hf a a0 a1 ha hy).2
  rw [hxa] at this
  exact ⟨a, a0, a1, ha, hxa, hy, by omega⟩
theorem gt_set {D : List Int} {i j : Int} {v : Int} (h0 : 0 ≤ i) (h1 : i < D.length) (j0 : 0 ≤ j) : gt (D.set i.toNat v) j = if j = i then v else gt D j := by
 simp only [gt, List.getD_eq_getElem?_getD, List.getElem?_set]
 by_cases h : j = i
 ·subst h; simp [show j.toNat < D.length by omega]
 ·have : i.toNat ≠ j.toNat := by omega
  simp [this, h]
theorem Mid.step {t : Top} (hv : validT t = true) {down : List Bool} {e : Int} {fr : Bool} {D : List Int} (h : Mid t down e fr D) {a : Int} (a0 : 0 ≤ a) (a1 : a < 2 * t.links.length) (ha : okArc t down e fr a = true) (hy : 0 ≤ gt D (yOf t fr a))
  (hc : gt D (xOf t fr a) < 0 ∨ gt D (yOf t fr a) + costT t a < gt D (xOf t fr a)) : Mid t down e fr (D.set (xOf t fr a).toNat (gt D (yOf t fr a) + costT t a)) ∧ msr (D.set (xOf t fr a).toNat (gt D (yOf t fr a) + costT t a)) < msr D := by
 have hf := xy_facts hv fr a0 a1
 have hcs := (arc_facts hv a0 a1).2.2.2
 have hlen := h.len
 generalize hX : xOf t fr a = X at *
 generalize hY : yOf t fr a = Y at *
 generalize hC : gt D Y + costT t a = C at *
 have hXl : X < D.length := by omega
 have hg : ∀ j, 0 ≤ j → gt (D.set X.toNat C) j = if j = X then C else gt D j := fun j j0 => gt_set hf.1.1 hXl j0
 have hget : D[X.toNat]? = some (gt D X) := by
  simp only [gt, List.getD_eq_getElem?_getD, List.getElem?_eq_getElem (show X.toNat < D.length by omega), Option.getD_some]
 have hYle := h.hi Y hf.2.1.1 hf.2.1.2
 have hs1 := sum_set wt D X.toNat C (gt D X) hget
 have hs2 := sum_set (fun d => if d < 0 then 0 else 1) D X.toNat C (gt D X) hget
 have hYm := h.le hv hf.2.1.1 hf.2.1.2
 have hXe : X ≠ e := by
  intro hh
  rw [hh, h.zero] at hc
  omega
 have hcnt : cntD (D.set X.toNat C) = cntD D + (if gt D X < 0 then 1 else 0) := by
  simp only [cntD]
  simp only [show ¬ C < 0 by omega, if_false] at hs2
  by_cases hX0 : gt D X < 0
  ·rw [if_pos hX0] at hs2 ⊢; omega
  ·rw [if_neg hX0] at hs2 ⊢; omega
 refine ⟨⟨by simp only [List.length_set]; exact hlen, ?_, ?_, ?_, ?_⟩, ?_⟩
 ·have he : gt D e = 0 := h.zero
  by_cases e0 : 0 ≤ e
  ·rw [hg e e0, if_neg (fun hh => hXe hh.symm)]; exact he
  ·simp only [gt, show e.toNat = 0 by omega] at he ⊢
   by_cases x0 : X = 0
   ·exfalso
    have hXg : gt D X = 0 := by rw [x0]; exact he
    rw [hXg] at hc; omega
   ·rw [List.getD_eq_getElem?_getD, List.getElem?_set_ne (by omega), ← List.getD_eq_getElem?_getD]; exact he
 ·intro i i0 i1
  rw [hg i i0]
  split
  ·omega
  ·exact h.lo i i0 i1
 ·intro i i0 i1
  rw [hg i i0, hcnt]
  have hi := h.hi i i0 i1
  split
  ·split
   ·omega
   ·have hX := h.hi X hf.1.1 hf.1.2
    omega
  ·split <;> omega
 ·intro x x0 x1 hxe hd
  rw [hg x x0] at hd ⊢
  by_cases hxX : x = X
  ·subst hxX
   refine ⟨a, a0, a1, ha, hX, ?_, ?_⟩
   ·rw [hY, hg Y hf.2.1.1, if_neg (fun hh => hf.2.2 hh.symm)]; exact hy
   ·rw [hY, hg Y hf.2.1.1, if_neg (fun hh => hf.2.2 hh.symm), if_pos rfl]; omega
  ·rw [if_neg hxX] at hd ⊢
   obtain ⟨b, b0, b1, hb, hxb, hyb, hcb⟩ := h.loose x x0 x1 hxe hd
   have hfb := xy_facts hv fr b0 b1
   refine ⟨b, b0, b1, hb, hxb, ?_, ?_⟩
   ·rw [hg _ hfb.2.1.1]
    split <;> omega
   ·rw [hg _ hfb.2.1.1]
    split
    ·rename_i hh; rw [hh] at hyb hcb; omega
    ·exact hcb
 ·simp only [msr]
  have w1 : wt C = C.toNat := by rw [wt, if_neg (by omega)]
  have w2 : wt (gt D X) > C.toNat := by
   rw [wt]
   split <;> omega
  omega
end Go.Ab

/-
  Shortest paths, part c: the document's search.
-/
namespace Go.Ab
open Go.Proofs
noncomputable def searchS (t : Top) (down : List Bool) (n : Int) (fr : Bool) : List Int × Int :=
 if fitsB t down = true then (if 0 ≤ n ∧ n < t.nodes then (distS t down n fr, 0) else ([], 2)) else ([], 1)
theorem mid_start {t : Top} {down : List Bool} {n : Int} {fr : Bool} (h0 : 0 ≤ n) (h1 : n < t.nodes) : Mid t down n fr ((List.replicate t.nodes.toNat (-1)).set n.toNat 0) := by
 have hl : n < (List.replicate t.nodes.toNat (-1 : Int)).length := by simp; omega
 have hg : ∀ j, 0 ≤ j → j < t.nodes → gt ((List.replicate t.nodes.toNat (-1)).set n.toNat 0) j = if j = n then 0 else -1 := by
  intro j j0 j1
  rw [gt_set h0 hl j0]
  split
  ·rfl
  ·simp only [gt, List.getD_eq_getElem?_getD, List.getElem?_replicate]
   split <;> rfl
 refine ⟨by simp; omega, by rw [hg n h0 h1, if_pos rfl], fun i i0 i1 => ?_, fun i i0 i1 => ?_, fun x x0 x1 hx hd => ?_⟩
 ·rw [hg i i0 i1]; split <;> omega
 ·rw [hg i i0 i1]; split <;> omega
 ·rw [hg x x0 x1, if_neg hx] at hd; omega
theorem fill_set {k m : Nat} : (List.replicate k (-1 : Int) ++ List.replicate (m + 1) 0).set k (-1) = List.replicate (k + 1) (-1) ++ List.replicate m 0 := by
 rw [List.set_append_right _ _ (by simp)]
 rw [List.length_replicate, Nat.sub_self, List.replicate_succ (n := m), List.set_cons_zero, List.replicate_succ' (n := k), List.append_assoc]
 rfl
theorem enc_set {D : List Int} {es : List (List Ab.D)} {p : Nat} {e : List Ab.D} {v : Int} (hes : D.map encI = es) (he : es[p]? = some e) : es.set p (List.take 0 e ++ ([Ab.D.int .i64 v] ++ List.drop (0 + [Ab.D.int .i64 v].length) e)) = (D.set p v).map encI := by
 subst hes
 obtain ⟨x, hx, rfl⟩ := map_get he
 rw [List.map_set]; rfl
theorem gt_of {D : List Int} {p : Nat} {i x : Int} (hx : D[p]? = some x) (hp : p = 0 + i.toNat) : gt D i = x := by
 subst hp
 rw [Nat.zero_add] at hx
 simp [gt, List.getD_eq_getElem?_getD, hx]
abbrev srH (nodes : Int) (ol ll : List (List D)) (es : List Int) : Hp := [.bx [.d (iD nodes), .d (.list false 1 ol), .d (.list false 7 ll)], .da true 0 1 (es.map encI)]
abbrev srL (dl : List (List D)) (n : Int) (fr : Bool) (m : Nat) : Lv := [(1, .c (.d (.list false 1 dl))), (2, iA n), (3, bA fr), (4, .c (.ptr 0 0 0 0)), (10, .c (.arr 1 0 0 m))]
set_option maxHeartbeats 4000000 in
theorem search_ok (P : Program) (hP : P = Try.prog) (t : Top) (down : List Bool) (n : Int) (fr : Bool) : Ret P n_ref11_search [topA t, boolsA down, iA n, bA fr] (.tup [intsA (searchS t down n fr).1, iA (searchS t down n fr).2]) := by
  have hfits := fits_ok P hP t down
  have htail := fun a => tail_ok P hP t a
  have hhead := fun a => head_ok P hP t a
  have hup := fun a => up_ok P hP down a
  have htr := fun y => transit_ok P hP t y n
  have hcost := fun a => cost_ok P hP t a
  refine ret_start (hP ▸ mixed) (hP ▸ fn_ref11_search) (hP ▸ c_ref11_search) (Nat.le_of_ble_eq_true rfl) fun Λ Λo K hK => ?_
  clear hP
  have k1 : fitsB t down = false → K (.tup [intsA [], iA 1]) := by
    intro h; rw [searchS, if_neg (by rw [h]; decide)] at hK; exact hK
  have k2 : fitsB t down = true → ¬ (0 ≤ n ∧ n < t.nodes) → K (.tup [intsA [], iA 2]) := by
    intro h h'; rw [searchS, if_pos h, if_neg h'] at hK; exact hK
  have k3 : fitsB t down = true → (0 ≤ n ∧ n < t.nodes) → K (.tup [intsA (distS t down n fr), iA 0]) := by
    intro h h'; rw [searchS, if_pos h, if_pos h'] at hK; exact hK
  clear hK
  have hfb : fitsB t down = true → validT t = true ∧ (down.length = 0 ∨ down.length = 2 * t.links.length) := by
    intro h; simpa [fitsB] using h
  have hk4 : validT t = true → ∀ D, IsDist t down n fr D → distS t down n fr = D := fun hv D hD => distS_eq hv hD
  have hst := fun (h0 : 0 ≤ n) (h1 : n < t.nodes) => mid_start (t := t) (down := down) (n := n) (fr := fr) h0 h1
  have hxy := fun (hv : validT t = true) (a : Int) (h0 : 0 ≤ a) (h1 : a < 2 * t.links.length) => xy_facts hv fr h0 h1
  have hlen := fun (D : List Int) (h : Mid t down n fr D) => h.len
  have hmd := fun (D : List Int) (h : Mid t down n fr D) => h.dist
  have hms := fun (hv : validT t = true) (D : List Int) (h : Mid t down n fr D) (a : Int) => h.step hv (a := a)
  have hml := fun (hv : validT t = true) (D : List Int) (h : Mid t down n fr D) (i : Int) => h.le hv (i := i)
  have hcs := fun (hv : validT t = true) (a : Int) (h0 : 0 ≤ a) (h1 : a < 2 * t.links.length) => (arc_facts hv h0 h1).2.2.2
  have hn64 := fun (hv : validT t = true) => (validT_spec.1 hv).1
  have hl256 := fun (hv : validT t = true) => (validT_spec.1 hv).2.2.1
  have hxe : ∀ a, xOf t fr a = if fr then headT t a else tailT t a := fun _ => rfl
  have hye : ∀ a, yOf t fr a = if fr then tailT t a else headT t a := fun _ => rfl
  have hoa : ∀ a, okArc t down n fr a = (upB down a && transitB t (yOf t fr a) n) := fun _ => rfl
  have hfx : ∀ D a, fixAt t down n fr D a ↔ (okArc t down n fr a = true → 0 ≤ gt D (yOf t fr a) → 0 ≤ gt D (xOf t fr a) ∧ gt D (xOf t fr a) ≤ gt D (yOf t fr a) + costT t a) := fun _ _ => Iff.rfl
  generalize fitsB t down = fb at *
  generalize validT t = v at *
  generalize distS t down n fr = ds at *
  generalize tailT t = tt at *
  generalize headT t = ht at *
  generalize costT t = ct at *
  generalize transitB t = tb at *
  generalize upB down = ub at *
  generalize xOf t fr = xo at *
  generalize yOf t fr = yo at *
  generalize okArc t down n fr = oa at *
  generalize fixAt t down n fr = fx at *
  generalize Mid t down n fr = md at *
  generalize IsDist t down n fr = isd at *
  simp only [boolsA, boolsD] at *
  generalize hdl : down.map encB = dl at *
  have hdn : Λ dl = down.length := by rw [Λo, ← hdl]; simp
  obtain ⟨nodes, ov, links⟩ := t
  simp only [topA, boolsD, linksD] at *
  generalize hol : ov.map encB = ol at *
  generalize hll : links.map encLk = ll at *
  have hlo : Λ ol = ov.length := by rw [Λo, ← hol]; simp
  have hls : Λ ll = links.length := by rw [Λo, ← hll]; simp
  simp only [intsA, intsD, List.map_nil] at k1 k2 k3
  cases fb
  · conv => cbv
    repeat' first | refine call_b hfits rfl rfl ?_ ?_ | (intro hc; cases hc; done) | exact gu | exact trivial | refine And.intro ?_ ?_ | (intro hc; exact absurd hc (by decide)) | (intro hc; exfalso; omega) | (intro hc; (first | rw [wrap_small (by omega) (by omega)] at hc | rw [nI_eq] at hc | skip); try (conv => cbv))
    exact k1 rfl
  obtain ⟨hv, hdo⟩ := hfb rfl
  subst hv
  simp only [forall_const] at *
  conv => cbv
  repeat' first | refine call_b hfits rfl rfl ?_ ?_ | (intro hc; cases hc; done) | (intro (_ : Unit); refine ⟨?_, ?_, ?_, ?_⟩; omega; omega; omega; omega) | exact gu | exact trivial | refine And.intro ?_ ?_ | (intro hc; exact absurd hc (by decide)) | (intro hc; exfalso; omega) | (intro hc; (first | rw [wrap_small (by omega) (by omega)] at hc | rw [nI_eq] at hc | skip); try (conv => cbv))
  · exact k2 (by omega)
  · exact k2 (by omega)
  rename_i m0 es0 hm0
  subst hc hm0
  refine loop_upx nodes.toNat (fun (s : Int × List Int) => (11, iA s.1) :: srL dl n fr nodes.toNat) (fun s => srH nodes ol ll s.2) (fun k s => s.1 = k ∧ k ≤ nodes.toNat ∧ s.2 = List.replicate k (-1) ++ List.replicate (nodes.toNat - k) 0) (0, List.replicate nodes.toNat 0)
    0 (fun (_ : Unit) => srL dl n fr nodes.toNat) (fun _ => srH nodes ol ll (List.replicate nodes.toNat (-1))) (fun _ => True) (by rw [srH, List.map_replicate]; exact Wk.cw) ⟨rfl, by omega, by simp⟩ (fun k s h => h.2.1) ?_ ?_
  · rintro k ⟨i, D⟩ Q' ⟨hi, hk, hD⟩ norm jn ex rt
    simp only at hi hD
    have hDl : D.length = nodes.toNat := by rw [hD]; simp; omega
    generalize hN : nodes.toNat = N at *
    simp only [srH, srL]
    generalize hes : D.map encI = es at *
    have hesl : es.length = N := by rw [← hes, List.length_map]; exact hDl
    conv => cbv
    repeat' first | exact gu | exact trivial | refine And.intro ?_ ?_ | (intro hc; exact absurd hc (by decide)) | (intro hc; exfalso; omega) | (intro hc; (first | rw [wrap_small (by omega) (by omega)] at hc | rw [nI_eq] at hc | skip); try (conv => cbv))
    · rename_i p hp e hpe es' he' i'
      have hee : e = [iD 0] := by
        rw [← hes, List.getElem?_map, hp, hD] at hpe
        simp only [Nat.zero_add, hi, Int.toNat_natCast] at hpe
        rw [List.getElem?_append_right (by simp), List.getElem?_replicate] at hpe
        simp only [List.length_replicate] at hpe
        split at hpe
        · cases hpe; rfl
        · cases hpe
      have e2 : es' = ((List.replicate (k + 1) (-1) ++ List.replicate (N - (k + 1)) 0).map encI) := by
        rw [he', hee, hp, ← hes, hD]
        simp only [Nat.zero_add, hi, Int.toNat_natCast]
        rw [show N - k = N - (k + 1) + 1 by omega, ← fill_set, List.map_set]
        rfl
      subst e2
      refine norm _ _ (_, _) ?_ (Wk.cw)
      exact ⟨by simp only; omega, by omega, rfl⟩
    · have e2 : es = ((List.replicate N (-1)).map encI) := by
        rw [← hes, hD, show k = N by omega, Nat.sub_self]; simp
      subst e2
      refine jn _ _ () trivial (Wk.cw)
  rintro _ -
  have hm0 := hst (by omega) (by omega)
  clear hst
  generalize hN : nodes.toNat = N at *
  generalize hD0 : List.replicate N (-1) = D0 at *
  have hD0l : D0.length = N := by rw [← hD0]; simp
  simp only [srH, srL]
  generalize hes : D0.map encI = es at *
  have hesl : es.length = N := by rw [← hes, List.length_map]; exact hD0l
  conv => cbv
  repeat' first | exact gu | exact trivial | refine And.intro ?_ ?_ | (intro hc; exact absurd hc (by decide)) | (intro hc; exfalso; omega) | (intro hc; (first | rw [wrap_small (by omega) (by omega)] at hc | rw [nI_eq] at hc | skip); try (conv => cbv))
  rename_i p hp e hpe es1
  have e1 : es1 = (D0.set n.toNat 0).map encI := by rw [hc, enc_set hes hpe, hp, Nat.zero_add]
  subst e1
  clear hc hpe hes hesl es
  generalize D0.set n.toNat 0 = D1 at *
  clear hD0 hD0l D0
  refine loop_up (msr D1 + 1) (fun (s : Bool × List Int) => (12, bA s.1) :: srL dl n fr N) (fun s => srH nodes ol ll s.2) (fun k s => md s.2 ∧ (s.1 = false → ∀ a : Int, 0 ≤ a → a < 2 * links.length → fx s.2 a) ∧ k + msr s.2 ≤ msr D1 + (if s.1 then 0 else 1)) (true, D1) (Wk.cw) ⟨hm0, by simp, by simp⟩ (fun k s h => by have := h.2.2; split at this <;> omega) ?_
  rintro k ⟨ch, D⟩ Q' ⟨hD, hfix, hkm⟩ normo exo rto
  simp only at hD hfix hkm
  simp only [srH, srL]
  cases ch with
  | false =>
    have hds := hk4 D (hmd D hD (hfix rfl))
    have hDl := hlen D hD
    rw [hds] at k3
    generalize hes : D.map encI = es at *
    have hesl : es.length = N := by rw [← hes, List.length_map]; omega
    conv => cbv
    repeat' first | (refine exo _ _ _ ?_; (conv => cbv)) | (refine rto _ _ ?_; (conv => cbv)) | exact gu | exact trivial | refine And.intro ?_ ?_ | (intro hc; exact absurd hc (by decide)) | (intro hc; exfalso; omega) | (intro hc; (first | rw [wrap_small (by omega) (by omega)] at hc | rw [nI_eq] at hc | skip); try (conv => cbv))
    rename_i ls
    have e : ls = es := by rw [hc, List.drop_zero, ← hesl, List.take_length]
    subst e
    exact k3 (by omega)
  | true =>
    generalize hes : D.map encI = es at *
    conv => cbv
    repeat' first | exact gu | exact trivial | refine And.intro ?_ ?_ | (intro hc; exact absurd hc (by decide)) | (intro hc; exfalso; omega) | (intro hc; (first | rw [wrap_small (by omega) (by omega)] at hc | rw [nI_eq] at hc | skip); try (conv => cbv))
    subst hes
    refine loop_up (2 * links.length) (fun (s : Int × Bool × List Int) => (13, iA s.1) :: (12, bA s.2.1) :: srL dl n fr N) (fun s => srH nodes ol ll s.2.2) (fun k s => s.1 = k ∧ k ≤ 2 * links.length ∧ md s.2.2 ∧ (s.2.1 = false → s.2.2 = D ∧ ∀ a : Int, 0 ≤ a → a < k → fx D a) ∧ (s.2.1 = true → msr s.2.2 < msr D)) (0, false, D) (Wk.cw) ⟨rfl, by omega, hD, fun _ => ⟨rfl, fun a h0 h1 => by omega⟩, by simp⟩ (fun k s h => h.2.1) ?_
    rintro k' ⟨a, ch, D'⟩ Q' ⟨ha, hk', hD', hf', ht'⟩ norm ex rt
    simp only at ha hD' hf' ht'
    simp only [srH, srL]
    have hDl := hlen D' hD'
    generalize hes : D'.map encI = es at *
    have hesl : es.length = N := by rw [← hes, List.length_map]; omega
    by_cases hlt : k' < 2 * links.length
    · obtain ⟨⟨x0, x1⟩, ⟨y0, y1⟩, hne⟩ := hxy a (by omega) (by omega)
      have hxle := hml D' hD' (xo a) x0 x1
      have hyle := hml D' hD' (yo a) y0 y1
      have hcl := hcs a (by omega) (by omega)
      have hxa := hxe a
      have hya := hye a
      have hra := hoa a
      have hrx := hfx D' a
      have hta := htail a
      have hha := hhead a
      have hua := hup a (by omega)
      have hya2 := htr (yo a)
      have hca := hcost a
      have hms' := hms D' hD' a (by omega) (by omega)
      have hcnt : ∀ D2 ch2, md D2 → (ch2 = false → ch = false ∧ D2 = D' ∧ fx D' a) → (ch2 = true → ch = true ∧ D2 = D' ∨ msr D2 < msr D') → ∀ L' h' a', a' = a + 1 → Wk 0 L' h' ((13, iA a') :: (12, bA ch2) :: srL dl n fr N) (srH nodes ol ll D2) → Q' .normal L' h' := by
        intro D2 ch2 q1 q2 q3 L' h' a' q4 q5
        refine norm L' h' (a', ch2, D2) ⟨by simp only; omega, by omega, q1, fun hc2 => ?_, fun hc2 => ?_⟩ q5
        · obtain ⟨e1, e2, e3⟩ := q2 hc2
          obtain ⟨e4, e5⟩ := hf' e1
          subst e2
          refine ⟨e4, fun b b0 b1 => ?_⟩
          rcases Int.lt_or_le b k' with h | h
          · exact e5 b b0 h
          · obtain rfl : b = a := by omega
            rw [← e4]; exact e3
        · have hmm : msr D' ≤ msr D := by
            cases ch
            · rw [(hf' rfl).1]; exact Nat.le_refl _
            · exact Nat.le_of_lt (ht' rfl)
          rcases q3 hc2 with ⟨e1, e2⟩ | e1
          · rw [e2]; exact ht' e1
          · simp only; omega
      clear norm hf' ht' hfx hoa hxe hye htail hhead hup htr hcost hms hml hcs normo exo rto hxy hmd hlen
      cases fr
      · simp only [Bool.false_eq_true, if_false] at hxa hya
        rw [← hxa] at hta
        rw [← hya] at hha
        generalize xo a = X at *
        generalize yo a = Y at *
        generalize ct a = C at *
        conv => cbv
        repeat' first | (refine ex _ _ _ ?_; (conv => cbv)) | (refine rt _ _ ?_; (conv => cbv)) | (intro e he; obtain ⟨x, hx, rfl⟩ := map_get' hes he; have hgY := gt_of (i := Y) hx; have hgX := gt_of (i := X) hx; (conv => cbv)) | (refine call_r hta rfl rfl ?_; conv => cbv) | (refine call_r hha rfl rfl ?_; conv => cbv) | refine call_b hua rfl rfl ?_ ?_ | refine call_b hya2 rfl rfl ?_ ?_ | (refine call_r hca rfl rfl ?_; conv => cbv) | exact gu | exact trivial | refine And.intro ?_ ?_ | (intro hc; exact absurd hc (by decide)) | (intro hc; exfalso; omega) | (intro hc; (first | rw [wrap_small (by omega) (by omega)] at hc | rw [nI_eq] at hc | skip); try (conv => cbv))
        all_goals clear hta hha hua hya2 hca
        all_goals first
          | (refine hcnt D' ch hD' (fun h => ⟨h, rfl, hrx.2 fun ho hy => ?_⟩) (fun h => .inl ⟨h, rfl⟩) _ _ _ hc (by subst hes; exact Wk.cw)
             first
             | (exfalso; omega)
             | (exact ⟨by omega, by omega⟩)
             | (exfalso; rw [hra] at ho; simp_all; done))
          | (rename_i es' hes' _
             have hoa : oa a = true := by rw [hra, ‹ub a = true›, ‹tb Y n = true›]; rfl
             have hst := hms' hoa (by omega) (by omega)
             have e3 : es' = (D'.set X.toNat (gt D' Y + C)).map encI := by
               refine hes'.trans ((enc_set hes he).trans ?_)
               congr 1
               congr 1 <;> omega
             subst e3
             exact hcnt _ true hst.1 (by simp) (fun _ => .inr hst.2) _ _ _ hc (Wk.cw))
          | trace_state
      · simp only [if_true] at hxa hya
        rw [← hya] at hta
        rw [← hxa] at hha
        generalize xo a = X at *
        generalize yo a = Y at *
        generalize ct a = C at *
        conv => cbv
        repeat' first | (refine ex _ _ _ ?_; (conv => cbv)) | (refine rt _ _ ?_; (conv => cbv)) | (intro e he; obtain ⟨x, hx, rfl⟩ := map_get' hes he; have hgY := gt_of (i := Y) hx; have hgX := gt_of (i := X) hx; (conv => cbv)) | (refine call_r hta rfl rfl ?_; conv => cbv) | (refine call_r hha rfl rfl ?_; conv => cbv) | refine call_b hua rfl rfl ?_ ?_ | refine call_b hya2 rfl rfl ?_ ?_ | (refine call_r hca rfl rfl ?_; conv => cbv) | exact gu | exact trivial | refine And.intro ?_ ?_ | (intro hc; exact absurd hc (by decide)) | (intro hc; exfalso; omega) | (intro hc; (first | rw [wrap_small (by omega) (by omega)] at hc | rw [nI_eq] at hc | skip); try (conv => cbv))
        all_goals clear hta hha hua hya2 hca
        all_goals first
          | (refine hcnt D' ch hD' (fun h => ⟨h, rfl, hrx.2 fun ho hy => ?_⟩) (fun h => .inl ⟨h, rfl⟩) _ _ _ hc (by subst hes; exact Wk.cw)
             first
             | (exfalso; omega)
             | (exact ⟨by omega, by omega⟩)
             | (exfalso; rw [hra] at ho; simp_all; done))
          | (rename_i es' hes' _
             have hoa : oa a = true := by rw [hra, ‹ub a = true›, ‹tb Y n = true›]; rfl
             have hst := hms' hoa (by omega) (by omega)
             have e3 : es' = (D'.set X.toNat (gt D' Y + C)).map encI := by
               refine hes'.trans ((enc_set hes he).trans ?_)
               congr 1
               congr 1 <;> omega
             subst e3
             exact hcnt _ true hst.1 (by simp) (fun _ => .inr hst.2) _ _ _ hc (Wk.cw))
          | trace_state
    · conv => cbv
      repeat' first | (refine ex _ _ _ ?_; (conv => cbv)) | (refine rt _ _ ?_; (conv => cbv)) | exact gu | exact trivial | refine And.intro ?_ ?_ | (intro hc; exact absurd hc (by decide)) | (intro hc; exfalso; omega) | (intro hc; (first | rw [wrap_small (by omega) (by omega)] at hc | rw [nI_eq] at hc | skip); try (conv => cbv))
      subst hes
      refine normo _ _ (_, _) ?_ (Wk.cw)
      simp only
      simp only [if_true, Nat.add_zero] at hkm
      cases ch
      · obtain ⟨h1, h2⟩ := hf' rfl
        subst h1
        exact ⟨hD', fun _ b b0 b1 => h2 b b0 (by omega), by simp only [Bool.false_eq_true, if_false]; omega⟩
      · have := ht' rfl
        exact ⟨hD', by simp, by simp only [if_true]; omega⟩
end Go.Ab

/-
  Shortest paths, part d: next arcs, routes.
-/
namespace Go.Ab
open Go.Proofs
theorem dist_ok (P : Program) (hP : P = Try.prog) (t : Top) (down : List Bool) (n : Int) : Ret P n_ref11_Dist [topA t, boolsA down, iA n] (.tup [intsA (searchS t down n false).1, iA (searchS t down n false).2]) := by
 have hs := search_ok P hP t down n false
 refine ret_start (hP ▸ mixed) (hP ▸ fn_ref11_Dist) (hP ▸ c_ref11_Dist) (Nat.le_of_ble_eq_true rfl) fun Λ Λo K hK => ?_
 clear hP
 generalize searchS t down n false = r at *
 obtain ⟨D, e⟩ := r
 simp only [intsA, intsD, boolsA, boolsD] at *
 generalize D.map encI = Dl at *
 generalize down.map encB = dl at *
 obtain ⟨nodes, ov, links⟩ := t
 simp only [topA, boolsD, linksD] at *
 generalize hol : ov.map encB = ol at *
 generalize hll : links.map encLk = ll at *
 have hlo : Λ ol = ov.length := by rw [Λo, ← hol]; simp
 have hls : Λ ll = links.length := by rw [Λo, ← hll]; simp
 conv => cbv
 repeat' first | (refine call_r hs rfl rfl ?_; conv => cbv) | exact gu | exact trivial | refine And.intro ?_ ?_ | (intro hc; exact absurd hc (by decide)) | (intro hc; exfalso; omega) | (intro hc; (first | rw [wrap_small (by omega) (by omega)] at hc | rw [nI_eq] at hc | skip); try (conv => cbv))
 exact hK
def onB (t : Top) (down : List Bool) (D : List Int) (a d : Int) : Bool :=
 upB down a && !decide (tailT t a = d) && decide (0 ≤ gt D (headT t a)) && transitB t (headT t a) d && decide (gt D (tailT t a) = gt D (headT t a) + costT t a)
set_option maxHeartbeats 1000000 in
theorem on_ok (P : Program) (hP : P = Try.prog) (t : Top) (down : List Bool) (D : List Int) (a d : Int) (hv : validT t = true) (hd : down.length = 0 ∨ down.length = 2 * t.links.length) (h0 : 0 ≤ a) (h1 : a < 2 * t.links.length) (hl : (D.length : Int) = t.nodes)
  (hb : ∀ i, 0 ≤ i → i < t.nodes → -1 ≤ gt D i ∧ gt D i ≤ 4194240) : Ret P n_ref11_On [topA t, boolsA down, intsA D, iA a, iA d] (bA (onB t down D a d)) := by
 have hta := tail_ok P hP t a
 have hha := head_ok P hP t a
 have hua := up_ok P hP down a (by omega)
 have htr := transit_ok P hP t (headT t a) d
 have hca := cost_ok P hP t a
 refine ret_start (hP ▸ mixed) (hP ▸ fn_ref11_On) (hP ▸ c_ref11_On) (Nat.le_of_ble_eq_true rfl) fun Λ Λo K hK => ?_
 clear hP
 have leaf : ∀ b, onB t down D a d = b → K (bA b) := fun b hb => by rw [← hb]; exact hK
 have hr : onB t down D a d = (upB down a && !decide (tailT t a = d) && decide (0 ≤ gt D (headT t a)) && transitB t (headT t a) d && decide (gt D (tailT t a) = gt D (headT t a) + costT t a)) := rfl
 clear hK
 obtain ⟨⟨x0, x1⟩, ⟨y0, y1⟩, hne, c0, c1⟩ := arc_facts hv h0 h1
 have hbx := hb _ x0 x1
 have hby := hb _ y0 y1
 generalize onB t down D a d = r at *
 generalize tailT t a = X at *
 generalize headT t a = Y at *
 generalize costT t a = C at *
 generalize transitB t Y d = tb at *
 generalize upB down a = ub at *
 simp only [intsA, intsD, boolsA, boolsD] at *
 generalize hes : D.map encI = es at *
 have hesn : Λ es = D.length := by rw [Λo, ← hes]; simp
 generalize hdl : down.map encB = dl at *
 obtain ⟨nodes, ov, links⟩ := t
 simp only [topA, boolsD, linksD] at *
 generalize hol : ov.map encB = ol at *
 generalize hll : links.map encLk = ll at *
 have hlo : Λ ol = ov.length := by rw [Λo, ← hol]; simp
 have hls : Λ ll = links.length := by rw [Λo, ← hll]; simp
 conv => cbv
 repeat' first | (intro e he; obtain ⟨x, hx, rfl⟩ := map_get' hes he; have hgY := gt_of (i := Y) hx; have hgX := gt_of (i := X) hx; (conv => cbv)) | (refine call_r hta rfl rfl ?_; conv => cbv) | (refine call_r hha rfl rfl ?_; conv => cbv) | refine call_b hua rfl rfl ?_ ?_ | refine call_b htr rfl rfl ?_ ?_ | (refine call_r hca rfl rfl ?_; conv => cbv) | exact gu | exact trivial | refine And.intro ?_ ?_ | (intro hc; exact absurd hc (by decide)) | (intro hc; exfalso; omega) | (intro hc; (first | rw [wrap_small (by omega) (by omega)] at hc | rw [nI_eq] at hc | skip); try (conv => cbv))
 all_goals clear hta hha hua htr hca
 ·refine leaf _ (hr.trans ?_)
  rw [‹ub = true›, ‹tb = true›, decide_eq_false (p := X = d) (by assumption), decide_eq_true (p := 0 ≤ gt D Y) (by omega), decide_eq_true (p := gt D X = gt D Y + C) (by omega)]; rfl
 ·refine leaf _ (hr.trans ?_)
  rw [decide_eq_false (p := gt D X = gt D Y + C) (by omega)]; simp
 ·refine leaf _ (hr.trans ?_)
  rw [hc]; simp
 ·refine leaf _ (hr.trans ?_)
  rw [decide_eq_false (p := 0 ≤ gt D Y) (by omega)]; simp
 ·refine leaf _ (hr.trans ?_)
  rw [decide_eq_true hc]; simp
 ·refine leaf _ (hr.trans ?_)
  rw [hc]; simp
def nextL (t : Top) (down : List Bool) (D : List Int) (n d : Int) : List Int := (arcsTo (2 * t.links.length)).filter fun a => decide (tailT t a = n) && onB t down D a d
set_option maxHeartbeats 1000000 in
theorem nextl_ok (P : Program) (hP : P = Try.prog) (t : Top) (down : List Bool) (D : List Int) (n d : Int) (hv : validT t = true) (hd : down.length = 0 ∨ down.length = 2 * t.links.length) (hl : (D.length : Int) = t.nodes)
  (hb : ∀ i, 0 ≤ i → i < t.nodes → -1 ≤ gt D i ∧ gt D i ≤ 4194240) : Ret P n_ref12_next [topA t, boolsA down, intsA D, iA n, iA d] (intsA (nextL t down D n d)) := by
 have ht := tail_ok P hP t
 have hon := fun a h0 h1 => on_ok P hP t down D a d hv hd h0 h1 hl hb
 refine ret_start (hP ▸ mixed) (hP ▸ fn_ref12_next) (hP ▸ c_ref12_next) (Nat.le_of_ble_eq_true rfl) fun Λ Λo K hK => ?_
 clear hP
 have hl256 := (validT_spec.1 hv).2.2.1
 have ho : nextL t down D n d = (arcsTo (2 * t.links.length)).filter fun a => decide (tailT t a = n) && onB t down D a d := rfl
 rw [ho] at hK
 clear ho
 generalize hf : tailT t = f at *
 obtain ⟨g, hg⟩ : ∃ g : Int → Bool, ∀ a, onB t down D a d = g a := ⟨_, fun _ => rfl⟩
 simp only [hg] at hon hK
 clear hg
 simp only [intsA, intsD, boolsA, boolsD] at *
 generalize D.map encI = es at *
 generalize down.map encB = dl at *
 obtain ⟨nodes, ov, links⟩ := t
 simp only [topA, boolsD, linksD] at *
 generalize hol : ov.map encB = ol at *
 generalize hll : links.map encLk = ll at *
 have hlo : Λ ol = ov.length := by rw [Λo, ← hol]; simp
 have hls : Λ ll = links.length := by rw [Λo, ← hll]; simp
 generalize hv2 : 2 * links.length = v at *
 conv => cbv
 repeat' first | exact gu | exact trivial | refine And.intro ?_ ?_ | (intro hc; exact absurd hc (by decide)) | (intro hc; exfalso; omega) | (intro hc; (first | rw [wrap_small (by omega) (by omega)] at hc | rw [nI_eq] at hc | skip); try (conv => cbv))
 refine loop_up v (fun (s : Int × Nat × Nat × Bool × List (List Ab.D)) => [(1, .c (.d (.list false 1 dl))), (2, .c (.d (.list false 1 es))), (3, iA n), (4, iA d), (5, .c (.ptr 0 0 0 0)), (11, .c (.arr 1 s.2.1 0 s.2.2.1)), (12, iA s.1)]) (fun s => [.bx [.d (.int .i64 nodes), .d (.list false 1 ol), .d (.list false 7 ll)], .da s.2.2.2.1 s.2.1 1 s.2.2.2.2])
  (fun k s => s.1 = k ∧ k ≤ v ∧ s.2.2.1 = s.2.2.2.2.length ∧ s.2.2.2.2 = (((arcsTo k).filter fun a => decide (f a = n) && g a).map encI)) (0, 0, 0, false, []) (.trans (.nilS 11 1 rfl) (Wk.cw)) ⟨rfl, by omega, rfl, rfl⟩ (fun k s h => h.2.1) ?_
 rintro k ⟨i, ve, m, r, es'⟩ Q' ⟨hi, hk, hm, hes⟩ norm ex rt
 simp only at hi hm hes
 have hesl : es'.length ≤ k := by
  rw [hes, List.length_map]
  refine Nat.le_trans (List.length_filter_le _ _) ?_
  simp [arcsTo]
 conv => cbv
 repeat' first | (refine ex _ _ _ ?_; (conv => cbv)) | (refine rt _ _ ?_; (conv => cbv)) | refine call_i (ht _) rfl rfl ?_ | refine call_b (hon _ (by omega) (by omega)) rfl rfl ?_ ?_ | (intro (_ : Unit); refine ⟨rfl, ?_⟩; simp only [List.length_cons, List.length_nil]; omega) | exact gu | exact trivial | refine And.intro ?_ ?_ | (intro hc; exact absurd hc (by decide)) | (intro hc; exfalso; omega) | (intro hc; (first | rw [wrap_small (by omega) (by omega)] at hc | rw [nI_eq] at hc | skip); try (conv => cbv))
 ·rename_i hfi hn hgi m' r' es2 hm' hr' he' i'
  refine norm _ _ (_, _, _, _, _) ?_ (Wk.cw)
  have e : es2 = ((arcsTo (k + 1)).filter fun a => decide (f a = n) && g a).map encI := by
   rw [he', List.drop_zero, hm, List.take_length, hes, arcsTo_succ, List.filter_append, List.map_append]
   rw [← hi, List.filter_cons_of_pos (by rw [hgi, decide_eq_true (by omega)]; rfl)]; rfl
  exact ⟨by simp only; omega, by omega, by simp only; rw [hm', he', List.drop_zero, hm, List.take_length]; simp, e⟩
 ·rename_i hfi hn hgi i'
  refine norm _ _ (_, _, _, _, _) ?_ (Wk.cw)
  have e : es' = ((arcsTo (k + 1)).filter fun a => decide (f a = n) && g a).map encI := by
   rw [hes, arcsTo_succ, List.filter_append, List.map_append]
   rw [← hi, List.filter_cons_of_neg (by rw [hgi]; simp)]; simp
  exact ⟨by simp only; omega, by omega, hm, e⟩
 ·rename_i hfi hn i'
  refine norm _ _ (_, _, _, _, _) ?_ (Wk.cw)
  have e : es' = ((arcsTo (k + 1)).filter fun a => decide (f a = n) && g a).map encI := by
   rw [hes, arcsTo_succ, List.filter_append, List.map_append]
   rw [← hi, List.filter_cons_of_neg (by rw [decide_eq_false (by omega)]; simp)]; simp
  exact ⟨by simp only; omega, by omega, hm, e⟩
 ·rename_i ls
  have e : ls = ((arcsTo v).filter fun a => decide (f a = n) && g a).map encI := by
   rw [hc, List.drop_zero, hm, List.take_length, hes, show k = v by omega]
  subst e
  exact hK
theorem mid_end {t : Top} (hv : validT t = true) {down : List Bool} {e : Int} {fr : Bool} : ∀ (m : Nat) (D : List Int), msr D = m → Mid t down e fr D → ∃ D', Mid t down e fr D' ∧ ∀ a : Int, 0 ≤ a → a < 2 * t.links.length → fixAt t down e fr D' a := by
 intro m
 induction m using Nat.strongRecOn with
 | _ m ih =>
  intro D hm hD
  by_cases h : ∀ a : Int, 0 ≤ a → a < 2 * t.links.length → fixAt t down e fr D a
  ·exact ⟨D, hD, h⟩
  ·simp only [Classical.not_forall] at h
   obtain ⟨a, a0, a1, ha⟩ := h
   simp only [fixAt, Classical.not_forall] at ha
   obtain ⟨ho, hy, hn⟩ := ha
   obtain ⟨s1, s2⟩ := hD.step hv a0 a1 ho hy (by omega)
   exact ih _ (by omega) _ rfl s1
theorem distS_spec {t : Top} (hv : validT t = true) (down : List Bool) {n : Int} (fr : Bool) (h0 : 0 ≤ n) (h1 : n < t.nodes) : IsDist t down n fr (distS t down n fr) ∧ ∀ i, 0 ≤ i → i < t.nodes → -1 ≤ gt (distS t down n fr) i ∧ gt (distS t down n fr) i ≤ 4194240 := by
 obtain ⟨D, hD, hf⟩ := mid_end hv _ _ rfl (mid_start (t := t) (down := down) (n := n) (fr := fr) h0 h1)
 have hd := hD.dist hf
 rw [distS_eq hv hd]
 exact ⟨hd, fun i i0 i1 => ⟨hd.lo i i0 i1, hD.le hv i0 i1⟩⟩
noncomputable def nextS (t : Top) (down : List Bool) (n d : Int) : List Int × Int :=
 if fitsB t down = true then (if 0 ≤ d ∧ d < t.nodes then (if 0 ≤ n ∧ n < t.nodes then (nextL t down (distS t down d false) n d, 0) else ([], 2)) else ([], 2)) else ([], 1)
theorem next_ok (P : Program) (hP : P = Try.prog) (t : Top) (down : List Bool) (n d : Int) : Ret P n_ref12_Next [topA t, boolsA down, iA n, iA d] (.tup [intsA (nextS t down n d).1, iA (nextS t down n d).2]) := by
 have hs := dist_ok P hP t down d
 have hfb : fitsB t down = true → validT t = true ∧ (down.length = 0 ∨ down.length = 2 * t.links.length) := by
  intro h; simpa [fitsB] using h
 have hn := fun (hf : fitsB t down = true) (h : 0 ≤ d ∧ d < t.nodes) => nextl_ok P hP t down (distS t down d false) n d (hfb hf).1 (hfb hf).2 (distS_spec (hfb hf).1 down false h.1 h.2).1.len (distS_spec (hfb hf).1 down false h.1 h.2).2
 refine ret_start (hP ▸ mixed) (hP ▸ fn_ref12_Next) (hP ▸ c_ref12_Next) (Nat.le_of_ble_eq_true rfl) fun Λ Λo K hK => ?_
 clear hP hfb
 have hsr : searchS t down d false = if fitsB t down = true then (if 0 ≤ d ∧ d < t.nodes then (distS t down d false, 0) else ([], 2)) else ([], 1) := rfl
 have hnr : nextS t down n d = if fitsB t down = true then (if 0 ≤ d ∧ d < t.nodes then (if 0 ≤ n ∧ n < t.nodes then (nextL t down (distS t down d false) n d, 0) else ([], 2)) else ([], 2)) else ([], 1) := rfl
 generalize searchS t down d false = sr at *
 generalize nextS t down n d = nr at *
 generalize nextL t down (distS t down d false) n d = nl at *
 generalize distS t down d false = ds at *
 by_cases hf : fitsB t down = true
 ·rw [if_pos hf] at hsr hnr
  by_cases hd : 0 ≤ d ∧ d < t.nodes
  ·rw [if_pos hd] at hsr hnr
   have hn := hn hf hd
   subst hsr
   have k1 : ¬ (0 ≤ n ∧ n < t.nodes) → K (.tup [intsA [], iA 2]) := by intro h; rw [hnr, if_neg h] at hK; exact hK
   have k2 : (0 ≤ n ∧ n < t.nodes) → K (.tup [intsA nl, iA 0]) := by intro h; rw [hnr, if_pos h] at hK; exact hK
   clear hK hnr
   simp only [intsA, intsD, boolsA, boolsD, List.map_nil] at *
   generalize nl.map encI = nl' at *
   generalize ds.map encI = ds' at *
   generalize down.map encB = dl at *
   obtain ⟨nodes, ov, links⟩ := t
   simp only [topA, boolsD, linksD] at *
   generalize hol : ov.map encB = ol at *
   generalize hll : links.map encLk = ll at *
   have hlo : Λ ol = ov.length := by rw [Λo, ← hol]; simp
   have hls : Λ ll = links.length := by rw [Λo, ← hll]; simp
   conv => cbv
   repeat' first | (refine call_r hs rfl rfl ?_; conv => cbv) | (refine call_r hn rfl rfl ?_; conv => cbv) | exact gu | exact trivial | refine And.intro ?_ ?_ | (intro hc; exact absurd hc (by decide)) | (intro hc; exfalso; omega) | (intro hc; (first | rw [wrap_small (by omega) (by omega)] at hc | rw [nI_eq] at hc | skip); try (conv => cbv))
   ·exact k1 (by omega)
   ·exact k1 (by omega)
   ·exact k2 (by omega)
  ·rw [if_neg hd] at hsr hnr
   subst hsr hnr
   simp only [intsA, intsD, boolsA, boolsD, List.map_nil] at *
   generalize down.map encB = dl at *
   obtain ⟨nodes, ov, links⟩ := t
   simp only [topA, boolsD, linksD] at *
   generalize hol : ov.map encB = ol at *
   generalize hll : links.map encLk = ll at *
   have hlo : Λ ol = ov.length := by rw [Λo, ← hol]; simp
   have hls : Λ ll = links.length := by rw [Λo, ← hll]; simp
   conv => cbv
   repeat' first | (refine call_r hs rfl rfl ?_; conv => cbv) | exact gu | exact trivial | refine And.intro ?_ ?_ | (intro hc; exact absurd hc (by decide)) | (intro hc; exfalso; omega) | (intro hc; (first | rw [wrap_small (by omega) (by omega)] at hc | rw [nI_eq] at hc | skip); try (conv => cbv))
   exact hK
 ·rw [if_neg hf] at hsr hnr
  subst hsr hnr
  simp only [intsA, intsD, boolsA, boolsD, List.map_nil] at *
  generalize down.map encB = dl at *
  obtain ⟨nodes, ov, links⟩ := t
  simp only [topA, boolsD, linksD] at *
  generalize hol : ov.map encB = ol at *
  generalize hll : links.map encLk = ll at *
  have hlo : Λ ol = ov.length := by rw [Λo, ← hol]; simp
  have hls : Λ ll = links.length := by rw [Λo, ← hll]; simp
  conv => cbv
  repeat' first | (refine call_r hs rfl rfl ?_; conv => cbv) | exact gu | exact trivial | refine And.intro ?_ ?_ | (intro hc; exact absurd hc (by decide)) | (intro hc; exfalso; omega) | (intro hc; (first | rw [wrap_small (by omega) (by omega)] at hc | rw [nI_eq] at hc | skip); try (conv => cbv))
  exact hK
end Go.Ab

/-
  Shortest paths, part e: the routes of a node.
-/
namespace Go.Ab
open Go.Proofs
noncomputable def toL (t : Top) (down : List Bool) (n : Int) (k : Nat) : List Ety := (arcsTo k).map fun d => ⟨(nextS t down n d).1, false, []⟩
def downL (t : Top) (down : List Bool) (n : Int) : List Int := (outT t n).filter fun a => !upB down a
noncomputable def routesS (t : Top) (down : List Bool) (n : Int) : Tab × Int :=
 if fitsB t down = true then (if 0 ≤ n ∧ n < t.nodes then (⟨n, toL t down n t.nodes.toNat, downL t down n⟩, 0) else (⟨0, [], []⟩, 2)) else (⟨0, [], []⟩, 1)
set_option maxHeartbeats 2000000 in
theorem routes_ok (P : Program) (hP : P = Try.prog) (t : Top) (down : List Bool) (n : Int) : Ret P n_ref22_Routes [topA t, boolsA down, iA n] (.tup [tabA (routesS t down n).1, iA (routesS t down n).2]) := by
 have hfits := fits_ok P hP t down
 have hnext := fun d => next_ok P hP t down n d
 have hout := out_ok P hP t n
 have hup := fun a => up_ok P hP down a
 refine ret_start (hP ▸ mixed) (hP ▸ fn_ref22_Routes) (hP ▸ c_ref22_Routes) (Nat.le_of_ble_eq_true rfl) fun Λ Λo K hK => ?_
 clear hP
 have k1 : fitsB t down = false → K (.tup [tabA ⟨0, [], []⟩, iA 1]) := by
  intro h; rw [routesS, if_neg (by rw [h]; decide)] at hK; exact hK
 have k2 : fitsB t down = true → ¬ (0 ≤ n ∧ n < t.nodes) → K (.tup [tabA ⟨0, [], []⟩, iA 2]) := by
  intro h h'; rw [routesS, if_pos h, if_neg h'] at hK; exact hK
 have k3 : fitsB t down = true → (0 ≤ n ∧ n < t.nodes) → K (.tup [tabA ⟨n, toL t down n t.nodes.toNat, downL t down n⟩, iA 0]) := by
  intro h h'; rw [routesS, if_pos h, if_pos h'] at hK; exact hK
 clear hK
 have hfb : fitsB t down = true → validT t = true ∧ (down.length = 0 ∨ down.length = 2 * t.links.length) := by
  intro h; simpa [fitsB] using h
 have hn64 := fun (hv : validT t = true) => (validT_spec.1 hv).1
 have hor : validT t = true → ∀ a ∈ outT t n, 0 ≤ a ∧ a < 2 * t.links.length := by
  intro hv a ha
  have h2 : arcsT t = 2 * t.links.length := by rw [arcsT, if_pos hv]
  simp only [outT, List.mem_filter, arcsTo, List.mem_map, List.mem_range] at ha
  obtain ⟨⟨k, hk, rfl⟩, _⟩ := ha
  omega
 have hol' : (outT t n).length ≤ 512 := by
  rw [outT]
  refine Nat.le_trans (List.length_filter_le _ _) ?_
  have := (arcsT_le t).2.1
  simp only [arcsTo, List.length_map, List.length_range]; omega
 have hts : ∀ k, toL t down n (k + 1) = toL t down n k ++ [⟨(nextS t down n k).1, false, []⟩] := by
  intro k; simp [toL, arcsTo_succ]
 have ht0 : toL t down n 0 = [] := rfl
 have htn : ∀ k, (toL t down n k).length = k := by intro k; simp [toL, arcsTo]
 have hdl' : downL t down n = (outT t n).filter fun a => !upB down a := rfl
 generalize fitsB t down = fb at *
 generalize validT t = v at *
 generalize toL t down n = tol at *
 generalize downL t down n = dol at *
 generalize upB down = ub at *
 generalize nextS t down n = nx at *
 generalize outT t n = ou at *
 simp only [boolsA, boolsD] at *
 generalize hdl : down.map encB = dl at *
 obtain ⟨nodes, ov, links⟩ := t
 simp only [topA, boolsD, linksD] at *
 generalize hol : ov.map encB = ol at *
 generalize hll : links.map encLk = ll at *
 have hlo : Λ ol = ov.length := by rw [Λo, ← hol]; simp
 have hls : Λ ll = links.length := by rw [Λo, ← hll]; simp
 simp only [tabA, intsA, intsD, entsD, List.map_nil] at *
 cases fb
 ·conv => cbv
  repeat' first | refine call_b hfits rfl rfl ?_ ?_ | (intro hc; cases hc; done) | exact gu | exact trivial | refine And.intro ?_ ?_ | (intro hc; exact absurd hc (by decide)) | (intro hc; exfalso; omega) | (intro hc; (first | rw [wrap_small (by omega) (by omega)] at hc | rw [nI_eq] at hc | skip); try (conv => cbv))
  exact k1 rfl
 obtain ⟨hv, hdo⟩ := hfb rfl
 subst hv
 simp only [forall_const] at *
 conv => cbv
 repeat' first | refine call_b hfits rfl rfl ?_ ?_ | (intro hc; cases hc; done) | exact gu | exact trivial | refine And.intro ?_ ?_ | (intro hc; exact absurd hc (by decide)) | (intro hc; exfalso; omega) | (intro hc; (first | rw [wrap_small (by omega) (by omega)] at hc | rw [nI_eq] at hc | skip); try (conv => cbv))
 ·exact k2 (by omega)
 ·exact k2 (by omega)
 have k3 := k3 (by omega)
 clear k1 k2 hfits hfb
 refine loop_upx nodes.toNat (fun (s : Int × Nat × Nat × Bool × List (List D)) => [(1, .c (.d (.list false 1 dl))), (2, iA n), (3, .c (.ptr 0 0 0 0)), (6, .c (.ptr 1 0 0 0)), (8, .c (.ptr 2 0 0 0)), (9, iA s.1)])
  (fun s => [.bx [.d (iD nodes), .d (.list false 1 ol), .d (.list false 7 ll)], .bx [.d (iD 0), .d (.list true 3 []), .d (.list true 1 [])], .bx [.d (iD n), .arr 3 s.2.1 0 s.2.2.1, .d (.list true 1 [])], .da s.2.2.2.1 s.2.1 3 s.2.2.2.2])
  (fun k s => s.1 = k ∧ k ≤ nodes.toNat ∧ s.2.2.1 = s.2.2.2.2.length ∧ s.2.2.2.2 = (tol k).map encEnt ∧ s.2.2.1 = k) (0, 0, 0, false, [])
  0 (fun (s : Nat × Bool) => [(1, .c (.d (.list false 1 dl))), (2, iA n), (3, .c (.ptr 0 0 0 0)), (6, .c (.ptr 1 0 0 0)), (8, .c (.ptr 2 0 0 0))])
  (fun s => [.bx [.d (iD nodes), .d (.list false 1 ol), .d (.list false 7 ll)], .bx [.d (iD 0), .d (.list true 3 []), .d (.list true 1 [])], .bx [.d (iD n), .arr 3 s.1 0 nodes.toNat, .d (.list true 1 [])], .da s.2 s.1 3 ((tol nodes.toNat).map encEnt)]) (fun _ => True)
  (.trans (.nilB 2 1 3 _ rfl rfl) (Wk.cw)) ⟨rfl, by omega, rfl, by rw [ht0]; rfl, rfl⟩ (fun k s h => h.2.1) ?_ ?_
 ·rintro k ⟨d, ve, m, r, es⟩ Q' ⟨hi, hk, hm, hes, hmk⟩ norm jn ex rt
  simp only at hi hm hes hmk
  have hnx := hnext d
  have hts := hts k
  rw [← hi] at hts
  generalize nx d = nd at *
  obtain ⟨nl, ne⟩ := nd
  simp only at hnx hts
  generalize hnl : nl.map encI = nll at *
  by_cases hlt : k < nodes.toNat
  ·conv => cbv
   repeat' first | (refine ex _ _ _ ?_; (conv => cbv)) | (refine call_r hnx rfl rfl ?_; conv => cbv) | (intro (_ : Unit); refine ⟨rfl, ?_⟩; simp only [List.length_cons, List.length_nil]; omega) | exact gu | exact trivial | refine And.intro ?_ ?_ | (intro hc; exact absurd hc (by decide)) | (intro hc; exfalso; omega) | (intro hc; (first | rw [wrap_small (by omega) (by omega)] at hc | rw [nI_eq] at hc | skip); try (conv => cbv))
   rename_i m' r' es2 hm' hr' he' i'
   refine norm _ _ (_, _, _, _, _) ?_ (Wk.cw)
   have e : es2 = (tol (k + 1)).map encEnt := by
    rw [he', List.drop_zero, hm, List.take_length, hes, hts, List.map_append]
    simp only [List.map_cons, List.map_nil, encEnt, intsD, segsD, hnl]
   exact ⟨by simp only; omega, by omega, by simp only; rw [hm', he', List.drop_zero, hm, List.take_length]; simp, e, by simp only; rw [hm']; simp; omega⟩
  ·conv => cbv
   repeat' first | exact gu | exact trivial | refine And.intro ?_ ?_ | (intro hc; exact absurd hc (by decide)) | (intro hc; exfalso; omega) | (intro hc; (first | rw [wrap_small (by omega) (by omega)] at hc | rw [nI_eq] at hc | skip); try (conv => cbv))
   have e : k = nodes.toNat := by omega
   subst e
   subst hes hmk
   refine jn _ _ (_, _) trivial (Wk.cw)
 rintro ⟨ve, r⟩ -
 generalize hN : nodes.toNat = N at *
 generalize hTl : (tol N).map encEnt = tl at *
 generalize oeh : ou.map encI = oe at *
 have hon : Λ oe = ou.length := by rw [Λo, ← oeh]; simp
 conv => cbv
 repeat' first | (refine call_r hout rfl rfl ?_; conv => cbv) | exact gu | exact trivial | refine And.intro ?_ ?_ | (intro hc; exact absurd hc (by decide)) | (intro hc; exfalso; omega) | (intro hc; (first | rw [wrap_small (by omega) (by omega)] at hc | rw [nI_eq] at hc | skip); try (conv => cbv))
 have htl : tl.length = N := by rw [← hTl, List.length_map]; exact htn N
 refine loop_up ou.length (fun (s : Int × Nat × Nat × Bool × List (List D)) => [(1, .c (.d (.list false 1 dl))), (6, .c (.ptr 1 0 0 0)), (8, .c (.ptr 2 0 0 0)), (12, .c (.d (.list false 1 oe))), (13, iA s.1)])
  (fun s => [.bx [.d (iD nodes), .d (.list false 1 ol), .d (.list false 7 ll)], .bx [.d (iD 0), .d (.list true 3 []), .d (.list true 1 [])], .bx [.d (iD n), .arr 3 ve 0 N, .arr 4 s.2.1 0 s.2.2.1], .da r ve 3 tl, .da s.2.2.2.1 s.2.1 1 s.2.2.2.2])
  (fun k s => s.1 = k ∧ k ≤ ou.length ∧ s.2.2.1 = s.2.2.2.2.length ∧ s.2.2.2.2 = ((ou.take k).filter fun a => !ub a).map encI) (0, 0, 0, false, [])
  (.trans (.nilB 2 2 1 _ rfl rfl) (Wk.cw)) ⟨rfl, by omega, rfl, rfl⟩ (fun k s h => h.2.1) ?_
 rintro k ⟨i, v2, m, r2, es⟩ Q' ⟨hi, hk, hm, hes⟩ norm ex rt
 simp only at hi hm hes
 have hesl : es.length ≤ k := by
  rw [hes, List.length_map]
  refine Nat.le_trans (List.length_filter_le _ _) ?_
  simp; omega
 by_cases hlt : k < ou.length
 ·obtain ⟨x, hx⟩ : ∃ x, ou[k]? = some x := ⟨_, List.getElem?_eq_getElem hlt⟩
  have hxa := elt_at oeh hi hx
  have hxr := hor x (List.mem_of_getElem? hx)
  have hux := hup x (by omega)
  simp only [encI] at hxa
  generalize hubx : ub x = u at *
  conv => cbv
  repeat' first | (refine ex _ _ _ ?_; (conv => cbv)) | (refine rt _ _ ?_; (conv => cbv)) | (intro e he; cases Option.some.inj (he.symm.trans hxa); (conv => cbv)) | refine call_b hux rfl rfl ?_ ?_ | (intro (_ : Unit); refine ⟨rfl, ?_⟩; simp only [List.length_cons, List.length_nil]; omega) | exact gu | exact trivial | refine And.intro ?_ ?_ | (intro hc; exact absurd hc (by decide)) | (intro hc; exfalso; omega) | (intro hc; (first | rw [wrap_small (by omega) (by omega)] at hc | rw [nI_eq] at hc | skip); try (conv => cbv))
  ·refine norm _ _ (_, _, _, _, _) ?_ (Wk.cw)
   have e : es = ((ou.take (k + 1)).filter fun a => !ub a).map encI := by
    rw [take_succ_get hx, List.filter_append, List.map_append, ← hes, List.filter_cons_of_neg (by rw [hubx]; simp_all)]; simp
   exact ⟨by simp only; omega, by omega, hm, e⟩
  ·rename_i m' r' es2 hm' hr' he' i'
   refine norm _ _ (_, _, _, _, _) ?_ (Wk.cw)
   have e : es2 = ((ou.take (k + 1)).filter fun a => !ub a).map encI := by
    rw [he', List.drop_zero, hm, List.take_length, take_succ_get hx, List.filter_append, List.map_append, ← hes, List.filter_cons_of_pos (by rw [hubx]; simp_all)]; rfl
   exact ⟨by simp only; omega, by omega, by simp only; rw [hm', he', List.drop_zero, hm, List.take_length]; simp, e⟩
 ·conv => cbv
  repeat' first | (refine ex _ _ _ ?_; (conv => cbv)) | (refine rt _ _ ?_; (conv => cbv)) | exact gu | exact trivial | refine And.intro ?_ ?_ | (intro hc; exact absurd hc (by decide)) | (intro hc; exfalso; omega) | (intro hc; (first | rw [wrap_small (by omega) (by omega)] at hc | rw [nI_eq] at hc | skip); try (conv => cbv))
  rename_i l1 h1 l2
  have e1 : l1 = tl := by rw [h1, List.drop_zero, ← htl, List.take_length]
  have e2 : l2 = dol.map encI := by rw [hc, List.drop_zero, hm, List.take_length, hes, hdl', List.take_of_length_le (by omega)]
  subst e1 e2
  exact k3
end Go.Ab

/-
  Shortest paths, part f: distances of a given topology by checking; a ring of four nodes.
-/
namespace Go.Ab
open Go.Proofs
def isDistB (t : Top) (down : List Bool) (e : Int) (fr : Bool) (D : List Int) : Bool :=
 decide ((D.length : Int) = t.nodes) && decide (gt D e = 0) && ((List.range D.length).all fun i => decide (-1 ≤ gt D (i : Nat))) &&
 ((List.range (2 * t.links.length)).all fun a => !(okArc t down e fr (a : Nat) && decide (0 ≤ gt D (yOf t fr (a : Nat)))) || (decide (0 ≤ gt D (xOf t fr (a : Nat))) && decide (gt D (xOf t fr (a : Nat)) ≤ gt D (yOf t fr (a : Nat)) + costT t (a : Nat)))) &&
 ((List.range D.length).all fun x => decide ((x : Int) = e) || decide (gt D (x : Nat) < 0) || (List.range (2 * t.links.length)).any fun a => okArc t down e fr (a : Nat) && decide (xOf t fr (a : Nat) = (x : Nat)) && decide (0 ≤ gt D (yOf t fr (a : Nat))) && decide (gt D (x : Nat) = gt D (yOf t fr (a : Nat)) + costT t (a : Nat)))
theorem isDistB_ok {t : Top} {down : List Bool} {e : Int} {fr : Bool} {D : List Int} (h : isDistB t down e fr D = true) : IsDist t down e fr D := by
 simp only [isDistB, Bool.and_eq_true, decide_eq_true_eq, List.all_eq_true, List.mem_range, Bool.or_eq_true, Bool.not_eq_true', List.any_eq_true] at h
 obtain ⟨⟨⟨⟨h1, h2⟩, h3⟩, h4⟩, h5⟩ := h
 refine ⟨h1, h2, fun i i0 i1 => ?_, fun a a0 a1 => ?_, fun x x0 x1 hx hd => ?_⟩
 ·have := h3 i.toNat (by omega)
  rw [show ((i.toNat : Nat) : Int) = i by omega] at this; exact this
 ·have := h4 a.toNat (by omega)
  rw [show ((a.toNat : Nat) : Int) = a by omega] at this
  intro ho hy
  rcases this with h | h
  ·rw [ho, decide_eq_true hy] at h; cases h
  ·exact h
 ·have := h5 x.toNat (by omega)
  rw [show ((x.toNat : Nat) : Int) = x by omega] at this
  rcases this with (h | h) | ⟨a, ha, ⟨⟨q1, q2⟩, q3⟩, q4⟩
  ·exact absurd h hx
  ·omega
  ·exact ⟨a, by omega, by omega, q1, q2, q3, q4⟩
def ringT : Top := ⟨4, [], [⟨0, 1, 1, 1, 0, 1, 0⟩, ⟨1, 2, 1, 1, 0, 1, 0⟩, ⟨2, 3, 1, 1, 0, 1, 0⟩, ⟨3, 0, 1, 1, 0, 1, 0⟩]⟩
def ringX : Tab := ⟨0, [⟨[], false, []⟩, ⟨[0], false, []⟩, ⟨[0, 7], false, []⟩, ⟨[7], false, []⟩], []⟩
theorem ring_valid : validT ringT = true := by decide
theorem ring_d0 : distS ringT [] 0 false = [0, 1, 2, 1] := distS_eq ring_valid (isDistB_ok (by decide))
theorem ring_d1 : distS ringT [] 1 false = [1, 0, 1, 2] := distS_eq ring_valid (isDistB_ok (by decide))
theorem ring_d2 : distS ringT [] 2 false = [2, 1, 0, 1] := distS_eq ring_valid (isDistB_ok (by decide))
theorem ring_d3 : distS ringT [] 3 false = [1, 2, 1, 0] := distS_eq ring_valid (isDistB_ok (by decide))
theorem ring_next {d : Int} {D l : List Int} (hd : distS ringT [] d false = D) (h0 : 0 ≤ d ∧ d < ringT.nodes) (h : nextL ringT [] D 0 d = l) : nextS ringT [] 0 d = (l, 0) := by
 rw [nextS, if_pos (by decide), if_pos h0, if_pos (by decide), hd, h]
theorem ring_routes : routesS ringT [] 0 = (ringX, 0) := by
 have n0 := ring_next ring_d0 (by decide) (l := []) (by decide)
 have n1 := ring_next ring_d1 (by decide) (l := [0]) (by decide)
 have n2 := ring_next ring_d2 (by decide) (l := [0, 7]) (by decide)
 have n3 := ring_next ring_d3 (by decide) (l := [7]) (by decide)
 rw [routesS, if_pos (by decide), if_pos (by decide)]
 have e1 : toL ringT [] 0 ringT.nodes.toNat = ringX.to := by
  show (arcsTo 4).map _ = _
  rw [show arcsTo 4 = [0, 1, 2, 3] by decide]
  simp only [List.map_cons, List.map_nil, n0, n1, n2, n3]
  rfl
 have e2 : downL ringT [] 0 = [] := by decide
 rw [e1, e2]
 rfl
theorem ring_run (P : Program) (hP : P = Try.prog) : Ret P n_ref22_Routes [topA ringT, boolsA [], iA 0] (.tup [tabA ringX, iA 0]) := by
 have := routes_ok P hP ringT [] 0
 rw [ring_routes] at this
 exact this
end Go.Ab

/-
  Functions that runs do not go through: read off the machine's values.
-/
namespace Go.Ab
open Go.Proofs
def decL {α : Type} (f : List D → Option α) : List (List D) → Option (List α)
 | [] => some []
 | x :: r => match f x, decL f r with
  | some a, some l => some (a :: l)
  | _, _ => none
theorem decL_ok {α : Type} {f : List D → Option α} {g : α → List D} (hf : ∀ x a, f x = some a → x = g a) : ∀ {l : List (List D)} {r : List α}, decL f l = some r → l = r.map g := by
 intro l
 induction l with
 | nil => intro r h; simp only [decL, Option.some.injEq] at h; subst h; rfl
 | cons x l ih =>
  intro r h
  simp only [decL] at h
  split at h
  ·rename_i a q h1 h2
   cases h
   rw [hf x a h1, ih h2]; rfl
  ·cases h
def decI : List D → Option Int
 | [.int .i64 n] => some n
 | _ => none
theorem decI_ok (x : List D) (a : Int) (h : decI x = some a) : x = encI a := by
 unfold decI at h
 split at h
 ·cases h; rfl
 ·cases h
def decB : List D → Option Bool
 | [.bool b] => some b
 | _ => none
theorem decB_ok (x : List D) (a : Bool) (h : decB x = some a) : x = encB a := by
 unfold decB at h
 split at h
 ·cases h; rfl
 ·cases h
def decSeg : List D → Option Seg
 | [.int .i64 k, .int .i64 n] => some ⟨k, n⟩
 | _ => none
theorem decSeg_ok (x : List D) (a : Seg) (h : decSeg x = some a) : x = encSeg a := by
 unfold decSeg at h
 split at h
 ·cases h; rfl
 ·cases h
def decLk : List D → Option Lk
 | [.int .i64 a, .int .i64 b, .int .i64 c, .int .i64 d, .int .i64 e, .int .i64 f, .int .i64 g] => some ⟨a, b, c, d, e, f, g⟩
 | _ => none
theorem decLk_ok (x : List D) (a : Lk) (h : decLk x = some a) : x = encLk a := by
 unfold decLk at h
 split at h
 ·cases h; rfl
 ·cases h
def decEnt : List D → Option Ety
 | [.list false 1 a, .bool r, .list false 2 p] => match decL decI a, decL decSeg p with
  | some a, some p => some ⟨a, r, p⟩
  | _, _ => none
 | _ => none
theorem decEnt_ok (x : List D) (a : Ety) (h : decEnt x = some a) : x = encEnt a := by
 unfold decEnt at h
 split at h
 ·split at h
  ·rename_i a r p a' p' h1 h2
   cases h
   rw [decL_ok decI_ok h1, decL_ok decSeg_ok h2]; rfl
  ·cases h
 ·cases h
def decTop : AV → Option Top
 | .agg [.d (.int .i64 n), .d (.list false 1 ol), .d (.list false 7 ll)] => match decL decB ol, decL decLk ll with
  | some o, some l => some ⟨n, o, l⟩
  | _, _ => none
 | _ => none
theorem decTop_ok {x : AV} {t : Top} (h : decTop x = some t) : x = topA t := by
 unfold decTop at h
 split at h
 ·split at h
  ·rename_i n ol ll o l h1 h2
   cases h
   rw [decL_ok decB_ok h1, decL_ok decLk_ok h2]; rfl
  ·cases h
 ·cases h
def decTab : AV → Option Tab
 | .agg [.d (.int .i64 n), .d (.list false 3 tl), .d (.list false 1 dl)] => match decL decEnt tl, decL decI dl with
  | some o, some l => some ⟨n, o, l⟩
  | _, _ => none
 | _ => none
theorem decTab_ok {x : AV} {t : Tab} (h : decTab x = some t) : x = tabA t := by
 unfold decTab at h
 split at h
 ·split at h
  ·rename_i n ol ll o l h1 h2
   cases h
   rw [decL_ok decEnt_ok h1, decL_ok decI_ok h2]; rfl
  ·cases h
 ·cases h
def natTable : List AV → Option AV
 | [a, b] => match decTop a, decTab b with
  | some t, some x => some (bA (tabB t x))
  | _, _ => none
 | _ => none
theorem natTable_ok (args : List AV) (r : AV) (h : natTable args = some r) : FnS Try.prog n_table_Valid args [] fun r' _ => r' = r := by
 unfold natTable at h
 split at h
 ·split at h
  ·rename_i a b t x h1 h2
   cases h
   rw [decTop_ok h1, decTab_ok h2]
   exact (tableValid_ok Try.prog rfl t x).mono fun _ _ h => h.2
  ·cases h
 ·cases h
deriving instance DecidableEq for Lk
def isRing (t : Top) : Bool := decide (t.nodes = 4) && decide (t.ov = []) && decide (t.links = ringT.links)
theorem isRing_ok {t : Top} (h : isRing t = true) : t = ringT := by
 obtain ⟨a, b, c⟩ := t
 simp only [isRing, Bool.and_eq_true, decide_eq_true_eq] at h
 obtain ⟨⟨rfl, rfl⟩, rfl⟩ := h
 rfl
def natRing : List AV → Option AV
 | [a, .c (.d (.list false 1 [])), .c (.d (.int .i64 0))] => match decTop a with
  | some t => (match isRing t with
   | true => some (.tup [tabA ringX, iA 0])
   | false => none)
  | none => none
 | _ => none
theorem natRing_ok (args : List AV) (r : AV) (h : natRing args = some r) : FnS Try.prog n_ref22_Routes args [] fun r' _ => r' = r := by
 unfold natRing at h
 split at h
 ·split at h
  ·rename_i t h1
   split at h
   ·rename_i h2
    cases h
    rw [decTop_ok h1, isRing_ok h2]
    exact (ring_run Try.prog rfl).mono fun _ _ h => h.2
   ·cases h
  ·cases h
 ·cases h
end Go.Ab

/-
  Runs of closed calls (printed by mktab.py).
-/
namespace Go.Ab
open Go.Proofs
inductive TabsOk (P : Program) : List (Nat × Ent) → Prop
 | nil : TabsOk P []
 | txt {f : Nat} {sc fz : Bool} {af : AF} {fn : Func} {r : List (Nat × Ent)} (h1 : P.funcs[f]? = some fn) (h2 : compF P fn = some af) (h3 : fn.name ≠ "runtime.NumGoroutine") (h4 : TabsOk P r) : TabsOk P ((f, .txt sc fz af) :: r)
 | nat {f : Nat} {g : List AV → Option AV} {r : List (Nat × Ent)} (h1 : FnOk P f) (h2 : ∀ args r, g args = some r → FnS P f args [] fun r' _ => r' = r) (h4 : TabsOk P r) : TabsOk P ((f, .nat g) :: r)
 | nlk {f : Nat} {g : List AV → Option AV} {r : List (Nat × Ent)} (h1 : FnOk P f) (h2 : ∀ args r, g args = some r → FrS P f args r) (h4 : TabsOk P r) : TabsOk P ((f, .nlk g) :: r)
def lkT : List (Nat × Ent) → Tb
 | [], _ => none
 | (i, e) :: r, f => match Nat.beq i f with
  | true => some e
  | false => lkT r f
theorem TabsOk.tab {P : Program} {l : List (Nat × Ent)} (h : TabsOk P l) : TabOk P (lkT l) := by
 induction h with
 | nil => exact ⟨fun f sc fz af h => (by cases h), fun f g h => (by cases h), fun f g h => (by cases h)⟩
 | txt h1 h2 h3 _ ih =>
  refine ⟨fun f sc fz af h => ?_, fun f g h => ?_, fun f g h => ?_⟩
  ·simp only [lkT] at h
   split at h
   ·rename_i hb
    cases h
    have := Nat.eq_of_beq_eq_true hb
    subst this
    exact ⟨_, h1, h3, h2⟩
   ·exact ih.ok f sc fz af h
  ·simp only [lkT] at h
   split at h
   ·cases h
   ·exact ih.nat f g h
  ·simp only [lkT] at h
   split at h
   ·cases h
   ·exact ih.nlk f g h
 | nat h1 h2 _ ih =>
  refine ⟨fun f sc fz af h => ?_, fun f g h => ?_, fun f g h => ?_⟩
  ·simp only [lkT] at h
   split at h
   ·cases h
   ·exact ih.ok f sc fz af h
  ·simp only [lkT] at h
   split at h
   ·rename_i hb
    cases h
    have := Nat.eq_of_beq_eq_true hb
    subst this
    exact ⟨h1, h2⟩
   ·exact ih.nat f g h
  ·simp only [lkT] at h
   split at h
   ·cases h
   ·exact ih.nlk f g h
 | nlk h1 h2 _ ih =>
  refine ⟨fun f sc fz af h => ?_, fun f g h => ?_, fun f g h => ?_⟩
  ·simp only [lkT] at h
   split at h
   ·cases h
   ·exact ih.ok f sc fz af h
  ·simp only [lkT] at h
   split at h
   ·cases h
   ·exact ih.nat f g h
  ·simp only [lkT] at h
   split at h
   ·rename_i hb
    cases h
    have := Nat.eq_of_beq_eq_true hb
    subst this
    exact ⟨h1, h2⟩
   ·exact ih.nlk f g h
def tabL : List (Nat × Ent) := [
 (n_law23_awake, .txt true false af_law23_awake),
 (n_forward_Step, .txt false false af_forward_Step),
 (n_ref09_SameInts, .txt true false af_ref09_SameInts),
 (n_ref22_Routes, .nat natRing),
 (n_law23_awake_1, .txt true true af_law23_awake_1),
 (n_law23_list, .txt false false af_law23_list),
 (n_ref18_TextList, .txt true false af_ref18_TextList),
 (n_table_Valid, .nat natTable),
 (n_graph_Node, .txt true false af_graph_Node),
 (n_forward_drop, .txt false false af_forward_drop),
 (n_forward_with, .txt false false af_forward_with),
 (n_graph_Arc, .txt true false af_graph_Arc),
 (n_graph_Tail, .txt true false af_graph_Tail),
 (n_slices_Contains_int_int, .txt true false af_slices_Contains_int_int),
 (n_forward_leave, .txt false true af_forward_leave),
 (n_forward_enter, .txt false false af_forward_enter),
 (n_ref18_ParseList, .txt false false af_ref18_ParseList),
 (n_ref18_Text, .txt true false af_ref18_Text),
 (n_slices_Clone_api_Segment_api_Segment, .nat natClone2),
 (n_graph_Arcs, .txt true false af_graph_Arcs),
 (n_slices_Index_int_int, .txt true false af_slices_Index_int_int),
 (n_slices_Clone_int_int, .nat natClone1),
 (n_slices_Concat_api_Segment_api_Segment, .txt false true af_slices_Concat_api_Segment_api_Segment),
 (n_ref09_Split, .txt false false af_ref09_Split),
 (n_ref18_Parse, .txt false false af_ref18_Parse),
 (n_ref09_Number, .txt false false af_ref09_Number),
 (n_slices_Grow_api_Segment_api_Segment, .txt false false af_slices_Grow_api_Segment_api_Segment),
 (n_ref09_Value, .txt false false af_ref09_Value),
 (n_ref09_digits, .txt false false af_ref09_digits)]
theorem tabL_ok : TabsOk Try.prog tabL :=
 .txt fn_law23_awake c_law23_awake (by decide) <|
 .txt fn_forward_Step c_forward_Step (by decide) <|
 .txt fn_ref09_SameInts c_ref09_SameInts (by decide) <|
 .nat ⟨_, fn_ref22_Routes, by decide, by decide⟩ natRing_ok <|
 .txt fn_law23_awake_1 c_law23_awake_1 (by decide) <|
 .txt fn_law23_list c_law23_list (by decide) <|
 .txt fn_ref18_TextList c_ref18_TextList (by decide) <|
 .nat ⟨_, fn_table_Valid, by decide, by decide⟩ natTable_ok <|
 .txt fn_graph_Node c_graph_Node (by decide) <|
 .txt fn_forward_drop c_forward_drop (by decide) <|
 .txt fn_forward_with c_forward_with (by decide) <|
 .txt fn_graph_Arc c_graph_Arc (by decide) <|
 .txt fn_graph_Tail c_graph_Tail (by decide) <|
 .txt fn_slices_Contains_int_int c_slices_Contains_int_int (by decide) <|
 .txt fn_forward_leave c_forward_leave (by decide) <|
 .txt fn_forward_enter c_forward_enter (by decide) <|
 .txt fn_ref18_ParseList c_ref18_ParseList (by decide) <|
 .txt fn_ref18_Text c_ref18_Text (by decide) <|
 .nat ⟨_, fn_slices_Clone_api_Segment_api_Segment, by decide, by decide⟩ natClone2_ok <|
 .txt fn_graph_Arcs c_graph_Arcs (by decide) <|
 .txt fn_slices_Index_int_int c_slices_Index_int_int (by decide) <|
 .nat ⟨_, fn_slices_Clone_int_int, by decide, by decide⟩ natClone1_ok <|
 .txt fn_slices_Concat_api_Segment_api_Segment c_slices_Concat_api_Segment_api_Segment (by decide) <|
 .txt fn_ref09_Split c_ref09_Split (by decide) <|
 .txt fn_ref18_Parse c_ref18_Parse (by decide) <|
 .txt fn_ref09_Number c_ref09_Number (by decide) <|
 .txt fn_slices_Grow_api_Segment_api_Segment c_slices_Grow_api_Segment_api_Segment (by decide) <|
 .txt fn_ref09_Value c_ref09_Value (by decide) <|
 .txt fn_ref09_digits c_ref09_digits (by decide) <|
 .nil
theorem run_ok {f : Nat} {fn : Func} {af : AF} {args : List AV} {r : AV} (n : Nat) (hf : Try.prog.funcs[f]? = some fn) (hc : compF Try.prog fn = some af) (hl : args.length ≤ af.nt) (hx : runP (xC (lkT tabL) n) af args = some r) : Ret Try.prog f args r :=
 (runP_sound (xC_sound mixed tabL_ok.tab n) hf hc hl hx).mono fun _ _ h => h
theorem awake_ok : Ret Try.prog n_law23_awake [] (bA true) := run_ok 400 fn_law23_awake c_law23_awake (Nat.le_of_ble_eq_true rfl) (by kernel_rfl)
end Go.Ab

/-
  The statements of chapter 23, part a: large.
-/
namespace Go.Ab
open Go.Proofs
structure Cas where
 (t : Top) (x : Tab) (p : Pkt)
def casA (c : Cas) : AV := .agg [.d (iD c.t.nodes), .d (boolsD c.t.ov), .d (linksD c.t.links), .d (iD c.x.node), .d (entsD c.x.to), .d (intsD c.x.down), .d (iD c.p.id), .d (iD c.p.src), .d (iD c.p.dst), .d (iD c.p.flow), .d (segsD c.p.stack), .d (iD c.p.hops)]
def entSum (l : List Ety) : Nat := (l.map fun e => e.arcs.length + e.push.length).sum
def sizeC (c : Cas) : Nat := c.x.down.length + c.p.stack.length + entSum c.x.to
def largeB (c : Cas) : Bool := decide (sizeC c > 400) || decide (c.x.to.length > 70) || decide (c.t.ov.length > 100) || decide (c.t.links.length > 40)
theorem entSum_take {l : List Ety} {k : Nat} {x : Ety} (h : l[k]? = some x) : entSum (l.take (k + 1)) = entSum (l.take k) + (x.arcs.length + x.push.length) := by
 rw [take_succ_get h]; simp [entSum]
theorem entSum_le (l : List Ety) (k : Nat) : entSum (l.take k) ≤ entSum l := by
 have : entSum l = entSum (l.take k) + entSum (l.drop k) := by
  conv => lhs; rw [← List.take_append_drop k l]
  simp [entSum, -List.take_append_drop]
 omega
theorem large_ok (P : Program) (hP : P = Try.prog) (c : Cas) (hs : sizeC c ≤ 10000000) : Ret P n_law23_large [casA c] (bA (largeB c)) := by
 refine ret_start (hP ▸ mixed) (hP ▸ fn_law23_large) (hP ▸ c_law23_large) (Nat.le_of_ble_eq_true rfl) fun Λ Λo K hK => ?_
 clear hP
 have leaf : ∀ b, largeB c = b → K (bA b) := fun b hb => by rw [← hb]; exact hK
 have hr : largeB c = (decide (sizeC c > 400) || decide (c.x.to.length > 70) || decide (c.t.ov.length > 100) || decide (c.t.links.length > 40)) := rfl
 have hsz : sizeC c = c.x.down.length + c.p.stack.length + entSum c.x.to := rfl
 generalize largeB c = r at *
 generalize sizeC c = S at *
 obtain ⟨t, ⟨node, to, down⟩, ⟨id, src, dst, flow, stack, hops⟩⟩ := c
 simp only [casA, boolsD, linksD, entsD, intsD, segsD] at *
 generalize dlh : List.map encI down = dl at *
 have dln : Λ dl = down.length := by rw [Λo, ← dlh]; simp
 generalize slh : List.map encSeg stack = sl at *
 have sln : Λ sl = stack.length := by rw [Λo, ← slh]; simp
 generalize elh : List.map encEnt to = el at *
 have eln : Λ el = to.length := by rw [Λo, ← elh]; simp
 obtain ⟨nodes, ov, links⟩ := t
 
 generalize hol : ov.map encB = ol at *
 generalize hll : links.map encLk = ll at *
 have hlo : Λ ol = ov.length := by rw [Λo, ← hol]; simp
 have hls : Λ ll = links.length := by rw [Λo, ← hll]; simp
 conv => cbv
 repeat' first | exact gu | exact trivial | refine And.intro ?_ ?_ | (intro hc; exact absurd hc (by decide)) | (intro hc; exfalso; omega) | (intro hc; (first | rw [wrap_small (by omega) (by omega)] at hc | rw [nI_eq] at hc | skip); try (conv => cbv))
 refine loop_up to.length (fun (s : Int × Int) => [(1, .c (.ptr 0 0 0 0)), (3, iA s.2), (17, .c (.d (.list false 3 el))), (18, iA (Λ el)), (19, iA s.1)]) (fun _ => [.bx [.d (iD nodes), .d (.list false 1 ol), .d (.list false 7 ll), .d (iD node), .d (.list false 3 el), .d (.list false 1 dl), .d (iD id), .d (iD src), .d (iD dst), .d (iD flow), .d (.list false 2 sl), .d (iD hops)]])
  (fun k s => s.1 = k ∧ k ≤ to.length ∧ s.2 = down.length + stack.length + entSum (to.take k)) (0, _) (Wk.cw) ⟨rfl, by omega, by simp [entSum]; omega⟩ (fun k s h => h.2.1) ?_
 rintro k ⟨i, q⟩ Q' ⟨hi, hk, hq⟩ norm ex rt
 simp only at hi hq
 have hle := entSum_le to k
 by_cases hlt : k < to.length
 ·obtain ⟨x, hx⟩ : ∃ x, to[k]? = some x := ⟨_, List.getElem?_eq_getElem hlt⟩
  have hxa := elt_at elh hi hx
  obtain ⟨arcs, rep, push⟩ := x
  have hst := entSum_take hx
  have hle2 := entSum_le to (k + 1)
  simp only [encEnt, intsD, segsD] at hxa hst
  generalize alh : List.map encI arcs = al at *
  have aln : Λ al = arcs.length := by rw [Λo, ← alh]; simp
  generalize plh : List.map encSeg push = pl at *
  have pln : Λ pl = push.length := by rw [Λo, ← plh]; simp
  conv => cbv
  repeat' first | (refine ex _ _ _ ?_; (conv => cbv)) | (refine rt _ _ ?_; (conv => cbv)) | (intro e he; cases Option.some.inj (he.symm.trans hxa); (conv => cbv)) | exact gu | exact trivial | refine And.intro ?_ ?_ | (intro hc; exact absurd hc (by decide)) | (intro hc; exfalso; omega) | (intro hc; (first | rw [wrap_small (by omega) (by omega)] at hc | rw [nI_eq] at hc | skip); try (conv => cbv))
  refine norm _ _ (_, _) ?_ (Wk.cw)
  exact ⟨by simp only; omega, by omega, by simp only; omega⟩
 ·conv => cbv
  repeat' first | (refine ex _ _ _ ?_; (conv => cbv)) | (refine rt _ _ ?_; (conv => cbv)) | exact gu | exact trivial | refine And.intro ?_ ?_ | (intro hc; exact absurd hc (by decide)) | (intro hc; exfalso; omega) | (intro hc; (first | rw [wrap_small (by omega) (by omega)] at hc | rw [nI_eq] at hc | skip); try (conv => cbv))
  all_goals rw [List.take_of_length_le (by omega)] at hq
  all_goals (refine leaf _ (hr.trans ?_))
  all_goals first
   | (rw [decide_eq_true (p := S > 400) (by omega)]; rfl)
   | (rw [decide_eq_true (p := to.length > 70) (by omega)]; simp)
   | (rw [decide_eq_true (p := ov.length > 100) (by omega)]; simp)
   | (rw [decide_eq_true (p := links.length > 40) (by omega)]; simp)
   | (rw [decide_eq_false (p := S > 400) (by omega), decide_eq_false (p := to.length > 70) (by omega), decide_eq_false (p := ov.length > 100) (by omega), decide_eq_false (p := links.length > 40) (by omega)]; rfl)
end Go.Ab

/-
  The statements of chapter 23, part b: packets without segments.
-/
namespace Go.Ab
open Go.Proofs
theorem large_no {c : Cas} (h : largeB c = false) : sizeC c ≤ 400 ∧ c.x.to.length ≤ 70 ∧ c.t.ov.length ≤ 100 ∧ c.t.links.length ≤ 40 := by
 simp only [largeB, Bool.or_eq_false_iff, decide_eq_false_iff_not] at h; omega
theorem ent_le {l : List Ety} {e : Ety} (h : e ∈ l) : e.arcs.length + e.push.length ≤ entSum l := by
 induction l with
 | nil => cases h
 | cons a l ih =>
  simp only [entSum, List.map_cons, List.sum_cons]
  rcases List.mem_cons.1 h with h | h
  ·subst h; omega
  ·have := ih h; simp only [entSum] at this; omega
theorem fit_of {c : Cas} (h : largeB c = false) : Fit c.x c.p := by
 have h1 := (large_no h).1
 simp only [sizeC] at h1
 exact ⟨fun e he => by have := ent_le he; omega, by omega⟩
end Go.Ab

/-
  The statements of chapter 23, part c: what a step answers, in plain terms.
-/
namespace Go.Ab
open Go.Proofs
def sameP (p q : Pkt) : Bool := decide (p.id = q.id ∧ p.src = q.src ∧ p.dst = q.dst ∧ p.flow = q.flow ∧ p.hops = q.hops ∧ p.stack = q.stack)
theorem same_ok (P : Program) (hP : P = Try.prog) (p q : Pkt) : Ret P n_ref23_Same [pktA p, pktA q] (bA (sameP p q)) := by
 have hss := sameSegs_ok P hP p.stack q.stack
 refine ret_start (hP ▸ mixed) (hP ▸ fn_ref23_Same) (hP ▸ c_ref23_Same) (Nat.le_of_ble_eq_true rfl) fun Λ Λo K hK => ?_
 clear hP
 obtain ⟨id, src, dst, flow, stack, hops⟩ := p
 obtain ⟨id2, src2, dst2, flow2, stack2, hops2⟩ := q
 have yes := yes_of hK
 have no := no_of hK
 simp only [segsA, segsD, pktA] at *
 generalize slh : List.map encSeg stack = sl at *
 generalize slh2 : List.map encSeg stack2 = sl2 at *
 conv => cbv
 repeat' first | refine call_b hss rfl rfl ?_ ?_ | exact gu | exact trivial | refine And.intro ?_ ?_ | (intro hc; exact absurd hc (by decide)) | (intro hc; exfalso; omega) | (intro hc; (first | rw [wrap_small (by omega) (by omega)] at hc | rw [nI_eq] at hc | skip); try (conv => cbv))
 all_goals try simp only [decide_eq_true_eq, decide_eq_false_iff_not] at *
 all_goals first
  | exact yes ⟨by assumption, by assumption, by assumption, by assumption, by assumption, by assumption⟩
  | (refine no fun h => ?_; obtain ⟨h1, h2, h3, h4, h5, h6⟩ := h; contradiction)
theorem same_refl (P : Program) (hP : P = Try.prog) (p : Pkt) : Ret P n_ref23_Same [pktA p, pktA p] (bA true) := by
 have h := same_ok P hP p p
 rw [show sameP p p = true by simp [sameP]] at h
 exact h
def Alike (a b : Ans) : Prop := a.1 = b.1 ∧ a.2.2 = b.2.2 ∧ (0 < a.2.2 ∨ a.2.1 = b.2.1)
theorem Alike.refl (a : Ans) : Alike a a := ⟨rfl, rfl, .inr rfl⟩
theorem outAt_tail {t : Top} {n : Int} {l : List Int} {i : Nat} {x : Int} (h : outAt t n l i = true) (hx : l[i]? = some x) : tailT t x = n := by
 simp only [outAt, getD_at hx, Bool.and_eq_true, decide_eq_true_eq] at h
 exact h.1
structure Bnd (t : Top) (x : Tab) (p : Pkt) (a : Ans) : Prop where
 id : a.2.1.id = p.id
 src : a.2.1.src = p.src
 dst : a.2.1.dst = p.dst
 flow : a.2.1.flow = p.flow
 some : a.2.2 = 0 ↔ 0 < a.1.length
 no : a.2.2 ≠ 0 → (a.2.2 = -1 ∨ (1 ≤ a.2.2 ∧ a.2.2 ≤ 5 ∧ a.2.2 ≠ 3)) ∧ a.2.1.hops = p.hops
 yes : a.2.2 = 0 → (∀ y ∈ a.1, tailT t y = x.node) ∧ a.2.1.stack.length ≤ 32 ∧ a.2.1.hops = p.hops + 1 ∧ 0 ≤ p.hops ∧ p.hops < 255
theorem bnd_drop (t : Top) (x : Tab) (p : Pkt) (r : Int) (hr : r = -1 ∨ (1 ≤ r ∧ r ≤ 5 ∧ r ≠ 3)) (l : List Seg) : Bnd t x p ([], {p with stack := l}, r) :=
 ⟨rfl, rfl, rfl, rfl, by simp; omega, fun _ => ⟨hr, rfl⟩, fun h => by simp only at h; omega⟩
theorem bnd_leave {t : Top} {x : Tab} {p : Pkt} {l : List Seg} {arcs : List Int} (hh : ¬ (p.hops < 0 ∨ 255 ≤ p.hops)) (hl : l.length ≤ 32) (ha : 0 < arcs.length) (ht : ∀ y ∈ arcs, tailT t y = x.node) : Bnd t x p (leaveS p l arcs) :=
 ⟨rfl, rfl, rfl, rfl, by simp [leaveS]; exact ha, fun h => absurd rfl h, fun _ => ⟨ht, hl, rfl, by omega, by omega⟩⟩
theorem ent_tail {t : Top} {x : Tab} {n : Int} (hv : tabB t x = true) (hn : 0 ≤ n ∧ n < t.nodes) : ∀ y ∈ (ent x n).arcs, tailT t y = x.node := by
 have hs := tabB_spec.1 hv
 have hg : x.to[n.toNat]? = some (ent x n) := by
  have hlt : n.toNat < x.to.length := by omega
  rw [ent, List.getD_eq_getElem?_getD, List.getElem?_eq_getElem hlt]; rfl
 have he := entB_spec.1 (hs.2.2.2.2 _ _ hg)
 intro y hy
 obtain ⟨i, hi, rfl⟩ := List.getElem_of_mem hy
 exact outAt_tail (outB_spec.1 he.1 i hi) (List.getElem?_eq_getElem hi)
theorem bnd_enter {t : Top} {x : Tab} {p : Pkt} {l : List Seg} {n : Int} (hv : tabB t x = true) (hh : ¬ (p.hops < 0 ∨ 255 ≤ p.hops)) (hl : l.length ≤ 32) (hn : (0 ≤ n ∧ n < t.nodes) ∧ 0 < (ent x n).arcs.length) : Bnd t x p (enterS p l (ent x n)) := by
 unfold enterS
 split
 ·split
  ·exact bnd_drop t x p 5 (by omega) p.stack
  ·exact bnd_leave hh (by omega) hn.2 (ent_tail hv hn.1)
 ·exact bnd_leave hh hl hn.2 (ent_tail hv hn.1)
theorem bnd_plain {t : Top} {x : Tab} {p : Pkt} (hv : tabB t x = true) : Bnd t x p (plainS t x p) := by
 unfold plainS
 split
 ·exact bnd_drop t x p (-1) (by omega) []
 ·split
  ·exact bnd_drop t x p 4 (by omega) p.stack
  ·split
   ·rename_i h1 h2 h3
    exact bnd_enter hv h2 (by simp) h3
   ·exact bnd_drop t x p 1 (by omega) p.stack
theorem tailT_of {t : Top} {a n : Int} (hv : validT t = true) (h : (0 ≤ a ∧ a < 2 * t.links.length) ∧ tailG t a = n) : tailT t a = n := by
 unfold tailT
 rw [if_pos ⟨h.1.1, by unfold arcsT; rw [if_pos hv]; exact h.1.2⟩]
 exact h.2
theorem bnd_route {t : Top} {x : Tab} {p : Pkt} {l : List Seg} (hv : tabB t x = true) (hl : l.length ≤ 32) : Bnd t x p (routeS t x p l) := by
 cases l with
 | nil => exact bnd_plain hv
 | cons s r =>
  simp only [routeS]
  split
  ·exact bnd_drop t x p 4 (by omega) p.stack
  ·rename_i hh
   split
   ·split
    ·rename_i h3
     exact bnd_enter hv hh hl h3
    ·exact bnd_plain hv
   ·split
    ·split
     ·rename_i h3
      split
      ·exact bnd_plain hv
      ·exact bnd_leave hh (by simp only [List.length_cons] at hl; omega) (by simp) fun y hy => by
        rw [List.mem_singleton.1 hy]
        exact tailT_of (tabB_spec.1 hv).1 h3
     ·exact bnd_drop t x p 2 (by omega) p.stack
    ·exact bnd_drop t x p 1 (by omega) p.stack
theorem dropWhile_le {α : Type} (f : α → Bool) (l : List α) : (l.dropWhile f).length ≤ l.length := by
 induction l with
 | nil => simp
 | cons a l ih => rw [List.dropWhile_cons]; split <;> simp only [List.length_cons] <;> omega
theorem bnd_step (t : Top) (x : Tab) (p : Pkt) : Bnd t x p (stepS t x p) := by
 unfold stepS
 split
 ·rename_i h
  split
  ·exact bnd_drop t x p 5 (by omega) p.stack
  ·exact bnd_route h.1 (by have := dropWhile_le (fun s => decide (s = ⟨1, x.node⟩)) p.stack; unfold skipS; omega)
 ·exact bnd_drop t x p 1 (by omega) p.stack
end Go.Ab

/-
  The statements of chapter 23, part g: the specification's step.
-/
namespace Go.Ab
open Go.Proofs
abbrev RAns := List Int × List Seg × Int
abbrev rA (x : RAns) : AV := .tup [intsA x.1, segsA x.2.1, iA x.2.2]
def rent (l : List Seg) (e : Ety) : RAns :=
 if e.rep = true then (if (e.push ++ l.drop 1).length > 32 then ([], [], 5) else (e.arcs, e.push ++ l.drop 1, 0)) else (e.arcs, l, 0)
def rplain (t : Top) (x : Tab) (p : Pkt) : RAns :=
 if p.dst = x.node then ([], [], -1)
 else if p.hops < 0 ∨ 255 ≤ p.hops then ([], [], 4)
 else if (0 ≤ p.dst ∧ p.dst < t.nodes) ∧ 0 < (ent x p.dst).arcs.length then rent [] (ent x p.dst) else ([], [], 1)
def rroute (t : Top) (x : Tab) (p : Pkt) : List Seg → RAns
 | [] => rplain t x p
 | s :: r =>
  if p.hops < 0 ∨ 255 ≤ p.hops then ([], [], 4)
  else if s.kind = 1 then (if (0 ≤ s.num ∧ s.num < t.nodes) ∧ 0 < (ent x s.num).arcs.length then rent (s :: r) (ent x s.num) else rplain t x p)
  else if s.kind = 2 then (if tailT t s.num = x.node then (if s.num ∈ x.down then rplain t x p else ([s.num], r, 0)) else ([], [], 2))
  else ([], [], 1)
def fin (p : Pkt) (a : RAns) : Ans :=
 if a.2.2 = -1 then (a.1, {p with stack := []}, a.2.2) else if a.2.2 = 0 then (a.1, {p with stack := a.2.1, hops := p.hops + 1}, a.2.2) else (a.1, p, a.2.2)
theorem fin_enter (p : Pkt) (l : List Seg) (e : Ety) : fin p (rent l e) = enterS p l e := by
 unfold rent enterS leaveS
 split
 ·split <;> rfl
 ·rfl
theorem fin_plain (t : Top) (x : Tab) (p : Pkt) : fin p (rplain t x p) = plainS t x p := by
 unfold rplain plainS
 split
 ·rfl
 ·split
  ·rfl
  ·split
   ·exact fin_enter p [] _
   ·rfl
theorem fin_route {t : Top} {x : Tab} (hv : tabB t x = true) (p : Pkt) (l : List Seg) : fin p (rroute t x p l) = routeS t x p l := by
 cases l with
 | nil => exact fin_plain t x p
 | cons s r =>
  have hs := tabB_spec.1 hv
  have ht : tailT t s.num = x.node ↔ (0 ≤ s.num ∧ s.num < 2 * t.links.length) ∧ tailG t s.num = x.node := by
   by_cases h : 0 ≤ s.num ∧ s.num < 2 * t.links.length
   ·rw [tailT_valid hs.1 h.1 h.2]; exact ⟨fun g => ⟨h, g⟩, fun g => g.2⟩
   ·rw [tailT_none hs.1 h]; exact ⟨fun g => by omega, fun g => absurd g.1 h⟩
  simp only [rroute, routeS, ht]
  split
  ·rfl
  ·split
   ·split
    ·exact fin_enter p _ _
    ·exact fin_plain t x p
   ·split
    ·split
     ·split
      ·exact fin_plain t x p
      ·rfl
     ·rfl
    ·rfl
theorem rroute_hops {t : Top} {x : Tab} {p : Pkt} {l : List Seg} (h : (rroute t x p l).2.2 = 0) : 0 ≤ p.hops ∧ p.hops < 255 := by
 have hp : (rplain t x p).2.2 = 0 → 0 ≤ p.hops ∧ p.hops < 255 := by
  intro h
  unfold rplain at h
  split at h
  ·simp at h
  ·split at h
   ·simp at h
   ·omega
 cases l with
 | nil => exact hp h
 | cons s r =>
  simp only [rroute] at h
  split at h
  ·simp at h
  ·omega
theorem rent_K {K : RAns → Prop} {l : List Seg} {e : Ety} (h : K (rent l e)) : (e.rep = true → (e.push ++ l.drop 1).length > 32 → K ([], [], 5)) ∧ (e.rep = true → ¬ (e.push ++ l.drop 1).length > 32 → K (e.arcs, e.push ++ l.drop 1, 0)) ∧ (e.rep = false → K (e.arcs, l, 0)) := by
 unfold rent at h
 refine ⟨fun h1 h2 => ?_, fun h1 h2 => ?_, fun h1 => ?_⟩
 ·rw [if_pos h1, if_pos h2] at h; exact h
 ·rw [if_pos h1, if_neg h2] at h; exact h
 ·rw [if_neg (by rw [h1]; decide)] at h; exact h
theorem rplain_K {K : RAns → Prop} {t : Top} {x : Tab} {p : Pkt} (h : K (rplain t x p)) :
  (p.dst = x.node → K ([], [], -1)) ∧ (p.dst ≠ x.node → (p.hops < 0 ∨ 255 ≤ p.hops) → K ([], [], 4)) ∧
  (p.dst ≠ x.node → ¬ (p.hops < 0 ∨ 255 ≤ p.hops) → (0 ≤ p.dst ∧ p.dst < t.nodes) → 0 < (ent x p.dst).arcs.length → K (rent [] (ent x p.dst))) ∧
  (p.dst ≠ x.node → ¬ (p.hops < 0 ∨ 255 ≤ p.hops) → ¬ ((0 ≤ p.dst ∧ p.dst < t.nodes) ∧ 0 < (ent x p.dst).arcs.length) → K ([], [], 1)) := by
 unfold rplain at h
 refine ⟨fun h1 => ?_, fun h1 h2 => ?_, fun h1 h2 h3 h4 => ?_, fun h1 h2 h3 => ?_⟩
 ·rw [if_pos h1] at h; exact h
 ·rw [if_neg h1, if_pos h2] at h; exact h
 ·rw [if_neg h1, if_neg h2, if_pos ⟨h3, h4⟩] at h; exact h
 ·rw [if_neg h1, if_neg h2, if_neg h3] at h; exact h
set_option maxHeartbeats 4000000 in
theorem rplain_ok (P : Program) (hP : P = Try.prog) (t : Top) (x : Tab) (p : Pkt) (hf : Fit x p) (hto : (x.to.length : Int) = t.nodes) : Ret P n_ref23_Route [topA t, tabA x, pktA p, segsA []] (rA (rplain t x p)) := by
 refine ret_start (hP ▸ mixed) (hP ▸ fn_ref23_Route) (hP ▸ c_ref23_Route) (Nat.le_of_ble_eq_true rfl) fun Λ Λo K hK => ?_
 clear hP
 obtain ⟨f1, f2, f3, f4⟩ := rplain_K (K := fun a => K (rA a)) hK
 clear hK
 have f31 := fun h1 h2 h3 h4 => (rent_K (K := fun a => K (rA a)) (f3 h1 h2 h3 h4))
 clear f3
 obtain ⟨nodes, ov, links⟩ := t
 obtain ⟨node, to, down⟩ := x
 obtain ⟨id, src, dst, flow, stack, hops⟩ := p
 simp only at f1 f2 f31 f4 hto
 have hΛ0 : Λ [] = 0 := by rw [Λo]; rfl
 by_cases hd : 0 ≤ dst ∧ dst < nodes
 ·have h3 : to[dst.toNat]? = some (to[dst.toNat]'(by omega)) := List.getElem?_eq_getElem (by omega)
  have h4 := hf.1 _ (List.getElem_mem (l := to) (n := dst.toNat) (by omega))
  have h5 : ent ⟨node, to, down⟩ dst = to[dst.toNat]'(by omega) := by simp [ent, List.getD, h3]
  rw [h5] at f31 f4
  generalize to[dst.toNat]'(by omega) = e at *
  obtain ⟨arcs, rep, push⟩ := e
  simp only [rA, topA, tabA, entsD, boolsD, linksD, segsA, segsD, pktA, intsA, intsD, List.map_nil, List.drop_nil, List.append_nil] at *
  have hxa : (to.map encEnt)[dst.toNat]? = some (encEnt ⟨arcs, rep, push⟩) := by simp [h3]
  generalize hol : ov.map encB = ol at *
  generalize hll : links.map encLk = ll at *
  generalize htl : to.map encEnt = tl at *
  have tln : Λ tl = to.length := by rw [Λo, ← htl]; simp
  generalize hdl : down.map encI = dl at *
  generalize stack.map encSeg = sl at *
  simp only [encEnt, intsD, segsD] at hxa
  generalize alh : List.map encI arcs = al at *
  have aln : Λ al = arcs.length := by rw [Λo, ← alh]; simp
  generalize plh : List.map encSeg push = pl at *
  have pln : Λ pl = push.length := by rw [Λo, ← plh]; simp
  have alL : al.length ≤ 1000 := by rw [← alh, List.length_map]; exact h4.1
  have plL : pl.length ≤ 1000 := by rw [← plh, List.length_map]; exact h4.2
  have plk : pl.length = push.length := by rw [← plh, List.length_map]
  cases rep
  all_goals (conv => cbv)
  all_goals (repeat' first | (intro e he; cases Option.some.inj (he.symm.trans hxa); (conv => cbv)) | exact gu | exact trivial | refine And.intro ?_ ?_ | (intro hc; exact absurd hc (by decide)) | (intro hc; exfalso; omega) | (intro hc; (first | rw [wrap_small (by omega) (by omega)] at hc | rw [nI_eq] at hc | skip); try (conv => cbv)))
  all_goals first
   | exact f1 ‹dst = node›
   | exact f2 ‹¬ dst = node› (by omega)
   | exact f4 ‹¬ dst = node› (by omega) (by omega)
   | exact (f31 ‹¬ dst = node› (by omega) hd (by omega)).1 rfl (by omega)
   | (have g := (f31 ‹¬ dst = node› (by omega) hd (by omega)).2.1 rfl (by omega); clear f1 f2 f4 f31; subst_vars; simp only [List.take_zero, List.drop_nil, List.nil_append, List.drop_zero, Nat.zero_add, List.take_length] at g ⊢; exact g)
   | (have g := (f31 ‹¬ dst = node› (by omega) hd (by omega)).2.2 rfl; clear f1 f2 f4 f31; subst_vars; simp only [List.take_zero, List.drop_nil, List.nil_append, List.drop_zero, Nat.zero_add, List.take_length] at g ⊢; exact g)
 ·clear f31
  simp only [rA, topA, tabA, entsD, boolsD, linksD, segsA, segsD, pktA, intsA, intsD, List.map_nil] at *
  generalize hol : ov.map encB = ol at *
  generalize hll : links.map encLk = ll at *
  generalize htl : to.map encEnt = tl at *
  generalize hdl : down.map encI = dl at *
  generalize stack.map encSeg = sl at *
  conv => cbv
  repeat' first | exact gu | exact trivial | refine And.intro ?_ ?_ | (intro hc; exact absurd hc (by decide)) | (intro hc; exfalso; omega) | (intro hc; (first | rw [wrap_small (by omega) (by omega)] at hc | rw [nI_eq] at hc | skip); try (conv => cbv))
  all_goals first
   | exact f1 ‹dst = node›
   | exact f2 ‹¬ dst = node› (by omega)
   | exact f4 ‹¬ dst = node› (by omega) (by omega)
theorem rroute_K {K : RAns → Prop} {t : Top} {x : Tab} {p : Pkt} {s : Seg} {r : List Seg} (h : K (rroute t x p (s :: r))) :
  ((p.hops < 0 ∨ 255 ≤ p.hops) → K ([], [], 4)) ∧
  (¬ (p.hops < 0 ∨ 255 ≤ p.hops) → s.kind = 1 → (0 ≤ s.num ∧ s.num < t.nodes) → 0 < (ent x s.num).arcs.length → K (rent (s :: r) (ent x s.num))) ∧
  (¬ (p.hops < 0 ∨ 255 ≤ p.hops) → s.kind = 1 → ¬ ((0 ≤ s.num ∧ s.num < t.nodes) ∧ 0 < (ent x s.num).arcs.length) → K (rplain t x p)) ∧
  (¬ (p.hops < 0 ∨ 255 ≤ p.hops) → s.kind = 2 → ¬ tailT t s.num = x.node → K ([], [], 2)) ∧
  (¬ (p.hops < 0 ∨ 255 ≤ p.hops) → s.kind = 2 → tailT t s.num = x.node → s.num ∈ x.down → K (rplain t x p)) ∧
  (¬ (p.hops < 0 ∨ 255 ≤ p.hops) → s.kind = 2 → tailT t s.num = x.node → s.num ∉ x.down → K ([s.num], r, 0)) ∧
  (¬ (p.hops < 0 ∨ 255 ≤ p.hops) → s.kind ≠ 1 → s.kind ≠ 2 → K ([], [], 1)) := by
 simp only [rroute] at h
 refine ⟨fun h1 => ?_, fun h1 h2 h3 h4 => ?_, fun h1 h2 h3 => ?_, fun h1 h2 h3 => ?_, fun h1 h2 h3 h4 => ?_, fun h1 h2 h3 h4 => ?_, fun h1 h2 h3 => ?_⟩
 ·rw [if_pos h1] at h; exact h
 ·rw [if_neg h1, if_pos h2, if_pos ⟨h3, h4⟩] at h; exact h
 ·rw [if_neg h1, if_pos h2, if_neg h3] at h; exact h
 ·rw [if_neg h1, if_neg (by omega), if_pos h2, if_neg h3] at h; exact h
 ·rw [if_neg h1, if_neg (by omega), if_pos h2, if_pos h3, if_pos h4] at h; exact h
 ·rw [if_neg h1, if_neg (by omega), if_pos h2, if_pos h3, if_neg h4] at h; exact h
 ·rw [if_neg h1, if_neg h2, if_neg h3] at h; exact h
set_option maxHeartbeats 4000000 in
theorem rroute_ok (P : Program) (hP : P = Try.prog) (t : Top) (x : Tab) (p : Pkt) (l : List Seg) (hf : Fit x p) (hl : l.length ≤ 1000) (hto : (x.to.length : Int) = t.nodes) : Ret P n_ref23_Route [topA t, tabA x, pktA p, segsA l] (rA (rroute t x p l)) := by
 cases l with
 | nil => exact rplain_ok P hP t x p hf hto
 | cons s rs =>
 have hpl := rplain_ok P hP t x p hf hto
 have htail := tail_ok P hP t s.num
 have hhas := has_ok P hP x.down s.num
 refine ret_start (hP ▸ mixed) (hP ▸ fn_ref23_Route) (hP ▸ c_ref23_Route) (Nat.le_of_ble_eq_true rfl) fun Λ Λo K hK => ?_
 clear hP
 obtain ⟨f1, f2, f3, f4, f5, f6, f7⟩ := rroute_K (K := fun a => K (rA a)) hK
 clear hK
 have f2 := fun h1 h2 h3 h4 => (rent_K (K := fun a => K (rA a)) (f2 h1 h2 h3 h4))
 generalize rplain t x p = rp at *
 obtain ⟨ra, rl, rr⟩ := rp
 obtain ⟨sk, sn⟩ := s
 simp only at f1 f2 f3 f4 f5 f6 f7 htail hhas hto
 generalize tailT t sn = tt at *
 obtain ⟨nodes, ov, links⟩ := t
 obtain ⟨node, to, down⟩ := x
 obtain ⟨id, src, dst, flow, stack, hops⟩ := p
 simp only at f1 f2 f3 f4 f5 f6 f7 hto hhas
 generalize hdm : decide (sn ∈ down) = dm at *
 have hdm' : sn ∈ down ↔ dm = true := by rw [← hdm]; simp
 have f5 := fun h1 h2 h3 (h4 : dm = true) => f5 h1 h2 h3 (hdm'.2 h4)
 have f6 := fun h1 h2 h3 (h4 : dm = false) => f6 h1 h2 h3 (fun h => by rw [hdm'.1 h] at h4; cases h4)
 clear hdm hdm'
 have hrsl : rs.length ≤ 1000 := by simp only [List.length_cons] at hl; omega
 have hsl : Λ (List.map encSeg (⟨sk, sn⟩ :: rs)) = rs.length + 1 := by rw [Λo]; simp
 have hsl0 : (List.map encSeg (⟨sk, sn⟩ :: rs))[(0 : Int).toNat]? = some [iD sk, iD sn] := rfl
 have hsl1 : List.drop 1 (List.map encSeg (⟨sk, sn⟩ :: rs)) = List.map encSeg rs := rfl
 have hrsm : (List.map encSeg rs).length = rs.length := by simp
 by_cases hd : 0 ≤ sn ∧ sn < nodes
 ·have h3 : to[sn.toNat]? = some (to[sn.toNat]'(by omega)) := List.getElem?_eq_getElem (by omega)
  have h4 := hf.1 _ (List.getElem_mem (l := to) (n := sn.toNat) (by omega))
  have h5 : ent ⟨node, to, down⟩ sn = to[sn.toNat]'(by omega) := by simp [ent, List.getD, h3]
  rw [h5] at f2 f3
  generalize to[sn.toNat]'(by omega) = e at *
  obtain ⟨arcs, rep, push⟩ := e
  simp only [rA, topA, tabA, entsD, boolsD, linksD, segsA, segsD, pktA, intsA, intsD, List.map_nil, List.map_append, List.length_append, List.drop_succ_cons, List.drop_zero] at *
  have hxa : (to.map encEnt)[sn.toNat]? = some (encEnt ⟨arcs, rep, push⟩) := by simp [h3]
  generalize List.map encSeg (⟨sk, sn⟩ :: rs) = sl at *
  generalize List.map encSeg rs = rsl at *
  generalize hol : ov.map encB = ol at *
  generalize hll : links.map encLk = ll at *
  generalize htl : to.map encEnt = tl at *
  have tln : Λ tl = to.length := by rw [Λo, ← htl]; simp
  generalize hdl : down.map encI = dl at *
  generalize stack.map encSeg = skl at *
  generalize ra.map encI = ral at *
  generalize rl.map encSeg = rll at *
  simp only [encEnt, intsD, segsD] at hxa
  generalize alh : List.map encI arcs = al at *
  have aln : Λ al = arcs.length := by rw [Λo, ← alh]; simp
  generalize plh : List.map encSeg push = pl at *
  have pln : Λ pl = push.length := by rw [Λo, ← plh]; simp
  have alL : al.length ≤ 1000 := by rw [← alh, List.length_map]; exact h4.1
  have plL : pl.length ≤ 1000 := by rw [← plh, List.length_map]; exact h4.2
  have plk : pl.length = push.length := by rw [← plh, List.length_map]
  cases rep
  all_goals (conv => cbv)
  all_goals (repeat' first | (intro e he; cases Option.some.inj (he.symm.trans hxa); (conv => cbv)) | (intro e he; cases Option.some.inj (he.symm.trans hsl0); (conv => cbv)) | (intro x hx; have e := hx.trans hsl1; subst e; (conv => cbv)) | refine call_i htail rfl rfl ?_ | refine call_b hhas rfl rfl ?_ ?_ | (refine call_r hpl rfl rfl ?_; conv => cbv) | exact gu | exact trivial | refine And.intro ?_ ?_ | (intro hc; exact absurd hc (by decide)) | (intro hc; exfalso; omega) | (intro hc; (first | rw [wrap_small (by omega) (by omega)] at hc | rw [nI_eq] at hc | skip); try (conv => cbv)))
  all_goals first
   | exact f1 (by omega)
   | exact f4 (by omega) (by omega) (by omega)
   | exact f7 (by omega) (by omega) (by omega)
   | exact f5 (by omega) (by omega) (by omega) ‹dm = true›
   | exact f3 (by omega) (by omega) (by omega)
   | (have g := f6 (by omega) (by omega) (by omega) ‹dm = false›; clear f1 f2 f3 f4 f5 f6 f7; subst_vars; exact g)
   | exact (f2 (by omega) (by omega) hd (by omega)).1 rfl (by omega)
   | (have g := (f2 (by omega) (by omega) hd (by omega)).2.1 rfl (by omega); clear f1 f2 f3 f4 f5 f6 f7; subst_vars; simp only [List.take_zero, List.drop_nil, List.nil_append, List.drop_zero, Nat.zero_add, List.take_length, ← List.length_append] at g ⊢; exact g)
   | (have g := (f2 (by omega) (by omega) hd (by omega)).2.2 rfl; clear f1 f2 f3 f4 f5 f6 f7; subst_vars; simp only [List.take_zero, List.drop_nil, List.nil_append, List.drop_zero, Nat.zero_add, List.take_length, ← List.length_append] at g ⊢; exact g)
   | trace_state
 ·clear f2
  simp only [rA, topA, tabA, entsD, boolsD, linksD, segsA, segsD, pktA, intsA, intsD, List.map_nil] at *
  generalize List.map encSeg (⟨sk, sn⟩ :: rs) = sl at *
  generalize List.map encSeg rs = rsl at *
  generalize hol : ov.map encB = ol at *
  generalize hll : links.map encLk = ll at *
  generalize htl : to.map encEnt = tl at *
  generalize hdl : down.map encI = dl at *
  generalize stack.map encSeg = skl at *
  generalize ra.map encI = ral at *
  generalize rl.map encSeg = rll at *
  conv => cbv
  repeat' first | (intro e he; cases Option.some.inj (he.symm.trans hsl0); (conv => cbv)) | (intro x hx; have e := hx.trans hsl1; subst e; (conv => cbv)) | refine call_i htail rfl rfl ?_ | refine call_b hhas rfl rfl ?_ ?_ | (refine call_r hpl rfl rfl ?_; conv => cbv) | exact gu | exact trivial | refine And.intro ?_ ?_ | (intro hc; exact absurd hc (by decide)) | (intro hc; exfalso; omega) | (intro hc; (first | rw [wrap_small (by omega) (by omega)] at hc | rw [nI_eq] at hc | skip); try (conv => cbv))
  all_goals first
   | exact f1 (by omega)
   | exact f4 (by omega) (by omega) (by omega)
   | exact f7 (by omega) (by omega) (by omega)
   | exact f5 (by omega) (by omega) (by omega) ‹dm = true›
   | exact f3 (by omega) (by omega) (by omega)
   | (have g := f6 (by omega) (by omega) (by omega) ‹dm = false›; clear f1 f2 f3 f4 f5 f6 f7; subst_vars; exact g)
   | trace_state
end Go.Ab

/-
  The statements of chapter 23, part h: the specification's step, and the two steps compared.
-/
namespace Go.Ab
open Go.Proofs
theorem wk_z {m : Nat} {L : Lv} {h : Hp} (l v sz k : Nat) {r : Bool} {es : List (List D)} (hl : h[l]? = some (.da r v sz es)) (hk : k = es.length) (h1 : okL l v k L) (h2 : okH l v k h) : Wk m L h (zL l v sz es L) (zH l v sz es 0 h) :=
 .fz l v sz r es hl (fun i => .inr (by rw [← lkN_eq, ← lkN_eq, lkN_z]; exact zA_ok hk (okL_get h1 i))) (zH_ok hk h2)
set_option maxHeartbeats 4000000 in
theorem rstep_ok (P : Program) (hP : P = Try.prog) (t : Top) (x : Tab) (p : Pkt) (hf : Fit x p) : Ret P n_ref23_Step [topA t, tabA x, pktA p] (ansA (stepS t x p)) := by
 have hval := rtableValid_ok P hP t x
 have hrt := fun l (hl : l.length ≤ 1000) (hv : tabB t x = true) => rroute_ok P hP t x p l hf hl (tabB_spec.1 hv).2.2.1
 refine ret_start (hP ▸ mixed) (hP ▸ fn_ref23_Step) (hP ▸ c_ref23_Step) (Nat.le_of_ble_eq_true rfl) fun Λ Λo K hK => ?_
 clear hP
 have k1 : ¬ (tabB t x = true ∧ 0 ≤ p.dst ∧ p.dst < t.nodes) → K (ansA ([], p, 1)) := by
  intro h; unfold stepS at hK; rw [if_neg h] at hK; exact hK
 have k2 : (tabB t x = true ∧ 0 ≤ p.dst ∧ p.dst < t.nodes) → p.stack.length > 32 → K (ansA ([], p, 5)) := by
  intro h h'; unfold stepS at hK; rw [if_pos h, if_pos h'] at hK; exact hK
 have k3 : (tabB t x = true ∧ 0 ≤ p.dst ∧ p.dst < t.nodes) → ¬ p.stack.length > 32 → K (ansA (fin p (rroute t x p (skipS x.node p.stack)))) := by
  intro h h'; unfold stepS at hK; rw [if_pos h, if_neg h'] at hK; rw [fin_route h.1]; exact hK
 clear hK
 have hskip : ∀ s r, s = ⟨1, x.node⟩ → skipS x.node (s :: r) = skipS x.node r := by intro s r h; subst h; simp [skipS]
 have hskip' : ∀ s r, s ≠ ⟨1, x.node⟩ → skipS x.node (s :: r) = s :: r := by intro s r h; simp [skipS, h]
 have hsn : skipS x.node [] = [] := rfl
 have hhops : ∀ l, (rroute t x p l).2.2 = 0 → 0 ≤ p.hops ∧ p.hops < 255 := fun l h => rroute_hops h
 generalize skipS x.node = sk at *
 generalize rroute t x p = rs at *
 generalize tabB t x = vb at *
 obtain ⟨nodes, ov, links⟩ := t
 obtain ⟨node, to, down⟩ := x
 obtain ⟨id, src, dst, flow, stack, hops⟩ := p
 simp only [topA, tabA, entsD, boolsD, linksD, pktA, ansA, tupA, intsA, intsD, segsD, List.map_nil] at *
 generalize hol : ov.map encB = ol at *
 generalize hll : links.map encLk = ll at *
 generalize htl : to.map encEnt = tl at *
 generalize hdl : down.map encI = dl at *
 generalize slh : List.map encSeg stack = sl at *
 have sln : Λ sl = stack.length := by rw [Λo, ← slh]; simp
 have slL : sl.length = stack.length := by rw [← slh]; simp
 have hf2 : stack.length ≤ 1000 := hf.2
 by_cases hcd : (vb = true ∧ 0 ≤ dst ∧ dst < nodes) ∧ ¬ stack.length > 32
 case neg =>
  cases vb
  all_goals conv => cbv
  all_goals repeat' first | refine call_b hval rfl rfl ?_ ?_ | (intro hc; cases hc; done) | exact gu | exact trivial | refine And.intro ?_ ?_ | (intro hc; exact absurd hc (by decide)) | (intro hc; exfalso; omega) | (intro hc; (first | rw [wrap_small (by omega) (by omega)] at hc | rw [nI_eq] at hc | skip); try (conv => cbv))
  all_goals first
   | (refine k1 ?_; intro h; exact absurd h.1 (by decide))
   | (refine k1 ?_; intro h; omega)
   | (refine k2 ⟨rfl, ?_, ?_⟩ ?_ <;> omega)
   | (exfalso; exact hcd ⟨⟨rfl, by omega, by omega⟩, by omega⟩)
 obtain ⟨⟨hv, hd1, hd2⟩, hlen⟩ := hcd
 subst hv
 have kr := k3 ⟨rfl, hd1, hd2⟩ hlen
 clear k1 k2 k3
 conv => cbv
 repeat' first | refine call_b hval rfl rfl ?_ ?_ | (intro hc; cases hc; done) | exact gu | exact trivial | refine And.intro ?_ ?_ | (intro hc; exact absurd hc (by decide)) | (intro hc; exfalso; omega) | (intro hc; (first | rw [wrap_small (by omega) (by omega)] at hc | rw [nI_eq] at hc | skip); try (conv => cbv))
 all_goals try (exfalso; omega)
 rename_i n1 r1 es1 hn1 hr1
 obtain rfl : es1 = sl := by rw [hc]; simp
 refine loop_upx stack.length (fun (s : List Seg) => [(3, .c (.ptr 0 0 0 0)), (4, .c (.ptr 1 0 0 0)), (5, .c (.ptr 2 0 0 0)), (6, .c (.d (.list true 1 []))), (7, .c (.ptr 3 0 0 0)), (8, iA 0), (9, .c (.d (.list false 2 (s.map encSeg))))]) (fun _ => stepH nodes ol ll node tl dl id src dst flow es1 hops) (fun k s => s.length + k = stack.length ∧ sk s = sk stack) stack
  1 (fun (s : List Seg) => [(3, .c (.ptr 0 0 0 0)), (4, .c (.ptr 1 0 0 0)), (5, .c (.ptr 2 0 0 0)), (6, .c (.d (.list true 1 []))), (7, .c (.ptr 3 0 0 0)), (8, iA 0), (9, .c (.d (.list false 2 (s.map encSeg))))]) (fun _ => stepH nodes ol ll node tl dl id src dst flow es1 hops) (fun s => s.length ≤ 1000 ∧ sk stack = s)
  (by rw [slh]; exact .trans (wk_z 4 1 2 n1 rfl (by rw [hn1]; simp) (by repeat' first | exact trivial | refine And.intro ?_ ?_ | rfl) (by repeat' first | exact trivial | refine And.intro ?_ ?_ | rfl)) (Wk.cw)) ⟨by omega, rfl⟩ (fun k s h => by omega) ?_ ?_
 ·rintro k s Q' ⟨hk, hs⟩ norm jn ex rt
  have hj : ∀ L' h', sk s = s → Wk 0 L' h' [(3, .c (.ptr 0 0 0 0)), (4, .c (.ptr 1 0 0 0)), (5, .c (.ptr 2 0 0 0)), (6, .c (.d (.list true 1 []))), (7, .c (.ptr 3 0 0 0)), (8, iA 0), (9, .c (.d (.list false 2 (s.map encSeg))))] (stepH nodes ol ll node tl dl id src dst flow es1 hops) → Q' (.exit 1) L' h' := fun L' h' hw => jn L' h' s ⟨by omega, by rw [← hs, hw]⟩
  generalize rlh : List.map encSeg s = rl at *
  have rln : Λ rl = s.length := by rw [Λo, ← rlh]; simp
  conv => cbv
  repeat' first | (intro e he; obtain ⟨⟨xk, xn⟩, hx, rfl⟩ := map_get' rlh he; (conv => cbv)) | exact gu | exact trivial | refine And.intro ?_ ?_ | (intro hc; exact absurd hc (by decide)) | (intro hc; exfalso; omega) | (intro hc; (first | rw [wrap_small (by omega) (by omega)] at hc | rw [nI_eq] at hc | skip); try (conv => cbv))
  ·rename_i hxe rl'
   cases s with
   | nil => cases hx
   | cons s0 r =>
    cases hx
    have e : rl' = r.map encSeg := by rw [hc, ← rlh]; rfl
    subst e
    refine norm _ _ r ?_ (Wk.cw)
    rw [hskip _ _ (by rw [hxe.1, hxe.2.1])] at hs
    simp only [List.length_cons] at hk
    exact ⟨by omega, hs⟩
  all_goals refine hj _ _ ?_ (Wk.cw)
  ·cases s with
   | nil => exact hsn
   | cons s0 r =>
    cases hx
    refine hskip' _ _ fun h => hc ?_
    injection h with h1 h2
    exact ⟨h1, h2, trivial⟩
  ·cases s with
   | nil => exact hsn
   | cons s0 r => exfalso; simp only [List.length_cons] at rln; omega
 rintro s ⟨hsl, hsk⟩
 rw [hsk] at kr
 clear hskip hskip' hsn hsk
 have hrt := hrt s hsl rfl
 have hh := hhops s
 clear hhops
 generalize rs s = a at *
 obtain ⟨ra, rl, rr⟩ := a
 have f1 : rr = -1 → K (ansA (ra, ⟨id, src, dst, flow, [], hops⟩, rr)) := fun h => by simpa [fin, ansA, tupA, pktA, intsA, intsD, segsD, h] using kr
 have f2 : rr = 0 → K (ansA (ra, ⟨id, src, dst, flow, rl, hops + 1⟩, rr)) := fun h => by simpa [fin, ansA, tupA, pktA, intsA, intsD, segsD, h] using kr
 have f3 : rr ≠ -1 → rr ≠ 0 → K (ansA (ra, ⟨id, src, dst, flow, stack, hops⟩, rr)) := fun h h' => by simpa [fin, ansA, tupA, pktA, intsA, intsD, segsD, h, h'] using kr
 clear kr
 simp only [ansA, rA, tupA, pktA, intsA, intsD, segsA, segsD, List.map_nil] at f1 f2 f3 hrt hh
 rw [slh] at f3
 generalize hsm : List.map encSeg s = sm at *
 generalize List.map encI ra = ral at *
 generalize List.map encSeg rl = rll at *
 conv => cbv
 repeat' first | (refine call_r hrt rfl rfl ?_; conv => cbv) | exact gu | exact trivial | refine And.intro ?_ ?_ | (intro hc; exact absurd hc (by decide)) | (intro hc; exfalso; omega) | (intro hc; (first | rw [wrap_small (by omega) (by omega)] at hc | rw [nI_eq] at hc | skip); try (conv => cbv))
 all_goals first
  | exact f1 (by omega)
  | exact f3 (by omega) (by omega)
  | (have hh := hh (by omega); have g := f2 (by omega); rw [hc] at *; exact g)
  | trace_state
end Go.Ab

