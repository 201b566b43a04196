/-
  Chapter 21, part g: the expansion of a list without binding segments.
-/
import Derived.Test.YtjaodmgeonfkiaaVf
namespace Go.Ab
open Go.Proofs

theorem call_fr {P : Program} {m : Nat} {d : Bool} {L : Lv} {h : Hp} {f : Nat} {xs : List X} {vargs : List AV} {K : Lv → AV → Hp → Prop} {r : AV} (hf : FrS P f vargs r) (ha : viewAs h (evsN L xs) = some vargs) (k : K L r h) : CallS P m d L h f xs K :=
  .pure (.inr ⟨vargs, ha, .inr hf⟩) k

/-- an array of the caller's own is looked at, and what comes back is new memory -/
theorem call_fra {P : Program} {m : Nat} {d : Bool} {L : Lv} {h : Hp} {f t l v i n sz : Nat} {rl : Bool} {es : List (List D)} {K : Lv → AV → Hp → Prop} {r : AV} (hL : lkN L t = .c (.arr l v i n)) (hh : h[l]? = some (.da rl v sz es))
    (hf : FrS P f [.c (.d (.list false sz ((es.drop i).take n)))] r) (k : K L r h) : CallS P m d L h f [.t t] K :=
  .pure (.inr ⟨_, by simp [evsN, evN, hL, viewAs, viewA, viewC, view, hh], .inr hf⟩) k

theorem vdel_nil {k : DV} {K0 : Prop} {K : List (DV × DV) → Prop} (h : K0) : ∀ r, mfind false 2 [(0, 0), (1, 0)] k [] 0 = r → vDel [] K0 K r := by
  intro r hr; subst hr; exact h
theorem vup_nil {k vd : DV} {K : List (DV × DV) → Prop} (h : ∀ es', K es') : ∀ r, mfind false 2 [(0, 0), (1, 0)] k [] 0 = r → vUp [] k vd K r := by
  intro r hr; subst hr; exact fun es' _ => h es'

/-- omega does not look into it -/
def Hid (p : Prop) : Prop := p
theorem Hid.out {p : Prop} (h : Hid p) : p := h

def posS (t : Top) (pos : Int) (s : Seg) : Int × Int :=
  if s.kind = 1 then (0, s.num) else if s.kind = 2 then (if pos = -1 then (7, pos) else if tailG t s.num = pos then (0, headG t s.num) else (4, pos)) else (0, -1)
def walkS (t : Top) : Int → Nat → List Seg → Int
  | _, _, [] => 0
  | pos, k, s :: r => if (posS t pos s).1 ≠ 0 then (posS t pos s).1 else if k + 1 > 32 then 6 else walkS t (posS t pos s).2 (k + 1) r

abbrev expA (x : List Seg × Int) : AV := .tup [segsA x.1, iA x.2]
def plainE (t : Top) (ps : List Pol) (node : Int) (list : List Seg) : List Seg × Int :=
  if polsB t ps = true ∧ list.all (segB t) = true then
    (if 0 ≤ node ∧ node < t.nodes then (if walkS t node 0 list = 0 then (list, 0) else ([], walkS t node 0 list)) else ([], 2))
  else ([], 1)

theorem walk_cons {t : Top} {pos : Int} {k : Nat} {s : Seg} {r : List Seg} {W : Int} (h : walkS t pos k (s :: r) = W) :
    (s.kind = 1 → k + 1 ≤ 32 → walkS t s.num (k + 1) r = W) ∧ (s.kind = 1 → ¬ k + 1 ≤ 32 → W = 6) ∧
    (s.kind = 2 → pos = -1 → W = 7) ∧ (s.kind = 2 → pos ≠ -1 → tailG t s.num ≠ pos → W = 4) ∧ (s.kind = 2 → pos ≠ -1 → tailG t s.num = pos → k + 1 ≤ 32 → walkS t (headG t s.num) (k + 1) r = W) ∧
    (s.kind = 2 → pos ≠ -1 → tailG t s.num = pos → ¬ k + 1 ≤ 32 → W = 6) ∧
    (s.kind ≠ 1 → s.kind ≠ 2 → k + 1 ≤ 32 → walkS t (-1) (k + 1) r = W) ∧ (s.kind ≠ 1 → s.kind ≠ 2 → ¬ k + 1 ≤ 32 → W = 6) := by
  simp only [walkS] at h
  refine ⟨fun h1 h2 => ?_, fun h1 h2 => ?_, fun h1 h2 => ?_, fun h1 h2 h3 => ?_, fun h1 h2 h3 h4 => ?_, fun h1 h2 h3 h4 => ?_, fun h1 h2 h3 => ?_, fun h1 h2 h3 => ?_⟩
  · simp only [posS, if_pos h1, ne_eq, not_true_eq_false, if_false] at h; rw [if_neg (by omega)] at h; exact h
  · simp only [posS, if_pos h1, ne_eq, not_true_eq_false, if_false] at h; rw [if_pos (by omega)] at h; exact h.symm
  · have h0 : ¬ s.kind = 1 := by omega
    simp only [posS, if_neg h0, if_pos h1, if_pos h2] at h; exact h.symm
  · have h0 : ¬ s.kind = 1 := by omega
    simp only [posS, if_neg h0, if_pos h1, if_neg h2, if_neg h3] at h; exact h.symm
  · have h0 : ¬ s.kind = 1 := by omega
    simp only [posS, if_neg h0, if_pos h1, if_neg h2, if_pos h3, ne_eq, not_true_eq_false, if_false] at h; rw [if_neg (by omega)] at h; exact h
  · have h0 : ¬ s.kind = 1 := by omega
    simp only [posS, if_neg h0, if_pos h1, if_neg h2, if_pos h3, ne_eq, not_true_eq_false, if_false] at h; rw [if_pos (by omega)] at h; exact h.symm
  · simp only [posS, if_neg h1, if_neg h2, ne_eq, not_true_eq_false, if_false] at h; rw [if_neg (by omega)] at h; exact h
  · simp only [posS, if_neg h1, if_neg h2, ne_eq, not_true_eq_false, if_false] at h; rw [if_pos (by omega)] at h; exact h.symm

set_option maxRecDepth 20000 in
set_option maxHeartbeats 1500000 in
theorem plainE_ok (P : Program) (hP : P = Try.prog) (t : Top) (ps : List Pol) (node : Int) (list : List Seg) (hnb : ∀ s ∈ list, s.kind ≠ 4) (hl : list.length ≤ 40) : Ret P n_policy_Expand [topA t, polsA ps, iA node, segsA list] (expA (plainE t ps node list)) := by
  have hv := pvalid_ok P hP t ps
  have hsg := fun h => segments_ok P hP t list h
  have hnode := gnode_ok P hP t node
  have htail := fun a h0 h1 h2 => gtail_ok P hP t a h0 h1 h2
  have hhead := fun a h0 h1 h2 => ghead_ok P hP t a h0 h1 h2
  have hcf := fun ll h1 h2 => cloneSegs_fr P hP ll h1 h2
  refine ret_start (hP ▸ mixed) (hP ▸ fn_policy_Expand) (hP ▸ c_policy_Expand) (Nat.le_of_ble_eq_true rfl) fun Λ Λo K hK => ?_
  have gm : P.follows .mixedOrders = true := hP ▸ mixed
  have gf := hP ▸ fn_policy_expander_step
  have gc := hP ▸ c_policy_expander_step
  have kf := hP ▸ fn_policy_expander_keep
  have kc := hP ▸ c_policy_expander_keep
  clear hP
  have k1 : ¬ (polsB t ps = true ∧ list.all (segB t) = true) → K (expA ([], 1)) := fun h => by unfold plainE at hK; rw [if_neg h] at hK; exact hK
  have k2 : polsB t ps = true → list.all (segB t) = true → ¬ (0 ≤ node ∧ node < t.nodes) → K (expA ([], 2)) := fun h1 h2 h => by unfold plainE at hK; rw [if_pos ⟨h1, h2⟩, if_neg h] at hK; exact hK
  have k3 : polsB t ps = true → list.all (segB t) = true → (0 ≤ node ∧ node < t.nodes) → walkS t node 0 list = 0 → K (expA (list, 0)) := fun h1 h2 h h4 => by unfold plainE at hK; rw [if_pos ⟨h1, h2⟩, if_pos h, if_pos h4] at hK; exact hK
  have k4 : polsB t ps = true → list.all (segB t) = true → (0 ≤ node ∧ node < t.nodes) → walkS t node 0 list ≠ 0 → K (expA ([], walkS t node 0 list)) := fun h1 h2 h h4 => by unfold plainE at hK; rw [if_pos ⟨h1, h2⟩, if_pos h, if_neg h4] at hK; exact hK
  clear hK
  have hv1 : polsB t ps = true → (t.links.length : Int) ≤ 256 := fun h => (validT_spec.1 (polsB_spec.1 h).1).2.2.1
  have hsb : list.all (segB t) = true → ∀ s ∈ list, segB t s = true := fun h => List.all_eq_true.1 h
  generalize polsB t ps = pb at *
  generalize list.all (segB t) = la at *
  generalize hdn : decide (0 ≤ node ∧ node < t.nodes) = dn at *
  have hdn' : dn = true ↔ 0 ≤ node ∧ node < t.nodes := by rw [← hdn]; simp
  have hw0 : ∃ W, walkS t node 0 list = W := ⟨_, rfl⟩
  obtain ⟨W, hw0⟩ := hw0
  rw [hw0] at k3 k4
  have hwc := fun pos k s r h => @walk_cons t pos k s r W h
  have hseg := fun s => @segB_spec t s
  simp only [expA, polsA, polsD, segsA, segsD, List.map_nil] at *
  generalize plh : List.map encPol ps = pl at *
  have pln : Λ pl = ps.length := by rw [Λo, ← plh]; simp
  generalize slh : List.map encSeg list = sl at *
  cases pb with
  | false =>
    obtain ⟨nodes, ov, links⟩ := t
    simp only [topA, boolsD, linksD] at *
    generalize hol : ov.map encB = ol at *
    generalize hll : links.map encLk = ll at *
    have hlo : Λ ol = ov.length := by rw [Λo, ← hol]; simp
    have hls : Λ ll = links.length := by rw [Λo, ← hll]; simp
    conv => cbv
    repeat' first | refine call_b hv rfl rfl ?_ ?_ | (intro hc; cases hc; done) | (intro (_ : Unit); first | omega | rfl | exact ⟨rfl, by omega⟩ | (simp only [nI_eq]; omega) | ((repeat' first | rfl | omega | refine And.intro ?_ ?_ | (simp only [nI_eq]; omega) | exact Nat.le_of_ble_eq_true rfl); done)) | exact trivial | refine And.intro ?_ ?_ | (intro hc; exact absurd hc (by decide)) | (intro hc; exfalso; omega) | (intro hc; (first | rw [wrap_small (by omega) (by omega)] at hc | rw [nI_eq] at hc | skip); try (conv => cbv))
    exact k1 (by simp)
  | true =>
  have hv1 := hv1 rfl
  have hsg := hsg hv1
  cases la with
  | false =>
    obtain ⟨nodes, ov, links⟩ := t
    simp only [topA, boolsD, linksD] at *
    generalize hol : ov.map encB = ol at *
    generalize hll : links.map encLk = ll at *
    have hlo : Λ ol = ov.length := by rw [Λo, ← hol]; simp
    have hls : Λ ll = links.length := by rw [Λo, ← hll]; simp
    conv => cbv
    repeat' first | refine call_b hv rfl rfl ?_ ?_ | refine call_b hsg rfl rfl ?_ ?_ | (intro hc; cases hc; done) | (intro (_ : Unit); first | omega | rfl | exact ⟨rfl, by omega⟩ | (simp only [nI_eq]; omega) | ((repeat' first | rfl | omega | refine And.intro ?_ ?_ | (simp only [nI_eq]; omega) | exact Nat.le_of_ble_eq_true rfl); done)) | exact trivial | refine And.intro ?_ ?_ | (intro hc; exact absurd hc (by decide)) | (intro hc; exfalso; omega) | (intro hc; (first | rw [wrap_small (by omega) (by omega)] at hc | rw [nI_eq] at hc | skip); try (conv => cbv))
    exact k1 (by simp)
  | true =>
  cases dn with
  | false =>
    have k2x := k2 rfl rfl (fun h => by have := hdn'.2 h; cases this)
    obtain ⟨nodes, ov, links⟩ := t
    simp only [topA, boolsD, linksD] at *
    generalize hol : ov.map encB = ol at *
    generalize hll : links.map encLk = ll at *
    have hlo : Λ ol = ov.length := by rw [Λo, ← hol]; simp
    have hls : Λ ll = links.length := by rw [Λo, ← hll]; simp
    conv => cbv
    repeat' first | refine call_b hv rfl rfl ?_ ?_ | refine call_b hsg rfl rfl ?_ ?_ | refine call_b hnode rfl rfl ?_ ?_ | (intro hc; cases hc; done) | (intro (_ : Unit); first | omega | rfl | exact ⟨rfl, by omega⟩ | (simp only [nI_eq]; omega) | ((repeat' first | rfl | omega | refine And.intro ?_ ?_ | (simp only [nI_eq]; omega) | exact Nat.le_of_ble_eq_true rfl); done)) | exact trivial | refine And.intro ?_ ?_ | (intro hc; exact absurd hc (by decide)) | (intro hc; exfalso; omega) | (intro hc; (first | rw [wrap_small (by omega) (by omega)] at hc | rw [nI_eq] at hc | skip); try (conv => cbv))
    exact k2x
  | true =>
  have hin := hdn'.1 rfl
  have k3x := k3 rfl rfl hin
  have k4x := k4 rfl rfl hin
  have hsbx := hsb rfl
  clear k1 k2 k3 k4 hsb hdn hdn'
  have htailx := fun a h0 h1 => htail a h0 h1 hv1
  have hheadx := fun a h0 h1 => hhead a h0 h1 hv1
  clear htail hhead
  have hws : ∀ pos k, walkS t pos k [] = 0 := fun _ _ => rfl
  generalize walkS t = ws at *
  generalize tailG t = tg at *
  generalize headG t = hg at *
  generalize segB t = sb at *
  obtain ⟨nodes, ov, links⟩ := t
  simp only [topA, boolsD, linksD] at *
  generalize hol : ov.map encB = ol at *
  generalize hll : links.map encLk = ll at *
  have hlo : Λ ol = ov.length := by rw [Λo, ← hol]; simp
  have hls : Λ ll = links.length := by rw [Λo, ← hll]; simp
  conv => cbv
  repeat' first | refine call_b hv rfl rfl ?_ ?_ | refine call_b hsg rfl rfl ?_ ?_ | refine call_b hnode rfl rfl ?_ ?_ | (intro hc; cases hc; done) | (intro (_ : Unit); first | omega | rfl | exact ⟨rfl, by omega⟩ | (simp only [nI_eq]; omega) | ((repeat' first | rfl | omega | refine And.intro ?_ ?_ | (simp only [nI_eq]; omega) | exact Nat.le_of_ble_eq_true rfl); done)) | exact trivial | refine And.intro ?_ ?_ | (intro hc; exact absurd hc (by decide)) | (intro hc; exfalso; omega) | (intro hc; (first | rw [wrap_small (by omega) (by omega)] at hc | rw [nI_eq] at hc | skip); try (conv => cbv))
  refine loop_upx ps.length (fun (s : Int × Nat × List (DV × DV)) => [(3, .c (.d (.list false 2 sl))), (10, .c (.ptr 4 0 0 0)), (35, .c (.d (.list false 3 pl))), (36, iA (Λ pl)), (37, iA s.1)])
    (fun s => [.bx [.d (iD nodes), .d (.list false 1 ol), .d (.list false 7 ll)], .mp s.2.1 s.2.2, .mp 0 [], .mp 0 [], .bx [.d (iD nodes), .d (.list false 1 ol), .d (.list false 7 ll), .mp 1, .mp 2, .mp 3, .d (.list true 4 []), .d (.list true 2 []), .d (iD node)]])
    (fun k s => s.1 = k ∧ k ≤ ps.length ∧ ∃ m : Asc, m.map encE = s.2.2) (0, 0, [])
    0 (fun (s : Nat × List (DV × DV)) => [(3, .c (.d (.list false 2 sl))), (10, .c (.ptr 4 0 0 0))])
    (fun s => [.bx [.d (iD nodes), .d (.list false 1 ol), .d (.list false 7 ll)], .mp s.1 s.2, .mp 0 [], .mp 0 [], .bx [.d (iD nodes), .d (.list false 1 ol), .d (.list false 7 ll), .mp 1, .mp 2, .mp 3, .d (.list true 4 []), .d (.list true 2 []), .d (iD node)]]) (fun _ => True)
    (Wk.cut ⟨_, rfl⟩ (Nat.zero_le _) rfl (by repeat' first | exact trivial | refine And.intro ?_ ?_ | rfl)) ⟨rfl, by omega, [], rfl⟩ (fun k s h => h.2.1) ?_ ?_
  · rintro k ⟨i, ve, ml⟩ Q' ⟨hi, hk, m, mlh⟩ norm jn ex rt
    simp only at hi mlh
    by_cases hlt : k < ps.length
    · obtain ⟨x, hx⟩ : ∃ x, ps[k]? = some x := ⟨_, List.getElem?_eq_getElem hlt⟩
      have hxa := elt_at plh hi hx
      obtain ⟨xn, xb, xl⟩ := x
      simp only [encPol, segsD] at hxa
      generalize List.map encSeg xl = xsl at *
      conv => cbv
      repeat' first | (refine ex _ _ _ ?_; (conv => cbv)) | (intro e he; cases Option.some.inj (he.symm.trans hxa); (conv => cbv)) | refine vup_pairs mlh ?_ ?_ | (intro (_ : Unit); first | omega | rfl | exact ⟨rfl, by omega⟩ | (simp only [nI_eq]; omega) | ((repeat' first | rfl | omega | refine And.intro ?_ ?_ | (simp only [nI_eq]; omega) | exact Nat.le_of_ble_eq_true rfl); done)) | exact trivial | refine And.intro ?_ ?_ | (intro hc; exact absurd hc (by decide)) | (intro hc; exfalso; omega) | (intro hc; (first | rw [wrap_small (by omega) (by omega)] at hc | rw [nI_eq] at hc | skip); try (conv => cbv))
      all_goals (rename_i es' hes i'; refine norm _ _ (_, _, es') ?_ (Wk.cut ⟨_, rfl⟩ (Nat.zero_le _) rfl (by repeat' first | exact trivial | refine And.intro ?_ ?_ | rfl)); exact ⟨by simp only; omega, by omega, _, hes⟩)
    · conv => cbv
      repeat' first | (intro (_ : Unit); first | omega | rfl | exact ⟨rfl, by omega⟩ | (simp only [nI_eq]; omega) | ((repeat' first | rfl | omega | refine And.intro ?_ ?_ | (simp only [nI_eq]; omega) | exact Nat.le_of_ble_eq_true rfl); done)) | exact trivial | refine And.intro ?_ ?_ | (intro hc; exact absurd hc (by decide)) | (intro hc; exfalso; omega) | (intro hc; (first | rw [wrap_small (by omega) (by omega)] at hc | rw [nI_eq] at hc | skip); try (conv => cbv))
      exact jn _ _ (_, _) trivial (Wk.cut ⟨_, rfl⟩ (Nat.zero_le _) rfl (by repeat' first | exact trivial | refine And.intro ?_ ?_ | rfl))
  rintro ⟨ve, ml⟩ -
  have hw00 : ∀ pos k, ws pos k [] = W → W = 0 := fun pos k h => by rw [← h, hws]
  conv => cbv
  repeat' first | (intro (_ : Unit); first | omega | rfl | exact ⟨rfl, by omega⟩ | (simp only [nI_eq]; omega) | ((repeat' first | rfl | omega | refine And.intro ?_ ?_ | (simp only [nI_eq]; omega) | exact Nat.le_of_ble_eq_true rfl); done)) | exact trivial | refine And.intro ?_ ?_ | (intro hc; exact absurd hc (by decide)) | (intro hc; exfalso; omega) | (intro hc; (first | rw [wrap_small (by omega) (by omega)] at hc | rw [nI_eq] at hc | skip); try (conv => cbv))
  refine loop_up (list.length + 1) (fun (s : List Seg × Int × Nat × Nat × Bool × List (List D) × Nat × Nat × List (DV × DV)) => [(10, .c (.ptr 4 0 0 0))])
    (fun s => [.bx [.d (iD nodes), .d (.list false 1 ol), .d (.list false 7 ll)], .mp ve ml, .mp 0 [], .mp s.2.2.2.2.2.2.2.1 s.2.2.2.2.2.2.2.2, .bx [.d (iD nodes), .d (.list false 1 ol), .d (.list false 7 ll), .mp 1, .mp 2, .mp 3, .arr 5 0 0 s.2.2.2.2.2.2.1, .arr 6 s.2.2.1 0 s.2.2.2.1, .d (iD s.2.1)],
      .da true 0 4 [[.list false 2 (s.1.map encSeg), iD 0, iD 0, iD 0]], .da s.2.2.2.2.1 s.2.2.1 2 s.2.2.2.2.2.1])
    (fun k s => s.2.2.2.1 = s.2.2.2.2.2.1.length ∧ ((s.2.2.2.2.2.2.1 = 1 ∧ k ≤ list.length ∧ s.1 = list.drop k ∧ s.2.2.2.2.2.1 = (list.take k).map encSeg ∧ ws s.2.1 k s.1 = W ∧ s.2.2.2.2.2.2.2 = (0, [])) ∨
      (s.2.2.2.2.2.2.1 = 0 ∧ k = list.length + 1 ∧ s.2.2.2.2.2.1 = sl ∧ W = 0)))
    (list, node, 0, 0, false, [], 1, 0, []) (by rw [slh]; exact .trans (.nilB 4 7 2 _ rfl rfl) (Wk.cut ⟨_, rfl⟩ (Nat.zero_le _) rfl (by repeat' first | exact trivial | refine And.intro ?_ ?_ | rfl))) ⟨rfl, .inl ⟨rfl, by omega, rfl, rfl, hw0, rfl⟩⟩ (fun k s h => by rcases h.2 with h | h <;> omega) ?_
  rintro k ⟨rest, pos, kv, km, kr, kes, fl, dv, des⟩ Q' ⟨hkm, hph⟩ norm ex rt
  simp only at hkm hph
  rcases hph with ⟨hfl, hkl, hrest, hkes, hws1, hdd⟩ | ⟨hfl, hkl, hkes, hW0⟩
  · obtain ⟨rfl, rfl⟩ := Prod.mk.inj hdd
    subst hfl
    have hkesl : kes.length = k := by rw [hkes, List.length_map, List.length_take]; omega
    have hscal : ∀ e ∈ kes, ∀ d ∈ e, scalD d = true := by
      intro e he d hd
      rw [hkes] at he
      obtain ⟨s, _, rfl⟩ := List.mem_map.1 he
      simp only [encSeg, List.mem_cons, List.not_mem_nil, or_false] at hd
      rcases hd with rfl | rfl <;> rfl
    cases rest with
    | nil =>
      have hWz := hw00 _ _ hws1
      have hkl2 : k = list.length := by have := congrArg List.length hrest; simp only [List.length_nil, List.length_drop] at this; omega
      have hke2 : kes = sl := by rw [hkes, hkl2, List.take_length, slh]
      simp only [List.map_nil]
      conv => cbv
      repeat' first | (intro (_ : Unit); simp only [List.length_cons, List.length_nil]; omega) | (intro (j : Nat) hj; refine (fun (hz : j = 0) => ?_) ?_; rotate_left; omega; subst hz; (conv => cbv)) | (intro (e : List D) he; obtain rfl := Option.some.inj he; (conv => cbv)) | (refine ex _ _ _ ?_; (conv => cbv)) | (refine call_in gm gf gc (Nat.le_of_ble_eq_true rfl) fun Λ1 Λ1o => ?_; have r1 := Λ1o []; simp only [List.length_nil] at r1; conv => cbv) | (refine call_fra rfl rfl (hcf _ ?_ ?_) ?_; rotate_left; rotate_left; (conv => cbv)) | (refine vup_nil ?_; intro es'; (conv => cbv)) | (refine vdel_nil ?_; (conv => cbv)) | (intro (_ : Unit); first | omega | rfl | exact ⟨rfl, by omega⟩ | (simp only [nI_eq]; omega) | ((repeat' first | rfl | omega | refine And.intro ?_ ?_ | (simp only [nI_eq]; omega) | exact Nat.le_of_ble_eq_true rfl); done)) | exact trivial | refine And.intro ?_ ?_ | (intro hc; exact absurd hc (by decide)) | (intro hc; exfalso; omega) | (intro hc; (first | rw [wrap_small (by omega) (by omega)] at hc | rw [nI_eq] at hc | skip); try (conv => cbv))
      all_goals first
        | (simp only [List.length_take, List.length_drop]; omega)
        | exact hscal _ (List.mem_of_mem_drop (List.mem_of_mem_take (by assumption))) _ (by assumption)
        | (refine norm _ _ ([], _, _, _, _, _, _, _, _) ?_ (Wk.cut ⟨_, rfl⟩ (Nat.zero_le _) rfl (by repeat' first | exact trivial | refine And.intro ?_ ?_ | rfl)); exact ⟨hkm, .inr ⟨rfl, by omega, hke2, hWz⟩⟩)
    | cons s0 rs =>
      have hs0 : list[k]? = some s0 := by
        have : (list.drop k)[0]? = some s0 := by rw [← hrest]; rfl
        rw [List.getElem?_drop] at this; simpa using this
      have hs0m := List.mem_of_getElem? hs0
      have hrs : rs = list.drop (k + 1) := by
        have : (list.drop k).drop 1 = rs := by rw [← hrest]; rfl
        rw [← this, List.drop_drop]
      have hklt := get_lt hs0
      have hsv := (hseg s0).1 (hsbx s0 hs0m)
      have hn4 := hnb s0 hs0m
      have cc := hwc pos k s0 rs hws1
      have hkes2 : kes ++ [encSeg s0] = (list.take (k + 1)).map encSeg := by rw [take_succ_get hs0, List.map_append, hkes]; rfl
      have kerr : ∀ e : Int, W = e → e ≠ 0 → K (.tup [.c (.d (.list false 2 [])), iA e]) := fun e h h' => by subst h; exact k4x h'
      have nx : ∀ (L' : Lv) (h' : Hp) (p2 : Int) (kv2 : Nat) (kr2 : Bool) (ke2 : List (List D)), k + 1 ≤ list.length → ws p2 (k + 1) rs = W → ke2 = kes ++ [encSeg s0] →
          Wk 0 L' h' [(10, .c (.ptr 4 0 0 0))] [.bx [.d (iD nodes), .d (.list false 1 ol), .d (.list false 7 ll)], .mp ve ml, .mp 0 [], .mp 0 [], .bx [.d (iD nodes), .d (.list false 1 ol), .d (.list false 7 ll), .mp 1, .mp 2, .mp 3, .arr 5 0 0 1, .arr 6 kv2 0 (k + 1), .d (iD p2)],
            .da true 0 4 [[.list false 2 (rs.map encSeg), iD 0, iD 0, iD 0]], .da kr2 kv2 2 ke2] → Q' .normal L' h' := fun L' h' p2 kv2 kr2 ke2 h1 h2 h3 hw =>
        norm L' h' (rs, p2, kv2, k + 1, kr2, ke2, 1, 0, []) ⟨by simp only; rw [h3]; simp [hkesl], .inl ⟨rfl, h1, hrs, by rw [h3]; exact hkes2, h2, rfl⟩⟩ hw
      clear norm hwc hws1 k4x
      have hkm2 : km = k := by omega
      subst hkm2
      obtain ⟨sk, sn⟩ := s0
      simp only at hsv hn4 cc
      replace cc : Hid _ := cc
      have htx := htailx sn
      have hhx := hheadx sn
      generalize hrlh : List.map encSeg (⟨sk, sn⟩ :: rs) = rl at *
      have rl0 : rl[(0 : Int).toNat]? = some [iD sk, iD sn] := by rw [← hrlh]; rfl
      have rl1 : List.drop 1 rl = rs.map encSeg := by rw [← hrlh]; rfl
      have rlL : rl.length = rs.length + 1 := by rw [← hrlh]; simp
      simp only [encSeg] at nx hkes2
      generalize List.map encSeg rs = rsl at *
      have hcap : ∀ n : Nat, n = 1 → (km + n) * 16 ≤ 140737488355328 := fun n h => by subst h; omega
      have htk : List.take km (List.drop 0 kes) = kes := by rw [List.drop_zero]; exact List.take_of_length_le (by omega)
      conv => cbv
      repeat' first | (refine call_in gm gf gc (Nat.le_of_ble_eq_true rfl) fun Λ1 Λ1o => ?_; have r1 := Λ1o rl; rw [rlL] at r1; (conv => cbv)) | (refine call_in gm kf kc (Nat.le_of_ble_eq_true rfl) fun Λ2 Λ2o => ?_; conv => cbv) | (intro (j : Nat) hj; refine (fun (hz : j = 0) => ?_) ?_; rotate_left; omega; subst hz; (conv => cbv)) | (intro (_ : Unit); exact Nat.le_refl 1) | (intro (_ : Unit); exact hcap _ rfl) | (intro (_ : Unit); exact ⟨rfl, hcap _ rfl⟩) | (intro (_ : Unit); exact ⟨rfl, rfl, hcap _ rfl⟩) | (intro (_ : Unit); exact ⟨rfl, Nat.le_refl 1⟩) | (intro (_ : Unit); exact ⟨rfl, Nat.le_refl 1, Nat.le_of_ble_eq_true rfl⟩) | (intro (e : List D) he; obtain rfl := Option.some.inj he; (conv => cbv)) | (intro (e : List D) he; cases Option.some.inj (he.symm.trans rl0); (conv => cbv)) | (intro (x : List (List D)) hx; have e := hx.trans rl1; subst e; (conv => cbv)) | (intro (x : List (List D)) hx; subst hx; (conv => cbv)) | refine call_i (htx (by omega) (by omega)) rfl rfl ?_ | refine call_i (hhx (by omega) (by omega)) rfl rfl ?_ | (refine rt _ _ ?_; (conv => cbv)) | (intro (_ : Unit); first | omega | rfl | exact ⟨rfl, by omega⟩ | (simp only [nI_eq]; omega) | ((repeat' first | rfl | omega | refine And.intro ?_ ?_ | (simp only [nI_eq]; omega) | exact Nat.le_of_ble_eq_true rfl); done)) | exact trivial | refine And.intro ?_ ?_ | (intro hc; exact absurd hc (by decide)) | (intro hc; exfalso; omega) | (intro hc; (first | rw [wrap_small (by omega) (by omega)] at hc | rw [nI_eq] at hc | skip); try (conv => cbv))
      all_goals first
        | (refine kerr 7 (cc.out.2.2.1 ?_ ?_) (by decide) <;> omega)
        | (refine kerr 4 (cc.out.2.2.2.1 ?_ ?_ ?_) (by decide) <;> omega)
        | (refine kerr 6 (cc.out.2.1 ?_ ?_) (by decide) <;> omega)
        | (refine kerr 6 (cc.out.2.2.2.2.2.1 ?_ ?_ ?_ ?_) (by decide) <;> omega)
        | (refine kerr 6 (cc.out.2.2.2.2.2.2.2 ?_ ?_ ?_) (by decide) <;> omega)
        | (rename_i hx; rw [htk] at hx; refine nx _ _ _ _ _ _ ?_ (cc.out.1 ?_ ?_) hx (Wk.cut ⟨_, rfl⟩ (Nat.zero_le _) rfl (by repeat' first | exact trivial | refine And.intro ?_ ?_ | rfl)) <;> omega)
        | (rename_i hx; rw [htk] at hx; refine nx _ _ _ _ _ _ ?_ (cc.out.2.2.2.2.2.2.1 ?_ ?_ ?_) hx (Wk.cut ⟨_, rfl⟩ (Nat.zero_le _) rfl (by repeat' first | exact trivial | refine And.intro ?_ ?_ | rfl)) <;> omega)
        | (rename_i hx; rw [htk] at hx; refine nx _ _ _ _ _ _ ?_ (Eq.trans (congrArg (fun p => ws p (km + 1) rs) ?_) (cc.out.2.2.2.2.1 ?_ ?_ ?_ ?_)) hx (Wk.cut ⟨_, rfl⟩ (Nat.zero_le _) rfl (by repeat' first | exact trivial | refine And.intro ?_ ?_ | rfl)) <;> omega)
  · subst hfl hkes
    conv => cbv
    repeat' first | (refine ex _ _ _ ?_; (conv => cbv)) | (intro (_ : Unit); first | omega | rfl | exact ⟨rfl, by omega⟩ | (simp only [nI_eq]; omega) | ((repeat' first | rfl | omega | refine And.intro ?_ ?_ | (simp only [nI_eq]; omega) | exact Nat.le_of_ble_eq_true rfl); done)) | exact trivial | refine And.intro ?_ ?_ | (intro hc; exact absurd hc (by decide)) | (intro hc; exfalso; omega) | (intro hc; (first | rw [wrap_small (by omega) (by omega)] at hc | rw [nI_eq] at hc | skip); try (conv => cbv))
    all_goals try (exfalso; omega)
    have e : _ = kes := hc.trans (by rw [List.drop_zero, hkm, List.take_length])
    rw [e]
    exact k3x hW0

end Go.Ab
