/-
  Merged texts, part pb.
-/
import Derived.Test.YtllgchplnhaplaaZpa
/-
  The first way on, as the program finds it (arcs that were used lie in a map).
-/
namespace Go.Ab
open Go.Proofs
set_option maxRecDepth 20000 in
set_option maxHeartbeats 8000000 in
theorem dev1_ok (P : Program) (hP : P = Try.prog) (t : Top) (down : List Bool) (n d most : Int) (root : List Int) (vm : Nat) (ks : List Int) (hv : validT t = true) (hN8 : t.nodes ≤ 8) (hL : t.links.length ≤ 11) (hdn : down.length = 0 ∨ down.length = 2 * t.links.length)
  (hmost : 0 ≤ most) (hn : 0 ≤ n ∧ n < t.nodes) (hr : ∀ a ∈ root, 0 ≤ a ∧ a < 2 * t.links.length) (hrl : root.length ≤ 8) (hnc : n ∉ root.map (tailG t)) (hdc : d ∉ root.map (tailG t)) (g : SV) (hgd : g = devG t down (fun a => decide (a ∈ ks)) n d most root)
  : FnS P n_kpaths_finder_deviation [finA t down d most, iA n, intsA root, .c (.mp 0)] [.mp vm (usM ks)] fun r h' => (∃ o, g.DevO o ∧ r = devR1 root o) ∧ ∃ b, h' = .mp vm (usM ks) :: b := by
 refine heap_start (hP ▸ mixed) (hP ▸ fn_kpaths_finder_deviation) (hP ▸ c_kpaths_finder_deviation) (nle rfl) fun Λ Λo K hK => ?_
 have v1 := validT_spec.1 hv
 have hg : g.Ok := hgd ▸ devG_ok hv hn hr hnc hdc
 have leafS : ∀ p, g.IsDev p → ∀ b, K (.tup [intsA (root ++ p), bA true]) (.mp vm (usM ks) :: b) := fun p hp b => hK _ _ ⟨⟨some p, hp, rfl⟩, b, rfl⟩
 have leafN : g.NoDev → ∀ b, K (.tup [.c (.d (.list true 1 [])), bA false]) (.mp vm (usM ks) :: b) := fun hp b => hK _ _ ⟨⟨none, hp, rfl⟩, b, rfl⟩
 clear hK
 obtain ⟨ml, hml⟩ : ∃ x, x = usM ks := ⟨_, rfl⟩
 rw [← hml] at leafS leafN ⊢
 have hmz := usM_z ks
 rw [← hml] at hmz
 have ht : ∀ a : Int, 0 ≤ a → a < 2 * t.links.length → Ret P n_graph_Tail [topA t, iA a] (iA (g.tl a)) := fun a h0 h1 => by rw [hgd]; exact gtail_ok P hP t a h0 h1 v1.2.2.1
 have hh : ∀ a : Int, 0 ≤ a → a < 2 * t.links.length → Ret P n_graph_Head [topA t, iA a] (iA (g.hd a)) := fun a h0 h1 => by rw [hgd]; exact ghead_ok P hP t a h0 h1 v1.2.2.1
 have hco : ∀ a : Int, 0 ≤ a → a < 2 * t.links.length → Ret P n_graph_Cost [topA t, iA a] (iA (g.co a)) := fun a h0 h1 => by rw [hgd]; exact gcost_ok P hP t a hv h0 h1
 have hov : ∀ m : Int, 0 ≤ m → m < t.nodes → Ret P n_graph_Over [topA t, iA m] (bA (g.ov m)) := fun m h0 h1 => by rw [hgd]; exact gover_ok P hP t m hv h0 h1
 have hdow : ∀ a : Int, 0 ≤ a → a < 2 * t.links.length → Ret P n_graph_Down [boolsA down, iA a] (bA (g.dn a)) := fun a h0 h1 => by rw [hgd]; exact gdown_ok P hP down a (by omega)
 have hcc := fun l hl => concatInts_ok P hP l hl
 have hql := fun v m ro es => qlen_ok P hP v m ro es
 have hpop := fun {v m : Nat} {ro : Bool} {tl es : List (List D)} {O : List Lb} (h : QL (m + 1) tl es O) => @hpop_ok P hP v m ro tl es O h
 have hpush := fun {v m : Nat} {ro : Bool} {tl es : List (List D)} {O : List Lb} (h : QL m tl es O) => @hpush_ok P hP v m ro tl es O h
 have hclo := fun ll hl => cloneI_any P hP ll hl
 clear hP
 have htl : ∀ a : Int, 0 ≤ a → a < 2 * t.links.length → 0 ≤ g.tl a ∧ g.tl a < t.nodes := fun a h0 h1 => by
  have := endG_range hv false (a := a) h0 h1
  rw [hgd]; exact this
 have hde : ∀ a, g.de a = if 0 < most then (lkAt t a).dl else 0 := fun a => by rw [hgd]; rfl
 have hdl : ∀ a : Int, 0 ≤ a → a < 2 * t.links.length → 1 ≤ (lkAt t a).dl ∧ (lkAt t a).dl ≤ 65536 := fun a h0 h1 => (okLk_spec.1 (lk_ok hv h0 h1)).2.2.2.2.2.2.1
 have hbig : ∀ a : Int, 0 ≤ a → a < g.M → g.co a ≤ 65536 ∧ g.de a ≤ 65536 := fun a h0 h1 => by
  have h1' : a < 2 * t.links.length := by rw [hgd] at h1; simpa [devG] using h1
  have e1 : g.co a = costT t a := by rw [hgd]; rfl
  have := cost_rg hv h0 h1'
  have := hdl a h0 h1'
  rw [e1, hde]
  split <;> omega
 have hd0 : g.d0 = (root.map g.de).sum := by rw [hgd]; rfl
 have hcl : ∀ v, g.cl v ↔ v ∈ root.map g.tl := fun v => by rw [hgd]; exact Iff.rfl
 have gn : g.n = n := by rw [hgd]; rfl
 have gd : g.d = d := by rw [hgd]; rfl
 have gm : g.most = most := by rw [hgd]; rfl
 have gM : g.M = 2 * t.links.length := by rw [hgd]; rfl
 have gN : (g.N : Int) = t.nodes := by
  have e : g.N = t.nodes.toNat := by rw [hgd]; rfl
  rw [e]; omega
 have hus : ∀ a, g.us a = decide (a ∈ ks) := fun a => by rw [hgd]; rfl
 have hrow : ∀ m : Nat, (m : Int) < t.nodes → ∃ row, row.length ≤ 22 ∧ (((List.range t.nodes.toNat).map fun (n : Nat) => rowG t false (n : Int) (2 * t.links.length)).map encRow)[m]? = some (encRow row) ∧ ∀ a, a ∈ row ↔ (0 ≤ a ∧ a < g.M) ∧ g.tl a = m := fun m hm => by
  refine ⟨rowG t false m (2 * t.links.length), Nat.le_trans (rowG_len ..) (by omega), ?_, fun a => ?_⟩
  ·have : m < t.nodes.toNat := by omega
   simp [this]
  ·rw [row_mem, gM, hgd]; rfl
 have hat : ∀ (a : Int) x, t.links[(a / 2).toNat]? = some x → lkAt t a = x := fun a x hx => by simp [lkAt, hx]
 clear hgd hnc hdc hv v1
 obtain ⟨nn, hnn⟩ : ∃ x, x = g.N := ⟨_, rfl⟩
 have hnn8 : nn ≤ 8 := by omega
 simp only [finA, intsA, intsD, boolsA, boolsD] at *
 generalize ((List.range t.nodes.toNat).map fun (n : Nat) => rowG t false (n : Int) (2 * t.links.length)).map encRow = rwl at *
 generalize rlh : List.map encI root = rl at *
 have rln : Λ rl = root.length := by rw [Λo, ← rlh]; simp
 generalize hdwl : down.map encB = dwl at *
 obtain ⟨nodes, ov, links⟩ := t
 simp only [topA, boolsD, linksD] at *
 generalize hol : ov.map encB = ol at *
 generalize hll : links.map encLk = ll at *
 have hlo : Λ ol = ov.length := by rw [Λo, ← hol]; simp
 have hls : Λ ll = links.length := by rw [Λo, ← hll]; simp
 conv => cbv
 repeat' first | exact gu | exact trivial | refine And.intro ?_ ?_ | (intro hc; exact absurd hc (by decide)) | (intro hc; exfalso; omega) | (intro hc; (first | rw [wS (by omega) (by omega)] at hc | rw [nI_eq] at hc | skip); try (conv => cbv))
 rename_i nn0 es0 hnn0 hes0 nv hnv
 have e0 : nn0 = nn := by omega
 subst e0
 rw [show nodes.toNat = nn0 by omega] at hes0
 have hes0 : es0 = (List.replicate nn0 (0 : Int)).map encI := by rw [hes0, List.map_replicate]; rfl
 refine loop_upx nn0 (fun (s : Int × List Int) => [(1, iA n), (2, .c (.d (.list false 1 rl))), (3, .c (.mp 0)), (4, .c (.ptr 1 0 0 0)), (8, .c (.d (.list true 1 []))), (9, bA false), (10, .c (.arr 2 0 0 nn0))] ++ [(26, iA nv), (27, iA s.1)]) (fun s => [.mp vm ml, .bx [.d (.int .i64 nodes), .d (.list false 1 ol), .d (.list false 7 ll), .d (.list false 1 dwl), .d (.int .i64 d), .d (.int .i64 most), .d (.list false 1 rwl)], .da true 0 1 (s.2.map encI)]) (fun k s => s.1 = k ∧ k ≤ nn0 ∧ s.2.length = nn0 ∧ ∀ j, j < k → lsF s.2 j = -1) (0, List.replicate nn0 (0 : Int))
  0 (fun (_ : List Int) => [(1, iA n), (2, .c (.d (.list false 1 rl))), (3, .c (.mp 0)), (4, .c (.ptr 1 0 0 0)), (8, .c (.d (.list true 1 []))), (9, bA false), (10, .c (.arr 2 0 0 nn0))]) (fun ls => [.mp vm ml, .bx [.d (.int .i64 nodes), .d (.list false 1 ol), .d (.list false 7 ll), .d (.list false 1 dwl), .d (.int .i64 d), .d (.int .i64 most), .d (.list false 1 rwl)], .da true 0 1 (ls.map encI)]) (fun ls => ls.length = nn0 ∧ ∀ j, j < nn0 → lsF ls j = -1) (by subst hes0; exact (Wk.ca)) ⟨rfl, by omega, by simp, fun j hj => by omega⟩ (fun k s h => h.2.1) ?_ ?_
 ·rintro kn ⟨i, ls⟩ Q' ⟨hi, hk, hll0, hlt0⟩ norm jn ex rt
  simp only at hi hll0 hlt0
  by_cases hlt : kn < nn0
  ·have hek := lsF_at (ls := ls) (j := kn) (by omega)
   obtain ⟨es2, hes2⟩ : ∃ x, x = (ls.map encI).set kn [iD (-1)] := ⟨_, rfl⟩
   have hes3 : es2 = (ls.set kn (-1)).map encI := by rw [hes2, List.map_set]; rfl
   generalize hes1 : ls.map encI = es at *
   have hel : es.length = nn0 := by rw [← hes1, List.length_map]; exact hll0
   conv => cbv
   repeat' first | (intro (k : Nat) hk; refine (fun (hz : kn = k) => ?_) ?_; rotate_left; omega; subst hz; (conv => cbv)) | (intro (e : List D) he; cases osj (he.symm.trans hek); (conv => cbv)) | (intro (x : List (List D)) (hx : x = es.set kn [iD (-1)]); refine (fun (hz : es2 = x) => ?_) (hes2.trans hx.symm); subst hz; (conv => cbv)) | exact gu | exact trivial | refine And.intro ?_ ?_ | (intro hc; exact absurd hc (by decide)) | (intro hc; exfalso; omega) | (intro hc; (first | rw [wS (by omega) (by omega)] at hc | rw [nI_eq] at hc | skip); try (conv => cbv))
   rename_i i2
   subst hes3
   refine norm _ _ (i2, ls.set kn (-1)) ⟨by simp only; omega, by omega, by simpa using hll0, fun j hj => ?_⟩ (Wk.ca)
   simp only
   rw [lsF_set (by omega)]
   split
   ·rfl
   ·exact hlt0 j (by omega)
  ·generalize hes1 : ls.map encI = es at *
   conv => cbv
   repeat' first | exact gu | exact trivial | refine And.intro ?_ ?_ | (intro hc; exact absurd hc (by decide)) | (intro hc; exfalso; omega) | (intro hc; (first | rw [wS (by omega) (by omega)] at hc | rw [nI_eq] at hc | skip); try (conv => cbv))
   subst hes1
   exact jn _ _ ls ⟨hll0, fun j hj => hlt0 j (by omega)⟩ (Wk.ca)
 rintro ls0 ⟨hl0, hls0⟩
 generalize hes1 : ls0.map encI = es at *
 conv => cbv
 repeat' first | exact gu | exact trivial | refine And.intro ?_ ?_ | (intro hc; exact absurd hc (by decide)) | (intro hc; exfalso; omega) | (intro hc; (first | rw [wS (by omega) (by omega)] at hc | rw [nI_eq] at hc | skip); try (conv => cbv))
 subst hes1
 refine loop_upx root.length (fun (s : Int × Int × List Int) => [(1, iA n), (2, .c (.d (.list false 1 rl))), (3, .c (.mp 0)), (4, .c (.ptr 1 0 0 0)), (8, .c (.d (.list true 1 []))), (9, bA false), (10, .c (.arr 2 0 0 nn0))] ++ [(12, iA s.1), (34, .c (.d (.list false 1 rl))), (35, iA (Λ rl)), (36, iA s.2.1)]) (fun s => [.mp vm ml, .bx [.d (.int .i64 nodes), .d (.list false 1 ol), .d (.list false 7 ll), .d (.list false 1 dwl), .d (.int .i64 d), .d (.int .i64 most), .d (.list false 1 rwl)], .da true 0 1 (s.2.2.map encI)])
  (fun k s => s.2.1 = k ∧ k ≤ root.length ∧ s.2.2.length = nn0 ∧ (0 ≤ s.1 ∧ s.1 ≤ 65536 * k) ∧ s.1 = ((root.take k).map g.de).sum ∧ ∀ v : Int, 0 ≤ v → v < nn0 → lsF s.2.2 v = if v ∈ (root.take k).map g.tl then 0 else -1) (0, 0, ls0)
  2 (fun (s : Int × List Int) => [(1, iA n), (2, .c (.d (.list false 1 rl))), (3, .c (.mp 0)), (4, .c (.ptr 1 0 0 0)), (8, .c (.d (.list true 1 []))), (9, bA false), (10, .c (.arr 2 0 0 nn0))] ++ [(12, iA s.1)]) (fun s => [.mp vm ml, .bx [.d (.int .i64 nodes), .d (.list false 1 ol), .d (.list false 7 ll), .d (.list false 1 dwl), .d (.int .i64 d), .d (.int .i64 most), .d (.list false 1 rwl)], .da true 0 1 (s.2.map encI)]) (fun s => s.1 = g.d0 ∧ (0 ≤ s.1 ∧ s.1 ≤ 524288) ∧ s.2.length = nn0 ∧ ∀ v : Int, 0 ≤ v → v < nn0 → lsF s.2 v = if v ∈ root.map g.tl then 0 else -1)
  (Wk.ca) ⟨rfl, by omega, hl0, by simp, by simp, fun v h1 h2 => by have := hls0 v.toNat (by omega); rw [show ((v.toNat : Nat) : Int) = v by omega] at this; simpa using this⟩ (fun k s h => h.2.1) ?_ ?_
 ·clear hls0 hl0 ls0
  rintro k ⟨dly, i, ls⟩ Q' ⟨hi, hk, hl0, hdb, hds, hlv⟩ norm jn ex rt
  simp only at hi hl0 hdb hds hlv
  by_cases hlt : k < root.length
  ·obtain ⟨x, hx⟩ : ∃ x, root[k]? = some x := ⟨_, lgE hlt⟩
   have hxa := elt_at rlh hi hx
   have hxr := hr x (List.mem_of_getElem? hx)
   have htx := ht x hxr.1 hxr.2
   have htb := htl x hxr.1 hxr.2
   obtain ⟨tn, htn⟩ : ∃ j : Nat, (j : Int) = g.tl x := ⟨(g.tl x).toNat, by omega⟩
   have hek := lsF_at (ls := ls) (j := tn) (by omega)
   obtain ⟨es2, hes2⟩ : ∃ x, x = (ls.map encI).set tn [iD 0] := ⟨_, rfl⟩
   have hes3 : es2 = (ls.set tn 0).map encI := by rw [hes2, List.map_set]; rfl
   have hdx := hdl x hxr.1 hxr.2
   have hdex := hde x
   have htk := take_succ_get hx
   have hlv2 : ∀ v : Int, 0 ≤ v → v < nn0 → lsF (ls.set tn 0) v = if v ∈ (root.take (k + 1)).map g.tl then 0 else -1 := fun v h1 h2 => by
    rw [lsF_set (by omega), hlv v h1 h2, htk, List.map_append, List.map_cons, List.map_nil, htn]
    by_cases e : v = g.tl x
    ·simp [e]
    ·simp [e]
   have hds2 : ((root.take (k + 1)).map g.de).sum = dly + g.de x := by rw [htk]; simp [hds]
   have hatx := hat x
   generalize hes1 : ls.map encI = es at *
   have hel : es.length = nn0 := by rw [← hes1, List.length_map]; exact hl0
   generalize g.tl x = tlx at *
   conv => cbv
   repeat' first | (intro (k : Nat) hk; refine (fun (hz : tn = k) => ?_) ?_; rotate_left; omega; subst hz; (conv => cbv)) | (intro e he; cases osj (he.symm.trans hxa); (conv => cbv)) | (intro (e : List D) he; cases osj (he.symm.trans hek); (conv => cbv)) | (intro (x : List (List D)) (hx : x = es.set tn [iD 0]); refine (fun (hz : es2 = x) => ?_) (hes2.trans hx.symm); subst hz; (conv => cbv)) | refine call_i htx rfl rfl ?_ | (intro hc; rw [tdiv2 (by omega) (by omega)] at hc; conv => cbv) | (intro (_ : Unit); decide) | (intro e he; obtain ⟨⟨xa, xb, xc, xd, xe, xf, xg⟩, hlx, rfl⟩ := map_get' hll he; (conv => cbv)) | exact gu | exact trivial | refine And.intro ?_ ?_ | (intro hc; exact absurd hc (by decide)) | (intro hc; exfalso; omega) | (intro hc; (first | rw [wS (by omega) (by omega)] at hc | rw [nI_eq] at hc | skip); try (conv => cbv))
   ·rename_i q1 q2 q3 q4 q5 q6 q7 q8 dn2 q9 i2
    have hlk := hatx _ (get_at hlx (by omega))
    rw [hlk] at hdx hdex
    simp only at hdx hdex
    rw [if_pos q6] at hdex
    rw [wS (by omega) (by omega)] at q9
    subst hes3
    refine norm _ _ (dn2, i2, ls.set tn 0) ⟨by simp only; omega, by omega, by simpa using hl0, by simp only; omega, by simp only; rw [hds2]; omega, hlv2⟩ (Wk.ca)
   ·rename_i q1 q2 q3 q4 q5 i2
    rw [if_neg q5] at hdex
    subst hes3
    refine norm _ _ (dly, i2, ls.set tn 0) ⟨by simp only; omega, by omega, by simpa using hl0, by simp only; omega, by simp only; rw [hds2]; omega, hlv2⟩ (Wk.ca)
  ·generalize hes1 : ls.map encI = es at *
   conv => cbv
   repeat' first | exact gu | exact trivial | refine And.intro ?_ ?_ | (intro hc; exact absurd hc (by decide)) | (intro hc; exfalso; omega) | (intro hc; (first | rw [wS (by omega) (by omega)] at hc | rw [nI_eq] at hc | skip); try (conv => cbv))
   subst hes1
   rw [List.take_of_length_le (by omega)] at hds hlv
   exact jn _ _ (dly, ls) ⟨by rw [hd0]; exact hds, by simp only; omega, hl0, hlv⟩ (Wk.ca)
 clear hls0 hl0 ls0
 rintro ⟨dly, ls0⟩ ⟨hdl0, hdb, hl0, hlv⟩
 simp only at hdl0 hdb hl0 hlv
 obtain ⟨BB, hBB⟩ : ∃ x : Nat, x = 23 ^ 8 := ⟨_, rfl⟩
 have hBBv : BB = 78310985281 := by rw [hBB]
 have hinit : g.DI (fun _ _ => False) [] [g.ini] (lsF ls0) := by
  refine SV.DI.init hg (fun v hv => ?_) fun v hv => ?_
  ·rw [hcl] at hv
   obtain ⟨a, ha, rfl⟩ := List.mem_map.1 hv
   have := hr a ha
   have := htl a this.1 this.2
   rw [hlv _ (by omega) (by omega), if_pos hv]
  ·rw [hcl] at hv
   by_cases h0 : 0 ≤ v ∧ v < nn0
   ·rw [hlv v h0.1 h0.2, if_neg hv]; decide
   ·unfold lsF
    by_cases h1 : 0 ≤ v
    ·rw [if_pos h1, List.getD_eq_getElem?_getD, List.getElem?_eq_none (by omega)]; decide
    ·rw [if_neg h1]; decide
 have hql0 : QL 1 [] [encLb g.ini] [g.ini] := ⟨rfl, rfl⟩
 have hho : HOG leL [g.ini] := fun c h0 h1 => absurd h1 (by simp; omega)
 have hini : encLb g.ini = [iD n, iD 0, iD dly, intsD []] := by rw [hdl0, ← gn]; rfl
 rw [hini] at hql0
 have hphi : 0 + phi [g.ini] ≤ BB := by rw [phi_cons, hBB]; simp [SV.ini, phi]
 obtain ⟨es0, hes0⟩ : ∃ x, x = [[iD n, iD 0, iD dly, intsD []]] := ⟨_, rfl⟩
 rw [← hes0] at hql0
 generalize hes1 : ls0.map encI = es at *
 conv => cbv
 repeat' first | exact gu | exact trivial | refine And.intro ?_ ?_ | (intro hc; exact absurd hc (by decide)) | (intro hc; exfalso; omega) | (intro hc; (first | rw [wS (by omega) (by omega)] at hc | rw [nI_eq] at hc | skip); try (conv => cbv))
 subst hes1
 refine loop_up BB (fun (s : Nat × Nat × Bool × List (List D) × List Int) => [(1, iA n), (2, .c (.d (.list false 1 rl))), (3, .c (.mp 0)), (4, .c (.ptr 1 0 0 0)), (8, .c (.d (.list true 1 []))), (9, bA false), (10, .c (.arr 2 0 0 nn0))] ++ [(15, .c (.ptr 4 0 0 0))]) (fun s => [.mp vm ml, .bx [.d (.int .i64 nodes), .d (.list false 1 ol), .d (.list false 7 ll), .d (.list false 1 dwl), .d (.int .i64 d), .d (.int .i64 most), .d (.list false 1 rwl)], .da true 0 1 (s.2.2.2.2.map encI), .da s.2.2.1 s.1 4 s.2.2.2.1, .bx [.arr 3 s.1 0 s.2.1]])
  (fun k s => ∃ A O tl, QL s.2.1 tl s.2.2.2.1 O ∧ HOG leL O ∧ g.DI (fun _ _ => False) A O (lsF s.2.2.2.2) ∧ s.2.2.2.2.length = nn0 ∧ k + phi O ≤ BB) (0, 1, true, es0, ls0)
  (by subst hes0; exact (Wk.ca)) ⟨[], [g.ini], [], hql0, hho, hinit, hl0, hphi⟩ (fun k s h => by obtain ⟨A, O, tl, h1, h2, h3, h4, h5⟩ := h; omega) ?_
 have hd0b : g.d0 ≤ 524288 := by omega
 clear hinit hql0 hho hini hphi hes0 hlv hl0 ls0 hdb hdl0
 rintro kk ⟨ve, m, ro, es, ls⟩ Q0 ⟨A, O, tl, hq, ho, hdi, hl0, hph⟩ norm0 ex0 rt0
 simp only at hq hdi hl0
 have hom := hq.len
 have hphl := phi_len O
 have hqlm := hql ve m ro es
 obtain ⟨mv, hmv⟩ : ∃ x : Int, x = m := ⟨_, rfl⟩
 rw [← hmv] at hqlm
 generalize hes1 : ls.map encI = lsl at *
 conv => cbv
 repeat' first | exact gu | exact trivial | refine And.intro ?_ ?_ | (intro hc; exact absurd hc (by decide)) | (intro hc; exfalso; omega) | (intro hc; (first | rw [wS (by omega) (by omega)] at hc | rw [nI_eq] at hc | skip); try (conv => cbv))
 refine call_fr [3] hqlm rfl rfl (by decide) ⟨rfl, trivial⟩ rfl rfl ?_
 rintro r hc ⟨rfl, rfl⟩
 conv => cbv
 repeat' first | exact gu | exact trivial | refine And.intro ?_ ?_ | (intro hc; exact absurd hc (by decide)) | (intro hc; exfalso; omega) | (intro hc; (first | rw [wS (by omega) (by omega)] at hc | rw [nI_eq] at hc | skip); try (conv => cbv))
 rotate_left
 ·refine ex0 _ _ _ ?_
  have hO0 : O = [] := List.length_eq_zero_iff.1 (by omega)
  rw [hO0] at hdi
  have leafN := leafN (SV.DI.none hg hdi)
  conv => cbv
  repeat' first | exact gu | exact trivial | refine And.intro ?_ ?_ | (intro hc; exact absurd hc (by decide)) | (intro hc; exfalso; omega) | (intro hc; (first | rw [wS (by omega) (by omega)] at hc | rw [nI_eq] at hc | skip); try (conv => cbv))
  exact leafN _
 obtain ⟨m1, hm1⟩ : ∃ x, m = x + 1 := ⟨m - 1, by omega⟩
 subst hm1
 have hpp := hpop hq (v := ve) (ro := ro) (by omega) ho
 obtain ⟨q, hqq⟩ : ∃ q, q = atG O 0 := ⟨_, rfl⟩
 rw [← hqq] at hpp
 have hqO : q ∈ O := by
  rw [hqq, atG, List.getD_eq_getElem?_getD, lgE (by omega)]
  exact List.getElem_mem _
 have hqmin : ∀ x ∈ O, leL q x := fun x hx => by
  obtain ⟨c, hc, rfl⟩ := List.mem_iff_getElem.1 hx
  have h1 := ho.root totL c hc
  have h2 : atG O c = O[c] := by rw [atG, List.getD_eq_getElem?_getD, lgE hc]; rfl
  rw [hqq, ← h2]; exact h1
 have hqw := hdi.w q (.inr hqO)
 have hqr := hqw.range hg
 have hqlen := hdi.lenQ hg hqO
 have hqb := hqw.big hbig
 have hqd0 := hqw.delay0 hg
 have hg00 := hg.d00
 obtain ⟨qnn, hqnn⟩ : ∃ j : Nat, (j : Int) = q.node := ⟨q.node.toNat, by omega⟩
 have hek := lsF_at (ls := ls) (j := qnn) (by omega)
 obtain ⟨lv, hlv⟩ : ∃ x, x = lsF ls qnn := ⟨_, rfl⟩
 rw [← hlv, hes1] at hek
 obtain ⟨es2, hes2⟩ : ∃ x, x = lsl.set qnn [iD q.delay] := ⟨_, rfl⟩
 have hes3 : es2 = (ls.set qnn q.delay).map encI := by rw [hes2, ← hes1, List.map_set]; rfl
 have hel : lsl.length = nn0 := by rw [← hes1, List.length_map]; exact hl0
 obtain ⟨row, hrow22, hrw, hrowm⟩ := hrow qnn (by omega)
 have hccq := hcc [root, q.arcs] (by simp [sumLenI]; omega)
 simp only [List.map_cons, List.map_nil, encRow, intsD, rlh, List.flatten_cons, List.flatten_nil, List.append_nil] at hccq
 have leafS := leafS q.arcs
 generalize List.map encI (root ++ q.arcs) = resl at *
 obtain ⟨qn, qc, qdl, qa⟩ := q
 simp only at hqr hqlen hqb hqd0 hqnn hes2 hes3 hccq
 simp only [lbA, intsD] at hpp
 simp only [encRow, intsD] at hrw
 obtain ⟨q, hqE⟩ : ∃ q : Lb, q = ⟨qn, qc, qdl, qa⟩ := ⟨_, rfl⟩
 rw [← hqE] at hqO hqmin hqw hqq
 have hn' : 0 ≤ qn ∧ qn < nodes := by omega
 generalize hqal : qa.map encI = qal at *
 have hqaln : Λ qal = qa.length := by rw [Λo, ← hqal]; simp
 have hqalL : qal.length = qa.length := by rw [← hqal]; simp
 generalize hrwl : row.map encI = rowl at *
 have rowlh := hrwl
 have hrwln : Λ rowl = row.length := by rw [Λo, ← hrwl]; simp
 have hrwlt := get_lt hrw
 have hrww := Λo rwl
 have hrw : rwl[qn.toNat]? = some [D.list false 1 rowl] := by rw [← hqnn]; exact hrw
 refine call_fr [4, 3] hpp rfl rfl (by decide) ⟨rfl, rfl, trivial⟩ rfl rfl ?_
 rintro r hc ⟨rfl, es1, O1, tl1, rfl, hq1, ho1, hp1⟩
 clear hpp hpop
 rw [← hqE] at hp1
 have hphi1 : phi O = 23 ^ (8 - qa.length) + phi O1 := by rw [← phi_perm hp1, phi_cons, hqE]
 have hpw : 0 < 23 ^ (8 - qa.length) := Nat.pow_pos (by decide)
 have qnode : q.node = qn := by rw [hqE]
 have qdel : q.delay = qdl := by rw [hqE]
 have qarc : q.arcs = qa := by rw [hqE]
 have qcost : q.cost = qc := by rw [hqE]
 have hlvq : lsF ls q.node = lv := by rw [qnode, ← hqnn, hlv]
 by_cases hskip : 0 ≤ lv ∧ lv ≤ qdl
 ·have hdi2 := hdi.skip hg hp1 (by rw [hlvq]; exact hskip.1) (by rw [hlvq, qdel]; exact hskip.2)
  conv => cbv
  repeat' first | (intro (k : Nat) hk; refine (fun (hz : qnn = k) => ?_) ?_; rotate_left; omega; subst hz; (conv => cbv)) | (intro (e : List D) he; cases osj (he.symm.trans hek); (conv => cbv)) | exact gu | exact trivial | refine And.intro ?_ ?_ | (intro hc; exact absurd hc (by decide)) | (intro hc; exfalso; omega) | (intro hc; (first | rw [wS (by omega) (by omega)] at hc | rw [nI_eq] at hc | skip); try (conv => cbv))
  subst hes1
  exact norm0 _ _ (ve, m1, ro, es1, ls) ⟨A, O1, tl1, hq1, ho1, hdi2, hl0, by omega⟩ (Wk.ca)
 obtain ⟨hge, htk⟩ := hdi.take hg hp1 (fun x hx => hqmin x (hp1.mem_iff.1 (List.mem_cons_of_mem _ hx))) (fun h1 h2 => hskip ⟨by rw [← hlvq]; exact h1, by rw [← hlvq, ← qdel]; exact h2⟩) (least' := lsF (ls.set qnn qdl)) (fun v => by rw [lsF_set (by omega), hqnn, qnode, qdel])
 have hfound : qn = d → g.IsDev q.arcs := fun e => hdi.found hg hp1 (fun x hx => hqmin x (hp1.mem_iff.1 (List.mem_cons_of_mem _ hx))) hge (by rw [qnode, gd, e])
 have hl2 : (ls.set qnn qdl).length = nn0 := by rw [List.length_set]; exact hl0
 have hcase : ¬ 0 ≤ lv ∨ (0 ≤ lv ∧ ¬ lv ≤ qdl) := by omega
 clear hskip
 by_cases hqd : qn = d
 ·have leafS := leafS (by have := hfound hqd; rw [qarc] at this; exact this)
  rcases hcase with hcase | hcase
  all_goals
   conv => cbv
   repeat' first | (intro (k : Nat) hk; refine (fun (hz : qnn = k) => ?_) ?_; rotate_left; omega; subst hz; (conv => cbv)) | (intro (e : List D) he; cases osj (he.symm.trans hek); (conv => cbv)) | (intro (x : List (List D)) (hx : x = lsl.set qnn [iD qdl]); refine (fun (hz : es2 = x) => ?_) (hes2.trans hx.symm); subst hz; (conv => cbv)) | (refine call_z 6 0 1 2 rfl rfl (by repeat' first | exact trivial | refine And.intro ?_ ?_ | rfl) (by repeat' first | exact trivial | refine And.intro ?_ ?_ | rfl) ?_; conv => cbv) | (refine call_r hccq rfl rfl ?_; conv => cbv) | exact gu | exact trivial | refine And.intro ?_ ?_ | (intro hc; exact absurd hc (by decide)) | (intro hc; exfalso; omega) | (intro hc; (first | rw [wS (by omega) (by omega)] at hc | rw [nI_eq] at hc | skip); try (conv => cbv))
   refine rt0 _ _ ?_
   conv => cbv
   exact leafS _
 have htk := htk (by rw [qnode, gd]; exact hqd)
 clear hfound hccq leafS leafN
 have hA7 := htk.lenA hg (l := q) (by simp)
 rw [qarc] at hA7
 obtain ⟨hw1, hw2⟩ := phi_step (k := qa.length) (by omega)
 obtain ⟨w, hw⟩ : ∃ x, x = 23 ^ (8 - (qa.length + 1)) := ⟨_, rfl⟩
 rw [← hw] at hw1 hw2
 by_cases hovq : qa ≠ [] ∧ g.ov qn = true
 ·have hdi2 : g.DI (fun _ _ => False) (q :: A) O1 (lsF (ls.set qnn qdl)) := htk.weak fun l a hl hor hpu he => by
   rcases hor with h1 | h1
   ·rw [he, qarc] at h1; exact hovq.1 h1
   ·rw [he, qnode, hovq.2] at h1; cases h1
  have hoq := hov qn hn'.1 hn'.2
  rw [hovq.2] at hoq
  have hne : 0 < Λ qal := by
   rw [hqaln]
   have := List.length_pos_iff.2 hovq.1
   omega
  rcases hcase with hcase | hcase
  all_goals
   conv => cbv
   repeat' first | (intro (k : Nat) hk; refine (fun (hz : qnn = k) => ?_) ?_; rotate_left; omega; subst hz; (conv => cbv)) | (intro (e : List D) he; cases osj (he.symm.trans hek); (conv => cbv)) | (intro (x : List (List D)) (hx : x = lsl.set qnn [iD qdl]); refine (fun (hz : es2 = x) => ?_) (hes2.trans hx.symm); subst hz; (conv => cbv)) | (refine call_r hoq rfl rfl ?_; conv => cbv) | exact gu | exact trivial | refine And.intro ?_ ?_ | (intro hc; exact absurd hc (by decide)) | (intro hc; exfalso; omega) | (intro hc; (first | rw [wS (by omega) (by omega)] at hc | rw [nI_eq] at hc | skip); try (conv => cbv))
   subst hes3
   exact norm0 _ _ (ve, m1, ro, es1, ls.set qnn qdl) ⟨q :: A, O1, tl1, hq1, ho1, hdi2, hl2, by omega⟩ (Wk.ca)
 have hovq2 : qa = [] ∨ g.ov qn = false := by
  by_cases h1 : qa = []
  ·exact .inl h1
  ·exact .inr (by
    cases hb : g.ov qn with
    | false => rfl
    | true => exact absurd ⟨h1, hb⟩ hovq)
 clear hovq
 obtain ⟨ls2, hls2⟩ : ∃ x, x = ls.set qnn qdl := ⟨_, rfl⟩
 rw [← hls2] at htk hl2 hes3
 have hdi0 : g.DI (fun l a => l = q ∧ a ∈ row.drop 0) (q :: A) O1 (lsF ls2) := htk.weak fun l a hl hor hpu he => by
  refine ⟨he, ?_⟩
  rw [List.drop_zero, hrowm]
  exact ⟨hpu.r, by rw [hpu.t, he, qnode, hqnn]⟩
 have hqA : q ∈ q :: A := by simp
 have hleA : ∀ l ∈ q :: A, leL l q := fun l hl => by
  rcases List.mem_cons.1 hl with rfl | hl
  ·exact totL.refl _
  ·exact hdi.c2 l hl q hqO
 clear htk hq ho
 have hoq := hov qn hn'.1 hn'.2
 have hcond : (qa = [] ∧ Λ qal ≤ 0) ∨ (qa ≠ [] ∧ 0 < Λ qal ∧ g.ov qn = false) := by
  rcases hovq2 with h1 | h1
  ·left; rw [hqaln]; exact ⟨h1, by simp [h1]⟩
  ·by_cases h2 : qa = []
   ·left; rw [hqaln]; exact ⟨h2, by simp [h2]⟩
   ·right
    have := List.length_pos_iff.2 h2
    exact ⟨h2, by rw [hqaln]; omega, h1⟩
 rcases hcase with hcase | hcase
 all_goals rcases hcond with ⟨hqe, hcond⟩ | ⟨hqe, hcond, hovf⟩
 all_goals try rw [hovf] at hoq
 all_goals
  conv => cbv
  repeat' first | (intro (k : Nat) hk; refine (fun (hz : qnn = k) => ?_) ?_; rotate_left; omega; subst hz; (conv => cbv)) | (intro (e : List D) he; cases osj (he.symm.trans hek); (conv => cbv)) | (intro (e : List D) he; cases osj (he.symm.trans hrw); (conv => cbv)) | (intro (x : List (List D)) (hx : x = lsl.set qnn [iD qdl]); refine (fun (hz : es2 = x) => ?_) (hes2.trans hx.symm); subst hz; (conv => cbv)) | (refine call_r hoq rfl rfl ?_; conv => cbv) | exact gu | exact trivial | refine And.intro ?_ ?_ | (intro hc; exact absurd hc (by decide)) | (intro hc; exfalso; omega) | (intro hc; (first | rw [wS (by omega) (by omega)] at hc | rw [nI_eq] at hc | skip); try (conv => cbv))
  refine loop_up row.length (fun (s : Nat × Nat × Bool × List (List D) × Int) => [(1, iA n), (2, .c (.d (.list false 1 rl))), (3, .c (.mp 0)), (4, .c (.ptr 1 0 0 0)), (8, .c (.d (.list true 1 []))), (9, bA false), (10, .c (.arr 2 0 0 nn0))] ++ [(15, .c (.ptr 4 0 0 0)), (16, .c (.ptr 5 0 0 0)), (125, .c (.d (.list false 1 rowl))), (126, iA (Λ rowl)), (127, iA s.2.2.2.2)]) (fun s => [.mp vm ml, .bx [.d (.int .i64 nodes), .d (.list false 1 ol), .d (.list false 7 ll), .d (.list false 1 dwl), .d (.int .i64 d), .d (.int .i64 most), .d (.list false 1 rwl)], .da true 0 1 es2, .da s.2.2.1 s.1 4 s.2.2.2.1, .bx [.arr 3 s.1 0 s.2.1], .bx [.d (.int .i64 qn), .d (.int .i64 qc), .d (.int .i64 qdl), .d (.list false 1 qal)]])
   (fun k s => s.2.2.2.2 = k ∧ k ≤ row.length ∧ ∃ O2 tl2, QL s.2.1 tl2 s.2.2.2.1 O2 ∧ HOG leL O2 ∧ g.DI (fun l a => l = q ∧ a ∈ row.drop k) (q :: A) O2 (lsF ls2) ∧ phi O2 ≤ phi O1 + k * w) (ve, m1, ro, es1, 0)
   (Wk.ca) ⟨rfl, by omega, O1, tl1, hq1, ho1, hdi0, by omega⟩ (fun k s h => h.2.1) ?_
  rintro k ⟨ve2, m2, ro2, es4, i⟩ Q' ⟨hi, hk, O2, tl2, hq2, ho2, hdi2, hph2⟩ norm ex rt
  simp only at hi hq2
  have hk22 : k * w ≤ 22 * w := Nat.mul_le_mul_right w (by omega)
  by_cases hlt : k < row.length
  ·obtain ⟨x, hx⟩ : ∃ x, row[k]? = some x := ⟨_, lgE hlt⟩
   have hxa := elt_at rowlh hi hx
   have hxm := List.mem_of_getElem? hx
   have hxr := (hrowm x).1 hxm
   have hxl : x < 2 * links.length := by have := hxr.1.2; omega
   have hdrop : ∀ b, b ∈ row.drop k → b = x ∨ b ∈ row.drop (k + 1) := fun b hb => by
    obtain ⟨h1, h2⟩ := List.getElem?_eq_some_iff.1 hx
    rw [List.drop_eq_getElem_cons h1, h2] at hb
    exact List.mem_cons.1 hb
   have hsm : (k + 1) * w = k * w + w := Nat.succ_mul k w
   have hdx := hdow x hxr.1.1 hxl
   by_cases hdn1 : g.dn x = true
   ·rw [hdn1] at hdx
    have hdi3 : g.DI (fun l a => l = q ∧ a ∈ row.drop (k + 1)) (q :: A) O2 (lsF ls2) := hdi2.weak fun l a hl hor hpu he => ⟨he.1, by
     rcases hdrop a he.2 with rfl | h1
     ·have := hpu.dn; rw [hdn1] at this; cases this
     ·exact h1⟩
    conv => cbv
    repeat' first | (intro e he; cases osj (he.symm.trans hxa); (conv => cbv)) | (refine call_r hdx rfl rfl ?_; conv => cbv) | exact gu | exact trivial | refine And.intro ?_ ?_ | (intro hc; exact absurd hc (by decide)) | (intro hc; exfalso; omega) | (intro hc; (first | rw [wS (by omega) (by omega)] at hc | rw [nI_eq] at hc | skip); try (conv => cbv))
    rename_i i2
    exact norm _ _ (ve2, m2, ro2, es4, i2) ⟨by simp only; omega, by omega, O2, tl2, hq2, ho2, hdi3, by omega⟩ (Wk.ca)
   ·have hdn1 : g.dn x = false := by
     cases hb : g.dn x with
     | false => rfl
     | true => exact absurd hb hdn1
    rw [hdn1] at hdx
    by_cases hu : qa = [] ∧ g.us x = true
    ·have hki : x ∈ ks := by have := hu.2; rw [hus, decide_eq_true_eq] at this; exact this
     have hdi3 : g.DI (fun l a => l = q ∧ a ∈ row.drop (k + 1)) (q :: A) O2 (lsF ls2) := hdi2.weak fun l a hl hor hpu he => ⟨he.1, by
      rcases hdrop a he.2 with rfl | h1
      ·have := hpu.us (by rw [he.1, qarc]; exact hu.1); rw [hu.2] at this; cases this
      ·exact h1⟩
     first
     | exact absurd hu.1 hqe
     |conv => cbv
      repeat' first | (intro e he; cases osj (he.symm.trans hxa); (conv => cbv)) | (refine call_r hdx rfl rfl ?_; conv => cbv) | (refine vlk_ints hmz (fun h0 => absurd h0 (usM_at hki)) (fun i v hv => ?_); obtain rfl := usM_v hv; (conv => cbv)) | exact gu | exact trivial | refine And.intro ?_ ?_ | (intro hc; exact absurd hc (by decide)) | (intro hc; exfalso; omega) | (intro hc; (first | rw [wS (by omega) (by omega)] at hc | rw [nI_eq] at hc | skip); try (conv => cbv))
      rename_i i2
      exact norm _ _ (ve2, m2, ro2, es4, i2) ⟨by simp only; omega, by omega, O2, tl2, hq2, ho2, hdi3, by omega⟩ (Wk.ca)
    have hnu : qa = [] → g.us x = false := fun h0 => by
     cases hb : g.us x with
     | false => rfl
     | true => exact absurd ⟨h0, hb⟩ hu
    have hnk : qa = [] → x ∉ ks := fun h0 h1 => by
     have := hnu h0
     rw [hus, decide_eq_true h1] at this
     cases this
    clear hu
    have hhx := hh x hxr.1.1 hxl
    have hcx := hco x hxr.1.1 hxl
    have hbx := hbig x hxr.1.1 hxr.1.2
    have hcx0 := hg.co0 x hxr.1.1 hxr.1.2
    have hdx0 := hg.de0 x hxr.1.1 hxr.1.2
    have hatx := hat x
    have hdlx := hdl x hxr.1.1 hxl
    have hdex := hde x
    obtain ⟨nc, hnc⟩ : ∃ y, y = qc + g.co x := ⟨_, rfl⟩
    obtain ⟨nd, hnd⟩ : ∃ y, y = qdl + g.de x := ⟨_, rfl⟩
    have hlen2 := hq2.len
    have hphl2 := phi_len O2
    by_cases hfit : nd ≤ most
    ·have hpu : g.push q x := ⟨hxr.1, by rw [hxr.2, qnode, hqnn], hdn1, by rw [qarc]; exact hnu, by rw [qdel, gm]; omega⟩
     have hor : q.arcs = [] ∨ g.ov q.node = false := by rw [qarc, qnode]; exact hovq2
     have hps := hpush hq2 (v := ve2) (ro := ro2) (by omega) ho2 (g.ext q x)
     have hphx : phi (g.ext q x :: O2) = w + phi O2 := by
      rw [phi_cons, hw]; simp only [SV.ext, List.length_append, List.length_cons, List.length_nil]; rw [qarc]
     obtain ⟨ye, hye⟩ : ∃ y, y = qal ++ [[iD x]] := ⟨_, rfl⟩
     obtain ⟨n1, hn1⟩ : ∃ y, y = qa.length + 1 := ⟨_, rfl⟩
     have hyl : n1 = ye.length := by rw [hye, hn1]; simp [hqalL]
     have hyv : (qa ++ [x]).map encI = ye := by rw [hye, ← hqal]; simp [encI]
     have hext : g.ext q x = ⟨g.hd x, nc, nd, qa ++ [x]⟩ := by rw [SV.ext, qarc, qdel, qcost, hnc, hnd]
     have hfin : ∀ (O3 : List Lb), O3.Perm (⟨g.hd x, nc, nd, qa ++ [x]⟩ :: O2) → g.DI (fun l a => l = q ∧ a ∈ row.drop (k + 1)) (q :: A) O3 (lsF ls2) ∧ phi O3 ≤ phi O1 + (k + 1) * w := fun O3 hp3 => by
      rw [← hext] at hp3
      exact ⟨hdi2.add hg hqA hor hpu hleA hp3 fun l b hb => by
      rcases hdrop b hb.2 with h1 | h1
      ·exact .inr ⟨hb.1, h1⟩
      ·exact .inl ⟨hb.1, h1⟩, by rw [phi_perm hp3, hphx]; omega⟩
     have hclq := hclo qal (by rw [hqalL]; omega)
     rw [hext] at hps
     simp only [lbA, intsD, hyv] at hps
     clear hext hphx
     by_cases hm0 : 0 < most
     all_goals first | rw [if_pos hm0] at hdex | (rw [if_neg hm0] at hdex; obtain rfl : nd = qdl := by omega)
     all_goals
      generalize g.de x = dex at *
      generalize g.co x = cox at *
      generalize g.hd x = hdxv at *
      conv => cbv
      repeat' first | (intro e he; cases osj (he.symm.trans hxa); (conv => cbv)) | (refine call_r hdx rfl rfl ?_; conv => cbv) | (refine call_r hhx rfl rfl ?_; conv => cbv) | (refine call_r hcx rfl rfl ?_; conv => cbv) | (intro hc; rw [tdiv2 (by omega) (by omega)] at hc; conv => cbv) | (intro (_ : Unit); decide) | (intro (k : Int) hk; rw [wS (by omega) (by omega)] at hk; refine (fun (hz : nc = k) => ?_) ?_; rotate_left; omega; subst hz; (conv => cbv)) | (intro (k : Int) hk; rw [wS (by omega) (by omega)] at hk; refine (fun (hz : nd = k) => ?_) ?_; rotate_left; omega; subst hz; (conv => cbv)) | (intro e he; obtain ⟨⟨xa, xb, xc, xd, xe, xf, xg⟩, hlx, rfl⟩ := map_get' hll he; have hlk := hatx _ (get_at hlx (by omega)); rw [hlk] at hdlx hdex; simp only at hdlx hdex; (conv => cbv)) | (refine vlk_ints hmz (fun h0 => ?_) (fun i v hv => absurd hv (by rw [usM_no (hnk hqe)]; simp)); (conv => cbv)) | exact gu | exact trivial | refine And.intro ?_ ?_ | (intro hc; exact absurd hc (by decide)) | (intro hc; exfalso; omega) | (intro hc; (first | rw [wS (by omega) (by omega)] at hc | rw [nI_eq] at hc | skip); try (conv => cbv))
      refine call_fr [] hclq rfl rfl (by decide) trivial rfl rfl ?_
      rintro r hc (⟨hq0, rfl, rfl⟩ | ⟨rrc, nq, hnq, rfl, rfl⟩)
      ·have hye : ye = [[iD x]] := by rw [hye, hq0]; rfl
       have hn1 : n1 = 1 := by rw [hyl, hye]; rfl
       conv => cbv
       repeat' first | (intro (m : Nat) (r : Bool) (y : List (List D)) hm hr hy; refine (fun (hz : n1 = m) (hz2 : ye = y) => ?_) (by first | omega | (simp only [List.length_cons, List.length_nil] at hm; omega)) (by first | (rw [hy, List.drop_zero, List.take_of_length_le (by omega)]; exact hye) | (rw [hy]; exact hye)); subst hz; subst hz2; (conv => cbv)) | exact gu | exact trivial | refine And.intro ?_ ?_ | (intro hc; exact absurd hc (by decide)) | (intro hc; exfalso; omega) | (intro hc; (first | rw [wS (by omega) (by omega)] at hc | rw [nI_eq] at hc | skip); try (conv => cbv))
       (refine call_z 8 (0) 1 n1 rfl hyl (by simp [okL, okA, okCs, okC, bq_lit]) (by first | (simp [okH, okB, okCs, okC]; done) | simp [okH, okB, okCs, okC, bq_lit]) ?_; simp only [zL, zA, zCs, zC, zH, zB, bq_self, bq_old]; conv => cbv)
       refine call_fr [4, 3] hps rfl rfl (by decide) ⟨rfl, rfl, trivial⟩ rfl rfl ?_
       rintro r hc ⟨rfl, ro3, es5, O3, rfl, hq3, ho3, hp3⟩
       have hf3 := hfin O3 hp3
       conv => cbv
       repeat' first | exact gu | exact trivial | refine And.intro ?_ ?_ | (intro hc; exact absurd hc (by decide)) | (intro hc; exfalso; omega) | (intro hc; (first | rw [wS (by omega) (by omega)] at hc | rw [nI_eq] at hc | skip); try (conv => cbv))
       all_goals (rename_i i2; exact norm _ _ (ve2 + 1, m2 + 1, ro3, es5, i2) ⟨by simp only; omega, by omega, O3, [], hq3, ho3, hf3.1, hf3.2⟩ (Wk.ca))
      ·conv => cbv
       repeat' first | (intro (m : Nat) (r : Bool) (y : List (List D)) hm hr hy; refine (fun (hz : n1 = m) (hz2 : ye = y) => ?_) (by first | omega | (simp only [List.length_cons, List.length_nil] at hm; omega)) (by first | (rw [hy, List.drop_zero, List.take_of_length_le (by omega)]; exact hye) | (rw [hy]; exact hye)); subst hz; subst hz2; (conv => cbv)) | exact gu | exact trivial | refine And.intro ?_ ?_ | (intro hc; exact absurd hc (by decide)) | (intro hc; exfalso; omega) | (intro hc; (first | rw [wS (by omega) (by omega)] at hc | rw [nI_eq] at hc | skip); try (conv => cbv))
       (refine call_z 7 (2) 1 n1 rfl hyl (by simp [okL, okA, okCs, okC, bq_lit]) (by first | (simp [okH, okB, okCs, okC]; done) | simp [okH, okB, okCs, okC, bq_lit]) ?_; simp only [zL, zA, zCs, zC, zH, zB, bq_self, bq_old]; conv => cbv)
       refine call_fr [4, 3] hps rfl rfl (by decide) ⟨rfl, rfl, trivial⟩ rfl rfl ?_
       rintro r hc ⟨rfl, ro3, es5, O3, rfl, hq3, ho3, hp3⟩
       have hf3 := hfin O3 hp3
       conv => cbv
       repeat' first | exact gu | exact trivial | refine And.intro ?_ ?_ | (intro hc; exact absurd hc (by decide)) | (intro hc; exfalso; omega) | (intro hc; (first | rw [wS (by omega) (by omega)] at hc | rw [nI_eq] at hc | skip); try (conv => cbv))
       all_goals (rename_i i2; exact norm _ _ (ve2 + 1, m2 + 1, ro3, es5, i2) ⟨by simp only; omega, by omega, O3, [], hq3, ho3, hf3.1, hf3.2⟩ (Wk.ca))
    ·have hdi3 : g.DI (fun l a => l = q ∧ a ∈ row.drop (k + 1)) (q :: A) O2 (lsF ls2) := hdi2.weak fun l a hl hor hpu he => ⟨he.1, by
      rcases hdrop a he.2 with rfl | h1
      ·have := hpu.de; rw [he.1, qdel, gm] at this; omega
      ·exact h1⟩
     by_cases hm0 : 0 < most
     all_goals first | rw [if_pos hm0] at hdex | rw [if_neg hm0] at hdex
     all_goals
      generalize g.de x = dex at *
      generalize g.co x = cox at *
      generalize g.hd x = hdxv at *
      conv => cbv
      repeat' first | (intro e he; cases osj (he.symm.trans hxa); (conv => cbv)) | (refine call_r hdx rfl rfl ?_; conv => cbv) | (refine call_r hhx rfl rfl ?_; conv => cbv) | (refine call_r hcx rfl rfl ?_; conv => cbv) | (intro hc; rw [tdiv2 (by omega) (by omega)] at hc; conv => cbv) | (intro (_ : Unit); decide) | (intro (k : Int) hk; rw [wS (by omega) (by omega)] at hk; refine (fun (hz : nc = k) => ?_) ?_; rotate_left; omega; subst hz; (conv => cbv)) | (intro (k : Int) hk; rw [wS (by omega) (by omega)] at hk; refine (fun (hz : nd = k) => ?_) ?_; rotate_left; omega; subst hz; (conv => cbv)) | (intro e he; obtain ⟨⟨xa, xb, xc, xd, xe, xf, xg⟩, hlx, rfl⟩ := map_get' hll he; have hlk := hatx _ (get_at hlx (by omega)); rw [hlk] at hdlx hdex; simp only at hdlx hdex; (conv => cbv)) | (refine vlk_ints hmz (fun h0 => ?_) (fun i v hv => absurd hv (by rw [usM_no (hnk hqe)]; simp)); (conv => cbv)) | exact gu | exact trivial | refine And.intro ?_ ?_ | (intro hc; exact absurd hc (by decide)) | (intro hc; exfalso; omega) | (intro hc; (first | rw [wS (by omega) (by omega)] at hc | rw [nI_eq] at hc | skip); try (conv => cbv))
      rename_i i2
      exact norm _ _ (ve2, m2, ro2, es4, i2) ⟨by simp only; omega, by omega, O2, tl2, hq2, ho2, hdi3, by omega⟩ (Wk.ca)
  ·have hdi3 : g.DI (fun _ _ => False) (q :: A) O2 (lsF ls2) := hdi2.weak fun l a hl hor hpu he => by
    have h1 := he.2
    rw [List.drop_of_length_le (by omega)] at h1
    cases h1
   conv => cbv
   repeat' first | exact gu | exact trivial | refine And.intro ?_ ?_ | (intro hc; exact absurd hc (by decide)) | (intro hc; exfalso; omega) | (intro hc; (first | rw [wS (by omega) (by omega)] at hc | rw [nI_eq] at hc | skip); try (conv => cbv))
   refine ex _ _ _ ?_
   conv => cbv
   subst hes3
   exact norm0 _ _ (ve2, m2, ro2, es4, ls2) ⟨q :: A, O2, tl2, hq2, ho2, hdi3, hl2, by omega⟩ (Wk.ca)
end Go.Ab

/-
  Is a path among the candidates?
-/
namespace Go.Ab
open Go.Proofs
theorem eqI_ok (P : Program) (hP : P = Try.prog) (l m : List Int) : Ret P n_slices_Equal_int_int [intsA l, intsA m] (bA (decide (l = m))) := by
 refine ret_start (hP ▸ mixed) (hP ▸ fn_slices_Equal_int_int) (hP ▸ c_slices_Equal_int_int) (nle rfl) fun Λ Λo K hK => ?_
 clear hP
 have yes := yes_of hK
 have no := no_of hK
 simp only [intsA, intsD] at *
 generalize llh : List.map encI l = ll at *
 have lln : Λ ll = l.length := by rw [Λo, ← llh]; simp
 generalize mlh : List.map encI m = ml at *
 have mln : Λ ml = m.length := by rw [Λo, ← mlh]; simp
 conv => cbv
 repeat' first | exact gu | exact trivial | refine And.intro ?_ ?_ | (intro hc; exact absurd hc (by decide)) | (intro hc; exfalso; omega) | (intro hc; (first | rw [wS (by omega) (by omega)] at hc | rw [nI_eq] at hc | skip); try (conv => cbv))
 ·exact no fun h => by subst h; omega
 refine loop_up l.length (fun i : Int => [(0, .c (.d (.list false 1 ll))), (1, .c (.d (.list false 1 ml))), (12, iA (Λ ll)), (13, iA i)]) (fun _ => []) (fun k i => i = k ∧ k ≤ l.length ∧ l.take k = m.take k) 0 (Wk.cw) ⟨rfl, by omega, by simp⟩ (fun k s h => h.2.1) ?_
 rintro k i Q' ⟨hi, hk, hno⟩ norm ex rt
 by_cases hlt : k < l.length
 ·obtain ⟨x, hx⟩ : ∃ x, l[k]? = some x := ⟨_, lgE hlt⟩
  obtain ⟨y, hy⟩ : ∃ y, m[k]? = some y := ⟨_, lgE (by omega)⟩
  have hxa := elt_at llh hi hx
  have hya := elt_at mlh hi hy
  conv => cbv
  repeat' first | (intro e he; cases osj (he.symm.trans hxa); (conv => cbv)) | (intro e he; cases osj (he.symm.trans hya); (conv => cbv)) | (intro (e : List D) he; cases osj (he.symm.trans hxa); (conv => cbv)) | (intro (e : List D) he; cases osj (he.symm.trans hya); (conv => cbv)) | exact gu | exact trivial | refine And.intro ?_ ?_ | (intro hc; exact absurd hc (by decide)) | (intro hc; exfalso; omega) | (intro hc; (first | rw [wS (by omega) (by omega)] at hc | rw [nI_eq] at hc | skip); try (conv => cbv))
  ·refine rt _ _ ?_
   conv => cbv
   refine no fun h => ?_
   subst h; rw [hx] at hy; cases hy; omega
  ·refine norm _ _ _ ?_ (Wk.cw)
   exact ⟨by omega, by omega, by rw [take_succ_get hx, take_succ_get hy, hno, show x = y by omega]⟩
 ·conv => cbv
  repeat' first | exact gu | exact trivial | refine And.intro ?_ ?_ | (intro hc; exact absurd hc (by decide)) | (intro hc; exfalso; omega) | (intro hc; (first | rw [wS (by omega) (by omega)] at hc | rw [nI_eq] at hc | skip); try (conv => cbv))
  refine ex _ _ _ ?_
  conv => cbv
  repeat' first | exact gu | exact trivial | refine And.intro ?_ ?_ | (intro hc; exact absurd hc (by decide)) | (intro hc; exfalso; omega) | (intro hc; (first | rw [wS (by omega) (by omega)] at hc | rw [nI_eq] at hc | skip); try (conv => cbv))
  exact yes (by rw [List.take_of_length_le (by omega), List.take_of_length_le (by omega)] at hno; exact hno)
theorem same1_ok (P : Program) (hP : P = Try.prog) (p q : List Int) : FnS P n_kpaths_finder_deviate_1 [intsA q, .c (.ptr 0 0 0 0)] [.bx [.d (intsD p)]] fun r h' => r = bA (decide (p = q)) ∧ h' = [.bx [.d (intsD p)]] := by
 have he := eqI_ok P hP p q
 refine heap_start (hP ▸ mixed) (hP ▸ fn_kpaths_finder_deviate_1) (hP ▸ c_kpaths_finder_deviate_1) (nle rfl) fun Λ Λo K hK => ?_
 clear hP
 have leaf := hK _ _ ⟨rfl, rfl⟩
 clear hK
 simp only [intsA, intsD] at *
 generalize p.map encI = pl at *
 generalize q.map encI = ql at *
 conv => cbv
 repeat' first | (refine call_r he rfl rfl ?_; conv => cbv) | exact gu | exact trivial | refine And.intro ?_ ?_ | (intro hc; exact absurd hc (by decide)) | (intro hc; exfalso; omega) | (intro hc; (first | rw [wS (by omega) (by omega)] at hc | rw [nI_eq] at hc | skip); try (conv => cbv))
 exact leaf
theorem row_at {C : List (List Int)} {es : List (List D)} {o k : Nat} {x : List Int} (hC : (es.drop o).take C.length = C.map encRow) (hx : C[k]? = some x) : es[o + k]? = some [.list false 1 (x.map encI)] := by
 have h1 := congrArg (·[k]?) hC
 simp only [List.getElem?_map, hx, Option.map_some, List.getElem?_take, List.getElem?_drop] at h1
 rw [if_pos (get_lt hx)] at h1
 exact h1
theorem indexS_ok (P : Program) (hP : P = Try.prog) (p : List Int) (C : List (List Int)) (v o : Nat) (ro : Bool) (es : List (List D)) (hC : (es.drop o).take C.length = C.map encRow) (hl : C.length ≤ 1000000) :
  FnS P n_slices_IndexFunc_int_int [.c (.arr 1 v o C.length), .c (.fn false n_kpaths_finder_deviate_1 [.ptr 0 0 0 0])] [.bx [.d (intsD p)], .da ro v 1 es] fun r' h' => (∃ i : Int, r' = iA i ∧ decide (0 ≤ i) = decide (p ∈ C)) ∧ h' = [.bx [.d (intsD p)], .da ro v 1 es] := by
 have hfo : FnOk P n_kpaths_finder_deviate_1 := hP ▸ ⟨_, fn_kpaths_finder_deviate_1, rfl, by decide⟩
 have hcl := fun q => same1_ok P hP p q
 refine heap_start (hP ▸ mixed) (hP ▸ fn_slices_IndexFunc_int_int) (hP ▸ c_slices_IndexFunc_int_int) (nle rfl) fun Λ Λo K hK => ?_
 clear hP
 have leaf : ∀ (i : Int), decide (0 ≤ i) = decide (p ∈ C) → K (iA i) [.bx [.d (intsD p)], .da ro v 1 es] := fun i e => hK _ _ ⟨⟨i, rfl, e⟩, rfl⟩
 clear hK
 have hle : o + C.length ≤ es.length ∨ C = [] := by
  by_cases h : C = []
  ·exact .inr h
  ·left
   have := congrArg List.length hC
   rw [List.length_take, List.length_drop, List.length_map] at this
   have := List.length_pos_iff.2 h
   omega
 have hxs := fun k x (hx : C[k]? = some x) => row_at hC hx
 clear hC
 obtain ⟨nn, hnn⟩ : ∃ x, x = C.length := ⟨_, rfl⟩
 rw [← hnn] at hle ⊢
 simp only [intsD, intsA] at *
 generalize hpl : p.map encI = pl at *
 conv => cbv
 repeat' first | exact gu | exact trivial | refine And.intro ?_ ?_ | (intro hc; exact absurd hc (by decide)) | (intro hc; exfalso; omega) | (intro hc; (first | rw [wS (by omega) (by omega)] at hc | rw [nI_eq] at hc | skip); try (conv => cbv))
 rename_i nv hnv
 refine loop_up C.length (fun (i : Int) => [(0, .c (.arr 1 v o nn)), (1, .c (.fn false 67 [.ptr 0 0 0 0])), (7, iA nv), (8, iA i)])
  (fun _ => [.bx [.d (.list false 1 pl)], .da ro v 1 es])
  (fun k i => i = k ∧ k ≤ C.length ∧ ∀ x ∈ C.take k, p ≠ x) 0 (Wk.ca) ⟨rfl, by omega, by simp⟩ (fun k s h => h.2.1) ?_
 rintro k i Q' ⟨hi, hk, hno⟩ norm ex rt
 by_cases hlt : k < C.length
 ·obtain ⟨x, hx⟩ : ∃ x, C[k]? = some x := ⟨_, lgE hlt⟩
  obtain ⟨j, hj⟩ : ∃ j, j = o + k := ⟨_, rfl⟩
  have hxa := hxs k x hx
  rw [← hj] at hxa
  have hlo := get_lt hxa
  have hclx := hcl x
  have nxt : ¬ p = x → ∀ y ∈ C.take (k + 1), p ≠ y := fun h y hy => by
   rw [take_succ_get hx] at hy
   rcases List.mem_append.1 hy with hy | hy
   ·exact hno y hy
   ·simp only [List.mem_singleton] at hy; subst hy; exact h
  generalize hxl : x.map encI = xl at *
  by_cases hb : p = x
  ·rw [decide_eq_true hb] at hclx
   conv => cbv
   repeat' first | (intro (k : Nat) hk; refine (fun (hz : j = k) => ?_) ?_; rotate_left; omega; subst hz; (conv => cbv)) | (intro (e : List D) he; cases osj (he.symm.trans hxa); (conv => cbv)) | exact hfo | (refine callv_fr [0] hclx rfl rfl (by decide) (by repeat' first | exact trivial | refine And.intro ?_ ?_ | rfl) rfl rfl ?_; rintro r hc' ⟨rfl, rfl⟩; (conv => cbv)) | exact gu | exact trivial | refine And.intro ?_ ?_ | (intro hc; exact absurd hc (by decide)) | (intro hc; exfalso; omega) | (intro hc; (first | rw [wS (by omega) (by omega)] at hc | rw [nI_eq] at hc | skip); try (conv => cbv))
   refine rt _ _ ?_
   conv => cbv
   refine leaf _ ?_
   rw [decide_eq_true (by omega), decide_eq_true (hb ▸ List.mem_of_getElem? hx)]
  ·rw [decide_eq_false hb] at hclx
   conv => cbv
   repeat' first | (intro (k : Nat) hk; refine (fun (hz : j = k) => ?_) ?_; rotate_left; omega; subst hz; (conv => cbv)) | (intro (e : List D) he; cases osj (he.symm.trans hxa); (conv => cbv)) | exact hfo | (refine callv_fr [0] hclx rfl rfl (by decide) (by repeat' first | exact trivial | refine And.intro ?_ ?_ | rfl) rfl rfl ?_; rintro r hc' ⟨rfl, rfl⟩; (conv => cbv)) | exact gu | exact trivial | refine And.intro ?_ ?_ | (intro hc; exact absurd hc (by decide)) | (intro hc; exfalso; omega) | (intro hc; (first | rw [wS (by omega) (by omega)] at hc | rw [nI_eq] at hc | skip); try (conv => cbv))
   refine norm _ _ _ ?_ (Wk.ca)
   exact ⟨by omega, by omega, nxt hb⟩
 ·rw [List.take_of_length_le (by omega)] at hno
  conv => cbv
  repeat' first | exact gu | exact trivial | refine And.intro ?_ ?_ | (intro hc; exact absurd hc (by decide)) | (intro hc; exfalso; omega) | (intro hc; (first | rw [wS (by omega) (by omega)] at hc | rw [nI_eq] at hc | skip); try (conv => cbv))
  refine ex _ _ _ ?_
  conv => cbv
  repeat' first | exact gu | exact trivial | refine And.intro ?_ ?_ | (intro hc; exact absurd hc (by decide)) | (intro hc; exfalso; omega) | (intro hc; (first | rw [wS (by omega) (by omega)] at hc | rw [nI_eq] at hc | skip); try (conv => cbv))
  refine leaf _ ?_
  rw [decide_eq_false (by omega), decide_eq_false (fun h => hno p h rfl)]
theorem contS_ok (P : Program) (hP : P = Try.prog) (p : List Int) (C : List (List Int)) (v o : Nat) (ro : Bool) (es : List (List D)) (hC : (es.drop o).take C.length = C.map encRow) (hl : C.length ≤ 1000000) :
  FnS P n_slices_ContainsFunc_int_int [.c (.arr 1 v o C.length), .c (.fn false n_kpaths_finder_deviate_1 [.ptr 0 0 0 0])] [.bx [.d (intsD p)], .da ro v 1 es] fun r' h' => r' = bA (decide (p ∈ C)) ∧ h' = [.bx [.d (intsD p)], .da ro v 1 es] := by
 have hix := indexS_ok P hP p C v o ro es hC hl
 refine heap_start (hP ▸ mixed) (hP ▸ fn_slices_ContainsFunc_int_int) (hP ▸ c_slices_ContainsFunc_int_int) (nle rfl) fun Λ Λo K hK => ?_
 clear hP hC
 have leaf : ∀ b, b = decide (p ∈ C) → K (bA b) [.bx [.d (intsD p)], .da ro v 1 es] := fun b e => hK _ _ ⟨by rw [e], rfl⟩
 clear hK
 generalize decide (p ∈ C) = t at *
 simp only [intsD, intsA] at *
 generalize p.map encI = pl at *
 generalize C.length = nn at *
 conv => cbv
 repeat' first | (refine call_fr [0, 1] hix rfl rfl (by decide) (by repeat' first | exact trivial | refine And.intro ?_ ?_ | rfl) rfl rfl ?_; rintro r hc' ⟨⟨i, rfl, hi⟩, rfl⟩; (conv => cbv)) | exact gu | exact trivial | refine And.intro ?_ ?_ | (intro hc; exact absurd hc (by decide)) | (intro hc; exfalso; omega) | (intro hc; (first | rw [wS (by omega) (by omega)] at hc | rw [nI_eq] at hc | skip); try (conv => cbv))
 ·exact leaf _ (by rw [← hi]; exact (decide_eq_true (by omega)).symm)
 ·exact leaf _ (by rw [← hi]; exact (decide_eq_false (by omega)).symm)
end Go.Ab

