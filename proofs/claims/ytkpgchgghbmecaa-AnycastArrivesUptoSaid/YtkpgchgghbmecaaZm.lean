/-
  Merged texts, part m.
-/
import Derived.Test.YtkpgchgghbmecaaZl
/-
  Shortest paths with a queue: the contract of the search.
-/
namespace Go.Ab
open Go.Proofs
abbrev h2H (t : Top) (rD : D) : Hp := [.bx [.d (iD t.nodes), .d (boolsD t.ov), .d (linksD t.links)], .bx [.d rD]]
theorem fillq_get {α : Type} (a b : α) {k n : Nat} (h : k ≤ n) (i : Nat) : (List.replicate k a ++ List.replicate (n - k) b)[i]? = if i < k then some a else if i < n then some b else none := by
 rcases Nat.lt_or_ge i k with h1 | h1
 ·rw [List.getElem?_append_left (by simpa using h1), List.getElem?_replicate, if_pos h1, if_pos h1]
 ·rw [List.getElem?_append_right (by simpa using h1), List.getElem?_replicate, List.length_replicate, if_neg (show ¬ i < k by omega)]
  by_cases h2 : i < n
  ·rw [if_pos (by omega), if_pos h2]
  ·rw [if_neg (by omega), if_neg h2]
theorem fillq_set {α : Type} (a b : α) {k n : Nat} (h : k < n) : (List.replicate k a ++ List.replicate (n - k) b).set k a = List.replicate (k + 1) a ++ List.replicate (n - (k + 1)) b := by
 refine List.ext_getElem? fun i => ?_
 rw [fillq_get a b h]
 by_cases e : k = i
 ·subst e
  rw [List.getElem?_set_self (by simp; omega), if_pos (by omega)]
 ·rw [List.getElem?_set_ne e, fillq_get a b (Nat.le_of_lt h)]
  by_cases h1 : i < k
  ·rw [if_pos h1, if_pos (by omega)]
  ·rw [if_neg h1, if_neg (show ¬ i < k + 1 by omega)]
theorem DI.init {t : Top} {down : List Bool} {e : Int} {fr : Bool} {K : List Int} {H : Int → Prop} {nn : Nat} (hn : (nn : Int) = t.nodes) (e0 : 0 ≤ e) (e1 : e < t.nodes) (hK : (K.length : Int) = t.nodes) (hk : gt K e = 0) (hH : ∀ x, H x ↔ x = e) : DI t down e fr (List.replicate nn (-1)) K H 0 fun _ => False := by
  have hg : ∀ i : Int, gt (List.replicate nn (-1)) i = -1 := fun i => by
    simp only [gt, List.getD_eq_getElem?_getD, List.getElem?_replicate]; split <;> rfl
  exact
    { len := by simp [hn]
      kl := hK
      lo := fun i _ _ => by rw [hg]; omega
      hi := fun i _ _ => by rw [hg]; omega
      l0 := by omega
      held := fun x hx => by rw [(hH x).1 hx, hg, hk]; omega
      past := fun x _ _ => by rw [hg]; omega
      root := .inr ⟨(hH e).2 rfl, hk, rfl, fun x hx => (hH x).1 hx⟩
      fix := fun a _ _ _ hy => by rw [hg] at hy; omega
      td := fun x _ _ _ hx => by rw [hg] at hx; omega
      th := fun x hx hxe => absurd ((hH x).1 hx) hxe }
theorem QS.init (n : Nat) : QS n (List.replicate n 0) [] (hpH 0 n 0 false ((List.replicate n 0).map encI) ((List.replicate n 0).map encI) []) := by
 refine ⟨0, 0, false, _, [], _, [], rfl, rfl, rfl, ⟨⟨List.replicate n 0, rfl, ?_⟩, rfl, rfl⟩, ?_⟩
 ·refine ⟨by simp, by simp, fun p hp => by simp at hp, fun i hi => .inl ?_⟩
  simp [at', List.getD_eq_getElem?_getD, hi]
 ·intro c _ hc; simp at hc
theorem cnt_set {D : List Int} {n v : Int} (n0 : 0 ≤ n) (n1 : n < D.length) (h : gt D n = -1) (hv : 0 ≤ v) : cntD (D.set n.toNat v) = cntD D + 1 := by
 have hx : D[n.toNat]? = some (-1) := by
  have hlt : n.toNat < D.length := by omega
  have := h
  rw [gt, List.getD_eq_getElem?_getD, List.getElem?_eq_getElem hlt, Option.getD_some] at this
  rw [List.getElem?_eq_getElem hlt, this]
 have := sum_set (fun d => if d < 0 then 0 else 1) D n.toNat v (-1) hx
 simp only [cntD]
 simp only [show ((-1 : Int) < 0) = True by simp, if_true, show ¬ (v < 0) by omega, if_false] at this
 omega
theorem encI_set (D : List Int) (i : Nat) (v : Int) : (D.map encI).set i [iD v] = (D.set i v).map encI := by
 rw [List.map_set]; rfl
theorem encI_at {D : List Int} {i : Nat} (h : i < D.length) : (D.map encI)[i]? = some [iD (gt D (i : Int))] := by
 rw [List.getElem?_map, List.getElem?_eq_getElem h]
 simp [gt, List.getD_eq_getElem?_getD, h, encI]
theorem drop_mem {α : Type} {l : List α} {k : Nat} {a x : α} (h : l[k]? = some a) (hx : x ∈ l.drop k) : x = a ∨ x ∈ l.drop (k + 1) := by
 rw [List.drop_eq_getElem_cons (get_lt h)] at hx
 rcases List.mem_cons.1 hx with e | e
 ·left
  rw [List.getElem?_eq_getElem (get_lt h)] at h
  exact e.trans (Option.some.inj h)
 ·exact .inr e
theorem row_mem {t : Top} (hv : validT t = true) {fr : Bool} {n a : Int} (h : a ∈ rowG t fr n (2 * t.links.length)) : 0 ≤ a ∧ a < 2 * t.links.length ∧ yOf t (!fr) a = n := by
 simp only [rowG, List.mem_filter, arcsTo, List.mem_map, List.mem_range, decide_eq_true_eq] at h
 obtain ⟨⟨k, hk, rfl⟩, h2⟩ := h
 have harc : arcsT t = 2 * t.links.length := by rw [arcsT, if_pos hv]
 refine ⟨by omega, by omega, ?_⟩
 rw [← h2]
 unfold yOf endG tailT headT tailG headG
 cases fr <;> simp [harc] <;> omega
theorem mem_row {t : Top} (hv : validT t = true) {fr : Bool} {n a : Int} (h0 : 0 ≤ a) (h1 : a < 2 * t.links.length) (h : yOf t (!fr) a = n) : a ∈ rowG t fr n (2 * t.links.length) := by
 simp only [rowG, List.mem_filter, arcsTo, List.mem_map, List.mem_range, decide_eq_true_eq]
 have harc : arcsT t = 2 * t.links.length := by rw [arcsT, if_pos hv]
 refine ⟨⟨a.toNat, by omega, by omega⟩, ?_⟩
 rw [← h]
 unfold yOf endG tailT headT tailG headG
 have : 0 ≤ a ∧ a < arcsT t := by omega
 cases fr <;> simp [this]
set_option maxHeartbeats 4000000 in
theorem srun_ok (P : Program) (hP : P = Try.prog) (t : Top) (hv : validT t = true) (down : List Bool) (hd : down.length = 0 ∨ down.length = 2 * t.links.length) (root : Int) (r0 : 0 ≤ root) (r1 : root < t.nodes) (fr : Bool) (f1 f2 : Nat) (rD : D) (hf1 : FnOk P f1) (hf2 : FnOk P f2)
  (h1 : ∀ n : Int, 0 ≤ n → n < t.nodes → FnS P f1 [iA n, .c (.ptr 1 0 0 0)] (h2H t rD) fun r h' => r = intsA (rowG t (!fr) n (2 * t.links.length)) ∧ h' = h2H t rD)
  (h2 : ∀ a : Int, 0 ≤ a → a < 2 * t.links.length → FnS P f2 [iA a, .c (.ptr 0 0 0 0)] (h2H t rD) fun r h' => r = iA (xOf t fr a) ∧ h' = h2H t rD) :
  FnS P n_spf_search_run [.agg [.d (iD t.nodes), .d (boolsD t.ov), .d (linksD t.links), .d (boolsD down), .d (iD root), .fn f1 [.ptr 1 0 0 0], .fn f2 [.ptr 0 0 0 0]]] (h2H t rD) fun r h' =>
   ∃ D q0 q1 q2 q3 q4, IsDist t down root fr D ∧ r = .c (.arr 3 0 0 t.nodes.toNat) ∧ h' = h2H t rD ++ [q0, .da true 0 1 (D.map encI), q1, q2, q3, q4] := by
 refine heap_start (hP ▸ mixed) (hP ▸ fn_spf_search_run) (hP ▸ c_spf_search_run) (Nat.le_of_ble_eq_true rfl) fun Λ Λo KK hKK => ?_
 have v1 := validT_spec.1 hv
 obtain ⟨nn, hnn⟩ : ∃ nn : Nat, (nn : Int) = t.nodes := ⟨t.nodes.toNat, by omega⟩
 have hnew := hnew_ok P hP nn (by omega)
 have hset := fun {K O h} (q : QS nn K O h) (hm : (O.length : Int) < 1000000) (i : Int) (i0 : 0 ≤ i) (i1 : i < nn) (key : Int) => qset_ok P hP q (by omega) hm i0 i1 key
 have hpop0 := fun {K h} (q : QS nn K [] h) => qpop0_ok P hP q
 have hpop := fun {K O h} (q : QS nn K O h) (hO : O ≠ []) (hm : (O.length : Int) ≤ 1000000) => qpop_ok P hP q hO (by omega) hm
 have hkey := fun {K O h} (q : QS nn K O h) (i : Int) (i0 : 0 ≤ i) (i1 : i < nn) => qkey_ok P hP q (by omega) i0 i1
 have hover := fun n h0 h1 => gover_ok P hP t n hv h0 h1
 have hdown := fun a h => gdown_ok P hP down a h
 have hcost := fun a h0 h1 => gcost_ok P hP t a hv h0 h1
 rw [hnn] at hnew
 have hq0 := QS.init nn
 obtain ⟨ks0, hks0⟩ : ∃ x, x = (List.replicate nn (0 : Int)).map encI := ⟨_, rfl⟩
 rw [← hks0] at hnew hq0
 clear hP
 obtain ⟨nodes, hN⟩ : ∃ x, x = t.nodes := ⟨_, rfl⟩
 obtain ⟨ol, hol⟩ : ∃ x, x = t.ov.map encB := ⟨_, rfl⟩
 obtain ⟨ll, hll⟩ : ∃ x, x = t.links.map encLk := ⟨_, rfl⟩
 obtain ⟨dl, hdl⟩ : ∃ x, x = down.map encB := ⟨_, rfl⟩
 obtain ⟨dn, hdn⟩ : ∃ x : Nat, x = t.nodes.toNat := ⟨_, rfl⟩
 have hdn2 : dn = nn := by omega
 subst hdn2
 simp only [h2H, topA, boolsA, boolsD, linksD, ← hN, ← hol, ← hll, ← hdl] at hKK h1 h2 hover hdown hcost hnew ⊢
 conv => cbv
 repeat' first | (intro (_ : Unit); first | omega | rfl | exact ⟨rfl, by omega⟩ | (simp only [nI_eq]; omega) | ((repeat' first | rfl | omega | refine And.intro ?_ ?_ | (simp only [nI_eq]; omega) | (simp only [List.length_cons, List.length_nil]; omega) | exact Nat.le_of_ble_eq_true rfl); done)) | exact trivial | refine And.intro ?_ ?_ | (intro hc; exact absurd hc (by decide)) | (intro hc; exfalso; omega) | (intro hc; (first | rw [wrap_small (by omega) (by omega)] at hc | rw [nI_eq] at hc | skip); try (conv => cbv))
 rename_i k0 es0 hk0 hes0 n21 hn21
 have hk1 : k0 = dn := by omega
 subst hk1
 rw [show nodes.toNat = k0 by omega] at hes0
 refine loop_up k0 (fun (s : Int × List (List D)) => [(1, .c (.ptr 2 0 0 0)), (3, .c (.arr 3 0 0 k0)), (21, iA n21), (22, iA s.1)]) (fun s => [.bx [.d (.int .i64 nodes), .d (.list false 1 ol), .d (.list false 7 ll)], .bx [.d rD], .bx [.d (.int .i64 nodes), .d (.list false 1 ol), .d (.list false 7 ll), .d (.list false 1 dl), .d (.int .i64 root), .fn f1 [.ptr 1 0 0 0], .fn f2 [.ptr 0 0 0 0]], .da true 0 1 s.2]) (fun k s => s.1 = k ∧ k ≤ k0 ∧ s.2 = (List.replicate k (-1) ++ List.replicate (k0 - k) 0).map encI) (0, es0) (Wk.cut ⟨[], rfl⟩ (Nat.le_of_ble_eq_true rfl) rfl (by repeat' first | exact trivial | refine And.intro ?_ ?_ | rfl)) ⟨rfl, by omega, by rw [hes0]; simp [encI]⟩ (fun k s h => h.2.1) ?_
 rintro j ⟨i, es⟩ Q' ⟨hi, hk, hes⟩ norm ex rt
 simp only at hi hes
 have lel : es.length = k0 := by rw [hes]; simp; omega
 by_cases hlt : j < k0
 ·have hfs := fillq_set (-1 : Int) 0 hlt
  have hei : es[j]? = some [iD 0] := by
   rw [hes, List.getElem?_map, fillq_get (-1 : Int) 0 hk, if_neg (by omega), if_pos hlt]; rfl
  clear hset hpop0 hpop hkey h1 h2 hover hdown hcost hnew hq0 hKK
  conv => cbv
  repeat' first | (refine ex _ _ _ ?_; (conv => cbv)) | (refine rt _ _ ?_; (conv => cbv)) | (intro (k : Nat) hk; refine (fun (hz : j = k) => ?_) ?_; rotate_left; omega; subst hz; (conv => cbv)) | (intro (e : List D) he; cases Option.some.inj (he.symm.trans hei); (conv => cbv)) | (intro (_ : Unit); first | omega | rfl | exact ⟨rfl, by omega⟩ | (simp only [nI_eq]; omega) | ((repeat' first | rfl | omega | refine And.intro ?_ ?_ | (simp only [nI_eq]; omega) | (simp only [List.length_cons, List.length_nil]; omega) | exact Nat.le_of_ble_eq_true rfl); done)) | exact trivial | refine And.intro ?_ ?_ | (intro hc; exact absurd hc (by decide)) | (intro hc; exfalso; omega) | (intro hc; (first | rw [wrap_small (by omega) (by omega)] at hc | rw [nI_eq] at hc | skip); try (conv => cbv))
  rename_i es' hes' i'
  refine norm _ _ (i', es') ⟨by simp only; omega, by omega, ?_⟩ (Wk.cut ⟨[], rfl⟩ (Nat.le_of_ble_eq_true rfl) rfl (by repeat' first | exact trivial | refine And.intro ?_ ?_ | rfl))
  simp only
  rw [hes', hes, ← hfs, List.map_set]; rfl
 have e : j = k0 := by omega
 subst e
 rw [Nat.sub_self] at hes
 simp only [List.replicate_zero, List.append_nil] at hes
 conv => cbv
 repeat' first | (refine ex _ _ _ ?_; (conv => cbv)) | (refine rt _ _ ?_; (conv => cbv)) | (refine call_fr [] hnew rfl rfl (by decide) trivial rfl rfl ?_; rintro r hc' ⟨rfl, rfl⟩; (conv => cbv)) | (intro (_ : Unit); first | omega | rfl | exact ⟨rfl, by omega⟩ | (simp only [nI_eq]; omega) | ((repeat' first | rfl | omega | refine And.intro ?_ ?_ | (simp only [nI_eq]; omega) | (simp only [List.length_cons, List.length_nil]; omega) | exact Nat.le_of_ble_eq_true rfl); done)) | exact trivial | refine And.intro ?_ ?_ | (intro hc; exact absurd hc (by decide)) | (intro hc; exfalso; omega) | (intro hc; (first | rw [wrap_small (by omega) (by omega)] at hc | rw [nI_eq] at hc | skip); try (conv => cbv))
 refine CallS.wk (.nilB 6 2 1 _ rfl rfl) ?_
 refine call_fr [6, 4, 5, 7] (hset hq0 (by simp) root r0 (by omega) 0) rfl rfl (by decide) (by repeat' first | exact trivial | refine And.intro ?_ ?_ | rfl) rfl rfl ?_
 rintro r hc' ⟨rfl, O1, q1, hO1⟩
 have q2 := q1
 obtain ⟨vo1, M1, ro1, ks1, tl1, ps1, es1, -, rfl, -⟩ := q2
 conv => cbv
 clear norm ex rt
 repeat' first | (intro (_ : Unit); first | omega | rfl | exact ⟨rfl, by omega⟩ | (simp only [nI_eq]; omega) | ((repeat' first | rfl | omega | refine And.intro ?_ ?_ | (simp only [nI_eq]; omega) | (simp only [List.length_cons, List.length_nil]; omega) | exact Nat.le_of_ble_eq_true rfl); done)) | exact trivial | refine And.intro ?_ ?_ | (intro hc; exact absurd hc (by decide)) | (intro hc; exfalso; omega) | (intro hc; (first | rw [wrap_small (by omega) (by omega)] at hc | rw [nI_eq] at hc | skip); try (conv => cbv))
 rw [show nodes.toNat = j by omega] at hKK
 have hst0 : QS j ((List.replicate j 0).set root.toNat 0) O1 (hpH vo1 j M1 ro1 ks1 ps1 es1) := q1
 have hdi : DI t down root fr (List.replicate j (-1)) ((List.replicate j 0).set root.toNat 0) (fun x => x ∈ O1) 0 fun _ => False := by
  refine DI.init (by omega) r0 r1 (by simp; omega) ?_ fun x => ?_
  ·rw [gt_setD r0 (by simp; omega) root r0, if_pos rfl]
  ·simp [hO1 x]
 refine loop_up j (fun (s : List (List D) × Nat × Nat × Bool × List (List D) × List (List D) × List (List D)) => [(1, .c (.ptr 2 0 0 0)), (3, .c (.arr 3 0 0 j)), (5, .c (.ptr 6 0 0 0))]) (fun s => [.bx [.d (.int .i64 nodes), .d (.list false 1 ol), .d (.list false 7 ll)], .bx [.d rD], .bx [.d (.int .i64 nodes), .d (.list false 1 ol), .d (.list false 7 ll), .d (.list false 1 dl), .d (.int .i64 root), .fn f1 [.ptr 1 0 0 0], .fn f2 [.ptr 0 0 0 0]], .da true 0 1 s.1, .da true 0 1 s.2.2.2.2.1, .da true 0 1 s.2.2.2.2.2.1, .bx [.arr 4 0 0 j, .arr 5 0 0 j, .arr 7 s.2.1 0 s.2.2.1], .da s.2.2.2.1 s.2.1 1 s.2.2.2.2.2.2])
  (fun c s => ∃ Dd K O last, s.1 = Dd.map encI ∧ c = cntD Dd ∧ QS j K O (hpH s.2.1 j s.2.2.1 s.2.2.2.1 s.2.2.2.2.1 s.2.2.2.2.2.1 s.2.2.2.2.2.2) ∧ DI t down root fr Dd K (fun x => x ∈ O) last fun _ => False) (es, vo1, M1, ro1, ks1, ps1, es1) (Wk.cut ⟨[], rfl⟩ (Nat.le_of_ble_eq_true rfl) rfl (by repeat' first | exact trivial | refine And.intro ?_ ?_ | rfl)) ⟨_, _, O1, 0, hes, by simp [cntD], hst0, hdi⟩ (fun c s ⟨Dd, K, O, last, _, hc, _, hd⟩ => by have := cnt_le Dd; have := hd.len; omega) ?_
 clear hst0 hdi q1 hq0 hes lel es hnew hO1
 rintro c ⟨Dl, vo, M, ro, ks, ps, eo⟩ Q' ⟨Dd, K, O, last, hDl, hc, q, di⟩ norm ex rt
 simp only at hDl q
 have hOl := q.len
 by_cases hO : O = []
 ·subst hO
  clear hset hpop hkey h1 h2 hover hdown hcost norm
  conv => cbv
  repeat' first | (refine ex _ _ _ ?_; (conv => cbv)) | (refine rt _ _ ?_; (conv => cbv)) | (refine call_fr [6, 4, 5, 7] (hpop0 q) rfl rfl (by decide) (by repeat' first | exact trivial | refine And.intro ?_ ?_ | rfl) rfl rfl ?_; rintro r hc' ⟨rfl, rfl⟩; (conv => cbv)) | (intro (_ : Unit); first | omega | rfl | exact ⟨rfl, by omega⟩ | (simp only [nI_eq]; omega) | ((repeat' first | rfl | omega | refine And.intro ?_ ?_ | (simp only [nI_eq]; omega) | (simp only [List.length_cons, List.length_nil]; omega) | exact Nat.le_of_ble_eq_true rfl); done)) | exact trivial | refine And.intro ?_ ?_ | (intro hc; exact absurd hc (by decide)) | (intro hc; exfalso; omega) | (intro hc; (first | rw [wrap_small (by omega) (by omega)] at hc | rw [nI_eq] at hc | skip); try (conv => cbv))
  rw [hDl]
  exact hKK _ _ ⟨Dd, _, _, _, _, _, di.dist (fun x hx => by cases hx) (fun _ h => h), rfl, rfl⟩
 ·have hpp := hpop q hO (by omega)
  have q0 := q.place (p := 0) (by cases O with | nil => exact absurd rfl hO | cons => simp)
  have hmem : at' O 0 ∈ O := by
   cases O with
   | nil => exact absurd rfl hO
   | cons a r => simp [at']
  have hmin : ∀ x, x ∈ O → gt K (at' O 0) ≤ gt K x := fun x hx => q.least hx
  generalize hnv : at' O 0 = n at *
  have dp := di.pop hv r0 hmem hmin
  obtain ⟨n0, n1, n2, n3⟩ := di.held n hmem
  generalize hkn : gt K n = kn at *
  have hkn0 : 0 ≤ kn := dp.l0
  have hkn1 : kn ≤ 65535 * 64 := by
   have h1 := dp.hi n n0 n1
   have h2 := cnt_le (Dd.set n.toNat kn)
   rw [gt_setD n0 (by rw [di.len]; exact n1) n n0, if_pos rfl] at h1
   rw [List.length_set] at h2
   have := di.len
   omega
  obtain ⟨ni, hni⟩ : ∃ i : Nat, (i : Int) = n := ⟨n.toNat, by omega⟩
  have lD := di.len
  have hDi : Dl[ni]? = some [iD (-1)] := by
   rw [hDl, encI_at (by omega), hni, n2]
  have lDl : Dl.length = j := by rw [hDl, List.length_map]; omega
  have h1n := h1 n n0 (by omega)
  have hov := hover n n0 (by omega)
  obtain ⟨ov, hov2⟩ : ∃ b, b = ovT t n := ⟨_, rfl⟩
  rw [← hov2] at hov
  obtain ⟨rw', hrw⟩ : ∃ l, l = rowG t (!fr) n (2 * t.links.length) := ⟨_, rfl⟩
  obtain ⟨rl, hrl⟩ : ∃ l, l = rw'.map encI := ⟨_, rfl⟩
  rw [← hrw] at h1n
  simp only [intsA, intsD] at h1n
  rw [← hrl] at h1n
  have lrl : Λ rl = rw'.length := by rw [Λo, hrl]; simp
  have lrw : rw'.length ≤ 2 * t.links.length := by rw [hrw, rowG]; exact Nat.le_trans (List.length_filter_le ..) (by simp [arcsTo])
  have hD2 : Dl.set ni [iD kn] = (Dd.set n.toNat kn).map encI := by rw [hDl, ← hni, encI_set]; rfl
  have hcn := cnt_set n0 (by rw [di.len]; exact n1) n2 hkn0
  obtain ⟨D2, hDD⟩ : ∃ l, l = Dl.set ni [iD kn] := ⟨_, rfl⟩
  rw [← hDD] at hD2
  have hDn : gt (Dd.set n.toNat kn) n = kn := by
   rw [gt_setD n0 (by rw [di.len]; exact n1) n n0, if_pos rfl]
  have hDr : gt (Dd.set n.toNat kn) root = 0 := by
   rw [gt_setD n0 (by rw [di.len]; exact n1) root r0]
   rcases di.root with h | ⟨g1, g2, g3, g4⟩
   ·rw [if_neg (by intro e; rw [e, n2] at h; omega)]; exact h
   ·rw [if_pos (g4 n hmem).symm, ← hkn, g4 n hmem]; exact g2
  generalize Dd.set n.toNat kn = Dq at *
  clear h1 hover hpop0 hpop hKK
  conv => cbv
  repeat' first | (refine ex _ _ _ ?_; (conv => cbv)) | (refine rt _ _ ?_; (conv => cbv)) | (refine call_fr [6, 4, 5, 7] hpp rfl rfl (by decide) (by repeat' first | exact trivial | refine And.intro ?_ ?_ | rfl) rfl rfl ?_; rintro r hc' ⟨rfl, O2, q2, hO2⟩; obtain ⟨vo2, M2, ro2, ks2, tl2, ps2, es2, hq3, rfl, hq4⟩ := id q2; (conv => cbv)) | (intro (k : Nat) hk; refine (fun (hz : ni = k) => ?_) ?_; rotate_left; omega; subst hz; (conv => cbv)) | (intro (e : List D) he; cases Option.some.inj (he.symm.trans hDi); (conv => cbv)) | (intro (x : List (List D)) (hx : x = Dl.set ni _); refine (fun (hz : D2 = x) => ?_) (hDD.trans hx.symm); subst hz; (conv => cbv)) | refine call_b hov rfl rfl ?_ ?_ | (intro (_ : Unit); first | omega | rfl | exact ⟨rfl, by omega⟩ | (simp only [nI_eq]; omega) | ((repeat' first | rfl | omega | refine And.intro ?_ ?_ | (simp only [nI_eq]; omega) | (simp only [List.length_cons, List.length_nil]; omega) | exact Nat.le_of_ble_eq_true rfl); done)) | exact trivial | refine And.intro ?_ ?_ | (intro hc; exact absurd hc (by decide)) | (intro hc; exfalso; omega) | (intro hc; (first | rw [wrap_small (by omega) (by omega)] at hc | rw [nI_eq] at hc | skip); try (conv => cbv))
  ·-- a node that is not passed on
   refine norm _ _ (D2, vo2, M2, ro2, ks2, ps2, es2) ⟨Dq, K.set n.toNat 0, O2, kn, hD2, by omega, q2, ?_⟩ (Wk.cut ⟨[], rfl⟩ (Nat.le_of_ble_eq_true rfl) rfl (by repeat' first | exact trivial | refine And.intro ?_ ?_ | rfl))
   rw [show (fun x => x ∈ O2) = fun x => x ∈ O ∧ x ≠ n from funext fun x => propext (hO2 x)]
   refine dp.skip fun a a0 a1 ho _ hp => ?_
   rw [okArc, transitB, hp, ← hov2, hc] at ho
   simp at ho
   exact absurd ho.2 (by assumption)
  ·exact hf1
  rotate_left
  ·exact hf1
  all_goals
   have htr : transitB t n root = true := by
    rw [transitB, ← hov2]
    first | (rw [hc]; simp; done) | simp [hc]
   refine callv_fr [0, 1] h1n rfl rfl (by decide) (by repeat' first | exact trivial | refine And.intro ?_ ?_ | rfl) rfl rfl ?_
   rintro r hc' ⟨rfl, rfl⟩
   conv => cbv
   have dq : DI t down root fr Dq (K.set n.toNat 0) (fun x => x ∈ O2) kn fun a => a ∈ rw'.drop 0 := by
    rw [show (fun x => x ∈ O2) = fun x => x ∈ O ∧ x ≠ n from funext fun x => propext (hO2 x)]
    refine dp.skip fun a a0 a1 _ _ hp => .inl ?_
    rw [hrw]
    exact mem_row hv a0 a1 (by rw [Bool.not_not]; exact hp)
   repeat' first | (intro (_ : Unit); first | omega | rfl | exact ⟨rfl, by omega⟩ | (simp only [nI_eq]; omega) | ((repeat' first | rfl | omega | refine And.intro ?_ ?_ | (simp only [nI_eq]; omega) | (simp only [List.length_cons, List.length_nil]; omega) | exact Nat.le_of_ble_eq_true rfl); done)) | exact trivial | refine And.intro ?_ ?_ | (intro hc; exact absurd hc (by decide)) | (intro hc; exfalso; omega) | (intro hc; (first | rw [wrap_small (by omega) (by omega)] at hc | rw [nI_eq] at hc | skip); try (conv => cbv))
   clear ex rt hc dp hO2 di q hmin hO hOl hDl hDi hpp hq4 h1n hov
   refine loop_up rw'.length (fun (s : Int × Nat × Nat × Bool × List (List D) × List (List D) × List (List D)) => [(1, .c (.ptr 2 0 0 0)), (3, .c (.arr 3 0 0 j)), (5, .c (.ptr 6 0 0 0)), (8, iA kn), (66, .c (.d (.list false 1 rl))), (67, iA (Λ rl)), (68, iA s.1)]) (fun s => [.bx [.d (.int .i64 nodes), .d (.list false 1 ol), .d (.list false 7 ll)], .bx [.d rD], .bx [.d (.int .i64 nodes), .d (.list false 1 ol), .d (.list false 7 ll), .d (.list false 1 dl), .d (.int .i64 root), .fn f1 [.ptr 1 0 0 0], .fn f2 [.ptr 0 0 0 0]], .da true 0 1 D2, .da true 0 1 s.2.2.2.2.1, .da true 0 1 s.2.2.2.2.2.1, .bx [.arr 4 0 0 j, .arr 5 0 0 j, .arr 7 s.2.1 0 s.2.2.1], .da s.2.2.2.1 s.2.1 1 s.2.2.2.2.2.2])
    (fun k s => s.1 = k ∧ k ≤ rw'.length ∧ ∃ K O, QS j K O (hpH s.2.1 j s.2.2.1 s.2.2.2.1 s.2.2.2.2.1 s.2.2.2.2.2.1 s.2.2.2.2.2.2) ∧ DI t down root fr Dq K (fun x => x ∈ O) kn fun a => a ∈ rw'.drop k) (0, vo2, M2, ro2, ks2, ps2, es2) (Wk.cut ⟨[], rfl⟩ (Nat.le_of_ble_eq_true rfl) rfl (by repeat' first | exact trivial | refine And.intro ?_ ?_ | rfl)) ⟨rfl, Nat.zero_le _, _, _, q2, dq⟩ (fun k s h => h.2.1) ?_
   clear dq q2 hq3 vo2 M2 ro2 ks2 ps2 es2 tl2 O2 hnv hkn hmem n2 n3 last K O
   rintro m ⟨i, vo2, M2, ro2, ks2, ps2, es2⟩ Q'' ⟨hi, hk, K, O, q, di⟩ nrm ex rt
   simp only at hi q
   by_cases hlt : m < rw'.length
   ·obtain ⟨a, ha⟩ : ∃ a, rw'[m]? = some a := ⟨_, List.getElem?_eq_getElem hlt⟩
    have hra : rl[i.toNat]? = some [iD a] := by rw [hi, Int.toNat_natCast, hrl, List.getElem?_map, ha]; rfl
    obtain ⟨a0, a1, ay⟩ := row_mem hv (hrw ▸ List.mem_of_getElem? ha)
    rw [Bool.not_not] at ay
    have xy := xy_facts hv fr a0 a1
    have af := arc_facts hv a0 a1
    have h2a := h2 a a0 a1
    have hda := hdown a (hd.imp id fun h => ⟨a0, by omega⟩)
    have hca := hcost a a0 a1
    obtain ⟨x, hx⟩ : ∃ x, x = xOf t fr a := ⟨_, rfl⟩
    obtain ⟨cs, hcs⟩ : ∃ x, x = costT t a := ⟨_, rfl⟩
    obtain ⟨up, hup⟩ : ∃ x, x = upB down a := ⟨_, rfl⟩
    rw [← hx] at h2a xy
    rw [← hcs] at hca af
    rw [← hup] at hda
    obtain ⟨xi, hxi⟩ : ∃ i : Nat, (i : Int) = x := ⟨x.toNat, by omega⟩
    have lq := di.len
    have hDx : D2[xi]? = some [iD (gt Dq x)] := by
     rw [hD2, encI_at (by omega), hxi]
    have lD2 : D2.length = j := by rw [hD2, List.length_map]; omega
    obtain ⟨dx, hdx⟩ : ∃ d, d = gt Dq x := ⟨_, rfl⟩
    rw [← hdx] at hDx
    have hky := hkey q x xy.1.1 (by omega)
    have hol2 := q.len
    have hs := hset q (by omega) x xy.1.1 (by omega) (kn + cs)
    obtain ⟨nk, hnk⟩ : ∃ y, y = kn + cs := ⟨_, rfl⟩
    rw [← hnk] at hs
    obtain ⟨kx, hkx⟩ : ∃ y, y = gt K x := ⟨_, rfl⟩
    rw [← hkx] at hky
    clear hset hkey h2 hdown hcost norm
    conv => cbv
    repeat' first | (refine ex _ _ _ ?_; (conv => cbv)) | (refine rt _ _ ?_; (conv => cbv)) | exact hf2 | (refine callv_fr [0, 1] h2a rfl rfl (by decide) (by repeat' first | exact trivial | refine And.intro ?_ ?_ | rfl) rfl rfl ?_; rintro r hc' ⟨rfl, rfl⟩; (conv => cbv)) | (intro (k : Nat) hk; refine (fun (hz : xi = k) => ?_) ?_; rotate_left; omega; subst hz; (conv => cbv)) | (intro (e : List D) he; cases Option.some.inj (he.symm.trans hra); (conv => cbv)) | (intro (e : List D) he; cases Option.some.inj (he.symm.trans hDx); (conv => cbv)) | refine call_b hda rfl rfl ?_ ?_ | refine call_i hca rfl rfl ?_ | (intro (k : Int) hk; rw [wrap_small (by omega) (by omega)] at hk; refine (fun (hz : nk = k) => ?_) ?_; rotate_left; omega; subst hz; (conv => cbv)) | (refine call_fr [6, 4, 5, 7] hky rfl rfl (by decide) (by repeat' first | exact trivial | refine And.intro ?_ ?_ | rfl) rfl rfl ?_; rintro r hc' ⟨⟨hin, rfl⟩ | ⟨hin, rfl⟩, rfl⟩ <;> (conv => cbv)) | (refine call_fr [6, 4, 5, 7] hs rfl rfl (by decide) (by repeat' first | exact trivial | refine And.intro ?_ ?_ | rfl) rfl rfl ?_; rintro r hc' ⟨rfl, O3, q3, hO3⟩; obtain ⟨vo3, M3, ro3, ks3, tl3, ps3, es3, -, rfl, -⟩ := id q3; (conv => cbv)) | (intro (_ : Unit); first | omega | rfl | exact ⟨rfl, by omega⟩ | (simp only [nI_eq]; omega) | ((repeat' first | rfl | omega | refine And.intro ?_ ?_ | (simp only [nI_eq]; omega) | (simp only [List.length_cons, List.length_nil]; omega) | exact Nat.le_of_ble_eq_true rfl); done)) | exact trivial | refine And.intro ?_ ?_ | (intro hc; exact absurd hc (by decide)) | (intro hc; exfalso; omega) | (intro hc; (first | rw [wrap_small (by omega) (by omega)] at hc | rw [nI_eq] at hc | skip); try (conv => cbv))
    ·rename_i i'
     refine nrm _ _ (i', vo2, M2, ro2, ks2, ps2, es2) ⟨by simp only; omega, by omega, K, O, q, di.skip fun b b0 b1 ho hy hb => ?_⟩ (Wk.cut ⟨[], rfl⟩ (Nat.le_of_ble_eq_true rfl) rfl (by repeat' first | exact trivial | refine And.intro ?_ ?_ | rfl))
     rcases drop_mem ha hb with e | hb
     ·exfalso
      rw [e, okArc, ← hup] at ho
      cases up <;> simp_all
     ·exact .inl hb
    ·rename_i i'
     refine nrm _ _ (i', vo2, M2, ro2, ks2, ps2, es2) ⟨by simp only; omega, by omega, K, O, q, di.skip fun b b0 b1 ho hy hb => ?_⟩ (Wk.cut ⟨[], rfl⟩ (Nat.le_of_ble_eq_true rfl) rfl (by repeat' first | exact trivial | refine And.intro ?_ ?_ | rfl))
     rcases drop_mem ha hb with e | hb
     ·refine .inr (.inl ?_)
      rw [e, ← hx, ay, hDn, ← hdx, ← hcs]
      have := di.past x xy.1.1 xy.1.2
      omega
     ·exact .inl hb
    rotate_left
    ·rename_i i'
     refine nrm _ _ (i', vo2, M2, ro2, ks2, ps2, es2) ⟨by simp only; omega, by omega, K, O, q, di.skip fun b b0 b1 ho hy hb => ?_⟩ (Wk.cut ⟨[], rfl⟩ (Nat.le_of_ble_eq_true rfl) rfl (by repeat' first | exact trivial | refine And.intro ?_ ?_ | rfl))
     rcases drop_mem ha hb with e | hb
     ·refine .inr (.inr ?_)
      rw [e, ← hx, ay, hDn, ← hcs]
      exact ⟨hin, by omega⟩
     ·exact .inl hb
    all_goals
     rename_i i'
     have hok : okArc t down root fr a = true := by
      rw [okArc, ay, htr, ← hup]
      cases up <;> simp_all
     have hxx : gt Dq (xOf t fr a) = -1 := by
      have := di.lo x xy.1.1 xy.1.2
      rw [← hx, ← hdx]; omega
     have ds := di.set hv hDr a0 a1 hok (by rw [ay]; exact hDn) hxx (by rw [← hx, ← hcs, ← hnk, ← hkx]; first | exact fun _ => by omega | exact fun h => absurd h hin)
     rw [← hx, ← hcs, ← hnk, show (fun y => y ∈ O ∨ y = x) = fun y => y ∈ O3 from funext fun y => propext (hO3 y).symm] at ds
     refine nrm _ _ (i', vo3, M3, ro3, ks3, ps3, es3) ⟨by simp only; omega, by omega, _, O3, q3, ds.skip fun b b0 b1 ho hy hb => ?_⟩ (Wk.cut ⟨[], rfl⟩ (Nat.le_of_ble_eq_true rfl) rfl (by repeat' first | exact trivial | refine And.intro ?_ ?_ | rfl))
     exact .inl ((drop_mem ha hb.1).resolve_left hb.2)
   have e : m = rw'.length := by omega
   subst e
   rw [List.drop_length] at di
   conv => cbv
   repeat' first | (refine ex _ _ _ ?_; (conv => cbv)) | (refine rt _ _ ?_; (conv => cbv)) | (intro (_ : Unit); first | omega | rfl | exact ⟨rfl, by omega⟩ | (simp only [nI_eq]; omega) | ((repeat' first | rfl | omega | refine And.intro ?_ ?_ | (simp only [nI_eq]; omega) | (simp only [List.length_cons, List.length_nil]; omega) | exact Nat.le_of_ble_eq_true rfl); done)) | exact trivial | refine And.intro ?_ ?_ | (intro hc; exact absurd hc (by decide)) | (intro hc; exfalso; omega) | (intro hc; (first | rw [wrap_small (by omega) (by omega)] at hc | rw [nI_eq] at hc | skip); try (conv => cbv))
   refine norm _ _ (D2, vo2, M2, ro2, ks2, ps2, es2) ⟨Dq, K, O, kn, hD2, by omega, q, di.skip fun a _ _ _ _ h => by cases h⟩ (Wk.cut ⟨[], rfl⟩ (Nat.le_of_ble_eq_true rfl) rfl (by repeat' first | exact trivial | refine And.intro ?_ ?_ | rfl))
end Go.Ab

/-
  Shortest paths, part c: the document's search.
-/
namespace Go.Ab
open Go.Proofs
noncomputable def searchS (t : Top) (down : List Bool) (n : Int) (fr : Bool) : List Int × Int :=
 if fitsB t down = true then (if 0 ≤ n ∧ n < t.nodes then (distS t down n fr, 0) else ([], 2)) else ([], 1)
theorem mid_start {t : Top} {down : List Bool} {n : Int} {fr : Bool} (h0 : 0 ≤ n) (h1 : n < t.nodes) : Mid t down n fr ((List.replicate t.nodes.toNat (-1)).set n.toNat 0) := by
 have hl : n < (List.replicate t.nodes.toNat (-1 : Int)).length := by simp; omega
 have hg : ∀ j, 0 ≤ j → j < t.nodes → gt ((List.replicate t.nodes.toNat (-1)).set n.toNat 0) j = if j = n then 0 else -1 := by
  intro j j0 j1
  rw [gt_set h0 hl j0]
  split
  ·rfl
  ·simp only [gt, List.getD_eq_getElem?_getD, List.getElem?_replicate]
   split <;> rfl
 refine ⟨by simp; omega, by rw [hg n h0 h1, if_pos rfl], fun i i0 i1 => ?_, fun i i0 i1 => ?_, fun x x0 x1 hx hd => ?_⟩
 ·rw [hg i i0 i1]; split <;> omega
 ·rw [hg i i0 i1]; split <;> omega
 ·rw [hg x x0 x1, if_neg hx] at hd; omega
end Go.Ab

/-
  The distances with a queue are those of the reference.
-/
namespace Go.Ab
open Go.Proofs
def chkS (t : Top) (down : List Bool) (n : Int) : Int := if fitsB t down = true then (if 0 ≤ n ∧ n < t.nodes then 0 else 2) else 1
theorem check_ok (P : Program) (hP : P = Try.prog) (t : Top) (down : List Bool) (n : Int) : Ret P n_spf_check [topA t, boolsA down, intsA [n]] (iA (chkS t down n)) := by
 refine ret_start (hP ▸ mixed) (hP ▸ fn_spf_check) (hP ▸ c_spf_check) (Nat.le_of_ble_eq_true rfl) fun Λ Λo K hK => ?_
 have hval := tvalid_ok P hP t
 have hfits := fun h => gfits_ok P hP t down (validT_spec.1 h).2.2.1
 have hnode := gnode_ok P hP t n
 clear hP
 have k1 : validT t = false → K (iA 1) := fun h => by rw [chkS, if_neg (by simp [fitsB, h])] at hK; exact hK
 have k2 : decide (down.length = 0 ∨ down.length = 2 * t.links.length) = false → K (iA 1) := fun h => by
  rw [chkS, if_neg (by simp [fitsB, Bool.decide_or, -decide_eq_true_eq] at h ⊢; intro _; simpa using h)] at hK; exact hK
 have k3 : validT t = true → decide (down.length = 0 ∨ down.length = 2 * t.links.length) = true → decide (0 ≤ n ∧ n < t.nodes) = true → K (iA 0) := fun h h1 h2 => by
  rw [chkS, if_pos (by rw [fitsB, h, ← Bool.decide_or, h1]; rfl), if_pos (of_decide_eq_true h2)] at hK; exact hK
 have k4 : validT t = true → decide (down.length = 0 ∨ down.length = 2 * t.links.length) = true → decide (0 ≤ n ∧ n < t.nodes) = false → K (iA 2) := fun h h1 h2 => by
  rw [chkS, if_pos (by rw [fitsB, h, ← Bool.decide_or, h1]; rfl), if_neg (of_decide_eq_false h2)] at hK; exact hK
 clear hK
 generalize validT t = va at *
 generalize decide (down.length = 0 ∨ down.length = 2 * t.links.length) = fb at *
 generalize decide (0 ≤ n ∧ n < t.nodes) = nb at *
 obtain ⟨nodes, ov, links⟩ := t
 simp only [topA, boolsD, linksD] at *
 generalize hol : ov.map encB = ol at *
 generalize hll : links.map encLk = ll at *
 have hlo : Λ ol = ov.length := by rw [Λo, ← hol]; simp
 have hls : Λ ll = links.length := by rw [Λo, ← hll]; simp
 simp only [boolsA, boolsD, intsA, intsD] at *
 generalize hdl : down.map encB = dl at *
 generalize hnl : List.map encI [n] = nl at *
 have lnl : Λ nl = 1 := by rw [Λo, ← hnl]; rfl
 conv => cbv
 repeat' first | refine call_b hval rfl rfl ?_ ?_ | refine call_b (hfits (by assumption)) rfl rfl ?_ ?_ | (intro (_ : Unit); first | omega | rfl | exact ⟨rfl, by omega⟩ | (simp only [nI_eq]; omega) | ((repeat' first | rfl | omega | refine And.intro ?_ ?_ | (simp only [nI_eq]; omega) | (simp only [List.length_cons, List.length_nil]; omega) | exact Nat.le_of_ble_eq_true rfl); done)) | exact trivial | refine And.intro ?_ ?_ | (intro hc; exact absurd hc (by decide)) | (intro hc; exfalso; omega) | (intro hc; (first | rw [wrap_small (by omega) (by omega)] at hc | rw [nI_eq] at hc | skip); try (conv => cbv))
 all_goals first | exact k1 (by assumption) | exact k2 (by assumption) | skip
 rename_i hva hfb
 have k3 := k3 hva hfb
 have k4 := k4 hva hfb
 clear hval hfits k1 k2
 refine loop_up 1 (fun (i : Int) => [(3, .c (.ptr 0 0 0 0)), (18, .c (.d (.list false 1 nl))), (19, iA (Λ nl)), (20, iA i)]) (fun _ => [.bx [.d (iD nodes), .d (.list false 1 ol), .d (.list false 7 ll)]]) (fun k i => i = k ∧ k ≤ 1 ∧ (k = 1 → nb = true)) 0 (Wk.cut ⟨[], rfl⟩ (Nat.le_of_ble_eq_true rfl) rfl (by repeat' first | exact trivial | refine And.intro ?_ ?_ | rfl)) ⟨rfl, by omega, fun h => by omega⟩ (fun k s h => h.2.1) ?_
 rintro k i Q' ⟨hi, hk, hd⟩ nrm ex rt
 by_cases hlt : k < 1
 ·have hx : nl[i.toNat]? = some [iD n] := by rw [hi, show k = 0 by omega, ← hnl]; rfl
  conv => cbv
  repeat' first | (refine ex _ _ _ ?_; (conv => cbv)) | (refine rt _ _ ?_; (conv => cbv)) | (intro (e : List D) he; cases Option.some.inj (he.symm.trans hx); (conv => cbv)) | refine call_b hnode rfl rfl ?_ ?_ | (intro (_ : Unit); first | omega | rfl | exact ⟨rfl, by omega⟩ | (simp only [nI_eq]; omega) | ((repeat' first | rfl | omega | refine And.intro ?_ ?_ | (simp only [nI_eq]; omega) | (simp only [List.length_cons, List.length_nil]; omega) | exact Nat.le_of_ble_eq_true rfl); done)) | exact trivial | refine And.intro ?_ ?_ | (intro hc; exact absurd hc (by decide)) | (intro hc; exfalso; omega) | (intro hc; (first | rw [wrap_small (by omega) (by omega)] at hc | rw [nI_eq] at hc | skip); try (conv => cbv))
  ·rename_i i'
   exact nrm _ _ i' ⟨by omega, by omega, fun _ => by assumption⟩ (Wk.cut ⟨[], rfl⟩ (Nat.le_of_ble_eq_true rfl) rfl (by repeat' first | exact trivial | refine And.intro ?_ ?_ | rfl))
  ·exact k4 (by assumption)
 have hn := hd (by omega)
 conv => cbv
 repeat' first | (refine ex _ _ _ ?_; (conv => cbv)) | (refine rt _ _ ?_; (conv => cbv)) | (intro (_ : Unit); first | omega | rfl | exact ⟨rfl, by omega⟩ | (simp only [nI_eq]; omega) | ((repeat' first | rfl | omega | refine And.intro ?_ ?_ | (simp only [nI_eq]; omega) | (simp only [List.length_cons, List.length_nil]; omega) | exact Nat.le_of_ble_eq_true rfl); done)) | exact trivial | refine And.intro ?_ ?_ | (intro hc; exact absurd hc (by decide)) | (intro hc; exfalso; omega) | (intro hc; (first | rw [wrap_small (by omega) (by omega)] at hc | rw [nI_eq] at hc | skip); try (conv => cbv))
 exact k3 hn
theorem rowsD_at {t : Top} {fr : Bool} {k : Nat} {n : Int} (h0 : 0 ≤ n) (h1 : n < t.nodes) : (((List.range t.nodes.toNat).map fun (n : Nat) => rowG t fr (n : Int) k).map encRow)[n.toNat]? = some [intsD (rowG t fr n k)] := by
 rw [List.getElem?_map, List.getElem?_map, List.getElem?_range (by omega)]
 simp only [Option.map_some, encRow]
 rw [Int.toNat_of_nonneg h0]
theorem dist1_ok (P : Program) (hP : P = Try.prog) (t : Top) (fr : Bool) (n : Int) (h0 : 0 ≤ n) (h1 : n < t.nodes) :
  FnS P n_spf_Dist_1 [iA n, .c (.ptr 1 0 0 0)] (h2H t (.list false 1 (((List.range t.nodes.toNat).map fun (n : Nat) => rowG t fr (n : Int) (2 * t.links.length)).map encRow))) fun r h' =>
   r = intsA (rowG t fr n (2 * t.links.length)) ∧ h' = h2H t (.list false 1 (((List.range t.nodes.toNat).map fun (n : Nat) => rowG t fr (n : Int) (2 * t.links.length)).map encRow)) := by
 refine heap_start (hP ▸ mixed) (hP ▸ fn_spf_Dist_1) (hP ▸ c_spf_Dist_1) (Nat.le_of_ble_eq_true rfl) fun Λ Λo K hK => ?_
 clear hP
 have hx := rowsD_at (t := t) (fr := fr) (k := 2 * t.links.length) h0 h1
 have hl : Λ (((List.range t.nodes.toNat).map fun (n : Nat) => rowG t fr (n : Int) (2 * t.links.length)).map encRow) = t.nodes.toNat := by rw [Λo]; simp
 generalize ((List.range t.nodes.toNat).map fun (n : Nat) => rowG t fr (n : Int) (2 * t.links.length)).map encRow = rl at *
 obtain ⟨w, hw⟩ : ∃ w, w = rowG t fr n (2 * t.links.length) := ⟨_, rfl⟩
 obtain ⟨wl, hwl⟩ : ∃ l, l = w.map encI := ⟨_, rfl⟩
 rw [← hw] at hx hK
 obtain ⟨nodes, hN⟩ : ∃ x, x = t.nodes := ⟨_, rfl⟩
 obtain ⟨ol, hol⟩ : ∃ x, x = t.ov.map encB := ⟨_, rfl⟩
 obtain ⟨ll, hll⟩ : ∃ x, x = t.links.map encLk := ⟨_, rfl⟩
 simp only [h2H, intsA, intsD, boolsD, linksD, ← hN, ← hol, ← hll, ← hwl] at hK hx ⊢
 conv => cbv
 repeat' first | (intro (e : List D) he; cases Option.some.inj (he.symm.trans hx); (conv => cbv)) | (intro (_ : Unit); first | omega | rfl | exact ⟨rfl, by omega⟩ | (simp only [nI_eq]; omega) | ((repeat' first | rfl | omega | refine And.intro ?_ ?_ | (simp only [nI_eq]; omega) | (simp only [List.length_cons, List.length_nil]; omega) | exact Nat.le_of_ble_eq_true rfl); done)) | exact trivial | refine And.intro ?_ ?_ | (intro hc; exact absurd hc (by decide)) | (intro hc; exfalso; omega) | (intro hc; (first | rw [wrap_small (by omega) (by omega)] at hc | rw [nI_eq] at hc | skip); try (conv => cbv))
 exact hK _ _ ⟨rfl, rfl⟩
theorem dist2_ok (P : Program) (hP : P = Try.prog) (t : Top) (hv : validT t = true) (rD : D) (a : Int) (h0 : 0 ≤ a) (h1 : a < 2 * t.links.length) : FnS P n_spf_Dist_2 [iA a, .c (.ptr 0 0 0 0)] (h2H t rD) fun r h' => r = iA (xOf t false a) ∧ h' = h2H t rD := by
 refine heap_start (hP ▸ mixed) (hP ▸ fn_spf_Dist_2) (hP ▸ c_spf_Dist_2) (Nat.le_of_ble_eq_true rfl) fun Λ Λo K hK => ?_
 have ht := gtail_ok P hP t a h0 h1 (validT_spec.1 hv).2.2.1
 have ha : arcsT t = 2 * t.links.length := by rw [arcsT, if_pos hv]
 have hx : xOf t false a = tailG t a := by
  rw [xOf, if_neg (by decide), tailT, tailG, if_pos ⟨h0, by omega⟩]
 rw [hx] at hK
 clear hP
 generalize tailG t a = v at *
 obtain ⟨nodes, hN⟩ : ∃ x, x = t.nodes := ⟨_, rfl⟩
 obtain ⟨ol, hol⟩ : ∃ x, x = t.ov.map encB := ⟨_, rfl⟩
 obtain ⟨ll, hll⟩ : ∃ x, x = t.links.map encLk := ⟨_, rfl⟩
 simp only [h2H, topA, boolsD, linksD, ← hN, ← hol, ← hll] at hK ht ⊢
 conv => cbv
 repeat' first | refine call_i ht rfl rfl ?_ | (intro (_ : Unit); first | omega | rfl | exact ⟨rfl, by omega⟩ | (simp only [nI_eq]; omega) | ((repeat' first | rfl | omega | refine And.intro ?_ ?_ | (simp only [nI_eq]; omega) | (simp only [List.length_cons, List.length_nil]; omega) | exact Nat.le_of_ble_eq_true rfl); done)) | exact trivial | refine And.intro ?_ ?_ | (intro hc; exact absurd hc (by decide)) | (intro hc; exfalso; omega) | (intro hc; (first | rw [wrap_small (by omega) (by omega)] at hc | rw [nI_eq] at hc | skip); try (conv => cbv))
 exact hK _ _ ⟨by (first | rfl | (simp only [*]; rfl)), rfl⟩
theorem sdist_ok (P : Program) (hP : P = Try.prog) (t : Top) (down : List Bool) (n : Int) : Ret P n_spf_Dist [topA t, boolsA down, iA n] (.tup [intsA (searchS t down n false).1, iA (searchS t down n false).2]) := by
 refine ret_start (hP ▸ mixed) (hP ▸ fn_spf_Dist) (hP ▸ c_spf_Dist) (Nat.le_of_ble_eq_true rfl) fun Λ Λo K hK => ?_
 have hchk := check_ok P hP t down n
 have hent := entering_ok P hP t
 have hrun := fun (hv : validT t = true) hd r0 r1 => srun_ok P hP t hv down hd n r0 r1 false n_spf_Dist_1 n_spf_Dist_2 (.list false 1 (((List.range t.nodes.toNat).map fun (n : Nat) => rowG t true (n : Int) (2 * t.links.length)).map encRow)) (hP ▸ ⟨_, fn_spf_Dist_1, rfl, by decide⟩) (hP ▸ ⟨_, fn_spf_Dist_2, rfl, by decide⟩) (dist1_ok P hP t true) (dist2_ok P hP t hv _)
 clear hP
 by_cases hf : fitsB t down = true
 ·obtain ⟨hv, hd⟩ : validT t = true ∧ (down.length = 0 ∨ down.length = 2 * t.links.length) := by
   simpa [fitsB] using hf
  by_cases hn : 0 ≤ n ∧ n < t.nodes
  ·have hrun := hrun hv hd hn.1 hn.2
   have hent := hent hv
   rw [chkS, if_pos hf, if_pos hn] at hchk
   have k1 : ∀ D, IsDist t down n false D → K (.tup [intsA D, iA 0]) := fun D h => by
    rw [searchS, if_pos hf, if_pos hn, distS_eq hv h] at hK; exact hK
   clear hK
   generalize ((List.range t.nodes.toNat).map fun (n : Nat) => rowG t true (n : Int) (2 * t.links.length)) = rws at *
   obtain ⟨nn, hnn⟩ : ∃ x : Nat, x = t.nodes.toNat := ⟨_, rfl⟩
   obtain ⟨nodes, hN⟩ : ∃ x, x = t.nodes := ⟨_, rfl⟩
   obtain ⟨ol, hol⟩ : ∃ x, x = t.ov.map encB := ⟨_, rfl⟩
   obtain ⟨ll, hll⟩ : ∃ x, x = t.links.map encLk := ⟨_, rfl⟩
   obtain ⟨dl, hdl⟩ : ∃ x, x = down.map encB := ⟨_, rfl⟩
   obtain ⟨wl, hwl⟩ : ∃ x, x = rws.map encRow := ⟨_, rfl⟩
   simp only [h2H, topA, boolsA, boolsD, linksD, intsA, intsD, rowsA, ← hN, ← hol, ← hll, ← hdl, ← hwl] at hchk hent hrun k1 ⊢
   simp only [hN, ← hnn] at hrun
   simp only [← hN] at hrun
   clear hol hll hdl hwl
   conv => cbv
   repeat' first | (intro (_ : Unit); first | omega | rfl | exact ⟨rfl, by omega⟩ | (simp only [nI_eq]; omega) | ((repeat' first | rfl | omega | refine And.intro ?_ ?_ | (simp only [nI_eq]; omega) | (simp only [List.length_cons, List.length_nil]; omega) | exact Nat.le_of_ble_eq_true rfl); done)) | exact trivial | refine And.intro ?_ ?_ | (intro hc; exact absurd hc (by decide)) | (intro hc; exfalso; omega) | (intro hc; (first | rw [wrap_small (by omega) (by omega)] at hc | rw [nI_eq] at hc | skip); try (conv => cbv))
   (refine call_z 1 0 1 1 rfl rfl (by repeat' first | exact trivial | refine And.intro ?_ ?_ | rfl) (by repeat' first | exact trivial | refine And.intro ?_ ?_ | rfl) ?_; conv => cbv)
   repeat' first | (refine call_r hchk rfl rfl ?_; conv => cbv) | (refine call_r hent rfl rfl ?_; conv => cbv) | (intro (_ : Unit); first | omega | rfl | exact ⟨rfl, by omega⟩ | (simp only [nI_eq]; omega) | ((repeat' first | rfl | omega | refine And.intro ?_ ?_ | (simp only [nI_eq]; omega) | (simp only [List.length_cons, List.length_nil]; omega) | exact Nat.le_of_ble_eq_true rfl); done)) | exact trivial | refine And.intro ?_ ?_ | (intro hc; exact absurd hc (by decide)) | (intro hc; exfalso; omega) | (intro hc; (first | rw [wrap_small (by omega) (by omega)] at hc | rw [nI_eq] at hc | skip); try (conv => cbv))
   refine call_fr [0, 2] hrun rfl rfl (by decide) (by repeat' first | exact trivial | refine And.intro ?_ ?_ | rfl) rfl rfl ?_
   rintro r hc' ⟨D, q0, q1, q2, q3, q4, hD, rfl, rfl⟩
   have k1 := k1 D hD
   have hl := hD.len
   have hnl : nn = (D.map encI).length := by rw [List.length_map]; omega
   generalize D.map encI = es at *
   conv => cbv
   refine ⟨fun _ => rfl, fun ls hls => ?_⟩
   rw [List.drop_zero, hnl, List.take_length] at hls
   subst hls
   exact k1
  ·rw [chkS, if_pos hf, if_neg hn] at hchk
   rw [searchS, if_pos hf, if_neg hn] at hK
   clear hrun hent
   obtain ⟨nodes, ov, links⟩ := t
   simp only [topA, boolsD, linksD] at *
   generalize hol : ov.map encB = ol at *
   generalize hll : links.map encLk = ll at *
   have hlo : Λ ol = ov.length := by rw [Λo, ← hol]; simp
   have hls : Λ ll = links.length := by rw [Λo, ← hll]; simp
   simp only [boolsA, boolsD, intsA, intsD] at *
   generalize hdl : down.map encB = dl at *
   conv => cbv
   repeat' first | (intro (_ : Unit); first | omega | rfl | exact ⟨rfl, by omega⟩ | (simp only [nI_eq]; omega) | ((repeat' first | rfl | omega | refine And.intro ?_ ?_ | (simp only [nI_eq]; omega) | (simp only [List.length_cons, List.length_nil]; omega) | exact Nat.le_of_ble_eq_true rfl); done)) | exact trivial | refine And.intro ?_ ?_ | (intro hc; exact absurd hc (by decide)) | (intro hc; exfalso; omega) | (intro hc; (first | rw [wrap_small (by omega) (by omega)] at hc | rw [nI_eq] at hc | skip); try (conv => cbv))
   (refine call_z 1 0 1 1 rfl rfl (by repeat' first | exact trivial | refine And.intro ?_ ?_ | rfl) (by repeat' first | exact trivial | refine And.intro ?_ ?_ | rfl) ?_; conv => cbv)
   repeat' first | (refine call_r hchk rfl rfl ?_; conv => cbv) | (intro (_ : Unit); first | omega | rfl | exact ⟨rfl, by omega⟩ | (simp only [nI_eq]; omega) | ((repeat' first | rfl | omega | refine And.intro ?_ ?_ | (simp only [nI_eq]; omega) | (simp only [List.length_cons, List.length_nil]; omega) | exact Nat.le_of_ble_eq_true rfl); done)) | exact trivial | refine And.intro ?_ ?_ | (intro hc; exact absurd hc (by decide)) | (intro hc; exfalso; omega) | (intro hc; (first | rw [wrap_small (by omega) (by omega)] at hc | rw [nI_eq] at hc | skip); try (conv => cbv))
   exact hK
 ·rw [chkS, if_neg hf] at hchk
  rw [searchS, if_neg hf] at hK
  clear hrun hent
  obtain ⟨nodes, ov, links⟩ := t
  simp only [topA, boolsD, linksD] at *
  generalize hol : ov.map encB = ol at *
  generalize hll : links.map encLk = ll at *
  have hlo : Λ ol = ov.length := by rw [Λo, ← hol]; simp
  have hls : Λ ll = links.length := by rw [Λo, ← hll]; simp
  simp only [boolsA, boolsD, intsA, intsD] at *
  generalize hdl : down.map encB = dl at *
  conv => cbv
  repeat' first | (intro (_ : Unit); first | omega | rfl | exact ⟨rfl, by omega⟩ | (simp only [nI_eq]; omega) | ((repeat' first | rfl | omega | refine And.intro ?_ ?_ | (simp only [nI_eq]; omega) | (simp only [List.length_cons, List.length_nil]; omega) | exact Nat.le_of_ble_eq_true rfl); done)) | exact trivial | refine And.intro ?_ ?_ | (intro hc; exact absurd hc (by decide)) | (intro hc; exfalso; omega) | (intro hc; (first | rw [wrap_small (by omega) (by omega)] at hc | rw [nI_eq] at hc | skip); try (conv => cbv))
  (refine call_z 1 0 1 1 rfl rfl (by repeat' first | exact trivial | refine And.intro ?_ ?_ | rfl) (by repeat' first | exact trivial | refine And.intro ?_ ?_ | rfl) ?_; conv => cbv)
  repeat' first | (refine call_r hchk rfl rfl ?_; conv => cbv) | (intro (_ : Unit); first | omega | rfl | exact ⟨rfl, by omega⟩ | (simp only [nI_eq]; omega) | ((repeat' first | rfl | omega | refine And.intro ?_ ?_ | (simp only [nI_eq]; omega) | (simp only [List.length_cons, List.length_nil]; omega) | exact Nat.le_of_ble_eq_true rfl); done)) | exact trivial | refine And.intro ?_ ?_ | (intro hc; exact absurd hc (by decide)) | (intro hc; exfalso; omega) | (intro hc; (first | rw [wrap_small (by omega) (by omega)] at hc | rw [nI_eq] at hc | skip); try (conv => cbv))
  exact hK
end Go.Ab

/-
  Shortest paths, part d: next arcs, routes.
-/
namespace Go.Ab
open Go.Proofs
def onB (t : Top) (down : List Bool) (D : List Int) (a d : Int) : Bool :=
 upB down a && !decide (tailT t a = d) && decide (0 ≤ gt D (headT t a)) && transitB t (headT t a) d && decide (gt D (tailT t a) = gt D (headT t a) + costT t a)
def nextL (t : Top) (down : List Bool) (D : List Int) (n d : Int) : List Int := (arcsTo (2 * t.links.length)).filter fun a => decide (tailT t a = n) && onB t down D a d
theorem mid_end {t : Top} (hv : validT t = true) {down : List Bool} {e : Int} {fr : Bool} : ∀ (m : Nat) (D : List Int), msr D = m → Mid t down e fr D → ∃ D', Mid t down e fr D' ∧ ∀ a : Int, 0 ≤ a → a < 2 * t.links.length → fixAt t down e fr D' a := by
 intro m
 induction m using Nat.strongRecOn with
 | _ m ih =>
  intro D hm hD
  by_cases h : ∀ a : Int, 0 ≤ a → a < 2 * t.links.length → fixAt t down e fr D a
  ·exact ⟨D, hD, h⟩
  ·simp only [Classical.not_forall] at h
   obtain ⟨a, a0, a1, ha⟩ := h
   simp only [fixAt, Classical.not_forall] at ha
   obtain ⟨ho, hy, hn⟩ := ha
   obtain ⟨s1, s2⟩ := hD.step hv a0 a1 ho hy (by omega)
   exact ih _ (by omega) _ rfl s1
theorem distS_spec {t : Top} (hv : validT t = true) (down : List Bool) {n : Int} (fr : Bool) (h0 : 0 ≤ n) (h1 : n < t.nodes) : IsDist t down n fr (distS t down n fr) ∧ ∀ i, 0 ≤ i → i < t.nodes → -1 ≤ gt (distS t down n fr) i ∧ gt (distS t down n fr) i ≤ 4194240 := by
 obtain ⟨D, hD, hf⟩ := mid_end hv _ _ rfl (mid_start (t := t) (down := down) (n := n) (fr := fr) h0 h1)
 have hd := hD.dist hf
 rw [distS_eq hv hd]
 exact ⟨hd, fun i i0 i1 => ⟨hd.lo i i0 i1, hD.le hv i0 i1⟩⟩
noncomputable def nextS (t : Top) (down : List Bool) (n d : Int) : List Int × Int :=
 if fitsB t down = true then (if 0 ≤ d ∧ d < t.nodes then (if 0 ≤ n ∧ n < t.nodes then (nextL t down (distS t down d false) n d, 0) else ([], 2)) else ([], 2)) else ([], 1)
end Go.Ab

/-
  The arcs with which shortest paths begin, as the program finds them.
-/
namespace Go.Ab
open Go.Proofs
theorem gout_ok (P : Program) (hP : P = Try.prog) (t : Top) (n : Int) (hv : validT t = true) : Ret P n_graph_Out [topA t, iA n] (intsA (rowG t false n (2 * t.links.length))) := by
 refine ret_start (hP ▸ mixed) (hP ▸ fn_graph_Out) (hP ▸ c_graph_Out) (Nat.le_of_ble_eq_true rfl) fun Λ Λo K hK => ?_
 have hw := garcs_ok P hP t (validT_spec.1 hv).2.2.1
 have ht := fun a h0 h1 => gtail_ok P hP t a h0 h1 (validT_spec.1 hv).2.2.1
 clear hP
 have hl2 := (validT_spec.1 hv).2.2.1
 have ho : rowG t false n (2 * t.links.length) = (arcsTo (2 * t.links.length)).filter fun a => decide (tailG t a = n) := rfl
 rw [ho] at hK
 clear ho
 generalize hf : tailG t = f at *
 generalize hv3 : 2 * t.links.length = v at *
 have hw' : Ret P n_graph_Arcs [topA t] (iA (v : Int)) := by rw [← hv3]; exact hw
 have ht' : ∀ a : Int, 0 ≤ a → a < v → Ret P n_graph_Tail [topA t, iA a] (iA (f a)) := fun a h0 h1 => ht a h0 (by omega)
 clear hw ht
 obtain ⟨nodes, ov, links⟩ := t
 simp only [topA, boolsD, linksD] at *
 generalize hol : ov.map encB = ol at *
 generalize hll : links.map encLk = ll at *
 have hlo : Λ ol = ov.length := by rw [Λo, ← hol]; simp
 have hls : Λ ll = links.length := by rw [Λo, ← hll]; simp
 simp only [intsA, intsD] at hK
 conv => cbv
 repeat' first | refine call_i hw' rfl rfl ?_ | (intro (_ : Unit); first | omega | rfl | exact ⟨rfl, by omega⟩ | (simp only [nI_eq]; omega) | ((repeat' first | rfl | omega | refine And.intro ?_ ?_ | (simp only [nI_eq]; omega) | (simp only [List.length_cons, List.length_nil]; omega) | exact Nat.le_of_ble_eq_true rfl); done)) | exact trivial | refine And.intro ?_ ?_ | (intro hc; exact absurd hc (by decide)) | (intro hc; exfalso; omega) | (intro hc; (first | rw [wrap_small (by omega) (by omega)] at hc | rw [nI_eq] at hc | skip); try (conv => cbv))
 rename_i v'
 refine loop_up v (fun (s : Int × Nat × Nat × Bool × List (List D)) => [(1, iA n), (2, .c (.ptr 0 0 0 0)), (5, .c (.arr 1 s.2.1 0 s.2.2.1)), (8, iA v'), (9, iA s.1)]) (fun s => [.bx [.d (.int .i64 nodes), .d (.list false 1 ol), .d (.list false 7 ll)], .da s.2.2.2.1 s.2.1 1 s.2.2.2.2])
  (fun k s => s.1 = k ∧ k ≤ v ∧ s.2.2.1 = s.2.2.2.2.length ∧ s.2.2.2.2 = (((arcsTo k).filter fun a => decide (f a = n)).map encI)) (0, 0, 0, false, []) (.trans (.nilS 5 1 rfl) (Wk.cut ⟨_, rfl⟩ (Nat.zero_le _) rfl (by repeat' first | exact trivial | refine And.intro ?_ ?_ | rfl))) ⟨rfl, by omega, rfl, rfl⟩ (fun k s h => h.2.1) ?_
 rintro k ⟨i, ve, m, r, es⟩ Q' ⟨hi, hk, hm, hes⟩ norm ex rt
 simp only at hi hm hes
 have hesl : es.length ≤ k := by
  rw [hes, List.length_map]
  refine Nat.le_trans (List.length_filter_le _ _) ?_
  simp [arcsTo]
 conv => cbv
 repeat' first | (refine ex _ _ _ ?_; (conv => cbv)) | (refine rt _ _ ?_; (conv => cbv)) | refine call_i (ht' _ (by omega) (by omega)) rfl rfl ?_ | (intro (_ : Unit); refine ⟨rfl, ?_⟩; simp only [List.length_cons, List.length_nil]; omega) | (intro (_ : Unit); first | omega | rfl | exact ⟨rfl, by omega⟩ | (simp only [nI_eq]; omega) | ((repeat' first | rfl | omega | refine And.intro ?_ ?_ | (simp only [nI_eq]; omega) | (simp only [List.length_cons, List.length_nil]; omega) | exact Nat.le_of_ble_eq_true rfl); done)) | exact trivial | refine And.intro ?_ ?_ | (intro hc; exact absurd hc (by decide)) | (intro hc; exfalso; omega) | (intro hc; (first | rw [wrap_small (by omega) (by omega)] at hc | rw [nI_eq] at hc | skip); try (conv => cbv))
 ·rename_i hfi hn m' r' es' hm' hr' he' i'
  refine norm _ _ (_, _, _, _, _) ?_ (Wk.cut ⟨_, rfl⟩ (Nat.zero_le _) rfl (by repeat' first | exact trivial | refine And.intro ?_ ?_ | rfl))
  have e : es' = ((arcsTo (k + 1)).filter fun a => decide (f a = n)).map encI := by
   rw [he', List.drop_zero, hm, List.take_length, hes, arcsTo_succ, List.filter_append, List.map_append]
   rw [← hi, List.filter_cons_of_pos (by simp only [decide_eq_true_eq]; omega)]; rfl
  exact ⟨by simp only; omega, by omega, by simp only; rw [hm', he', List.drop_zero, hm, List.take_length]; simp, e⟩
 ·rename_i hfi hn i'
  refine norm _ _ (_, _, _, _, _) ?_ (Wk.cut ⟨_, rfl⟩ (Nat.zero_le _) rfl (by repeat' first | exact trivial | refine And.intro ?_ ?_ | rfl))
  have e : es = ((arcsTo (k + 1)).filter fun a => decide (f a = n)).map encI := by
   rw [hes, arcsTo_succ, List.filter_append, List.map_append]
   rw [← hi, List.filter_cons_of_neg (by simp only [decide_eq_true_eq]; omega)]; simp
  exact ⟨by simp only; omega, by omega, hm, e⟩
 ·rename_i ls
  have e : ls = ((arcsTo v).filter fun a => decide (f a = n)).map encI := by
   rw [hc, List.drop_zero, hm, List.take_length, hes, show k = v by omega]
  subst e
  exact hK
def stepB (t : Top) (down : List Bool) (D : List Int) (n d a : Int) : Bool :=
 upB down a && decide (0 ≤ gt D (headT t a)) && transitB t (headT t a) d && decide (gt D (headT t a) + costT t a = gt D n)
def sucL (t : Top) (down : List Bool) (D A : List Int) (n d : Int) : List Int := if n = d ∨ gt D n < 0 then [] else A.filter (stepB t down D n d)
theorem headG_T {t : Top} (hv : validT t = true) {a : Int} (h0 : 0 ≤ a) (h1 : a < 2 * t.links.length) : headG t a = headT t a := by
 rw [headT, headG, arcsT, if_pos hv, if_pos (show 0 ≤ a ∧ a < 2 * (t.links.length : Int) from ⟨h0, h1⟩)]
theorem tailG_T {t : Top} (hv : validT t = true) {a : Int} (h0 : 0 ≤ a) (h1 : a < 2 * t.links.length) : tailG t a = tailT t a := by
 rw [tailT, tailG, arcsT, if_pos hv, if_pos (show 0 ≤ a ∧ a < 2 * (t.links.length : Int) from ⟨h0, h1⟩)]
theorem sucL_next {t : Top} (hv : validT t = true) {down : List Bool} {D : List Int} {n d : Int} : sucL t down D (rowG t false n (2 * t.links.length)) n d = nextL t down D n d := by
 have hc : ∀ a : Int, 0 ≤ a → a < 2 * t.links.length → 1 ≤ costT t a := fun a h0 h1 => (arc_facts hv h0 h1).2.2.2.1
 have hr : ∀ a ∈ arcsTo (2 * t.links.length), 0 ≤ a ∧ a < 2 * t.links.length := fun a ha => by
  simp only [arcsTo, List.mem_map, List.mem_range] at ha
  obtain ⟨k, hk, rfl⟩ := ha
  omega
 rw [sucL, nextL, rowG]
 split
 ·rename_i h
  refine (List.filter_eq_nil_iff.2 fun a ha => ?_).symm
  obtain ⟨h0, h1⟩ := hr a ha
  have := hc a h0 h1
  simp only [onB, Bool.and_eq_true, decide_eq_true_eq, Bool.not_eq_true', decide_eq_false_iff_not]
  rintro ⟨e, ⟨⟨⟨⟨_, h2⟩, h3⟩, _⟩, h5⟩⟩
  rw [e] at h2 h5
  rcases h with h | h
  ·exact h2 h
  ·omega
 ·rename_i h
  rw [List.filter_filter]
  refine List.filter_congr fun a ha => ?_
  obtain ⟨h0, h1⟩ := hr a ha
  rw [endG, if_neg (by decide), tailG_T hv h0 h1, stepB, onB]
  by_cases e : tailT t a = n
  ·rw [e, decide_eq_true rfl, decide_eq_false (p := n = d) (fun h' => h (.inl h'))]
   rw [show decide (gt D n = gt D (headT t a) + costT t a) = decide (gt D (headT t a) + costT t a = gt D n) from decide_eq_decide.2 eq_comm]
   cases upB down a <;> simp
  ·rw [decide_eq_false e]; simp
set_option maxHeartbeats 2000000 in
theorem dnext_ok (P : Program) (hP : P = Try.prog) (t : Top) (down : List Bool) (E A : List Int) (n d : Int) (hv : validT t = true) (hd : down.length = 0 ∨ down.length = 2 * t.links.length) (hl : (E.length : Int) = t.nodes)
  (hb : ∀ i, 0 ≤ i → i < t.nodes → -1 ≤ gt E i ∧ gt E i ≤ 4194240) (n0 : 0 ≤ n) (n1 : n < t.nodes) (hA : ∀ a ∈ A, 0 ≤ a ∧ a < 2 * t.links.length) (hAl : A.length ≤ 512) : Ret P n_dag_next [topA t, boolsA down, intsA E, intsA A, iA n, iA d] (intsA (sucL t down E A n d)) := by
 refine ret_start (hP ▸ mixed) (hP ▸ fn_dag_next) (hP ▸ c_dag_next) (Nat.le_of_ble_eq_true rfl) fun Λ Λo K hK => ?_
 have hhead := fun a h0 h1 => ghead_ok P hP t a h0 h1 (validT_spec.1 hv).2.2.1
 have hdown := fun a h => gdown_ok P hP down a h
 have hover := fun x h0 h1 => gover_ok P hP t x hv h0 h1
 have hcost := fun a h0 h1 => gcost_ok P hP t a hv h0 h1
 clear hP
 obtain ⟨nodes, hN⟩ : ∃ x, x = t.nodes := ⟨_, rfl⟩
 obtain ⟨ol, hol⟩ : ∃ x, x = t.ov.map encB := ⟨_, rfl⟩
 obtain ⟨ll, hll⟩ : ∃ x, x = t.links.map encLk := ⟨_, rfl⟩
 obtain ⟨dl, hdl⟩ : ∃ x, x = down.map encB := ⟨_, rfl⟩
 obtain ⟨es, hes⟩ : ∃ x, x = E.map encI := ⟨_, rfl⟩
 obtain ⟨al, hal⟩ : ∃ x, x = A.map encI := ⟨_, rfl⟩
 have lal : Λ al = A.length := by rw [Λo, hal]; simp
 have les : Λ es = E.length := by rw [Λo, hes]; simp
 have eat : ∀ x : Int, 0 ≤ x → x < t.nodes → es[x.toNat]? = some [iD (gt E x)] := fun x hx hlt => by
  rw [hes, encI_at (by omega), Int.toNat_of_nonneg hx]
 have hen := eat n n0 n1
 have hbn := hb n n0 n1
 have k1 : (n = d ∨ gt E n < 0) → K (intsA []) := fun h => by rw [sucL, if_pos h] at hK; exact hK
 have k2 : ¬ (n = d ∨ gt E n < 0) → K (intsA (A.filter (stepB t down E n d))) := fun h => by rw [sucL, if_neg h] at hK; exact hK
 clear hK
 simp only [topA, boolsA, boolsD, linksD, intsA, intsD, ← hN, ← hol, ← hll, ← hdl, ← hes, ← hal] at hhead hdown hover hcost k1 k2 ⊢
 clear hol hll hdl
 obtain ⟨dn, hdn⟩ : ∃ x, x = gt E n := ⟨_, rfl⟩
 rw [← hdn] at hbn k1 k2 hen
 conv => cbv
 repeat' first | (intro (e : List D) he; cases Option.some.inj (he.symm.trans hen); (conv => cbv)) | (intro (_ : Unit); first | omega | rfl | exact ⟨rfl, by omega⟩ | (simp only [nI_eq]; omega) | ((repeat' first | rfl | omega | refine And.intro ?_ ?_ | (simp only [nI_eq]; omega) | (simp only [List.length_cons, List.length_nil]; omega) | exact Nat.le_of_ble_eq_true rfl); done)) | exact trivial | refine And.intro ?_ ?_ | (intro hc; exact absurd hc (by decide)) | (intro hc; exfalso; omega) | (intro hc; (first | rw [wrap_small (by omega) (by omega)] at hc | rw [nI_eq] at hc | skip); try (conv => cbv))
 ·exact k1 (.inl (by assumption))
 ·exact k1 (.inr (by assumption))
 rename_i hnd hdn0
 have k2 := k2 (by omega)
 clear k1
 refine loop_up A.length (fun (s : Int × Nat × Nat × Bool × List (List D)) => [(1, .c (.d (.list false 1 dl))), (2, .c (.d (.list false 1 es))), (4, iA n), (5, iA d), (6, .c (.ptr 0 0 0 0)), (13, .c (.arr 1 s.2.1 0 s.2.2.1)), (28, .c (.d (.list false 1 al))), (29, iA (Λ al)), (30, iA s.1)]) (fun s => [.bx [.d (.int .i64 nodes), .d (.list false 1 ol), .d (.list false 7 ll)], .da s.2.2.2.1 s.2.1 1 s.2.2.2.2])
  (fun k s => s.1 = k ∧ k ≤ A.length ∧ s.2.2.1 = s.2.2.2.2.length ∧ s.2.2.2.2 = ((A.take k).filter (stepB t down E n d)).map encI) (0, 0, 0, false, []) (.trans (.nilS 13 1 rfl) (Wk.cut ⟨_, rfl⟩ (Nat.zero_le _) rfl (by repeat' first | exact trivial | refine And.intro ?_ ?_ | rfl))) ⟨rfl, by omega, rfl, rfl⟩ (fun k s h => h.2.1) ?_
 rintro k ⟨i, ve, m, r, es'⟩ Q' ⟨hi, hk, hm, hes'⟩ norm ex rt
 simp only at hi hm hes'
 have hesl : es'.length ≤ k := by
  rw [hes', List.length_map]
  refine Nat.le_trans (List.length_filter_le _ _) ?_
  simp; omega
 by_cases hlt : k < A.length
 ·obtain ⟨a, ha⟩ : ∃ a, A[k]? = some a := ⟨_, List.getElem?_eq_getElem hlt⟩
  have hra : al[i.toNat]? = some [iD a] := by rw [hi, Int.toNat_natCast, hal, List.getElem?_map, ha]; rfl
  obtain ⟨a0, a1⟩ := hA a (List.mem_of_getElem? ha)
  have af := arc_facts hv a0 a1
  have hha := hhead a a0 a1
  have hda := hdown a (hd.imp id fun h => ⟨a0, by omega⟩)
  have hca := hcost a a0 a1
  rw [headG_T hv a0 a1] at hha
  have hoa := hover (headT t a) af.2.1.1 (by omega)
  have hxa := eat (headT t a)
  have hbx := hb (headT t a) af.2.1.1 (by omega)
  have hst : stepB t down E n d a = (upB down a && decide (0 ≤ gt E (headT t a)) && (decide (headT t a = d) || !ovT t (headT t a)) && decide (gt E (headT t a) + costT t a = gt E n)) := rfl
  rw [← hdn] at hst
  obtain ⟨x, hx⟩ : ∃ x, x = headT t a := ⟨_, rfl⟩
  obtain ⟨cs, hcs⟩ : ∃ x, x = costT t a := ⟨_, rfl⟩
  obtain ⟨up, hup⟩ : ∃ x, x = upB down a := ⟨_, rfl⟩
  rw [← hx] at hha hoa hxa hst af hbx
  obtain ⟨ov, hov⟩ : ∃ b, b = ovT t x := ⟨_, rfl⟩
  obtain ⟨dx, hdx⟩ : ∃ d, d = gt E x := ⟨_, rfl⟩
  rw [← hov] at hoa hst
  rw [← hcs] at hca hst af
  rw [← hup] at hda hst
  rw [← hdx] at hst hxa hbx
  have hDx := hxa af.2.1.1 (by omega)
  have tk : (A.take (k + 1)).filter (stepB t down E n d) = (A.take k).filter (stepB t down E n d) ++ if stepB t down E n d a = true then [a] else [] := by
   rw [take_succ_get ha, List.filter_append, List.filter_cons]; rfl
  have skip : ∀ L h i', i' = i + 1 → stepB t down E n d a = false → Wk 0 L h [(1, .c (.d (.list false 1 dl))), (2, .c (.d (.list false 1 es))), (4, iA n), (5, iA d), (6, .c (.ptr 0 0 0 0)), (13, .c (.arr 1 ve 0 m)), (28, .c (.d (.list false 1 al))), (29, iA (Λ al)), (30, iA i')] [.bx [.d (.int .i64 nodes), .d (.list false 1 ol), .d (.list false 7 ll)], .da r ve 1 es'] → Q' .normal L h := fun L h i' h1 h2 hw => by
   refine norm _ _ (i', ve, m, r, es') ⟨by simp only; omega, by omega, hm, ?_⟩ hw
   simp only; rw [tk, h2, hes']; simp
  clear hhead hdown hover hcost
  conv => cbv
  repeat' first | (refine ex _ _ _ ?_; (conv => cbv)) | (refine rt _ _ ?_; (conv => cbv)) | (intro (e : List D) he; cases Option.some.inj (he.symm.trans hra); (conv => cbv)) | (intro (e : List D) he; cases Option.some.inj (he.symm.trans hDx); (conv => cbv)) | (intro (e : List D) he; cases Option.some.inj (he.symm.trans hen); (conv => cbv)) | refine call_b hda rfl rfl ?_ ?_ | refine call_b hoa rfl rfl ?_ ?_ | (refine call_r hha rfl rfl ?_; conv => cbv) | (refine call_r hca rfl rfl ?_; conv => cbv) | (intro (_ : Unit); refine ⟨rfl, ?_⟩; simp only [List.length_cons, List.length_nil]; omega) | (intro (_ : Unit); first | omega | rfl | exact ⟨rfl, by omega⟩ | (simp only [nI_eq]; omega) | ((repeat' first | rfl | omega | refine And.intro ?_ ?_ | (simp only [nI_eq]; omega) | (simp only [List.length_cons, List.length_nil]; omega) | exact Nat.le_of_ble_eq_true rfl); done)) | exact trivial | refine And.intro ?_ ?_ | (intro hc; exact absurd hc (by decide)) | (intro hc; exfalso; omega) | (intro hc; (first | rw [wrap_small (by omega) (by omega)] at hc | rw [nI_eq] at hc | skip); try (conv => cbv))
  all_goals first | (rename_i i'; refine skip _ _ i' (by assumption) ?_ (Wk.cut ⟨_, rfl⟩ (Nat.zero_le _) rfl (by repeat' first | exact trivial | refine And.intro ?_ ?_ | rfl)); rw [hst, Bool.eq_false_iff]; simp only [ne_eq, Bool.and_eq_true, Bool.or_eq_true, decide_eq_true_eq, Bool.not_eq_true']; rintro ⟨⟨⟨h1, h2⟩, h3⟩, h4⟩; first | omega | (simp_all; done) | (rcases h3 with h3 | h3; exact absurd h3 (by assumption); simp_all; done)) | skip
  all_goals
   rename_i m' r' es2 hm' hr' he' i'
   have hb : stepB t down E n d a = true := by
    rw [hst]
    simp only [Bool.and_eq_true, Bool.or_eq_true, decide_eq_true_eq, Bool.not_eq_true']
    refine ⟨⟨⟨by cases up <;> simp_all, by omega⟩, by first | exact .inl (by assumption) | exact .inr (by assumption)⟩, by omega⟩
   have e : es2 = ((A.take (k + 1)).filter (stepB t down E n d)).map encI := by
    rw [tk, if_pos hb, he', List.drop_zero, hm, List.take_length, hes', List.map_append]; rfl
   refine norm _ _ (_, _, _, _, _) ?_ (Wk.cut ⟨_, rfl⟩ (Nat.zero_le _) rfl (by repeat' first | exact trivial | refine And.intro ?_ ?_ | rfl))
   exact ⟨by simp only; omega, by omega, by simp only; rw [hm', he', List.drop_zero, hm, List.take_length]; simp, e⟩
 ·conv => cbv
  repeat' first | (refine ex _ _ _ ?_; (conv => cbv)) | (refine rt _ _ ?_; (conv => cbv)) | (intro (_ : Unit); first | omega | rfl | exact ⟨rfl, by omega⟩ | (simp only [nI_eq]; omega) | ((repeat' first | rfl | omega | refine And.intro ?_ ?_ | (simp only [nI_eq]; omega) | (simp only [List.length_cons, List.length_nil]; omega) | exact Nat.le_of_ble_eq_true rfl); done)) | exact trivial | refine And.intro ?_ ?_ | (intro hc; exact absurd hc (by decide)) | (intro hc; exfalso; omega) | (intro hc; (first | rw [wrap_small (by omega) (by omega)] at hc | rw [nI_eq] at hc | skip); try (conv => cbv))
  rename_i ls
  have e : ls = (A.filter (stepB t down E n d)).map encI := by
   rw [hc, List.drop_zero, hm, List.take_length, hes', List.take_of_length_le (by omega)]
  subst e
  exact k2
theorem ddists_ok (P : Program) (hP : P = Try.prog) (t : Top) (down : List Bool) (n d : Int) : Ret P n_dag_dists [topA t, boolsA down, iA n, iA d]
  (if (searchS t down d false).2 ≠ 0 then .tup [intsA [], iA (searchS t down d false).2] else if 0 ≤ n ∧ n < t.nodes then .tup [intsA (searchS t down d false).1, iA 0] else .tup [intsA [], iA 2]) := by
 refine ret_start (hP ▸ mixed) (hP ▸ fn_dag_dists) (hP ▸ c_dag_dists) (Nat.le_of_ble_eq_true rfl) fun Λ Λo K hK => ?_
 have hs := sdist_ok P hP t down d
 have hn := gnode_ok P hP t n
 clear hP
 generalize searchS t down d false = sr at *
 obtain ⟨s1, s2⟩ := sr
 simp only at *
 obtain ⟨nodes, hN⟩ : ∃ x, x = t.nodes := ⟨_, rfl⟩
 obtain ⟨ol, hol⟩ : ∃ x, x = t.ov.map encB := ⟨_, rfl⟩
 obtain ⟨ll, hll⟩ : ∃ x, x = t.links.map encLk := ⟨_, rfl⟩
 obtain ⟨dl, hdl⟩ : ∃ x, x = down.map encB := ⟨_, rfl⟩
 obtain ⟨sl, hsl⟩ : ∃ x, x = s1.map encI := ⟨_, rfl⟩
 have k1 : s2 ≠ 0 → K (.tup [intsA [], iA s2]) := fun h => by rw [if_pos h] at hK; exact hK
 have k2 : s2 = 0 → decide (0 ≤ n ∧ n < nodes) = true → K (.tup [.c (.d (.list false 1 sl)), iA 0]) := fun h h' => by rw [if_neg (by omega), if_pos (by rw [← hN]; exact of_decide_eq_true h'), intsA, intsD, ← hsl] at hK; exact hK
 have k3 : s2 = 0 → decide (0 ≤ n ∧ n < nodes) = false → K (.tup [intsA [], iA 2]) := fun h h' => by rw [if_neg (by omega), if_neg (by rw [← hN]; exact of_decide_eq_false h')] at hK; exact hK
 clear hK
 simp only [topA, boolsA, boolsD, linksD, intsA, intsD, ← hN, ← hol, ← hll, ← hdl, ← hsl] at hs hn k1 k2 k3 ⊢
 clear hol hll hdl hsl hN
 generalize decide (0 ≤ n ∧ n < nodes) = nb at *
 conv => cbv
 repeat' first | (refine call_r hs rfl rfl ?_; conv => cbv) | refine call_b hn rfl rfl ?_ ?_ | (intro (_ : Unit); first | omega | rfl | exact ⟨rfl, by omega⟩ | (simp only [nI_eq]; omega) | ((repeat' first | rfl | omega | refine And.intro ?_ ?_ | (simp only [nI_eq]; omega) | (simp only [List.length_cons, List.length_nil]; omega) | exact Nat.le_of_ble_eq_true rfl); done)) | exact trivial | refine And.intro ?_ ?_ | (intro hc; exact absurd hc (by decide)) | (intro hc; exfalso; omega) | (intro hc; (first | rw [wrap_small (by omega) (by omega)] at hc | rw [nI_eq] at hc | skip); try (conv => cbv))
 all_goals first | exact k1 (by assumption) | exact k2 (by omega) (by assumption) | exact k3 (by omega) (by assumption)
theorem dNext_ok (P : Program) (hP : P = Try.prog) (t : Top) (down : List Bool) (n d : Int) : Ret P n_dag_Next [topA t, boolsA down, iA n, iA d] (.tup [intsA (nextS t down n d).1, iA (nextS t down n d).2]) := by
 refine ret_start (hP ▸ mixed) (hP ▸ fn_dag_Next) (hP ▸ c_dag_Next) (Nat.le_of_ble_eq_true rfl) fun Λ Λo K hK => ?_
 have hs := ddists_ok P hP t down n d
 have hout := gout_ok P hP t n
 have hnx := fun E hv hd hl hb n0 n1 => dnext_ok P hP t down E (rowG t false n (2 * t.links.length)) n d hv hd hl hb n0 n1 (fun a ha => ⟨(row_mem hv ha).1, (row_mem hv ha).2.1⟩)
 clear hP
 by_cases hf : fitsB t down = true
 ·obtain ⟨hv, hd⟩ : validT t = true ∧ (down.length = 0 ∨ down.length = 2 * t.links.length) := by simpa [fitsB] using hf
  by_cases hdd : 0 ≤ d ∧ d < t.nodes
  ·have hsp := distS_spec hv down false hdd.1 hdd.2
   by_cases hnn : 0 ≤ n ∧ n < t.nodes
   ·rw [searchS, if_pos hf, if_pos hdd, if_pos hnn, if_neg (by simp)] at hs
    rw [nextS, if_pos hf, if_pos hdd, if_pos hnn] at hK
    have hx := hnx (distS t down d false) hv hd hsp.1.len hsp.2 hnn.1 hnn.2 (Nat.le_trans (rowG_len ..) (by have := (validT_spec.1 hv).2.2.1; omega))
    rw [sucL_next hv] at hx
    have hout := hout hv
    clear hsp hnx
    simp only [intsA, intsD, boolsA, boolsD] at hs hx hK hout ⊢
    generalize (rowG t false n (2 * t.links.length)).map encI = rl at *
    generalize (nextL t down (distS t down d false) n d).map encI = nl at *
    generalize (distS t down d false).map encI = ds at *
    generalize down.map encB = dl at *
    clear hv hd hdd hnn hf
    obtain ⟨nodes, ov, links⟩ := t
    simp only [topA, boolsD, linksD] at *
    generalize hol : ov.map encB = ol at *
    generalize hll : links.map encLk = ll at *
    have hlo : Λ ol = ov.length := by rw [Λo, ← hol]; simp
    have hls : Λ ll = links.length := by rw [Λo, ← hll]; simp
    conv => cbv
    repeat' first | (refine call_r hs rfl rfl ?_; conv => cbv) | (refine call_r hout rfl rfl ?_; conv => cbv) | (refine call_r hx rfl rfl ?_; conv => cbv) | (intro (_ : Unit); first | omega | rfl | exact ⟨rfl, by omega⟩ | (simp only [nI_eq]; omega) | ((repeat' first | rfl | omega | refine And.intro ?_ ?_ | (simp only [nI_eq]; omega) | (simp only [List.length_cons, List.length_nil]; omega) | exact Nat.le_of_ble_eq_true rfl); done)) | exact trivial | refine And.intro ?_ ?_ | (intro hc; exact absurd hc (by decide)) | (intro hc; exfalso; omega) | (intro hc; (first | rw [wrap_small (by omega) (by omega)] at hc | rw [nI_eq] at hc | skip); try (conv => cbv))
    exact hK
   ·rw [searchS, if_pos hf, if_pos hdd, if_neg hnn, if_neg (by simp)] at hs
    rw [nextS, if_pos hf, if_pos hdd, if_neg hnn] at hK
    clear hsp hnx hout hf hv
    simp only [intsA, intsD, boolsA, boolsD, List.map_nil] at *
    generalize down.map encB = dl at *
    obtain ⟨nodes, ov, links⟩ := t
    simp only [topA, boolsD, linksD] at *
    generalize hol : ov.map encB = ol at *
    generalize hll : links.map encLk = ll at *
    have hlo : Λ ol = ov.length := by rw [Λo, ← hol]; simp
    have hls : Λ ll = links.length := by rw [Λo, ← hll]; simp
    conv => cbv
    repeat' first | (refine call_r hs rfl rfl ?_; conv => cbv) | (intro (_ : Unit); first | omega | rfl | exact ⟨rfl, by omega⟩ | (simp only [nI_eq]; omega) | ((repeat' first | rfl | omega | refine And.intro ?_ ?_ | (simp only [nI_eq]; omega) | (simp only [List.length_cons, List.length_nil]; omega) | exact Nat.le_of_ble_eq_true rfl); done)) | exact trivial | refine And.intro ?_ ?_ | (intro hc; exact absurd hc (by decide)) | (intro hc; exfalso; omega) | (intro hc; (first | rw [wrap_small (by omega) (by omega)] at hc | rw [nI_eq] at hc | skip); try (conv => cbv))
    exact hK
  ·rw [searchS, if_pos hf, if_neg hdd, if_pos (by simp)] at hs
   rw [nextS, if_pos hf, if_neg hdd] at hK
   clear hnx hout hf hv
   simp only [intsA, intsD, boolsA, boolsD, List.map_nil] at *
   generalize down.map encB = dl at *
   obtain ⟨nodes, ov, links⟩ := t
   simp only [topA, boolsD, linksD] at *
   generalize hol : ov.map encB = ol at *
   generalize hll : links.map encLk = ll at *
   have hlo : Λ ol = ov.length := by rw [Λo, ← hol]; simp
   have hls : Λ ll = links.length := by rw [Λo, ← hll]; simp
   conv => cbv
   repeat' first | (refine call_r hs rfl rfl ?_; conv => cbv) | (intro (_ : Unit); first | omega | rfl | exact ⟨rfl, by omega⟩ | (simp only [nI_eq]; omega) | ((repeat' first | rfl | omega | refine And.intro ?_ ?_ | (simp only [nI_eq]; omega) | (simp only [List.length_cons, List.length_nil]; omega) | exact Nat.le_of_ble_eq_true rfl); done)) | exact trivial | refine And.intro ?_ ?_ | (intro hc; exact absurd hc (by decide)) | (intro hc; exfalso; omega) | (intro hc; (first | rw [wrap_small (by omega) (by omega)] at hc | rw [nI_eq] at hc | skip); try (conv => cbv))
   exact hK
 ·rw [searchS, if_neg hf, if_pos (by simp)] at hs
  rw [nextS, if_neg hf] at hK
  clear hnx hout hf
  simp only [intsA, intsD, boolsA, boolsD, List.map_nil] at *
  generalize down.map encB = dl at *
  obtain ⟨nodes, ov, links⟩ := t
  simp only [topA, boolsD, linksD] at *
  generalize hol : ov.map encB = ol at *
  generalize hll : links.map encLk = ll at *
  have hlo : Λ ol = ov.length := by rw [Λo, ← hol]; simp
  have hls : Λ ll = links.length := by rw [Λo, ← hll]; simp
  conv => cbv
  repeat' first | (refine call_r hs rfl rfl ?_; conv => cbv) | (intro (_ : Unit); first | omega | rfl | exact ⟨rfl, by omega⟩ | (simp only [nI_eq]; omega) | ((repeat' first | rfl | omega | refine And.intro ?_ ?_ | (simp only [nI_eq]; omega) | (simp only [List.length_cons, List.length_nil]; omega) | exact Nat.le_of_ble_eq_true rfl); done)) | exact trivial | refine And.intro ?_ ?_ | (intro hc; exact absurd hc (by decide)) | (intro hc; exfalso; omega) | (intro hc; (first | rw [wrap_small (by omega) (by omega)] at hc | rw [nI_eq] at hc | skip); try (conv => cbv))
  exact hK
end Go.Ab

/-
  Groups: which lists are valid.
-/
namespace Go.Ab
open Go.Proofs
def okAt (t : Top) (A : List Int) (k : Nat) : Prop := 0 ≤ A.getD k 0 ∧ A.getD k 0 < t.nodes ∧ (1 ≤ k → A.getD (k - 1) 0 < A.getD k 0)
instance (t : Top) (A : List Int) (k : Nat) : Decidable (okAt t A k) := by unfold okAt; infer_instance
def anyB (t : Top) (A : List Int) : Bool := decide (validT t = true ∧ 0 < A.length ∧ ∀ k, k < A.length → okAt t A k)
theorem list_at (A : List Int) {k : Nat} (h : k < A.length) : (A.map encI)[k]? = some [iD (A.getD k 0)] := by
 rw [List.getElem?_map, List.getElem?_eq_getElem h]
 simp [List.getD_eq_getElem?_getD, h, encI]
set_option maxHeartbeats 1000000 in
theorem avalid_ok (P : Program) (hP : P = Try.prog) (t : Top) (A : List Int) (hA : (A.length : Int) ≤ 2000000) : Ret P n_anycast_Valid [topA t, intsA A] (bA (anyB t A)) := by
 refine ret_start (hP ▸ mixed) (hP ▸ fn_anycast_Valid) (hP ▸ c_anycast_Valid) (Nat.le_of_ble_eq_true rfl) fun Λ Λo K hK => ?_
 have hval := tvalid_ok P hP t
 have hnode := fun n => gnode_ok P hP t n
 clear hP
 have k1 : ¬ (validT t = true ∧ 0 < A.length ∧ ∀ k, k < A.length → okAt t A k) → K (bA false) := fun h => by rw [anyB, decide_eq_false h] at hK; exact hK
 have k2 : (validT t = true ∧ 0 < A.length ∧ ∀ k, k < A.length → okAt t A k) → K (bA true) := fun h => by rw [anyB, decide_eq_true h] at hK; exact hK
 clear hK
 obtain ⟨vt, hvt⟩ : ∃ b, b = validT t := ⟨_, rfl⟩
 rw [← hvt] at hval k1 k2
 obtain ⟨nodes, hN⟩ : ∃ x, x = t.nodes := ⟨_, rfl⟩
 obtain ⟨ol, hol⟩ : ∃ x, x = t.ov.map encB := ⟨_, rfl⟩
 obtain ⟨ll, hll⟩ : ∃ x, x = t.links.map encLk := ⟨_, rfl⟩
 have hat := fun k h => list_at A (k := k) h
 obtain ⟨al, hal⟩ : ∃ x, x = A.map encI := ⟨_, rfl⟩
 have lal : Λ al = A.length := by rw [Λo, hal]; simp
 simp only [okAt, ← hN] at k1 k2
 simp only [topA, boolsD, linksD, intsA, intsD, ← hN, ← hol, ← hll, ← hal] at hat hval hnode ⊢
 clear hol hll hal hN hvt
 conv => cbv
 repeat' first | refine call_b hval rfl rfl ?_ ?_ | (intro (_ : Unit); first | omega | rfl | exact ⟨rfl, by omega⟩ | (simp only [nI_eq]; omega) | ((repeat' first | rfl | omega | refine And.intro ?_ ?_ | (simp only [nI_eq]; omega) | (simp only [List.length_cons, List.length_nil]; omega) | exact Nat.le_of_ble_eq_true rfl); done)) | exact trivial | refine And.intro ?_ ?_ | (intro hc; exact absurd hc (by decide)) | (intro hc; exfalso; omega) | (intro hc; (first | rw [wrap_small (by omega) (by omega)] at hc | rw [nI_eq] at hc | skip); try (conv => cbv))
 all_goals first | exact k1 (by rintro ⟨h1, h2, _⟩; first | omega | simp_all) | skip
 rename_i hvt _ hA0
 refine loop_up A.length (fun (i : Int) => [(1, .c (.d (.list false 1 al))), (2, .c (.ptr 0 0 0 0)), (15, .c (.d (.list false 1 al))), (16, iA (Λ al)), (17, iA i)]) (fun _ => [.bx [.d (iD nodes), .d (.list false 1 ol), .d (.list false 7 ll)]])
  (fun k i => i = k ∧ k ≤ A.length ∧ ∀ j, j < k → 0 ≤ A.getD j 0 ∧ A.getD j 0 < nodes ∧ (1 ≤ j → A.getD (j - 1) 0 < A.getD j 0)) 0 (Wk.cut ⟨[], rfl⟩ (Nat.le_of_ble_eq_true rfl) rfl (by repeat' first | exact trivial | refine And.intro ?_ ?_ | rfl)) ⟨rfl, by omega, fun j h => by omega⟩ (fun k s h => h.2.1) ?_
 rintro k i Q' ⟨hi, hk, hd⟩ norm ex rt
 by_cases hlt : k < A.length
 ·have hx : al[i.toNat]? = some [iD (A.getD k 0)] := by rw [hi, Int.toNat_natCast]; exact hat k hlt
  have hy : ∀ p : Int, p = i - 1 → 0 ≤ p → al[p.toNat]? = some [iD (A.getD (k - 1) 0)] := fun p hp h0 => by rw [hp, hi, show (((k : Nat) : Int) - 1).toNat = k - 1 by omega]; exact hat _ (by omega)
  have k1' : ¬ (0 ≤ A.getD k 0 ∧ A.getD k 0 < nodes ∧ (1 ≤ k → A.getD (k - 1) 0 < A.getD k 0)) → K (bA false) := fun h => k1 fun ⟨_, _, h'⟩ => h (h' k hlt)
  have nx : ∀ L h i', i' = i + 1 → (0 ≤ A.getD k 0 ∧ A.getD k 0 < nodes ∧ (1 ≤ k → A.getD (k - 1) 0 < A.getD k 0)) → Wk 0 L h [(1, .c (.d (.list false 1 al))), (2, .c (.ptr 0 0 0 0)), (15, .c (.d (.list false 1 al))), (16, iA (Λ al)), (17, iA i')] [.bx [.d (iD nodes), .d (.list false 1 ol), .d (.list false 7 ll)]] → Q' .normal L h := fun L h i' h1 h2 hw => by
   refine norm _ _ i' ⟨by omega, by omega, fun j hj => ?_⟩ hw
   rcases Nat.lt_succ_iff_lt_or_eq.1 hj with h | h
   ·exact hd j h
   ·rw [h]; exact h2
  have hnd := hnode (A.getD k 0)
  generalize A.getD k 0 = a at *
  generalize A.getD (k - 1) 0 = b at *
  obtain ⟨nb, hnb⟩ : ∃ c, c = decide (0 ≤ a ∧ a < nodes) := ⟨_, rfl⟩
  rw [← hnb] at hnd
  have hnb1 : nb = true → 0 ≤ a ∧ a < nodes := fun h => of_decide_eq_true (hnb.symm.trans h)
  have hnb0 : nb = false → ¬ (0 ≤ a ∧ a < nodes) := fun h => of_decide_eq_false (hnb.symm.trans h)
  clear hnode k1 k2 norm hd hat hnb
  conv => cbv
  repeat' first | (refine ex _ _ _ ?_; (conv => cbv)) | (refine rt _ _ ?_; (conv => cbv)) | (intro (e : List D) he; cases Option.some.inj (he.symm.trans hx); (conv => cbv)) | refine call_b hnd rfl rfl ?_ ?_ | (intro (e : List D) he; cases Option.some.inj (he.symm.trans (hy _ (by omega) (by omega))); (conv => cbv)) | (intro (_ : Unit); first | omega | rfl | exact ⟨rfl, by omega⟩ | (simp only [nI_eq]; omega) | ((repeat' first | rfl | omega | refine And.intro ?_ ?_ | (simp only [nI_eq]; omega) | (simp only [List.length_cons, List.length_nil]; omega) | exact Nat.le_of_ble_eq_true rfl); done)) | exact trivial | refine And.intro ?_ ?_ | (intro hc; exact absurd hc (by decide)) | (intro hc; exfalso; omega) | (intro hc; (first | rw [wrap_small (by omega) (by omega)] at hc | rw [nI_eq] at hc | skip); try (conv => cbv))
  all_goals first
   | (rename_i i'; have hz := hnb1 (by assumption); exact nx _ _ i' (by assumption) ⟨hz.1, hz.2, fun _ => by omega⟩ (Wk.cut ⟨[], rfl⟩ (Nat.le_of_ble_eq_true rfl) rfl (by repeat' first | exact trivial | refine And.intro ?_ ?_ | rfl)))
   | exact k1' (fun h => hnb0 (by assumption) ⟨h.1, h.2.1⟩)
   | exact k1' (fun ⟨_, _, h⟩ => by have := h (by omega); omega)
 conv => cbv
 repeat' first | (refine ex _ _ _ ?_; (conv => cbv)) | (refine rt _ _ ?_; (conv => cbv)) | (intro (_ : Unit); first | omega | rfl | exact ⟨rfl, by omega⟩ | (simp only [nI_eq]; omega) | ((repeat' first | rfl | omega | refine And.intro ?_ ?_ | (simp only [nI_eq]; omega) | (simp only [List.length_cons, List.length_nil]; omega) | exact Nat.le_of_ble_eq_true rfl); done)) | exact trivial | refine And.intro ?_ ?_ | (intro hc; exact absurd hc (by decide)) | (intro hc; exfalso; omega) | (intro hc; (first | rw [wrap_small (by omega) (by omega)] at hc | rw [nI_eq] at hc | skip); try (conv => cbv))
 exact k2 ⟨hvt, by omega, fun j hj => hd j (by omega)⟩
end Go.Ab

/-
  Groups: the distances to the nearest member.
-/
namespace Go.Ab
open Go.Proofs
theorem cloneInts_new (P : Program) (hP : P = Try.prog) (ll : List (List D)) (hl : ll.length ≤ 1000000) (h0 : ll ≠ []) : FnS P n_slices_Clone_int_int [.c (.d (.list false 1 ll))] [] fun r h' => ∃ n, n = ll.length ∧ r = .c (.arr 0 1 0 n) ∧ h' = [.da true 1 1 ll] := by
 refine fn_heap (hP ▸ mixed) (hP ▸ fn_slices_Clone_int_int) (hP ▸ c_slices_Clone_int_int) (Nat.le_of_ble_eq_true rfl) fun Λ Λo => ?_
 clear hP
 generalize hK : (fun (r : AV) (h' : Hp) => ∃ n, n = ll.length ∧ r = .c (.arr 0 1 0 n) ∧ h' = [.da true 1 1 ll]) = K
 have k1 : ∀ n rl es, es = ll → rl = true → n = ll.length → K (.c (.arr 0 1 0 n)) [Blk.da rl 1 1 es] := by
  intro n rl es h1 h3 h2; rw [← hK]; subst h1 h3; exact ⟨n, h2, rfl, rfl⟩
 clear hK
 have lln := Λo ll
 conv => cbv
 repeat' first | (intro (_ : Unit); first | omega | rfl | exact ⟨rfl, by omega⟩ | (simp only [nI_eq]; omega) | ((repeat' first | rfl | omega | refine And.intro ?_ ?_ | (simp only [nI_eq]; omega) | (simp only [List.length_cons, List.length_nil]; omega) | exact Nat.le_of_ble_eq_true rfl); done)) | exact trivial | refine And.intro ?_ ?_ | (intro hc; exact absurd hc (by decide)) | (intro hc; exfalso; omega) | (intro hc; (first | rw [wrap_small (by omega) (by omega)] at hc | rw [nI_eq] at hc | skip); try (conv => cbv))
 ·refine k1 _ _ _ ?_ ?_ ?_
  ·rw [hc]; simp
  ·rename_i h1; rw [h1]; rfl
  ·rename_i h1 _; rw [h1]; simp
 ·exact absurd (by assumption) h0
def mrg (a d : Int) : Int := if a < 0 then d else if 0 ≤ d then min a d else a
noncomputable def rowsS (t : Top) (down : List Bool) (A : List Int) : List (List Int) := A.map fun m => distS t down m false
noncomputable def allS (t : Top) (down : List Bool) (A : List Int) : List Int := (List.range t.nodes.toNat).map fun (i : Nat) => ((rowsS t down A).map fun D => gt D i).foldl mrg (-1)
theorem allS_len (t : Top) (down : List Bool) (A : List Int) : (allS t down A).length = t.nodes.toNat := by simp [allS]
theorem allS_at {t : Top} {down : List Bool} {A : List Int} {i : Nat} (h : i < t.nodes.toNat) : (allS t down A)[i]? = some (((rowsS t down A).map fun D => gt D i).foldl mrg (-1)) := by
 rw [allS, List.getElem?_map, List.getElem?_range h]; rfl
theorem allS_succ {t : Top} {down : List Bool} {A : List Int} {k : Nat} {m : Int} (h : A[k]? = some m) {i : Nat} (hi : i < t.nodes.toNat) :
  (allS t down (A.take (k + 1)))[i]? = some (mrg (((rowsS t down (A.take k)).map fun D => gt D i).foldl mrg (-1)) (gt (distS t down m false) i)) := by
 rw [allS_at hi, take_succ_get h, rowsS, List.map_append, List.map_append, List.foldl_append]
 rfl
theorem mrg_self (d : Int) : mrg d d = d := by
 unfold mrg; split
 ·rfl
 ·split
  ·exact Int.min_self d
  ·rfl
set_option maxHeartbeats 4000000 in
theorem adists_ok (P : Program) (hP : P = Try.prog) (t : Top) (down : List Bool) (A : List Int) (hA : (A.length : Int) ≤ 2000000) : Ret P n_anycast_dists [topA t, boolsA down, intsA A]
  (if anyB t A = true ∧ fitsB t down = true then .tup [rowsA (rowsS t down A), intsA (allS t down A), iA 0] else .tup [rowsA [], intsA [], iA 1]) := by
 refine ret_start (hP ▸ mixed) (hP ▸ fn_anycast_dists) (hP ▸ c_anycast_dists) (Nat.le_of_ble_eq_true rfl) fun Λ Λo K hK => ?_
 have hval := avalid_ok P hP t A hA
 have hfits := fun (h : anyB t A = true) => gfits_ok P hP t down (validT_spec.1 (of_decide_eq_true h).1).2.2.1
 have hdist := fun m => sdist_ok P hP t down m
 have hclone := fun ll h h0 => cloneInts_new P hP ll h h0
 clear hP
 by_cases hf : anyB t A = true ∧ fitsB t down = true
 ·obtain ⟨hv, hl0, hok⟩ := of_decide_eq_true hf.1
  have hdd : ∀ m : Int, 0 ≤ m → m < t.nodes → Ret P n_spf_Dist [topA t, boolsA down, iA m] (.tup [intsA (distS t down m false), iA 0]) := fun m h0 h1 => by
   have := hdist m
   rw [searchS, if_pos hf.2, if_pos ⟨h0, h1⟩] at this
   exact this
  have hsp : ∀ m : Int, 0 ≤ m → m < t.nodes → ((distS t down m false).length : Int) = t.nodes := fun m h0 h1 => (distS_spec hv down false h0 h1).1.len
  have hsb : ∀ m : Int, 0 ≤ m → m < t.nodes → ∀ i, 0 ≤ i → i < t.nodes → -1 ≤ gt (distS t down m false) i := fun m h0 h1 i i0 i1 => ((distS_spec hv down false h0 h1).2 i i0 i1).1
  have hval : Ret P n_anycast_Valid [topA t, intsA A] (bA true) := hf.1 ▸ hval
  have hfits : Ret P n_graph_Fits [topA t, boolsA down] (bA true) := by
   have h2 := hfits hf.1
   have h3 := hf.2
   rw [decide_eq_true (by simpa [fitsB, hv] using h3)] at h2
   exact h2
  rw [if_pos hf] at hK
  clear hdist hf
  have v1 := validT_spec.1 hv
  obtain ⟨nn, hnn⟩ : ∃ x : Nat, (x : Int) = t.nodes := ⟨t.nodes.toNat, by omega⟩
  obtain ⟨nodes, hN⟩ : ∃ x, x = t.nodes := ⟨_, rfl⟩
  obtain ⟨ol, hol⟩ : ∃ x, x = t.ov.map encB := ⟨_, rfl⟩
  obtain ⟨ll, hll⟩ : ∃ x, x = t.links.map encLk := ⟨_, rfl⟩
  obtain ⟨dl, hdl⟩ : ∃ x, x = down.map encB := ⟨_, rfl⟩
  obtain ⟨al, hal⟩ : ∃ x, x = A.map encI := ⟨_, rfl⟩
  have lal : Λ al = A.length := by rw [Λo, hal]; simp
  have k1 : ∀ rs zs, rs = (rowsS t down A).map encRow → zs = (allS t down A).map encI → K (.tup [.c (.d (.list false 1 rs)), .c (.d (.list false 1 zs)), iA 0]) := fun rs zs h1 h2 => by
   rw [h1, h2]; exact hK
  clear hK
  simp only [topA, boolsA, boolsD, linksD, intsA, intsD, ← hN, ← hol, ← hll, ← hdl, ← hal] at hval hfits hdd ⊢
  clear hol hll hdl
  conv => cbv
  repeat' first | (refine call_r hval rfl rfl ?_; conv => cbv) | (refine call_r hfits rfl rfl ?_; conv => cbv) | (intro (_ : Unit); first | omega | rfl | exact ⟨rfl, by omega⟩ | (simp only [nI_eq]; omega) | ((repeat' first | rfl | omega | refine And.intro ?_ ?_ | (simp only [nI_eq]; omega) | (simp only [List.length_cons, List.length_nil]; omega) | exact Nat.le_of_ble_eq_true rfl); done)) | exact trivial | refine And.intro ?_ ?_ | (intro hc; exact absurd hc (by decide)) | (intro hc; exfalso; omega) | (intro hc; (first | rw [wrap_small (by omega) (by omega)] at hc | rw [nI_eq] at hc | skip); try (conv => cbv))
  refine loop_up A.length (fun (s : Int × Nat × Bool × Nat × List (List D) × Bool × List (List D) × Bool × List (List D)) => [(1, .c (.d (.list false 1 dl))), (3, .c (.ptr 0 0 0 0)), (6, .c (.arr 1 s.2.1 0 s.2.2.2.1)), (7, match s.2.2.2.2.2.1 with | true => .c (.arr 2 0 0 0) | false => .c (.arr 4 1 0 nn)), (25, .c (.d (.list false 1 al))), (26, iA (Λ al)), (27, iA s.1)])
   (fun s => .bx [.d (iD nodes), .d (.list false 1 ol), .d (.list false 7 ll)] :: .da s.2.2.1 s.2.1 1 s.2.2.2.2.1 :: .da false 0 1 [] :: match s.2.2.2.2.2.1 with | true => [] | false => [.da true 0 1 s.2.2.2.2.2.2.1, .da s.2.2.2.2.2.2.2.1 1 1 s.2.2.2.2.2.2.2.2])
   (fun k s => s.1 = k ∧ k ≤ A.length ∧ s.2.2.2.1 = s.2.2.2.2.1.length ∧ s.2.2.2.2.1 = ((rowsS t down A).take k).map encRow ∧ match s.2.2.2.2.2.1 with | true => k = 0 | false => 0 < k ∧ s.2.2.2.2.2.2.2.1 = true ∧ s.2.2.2.2.2.2.2.2 = (allS t down (A.take k)).map encI)
   (0, 0, false, 0, [], true, [], true, []) (.trans (.nilS 6 1 rfl) (.trans (.nilS 7 1 rfl) (Wk.cut ⟨[], rfl⟩ (Nat.le_of_ble_eq_true rfl) rfl (by repeat' first | exact trivial | refine And.intro ?_ ?_ | rfl)))) ⟨rfl, by omega, rfl, by simp, rfl⟩ (fun k s h => h.2.1) ?_
  rintro k ⟨i, ve, r, n6, es, first, tmp, rl, all⟩ Q' ⟨hi, hk, hn6, hes, hfst⟩ norm ex rt
  simp only at hi hn6 hes hfst
  by_cases hlt : k < A.length
  ·obtain ⟨m, hm⟩ : ∃ m, A[k]? = some m := ⟨_, List.getElem?_eq_getElem hlt⟩
   have hra : al[i.toNat]? = some [iD m] := by rw [hi, Int.toNat_natCast, hal, List.getElem?_map, hm]; rfl
   have hmo := hok k hlt
   rw [okAt, List.getD_eq_getElem?_getD, hm, Option.getD_some] at hmo
   have hdm := hdd m hmo.1 (by omega)
   have lenD := hsp m hmo.1 hmo.2.1
   have bndD := hsb m hmo.1 hmo.2.1
   have hrow : (rowsS t down A)[k]? = some (distS t down m false) := by rw [rowsS, List.getElem?_map, hm]; rfl
   have hnew := fun i h => allS_succ (t := t) (down := down) hm (i := i) h
   obtain ⟨E, hE⟩ : ∃ l, l = distS t down m false := ⟨_, rfl⟩
   rw [← hE] at hdm lenD bndD hrow hnew
   obtain ⟨dd, hdd2⟩ : ∃ l, l = E.map encI := ⟨_, rfl⟩
   rw [← hdd2] at hdm
   have ldd : Λ dd = nn := by rw [Λo, hdd2]; simp; omega
   have lde : dd.length = nn := by rw [hdd2]; simp; omega
   have lesl : es.length ≤ k := by rw [hes]; simp; omega
   have hcl := hclone dd (by omega) (by intro e; rw [e] at lde; simp at lde; omega)
   clear hclone hdd hsp hsb hval hfits k1
   cases first
   ·obtain ⟨hk0, hrl, hall⟩ := hfst
    subst hrl
    conv => cbv
    repeat' first | (refine ex _ _ _ ?_; (conv => cbv)) | (refine rt _ _ ?_; (conv => cbv)) | (intro (e : List D) he; cases Option.some.inj (he.symm.trans hra); (conv => cbv)) | (refine call_r hdm rfl rfl ?_; conv => cbv) | (intro (_ : Unit); refine ⟨rfl, ?_⟩; simp only [List.length_cons, List.length_nil]; omega) | (intro (_ : Unit); first | omega | rfl | exact ⟨rfl, by omega⟩ | (simp only [nI_eq]; omega) | ((repeat' first | rfl | omega | refine And.intro ?_ ?_ | (simp only [nI_eq]; omega) | (simp only [List.length_cons, List.length_nil]; omega) | exact Nat.le_of_ble_eq_true rfl); done)) | exact trivial | refine And.intro ?_ ?_ | (intro hc; exact absurd hc (by decide)) | (intro hc; exfalso; omega) | (intro hc; (first | rw [wrap_small (by omega) (by omega)] at hc | rw [nI_eq] at hc | skip); try (conv => cbv))
    rename_i m' r' es2 hm' hr' hes2
    obtain ⟨A0, h0, l0, hmg⟩ : ∃ A0 : List Int, all = A0.map encI ∧ A0.length = nn ∧ ∀ p : Nat, p < nn → (allS t down (A.take (k + 1)))[p]? = some (mrg (gt A0 p) (gt E p)) := by
     refine ⟨allS t down (A.take k), hall, by rw [allS_len]; omega, fun p hp => ?_⟩
     rw [hnew p (by omega)]
     congr 2
     have := allS_at (t := t) (down := down) (A := A.take k) (i := p) (by omega)
     rw [gt, List.getD_eq_getElem?_getD, Int.toNat_natCast, this]; rfl
    refine loop_up nn (fun (s : Int × List (List D)) => [(1, .c (.d (.list false 1 dl))), (3, .c (.ptr 0 0 0 0)), (6, .c (.arr 1 (ve + 1) 0 m')), (7, .c (.arr 4 1 0 nn)), (25, .c (.d (.list false 1 al))), (26, iA (Λ al)), (27, iA i), (46, .c (.d (.list false 1 dd))), (47, iA (Λ dd)), (48, iA s.1)])
     (fun s => [.bx [.d (iD nodes), .d (.list false 1 ol), .d (.list false 7 ll)], .da r' (ve + 1) 1 es2, .da false 0 1 [], .da true 0 1 tmp, .da true 1 1 s.2])
     (fun j s => s.1 = j ∧ j ≤ nn ∧ ∃ B : List Int, s.2 = B.map encI ∧ B.length = nn ∧ ∀ p : Nat, p < nn → gt B p = if p < j then mrg (gt A0 p) (gt E p) else gt A0 p) (0, all) (Wk.cut ⟨_, rfl⟩ (Nat.zero_le _) rfl (by repeat' first | exact trivial | refine And.intro ?_ ?_ | rfl)) ⟨rfl, Nat.zero_le _, A0, h0, l0, fun p hp => by simp⟩ (fun k s h => h.2.1) ?_
    rintro j ⟨jj, bl⟩ Q2 ⟨hj, hjn, B, hB, lB, hpt⟩ nrm ex rt
    simp only at hj hB
    by_cases hjlt : j < nn
    ·have hde : dd[jj.toNat]? = some [iD (gt E j)] := by rw [hj, Int.toNat_natCast, hdd2]; exact encI_at (by omega)
     have hbe : bl[j]? = some [iD (gt B j)] := by rw [hB]; exact encI_at (by omega)
     have hbj := hpt j hjlt
     rw [if_neg (Nat.lt_irrefl _)] at hbj
     have lbl : bl.length = nn := by rw [hB, List.length_map]; exact lB
     have stp : ∀ v x, v = mrg (gt B j) (gt E j) → x = bl.set j [iD v] → ∃ B' : List Int, x = B'.map encI ∧ B'.length = nn ∧ ∀ p : Nat, p < nn → gt B' p = if p < j + 1 then mrg (gt A0 p) (gt E p) else gt A0 p := fun v x h1 h2 => by
      refine ⟨B.set ((j : Int)).toNat v, ?_, by rw [List.length_set]; exact lB, fun p hp => ?_⟩
      ·rw [h2, hB, encI_set, Int.toNat_natCast]
      ·rw [gt_setD (by omega) (by omega) p (by omega)]
       by_cases e : p = j
       ·rw [if_pos (by omega), if_pos (by omega), h1, hbj, e]
       ·rw [if_neg (by omega), hpt p hp]
        by_cases e2 : p < j
        ·rw [if_pos e2, if_pos (by omega)]
        ·rw [if_neg e2, if_neg (by omega)]
     have skp : mrg (gt B j) (gt E j) = gt B j → ∃ B' : List Int, bl = B'.map encI ∧ B'.length = nn ∧ ∀ p : Nat, p < nn → gt B' p = if p < j + 1 then mrg (gt A0 p) (gt E p) else gt A0 p := fun h1 => by
      refine ⟨B, hB, lB, fun p hp => ?_⟩
      by_cases e : p = j
      ·rw [if_pos (by omega), e, ← hbj, h1]
      ·rw [hpt p hp]
       by_cases e2 : p < j
       ·rw [if_pos e2, if_pos (by omega)]
       ·rw [if_neg e2, if_neg (by omega)]
     obtain ⟨b, hb⟩ : ∃ b, b = gt B j := ⟨_, rfl⟩
     obtain ⟨e, he⟩ : ∃ e, e = gt E j := ⟨_, rfl⟩
     rw [← hb] at hbe stp skp
     rw [← he] at hde stp skp
     clear hpt norm
     conv => cbv
     repeat' first | (refine ex _ _ _ ?_; (conv => cbv)) | (refine rt _ _ ?_; (conv => cbv)) | (intro (k : Nat) hk; refine (fun (hz : j = k) => ?_) ?_; rotate_left; omega; subst hz; (conv => cbv)) | (intro (e : List D) he; cases Option.some.inj (he.symm.trans hde); (conv => cbv)) | (intro (e : List D) he; cases Option.some.inj (he.symm.trans hbe); (conv => cbv)) | (intro (_ : Unit); first | omega | rfl | exact ⟨rfl, by omega⟩ | (simp only [nI_eq]; omega) | ((repeat' first | rfl | omega | refine And.intro ?_ ?_ | (simp only [nI_eq]; omega) | (simp only [List.length_cons, List.length_nil]; omega) | exact Nat.le_of_ble_eq_true rfl); done)) | exact trivial | refine And.intro ?_ ?_ | (intro hc; exact absurd hc (by decide)) | (intro hc; exfalso; omega) | (intro hc; (first | rw [wrap_small (by omega) (by omega)] at hc | rw [nI_eq] at hc | skip); try (conv => cbv))
     ·rename_i x hx j'
      exact nrm _ _ (j', x) ⟨by simp only; omega, by omega, stp e x (by rw [mrg, if_pos (by assumption)]) hx⟩ (Wk.cut ⟨[], rfl⟩ (Nat.le_of_ble_eq_true rfl) rfl (by repeat' first | exact trivial | refine And.intro ?_ ?_ | rfl))
     ·rename_i v hvv x hx j'
      exact nrm _ _ (j', x) ⟨by simp only; omega, by omega, stp v x (by rw [mrg, if_neg (by assumption), if_pos (by assumption)]; omega) hx⟩ (Wk.cut ⟨[], rfl⟩ (Nat.le_of_ble_eq_true rfl) rfl (by repeat' first | exact trivial | refine And.intro ?_ ?_ | rfl))
     ·rename_i j'
      exact nrm _ _ (j', bl) ⟨by simp only; omega, by omega, skp (by rw [mrg, if_neg (by assumption), if_neg (by assumption)])⟩ (Wk.cut ⟨[], rfl⟩ (Nat.le_of_ble_eq_true rfl) rfl (by repeat' first | exact trivial | refine And.intro ?_ ?_ | rfl))
    ·have e : j = nn := by omega
     conv => cbv
     repeat' first | (refine ex _ _ _ ?_; (conv => cbv)) | (refine rt _ _ ?_; (conv => cbv)) | (intro (_ : Unit); first | omega | rfl | exact ⟨rfl, by omega⟩ | (simp only [nI_eq]; omega) | ((repeat' first | rfl | omega | refine And.intro ?_ ?_ | (simp only [nI_eq]; omega) | (simp only [List.length_cons, List.length_nil]; omega) | exact Nat.le_of_ble_eq_true rfl); done)) | exact trivial | refine And.intro ?_ ?_ | (intro hc; exact absurd hc (by decide)) | (intro hc; exfalso; omega) | (intro hc; (first | rw [wrap_small (by omega) (by omega)] at hc | rw [nI_eq] at hc | skip); try (conv => cbv))
     rename_i i'
     have e1 : es2 = ((rowsS t down A).take (k + 1)).map encRow := by
      rw [hes2, take_succ_get hrow, List.map_append, List.drop_zero, hn6, List.take_length, hes, hdd2]; rfl
     have e2 : bl = (allS t down (A.take (k + 1))).map encI := by
      rw [hB]
      congr 1
      refine List.ext_getElem? fun p => ?_
      rcases Nat.lt_or_ge p nn with hp | hp
      ·have h1 := hpt p hp
       rw [if_pos (by omega)] at h1
       rw [hmg p hp, ← h1, gt, List.getD_eq_getElem?_getD, Int.toNat_natCast, List.getElem?_eq_getElem (by omega)]; rfl
      ·rw [List.getElem?_eq_none (by omega), List.getElem?_eq_none (by rw [allS_len]; omega)]
     exact norm _ _ (i', ve + 1, r', m', es2, false, tmp, true, bl) ⟨by simp only; omega, by omega, by simp only; rw [hm', hes2, List.drop_zero, hn6, List.take_length]; simp, e1, by omega, rfl, e2⟩ (Wk.cut ⟨[], rfl⟩ (Nat.le_of_ble_eq_true rfl) rfl (by repeat' first | exact trivial | refine And.intro ?_ ?_ | rfl))
   ·conv => cbv
    repeat' first | (refine ex _ _ _ ?_; (conv => cbv)) | (refine rt _ _ ?_; (conv => cbv)) | (intro (e : List D) he; cases Option.some.inj (he.symm.trans hra); (conv => cbv)) | (refine call_r hdm rfl rfl ?_; conv => cbv) | (intro (_ : Unit); refine ⟨rfl, ?_⟩; simp only [List.length_cons, List.length_nil]; omega) | (refine call_fr [] hcl rfl rfl (by decide) trivial rfl rfl ?_; rintro r hc' ⟨n', hn', rfl, rfl⟩; obtain rfl : nn = n' := (hn'.trans lde).symm; (conv => cbv)) | (intro (_ : Unit); first | omega | rfl | exact ⟨rfl, by omega⟩ | (simp only [nI_eq]; omega) | ((repeat' first | rfl | omega | refine And.intro ?_ ?_ | (simp only [nI_eq]; omega) | (simp only [List.length_cons, List.length_nil]; omega) | exact Nat.le_of_ble_eq_true rfl); done)) | exact trivial | refine And.intro ?_ ?_ | (intro hc; exact absurd hc (by decide)) | (intro hc; exfalso; omega) | (intro hc; (first | rw [wrap_small (by omega) (by omega)] at hc | rw [nI_eq] at hc | skip); try (conv => cbv))
    rename_i m' r' es2 hm' hr' hes2
    obtain ⟨A0, h0, l0, hmg⟩ : ∃ A0 : List Int, dd = A0.map encI ∧ A0.length = nn ∧ ∀ p : Nat, p < nn → (allS t down (A.take (k + 1)))[p]? = some (mrg (gt A0 p) (gt E p)) := by
     refine ⟨E, hdd2, by omega, fun p hp => ?_⟩
     rw [hnew p (by omega), mrg_self]
     rw [hfst]; rfl
    refine loop_up nn (fun (s : Int × List (List D)) => [(1, .c (.d (.list false 1 dl))), (3, .c (.ptr 0 0 0 0)), (6, .c (.arr 1 (ve + 1) 0 m')), (7, .c (.arr 4 1 0 nn)), (25, .c (.d (.list false 1 al))), (26, iA (Λ al)), (27, iA i), (46, .c (.d (.list false 1 dd))), (47, iA (Λ dd)), (48, iA s.1)])
     (fun s => [.bx [.d (iD nodes), .d (.list false 1 ol), .d (.list false 7 ll)], .da r' (ve + 1) 1 es2, .da false 0 1 [], .da true 0 1 [[.list false 1 dd]], .da true 1 1 s.2])
     (fun j s => s.1 = j ∧ j ≤ nn ∧ ∃ B : List Int, s.2 = B.map encI ∧ B.length = nn ∧ ∀ p : Nat, p < nn → gt B p = if p < j then mrg (gt A0 p) (gt E p) else gt A0 p) (0, dd) (Wk.cut ⟨_, rfl⟩ (Nat.zero_le _) rfl (by repeat' first | exact trivial | refine And.intro ?_ ?_ | rfl)) ⟨rfl, Nat.zero_le _, A0, h0, l0, fun p hp => by simp⟩ (fun k s h => h.2.1) ?_
    rintro j ⟨jj, bl⟩ Q2 ⟨hj, hjn, B, hB, lB, hpt⟩ nrm ex rt
    simp only at hj hB
    by_cases hjlt : j < nn
    ·have hde : dd[jj.toNat]? = some [iD (gt E j)] := by rw [hj, Int.toNat_natCast, hdd2]; exact encI_at (by omega)
     have hbe : bl[j]? = some [iD (gt B j)] := by rw [hB]; exact encI_at (by omega)
     have hbj := hpt j hjlt
     rw [if_neg (Nat.lt_irrefl _)] at hbj
     have lbl : bl.length = nn := by rw [hB, List.length_map]; exact lB
     have stp : ∀ v x, v = mrg (gt B j) (gt E j) → x = bl.set j [iD v] → ∃ B' : List Int, x = B'.map encI ∧ B'.length = nn ∧ ∀ p : Nat, p < nn → gt B' p = if p < j + 1 then mrg (gt A0 p) (gt E p) else gt A0 p := fun v x h1 h2 => by
      refine ⟨B.set ((j : Int)).toNat v, ?_, by rw [List.length_set]; exact lB, fun p hp => ?_⟩
      ·rw [h2, hB, encI_set, Int.toNat_natCast]
      ·rw [gt_setD (by omega) (by omega) p (by omega)]
       by_cases e : p = j
       ·rw [if_pos (by omega), if_pos (by omega), h1, hbj, e]
       ·rw [if_neg (by omega), hpt p hp]
        by_cases e2 : p < j
        ·rw [if_pos e2, if_pos (by omega)]
        ·rw [if_neg e2, if_neg (by omega)]
     have skp : mrg (gt B j) (gt E j) = gt B j → ∃ B' : List Int, bl = B'.map encI ∧ B'.length = nn ∧ ∀ p : Nat, p < nn → gt B' p = if p < j + 1 then mrg (gt A0 p) (gt E p) else gt A0 p := fun h1 => by
      refine ⟨B, hB, lB, fun p hp => ?_⟩
      by_cases e : p = j
      ·rw [if_pos (by omega), e, ← hbj, h1]
      ·rw [hpt p hp]
       by_cases e2 : p < j
       ·rw [if_pos e2, if_pos (by omega)]
       ·rw [if_neg e2, if_neg (by omega)]
     obtain ⟨b, hb⟩ : ∃ b, b = gt B j := ⟨_, rfl⟩
     obtain ⟨e, he⟩ : ∃ e, e = gt E j := ⟨_, rfl⟩
     rw [← hb] at hbe stp skp
     rw [← he] at hde stp skp
     clear hpt norm
     conv => cbv
     repeat' first | (refine ex _ _ _ ?_; (conv => cbv)) | (refine rt _ _ ?_; (conv => cbv)) | (intro (k : Nat) hk; refine (fun (hz : j = k) => ?_) ?_; rotate_left; omega; subst hz; (conv => cbv)) | (intro (e : List D) he; cases Option.some.inj (he.symm.trans hde); (conv => cbv)) | (intro (e : List D) he; cases Option.some.inj (he.symm.trans hbe); (conv => cbv)) | (intro (_ : Unit); first | omega | rfl | exact ⟨rfl, by omega⟩ | (simp only [nI_eq]; omega) | ((repeat' first | rfl | omega | refine And.intro ?_ ?_ | (simp only [nI_eq]; omega) | (simp only [List.length_cons, List.length_nil]; omega) | exact Nat.le_of_ble_eq_true rfl); done)) | exact trivial | refine And.intro ?_ ?_ | (intro hc; exact absurd hc (by decide)) | (intro hc; exfalso; omega) | (intro hc; (first | rw [wrap_small (by omega) (by omega)] at hc | rw [nI_eq] at hc | skip); try (conv => cbv))
     ·rename_i x hx j'
      exact nrm _ _ (j', x) ⟨by simp only; omega, by omega, stp e x (by rw [mrg, if_pos (by assumption)]) hx⟩ (Wk.cut ⟨[], rfl⟩ (Nat.le_of_ble_eq_true rfl) rfl (by repeat' first | exact trivial | refine And.intro ?_ ?_ | rfl))
     ·rename_i v hvv x hx j'
      exact nrm _ _ (j', x) ⟨by simp only; omega, by omega, stp v x (by rw [mrg, if_neg (by assumption), if_pos (by assumption)]; omega) hx⟩ (Wk.cut ⟨[], rfl⟩ (Nat.le_of_ble_eq_true rfl) rfl (by repeat' first | exact trivial | refine And.intro ?_ ?_ | rfl))
     ·rename_i j'
      exact nrm _ _ (j', bl) ⟨by simp only; omega, by omega, skp (by rw [mrg, if_neg (by assumption), if_neg (by assumption)])⟩ (Wk.cut ⟨[], rfl⟩ (Nat.le_of_ble_eq_true rfl) rfl (by repeat' first | exact trivial | refine And.intro ?_ ?_ | rfl))
    ·have e : j = nn := by omega
     conv => cbv
     repeat' first | (refine ex _ _ _ ?_; (conv => cbv)) | (refine rt _ _ ?_; (conv => cbv)) | (intro (_ : Unit); first | omega | rfl | exact ⟨rfl, by omega⟩ | (simp only [nI_eq]; omega) | ((repeat' first | rfl | omega | refine And.intro ?_ ?_ | (simp only [nI_eq]; omega) | (simp only [List.length_cons, List.length_nil]; omega) | exact Nat.le_of_ble_eq_true rfl); done)) | exact trivial | refine And.intro ?_ ?_ | (intro hc; exact absurd hc (by decide)) | (intro hc; exfalso; omega) | (intro hc; (first | rw [wrap_small (by omega) (by omega)] at hc | rw [nI_eq] at hc | skip); try (conv => cbv))
     rename_i i'
     have e1 : es2 = ((rowsS t down A).take (k + 1)).map encRow := by
      rw [hes2, take_succ_get hrow, List.map_append, List.drop_zero, hn6, List.take_length, hes, hdd2]; rfl
     have e2 : bl = (allS t down (A.take (k + 1))).map encI := by
      rw [hB]
      congr 1
      refine List.ext_getElem? fun p => ?_
      rcases Nat.lt_or_ge p nn with hp | hp
      ·have h1 := hpt p hp
       rw [if_pos (by omega)] at h1
       rw [hmg p hp, ← h1, gt, List.getD_eq_getElem?_getD, Int.toNat_natCast, List.getElem?_eq_getElem (by omega)]; rfl
      ·rw [List.getElem?_eq_none (by omega), List.getElem?_eq_none (by rw [allS_len]; omega)]
     exact norm _ _ (i', ve + 1, r', m', es2, false, [[.list false 1 dd]], true, bl) ⟨by simp only; omega, by omega, by simp only; rw [hm', hes2, List.drop_zero, hn6, List.take_length]; simp, e1, by omega, rfl, e2⟩ (Wk.cut ⟨[], rfl⟩ (Nat.le_of_ble_eq_true rfl) rfl (by repeat' first | exact trivial | refine And.intro ?_ ?_ | rfl))
  ·cases first
   ·obtain ⟨hk0, hrl, hall⟩ := hfst
    subst hrl
    conv => cbv
    repeat' first | (refine ex _ _ _ ?_; (conv => cbv)) | (refine rt _ _ ?_; (conv => cbv)) | (intro (_ : Unit); first | omega | rfl | exact ⟨rfl, by omega⟩ | (simp only [nI_eq]; omega) | ((repeat' first | rfl | omega | refine And.intro ?_ ?_ | (simp only [nI_eq]; omega) | (simp only [List.length_cons, List.length_nil]; omega) | exact Nat.le_of_ble_eq_true rfl); done)) | exact trivial | refine And.intro ?_ ?_ | (intro hc; exact absurd hc (by decide)) | (intro hc; exfalso; omega) | (intro hc; (first | rw [wrap_small (by omega) (by omega)] at hc | rw [nI_eq] at hc | skip); try (conv => cbv))
    rename_i ls1 h1 ls2
    refine k1 _ _ ?_ ?_
    ·rw [h1, List.drop_zero, hn6, List.take_length, hes, List.take_of_length_le (by rw [rowsS, List.length_map]; omega)]
    ·rw [hc, List.drop_zero, List.take_of_length_le (by rw [hall, List.length_map, allS_len]; omega), hall, List.take_of_length_le (by omega)]
   ·simp only at hfst
    exact absurd hl0 (by omega)
 ·rw [if_neg hf] at hK
  clear hclone hdist
  by_cases h1 : anyB t A = true
  ·have hv := (of_decide_eq_true h1).1
   have h2 := hfits h1
   rw [decide_eq_false (fun h => hf ⟨h1, by simpa [fitsB, hv] using h⟩)] at h2
   rw [h1] at hval
   clear hfits hf h1 hv
   simp only [intsA, intsD, boolsA, boolsD, rowsA, List.map_nil] at *
   generalize down.map encB = dl at *
   generalize A.map encI = al at *
   obtain ⟨nodes, ov, links⟩ := t
   simp only [topA, boolsD, linksD] at *
   generalize hol : ov.map encB = ol at *
   generalize hll : links.map encLk = ll at *
   have hlo : Λ ol = ov.length := by rw [Λo, ← hol]; simp
   have hls : Λ ll = links.length := by rw [Λo, ← hll]; simp
   conv => cbv
   repeat' first | (refine call_r hval rfl rfl ?_; conv => cbv) | (refine call_r h2 rfl rfl ?_; conv => cbv) | (intro (_ : Unit); first | omega | rfl | exact ⟨rfl, by omega⟩ | (simp only [nI_eq]; omega) | ((repeat' first | rfl | omega | refine And.intro ?_ ?_ | (simp only [nI_eq]; omega) | (simp only [List.length_cons, List.length_nil]; omega) | exact Nat.le_of_ble_eq_true rfl); done)) | exact trivial | refine And.intro ?_ ?_ | (intro hc; exact absurd hc (by decide)) | (intro hc; exfalso; omega) | (intro hc; (first | rw [wrap_small (by omega) (by omega)] at hc | rw [nI_eq] at hc | skip); try (conv => cbv))
   exact hK
  ·rw [Bool.eq_false_iff.2 h1] at hval
   clear hfits hf h1
   simp only [intsA, intsD, boolsA, boolsD, rowsA, List.map_nil] at *
   generalize down.map encB = dl at *
   generalize A.map encI = al at *
   obtain ⟨nodes, ov, links⟩ := t
   simp only [topA, boolsD, linksD] at *
   generalize hol : ov.map encB = ol at *
   generalize hll : links.map encLk = ll at *
   have hlo : Λ ol = ov.length := by rw [Λo, ← hol]; simp
   have hls : Λ ll = links.length := by rw [Λo, ← hll]; simp
   conv => cbv
   repeat' first | (refine call_r hval rfl rfl ?_; conv => cbv) | (intro (_ : Unit); first | omega | rfl | exact ⟨rfl, by omega⟩ | (simp only [nI_eq]; omega) | ((repeat' first | rfl | omega | refine And.intro ?_ ?_ | (simp only [nI_eq]; omega) | (simp only [List.length_cons, List.length_nil]; omega) | exact Nat.le_of_ble_eq_true rfl); done)) | exact trivial | refine And.intro ?_ ?_ | (intro hc; exact absurd hc (by decide)) | (intro hc; exfalso; omega) | (intro hc; (first | rw [wrap_small (by omega) (by omega)] at hc | rw [nI_eq] at hc | skip); try (conv => cbv))
   exact hK
end Go.Ab

/-
  Groups: Dist, as the program and as the reference find it.
-/
namespace Go.Ab
open Go.Proofs
theorem mrg_lo {a d : Int} (ha : -1 ≤ a) (hd : -1 ≤ d) : -1 ≤ mrg a d := by
 unfold mrg; repeat' split
 all_goals omega
theorem fold_lo : ∀ (l : List Int) (a : Int), -1 ≤ a → (∀ x ∈ l, -1 ≤ x) → -1 ≤ l.foldl mrg a
 | [], a, h, _ => h
 | x :: l, a, h, hl => fold_lo l _ (mrg_lo h (hl x (by simp))) fun y hy => hl y (by simp [hy])
end Go.Ab

/-
  Groups: the nearest members.
-/
namespace Go.Ab
open Go.Proofs
noncomputable def nearS (t : Top) (down : List Bool) (A : List Int) (n : Int) : List Int × Int × Int :=
 if anyB t A = true ∧ fitsB t down = true then (if 0 ≤ n ∧ n < t.nodes then (if gt (allS t down A) n < 0 then ([], 0, 11) else (A.filter fun m => decide (gt (distS t down m false) n = gt (allS t down A) n), gt (allS t down A) n, 0)) else ([], 0, 2)) else ([], 0, 1)
theorem any_mem {t : Top} {A : List Int} (h : anyB t A = true) : ∀ m ∈ A, 0 ≤ m ∧ m < t.nodes := fun m hm => by
 obtain ⟨k, hk, e⟩ := List.mem_iff_getElem.1 hm
 have := (of_decide_eq_true h).2.2 k hk
 rw [okAt, List.getD_eq_getElem?_getD, List.getElem?_eq_getElem hk, Option.getD_some, e] at this
 exact ⟨this.1, this.2.1⟩
set_option maxHeartbeats 4000000 in
theorem anear_ok (P : Program) (hP : P = Try.prog) (t : Top) (down : List Bool) (A : List Int) (n : Int) (hA : (A.length : Int) ≤ 2000000) :
  Ret P n_anycast_Nearest [topA t, boolsA down, intsA A, iA n] (.tup [intsA (nearS t down A n).1, iA (nearS t down A n).2.1, iA (nearS t down A n).2.2]) := by
 refine ret_start (hP ▸ mixed) (hP ▸ fn_anycast_Nearest) (hP ▸ c_anycast_Nearest) (Nat.le_of_ble_eq_true rfl) fun Λ Λo K hK => ?_
 have hd := adists_ok P hP t down A hA
 have hnode := gnode_ok P hP t n
 clear hP
 rw [nearS] at hK
 by_cases hf : anyB t A = true ∧ fitsB t down = true
 ·rw [if_pos hf] at hK hd
  have hv := (of_decide_eq_true hf.1).1
  have v1 := validT_spec.1 hv
  by_cases hn : 0 ≤ n ∧ n < t.nodes
  ·rw [if_pos hn] at hK
   rw [decide_eq_true hn] at hnode
   have hmem := any_mem hf.1
   have hsp : ∀ m : Int, 0 ≤ m → m < t.nodes → ((distS t down m false).length : Int) = t.nodes := fun m h0 h1 => (distS_spec hv down false h0 h1).1.len
   have hza : ((allS t down A).map encI)[n.toNat]? = some [iD (gt (allS t down A) n)] := by
    rw [encI_at (by rw [allS_len]; omega), Int.toNat_of_nonneg hn.1]
   have hrw : ∀ (k : Nat) (m : Int), A[k]? = some m → ((rowsS t down A).map encRow)[k]? = some [.list false 1 ((distS t down m false).map encI)] := fun k m h => by
    rw [rowsS, List.getElem?_map, List.getElem?_map, h]; rfl
   obtain ⟨an, han⟩ : ∃ a, a = gt (allS t down A) n := ⟨_, rfl⟩
   rw [← han] at hK hza
   have k1 : an < 0 → K (.tup [intsA [], iA 0, iA 11]) := fun h => by rw [if_pos h] at hK; exact hK
   have k2 : ¬ an < 0 → ∀ ls, ls = (A.filter fun m => decide (gt (distS t down m false) n = an)).map encI → K (.tup [.c (.d (.list false 1 ls)), iA an, iA 0]) := fun h ls hl => by rw [if_neg h] at hK; rw [hl]; exact hK
   clear hK hf
   obtain ⟨nodes, hN⟩ : ∃ x, x = t.nodes := ⟨_, rfl⟩
   obtain ⟨ol, hol⟩ : ∃ x, x = t.ov.map encB := ⟨_, rfl⟩
   obtain ⟨ll, hll⟩ : ∃ x, x = t.links.map encLk := ⟨_, rfl⟩
   obtain ⟨dl, hdl⟩ : ∃ x, x = down.map encB := ⟨_, rfl⟩
   obtain ⟨al, hal⟩ : ∃ x, x = A.map encI := ⟨_, rfl⟩
   obtain ⟨zl, hzl⟩ : ∃ x, x = (allS t down A).map encI := ⟨_, rfl⟩
   obtain ⟨rl, hrl⟩ : ∃ x, x = (rowsS t down A).map encRow := ⟨_, rfl⟩
   have lal : Λ al = A.length := by rw [Λo, hal]; simp
   have lzl : Λ zl = t.nodes := by rw [Λo, hzl]; simp [allS_len]; omega
   have lrl : Λ rl = A.length := by rw [Λo, hrl]; simp [rowsS]
   simp only [topA, boolsA, boolsD, linksD, intsA, intsD, rowsA, ← hN, ← hol, ← hll, ← hdl, ← hal, ← hzl, ← hrl] at hd hnode hza hrw k1 ⊢
   clear hol hll hdl
   conv => cbv
   repeat' first | (refine call_r hd rfl rfl ?_; conv => cbv) | (refine call_r hnode rfl rfl ?_; conv => cbv) | (intro (e : List D) he; cases Option.some.inj (he.symm.trans hza); (conv => cbv)) | (intro (_ : Unit); first | omega | rfl | exact ⟨rfl, by omega⟩ | (simp only [nI_eq]; omega) | ((repeat' first | rfl | omega | refine And.intro ?_ ?_ | (simp only [nI_eq]; omega) | (simp only [List.length_cons, List.length_nil]; omega) | exact Nat.le_of_ble_eq_true rfl); done)) | exact trivial | refine And.intro ?_ ?_ | (intro hc; exact absurd hc (by decide)) | (intro hc; exfalso; omega) | (intro hc; (first | rw [wrap_small (by omega) (by omega)] at hc | rw [nI_eq] at hc | skip); try (conv => cbv))
   ·exact k1 (by assumption)
   have k2 := k2 (by assumption)
   clear k1 hd hnode
   refine loop_up A.length (fun (s : Int × Nat × Nat × Bool × List (List D)) => [(3, iA n), (11, .c (.d (.list false 1 rl))), (12, .c (.d (.list false 1 zl))), (14, .c (.arr 1 s.2.1 0 s.2.2.1)), (37, .c (.d (.list false 1 al))), (38, iA (Λ al)), (39, iA s.1)]) (fun s => [.bx [.d (iD nodes), .d (.list false 1 ol), .d (.list false 7 ll)], .da s.2.2.2.1 s.2.1 1 s.2.2.2.2])
    (fun k s => s.1 = k ∧ k ≤ A.length ∧ s.2.2.1 = s.2.2.2.2.length ∧ s.2.2.2.2 = ((A.take k).filter fun m => decide (gt (distS t down m false) n = an)).map encI) (0, 0, 0, false, []) (.trans (.nilS 14 1 rfl) (Wk.cut ⟨_, rfl⟩ (Nat.zero_le _) rfl (by repeat' first | exact trivial | refine And.intro ?_ ?_ | rfl))) ⟨rfl, by omega, rfl, rfl⟩ (fun k s h => h.2.1) ?_
   rintro k ⟨i, ve, m0, r, es⟩ Q' ⟨hi, hk, hm0, hes⟩ norm ex rt
   simp only at hi hm0 hes
   have hesl : es.length ≤ k := by
    rw [hes, List.length_map]
    refine Nat.le_trans (List.length_filter_le _ _) ?_
    simp; omega
   by_cases hlt : k < A.length
   ·obtain ⟨m, hm⟩ : ∃ m, A[k]? = some m := ⟨_, List.getElem?_eq_getElem hlt⟩
    have hra : al[i.toNat]? = some [iD m] := by rw [hi, Int.toNat_natCast, hal, List.getElem?_map, hm]; rfl
    have hro : rl[i.toNat]? = some [.list false 1 ((distS t down m false).map encI)] := by rw [hi, Int.toNat_natCast]; exact hrw k m hm
    have hmo := hmem m (List.mem_of_getElem? hm)
    have lenD := hsp m hmo.1 hmo.2
    have hdn : ((distS t down m false).map encI)[n.toNat]? = some [iD (gt (distS t down m false) n)] := by rw [encI_at (by omega), Int.toNat_of_nonneg hn.1]
    have tk : (A.take (k + 1)).filter (fun m => decide (gt (distS t down m false) n = an)) = (A.take k).filter (fun m => decide (gt (distS t down m false) n = an)) ++ if gt (distS t down m false) n = an then [m] else [] := by
     rw [take_succ_get hm, List.filter_append, List.filter_cons]; simp only [decide_eq_true_eq]; rfl
    have ldd : Λ ((distS t down m false).map encI) = t.nodes := by rw [Λo, List.length_map]; exact lenD
    generalize gt (distS t down m false) n = dn at *
    generalize (distS t down m false).map encI = dd at *
    clear hrw hsp k2
    conv => cbv
    repeat' first | (refine ex _ _ _ ?_; (conv => cbv)) | (refine rt _ _ ?_; (conv => cbv)) | (intro (e : List D) he; cases Option.some.inj (he.symm.trans hra); (conv => cbv)) | (intro (e : List D) he; cases Option.some.inj (he.symm.trans hro); (conv => cbv)) | (intro (e : List D) he; cases Option.some.inj (he.symm.trans hdn); (conv => cbv)) | (intro (e : List D) he; cases Option.some.inj (he.symm.trans hza); (conv => cbv)) | (intro (_ : Unit); refine ⟨rfl, ?_⟩; simp only [List.length_cons, List.length_nil]; omega) | (intro (_ : Unit); first | omega | rfl | exact ⟨rfl, by omega⟩ | (simp only [nI_eq]; omega) | ((repeat' first | rfl | omega | refine And.intro ?_ ?_ | (simp only [nI_eq]; omega) | (simp only [List.length_cons, List.length_nil]; omega) | exact Nat.le_of_ble_eq_true rfl); done)) | exact trivial | refine And.intro ?_ ?_ | (intro hc; exact absurd hc (by decide)) | (intro hc; exfalso; omega) | (intro hc; (first | rw [wrap_small (by omega) (by omega)] at hc | rw [nI_eq] at hc | skip); try (conv => cbv))
    ·rename_i hq m' r' es2 hm' hr' he' i'
     refine norm _ _ (_, _, _, _, _) ?_ (Wk.cut ⟨_, rfl⟩ (Nat.zero_le _) rfl (by repeat' first | exact trivial | refine And.intro ?_ ?_ | rfl))
     have e : es2 = ((A.take (k + 1)).filter fun m => decide (gt (distS t down m false) n = an)).map encI := by
      rw [tk, if_pos hq, he', List.drop_zero, hm0, List.take_length, hes, List.map_append]; rfl
     exact ⟨by simp only; omega, by omega, by simp only; rw [hm', he', List.drop_zero, hm0, List.take_length]; simp, e⟩
    ·rename_i hq i'
     refine norm _ _ (_, _, _, _, _) ?_ (Wk.cut ⟨_, rfl⟩ (Nat.zero_le _) rfl (by repeat' first | exact trivial | refine And.intro ?_ ?_ | rfl))
     have e : es = ((A.take (k + 1)).filter fun m => decide (gt (distS t down m false) n = an)).map encI := by
      rw [tk, if_neg hq, hes, List.append_nil]
     exact ⟨by simp only; omega, by omega, hm0, e⟩
   ·conv => cbv
    repeat' first | (refine ex _ _ _ ?_; (conv => cbv)) | (refine rt _ _ ?_; (conv => cbv)) | (intro (e : List D) he; cases Option.some.inj (he.symm.trans hza); (conv => cbv)) | (intro (_ : Unit); first | omega | rfl | exact ⟨rfl, by omega⟩ | (simp only [nI_eq]; omega) | ((repeat' first | rfl | omega | refine And.intro ?_ ?_ | (simp only [nI_eq]; omega) | (simp only [List.length_cons, List.length_nil]; omega) | exact Nat.le_of_ble_eq_true rfl); done)) | exact trivial | refine And.intro ?_ ?_ | (intro hc; exact absurd hc (by decide)) | (intro hc; exfalso; omega) | (intro hc; (first | rw [wrap_small (by omega) (by omega)] at hc | rw [nI_eq] at hc | skip); try (conv => cbv))
    rename_i ls
    exact k2 _ (by rw [hc, List.drop_zero, hm0, List.take_length, hes, List.take_of_length_le (by omega)])
  ·rw [if_neg hn] at hK
   rw [decide_eq_false hn] at hnode
   clear hf
   simp only [intsA, intsD, boolsA, boolsD, rowsA, List.map_nil] at *
   generalize (rowsS t down A).map encRow = rs at *
   generalize (allS t down A).map encI = zs at *
   generalize down.map encB = dl at *
   generalize A.map encI = al at *
   clear hn hv v1
   obtain ⟨nodes, ov, links⟩ := t
   simp only [topA, boolsD, linksD] at *
   generalize hol : ov.map encB = ol at *
   generalize hll : links.map encLk = ll at *
   have hlo : Λ ol = ov.length := by rw [Λo, ← hol]; simp
   have hls : Λ ll = links.length := by rw [Λo, ← hll]; simp
   conv => cbv
   repeat' first | (refine call_r hd rfl rfl ?_; conv => cbv) | (refine call_r hnode rfl rfl ?_; conv => cbv) | (intro (_ : Unit); first | omega | rfl | exact ⟨rfl, by omega⟩ | (simp only [nI_eq]; omega) | ((repeat' first | rfl | omega | refine And.intro ?_ ?_ | (simp only [nI_eq]; omega) | (simp only [List.length_cons, List.length_nil]; omega) | exact Nat.le_of_ble_eq_true rfl); done)) | exact trivial | refine And.intro ?_ ?_ | (intro hc; exact absurd hc (by decide)) | (intro hc; exfalso; omega) | (intro hc; (first | rw [wrap_small (by omega) (by omega)] at hc | rw [nI_eq] at hc | skip); try (conv => cbv))
   exact hK
 ·rw [if_neg hf] at hK hd
  clear hf hnode
  simp only [intsA, intsD, boolsA, boolsD, rowsA, List.map_nil] at *
  generalize down.map encB = dl at *
  generalize A.map encI = al at *
  obtain ⟨nodes, ov, links⟩ := t
  simp only [topA, boolsD, linksD] at *
  generalize hol : ov.map encB = ol at *
  generalize hll : links.map encLk = ll at *
  have hlo : Λ ol = ov.length := by rw [Λo, ← hol]; simp
  have hls : Λ ll = links.length := by rw [Λo, ← hll]; simp
  conv => cbv
  repeat' first | (refine call_r hd rfl rfl ?_; conv => cbv) | (intro (_ : Unit); first | omega | rfl | exact ⟨rfl, by omega⟩ | (simp only [nI_eq]; omega) | ((repeat' first | rfl | omega | refine And.intro ?_ ?_ | (simp only [nI_eq]; omega) | (simp only [List.length_cons, List.length_nil]; omega) | exact Nat.le_of_ble_eq_true rfl); done)) | exact trivial | refine And.intro ?_ ?_ | (intro hc; exact absurd hc (by decide)) | (intro hc; exfalso; omega) | (intro hc; (first | rw [wrap_small (by omega) (by omega)] at hc | rw [nI_eq] at hc | skip); try (conv => cbv))
  exact hK
end Go.Ab

/-
  Groups: the reference's parts of Next.
-/
namespace Go.Ab
open Go.Proofs
def mergeR : List Int → List Int → List Int
 | [], b => b
 | x :: a, [] => x :: a
 | x :: a, y :: b => if x < y then x :: mergeR a (y :: b) else if y < x then y :: mergeR (x :: a) b else x :: mergeR a b
termination_by a b => a.length + b.length
end Go.Ab

/-
  Groups: Next as the reference finds it.
-/
namespace Go.Ab
open Go.Proofs
noncomputable def unionS (t : Top) (down : List Bool) (M : List Int) (n : Int) : List Int := (M.map fun m => nextL t down (distS t down m false) n m).foldl mergeR []
noncomputable def anextS (t : Top) (down : List Bool) (A : List Int) (n : Int) : List Int × Int :=
 if (nearS t down A n).2.2 = 0 then (unionS t down (nearS t down A n).1 n, 0) else ([], (nearS t down A n).2.2)
theorem nearS_zero {t : Top} {down : List Bool} {A : List Int} {n : Int} (h : (nearS t down A n).2.2 = 0) : anyB t A = true ∧ fitsB t down = true ∧ (0 ≤ n ∧ n < t.nodes) ∧ ¬ gt (allS t down A) n < 0 ∧ (nearS t down A n).1 = A.filter (fun m => decide (gt (distS t down m false) n = gt (allS t down A) n)) := by
 unfold nearS at h ⊢
 split at h
 ·rename_i hf
  split at h
  ·rename_i hn
   split at h
   ·simp at h
   ·rename_i hg
    rw [if_pos hf, if_pos hn, if_neg hg]
    exact ⟨hf.1, hf.2, hn, hg, rfl⟩
  ·simp at h
 ·simp at h
theorem nextL_len (t : Top) (down : List Bool) (E : List Int) (n d : Int) : (nextL t down E n d).length ≤ 2 * t.links.length := by
 refine Nat.le_trans (List.length_filter_le _ _) ?_
 simp [arcsTo]
end Go.Ab

/-
  Increasing lists: merging, sorting and compacting give the same.
-/
namespace Go.Ab
open Go.Proofs
theorem sinc_ext : ∀ {a b : List Int}, a.Pairwise (· < ·) → b.Pairwise (· < ·) → (∀ x, x ∈ a ↔ x ∈ b) → a = b
 | [], [], _, _, _ => rfl
 | [], y :: b, _, _, h => absurd ((h y).2 (by simp)) (by simp)
 | x :: a, [], _, _, h => absurd ((h x).1 (by simp)) (by simp)
 | x :: a, y :: b, ha, hb, h => by
  have ha := List.pairwise_cons.1 ha
  have hb := List.pairwise_cons.1 hb
  have e : x = y := by
   rcases List.mem_cons.1 ((h x).1 (by simp)) with e | e
   ·exact e
   ·rcases List.mem_cons.1 ((h y).2 (by simp)) with e2 | e2
    ·exact e2.symm
    ·have := hb.1 x e; have := ha.1 y e2; omega
  subst e
  rw [sinc_ext ha.2 hb.2 fun z => ⟨fun hz => ?_, fun hz => ?_⟩]
  ·rcases List.mem_cons.1 ((h z).1 (List.mem_cons_of_mem _ hz)) with e | e
   ·have := ha.1 z hz; omega
   ·exact e
  ·rcases List.mem_cons.1 ((h z).2 (List.mem_cons_of_mem _ hz)) with e | e
   ·have := hb.1 z hz; omega
   ·exact e
theorem mem_mergeR (a b : List Int) (z : Int) : z ∈ mergeR a b ↔ z ∈ a ∨ z ∈ b := by
 fun_induction mergeR a b with
 | case1 b => simp
 | case2 x a => simp
 | case3 x a y b h ih => simp only [List.mem_cons, ih, or_assoc]
 | case4 x a y b h1 h2 ih => simp only [List.mem_cons, ih]; exact or_left_comm
 | case5 x a y b h1 h2 ih =>
  have e : x = y := by omega
  subst e
  simp only [List.mem_cons, ih]
  constructor
  ·rintro (h | h | h)
   ·exact .inl (.inl h)
   ·exact .inl (.inr h)
   ·exact .inr (.inr h)
  ·rintro ((h | h) | h | h)
   ·exact .inl h
   ·exact .inr (.inl h)
   ·exact .inl h
   ·exact .inr (.inr h)
theorem sinc_mergeR (a b : List Int) (ha : a.Pairwise (· < ·)) (hb : b.Pairwise (· < ·)) : (mergeR a b).Pairwise (· < ·) := by
 fun_induction mergeR a b with
 | case1 b => exact hb
 | case2 x a => exact ha
 | case3 x a y b h ih =>
  have h1 := List.pairwise_cons.1 ha
  have h2 := List.pairwise_cons.1 hb
  refine List.pairwise_cons.2 ⟨fun z hz => ?_, ih h1.2 hb⟩
  rcases (mem_mergeR _ _ z).1 hz with e | e
  ·exact h1.1 z e
  ·rcases List.mem_cons.1 e with e | e
   ·omega
   ·have := h2.1 z e; omega
 | case4 x a y b h h' ih =>
  have h1 := List.pairwise_cons.1 ha
  have h2 := List.pairwise_cons.1 hb
  refine List.pairwise_cons.2 ⟨fun z hz => ?_, ih ha h2.2⟩
  rcases (mem_mergeR _ _ z).1 hz with e | e
  ·rcases List.mem_cons.1 e with e | e
   ·omega
   ·have := h1.1 z e; omega
  ·exact h2.1 z e
 | case5 x a y b h h' ih =>
  have h1 := List.pairwise_cons.1 ha
  have h2 := List.pairwise_cons.1 hb
  refine List.pairwise_cons.2 ⟨fun z hz => ?_, ih h1.2 h2.2⟩
  rcases (mem_mergeR _ _ z).1 hz with e | e
  ·exact h1.1 z e
  ·have := h2.1 z e; omega
theorem sinc_arcs (k : Nat) : (arcsTo k).Pairwise (· < ·) := by
 rw [arcsTo, List.pairwise_map]
 exact List.pairwise_lt_range.imp fun h => by omega
theorem sinc_next (t : Top) (down : List Bool) (E : List Int) (n d : Int) : (nextL t down E n d).Pairwise (· < ·) := (sinc_arcs _).filter _
theorem fold_mergeR : ∀ (L : List (List Int)) (a : List Int), a.Pairwise (· < ·) → (∀ l ∈ L, l.Pairwise (· < ·)) → (L.foldl mergeR a).Pairwise (· < ·) ∧ ∀ z, z ∈ L.foldl mergeR a ↔ z ∈ a ∨ ∃ l ∈ L, z ∈ l
 | [], a, ha, _ => ⟨ha, fun z => by simp⟩
 | l :: L, a, ha, h => by
  obtain ⟨h1, h2⟩ := fold_mergeR L (mergeR a l) (sinc_mergeR a l ha (h l (by simp))) fun x hx => h x (by simp [hx])
  refine ⟨h1, fun z => ?_⟩
  rw [List.foldl_cons, h2, mem_mergeR]
  simp only [List.mem_cons, exists_eq_or_imp, or_assoc]
def compL : List Int → List Int
 | [] => []
 | [x] => [x]
 | x :: y :: l => if x = y then compL (y :: l) else x :: compL (y :: l)
theorem mem_compL : ∀ (l : List Int) (z : Int), z ∈ compL l ↔ z ∈ l
 | [], z => by simp [compL]
 | [x], z => by simp [compL]
 | x :: y :: l, z => by
  rw [compL]
  have ih := mem_compL (y :: l) z
  split
  ·rename_i e
   rw [ih, e]; simp
  ·rw [List.mem_cons, ih, List.mem_cons (a := z) (b := x)]
theorem sinc_compL : ∀ (l : List Int), l.Pairwise (· ≤ ·) → (compL l).Pairwise (· < ·)
 | [], _ => by simp [compL]
 | [x], _ => by simp [compL]
 | x :: y :: l, h => by
  have h1 := List.pairwise_cons.1 h
  have h2 := List.pairwise_cons.1 h1.2
  rw [compL]
  split
  ·exact sinc_compL _ h1.2
  ·rename_i hne
   refine List.pairwise_cons.2 ⟨fun z hz => ?_, sinc_compL _ h1.2⟩
   have hxy := h1.1 y (by simp)
   rcases List.mem_cons.1 ((mem_compL _ z).1 hz) with e | e
   ·omega
   ·have := h2.1 z e; omega
theorem comp_merge {L : List (List Int)} {s : List Int} (hL : ∀ l ∈ L, l.Pairwise (· < ·)) (hs : s.Pairwise (· ≤ ·)) (hm : ∀ z, z ∈ s ↔ ∃ l ∈ L, z ∈ l) : compL s = L.foldl mergeR [] := by
 obtain ⟨h1, h2⟩ := fold_mergeR L [] .nil hL
 refine sinc_ext (sinc_compL s hs) h1 fun z => ?_
 rw [mem_compL, h2, hm]; simp
end Go.Ab

/-
  Groups: the distances to the nearest member, plainly: steps towards it.
-/
namespace Go.Ab
open Go.Proofs
theorem fold_mrg : ∀ (l : List Int) (a : Int), -1 ≤ a → (∀ x ∈ l, -1 ≤ x) → (l.foldl mrg a = a ∨ l.foldl mrg a ∈ l) ∧ (0 ≤ a → 0 ≤ l.foldl mrg a ∧ l.foldl mrg a ≤ a) ∧ ∀ x ∈ l, 0 ≤ x → 0 ≤ l.foldl mrg a ∧ l.foldl mrg a ≤ x
  | [], a, _, _ => ⟨.inl rfl, fun h => ⟨h, Int.le_refl _⟩, fun x hx => by cases hx⟩
  | y :: l, a, ha, hl => by
    have hy := hl y (by simp)
    have hm := mrg_lo ha hy
    obtain ⟨h1, h2, h3⟩ := fold_mrg l (mrg a y) hm fun x hx => hl x (by simp [hx])
    rw [List.foldl_cons]
    have c : mrg a y = a ∨ mrg a y = y := by unfold mrg; repeat' split
                                             all_goals omega
    have c1 : 0 ≤ a → 0 ≤ mrg a y ∧ mrg a y ≤ a := by unfold mrg; repeat' split
                                                      all_goals omega
    have c2 : 0 ≤ y → 0 ≤ mrg a y ∧ mrg a y ≤ y := by unfold mrg; repeat' split
                                                      all_goals omega
    refine ⟨?_, fun h => ?_, fun x hx h => ?_⟩
    · rcases h1 with h1 | h1
      · rcases c with c | c
        · exact .inl (h1.trans c)
        · exact .inr (by rw [h1, c]; simp)
      · exact .inr (by simp [h1])
    · have := h2 (c1 h).1; have := c1 h; omega
    · rcases List.mem_cons.1 hx with rfl | hx
      · have := h2 (c2 h).1; have := c2 h; omega
      · exact h3 x hx h
theorem allS_gt2 {t : Top} {down : List Bool} {A : List Int} {i : Nat} (h : i < t.nodes.toNat) : gt (allS t down A) i = ((rowsS t down A).map fun D => gt D i).foldl mrg (-1) := by
 rw [gt, List.getD_eq_getElem?_getD, Int.toNat_natCast, allS_at h]; rfl
section
variable {t : Top} {down : List Bool} {A : List Int}
theorem all_facts (hv : validT t = true) (hA : ∀ m ∈ A, 0 ≤ m ∧ m < t.nodes) {n : Int} (h0 : 0 ≤ n) (h1 : n < t.nodes) :
  (∀ m ∈ A, 0 ≤ gt (distS t down m false) n → 0 ≤ gt (allS t down A) n ∧ gt (allS t down A) n ≤ gt (distS t down m false) n) ∧ (0 ≤ gt (allS t down A) n → ∃ m ∈ A, gt (distS t down m false) n = gt (allS t down A) n) ∧
   -1 ≤ gt (allS t down A) n ∧ gt (allS t down A) n ≤ 4194240 := by
 obtain ⟨i, rfl⟩ : ∃ i : Nat, n = i := ⟨n.toNat, by omega⟩
 have hb : ∀ m ∈ A, -1 ≤ gt (distS t down m false) i ∧ gt (distS t down m false) i ≤ 4194240 := fun m hm => (distS_spec hv down false (hA m hm).1 (hA m hm).2).2 i (by omega) (by omega)
 rw [allS_gt2 (by omega)]
 have e : (rowsS t down A).map (fun D => gt D i) = A.map fun m => gt (distS t down m false) i := by rw [rowsS, List.map_map]; rfl
 rw [e]
 have hlo : ∀ x ∈ A.map (fun m => gt (distS t down m false) i), -1 ≤ x := fun x hx => by
  obtain ⟨m, hm, rfl⟩ := List.mem_map.1 hx
  exact (hb m hm).1
 obtain ⟨f1, f2, f3⟩ := fold_mrg _ (-1) (by omega) hlo
 refine ⟨fun m hm h => f3 _ (List.mem_map.2 ⟨m, hm, rfl⟩) h, fun h => ?_, fold_lo _ _ (by omega) hlo, ?_⟩
 ·rcases f1 with f1 | f1
  ·omega
  ·obtain ⟨m, hm, e⟩ := List.mem_map.1 f1
   exact ⟨m, hm, e⟩
 ·rcases f1 with f1 | f1
  ·omega
  ·obtain ⟨m, hm, e⟩ := List.mem_map.1 f1
   have := (hb m hm).2; omega
theorem mem_next {E : List Int} {n d a : Int} : a ∈ nextL t down E n d ↔ (0 ≤ a ∧ a < 2 * t.links.length) ∧ tailT t a = n ∧ onB t down E a d = true := by
 simp only [nextL, List.mem_filter, arcsTo, List.mem_map, List.mem_range, Bool.and_eq_true, decide_eq_true_eq]
 constructor
 ·rintro ⟨⟨k, hk, rfl⟩, h⟩
  exact ⟨⟨by omega, by omega⟩, h⟩
 ·rintro ⟨⟨h0, h1⟩, h⟩
  exact ⟨⟨a.toNat, by omega, by omega⟩, h⟩
theorem onB_spec {E : List Int} {a d : Int} : onB t down E a d = true ↔ upB down a = true ∧ tailT t a ≠ d ∧ 0 ≤ gt E (headT t a) ∧ transitB t (headT t a) d = true ∧ gt E (tailT t a) = gt E (headT t a) + costT t a := by
 simp only [onB, Bool.and_eq_true, Bool.not_eq_true', decide_eq_true_eq, decide_eq_false_iff_not, and_assoc, ne_eq]
theorem mem_union {M : List Int} {n a : Int} : a ∈ unionS t down M n ↔ ∃ m ∈ M, a ∈ nextL t down (distS t down m false) n m := by
 rw [unionS, (fold_mergeR _ [] .nil fun l hl => by obtain ⟨m, _, rfl⟩ := List.mem_map.1 hl; exact sinc_next ..).2 a]
 constructor
 ·rintro (h | ⟨l, hl, h⟩)
  ·cases h
  ·obtain ⟨m, hm, rfl⟩ := List.mem_map.1 hl
   exact ⟨m, hm, h⟩
 ·rintro ⟨m, hm, h⟩
  exact .inr ⟨_, List.mem_map.2 ⟨m, hm, rfl⟩, h⟩
theorem sinc_union (M : List Int) (n : Int) : (unionS t down M n).Pairwise (· < ·) :=
 (fold_mergeR _ [] .nil fun l hl => by obtain ⟨m, _, rfl⟩ := List.mem_map.1 hl; exact sinc_next ..).1
theorem near_zero (hv : validT t = true) {m n : Int} (hm : 0 ≤ m ∧ m < t.nodes) (h0 : 0 ≤ n) (h1 : n < t.nodes) (h : gt (distS t down m false) n = 0) : n = m := by
 by_cases e : n = m
 ·exact e
 ·obtain ⟨a, a0, a1, _, _, hy, hd⟩ := (distS_spec hv down false hm.1 hm.2).1.tight n h0 h1 e (by omega)
  have := (arc_facts hv a0 a1).2.2.2
  omega
theorem step_all (hv : validT t = true) (hA : ∀ m ∈ A, 0 ≤ m ∧ m < t.nodes) {n a m : Int} (hm : m ∈ A) (hn : gt (distS t down m false) n = gt (allS t down A) n) (ha : a ∈ nextL t down (distS t down m false) n m) :
  (0 ≤ a ∧ a < 2 * t.links.length) ∧ tailT t a = n ∧ upB down a = true ∧ (0 ≤ headT t a ∧ headT t a < t.nodes) ∧ 0 ≤ gt (allS t down A) (headT t a) ∧ gt (allS t down A) (headT t a) = gt (allS t down A) n - costT t a ∧ (1 ≤ costT t a ∧ costT t a ≤ 65535) ∧
   ∀ m' ∈ A, gt (distS t down m' false) (headT t a) = gt (allS t down A) (headT t a) → gt (distS t down m' false) n = gt (allS t down A) n := by
 obtain ⟨⟨a0, a1⟩, ht, ho⟩ := mem_next.1 ha
 obtain ⟨o1, o2, o3, o4, o5⟩ := onB_spec.1 ho
 obtain ⟨⟨x0, x1⟩, ⟨y0, y1⟩, hne, c0, c1⟩ := arc_facts hv a0 a1
 rw [ht] at o5 x0 x1
 obtain ⟨g1, g2, g3, g4⟩ := all_facts (down := down) hv hA y0 y1
 obtain ⟨b1, b2, b3, b4⟩ := all_facts (down := down) hv hA x0 x1
 obtain ⟨l0, l1⟩ := g1 m hm o3
 have key : ∀ m' ∈ A, gt (distS t down m' false) (headT t a) = gt (allS t down A) (headT t a) → 0 ≤ gt (distS t down m' false) n ∧ gt (distS t down m' false) n ≤ gt (allS t down A) (headT t a) + costT t a := by
  intro m' hm' e
  have hs := (distS_spec hv down false (hA m' hm').1 (hA m' hm').2).1
  by_cases htr : transitB t (headT t a) m' = true
  ·have := hs.fix a a0 a1 (by simp only [okArc, yOf, Bool.false_eq_true, if_false, o1, htr]; rfl) (by simp only [yOf, Bool.false_eq_true, if_false]; omega)
   simp only [xOf, yOf, Bool.false_eq_true, if_false, ht] at this
   omega
  ·exfalso
   simp only [transitB, Bool.or_eq_true, decide_eq_true_eq] at htr o4
   have e2 : headT t a = m := by
    rcases o4 with h | h
    ·exact h
    ·exact absurd (.inr h) htr
   have z := (distS_spec hv down false (hA m hm).1 (hA m hm).2).1.zero
   rw [e2] at l0 l1 e
   have := near_zero (down := down) hv (hA m' hm') (hA m hm).1 (hA m hm).2 (by omega)
   exact htr (.inl (by omega))
 obtain ⟨m2, hm2, e2⟩ := g2 l0
 have k2 := key m2 hm2 e2
 have k3 := b1 m2 hm2 k2.1
 refine ⟨⟨a0, a1⟩, ht, o1, ⟨y0, y1⟩, l0, by omega, ⟨c0, c1⟩, fun m' hm' e => ?_⟩
 have k4 := key m' hm' e
 have k5 := b1 m' hm' k4.1
 omega
theorem union_nil (hv : validT t = true) (hA : ∀ m ∈ A, 0 ≤ m ∧ m < t.nodes) {n : Int} (h0 : 0 ≤ n) (h1 : n < t.nodes) (hn : 0 ≤ gt (allS t down A) n) :
  unionS t down (A.filter fun m => decide (gt (distS t down m false) n = gt (allS t down A) n)) n = [] ↔ n ∈ A := by
 obtain ⟨b1, b2, b3, b4⟩ := all_facts (down := down) hv hA h0 h1
 constructor
 ·intro h
  obtain ⟨m, hm, e⟩ := b2 hn
  by_cases en : n = m
  ·rw [en]; exact hm
  ·exfalso
   obtain ⟨a, a0, a1, ho, hx, hy, hd⟩ := (distS_spec hv down false (hA m hm).1 (hA m hm).2).1.tight n h0 h1 en (by omega)
   simp only [okArc, xOf, yOf, Bool.false_eq_true, if_false, Bool.and_eq_true] at ho hx hy hd
   have hin : a ∈ unionS t down (A.filter fun m => decide (gt (distS t down m false) n = gt (allS t down A) n)) n :=
    mem_union.2 ⟨m, List.mem_filter.2 ⟨hm, by simpa using e⟩, mem_next.2 ⟨⟨a0, a1⟩, hx, onB_spec.2 ⟨ho.1, by rw [hx]; exact en, hy, ho.2, by rw [hx]; exact hd⟩⟩⟩
   rw [h] at hin
   cases hin
 ·intro h
  have z := (distS_spec hv down false h0 h1).1.zero
  have := b1 n h (by omega)
  apply List.eq_nil_iff_forall_not_mem.2
  intro a ha
  obtain ⟨m, hm, ha⟩ := mem_union.1 ha
  obtain ⟨hm1, hm2⟩ := List.mem_filter.1 hm
  simp only [decide_eq_true_eq] at hm2
  have e := near_zero (down := down) hv (hA m hm1) h0 h1 (by omega)
  obtain ⟨_, ht, ho⟩ := mem_next.1 ha
  exact (onB_spec.1 ho).2.1 (by rw [ht]; exact e)
end
theorem cnt_lt {α : Type} (p q : α → Bool) : ∀ (l : List α), (∀ x ∈ l, p x = true → q x = true) → (l.filter p).length ≤ (l.filter q).length ∧ ((∃ x ∈ l, q x = true ∧ p x = false) → (l.filter p).length < (l.filter q).length)
 | [], _ => ⟨Nat.le_refl _, fun ⟨x, hx, _⟩ => by cases hx⟩
 | y :: l, h => by
  obtain ⟨h1, h2⟩ := cnt_lt p q l fun x hx => h x (by simp [hx])
  have hy := h y (by simp)
  constructor
  ·cases hp : p y
   ·rw [List.filter_cons_of_neg (by simp [hp])]
    cases hq : q y
    ·rw [List.filter_cons_of_neg (by simp [hq])]; exact h1
    ·rw [List.filter_cons_of_pos hq, List.length_cons]; omega
   ·rw [List.filter_cons_of_pos hp, List.filter_cons_of_pos (hy hp), List.length_cons, List.length_cons]; omega
  ·rintro ⟨x, hx, hq, hp⟩
   rcases List.mem_cons.1 hx with rfl | hx
   ·rw [List.filter_cons_of_neg (by simp [hp]), List.filter_cons_of_pos hq, List.length_cons]; omega
   ·have := h2 ⟨x, hx, hq, hp⟩
    cases hp : p y
    ·rw [List.filter_cons_of_neg (by simp [hp])]
     cases hq : q y
     ·rw [List.filter_cons_of_neg (by simp [hq])]; exact this
     ·rw [List.filter_cons_of_pos hq, List.length_cons]; omega
    ·rw [List.filter_cons_of_pos hp, List.filter_cons_of_pos (hy hp), List.length_cons, List.length_cons]; omega
noncomputable def nearer (t : Top) (down : List Bool) (A : List Int) (v : Int) : Nat := ((List.range t.nodes.toNat).filter fun (i : Nat) => decide (0 ≤ gt (allS t down A) i ∧ gt (allS t down A) i < v)).length
theorem below_lt {t : Top} {down : List Bool} {A : List Int} {h : Int} (h0 : 0 ≤ h) (h1 : h < t.nodes) (hd : 0 ≤ gt (allS t down A) h) {v : Int} (hv : gt (allS t down A) h < v) : nearer t down A (gt (allS t down A) h) + 1 ≤ nearer t down A v := by
 refine (cnt_lt _ _ _ fun x _ hx => ?_).2 ⟨h.toNat, by rw [List.mem_range]; omega, ?_, ?_⟩
 ·simp only [decide_eq_true_eq] at hx ⊢; omega
 ·rw [Int.toNat_of_nonneg h0]; simp only [decide_eq_true_eq]; omega
 ·rw [Int.toNat_of_nonneg h0]; simp only [decide_eq_false_iff_not]; omega
theorem below_le (t : Top) (down : List Bool) (A : List Int) (v : Int) : nearer t down A v ≤ t.nodes.toNat := by
 refine Nat.le_trans (List.length_filter_le _ _) ?_
 simp
end Go.Ab

