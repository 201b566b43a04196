/-
  Merged texts, part n.
-/
import Derived.Test.YtpmananoicnhlaaZm
/-
  Groups: the reference's parts of Next.
-/
namespace Go.Ab
open Go.Proofs
set_option maxHeartbeats 1000000 in
theorem towards_ok (P : Program) (hP : P = Try.prog) (t : Top) (down : List Bool) (n d : Int) (hf : fitsB t down = true) (hd : 0 ≤ d ∧ d < t.nodes) : Ret P n_ref16_Towards [topA t, boolsA down, iA n, iA d] (intsA (nextL t down (distS t down d false) n d)) := by
 obtain ⟨hv, hdn⟩ : validT t = true ∧ (down.length = 0 ∨ down.length = 2 * t.links.length) := by simpa [fitsB] using hf
 have hsp := distS_spec hv down false hd.1 hd.2
 have hs : Ret P n_ref11_Dist [topA t, boolsA down, iA d] (.tup [intsA (distS t down d false), iA 0]) := by
  have := dist_ok P hP t down d
  rw [searchS, if_pos hf, if_pos hd] at this
  exact this
 have ht := tail_ok P hP t
 have hon := fun a h0 h1 => on_ok P hP t down (distS t down d false) a d hv hdn h0 h1 hsp.1.len hsp.2
 refine ret_start (hP ▸ mixed) (hP ▸ fn_ref16_Towards) (hP ▸ c_ref16_Towards) (Nat.le_of_ble_eq_true rfl) fun Λ Λo K hK => ?_
 clear hP
 have hl256 := (validT_spec.1 hv).2.2.1
 have ho : nextL t down (distS t down d false) n d = (arcsTo (2 * t.links.length)).filter fun a => decide (tailT t a = n) && onB t down (distS t down d false) a d := rfl
 rw [ho] at hK
 clear ho hsp
 generalize hf : tailT t = f at *
 obtain ⟨g, hg⟩ : ∃ g : Int → Bool, ∀ a, onB t down (distS t down d false) a d = g a := ⟨_, fun _ => rfl⟩
 simp only [hg] at hon hK
 clear hg
 generalize distS t down d false = E at *
 simp only [intsA, intsD, boolsA, boolsD] at *
 generalize E.map encI = es at *
 generalize down.map encB = dl at *
 obtain ⟨nodes, ov, links⟩ := t
 simp only [topA, boolsD, linksD] at *
 generalize hol : ov.map encB = ol at *
 generalize hll : links.map encLk = ll at *
 have hlo : Λ ol = ov.length := by rw [Λo, ← hol]; simp
 have hls : Λ ll = links.length := by rw [Λo, ← hll]; simp
 generalize hv2 : 2 * links.length = v at *
 conv => cbv
 repeat' first | (refine call_r hs rfl rfl ?_; conv => cbv) | exact gu | exact trivial | refine And.intro ?_ ?_ | (intro hc; exact absurd hc (by decide)) | (intro hc; exfalso; omega) | (intro hc; (first | rw [wrap_small (by omega) (by omega)] at hc | rw [nI_eq] at hc | skip); try (conv => cbv))
 refine loop_up v (fun (s : Int × Nat × Nat × Bool × List (List D)) => [(1, .c (.d (.list false 1 dl))), (2, iA n), (3, iA d), (4, .c (.ptr 0 0 0 0)), (9, .c (.d (.list false 1 es))), (10, iA 0), (11, .c (.arr 1 s.2.1 0 s.2.2.1)), (12, iA s.1)]) (fun s => [.bx [.d (.int .i64 nodes), .d (.list false 1 ol), .d (.list false 7 ll)], .da s.2.2.2.1 s.2.1 1 s.2.2.2.2])
  (fun k s => s.1 = k ∧ k ≤ v ∧ s.2.2.1 = s.2.2.2.2.length ∧ s.2.2.2.2 = (((arcsTo k).filter fun a => decide (f a = n) && g a).map encI)) (0, 0, 0, false, []) (.trans (.nilS 11 1 rfl) (Wk.cw)) ⟨rfl, by omega, rfl, rfl⟩ (fun k s h => h.2.1) ?_
 rintro k ⟨i, ve, m, r, es'⟩ Q' ⟨hi, hk, hm, hes⟩ norm ex rt
 simp only at hi hm hes
 have hesl : es'.length ≤ k := by
  rw [hes, List.length_map]
  refine Nat.le_trans (List.length_filter_le _ _) ?_
  simp [arcsTo]
 conv => cbv
 repeat' first | (refine ex _ _ _ ?_; (conv => cbv)) | (refine rt _ _ ?_; (conv => cbv)) | refine call_i (ht _) rfl rfl ?_ | refine call_b (hon _ (by omega) (by omega)) rfl rfl ?_ ?_ | (intro (_ : Unit); refine ⟨rfl, ?_⟩; simp only [List.length_cons, List.length_nil]; omega) | exact gu | exact trivial | refine And.intro ?_ ?_ | (intro hc; exact absurd hc (by decide)) | (intro hc; exfalso; omega) | (intro hc; (first | rw [wrap_small (by omega) (by omega)] at hc | rw [nI_eq] at hc | skip); try (conv => cbv))
 ·rename_i hfi hn hgi m' r' es2 hm' hr' he' i'
  refine norm _ _ (_, _, _, _, _) ?_ (Wk.cw)
  have e : es2 = ((arcsTo (k + 1)).filter fun a => decide (f a = n) && g a).map encI := by
   rw [he', List.drop_zero, hm, List.take_length, hes, arcsTo_succ, List.filter_append, List.map_append]
   rw [← hi, List.filter_cons_of_pos (by rw [hgi, decide_eq_true (by omega)]; rfl)]; rfl
  exact ⟨by simp only; omega, by omega, by simp only; rw [hm', he', List.drop_zero, hm, List.take_length]; simp, e⟩
 ·rename_i hfi hn hgi i'
  refine norm _ _ (_, _, _, _, _) ?_ (Wk.cw)
  have e : es' = ((arcsTo (k + 1)).filter fun a => decide (f a = n) && g a).map encI := by
   rw [hes, arcsTo_succ, List.filter_append, List.map_append]
   rw [← hi, List.filter_cons_of_neg (by rw [hgi]; simp)]; simp
  exact ⟨by simp only; omega, by omega, hm, e⟩
 ·rename_i hfi hn i'
  refine norm _ _ (_, _, _, _, _) ?_ (Wk.cw)
  have e : es' = ((arcsTo (k + 1)).filter fun a => decide (f a = n) && g a).map encI := by
   rw [hes, arcsTo_succ, List.filter_append, List.map_append]
   rw [← hi, List.filter_cons_of_neg (by rw [decide_eq_false (by omega)]; simp)]; simp
  exact ⟨by simp only; omega, by omega, hm, e⟩
 ·rename_i ls
  have e : ls = ((arcsTo v).filter fun a => decide (f a = n) && g a).map encI := by
   rw [hc, List.drop_zero, hm, List.take_length, hes, show k = v by omega]
  subst e
  exact hK
def mergeR : List Int → List Int → List Int
 | [], b => b
 | x :: a, [] => x :: a
 | x :: a, y :: b => if x < y then x :: mergeR a (y :: b) else if y < x then y :: mergeR (x :: a) b else x :: mergeR a b
termination_by a b => a.length + b.length
theorem mergeR_nil (a : List Int) : mergeR a [] = a := by cases a <;> simp [mergeR]
theorem mergeR_cons (x : Int) (a : List Int) (y : Int) (b : List Int) : mergeR (x :: a) (y :: b) = if x < y then x :: mergeR a (y :: b) else if y < x then y :: mergeR (x :: a) b else x :: mergeR a b := by rw [mergeR]
set_option maxHeartbeats 2000000 in
theorem merge_ok (P : Program) (hP : P = Try.prog) (a b : List Int) (ha : a.length ≤ 1000000) (hb : b.length ≤ 1000000) : Ret P n_ref16_Merge [intsA a, intsA b] (intsA (mergeR a b)) := by
 refine ret_start (hP ▸ mixed) (hP ▸ fn_ref16_Merge) (hP ▸ c_ref16_Merge) (Nat.le_of_ble_eq_true rfl) fun Λ Λo K hK => ?_
 clear hP
 have k1 : ∀ ls, ls = (mergeR a b).map encI → K (.c (.d (.list false 1 ls))) := fun ls h => by rw [h]; exact hK
 clear hK
 obtain ⟨al, hal⟩ : ∃ x, x = a.map encI := ⟨_, rfl⟩
 obtain ⟨bl, hbl⟩ : ∃ x, x = b.map encI := ⟨_, rfl⟩
 simp only [intsA, intsD, ← hal, ← hbl]
 conv => cbv
 repeat' first | exact gu | exact trivial | refine And.intro ?_ ?_ | (intro hc; exact absurd hc (by decide)) | (intro hc; exfalso; omega) | (intro hc; (first | rw [wrap_small (by omega) (by omega)] at hc | rw [nI_eq] at hc | skip); try (conv => cbv))
 refine loop_up (a.length + b.length) (fun (s : List (List D) × List (List D) × Nat × Nat × Bool × List (List D)) => [(0, .c (.d (.list false 1 s.1))), (1, .c (.d (.list false 1 s.2.1))), (5, .c (.arr 0 s.2.2.1 0 s.2.2.2.1))]) (fun s => [.da s.2.2.2.2.1 s.2.2.1 1 s.2.2.2.2.2])
  (fun k s => ∃ x y z : List Int, s.1 = x.map encI ∧ s.2.1 = y.map encI ∧ s.2.2.2.2.2 = z.map encI ∧ s.2.2.2.1 = z.length ∧ z.length ≤ k ∧ x.length + y.length + k ≤ a.length + b.length ∧ z ++ mergeR x y = mergeR a b) (al, bl, 0, 0, false, []) (.trans (.nilS 5 1 rfl) (Wk.cw)) ⟨a, b, [], hal, hbl, rfl, rfl, Nat.zero_le _, by omega, rfl⟩ (fun k s ⟨x, y, z, _, _, _, _, _, h, _⟩ => by omega) ?_
 rintro k ⟨xl, yl, ve, m, r, es⟩ Q' ⟨x, y, z, hx, hy, hz, hm, hzk, hk, hmr⟩ norm ex rt
 simp only at hx hy hz hm
 have lx : Λ xl = x.length := by rw [Λo, hx]; simp
 have ly : Λ yl = y.length := by rw [Λo, hy]; simp
 have lz : es.length = z.length := by rw [hz]; simp
 have push : ∀ (L : Lv) (h : Hp) (v : Int) (xl' yl' es' : List (List D)) (x' y' : List Int) (m' : Nat) (r' : Bool), xl' = x'.map encI → yl' = y'.map encI → m' = m + 1 → es' = (es.drop 0).take m ++ [[iD v]] → x'.length + y'.length + 1 ≤ x.length + y.length → mergeR x y = v :: mergeR x' y' →
   Wk 0 L h [(0, .c (.d (.list false 1 xl'))), (1, .c (.d (.list false 1 yl'))), (5, .c (.arr 0 (ve + 1) 0 m'))] [.da r' (ve + 1) 1 es'] → Q' .normal L h := fun L h v xl' yl' es' x' y' m' r' h1 h2 h3 h4 h5 h6 hw => by
  refine norm _ _ (xl', yl', ve + 1, m', r', es') ⟨x', y', z ++ [v], h1, h2, ?_, ?_, ?_, by omega, ?_⟩ hw
  ·simp only; rw [h4, List.drop_zero, hm, ← lz, List.take_length, hz, List.map_append]; rfl
  ·simp only; rw [h3, hm]; simp
  ·simp; omega
  ·rw [← hmr, h6]; simp
 clear norm
 cases x with
 | nil =>
  cases y with
  | nil =>
   clear push
   simp only [List.length_nil] at lx ly
   conv => cbv
   repeat' first | (refine ex _ _ _ ?_; (conv => cbv)) | (refine rt _ _ ?_; (conv => cbv)) | exact gu | exact trivial | refine And.intro ?_ ?_ | (intro hc; exact absurd hc (by decide)) | (intro hc; exfalso; omega) | (intro hc; (first | rw [wrap_small (by omega) (by omega)] at hc | rw [nI_eq] at hc | skip); try (conv => cbv))
   rename_i ls
   refine k1 _ ?_
   rw [hc, List.drop_zero, hm, ← lz, List.take_length, hz, ← hmr, mergeR_nil, List.append_nil]
  | cons q y =>
   obtain ⟨yr, hyr⟩ : ∃ r, r = List.drop 1 yl := ⟨_, rfl⟩
   have hyr2 : yr = y.map encI := by rw [hyr, hy]; rfl
   have hy0 : yl[0]? = some [iD q] := by rw [hy]; rfl
   have psh := fun L h m' r' es' h3 h4 hw => push L h q xl yr es' [] y m' r' hx hyr2 h3 h4 (by simp) (by rw [mergeR, mergeR]) hw
   simp only [List.length_nil, List.length_cons] at lx ly
   clear push
   conv => cbv
   repeat' first | (refine ex _ _ _ ?_; (conv => cbv)) | (refine rt _ _ ?_; (conv => cbv)) | (intro (e : List D) he; cases Option.some.inj (he.symm.trans hy0); (conv => cbv)) | (intro (x : List (List D)) (hx : x = List.drop 1 yl); refine (fun (hz : yr = x) => ?_) (hyr.trans hx.symm); subst hz; (conv => cbv)) | (intro (_ : Unit); refine ⟨rfl, ?_⟩; simp only [List.length_cons, List.length_nil]; omega) | exact gu | exact trivial | refine And.intro ?_ ?_ | (intro hc; exact absurd hc (by decide)) | (intro hc; exfalso; omega) | (intro hc; (first | rw [wrap_small (by omega) (by omega)] at hc | rw [nI_eq] at hc | skip); try (conv => cbv))
   rename_i m' r' es' hm' hr'
   exact psh _ _ m' r' es' (by rw [hm']; simp) hc (Wk.cw)
 | cons p x =>
  obtain ⟨xr, hxr⟩ : ∃ r, r = List.drop 1 xl := ⟨_, rfl⟩
  have hxr2 : xr = x.map encI := by rw [hxr, hx]; rfl
  have hx0 : xl[0]? = some [iD p] := by rw [hx]; rfl
  cases y with
  | nil =>
   have psh := fun L h m' r' es' h3 h4 hw => push L h p xr yl es' x [] m' r' hxr2 hy h3 h4 (by simp) (by rw [mergeR_nil, mergeR_nil]) hw
   simp only [List.length_nil, List.length_cons] at lx ly
   clear push
   conv => cbv
   repeat' first | (refine ex _ _ _ ?_; (conv => cbv)) | (refine rt _ _ ?_; (conv => cbv)) | (intro (e : List D) he; cases Option.some.inj (he.symm.trans hx0); (conv => cbv)) | (intro (x : List (List D)) (hx : x = List.drop 1 xl); refine (fun (hz : xr = x) => ?_) (hxr.trans hx.symm); subst hz; (conv => cbv)) | (intro (_ : Unit); refine ⟨rfl, ?_⟩; simp only [List.length_cons, List.length_nil]; omega) | exact gu | exact trivial | refine And.intro ?_ ?_ | (intro hc; exact absurd hc (by decide)) | (intro hc; exfalso; omega) | (intro hc; (first | rw [wrap_small (by omega) (by omega)] at hc | rw [nI_eq] at hc | skip); try (conv => cbv))
   rename_i m' r' es' hm' hr'
   exact psh _ _ m' r' es' (by rw [hm']; simp) hc (Wk.cw)
  | cons q y =>
   obtain ⟨yr, hyr⟩ : ∃ r, r = List.drop 1 yl := ⟨_, rfl⟩
   have hyr2 : yr = y.map encI := by rw [hyr, hy]; rfl
   have hy0 : yl[0]? = some [iD q] := by rw [hy]; rfl
   have ps1 := fun (h0 : p < q) L h m' r' es' h3 h4 hw => push L h p xr yl es' x (q :: y) m' r' hxr2 hy h3 h4 (by simp only [List.length_cons]; omega) (by rw [mergeR_cons, if_pos h0]) hw
   have ps2 := fun (h0 : q < p) L h m' r' es' h3 h4 hw => push L h q xl yr es' (p :: x) y m' r' hx hyr2 h3 h4 (by simp only [List.length_cons]; omega) (by rw [mergeR_cons, if_neg (by omega), if_pos h0]) hw
   have ps3 := fun (h0 : p = q) L h m' r' es' h3 h4 hw => push L h p xr yr es' x y m' r' hxr2 hyr2 h3 h4 (by simp only [List.length_cons]; omega) (by rw [mergeR_cons, if_neg (by omega), if_neg (by omega)]) hw
   simp only [List.length_cons] at lx ly
   clear push
   conv => cbv
   repeat' first | (refine ex _ _ _ ?_; (conv => cbv)) | (refine rt _ _ ?_; (conv => cbv)) | (intro (e : List D) he; cases Option.some.inj (he.symm.trans hx0); (conv => cbv)) | (intro (e : List D) he; cases Option.some.inj (he.symm.trans hy0); (conv => cbv)) | (intro (x : List (List D)) (hx : x = List.drop 1 xl); refine (fun (hz : xr = x) => ?_) (hxr.trans hx.symm); subst hz; (conv => cbv)) | (intro (x : List (List D)) (hx : x = List.drop 1 yl); refine (fun (hz : yr = x) => ?_) (hyr.trans hx.symm); subst hz; (conv => cbv)) | (intro (_ : Unit); refine ⟨rfl, ?_⟩; simp only [List.length_cons, List.length_nil]; omega) | exact gu | exact trivial | refine And.intro ?_ ?_ | (intro hc; exact absurd hc (by decide)) | (intro hc; exfalso; omega) | (intro hc; (first | rw [wrap_small (by omega) (by omega)] at hc | rw [nI_eq] at hc | skip); try (conv => cbv))
   all_goals first
    | (rename_i m' r' es' hm' hr'; exact ps1 (by omega) _ _ m' r' es' (by rw [hm']; simp) (by assumption) (Wk.cw))
    | (rename_i m' r' es' hm' hr'; exact ps2 (by omega) _ _ m' r' es' (by rw [hm']; simp) (by assumption) (Wk.cw))
    | (rename_i m' r' es' hm' hr' hh; exact ps3 (by omega) _ _ m' r' es' (by rw [hm']; simp) (by assumption) (Wk.cw))
end Go.Ab

/-
  Increasing lists: merging, sorting and compacting give the same.
-/
namespace Go.Ab
open Go.Proofs
theorem sinc_ext : ∀ {a b : List Int}, a.Pairwise (· < ·) → b.Pairwise (· < ·) → (∀ x, x ∈ a ↔ x ∈ b) → a = b
 | [], [], _, _, _ => rfl
 | [], y :: b, _, _, h => absurd ((h y).2 (by simp)) (by simp)
 | x :: a, [], _, _, h => absurd ((h x).1 (by simp)) (by simp)
 | x :: a, y :: b, ha, hb, h => by
  have ha := List.pairwise_cons.1 ha
  have hb := List.pairwise_cons.1 hb
  have e : x = y := by
   rcases List.mem_cons.1 ((h x).1 (by simp)) with e | e
   ·exact e
   ·rcases List.mem_cons.1 ((h y).2 (by simp)) with e2 | e2
    ·exact e2.symm
    ·have := hb.1 x e; have := ha.1 y e2; omega
  subst e
  rw [sinc_ext ha.2 hb.2 fun z => ⟨fun hz => ?_, fun hz => ?_⟩]
  ·rcases List.mem_cons.1 ((h z).1 (List.mem_cons_of_mem _ hz)) with e | e
   ·have := ha.1 z hz; omega
   ·exact e
  ·rcases List.mem_cons.1 ((h z).2 (List.mem_cons_of_mem _ hz)) with e | e
   ·have := hb.1 z hz; omega
   ·exact e
theorem mem_mergeR (a b : List Int) (z : Int) : z ∈ mergeR a b ↔ z ∈ a ∨ z ∈ b := by
 fun_induction mergeR a b with
 | case1 b => simp
 | case2 x a => simp
 | case3 x a y b h ih => simp only [List.mem_cons, ih, or_assoc]
 | case4 x a y b h1 h2 ih => simp only [List.mem_cons, ih]; exact or_left_comm
 | case5 x a y b h1 h2 ih =>
  have e : x = y := by omega
  subst e
  simp only [List.mem_cons, ih]
  constructor
  ·rintro (h | h | h)
   ·exact .inl (.inl h)
   ·exact .inl (.inr h)
   ·exact .inr (.inr h)
  ·rintro ((h | h) | h | h)
   ·exact .inl h
   ·exact .inr (.inl h)
   ·exact .inl h
   ·exact .inr (.inr h)
theorem sinc_mergeR (a b : List Int) (ha : a.Pairwise (· < ·)) (hb : b.Pairwise (· < ·)) : (mergeR a b).Pairwise (· < ·) := by
 fun_induction mergeR a b with
 | case1 b => exact hb
 | case2 x a => exact ha
 | case3 x a y b h ih =>
  have h1 := List.pairwise_cons.1 ha
  have h2 := List.pairwise_cons.1 hb
  refine List.pairwise_cons.2 ⟨fun z hz => ?_, ih h1.2 hb⟩
  rcases (mem_mergeR _ _ z).1 hz with e | e
  ·exact h1.1 z e
  ·rcases List.mem_cons.1 e with e | e
   ·omega
   ·have := h2.1 z e; omega
 | case4 x a y b h h' ih =>
  have h1 := List.pairwise_cons.1 ha
  have h2 := List.pairwise_cons.1 hb
  refine List.pairwise_cons.2 ⟨fun z hz => ?_, ih ha h2.2⟩
  rcases (mem_mergeR _ _ z).1 hz with e | e
  ·rcases List.mem_cons.1 e with e | e
   ·omega
   ·have := h1.1 z e; omega
  ·exact h2.1 z e
 | case5 x a y b h h' ih =>
  have h1 := List.pairwise_cons.1 ha
  have h2 := List.pairwise_cons.1 hb
  refine List.pairwise_cons.2 ⟨fun z hz => ?_, ih h1.2 h2.2⟩
  rcases (mem_mergeR _ _ z).1 hz with e | e
  ·exact h1.1 z e
  ·have := h2.1 z e; omega
theorem sinc_arcs (k : Nat) : (arcsTo k).Pairwise (· < ·) := by
 rw [arcsTo, List.pairwise_map]
 exact List.pairwise_lt_range.imp fun h => by omega
theorem sinc_next (t : Top) (down : List Bool) (E : List Int) (n d : Int) : (nextL t down E n d).Pairwise (· < ·) := (sinc_arcs _).filter _
def compL : List Int → List Int
 | [] => []
 | [x] => [x]
 | x :: y :: l => if x = y then compL (y :: l) else x :: compL (y :: l)
theorem mem_compL : ∀ (l : List Int) (z : Int), z ∈ compL l ↔ z ∈ l
 | [], z => by simp [compL]
 | [x], z => by simp [compL]
 | x :: y :: l, z => by
  rw [compL]
  have ih := mem_compL (y :: l) z
  split
  ·rename_i e
   rw [ih, e]; simp
  ·rw [List.mem_cons, ih, List.mem_cons (a := z) (b := x)]
theorem sinc_compL : ∀ (l : List Int), l.Pairwise (· ≤ ·) → (compL l).Pairwise (· < ·)
 | [], _ => by simp [compL]
 | [x], _ => by simp [compL]
 | x :: y :: l, h => by
  have h1 := List.pairwise_cons.1 h
  have h2 := List.pairwise_cons.1 h1.2
  rw [compL]
  split
  ·exact sinc_compL _ h1.2
  ·rename_i hne
   refine List.pairwise_cons.2 ⟨fun z hz => ?_, sinc_compL _ h1.2⟩
   have hxy := h1.1 y (by simp)
   rcases List.mem_cons.1 ((mem_compL _ z).1 hz) with e | e
   ·omega
   ·have := h2.1 z e; omega
end Go.Ab

