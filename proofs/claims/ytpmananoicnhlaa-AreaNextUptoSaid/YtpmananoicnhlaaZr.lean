/-
  Merged texts, part r.
-/
import Derived.Test.YtpmananoicnhlaaZq
/-
  Areas: Dist and Next, as the program finds them; they answer as the reference does.
-/
namespace Go.Ab
open Go.Proofs
theorem best_ok (P : Program) (hP : P = Try.prog) (t : Top) (A : List Int) (down : List Bool) (n d : Int) :
  FnS P n_area_best [topA t, intsA A, boolsA down, iA n, iA d] [] fun r h' =>
   (∃ ve rr, r = .tup [.agg [.d (iD (bestP t A down n d).1.dist), .arr 0 ve 0 (bestP t A down n d).1.arcs.length], iA (bestP t A down n d).2.1, iA (bestP t A down n d).2.2] ∧ h' = [.da rr ve 1 ((bestP t A down n d).1.arcs.map encI)]) ∨
   ((bestP t A down n d).1.arcs = [] ∧ r = .tup [.agg [.d (iD (bestP t A down n d).1.dist), .d (.list true 1 [])], iA (bestP t A down n d).2.1, iA (bestP t A down n d).2.2] ∧ h' = []) := by
 have hb := best_raw P hP t A down n d
 generalize bestP t A down n d = p at *
 obtain ⟨⟨dist, arcs⟩, c, e⟩ := p
 refine FnS.gct hb _ fun r h' hR => ?_
 rcases hR with ⟨l, ve, rr, rfl, hl⟩ | ⟨h0, rfl⟩
 ·have hlt : l < h'.length := get_lt hl
  exact ⟨[l], .tup [.agg [.d (iD dist), .arr 0 ve 0 arcs.length], iA c, iA e], [.da rr ve 1 (arcs.map encI)], .inl ⟨ve, rr, rfl, rfl⟩, rfl, by simp, fun x hx => by rw [List.mem_singleton.1 hx]; exact hlt, fun i k hk => by
    match i, hk with
    | 0, hk => cases Option.some.inj hk; exact hl, rfl, rfl, rfl, by simp, fun i hi => by simp at hi, fun k hk => by simp at hk; subst hk; intro _ _ _ h; cases h⟩
 ·exact ⟨[], .tup [.agg [.d (iD dist), .d (.list true 1 [])], iA c, iA e], [], .inr ⟨h0, rfl, rfl⟩, rfl, by simp, by simp, fun i k hk => by simp at hk, rfl, rfl, rfl, by simp, by simp, by simp⟩
theorem FnS.nil {P : Program} {f : Nat} {R : AV → Hp → Prop} {sz : Nat} (hf : FnS P f [.c (.arr 0 0 0 0)] [.da false 0 sz []] R) : FnS P f [.c (.d (.list true sz []))] [] R := by
 refine ⟨fun G ι w vs hr hv => ?_⟩
 obtain ⟨q1, q2, q3⟩ := new_nil (sz := sz) hr
 obtain ⟨v0, rfl⟩ : ∃ v0, vs = [v0] := by
  have := hv.1
  match vs, this with
  | [x], _ => exact ⟨x, rfl⟩
 have h0 := nil_value (inv_d (hv.2 0 v0 _ rfl rfl))
 subst h0
 refine (hf.out G _ w _ q1 ⟨rfl, fun i v x h1 h2 => ?_⟩).mono fun e w2 ⟨v, r, G2, ι2, h', he, hR, hr2, hvr, hx⟩ => ⟨v, r, G2, ι2, h', he, hR, hr2, hvr, q3.trans hx⟩
 match i, h1, h2 with
 | 0, h1, h2 => cases h1; cases h2; exact q2
set_option maxHeartbeats 1000000 in
theorem adist17_ok (P : Program) (hP : P = Try.prog) (t : Top) (A : List Int) (down : List Bool) (n d : Int) :
  Ret P n_area_Dist [topA t, intsA A, boolsA down, iA n, iA d] (.tup [iA (bestP t A down n d).1.dist, iA (bestP t A down n d).2.1, iA (bestP t A down n d).2.2]) := by
 have hb := best_ok P hP t A down n d
 refine ret_start (hP ▸ mixed) (hP ▸ fn_area_Dist) (hP ▸ c_area_Dist) (Nat.le_of_ble_eq_true rfl) fun Λ Λo K hK => ?_
 clear hP
 generalize bestP t A down n d = p at *
 obtain ⟨⟨dist, arcs⟩, c, e⟩ := p
 simp only [boolsA, intsA, boolsD, intsD] at *
 generalize A.map encI = al at *
 generalize arcs.map encI = rl at *
 generalize down.map encB = dl at *
 obtain ⟨nodes, ov, links⟩ := t
 simp only [topA, boolsD, linksD] at *
 generalize hol : ov.map encB = ol at *
 generalize hll : links.map encLk = ll at *
 have hlo : Λ ol = ov.length := by rw [Λo, ← hol]; simp
 have hls : Λ ll = links.length := by rw [Λo, ← hll]; simp
 conv => cbv
 repeat' first | (refine call_fr [] hb rfl rfl (by decide) trivial rfl rfl ?_; rintro r hc' (⟨ve, rr, rfl, rfl⟩ | ⟨h0, rfl, rfl⟩) <;> (conv => cbv)) | exact gu | exact trivial | refine And.intro ?_ ?_ | (intro hc; exact absurd hc (by decide)) | (intro hc; exfalso; omega) | (intro hc; (first | rw [wrap_small (by omega) (by omega)] at hc | rw [nI_eq] at hc | skip); try (conv => cbv))
 all_goals exact hK
noncomputable def nextK (t : Top) (A : List Int) (down : List Bool) (n d : Int) : List Int := compL ((bestP t A down n d).1.arcs.mergeSort fun x y => decide (x ≤ y))
theorem insP_len {t : Top} {A : List Int} {down : List Bool} {n d : Int} (hl : (t.links.length : Int) ≤ 256) : (insP t A down n d).arcs.length ≤ 512 * 65 := by
 unfold insP; split
 ·simp
 ·have h65 := inS_len t A n
  have : ∀ (l : List Int) (r : Pr), (l.foldl (insPs t A down n d) r).arcs.length ≤ r.arcs.length + 512 * l.length := by
   intro l
   induction l with
   | nil => intro r; simp
   | cons k l ih =>
    intro r
    have h1 := ih (insPs t A down n d r k)
    have h2 := insPs_len t A down n d r k hl
    simp only [List.foldl_cons, List.length_cons]; omega
  have := this (inS t A n) ⟨-1, []⟩
  simp only [List.length_nil] at this; omega
theorem acrP_len {t : Top} {A : List Int} {down : List Bool} {n d : Int} (hl : (t.links.length : Int) ≤ 256) (hn : t.nodes ≤ 64) : (acrP t A down n d).arcs.length ≤ 512 * 64 := by
 unfold acrP; split
 ·have hb := bordN_len t A
  have : ∀ (l : List Int) (r : Pr), (l.foldl (acrPs t A down n d) r).arcs.length ≤ r.arcs.length + 512 * l.length := by
   intro l
   induction l with
   | nil => intro r; simp
   | cons k l ih =>
    intro r
    have h1 := ih (acrPs t A down n d r k)
    have h2 := acrPs_len t A down n d r k hl
    simp only [List.foldl_cons, List.length_cons]; omega
  have := this (bordN t A) ⟨-1, []⟩
  simp only [List.length_nil] at this; omega
 ·simp
theorem farP_len {t : Top} {A : List Int} {down : List Bool} {n d : Int} (hl : (t.links.length : Int) ≤ 256) (hn : t.nodes ≤ 64) : (farP t A down n d).arcs.length ≤ 33280 * 64 := by
 unfold farP; split
 ·simp
 ·have hb := bordN_len t A
  have : ∀ (l : List Int) (r : Pr), (l.foldl (farPs t A down n d) r).arcs.length ≤ r.arcs.length + 33280 * l.length := by
   intro l
   induction l with
   | nil => intro r; simp
   | cons k l ih =>
    intro r
    have h1 := ih (farPs t A down n d r k)
    have h2 := farPs_len t A down n d r k hl
    simp only [List.foldl_cons, List.length_cons]; omega
  have := this (bordN t A) ⟨-1, []⟩
  simp only [List.length_nil] at this; omega
theorem best_len (t : Top) (A : List Int) (down : List Bool) (n d : Int) : (bestP t A down n d).1.arcs.length ≤ 3000000 := by
 unfold bestP
 by_cases h : validK t A = true ∧ fitsB t down = true
 ·have v1 := validT_spec.1 (validK_spec.1 h.1).1
  have h1 := insP_len (A := A) (down := down) (n := n) (d := d) v1.2.2.1
  have h2 := acrP_len (A := A) (down := down) (n := n) (d := d) v1.2.2.1 v1.1.2
  have h3 := farP_len (A := A) (down := down) (n := n) (d := d) v1.2.2.1 v1.1.2
  rw [if_pos h]
  split
  ·split
   ·simp only; omega
   ·split
    ·simp only; omega
    ·split
     ·simp only; omega
     ·simp
  ·simp
 ·rw [if_neg h]; simp
set_option maxHeartbeats 2000000 in
theorem anext17_ok (P : Program) (hP : P = Try.prog) (t : Top) (A : List Int) (down : List Bool) (n d : Int) :
  Ret P n_area_Next [topA t, intsA A, boolsA down, iA n, iA d] (.tup [intsA (nextK t A down n d), iA (bestP t A down n d).2.2]) := by
 have hb := best_ok P hP t A down n d
 have hcm := best_len t A down n d
 refine ret_start (hP ▸ mixed) (hP ▸ fn_area_Next) (hP ▸ c_area_Next) (Nat.le_of_ble_eq_true rfl) fun Λ Λo K hK => ?_
 have hsort : SortsI P n_slices_Sort_int_int := hP ▸ sorts_int
 have hcmp := fun zs h r v => compact_ok P hP zs h r v
 clear hP
 rw [nextK] at hK
 generalize bestP t A down n d = p at *
 obtain ⟨⟨dist, arcs⟩, c, e⟩ := p
 simp only at hb hK hcm
 have hsf := fun r ve => sortI_fn hsort arcs (by omega) r ve
 have hcf := fun r ve => hcmp (arcs.mergeSort fun x y => decide (x ≤ y)) (by rw [List.length_mergeSort]; omega) r ve
 rw [List.length_mergeSort] at hcf
 have hsn := (sortI_fn hsort [] (by simp) false 0).nil
 have hcn := (hcmp [] (by simp) false 0).nil
 clear hsort hcmp
 have hnil : arcs = [] → compL (arcs.mergeSort fun x y => decide (x ≤ y)) = [] := fun h => by rw [h]; simp [compL]
 simp only [List.mergeSort_nil, List.map_nil, List.length_nil, compL] at hsn hcn
 generalize (arcs.mergeSort fun x y => decide (x ≤ y)) = srt at *
 obtain ⟨ul, hul⟩ : ∃ x, x = (compL srt).map encI := ⟨_, rfl⟩
 have k1 : ∀ ls, ls = ul → K (.tup [.c (.d (.list false 1 ls)), iA e]) := fun ls h => by rw [h, hul]; exact hK
 have k2 : arcs = [] → ul = [] := fun h => by rw [hul, hnil h]; rfl
 rw [← hul] at hcf
 clear hK hul hnil
 obtain ⟨el, hel⟩ : ∃ x, x = arcs.map encI := ⟨_, rfl⟩
 obtain ⟨en, hen⟩ : ∃ x, x = arcs.length := ⟨_, rfl⟩
 obtain ⟨sl, hsl⟩ : ∃ x, x = srt.map encI := ⟨_, rfl⟩
 rw [← hel, ← hen] at hb hsf
 rw [← hen, ← hsl] at hcf
 rw [← hsl] at hsf
 simp only [boolsA, intsA, boolsD, intsD] at *
 generalize A.map encI = al at *
 generalize down.map encB = dl at *
 obtain ⟨nodes, ov, links⟩ := t
 simp only [topA, boolsD, linksD] at *
 generalize hol : ov.map encB = ol at *
 generalize hll : links.map encLk = ll at *
 have hlo : Λ ol = ov.length := by rw [Λo, ← hol]; simp
 have hls : Λ ll = links.length := by rw [Λo, ← hll]; simp
 conv => cbv
 repeat' first | (refine call_fr [] hb rfl rfl (by decide) trivial rfl rfl ?_; rintro r hc' (⟨ve, rr, rfl, rfl⟩ | ⟨h0, rfl, rfl⟩) <;> (conv => cbv)) | (refine call_fr [1] (hsf rr ve) rfl rfl (by decide) (by repeat' first | exact trivial | refine And.intro ?_ ?_ | rfl) rfl rfl ?_; rintro r hc' ⟨rfl, rfl⟩; (conv => cbv)) | (refine call_fr [1] (hcf rr ve) rfl rfl (by decide) (by repeat' first | exact trivial | refine And.intro ?_ ?_ | rfl) rfl rfl ?_; rintro r hc' ⟨m2, es2, rfl, rfl, hc1, hc2⟩; (conv => cbv)) | (refine call_fr [] hsn rfl rfl (by decide) trivial rfl rfl ?_; rintro r hc' ⟨rfl, rfl⟩; (conv => cbv)) | (refine call_fr [] hcn rfl rfl (by decide) trivial rfl rfl ?_; rintro r hc' ⟨m2, es2, rfl, rfl, hc1, hc2⟩; (conv => cbv)) | exact gu | exact trivial | refine And.intro ?_ ?_ | (intro hc; exact absurd hc (by decide)) | (intro hc; exfalso; omega) | (intro hc; (first | rw [wrap_small (by omega) (by omega)] at hc | rw [nI_eq] at hc | skip); try (conv => cbv))
 all_goals rename_i ls
 ·exact k1 ls (by rw [hc, List.drop_zero, hc1])
 ·exact k1 ls (by rw [hc, List.drop_zero, hc1, k2 h0])
theorem prt_arcs {c : Int} {p : Pr} {r : Rt} (h : PRt c p r) (hi : r.arcs.Pairwise (· < ·)) : compL (p.arcs.mergeSort fun x y => decide (x ≤ y)) = r.arcs := by
 refine sinc_ext (sinc_compL _ ?_) hi fun z => ?_
 ·exact (List.pairwise_mergeSort (le := fun x y : Int => decide (x ≤ y)) (fun a b c h1 h2 => by simp at *; omega) (fun a b => by simp; omega) _).imp fun h => by simpa using h
 ·rw [mem_compL, List.mem_mergeSort]
  rcases h with ⟨_, h2, rfl⟩ | ⟨_, _, _, h4⟩
  ·rw [h2]; exact Iff.rfl
  ·exact h4 z
theorem best_find (t : Top) (A : List Int) (down : List Bool) (n d : Int) :
  (bestP t A down n d).1.dist = (findK t A down n d).1.dist ∧ (bestP t A down n d).2.1 = (findK t A down n d).1.cls ∧ (bestP t A down n d).2.2 = (findK t A down n d).2 ∧ nextK t A down n d = (findK t A down n d).1.arcs := by
 have hz : compL (([] : List Int).mergeSort fun x y => decide (x ≤ y)) = [] := by simp [compL]
 rw [nextK, findK, checkK, bestP]
 by_cases h1 : validK t A = true ∧ fitsB t down = true
 ·rw [if_pos h1, if_pos h1]
  by_cases h2 : (0 ≤ n ∧ n < t.nodes) ∧ (0 ≤ d ∧ d < t.nodes)
  ·rw [if_pos h2, if_pos h2, if_pos rfl]
   have hv := h1.1
   have hinc := (ofS_b (A := A) (down := down) (validK_spec.1 hv).1 h2.1 h2.2).inc
   have hi := ins_same down n d hv
   by_cases c1 : 0 ≤ (insP t A down n d).dist
   ·have hy := (hi.yes (by omega)).1 c1
    have e : ofS t A down n d = insideS t A down n d := by rw [of_in (by rw [across_in hy]; exact hy), across_in hy]
    rw [e] at hinc ⊢
    have hcl : (insideS t A down n d).cls = 1 := by
     rcases inside_cls t A down n d with q | q
     ·rw [q] at hy; simp [noRt] at hy
     ·exact q
    rw [if_pos c1, if_neg (by omega)]
    exact ⟨(hi.dist c1).symm, hcl.symm, rfl, prt_arcs hi hinc⟩
   ·rw [if_neg c1]
    have hin : ¬ 0 < (insideS t A down n d).cls := fun h => c1 ((hi.yes (by omega)).2 h)
    have ha := acr_same down n d hv c1
    by_cases c2 : 0 ≤ (acrP t A down n d).dist
    ·have hy := (ha.yes (by omega)).1 c2
     rw [of_in hy] at hinc ⊢
     have hcl : (acrossS t A down n d).cls = 2 := by
      rcases across_cls t A down n d hin with q | q
      ·rw [q] at hy; simp [noRt] at hy
      ·exact q
     rw [if_pos c2, if_neg (by omega)]
     exact ⟨(ha.dist c2).symm, hcl.symm, rfl, prt_arcs ha hinc⟩
    ·rw [if_neg c2]
     have hf := far_same down n d hv h2.1 c1 c2
     by_cases c3 : 0 ≤ (farP t A down n d).dist
     ·have hy := (hf.yes (by omega)).1 c3
      have hcl : (ofS t A down n d).cls = 3 := by
       rcases hf with ⟨q, _⟩ | ⟨_, _, q, _⟩
       ·omega
       ·exact q
      rw [if_pos c3, if_neg (by omega)]
      exact ⟨(hf.dist c3).symm, hcl.symm, rfl, prt_arcs hf hinc⟩
     ·rw [if_neg c3, if_pos (by rw [hf.no c3]; rfl)]
      exact ⟨rfl, rfl, rfl, hz⟩
  ·rw [if_neg h2, if_neg h2, if_neg (by decide)]
   exact ⟨rfl, rfl, rfl, hz⟩
 ·rw [if_neg h1, if_neg h1, if_neg (by decide)]
  exact ⟨rfl, rfl, rfl, hz⟩
end Go.Ab

/-
  Shortest paths, part f: distances of a given topology by checking; a ring of four nodes.
-/
namespace Go.Ab
open Go.Proofs
def isDistB (t : Top) (down : List Bool) (e : Int) (fr : Bool) (D : List Int) : Bool :=
 decide ((D.length : Int) = t.nodes) && decide (gt D e = 0) && ((List.range D.length).all fun i => decide (-1 ≤ gt D (i : Nat))) &&
 ((List.range (2 * t.links.length)).all fun a => !(okArc t down e fr (a : Nat) && decide (0 ≤ gt D (yOf t fr (a : Nat)))) || (decide (0 ≤ gt D (xOf t fr (a : Nat))) && decide (gt D (xOf t fr (a : Nat)) ≤ gt D (yOf t fr (a : Nat)) + costT t (a : Nat)))) &&
 ((List.range D.length).all fun x => decide ((x : Int) = e) || decide (gt D (x : Nat) < 0) || (List.range (2 * t.links.length)).any fun a => okArc t down e fr (a : Nat) && decide (xOf t fr (a : Nat) = (x : Nat)) && decide (0 ≤ gt D (yOf t fr (a : Nat))) && decide (gt D (x : Nat) = gt D (yOf t fr (a : Nat)) + costT t (a : Nat)))
theorem isDistB_ok {t : Top} {down : List Bool} {e : Int} {fr : Bool} {D : List Int} (h : isDistB t down e fr D = true) : IsDist t down e fr D := by
 simp only [isDistB, Bool.and_eq_true, decide_eq_true_eq, List.all_eq_true, List.mem_range, Bool.or_eq_true, Bool.not_eq_true', List.any_eq_true] at h
 obtain ⟨⟨⟨⟨h1, h2⟩, h3⟩, h4⟩, h5⟩ := h
 refine ⟨h1, h2, fun i i0 i1 => ?_, fun a a0 a1 => ?_, fun x x0 x1 hx hd => ?_⟩
 ·have := h3 i.toNat (by omega)
  rw [show ((i.toNat : Nat) : Int) = i by omega] at this; exact this
 ·have := h4 a.toNat (by omega)
  rw [show ((a.toNat : Nat) : Int) = a by omega] at this
  intro ho hy
  rcases this with h | h
  ·rw [ho, decide_eq_true hy] at h; cases h
  ·exact h
 ·have := h5 x.toNat (by omega)
  rw [show ((x.toNat : Nat) : Int) = x by omega] at this
  rcases this with (h | h) | ⟨a, ha, ⟨⟨q1, q2⟩, q3⟩, q4⟩
  ·exact absurd h hx
  ·omega
  ·exact ⟨a, by omega, by omega, q1, q2, q3, q4⟩
end Go.Ab

/-
  Functions that runs do not go through: read off the machine's values.
-/
namespace Go.Ab
open Go.Proofs
def decL {α : Type} (f : List D → Option α) : List (List D) → Option (List α)
 | [] => some []
 | x :: r => match f x, decL f r with
  | some a, some l => some (a :: l)
  | _, _ => none
theorem decL_ok {α : Type} {f : List D → Option α} {g : α → List D} (hf : ∀ x a, f x = some a → x = g a) : ∀ {l : List (List D)} {r : List α}, decL f l = some r → l = r.map g := by
 intro l
 induction l with
 | nil => intro r h; simp only [decL, Option.some.injEq] at h; subst h; rfl
 | cons x l ih =>
  intro r h
  simp only [decL] at h
  split at h
  ·rename_i a q h1 h2
   cases h
   rw [hf x a h1, ih h2]; rfl
  ·cases h
def decI : List D → Option Int
 | [.int .i64 n] => some n
 | _ => none
theorem decI_ok (x : List D) (a : Int) (h : decI x = some a) : x = encI a := by
 unfold decI at h
 split at h
 ·cases h; rfl
 ·cases h
def decB : List D → Option Bool
 | [.bool b] => some b
 | _ => none
theorem decB_ok (x : List D) (a : Bool) (h : decB x = some a) : x = encB a := by
 unfold decB at h
 split at h
 ·cases h; rfl
 ·cases h
def decSeg : List D → Option Seg
 | [.int .i64 k, .int .i64 n] => some ⟨k, n⟩
 | _ => none
def decLk : List D → Option Lk
 | [.int .i64 a, .int .i64 b, .int .i64 c, .int .i64 d, .int .i64 e, .int .i64 f, .int .i64 g] => some ⟨a, b, c, d, e, f, g⟩
 | _ => none
theorem decLk_ok (x : List D) (a : Lk) (h : decLk x = some a) : x = encLk a := by
 unfold decLk at h
 split at h
 ·cases h; rfl
 ·cases h
def decEnt : List D → Option Ety
 | [.list false 1 a, .bool r, .list false 2 p] => match decL decI a, decL decSeg p with
  | some a, some p => some ⟨a, r, p⟩
  | _, _ => none
 | _ => none
def decTop : AV → Option Top
 | .agg [.d (.int .i64 n), .d (.list false 1 ol), .d (.list false 7 ll)] => match decL decB ol, decL decLk ll with
  | some o, some l => some ⟨n, o, l⟩
  | _, _ => none
 | _ => none
theorem decTop_ok {x : AV} {t : Top} (h : decTop x = some t) : x = topA t := by
 unfold decTop at h
 split at h
 ·split at h
  ·rename_i n ol ll o l h1 h2
   cases h
   rw [decL_ok decB_ok h1, decL_ok decLk_ok h2]; rfl
  ·cases h
 ·cases h
end Go.Ab

/-
  Areas: routes of closed examples.
-/
namespace Go.Ab
open Go.Proofs
def relaxD (t : Top) (m : List Bool) (e : Int) (E : List Int) (a : Int) : List Int :=
 match okArc t m e false a with
 | true => (match decide (0 ≤ gt E (headT t a)) && (decide (gt E (tailT t a) < 0) || decide (gt E (headT t a) + costT t a < gt E (tailT t a))) with
  | true => E.set (tailT t a).toNat (gt E (headT t a) + costT t a)
  | false => E)
 | false => E
def distC (t : Top) (m : List Bool) (e : Int) : List Int :=
 (List.range t.nodes.toNat).foldl (fun E _ => (arcsTo (2 * t.links.length)).foldl (relaxD t m e) E) ((List.replicate t.nodes.toNat (-1)).set e.toNat 0)
noncomputable def distX (t : Top) (m : List Bool) (e : Int) : List Int := match validT t && isDistB t m e false (distC t m e) with
 | true => distC t m e
 | false => distS t m e false
theorem distX_eq (t : Top) (m : List Bool) (e : Int) : distX t m e = distS t m e false := by
 unfold distX
 split
 ·rename_i h
  rw [Bool.and_eq_true] at h
  exact (distS_eq h.1 (isDistB_ok h.2)).symm
 ·rfl
noncomputable def legX (t : Top) (m : List Bool) (n d more cls : Int) : Rt := if gt (distX t m d) n < 0 then noRt else ⟨gt (distX t m d) n + more, cls, nextL t m (distX t m d) n d⟩
theorem legX_eq (t : Top) (m : List Bool) (n d more cls : Int) : legX t m n d more cls = legS t m n d more cls := by rw [legX, legS, distX_eq]
noncomputable def insX (t : Top) (A : List Int) (down : List Bool) (n d : Int) : Rt := if n = d then ⟨0, 1, []⟩ else (arcsTo 65).foldl (fun r k => if isK t A n k = true ∧ isK t A d k = true then betterS r (legX t (maskS t A down k false) n d 0 1) else r) noRt
theorem insX_eq (t : Top) (A : List Int) (down : List Bool) (n d : Int) : insX t A down n d = insideS t A down n d := by
 rw [insX, insideS]
 simp only [legX_eq]
 rfl
noncomputable def acrX (t : Top) (A : List Int) (down : List Bool) (n d : Int) : Rt :=
 if 0 < (insX t A down n d).cls ∨ isK t A n 0 = false then insX t A down n d else (arcsTo t.nodes.toNat).foldl (fun r b => if borderK t A b = true ∧ ovT t b = false ∧ 0 < (insX t A down b d).cls then betterS r (legX t (maskS t A down 0 false) n b (insX t A down b d).dist 2) else r) (insX t A down n d)
theorem acrX_eq (t : Top) (A : List Int) (down : List Bool) (n d : Int) : acrX t A down n d = acrossS t A down n d := by
 rw [acrX, acrossS]
 simp only [legX_eq, insX_eq]
 rfl
noncomputable def ofX (t : Top) (A : List Int) (down : List Bool) (n d : Int) : Rt :=
 if 0 < (acrX t A down n d).cls ∨ isK t A n 0 = true then acrX t A down n d else (arcsTo t.nodes.toNat).foldl (fun r b => if borderK t A b = true ∧ ovT t b = false ∧ 0 < (acrX t A down b d).cls then (ks 64).foldl (fun r k => if isK t A n k = true ∧ isK t A b k = true then betterS r (legX t (maskS t A down k true) n b (acrX t A down b d).dist 3) else r) r else r) (acrX t A down n d)
theorem ofX_eq (t : Top) (A : List Int) (down : List Bool) (n d : Int) : ofX t A down n d = ofS t A down n d := by
 rw [ofX, ofS]
 simp only [legX_eq, acrX_eq]
 rfl
noncomputable def natKD : List AV → Option AV
 | [a, .c (.d (.list false 1 l)), .c (.d (.list false 1 [])), .c (.d (.int .i64 n)), .c (.d (.int .i64 d))] => match decTop a, decL decI l with
  | some t, some A => (match validK t A && decide (0 ≤ n) && decide (n < t.nodes) && decide (0 ≤ d) && decide (d < t.nodes) && decide ((ofX t A [] n d).cls ≠ 0) with
   | true => some (.tup [iA (ofX t A [] n d).dist, iA (ofX t A [] n d).cls, iA 0])
   | false => none)
  | _, _ => none
 | _ => none
theorem natKD_ok (args : List AV) (r : AV) (h : natKD args = some r) : FnS Try.prog n_area_Dist args [] fun r' _ => r' = r := by
 unfold natKD at h
 split at h
 ·split at h
  ·rename_i a l n d _ _ t A h1 h1'
   split at h
   ·rename_i h2
    cases h
    simp only [Bool.and_eq_true, decide_eq_true_eq] at h2
    obtain ⟨⟨⟨⟨⟨g1, g2⟩, g3⟩, g4⟩, g5⟩, g6⟩ := h2
    have hv := (validK_spec.1 g1).1
    have := adist17_ok Try.prog rfl t A [] n d
    obtain ⟨b1, b2, b3, _⟩ := best_find t A [] n d
    have hc : checkK t A [] n d = 0 := by rw [checkK, if_pos ⟨g1, by simp [fitsB, hv]⟩, if_pos ⟨⟨g2, g3⟩, g4, g5⟩]
    rw [ofX_eq] at g6 ⊢
    rw [findK, if_pos hc, if_neg g6] at b1 b2 b3
    rw [b1, b2, b3] at this
    rw [decTop_ok h1, decL_ok decI_ok h1']
    exact this.mono fun _ _ h => h.2
   ·cases h
  ·cases h
 ·cases h
def natKB : List AV → Option AV
 | [a, .c (.d (.list false 1 l))] => match decTop a, decL decI l with
  | some t, some A => some (intsA (borderS t A))
  | _, _ => none
 | _ => none
theorem natKB_ok (args : List AV) (r : AV) (h : natKB args = some r) : FnS Try.prog n_area_Border args [] fun r' _ => r' = r := by
 unfold natKB at h
 split at h
 ·split at h
  ·rename_i a l _ _ t A h1 h1'
   cases h
   have := aborders_ok Try.prog rfl t A
   rw [decTop_ok h1, decL_ok decI_ok h1']
   exact this.mono fun _ _ h => h.2
  ·cases h
 ·cases h
end Go.Ab

/-
  Runs of closed calls (printed by mktab.py).
-/
namespace Go.Ab
open Go.Proofs
inductive TabsOk (P : Program) : List (Nat × Ent) → Prop
 | nil : TabsOk P []
 | txt {f : Nat} {sc fz : Bool} {af : AF} {fn : Func} {r : List (Nat × Ent)} (h1 : P.funcs[f]? = some fn) (h2 : compF P fn = some af) (h3 : fn.name ≠ "runtime.NumGoroutine") (h4 : TabsOk P r) : TabsOk P ((f, .txt sc fz af) :: r)
 | nat {f : Nat} {g : List AV → Option AV} {r : List (Nat × Ent)} (h1 : FnOk P f) (h2 : ∀ args r, g args = some r → FnS P f args [] fun r' _ => r' = r) (h4 : TabsOk P r) : TabsOk P ((f, .nat g) :: r)
 | nlk {f : Nat} {g : List AV → Option AV} {r : List (Nat × Ent)} (h1 : FnOk P f) (h2 : ∀ args r, g args = some r → FrS P f args r) (h4 : TabsOk P r) : TabsOk P ((f, .nlk g) :: r)
def lkT : List (Nat × Ent) → Tb
 | [], _ => none
 | (i, e) :: r, f => match Nat.beq i f with
  | true => some e
  | false => lkT r f
theorem TabsOk.tab {P : Program} {l : List (Nat × Ent)} (h : TabsOk P l) : TabOk P (lkT l) := by
 induction h with
 | nil => exact ⟨fun f sc fz af h => (by cases h), fun f g h => (by cases h), fun f g h => (by cases h)⟩
 | txt h1 h2 h3 _ ih =>
  refine ⟨fun f sc fz af h => ?_, fun f g h => ?_, fun f g h => ?_⟩
  ·simp only [lkT] at h
   split at h
   ·rename_i hb
    cases h
    have := Nat.eq_of_beq_eq_true hb
    subst this
    exact ⟨_, h1, h3, h2⟩
   ·exact ih.ok f sc fz af h
  ·simp only [lkT] at h
   split at h
   ·cases h
   ·exact ih.nat f g h
  ·simp only [lkT] at h
   split at h
   ·cases h
   ·exact ih.nlk f g h
 | nat h1 h2 _ ih =>
  refine ⟨fun f sc fz af h => ?_, fun f g h => ?_, fun f g h => ?_⟩
  ·simp only [lkT] at h
   split at h
   ·cases h
   ·exact ih.ok f sc fz af h
  ·simp only [lkT] at h
   split at h
   ·rename_i hb
    cases h
    have := Nat.eq_of_beq_eq_true hb
    subst this
    exact ⟨h1, h2⟩
   ·exact ih.nat f g h
  ·simp only [lkT] at h
   split at h
   ·cases h
   ·exact ih.nlk f g h
 | nlk h1 h2 _ ih =>
  refine ⟨fun f sc fz af h => ?_, fun f g h => ?_, fun f g h => ?_⟩
  ·simp only [lkT] at h
   split at h
   ·cases h
   ·exact ih.ok f sc fz af h
  ·simp only [lkT] at h
   split at h
   ·cases h
   ·exact ih.nat f g h
  ·simp only [lkT] at h
   split at h
   ·rename_i hb
    cases h
    have := Nat.eq_of_beq_eq_true hb
    subst this
    exact ⟨h1, h2⟩
   ·exact ih.nlk f g h
noncomputable def tabL : List (Nat × Ent) := [
 (n_law17_awake, .txt true false af_law17_awake),
 (n_ref09_SameInts, .txt true false af_ref09_SameInts),
 (n_area_Border, .nat natKB),
 (n_area_Dist, .nat natKD)]
theorem tabL_ok : TabsOk Try.prog tabL :=
 .txt fn_law17_awake c_law17_awake (by decide) <|
 .txt fn_ref09_SameInts c_ref09_SameInts (by decide) <|
 .nat ⟨_, fn_area_Border, by decide, by decide⟩ natKB_ok <|
 .nat ⟨_, fn_area_Dist, by decide, by decide⟩ natKD_ok <|
 .nil
theorem run_ok {f : Nat} {fn : Func} {af : AF} {args : List AV} {r : AV} (n : Nat) (hf : Try.prog.funcs[f]? = some fn) (hc : compF Try.prog fn = some af) (hl : args.length ≤ af.nt) (hx : runP (xC (lkT tabL) n) af args = some r) : Ret Try.prog f args r :=
 (runP_sound (xC_sound mixed tabL_ok.tab n) hf hc hl hx).mono fun _ _ h => h
theorem awake_ok : Ret Try.prog n_law17_awake [] (bA true) := run_ok 400 fn_law17_awake c_law17_awake (Nat.le_of_ble_eq_true rfl) (by kernel_rfl)
end Go.Ab

/-
  The statements of chapter 17: Nodes, Dist, Next.
-/
namespace Go.Ab
open Go.Proofs
structure QryK where
 (t : Top) (A : List Int) (down : List Bool) (n d : Int)
def qrkA (q : QryK) : AV := .agg [.d (iD q.t.nodes), .d (boolsD q.t.ov), .d (linksD q.t.links), .d (intsD q.A), .d (boolsD q.down), .d (iD q.n), .d (iD q.d)]
def largeK (q : QryK) : Bool := decide (q.t.nodes > 12) || decide (q.t.links.length > 20) || decide (q.down.length > 60) || decide (q.A.length > 40)
theorem largeK_ok (P : Program) (hP : P = Try.prog) (q : QryK) : Ret P n_law17_large [qrkA q] (bA (largeK q)) := by
 refine ret_start (hP ▸ mixed) (hP ▸ fn_law17_large) (hP ▸ c_law17_large) (Nat.le_of_ble_eq_true rfl) fun Λ Λo K hK => ?_
 clear hP
 obtain ⟨t, A, down, n, d⟩ := q
 simp only [qrkA] at hK ⊢
 have yes : (t.nodes > 12 ∨ t.links.length > 20 ∨ down.length > 60 ∨ A.length > 40) → K (bA true) := fun h => by
  rw [show largeK ⟨t, A, down, n, d⟩ = true by
   simp only [largeK, Bool.or_eq_true, decide_eq_true_eq]; omega] at hK
  exact hK
 have no : ¬ (t.nodes > 12 ∨ t.links.length > 20 ∨ down.length > 60 ∨ A.length > 40) → K (bA false) := fun h => by
  rw [show largeK ⟨t, A, down, n, d⟩ = false by
   simp only [largeK, Bool.or_eq_false_iff, decide_eq_false_iff_not]; omega] at hK
  exact hK
 clear hK
 simp only [boolsD, linksD, intsD] at *
 generalize hal : A.map encI = al at *
 have hla : Λ al = A.length := by rw [Λo, ← hal]; simp
 generalize hdl : down.map encB = dl at *
 have hld : Λ dl = down.length := by rw [Λo, ← hdl]; simp
 obtain ⟨nodes, ov, links⟩ := t
 
 generalize hol : ov.map encB = ol at *
 generalize hll : links.map encLk = ll at *
 have hlo : Λ ol = ov.length := by rw [Λo, ← hol]; simp
 have hls : Λ ll = links.length := by rw [Λo, ← hll]; simp
 simp only at yes no
 conv => cbv
 repeat' first | exact gu | exact trivial | refine And.intro ?_ ?_ | (intro hc; exact absurd hc (by decide)) | (intro hc; exfalso; omega) | (intro hc; (first | rw [wrap_small (by omega) (by omega)] at hc | rw [nI_eq] at hc | skip); try (conv => cbv))
 all_goals first | exact yes (by omega) | exact no (by omega)
theorem same_self (P : Program) (hP : P = Try.prog) (l : List Int) : Ret P n_ref09_SameInts [intsA l, intsA l] (bA true) := by
 have := sameInts_ok P hP l l
 rw [decide_eq_true rfl] at this
 exact this
set_option maxHeartbeats 4000000 in
theorem knext_law (P : Program) (hP : P = Try.prog) (q : QryK) : Ret P n_law17_AreaNext [qrkA q] (bA true) := by
 have haw : Ret P n_law17_awake [] (bA true) := hP ▸ awake_ok
 have hlg := largeK_ok P hP q
 have h1 := anext17_ok P hP q.t q.A q.down q.n q.d
 have h2 := rfind17_ok P hP q.t q.A q.down q.n q.d
 obtain ⟨_, _, b3, b4⟩ := best_find q.t q.A q.down q.n q.d
 rw [b3, b4] at h1
 have hs1 := same_self P hP (findK q.t q.A q.down q.n q.d).1.arcs
 clear b3 b4
 refine ret_start (hP ▸ mixed) (hP ▸ fn_law17_AreaNext) (hP ▸ c_law17_AreaNext) (Nat.le_of_ble_eq_true rfl) fun Λ Λo K hK => ?_
 clear hP
 obtain ⟨t, A, down, n, d⟩ := q
 simp only at h1 h2 hs1
 generalize largeK _ = lg at *
 generalize findK t A down n d = r at *
 obtain ⟨⟨rd, rc, ra⟩, c⟩ := r
 simp only [rtA, qrkA, boolsA, intsA, boolsD, linksD, intsD] at *
 generalize A.map encI = al at *
 generalize ra.map encI = rl at *
 generalize down.map encB = dl at *
 obtain ⟨nodes, ov, links⟩ := t
 simp only [topA, boolsD, linksD] at *
 generalize hol : ov.map encB = ol at *
 generalize hll : links.map encLk = ll at *
 have hlo : Λ ol = ov.length := by rw [Λo, ← hol]; simp
 have hls : Λ ll = links.length := by rw [Λo, ← hll]; simp
 cases lg
 case true =>
  clear h1 h2 hs1
  conv => cbv
  repeat' first | refine call_b haw rfl rfl ?_ ?_ | refine call_b hlg rfl rfl ?_ ?_ | (intro hc; cases hc; done) | exact gu | exact trivial | refine And.intro ?_ ?_ | (intro hc; exact absurd hc (by decide)) | (intro hc; exfalso; omega) | (intro hc; (first | rw [wrap_small (by omega) (by omega)] at hc | rw [nI_eq] at hc | skip); try (conv => cbv))
  all_goals exact hK
 conv => cbv
 repeat' first | refine call_b haw rfl rfl ?_ ?_ | refine call_b hlg rfl rfl ?_ ?_ | (intro hc; cases hc; done) | (refine call_r h1 rfl rfl ?_; conv => cbv) | (refine call_r h2 rfl rfl ?_; conv => cbv) | refine call_b hs1 rfl rfl ?_ ?_ | exact gu | exact trivial | refine And.intro ?_ ?_ | (intro hc; exact absurd hc (by decide)) | (intro hc; exfalso; omega) | (intro hc; (first | rw [wrap_small (by omega) (by omega)] at hc | rw [nI_eq] at hc | skip); try (conv => cbv))
 all_goals exact hK
end Go.Ab

