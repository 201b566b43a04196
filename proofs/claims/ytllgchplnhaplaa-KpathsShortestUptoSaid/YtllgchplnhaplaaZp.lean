/-
  Merged texts, part p.
-/
import Derived.Test.YtllgchplnhaplaaZo
import Derived.Shelf.SlGeneric
import Derived.Shelf.SlSortCmp.Whole1
import Derived.Shelf.SlSortCmp.NoneTotal
import Derived.Ground.SlsfProg
import Derived.Test.YtllgchplnhaplaaProg
/-
  The contract of slices.SortFunc at this program (written by the kit's lay-plain tool).
-/
namespace Go.Proofs
open Go.Shelf
def Try.sortP_ren : Go.Shelf.Ren := ⟨fun | 6 => 48 | 15 => 70 | 14 => 69 | 28 => 84 | 29 => 85 | 20 => 76 | 21 => 77 | 22 => 78 | 23 => 79 | 24 => 80 | 25 => 81 | 26 => 82 | 27 => 83 | 46 => 86 | 47 => 87 | 48 => 88 | 49 => 89 | 50 => 90 | 57 => 91 | n => n, fun | 22 => 30 | 24 => 37 | 25 => 74 | 3 => 3 | 39 => 95 | 0 => 0 | 53 => 115 | 55 => 117 | 4 => 4 | 46 => 108 | 45 => 107 | 50 => 112 | 5 => 5 | 9 => 9 | 66 => 119 | 70 => 123 | 76 => 125 | 77 => 126 | n => n, fun | n => n⟩
theorem Try.sortP : Go.Proofs.SlLaysF.n6 Try.prog Try.sortP_ren := {
  mixed := by kernel_rfl
  f6 := ⟨Try.f48.name, by decide, Try.func48.trans (congrArg some (by kernel_rfl))⟩
  f14 := ⟨Try.f69.name, by decide, Try.func69.trans (congrArg some (by kernel_rfl))⟩
  f15 := Try.func70.trans (congrArg some (by kernel_rfl))
  f20 := ⟨Try.f76.name, by decide, Try.func76.trans (congrArg some (by kernel_rfl))⟩
  f21 := ⟨Try.f77.name, by decide, Try.func77.trans (congrArg some (by kernel_rfl))⟩
  f22 := ⟨Try.f78.name, by decide, Try.func78.trans (congrArg some (by kernel_rfl))⟩
  f23 := ⟨Try.f79.name, by decide, Try.func79.trans (congrArg some (by kernel_rfl))⟩
  f24 := ⟨Try.f80.name, by decide, Try.func80.trans (congrArg some (by kernel_rfl))⟩
  f25 := ⟨Try.f81.name, by decide, Try.func81.trans (congrArg some (by kernel_rfl))⟩
  f26 := ⟨Try.f82.name, by decide, Try.func82.trans (congrArg some (by kernel_rfl))⟩
  f27 := ⟨Try.f83.name, by decide, Try.func83.trans (congrArg some (by kernel_rfl))⟩
  f28 := Try.func84.trans (congrArg some (by kernel_rfl))
  f29 := Try.func85.trans (congrArg some (by kernel_rfl))
  f46 := ⟨Try.f86.name, by decide, Try.func86.trans (congrArg some (by kernel_rfl))⟩
  f47 := Try.func87.trans (congrArg some (by kernel_rfl))
  f48 := Try.func88.trans (congrArg some (by kernel_rfl))
  f49 := ⟨Try.f89.name, by decide, Try.func89.trans (congrArg some (by kernel_rfl))⟩
  f50 := ⟨Try.f90.name, by decide, Try.func90.trans (congrArg some (by kernel_rfl))⟩
  f57 := ⟨Try.f91.name, by decide, Try.func91.trans (congrArg some (by kernel_rfl))⟩
  t0 := Try.underlying0
  a0 := Try.isAgg0
  z0 := Try.sizeOf0
  v0 := Try.zeroValue0
  t3 := Try.underlying3
  a3 := Try.isAgg3
  z3 := Try.sizeOf3
  v3 := Try.zeroValue3
  t4 := Try.underlying4
  a4 := Try.isAgg4
  z4 := Try.sizeOf4
  v4 := Try.zeroValue4
  t5 := Try.underlying5
  a5 := Try.isAgg5
  z5 := Try.sizeOf5
  v5 := Try.zeroValue5
  t9 := Try.underlying9
  a9 := Try.isAgg9
  z9 := Try.sizeOf9
  v9 := Try.zeroValue9
  t22 := Try.underlying30
  a22 := Try.isAgg30
  z22 := Try.sizeOf30
  v22 := Try.zeroValue30
  a24 := Try.isAgg37
  z24 := Try.sizeOf37
  t25 := Try.underlying74
  a25 := Try.isAgg74
  z25 := Try.sizeOf74
  v25 := Try.zeroValue74
  t39 := Try.underlying95
  a39 := Try.isAgg95
  z39 := Try.sizeOf95
  v39 := Try.zeroValue95
  t45 := Try.underlying107
  a45 := Try.isAgg107
  z45 := Try.sizeOf107
  v45 := Try.zeroValue107
  t46 := Try.underlying108
  a46 := Try.isAgg108
  z46 := Try.sizeOf108
  v46 := Try.zeroValue108
  t50 := Try.underlying112
  a50 := Try.isAgg112
  z50 := Try.sizeOf112
  v50 := Try.zeroValue112
  t53 := Try.underlying115
  a53 := Try.isAgg115
  z53 := Try.sizeOf115
  v53 := Try.zeroValue115
  t55 := Try.underlying117
  a55 := Try.isAgg117
  z55 := Try.sizeOf117
  v55 := Try.zeroValue117
  t66 := Try.underlying119
  a66 := Try.isAgg119
  z66 := Try.sizeOf119
  v66 := Try.zeroValue119
  t70 := Try.underlying123
  a70 := Try.isAgg123
  z70 := Try.sizeOf123
  v70 := Try.zeroValue123
  t76 := Try.underlying125
  a76 := Try.isAgg125
  z76 := Try.sizeOf125
  v76 := Try.zeroValue125
  t77 := Try.underlying126
  a77 := Try.isAgg126
  z77 := Try.sizeOf126
  v77 := Try.zeroValue126 }
end Go.Proofs

/-
  Sorting paths: the contract.
-/
namespace Go.Ab
open Go.Proofs Go.Sort
theorem SlV.one (s : SlV) : s.val.oneCell' = true := by cases s <;> rfl
theorem encP_one {G : Nat → Prop} {w : World} : OneCell (encP (G := G) (w := w)) := fun x => by
 unfold encP
 cases x.1.1 <;> rfl
theorem sorts_p : SortsP Try.prog n_slices_SortFunc_int_int n_kpaths_Shortest_1 :=
  ⟨fun α _ enc h1 cf hO cb blk off cap d w hc hH hb hs => Any.slices_SortFunc Try.sortP enc h1 cf hO 49 cb blk off cap d w (enters_of Try.func49 (by kernel_rfl) rfl) hc hH hb hs,
   fun p cap fv w => AnyF.slices_SortFunc_none { Try.sortP with } p cap fv w⟩
theorem get_lt' {α : Type} {c : Array α} {i : Nat} {x : α} (h : c[i]? = some x) : i < c.size := (Array.getElem?_eq_some_iff.1 h).1
theorem sortP_fn {P : Program} {f g : Nat} (hs : SortsP P f g) (hg : Nat.blt g 4294967296 = true) (t : Top) (hc : ∀ a b : List Int, a.length ≤ 1000 → b.length ≤ 1000 → Ret P g [intsA a, intsA b, .c (.rp [iD t.nodes, boolsD t.ov, linksD t.links])] (iA (ordS (cst t a) (cst t b) a b)))
  (l : List (List Int)) (pre post : List (List D)) (hz : l.length < 4611686018427387904) (hl1 : ∀ x ∈ l, x.length ≤ 1000) (r : Bool) (v : Nat) :
  FnS P f [.c (.arr 1 v pre.length l.length), .c (.fn false g [.ptr 0 0 0 0])] [topBx t, .da r v 1 (pre ++ l.map encRow ++ post)] fun r' h' => r' = .tup [] ∧ ∃ l' : List (List Int), l'.Perm l ∧ l'.Pairwise (fun a b => ¬ ordS (cst t b) (cst t a) b a < 0) ∧ h' = [topBx t, .da r v 1 (pre ++ l'.map encRow ++ post)] := by
 refine ⟨fun G ι w vs hr hv => ?_⟩
 obtain ⟨v0, v1, hvs⟩ : ∃ v0 v1, vs = [v0, v1] := by
  have := hv.1
  match vs, this with
  | [x, y], _ => exact ⟨x, y, rfl⟩
 subst hvs
 have hv0 : VR G w ι [topBx t, .da r v 1 (pre ++ l.map encRow ++ post)] v0 (.c (.arr 1 v pre.length l.length)) := hv.2 0 _ _ rfl rfl
 have hv1 : VR G w ι [topBx t, .da r v 1 (pre ++ l.map encRow ++ post)] v1 (.c (.fn false g [.ptr 0 0 0 0])) := hv.2 1 _ _ rfl rfl
 have hf1 : ∃ vp, v1 = .func (.func g) #[] #[vp] ∧ CR G w ι [topBx t, .da r v 1 (pre ++ l.map encRow ++ post)] vp (.ptr 0 0 0 0) := by
  cases inv_c hv1 with
  | fn _ _ _ vs' _ hv' hn hcs =>
   rw [fnV_fn hg] at hv'
   match vs', hn with
   | ⟨[x]⟩, _ => exact ⟨x, hv', hcs 0 x _ rfl rfl⟩
 obtain ⟨vp, hf1, hvp⟩ := hf1
 subst hf1
 have none : ∀ p cap, v0 = .slice p 0 cap → l = [] → Calls P f [v0, .func (.func g) #[] #[vp]].toArray w fun e w' => ∃ v' r' G' ι' h', e = .returned v' ∧ (r' = .tup [] ∧ ∃ l' : List (List Int), l'.Perm l ∧ l'.Pairwise (fun a b => ¬ ordS (cst t b) (cst t a) b a < 0) ∧ h' = [topBx t, .da r v 1 (pre ++ l'.map encRow ++ post)]) ∧ HR G' ι' h' w' ∧ VR G' w' ι' h' v' r' ∧ Ext G ι [topBx t, .da r v 1 (pre ++ l.map encRow ++ post)] w G' ι' h' w' := by
  intro p cap he hz
  subst he hz
  refine (hs.2 p cap _ w).mono fun e w' ⟨h1, h2⟩ => ?_
  subst h2
  exact ⟨_, .tup [], G, ι, _, h1, ⟨rfl, [], by simp, by simp, rfl⟩, hr, .tup _ _ rfl (by simp), Ext.refl _ _ _ _⟩
 cases inv_c hv0 with
 | arr _ _ _ _ _ blk hb ha hk hk0 =>
  cases hb
  cases r with
  | false =>
   obtain ⟨_, h2, h3⟩ := hk0 1 _ rfl
   exact none _ _ h3 (List.eq_nil_of_length_eq_zero h2)
  | true =>
   obtain ⟨b, o, cap, g1, g2, g3, g4, g5⟩ := hk 1 _ rfl
   by_cases hz0 : l = []
   ·have hl : l.length = 0 := by rw [hz0]; rfl
    rcases g5 with g5 | ⟨_, _, o', g5⟩
    ·exact none _ _ (by rw [hl] at g5; exact g5) hz0
    ·exact none _ _ g5 hz0
   ·have hlen : l.length ≠ 0 := fun h => hz0 (List.eq_nil_of_length_eq_zero h)
    have g5 := g5.resolve_right fun h => hlen h.1
    rw [Nat.mul_one] at g5
    subst g5
    obtain ⟨b', o', c, ty, fr, p0, p1, p2, p3, p4, p5, p6⟩ := hr.blk 1 _ rfl
    rw [g1] at p1; cases p1
    simp only [List.length_append, List.length_map] at p0 p3
    rw [Nat.mul_one] at p3
    have hrow0 : ∀ i q, l[i]? = some q → (pre ++ l.map encRow ++ post)[pre.length + i]? = some (encRow q) := fun i q hq => by
     rw [List.append_assoc, List.getElem?_append_right (by omega), Nat.add_sub_cancel_left, List.getElem?_append_left (by rw [List.length_map]; exact get_lt hq), List.getElem?_map, hq]; rfl
    obtain ⟨o1, ho1⟩ : ∃ x, x = o + pre.length := ⟨_, rfl⟩
    rw [← ho1]
    have hex : ∀ i, ∃ x : PV G w, ∀ q, l[i]? = some q → x.1.2 = q ∧ c[o1 + i]? = some (encP x) := by
     intro i
     cases hq : l[i]? with
     | none => exact ⟨default, fun q h => by cases h⟩
     | some q =>
      obtain ⟨y, hy, hd⟩ := p6 _ _ 0 (intsD q) (hrow0 i q hq) rfl
      rw [Nat.mul_one, Nat.add_zero, ← Nat.add_assoc, ← ho1] at hy
      obtain ⟨s, hsv⟩ := SlV.of hd
      rw [hsv] at hd hy
      exact ⟨⟨(s, q), hd, hl1 q (List.mem_of_getElem? hq)⟩, fun q' h => by cases h; exact ⟨rfl, hy⟩⟩
    obtain ⟨F, hF⟩ := Classical.axiomOfChoice hex
    have dlen : ((List.range l.length).map F).length = l.length := by simp
    generalize hdl : (List.range l.length).map F = dl at dlen
    have hdl_at : ∀ (i : Nat) (x : PV G w) (q : List Int), dl[i]? = some x → l[i]? = some q → x.1.2 = q ∧ c[o1 + i]? = some (encP x) := fun i x q hx hq => by
     rw [← hdl, List.getElem?_map, List.getElem?_range (get_lt hq)] at hx
     cases hx
     exact hF i q hq
    have hmapl : dl.map (fun x => x.1.2) = l := by
     apply List.ext_getElem?
     intro i
     rw [List.getElem?_map]
     cases hq : l[i]? with
     | none => rw [List.getElem?_eq_none (by rw [dlen]; exact List.getElem?_eq_none_iff.1 hq)]; rfl
     | some q =>
      have e1 : dl[i]? = some (dl[i]'(by rw [dlen]; exact get_lt hq)) := lgE _
      rw [e1, Option.map_some, (hdl_at i _ q e1 hq).1]
    have hH : Holds (encP (G := G) (w := w)) w b o1 dl.toArray := by
     intro i hi
     simp only [List.size_toArray, dlen] at hi
     have e1 : dl[i]? = some (dl[i]'(by omega)) := lgE _
     have e2 : l[i]? = some (l[i]) := lgE _
     obtain ⟨_, h2⟩ := hdl_at _ _ _ e1 e2
     refine ⟨?_, frozen_of p2 (p4 (o1 + i) (by omega))⟩
     rw [cell_of p2, h2]
     congr 2
     rw [getElem!_pos dl.toArray i (by simp only [List.size_toArray]; omega)]; rfl
    have hbw : b < w.heap.size := owned_lt hr (owned_of (k := .da true v 1 (pre ++ l.map encRow ++ post)) g1 rfl rfl)
    have hcl := cmp_lays1 hc hr (t := t) rfl (l := 1) (rb := .da true v 1 (pre ++ l.map encRow ++ post)) rfl rfl g1 (by decide) hvp p2 o1 dl.toArray.size
    have hcall := hs.1 (PV G w) inferInstance encP encP_one (cfP t) (swoP t G w) #[vp] b o1 cap dl.toArray w hcl hH hbw (by simpa [dlen] using hz)
    simp only [List.size_toArray, dlen] at hcall
    refine hcall.mono fun e w' ⟨h1, d', n, os, hperm, hsort, h2⟩ => ?_
    have hds : d'.size = l.length := by rw [hperm.1]; simp [dlen]
    have hpl : d'.toList.Perm dl := by
     have := hperm.2.2
     have e1 : d'.extract 0 l.length = d' := by rw [← hds]; simp
     have e2 : dl.toArray.extract 0 l.length = dl.toArray := by rw [← dlen]; simp
     rw [e1, e2] at this
     simpa using this
    obtain ⟨l', hl'⟩ : ∃ l', l' = d'.toList.map (fun x => x.1.2) := ⟨_, rfl⟩
    have hpr : l'.Perm l := by
     have := hpl.map (fun x => x.1.2)
     rwa [hmapl, ← hl'] at this
    have hat : ∀ i (h : i < d'.size), l'[i]? = some (d'[i]).1.2 := fun i h => by
     rw [hl', List.getElem?_map, Array.getElem?_toList, Array.getElem?_eq_getElem h]; rfl
    have hlm : l'.length = l.length := hpr.length_eq
    have hpw : l'.Pairwise (fun a b => ¬ ordS (cst t b) (cst t a) b a < 0) := by
     rw [List.pairwise_iff_getElem]
     intro i j hi hj hij
     have hs1 := hsort i j (Nat.zero_le _) hij (by omega)
     rw [ltOf_f, getElem!_pos d' i (by omega), getElem!_pos d' j (by omega)] at hs1
     have a1 := hat i (by omega)
     have a2 := hat j (by omega)
     rw [lgE hi, osi] at a1
     rw [lgE hj, osi] at a2
     rw [a1, a2]
     exact hs1
    obtain ⟨k1, k2, k3⟩ := row_heap (encP (G := G) (w := w)) w n b o1 d' os p2
    have h2' : w' = grow (putRow (encP (G := G) (w := w)) (Sort.ahead w n) b o1 d') os := h2
    rw [← h2'] at k1 k2 k3
    have hq : Quiet w w' := by subst h2'; exact ⟨rfl, rfl, rfl, by simp [grow, putRow, mapBlock, Sort.ahead]⟩
    have hi0 : ι.set 1 (b, o) = ι := by
     have hil := hr.len
     match ι, g1 with
     | x :: y :: rest, g1 => simp only [List.getElem?_cons_succ, List.getElem?_cons_zero, osi] at g1; rw [g1]; rfl
    have hpc : (putCells (encP (G := G) (w := w)) o1 d' c).size = c.size := by simp [putCells]
    have hkept : Kept ι (ι.set 1 (b, o)) w w' 1 (.da true v 1 (pre ++ l.map encRow ++ post)) (.da true v 1 (pre ++ l'.map encRow ++ post)) := by
     refine .inr ⟨rfl, rfl, rfl, by simp [hlm], by rw [hi0], fun _ b2 o2 hb2 => ?_⟩
     rw [g1] at hb2; cases hb2
     simp [bsize, k1, p2, hpc]
    have hsame : ∀ b2, G b2 → G b2 ∧ w'.heap[b2]? = w.heap[b2]? := fun b2 hb2 => by
     obtain ⟨q1, q2⟩ := hr.g b2 hb2
     refine ⟨hb2, k2 b2 q1 fun e => q2 ?_⟩
     subst e
     exact owned_of (k := .da true v 1 (pre ++ l.map encRow ++ post)) g1 rfl rfl
    have hbr : BR G w' (ι.set 1 (b, o)) [topBx t, .da true v 1 (pre ++ l'.map encRow ++ post)] 1 (.da true v 1 (pre ++ l'.map encRow ++ post)) := by
     refine ⟨b, o, _, ty, fr, by simp only [List.length_append, List.length_map, hlm]; exact p0, by rw [hi0]; exact g1, k1, by rw [hpc]; simp only [List.length_append, List.length_map, hlm, Nat.mul_one]; exact p3, by rw [hpc]; exact p4, ?_, ?_⟩
     ·intro i e he
      rcases List.mem_append.1 (List.mem_of_getElem? he) with hm | hm
      ·rcases List.mem_append.1 hm with hm | hm
       ·obtain ⟨j, hj⟩ := List.mem_iff_getElem?.1 hm
        exact p5 j e (by rw [List.append_assoc, List.getElem?_append_left (get_lt hj)]; exact hj)
       ·rw [List.mem_map] at hm
        obtain ⟨_, _, rfl⟩ := hm; rfl
      ·obtain ⟨j, hj⟩ := List.mem_iff_getElem?.1 hm
       exact p5 (pre.length + l.length + j) e (by rw [List.getElem?_append_right (by simp), List.length_append, List.length_map, Nat.add_sub_cancel_left]; exact hj)
     ·intro i e j u he hu
      by_cases hin : pre.length ≤ i ∧ i < pre.length + l.length
      ·obtain ⟨i2, rfl⟩ : ∃ i2, i = pre.length + i2 := ⟨i - pre.length, by omega⟩
       rw [List.append_assoc, List.getElem?_append_right (by omega), Nat.add_sub_cancel_left, List.getElem?_append_left (by rw [List.length_map]; omega), List.getElem?_map, omi] at he
       obtain ⟨q, hqi, rfl⟩ := he
       have hj : j = 0 := by have := get_lt hu; simp [encRow] at this; exact this
       subst hj
       cases hu
       have hqe : q = (d'[i2]'(by omega)).1.2 := by have := hat i2 (by omega); rw [hqi] at this; exact osj this
       refine ⟨encP (d'[i2]'(by omega)), ?_, ?_⟩
       ·have hlt : o1 + i2 < c.size := by omega
        rw [Nat.mul_one, Nat.add_zero, ← Nat.add_assoc, ← ho1]
        simp only [putCells, Array.getElem?_mapIdx]
        rw [Array.getElem?_eq_getElem hlt, Option.map_some, if_pos (by omega), show o1 + i2 - o1 = i2 by omega, getElem!_pos d' i2 (by omega)]
       ·rw [hqe]
        exact (d'[i2]'(by omega)).2.1.mono hsame
      ·have he0 : (pre ++ l.map encRow ++ post)[i]? = some e := by
        rw [← he]
        rcases Nat.lt_or_ge i pre.length with h6 | h6
        ·rw [List.append_assoc, List.append_assoc, List.getElem?_append_left h6, List.getElem?_append_left h6]
        ·rw [List.getElem?_append_right (by simp; omega), List.getElem?_append_right (by simp; omega)]
         simp only [List.length_append, List.length_map, hlm]
       have hj : j = 0 := by
        have h7 := p5 i e he0
        have := get_lt hu
        omega
       subst hj
       obtain ⟨y, hy, hd⟩ := p6 i e 0 u he0 hu
       refine ⟨y, ?_, hd.mono hsame⟩
       rw [← hy]
       have hlt : o + i * 1 + 0 < c.size := get_lt' hy
       simp only [putCells, Array.getElem?_mapIdx]
       rw [Array.getElem?_eq_getElem hlt, Option.map_some, if_neg (by omega)]
    obtain ⟨q1, q2⟩ := HR.move (k := .da true v 1 (pre ++ l'.map encRow ++ post)) (b1 := b) (o1 := o) hr (l := 1) rfl g1 rfl rfl hkept k3 k2 (.inl rfl) hbr hq
    rw [hi0] at q1 q2
    exact ⟨_, .tup [], G, ι, _, h1, ⟨rfl, l', hpr, hpw, rfl⟩, q1, .tup _ _ rfl (by simp), q2⟩
end Go.Ab

/-
  The queue of labels: the contracts of its methods.
-/
namespace Go.Ab
open Go.Proofs
abbrev quH (v n : Nat) (ro : Bool) (es : List (List D)) : Hp := [.bx [.arr 1 v 0 n], .da ro v 4 es]
abbrev quP : AV := .c (.fn false 4294967376 [.ptr 0 0 0 0])
abbrev lbA (l : Lb) : AV := .c (.fn true 4294967378 [.d (iD l.node), .d (iD l.cost), .d (iD l.delay), .d (intsD l.arcs)])
theorem qlen_ok (P : Program) (hP : P = Try.prog) (v n : Nat) (ro : Bool) (es : List (List D)) : FnS P n_kpaths_queue_Len [.c (.arr 0 v 0 n)] [.da ro v 4 es] fun r h' => r = iA n ∧ h' = [.da ro v 4 es] := by
 refine heap_start (hP ▸ mixed) (hP ▸ fn_kpaths_queue_Len) (hP ▸ c_kpaths_queue_Len) (nle rfl) fun Λ Λo K hK => ?_
 clear hP
 have hK := hK _ _ ⟨rfl, rfl⟩
 conv => cbv
 repeat' first | (intro (k : Int) hk; refine (fun (hz : (n : Int) = k) => ?_) (by rw [hk, nI_eq]); subst hz; (conv => cbv)) | exact gu | exact trivial | refine And.intro ?_ ?_ | (intro hc; exact absurd hc (by decide)) | (intro hc; exfalso; omega) | (intro hc; (first | rw [wS (by omega) (by omega)] at hc | rw [nI_eq] at hc | skip); try (conv => cbv))
 exact hK
theorem qless_ok (P : Program) (hP : P = Try.prog) (v n : Nat) (ro : Bool) (es : List (List D)) (p q : Int) (a b : Lb) (hp : 0 ≤ p ∧ p < n) (hq : 0 ≤ q ∧ q < n) (hea : es[p.toNat]? = some (encLb a)) (heb : es[q.toNat]? = some (encLb b)) :
  FnS P n_kpaths_queue_Less [.c (.arr 0 v 0 n), iA p, iA q] [.da ro v 4 es] fun r h' => r = bA (decide (¬ leL b a)) ∧ h' = [.da ro v 4 es] := by
 have hor := order_ok P hP a.cost b.cost a.arcs b.arcs
 have hlt := @leL_less a b
 obtain ⟨an, ac, ad, aa⟩ := a
 obtain ⟨bn, bc, bd, ba⟩ := b
 simp only [encLb, intsD] at *
 generalize (ordS ac bc aa ba) = c at *
 refine heap_start (hP ▸ mixed) (hP ▸ fn_kpaths_queue_Less) (hP ▸ c_kpaths_queue_Less) (nle rfl) fun Λ Λo K hK => ?_
 clear hP
 have leaf : ∀ x : Bool, (x = true ↔ c < 0) → K (bA x) [.da ro v 4 es] := fun x hx => hK _ _ ⟨by
  congr 3
  rw [Bool.eq_iff_iff, hx, decide_eq_true_eq, hlt], rfl⟩
 clear hK hlt
 generalize hpn : p.toNat = pn at *
 generalize hqn : q.toNat = qn at *
 have l1 := get_lt hea
 have l2 := get_lt heb
 simp only [intsA, intsD] at hor
 generalize List.map encI aa = al at *
 generalize List.map encI ba = bl at *
 conv => cbv
 repeat' first | (intro (k : Nat) hk; refine (fun (hz : pn = k) => ?_) ?_; rotate_left; omega; subst hz; (conv => cbv)) | (intro (k : Nat) hk; refine (fun (hz : qn = k) => ?_) ?_; rotate_left; omega; subst hz; (conv => cbv)) | (intro (e : List D) he; cases osj (he.symm.trans hea); (conv => cbv)) | (intro (e : List D) he; cases osj (he.symm.trans heb); (conv => cbv)) | (refine call_r hor rfl rfl ?_; conv => cbv) | exact gu | exact trivial | refine And.intro ?_ ?_ | (intro hc; exact absurd hc (by decide)) | (intro hc; exfalso; omega) | (intro hc; (first | rw [wS (by omega) (by omega)] at hc | rw [nI_eq] at hc | skip); try (conv => cbv))
 all_goals (refine leaf _ ?_; simp; omega)
theorem swp_set {es : List (List D)} {O : List Lb} {tl : List (List D)} {p q : Nat} (ho : es = O.map encLb ++ tl) (hp : p < O.length) (hq : q < O.length) : (es.set p (encLb (atG O q))).set q (encLb (atG O p)) = (swpG O p q).map encLb ++ tl := by
 rw [ho, List.set_append_left _ _ (by simpa using hp), List.set_append_left _ _ (by simpa using hq), swpG, List.map_set, List.map_set]
theorem qswap_ok (P : Program) (hP : P = Try.prog) (v n : Nat) (ro : Bool) (es : List (List D)) (p q : Int) (a b : Lb) (hp : 0 ≤ p ∧ p < n) (hq : 0 ≤ q ∧ q < n) (hn : (n : Int) ≤ 1000000000000) (hea : es[p.toNat]? = some (encLb a)) (heb : es[q.toNat]? = some (encLb b)) :
  FnS P n_kpaths_queue_Swap [.c (.arr 0 v 0 n), iA p, iA q] [.da ro v 4 es] fun r h' => r = .tup [] ∧ h' = [.da ro v 4 ((es.set p.toNat (encLb b)).set q.toNat (encLb a))] := by
 refine heap_start (hP ▸ mixed) (hP ▸ fn_kpaths_queue_Swap) (hP ▸ c_kpaths_queue_Swap) (nle rfl) fun Λ Λo K hK => ?_
 clear hP
 have hKx := hK _ _ ⟨rfl, rfl⟩
 clear hK
 generalize hpn : p.toNat = pn at *
 generalize hqn : q.toNat = qn at *
 have l1 := get_lt hea
 have l2 := get_lt heb
 have hij : pn = qn → a.node = b.node ∧ encLb a = encLb b := fun h => by
  subst h
  rw [hea] at heb
  have := osj heb
  refine ⟨?_, this⟩
  simp [encLb] at this
  exact this.1
 obtain ⟨an, ac, ad, aa⟩ := a
 obtain ⟨bn, bc, bd, ba⟩ := b
 simp only [encLb, intsD] at *
 generalize List.map encI aa = al at *
 generalize List.map encI ba = bl at *
 obtain ⟨es1, hes1⟩ : ∃ x, x = es.set pn [iD bn, iD bc, iD bd, .list false 1 bl] := ⟨_, rfl⟩
 obtain ⟨es2, hes2⟩ : ∃ x, x = es1.set qn [iD an, iD ac, iD ad, .list false 1 al] := ⟨_, rfl⟩
 rw [← hes1, ← hes2] at hKx
 obtain ⟨em, f0⟩ : ∃ e, es1[qn]? = some e := ⟨_, lgE (by rw [hes1, List.length_set]; exact l2)⟩
 have f1 : es1[qn]? = some [iD bn, iD bc, iD bd, .list false 1 bl] := by
  rw [hes1, List.getElem?_set]
  by_cases h : pn = qn
  ·rw [if_pos h, if_pos (by omega)]
  ·rw [if_neg h]; exact heb
 have l5 : es1.length = es.length := by rw [hes1, List.length_set]
 conv => cbv
 repeat' first | (intro (k : Nat) hk; refine (fun (hz : pn = k) => ?_) ?_; rotate_left; omega; subst hz; (conv => cbv)) | (intro (k : Nat) hk; refine (fun (hz : qn = k) => ?_) ?_; rotate_left; omega; subst hz; (conv => cbv)) | (intro (e : List D) he; cases osj (he.symm.trans hea); (conv => cbv)) | (intro (e : List D) he; cases osj (he.symm.trans heb); (conv => cbv)) | (intro (e : List D) he; cases osj (he.symm.trans f1); (conv => cbv)) | (intro (x : List (List D)) (hx : x = es.set pn [iD bn, iD bc, iD bd, .list false 1 bl]); refine (fun (hz : es1 = x) => ?_) (hes1.trans hx.symm); subst hz; (conv => cbv)) | (intro (x : List (List D)) (hx : x = es1.set qn [iD an, iD ac, iD ad, .list false 1 al]); refine (fun (hz : es2 = x) => ?_) (hes2.trans hx.symm); subst hz; (conv => cbv)) | exact gu | exact trivial | refine And.intro ?_ ?_ | (intro hc; exact absurd hc (by decide)) | (intro hc; exfalso; omega) | (intro hc; (first | rw [wS (by omega) (by omega)] at hc | rw [nI_eq] at hc | skip); try (conv => cbv))
 all_goals exact hKx
theorem qpop_ok (P : Program) (hP : P = Try.prog) (v n : Nat) (ro : Bool) (es : List (List D)) (l : Lb) (hn : (n : Int) < 1000000000000) (hl : n + 1 ≤ es.length) (hen : es[n]? = some (encLb l)) :
  FnS P n_kpaths_queue_Pop [.c (.ptr 0 0 0 0)] (quH v (n + 1) ro es) fun r h' => r = lbA l ∧ ∃ b, h' = quH v n ro es ++ [b] := by
 refine heap_start (hP ▸ mixed) (hP ▸ fn_kpaths_queue_Pop) (hP ▸ c_kpaths_queue_Pop) (nle rfl) fun Λ Λo K hK => ?_
 clear hP
 obtain ⟨ln, lc, ld, la⟩ := l
 simp only [encLb, lbA, intsD] at *
 generalize List.map encI la = al at *
 obtain ⟨nv, hnv⟩ : ∃ x : Int, x = n := ⟨_, rfl⟩
 conv => cbv
 repeat' first | (intro (k : Nat) hk; refine (fun (hz : n = k) => ?_) ?_; rotate_left; omega; subst hz; (conv => cbv)) | (intro (k : Int) hk; rw [wS (by omega) (by omega)] at hk; refine (fun (hz : nv = k) => ?_) ?_; rotate_left; omega; subst hz; (conv => cbv)) | (intro (e : List D) he; cases osj (he.symm.trans hen); (conv => cbv)) | exact gu | exact trivial | refine And.intro ?_ ?_ | (intro hc; exact absurd hc (by decide)) | (intro hc; exfalso; omega) | (intro hc; (first | rw [wS (by omega) (by omega)] at hc | rw [nI_eq] at hc | skip); try (conv => cbv))
 all_goals exact hK _ _ ⟨rfl, _, rfl⟩
theorem qpush_ok (P : Program) (hP : P = Try.prog) (v n : Nat) (ro : Bool) (es : List (List D)) (l : Lb) (hn : (n : Int) < 1000000000000) :
  FnS P n_kpaths_queue_Push [.c (.ptr 0 0 0 0), lbA l] (quH v n ro es) fun r h' => r = .tup [] ∧ ∃ ro' b, h' = quH (v + 1) (n + 1) ro' (es.take n ++ [encLb l]) ++ b := by
 refine heap_start (hP ▸ mixed) (hP ▸ fn_kpaths_queue_Push) (hP ▸ c_kpaths_queue_Push) (nle rfl) fun Λ Λo K hK => ?_
 clear hP
 have hK := fun ro' b => hK _ _ ⟨rfl, ro', b, rfl⟩
 obtain ⟨ln, lc, ld, la⟩ := l
 simp only [encLb, lbA, intsD] at *
 generalize List.map encI la = al at *
 obtain ⟨n1, hn1⟩ : ∃ x, x = n + 1 := ⟨_, rfl⟩
 obtain ⟨ye, hye⟩ : ∃ x, x = List.take n es ++ [[iD ln, iD lc, iD ld, D.list false 1 al]] := ⟨_, rfl⟩
 rw [← hn1, ← hye] at hK
 conv => cbv
 repeat' first | (intro (m : Nat) (r : Bool) (y : List (List D)) hm hr hy; refine (fun (hz : n1 = m) (hz2 : ye = y) => ?_) (by first | omega | (simp only [List.length_cons, List.length_nil] at hm; omega)) (by first | (rw [hy, List.drop_zero, List.take_of_length_le (by omega)]; exact hye) | (rw [hy]; exact hye)); subst hz; subst hz2; (conv => cbv)) | exact gu | exact trivial | refine And.intro ?_ ?_ | (intro hc; exact absurd hc (by decide)) | (intro hc; exfalso; omega) | (intro hc; (first | rw [wS (by omega) (by omega)] at hc | rw [nI_eq] at hc | skip); try (conv => cbv))
 all_goals exact hK _ [_, _]
end Go.Ab

/-
  The queue of labels: up and down.
-/
namespace Go.Ab
open Go.Proofs
structure QL (n : Nat) (tl : List (List D)) (es : List (List D)) (O : List Lb) : Prop where
 oe : es = O.map encLb ++ tl
 len : O.length = n
theorem QL.at {n : Nat} {tl es : List (List D)} {O : List Lb} (h : QL n tl es O) {p : Nat} (hp : p < n) : es[p]? = some (encLb (atG O p)) := by
 have hp' : p < O.length := by have := h.len; omega
 rw [h.oe, List.getElem?_append_left (by simpa using hp'), List.getElem?_map, lgE hp']
 simp [atG, hp']
theorem swpG_perm {α : Type} [Inhabited α] {O : List α} {p q : Nat} (hp : p < O.length) (hq : q < O.length) : (swpG O p q).Perm O := by
 have h := Array.swap_perm (xs := O.toArray) (i := p) (j := q) (h₁ := by simpa using hp) (h₂ := by simpa using hq)
 have h2 := Array.perm_iff_toList_perm.1 h
 have e : (O.toArray.swap p q (by simpa using hp) (by simpa using hq)).toList = swpG O p q := by
  simp [Array.swap_def, swpG, atG, hp, hq]
 rwa [e] at h2
theorem ql_less (P : Program) (hP : P = Try.prog) {v N n : Nat} {ro : Bool} {tl es : List (List D)} {O : List Lb} (h : QL n tl es O) (hN : n ≤ N) {p q : Nat} {x y : Int} (hx : x = p) (hy : y = q) (hp : p < n) (hq : q < n) {K : AV → Hp → Prop}
  (k : K (bA (decide (¬ leL (atG O q) (atG O p)))) (quH v N ro es)) : CallV P (quH v N ro es) n_kpaths_queue_Less [.c (.arr 1 v 0 N), iA x, iA y] K := by
 subst hx hy
 refine callv_fr [1] (qless_ok P hP v N ro es p q (atG O p) (atG O q) (by omega) (by omega) (h.at hp) (h.at hq)) rfl rfl (by decide) ⟨rfl, trivial⟩ rfl rfl ?_
 rintro r hc ⟨rfl, rfl⟩
 exact k
theorem ql_swap (P : Program) (hP : P = Try.prog) {v N n : Nat} {ro : Bool} {tl es : List (List D)} {O : List Lb} (h : QL n tl es O) (hN : n ≤ N) {p q : Nat} {x y : Int} (hx : x = p) (hy : y = q) (hp : p < n) (hq : q < n) (hn : (N : Int) ≤ 1000000000000) {K : AV → Hp → Prop}
  (k : ∀ es', QL n tl es' (swpG O p q) → K (.tup []) (quH v N ro es')) : CallV P (quH v N ro es) n_kpaths_queue_Swap [.c (.arr 1 v 0 N), iA x, iA y] K := by
 subst hx hy
 refine callv_fr [1] (qswap_ok P hP v N ro es p q (atG O p) (atG O q) (by omega) (by omega) hn (h.at hp) (h.at hq)) rfl rfl (by decide) ⟨rfl, trivial⟩ rfl rfl ?_
 rintro r hc ⟨rfl, rfl⟩
 exact k _ ⟨by
  have := h.len
  exact swp_set h.oe (by omega) (by omega), by rw [swpG_len]; exact h.len⟩
structure PreU (O : List Lb) (p : Nat) : Prop where
 pre : PreG leL O p
 kid : ∀ c, 0 < c → c < O.length → (c - 1) / 2 = p → leL (atG O p) (atG O c)
theorem PreU.done {O : List Lb} {p : Nat} (h : PreU O p) (hp : 0 < p → leL (atG O ((p - 1) / 2)) (atG O p)) : HOG leL O := by
 intro c c0 cl
 by_cases h1 : c = p
 ·subst h1; exact hp c0
 ·by_cases h2 : (c - 1) / 2 = p
  ·rw [h2]; exact h.kid c c0 cl h2
  ·exact h.pre.e1 c c0 cl h1 h2
theorem PreU.up {O : List Lb} {p : Nat} (h : PreU O p) (hp0 : 0 < p) (hp : p < O.length) (hlt : ¬ leL (atG O ((p - 1) / 2)) (atG O p)) : PreU (swpG O p ((p - 1) / 2)) ((p - 1) / 2) := by
 have hq : (p - 1) / 2 < O.length := by omega
 have hsw := swpG_at hp hq
 refine ⟨h.pre.up totL hp0 hp hlt, fun c c0 cl e => ?_⟩
 rw [swpG_len] at cl
 rw [hsw, hsw, if_pos rfl, if_neg (by omega)]
 by_cases h1 : c = p
 ·rw [if_pos h1]; exact totL.lt hlt
 ·rw [if_neg h1]
  refine totL.trans (totL.lt hlt) ?_
  have := h.pre.e1 c c0 cl h1 (by omega)
  rwa [e] at this
theorem half_up {x a b : Int} {p : Nat} (hx : x = p) (hs : (p : Int) ≤ 1000000000000) (ha : a = x - 1) (hb : b = IntKind.i64.wrap (a.tdiv 2)) : b = ((p - 1) / 2 : Nat) := by
 by_cases h0 : p = 0
 ·have : a = -1 := by omega
  subst this
  have h1 : ((-1 : Int).tdiv 2) = 0 := by decide
  rw [h1, wS (by omega) (by omega)] at hb
  omega
 ·have : a.tdiv 2 = a / 2 := Int.tdiv_eq_ediv_of_nonneg (by omega)
  rw [this, wS (by omega) (by omega)] at hb
  omega
set_option maxHeartbeats 2000000 in
theorem hup_ok (P : Program) (hP : P = Try.prog) {v n : Nat} {ro : Bool} {tl es : List (List D)} {O : List Lb} (h : QL n tl es O) (hn : (n : Int) ≤ 1000000000000) {p : Nat} (hp : p < n) (hpre : PreU O p) :
  FnS P n_container_heap_up [quP, iA p] (quH v n ro es) fun r h' => r = .tup [] ∧ ∃ es' O', h' = quH v n ro es' ∧ QL n tl es' O' ∧ HOG leL O' ∧ O'.Perm O := by
 refine heap_start (hP ▸ mixed) (hP ▸ fn_container_heap_up) (hP ▸ c_container_heap_up) (nle rfl) fun Λ Λo KK hKK => ?_
 have hls := fun {es : List (List D)} {O : List Lb} (h : QL n tl es O) => @ql_less P hP v n n ro tl es O h (Nat.le_refl _)
 have hsw := fun {es : List (List D)} {O : List Lb} (h : QL n tl es O) => @ql_swap P hP v n n ro tl es O h (Nat.le_refl _)
 clear hP
 obtain ⟨x0, hx0⟩ : ∃ x : Int, x = p := ⟨_, rfl⟩
 rw [← hx0]
 conv => cbv
 refine loop_up p (fun (s : Int × List (List D)) => [(0, quP), (1, iA s.1)]) (fun s => quH v n ro s.2)
  (fun k s => ∃ (O' : List Lb) (p' : Nat), s.1 = p' ∧ p' + k ≤ p ∧ QL n tl s.2 O' ∧ PreU O' p' ∧ O'.Perm O) (x0, es)
  (Wk.ch) ⟨O, p, hx0, by omega, h, hpre, .refl _⟩ (fun k s h => by obtain ⟨_, _, _, h, _⟩ := h; omega) ?_
 clear h hpre
 rintro k ⟨x, es⟩ Q' ⟨O', p', hx, hk, hq, hpre, hmem⟩ norm ex rt
 simp only at hx hq
 have hol := hq.len
 have hpm : p' < n := by omega
 conv => cbv
 repeat' first | exact gu | exact trivial | refine And.intro ?_ ?_ | (intro hc; exact absurd hc (by decide)) | (intro hc; exfalso; omega) | (intro hc; (first | rw [wS (by omega) (by omega)] at hc | rw [nI_eq] at hc | skip); try (conv => cbv))
 ·rename_i a ha b hb
  have hb := half_up hx (by omega) ha hb
  refine ex _ _ _ ?_
  conv => cbv
  exact hKK _ _ ⟨rfl, es, O', rfl, hq, hpre.done (fun h0 => by omega), hmem⟩
 ·rename_i a ha b hb
  have hb := half_up hx (by omega) ha hb
  refine hls hq hx hb hpm (by omega) ?_
  by_cases hlt : leL (atG O' ((p' - 1) / 2)) (atG O' p')
  ·rw [decide_eq_false (fun h => h hlt)]
   conv => cbv
   refine ex _ _ _ ?_
   conv => cbv
   exact hKK _ _ ⟨rfl, es, O', rfl, hq, hpre.done (fun _ => hlt), hmem⟩
  ·rw [decide_eq_true hlt]
   conv => cbv
   refine hsw hq hb hx (by omega) hpm hn fun es' hq' => ?_
   conv => cbv
   have e : swpG O' ((p' - 1) / 2) p' = swpG O' p' ((p' - 1) / 2) := by
    have h0 : ¬ (p' - 1) / 2 = p' := by omega
    rw [swpG, swpG, List.set_comm _ _ h0]
   rw [e] at hq'
   exact norm _ _ (_, _) ⟨_, (p' - 1) / 2, hb, by omega, hq', hpre.up (by omega) (by omega) hlt, (swpG_perm (by omega) (by omega)).trans hmem⟩ (Wk.ch)
set_option maxHeartbeats 2000000 in
theorem hdown_ok (P : Program) (hP : P = Try.prog) {v N n : Nat} {ro : Bool} {tl es : List (List D)} {O : List Lb} (h : QL n tl es O) (hnN : n ≤ N) (hN : (N : Int) ≤ 1000000000000) (hpre : PreDG leL O 0) :
  FnS P n_container_heap_down [quP, iA 0, iA n] (quH v N ro es) fun r h' => (∃ b, r = bA b) ∧ ∃ es' O', h' = quH v N ro es' ∧ QL n tl es' O' ∧ HOG leL O' ∧ O'.Perm O := by
 refine heap_start (hP ▸ mixed) (hP ▸ fn_container_heap_down) (hP ▸ c_container_heap_down) (nle rfl) fun Λ Λo KK hKK => ?_
 have hls := fun {es : List (List D)} {O : List Lb} (h : QL n tl es O) => @ql_less P hP v N n ro tl es O h hnN
 have hsw := fun {es : List (List D)} {O : List Lb} (h : QL n tl es O) => @ql_swap P hP v N n ro tl es O h hnN
 clear hP
 obtain ⟨nv, hnv⟩ : ∃ x : Int, x = n := ⟨_, rfl⟩
 rw [← hnv]
 have fin : ∀ (b : Bool) (es' : List (List D)) (O' : List Lb), QL n tl es' O' → HOG leL O' → O'.Perm O → KK (bA b) (quH v N ro es') := fun b es' O' h1 h2 h3 => hKK _ _ ⟨⟨b, rfl⟩, es', O', rfl, h1, h2, h3⟩
 clear hKK
 conv => cbv
 repeat' first | exact gu | exact trivial | refine And.intro ?_ ?_ | (intro hc; exact absurd hc (by decide)) | (intro hc; exfalso; omega) | (intro hc; (first | rw [wS (by omega) (by omega)] at hc | rw [nI_eq] at hc | skip); try (conv => cbv))
 refine loop_up n (fun (s : Int × List (List D)) => [(0, quP), (1, iA 0), (2, iA nv), (7, iA s.1)]) (fun s => quH v N ro s.2)
  (fun k s => ∃ (O' : List Lb) (p' : Nat), s.1 = p' ∧ k ≤ p' ∧ (p' < n ∨ (p' = 0 ∧ n = 0)) ∧ QL n tl s.2 O' ∧ PreDG leL O' p' ∧ O'.Perm O) (0, es)
  (Wk.ch) ⟨O, 0, rfl, by omega, by omega, h, hpre, .refl _⟩ (fun k s h => by obtain ⟨_, _, _, h1, h2, _⟩ := h; omega) ?_
 clear h hpre
 rintro k ⟨x, es⟩ Q' ⟨O', p', hx, hk, hpn, hq, hpre, hmem⟩ norm ex rt
 simp only at hx hq
 have hol := hq.len
 conv => cbv
 repeat' first | exact gu | exact trivial | refine And.intro ?_ ?_ | (intro hc; exact absurd hc (by decide)) | (intro hc; exfalso; omega) | (intro hc; (first | rw [wS (by omega) (by omega)] at hc | rw [nI_eq] at hc | skip); try (conv => cbv))
 ·refine ex _ _ _ ?_
  conv => cbv
  repeat' first | exact gu | exact trivial | refine And.intro ?_ ?_ | (intro hc; exact absurd hc (by decide)) | (intro hc; exfalso; omega) | (intro hc; (first | rw [wS (by omega) (by omega)] at hc | rw [nI_eq] at hc | skip); try (conv => cbv))
  all_goals exact fin _ _ _ hq (hpre.done fun c c0 cl e => by omega) hmem
 ·rename_i a ha b hb h1 h2 c hcc
  have hb' : b = ((2 * p' + 1 : Nat) : Int) := by omega
  have hc' : c = ((2 * p' + 2 : Nat) : Int) := by omega
  refine hls hq hc' hb' (by omega) (by omega) ?_
  by_cases hk2 : leL (atG O' (2 * p' + 1)) (atG O' (2 * p' + 2))
  ·rw [decide_eq_false (fun h => h hk2)]
   have hmin : ∀ c, 0 < c → c < n → (c - 1) / 2 = p' → leL (atG O' (2 * p' + 1)) (atG O' c) := fun c c0 cl e => by
    rcases (by omega : c = 2 * p' + 1 ∨ c = 2 * p' + 2) with rfl | rfl
    ·exact totL.refl _
    ·exact hk2
   conv => cbv
   refine hls hq hb' hx (by omega) (by omega) ?_
   by_cases hlt : leL (atG O' p') (atG O' (2 * p' + 1))
   ·rw [decide_eq_false (fun h => h hlt)]
    conv => cbv
    refine ex _ _ _ ?_
    conv => cbv
    repeat' first | exact gu | exact trivial | refine And.intro ?_ ?_ | (intro hc; exact absurd hc (by decide)) | (intro hc; exfalso; omega) | (intro hc; (first | rw [wS (by omega) (by omega)] at hc | rw [nI_eq] at hc | skip); try (conv => cbv))
    all_goals exact fin _ _ _ hq (hpre.done fun c c0 cl e => totL.trans hlt (hmin c c0 (by omega) e)) hmem
   ·rw [decide_eq_true hlt]
    conv => cbv
    refine hsw hq hx hb' (by omega) (by omega) hN fun es' hq' => ?_
    conv => cbv
    exact norm _ _ (_, _) ⟨_, (2 * p' + 1), hb', by omega, .inl (by omega), hq', hpre.down totL (by omega) (by omega) (by omega) (by omega) hlt (fun c c0 cl e => hmin c c0 (by omega) e), (swpG_perm (by omega) (by omega)).trans hmem⟩ (Wk.ch)
  ·rw [decide_eq_true hk2]
   have hmin : ∀ c, 0 < c → c < n → (c - 1) / 2 = p' → leL (atG O' (2 * p' + 2)) (atG O' c) := fun c c0 cl e => by
    rcases (by omega : c = 2 * p' + 1 ∨ c = 2 * p' + 2) with rfl | rfl
    ·exact totL.lt hk2
    ·exact totL.refl _
   conv => cbv
   refine hls hq hc' hx (by omega) (by omega) ?_
   by_cases hlt : leL (atG O' p') (atG O' (2 * p' + 2))
   ·rw [decide_eq_false (fun h => h hlt)]
    conv => cbv
    refine ex _ _ _ ?_
    conv => cbv
    repeat' first | exact gu | exact trivial | refine And.intro ?_ ?_ | (intro hc; exact absurd hc (by decide)) | (intro hc; exfalso; omega) | (intro hc; (first | rw [wS (by omega) (by omega)] at hc | rw [nI_eq] at hc | skip); try (conv => cbv))
    all_goals exact fin _ _ _ hq (hpre.done fun c c0 cl e => totL.trans hlt (hmin c c0 (by omega) e)) hmem
   ·rw [decide_eq_true hlt]
    conv => cbv
    refine hsw hq hx hc' (by omega) (by omega) hN fun es' hq' => ?_
    conv => cbv
    exact norm _ _ (_, _) ⟨_, (2 * p' + 2), hc', by omega, .inl (by omega), hq', hpre.down totL (by omega) (by omega) (by omega) (by omega) hlt (fun c c0 cl e => hmin c c0 (by omega) e), (swpG_perm (by omega) (by omega)).trans hmem⟩ (Wk.ch)
 ·rename_i a ha b hb h1 h2 c hcc
  have hb' : b = ((2 * p' + 1 : Nat) : Int) := by omega
  have hmin : ∀ c, 0 < c → c < n → (c - 1) / 2 = p' → leL (atG O' (2 * p' + 1)) (atG O' c) := fun c c0 cl e => by
   obtain rfl : c = 2 * p' + 1 := by omega
   exact totL.refl _
  refine hls hq hb' hx (by omega) (by omega) ?_
  by_cases hlt : leL (atG O' p') (atG O' (2 * p' + 1))
  ·rw [decide_eq_false (fun h => h hlt)]
   conv => cbv
   refine ex _ _ _ ?_
   conv => cbv
   repeat' first | exact gu | exact trivial | refine And.intro ?_ ?_ | (intro hc; exact absurd hc (by decide)) | (intro hc; exfalso; omega) | (intro hc; (first | rw [wS (by omega) (by omega)] at hc | rw [nI_eq] at hc | skip); try (conv => cbv))
   all_goals exact fin _ _ _ hq (hpre.done fun c c0 cl e => totL.trans hlt (hmin c c0 (by omega) e)) hmem
  ·rw [decide_eq_true hlt]
   conv => cbv
   refine hsw hq hx hb' (by omega) (by omega) hN fun es' hq' => ?_
   conv => cbv
   exact norm _ _ (_, _) ⟨_, (2 * p' + 1), hb', by omega, .inl (by omega), hq', hpre.down totL (by omega) (by omega) (by omega) (by omega) hlt (fun c c0 cl e => hmin c c0 (by omega) e), (swpG_perm (by omega) (by omega)).trans hmem⟩ (Wk.ch)
end Go.Ab

/-
  The queue of labels: a label comes, the least label leaves.
-/
namespace Go.Ab
open Go.Proofs
theorem ql_len (P : Program) (hP : P = Try.prog) {v n : Nat} {ro : Bool} {es : List (List D)} {K : AV → Hp → Prop} (k : K (iA n) (quH v n ro es)) : CallV P (quH v n ro es) n_kpaths_queue_Len [.c (.arr 1 v 0 n)] K := by
 refine callv_fr [1] (qlen_ok P hP v n ro es) rfl rfl (by decide) ⟨rfl, trivial⟩ rfl rfl ?_
 rintro r hc ⟨rfl, rfl⟩
 exact k
theorem qpop_cut (P : Program) (hP : P = Try.prog) (v n : Nat) (ro : Bool) (es : List (List D)) (l : Lb) (hn : (n : Int) < 1000000000000) (hl : n + 1 ≤ es.length) (hen : es[n]? = some (encLb l)) :
  FnS P n_kpaths_queue_Pop [.c (.ptr 0 0 0 0)] (quH v (n + 1) ro es) fun r h' => r = lbA l ∧ h' = quH v n ro es := by
 refine FnS.mono ((qpop_ok P hP v n ro es l hn hl hen).cut fun r h' hr => ?_) fun r h' hr => ?_
 ·obtain ⟨rfl, b, rfl⟩ := hr
  exact ⟨rfl, rfl⟩
 ·obtain ⟨h2, ⟨rfl, b, e⟩, hl⟩ := hr
  refine ⟨rfl, ?_⟩
  have := congrArg (List.take 2) e
  rw [List.take_append_of_le_length (by rw [hl]; exact Nat.le_refl _), List.take_of_length_le (by rw [hl]; exact Nat.le_refl _)] at this
  rw [this]
  rfl
theorem qpush_cut (P : Program) (hP : P = Try.prog) (v n : Nat) (ro : Bool) (es : List (List D)) (l : Lb) (hn : (n : Int) < 1000000000000) :
  FnS P n_kpaths_queue_Push [.c (.ptr 0 0 0 0), lbA l] (quH v n ro es) fun r h' => r = .tup [] ∧ ∃ ro', h' = quH (v + 1) (n + 1) ro' (es.take n ++ [encLb l]) := by
 refine FnS.mono ((qpush_ok P hP v n ro es l hn).cut fun r h' hr => ?_) fun r h' hr => ?_
 ·obtain ⟨rfl, ro', b, rfl⟩ := hr
  exact ⟨rfl, rfl⟩
 ·obtain ⟨h2, ⟨rfl, ro', b, e⟩, hl⟩ := hr
  refine ⟨rfl, ro', ?_⟩
  have := congrArg (List.take 2) e
  rw [List.take_append_of_le_length (by rw [hl]; exact Nat.le_refl _), List.take_of_length_le (by rw [hl]; exact Nat.le_refl _)] at this
  rw [this]
  rfl
theorem at_take {α : Type} [Inhabited α] {O : List α} {n c : Nat} (hc : c < n) : atG (O.take n) c = atG O c := by
 simp [atG, List.getD_eq_getElem?_getD, List.getElem?_take, hc]
set_option maxHeartbeats 2000000 in
theorem hpop_ok (P : Program) (hP : P = Try.prog) {v n : Nat} {ro : Bool} {tl es : List (List D)} {O : List Lb} (h : QL (n + 1) tl es O) (hn : (n : Int) < 1000000000000) (ho : HOG leL O) :
  FnS P n_container_heap_Pop [quP] (quH v (n + 1) ro es) fun r h' => r = lbA (atG O 0) ∧ ∃ es' O' tl', h' = quH v n ro es' ∧ QL n tl' es' O' ∧ HOG leL O' ∧ (atG O 0 :: O').Perm O := by
 refine heap_start (hP ▸ mixed) (hP ▸ fn_container_heap_Pop) (hP ▸ c_container_heap_Pop) (nle rfl) fun Λ Λo KK hKK => ?_
 have hol := h.len
 obtain ⟨N, hN⟩ : ∃ x : Nat, x = n + 1 := ⟨_, rfl⟩
 rw [← hN] at h hol ⊢
 obtain ⟨nv, hnv⟩ : ∃ x : Int, x = n := ⟨_, rfl⟩
 have hle := @ql_len P hP v N ro es
 have hsw := @ql_swap P hP v N N ro tl es O h (Nat.le_refl _) 0 n 0 nv rfl hnv (by omega) (by omega) (by omega)
 obtain ⟨O1, hO1⟩ : ∃ x, x = swpG O 0 n := ⟨_, rfl⟩
 have hat := swpG_at (O := O) (p := 0) (q := n) (by omega) (by omega)
 have hperm : O1.Perm O := by rw [hO1]; exact swpG_perm (by omega) (by omega)
 rw [← hO1] at hsw hat
 have hl1 : O1.length = N := by rw [hO1, swpG_len]; exact hol
 have hO1e : O1 = O1.take n ++ [atG O 0] := by
  have e1 := hat n
  rw [if_pos rfl] at e1
  have e2 : O1.take (n + 1) = O1 := List.take_of_length_le (by omega)
  have e3 : O1[n]? = some (atG O 0) := by
   rw [← e1, atG, List.getD_eq_getElem?_getD, lgE (by omega)]; rfl
  rw [List.take_add_one, e3] at e2
  exact e2.symm
 have hql : ∀ es', QL N tl es' O1 → QL n (encLb (atG O 0) :: tl) es' (O1.take n) := fun es' hq => by
  refine ⟨?_, by rw [List.length_take]; omega⟩
  rw [hq.oe]
  conv => lhs; rw [hO1e]
  simp
 have hpd : PreDG leL (O1.take n) 0 := by
  have hlt : (O1.take n).length = n := by rw [List.length_take]; omega
  refine ⟨⟨fun c c0 cl cq cpq => ?_, fun c hc => absurd hc (by omega)⟩, fun hc => absurd hc (by omega)⟩
  rw [hlt] at cl
  rw [at_take cl, at_take (by omega), hat, hat, if_neg (by omega), if_neg cpq, if_neg (by omega), if_neg cq]
  exact ho c c0 (by omega)
 have hdn := fun es' hq => @hdown_ok P hP v N n ro (encLb (atG O 0) :: tl) es' (O1.take n) (hql es' hq) (by omega) (by omega) hpd
 rw [← hnv] at hdn
 have hpo := fun es hl he => qpop_cut P hP v n ro es (atG O 0) (by omega) hl he
 rw [← hN] at hpo
 clear hP
 have fin : ∀ es' O', QL n (encLb (atG O 0) :: tl) es' O' → HOG leL O' → O'.Perm (O1.take n) → KK (lbA (atG O 0)) (quH v n ro es') := fun es' O' h1 h2 h3 => hKK _ _ ⟨rfl, es', O', _, rfl, h1, h2, by
  refine List.Perm.trans ?_ hperm
  conv => rhs; rw [hO1e]
  exact (List.Perm.cons _ h3).trans (List.perm_append_singleton _ _).symm⟩
 clear hKK
 obtain ⟨Nv, hNv⟩ : ∃ x : Int, x = N := ⟨_, rfl⟩
 rw [← hNv] at hle
 obtain ⟨e0, he0⟩ : ∃ x, x = encLb (atG O 0) := ⟨_, rfl⟩
 simp only [← he0] at hdn fin hpo
 obtain ⟨a0, ha0⟩ : ∃ x, x = lbA (atG O 0) := ⟨_, rfl⟩
 simp only [← ha0] at fin hpo
 conv => cbv
 refine hle ?_
 conv => cbv
 repeat' first | exact gu | exact trivial | refine And.intro ?_ ?_ | (intro hc; exact absurd hc (by decide)) | (intro hc; exfalso; omega) | (intro hc; (first | rw [wS (by omega) (by omega)] at hc | rw [nI_eq] at hc | skip); try (conv => cbv))
 rename_i c
 obtain rfl : c = nv := by omega
 refine hsw fun es1 hq1 => ?_
 conv => cbv
 refine CallS.fn ((hdn es1 hq1).mono fun r h' hr => ?_)
 obtain ⟨⟨b, rfl⟩, es2, O2, rfl, hq2, ho2, hp2⟩ := hr
 conv => cbv
 have hlen2 : N ≤ es2.length := by rw [hq2.oe]; simp; have := hq2.len; omega
 have hget : es2[n]? = some e0 := by
  rw [hq2.oe, List.getElem?_append_right (by simp [hq2.len]), List.length_map, hq2.len, Nat.sub_self]; rfl
 refine CallV.fn ((hpo es2 hlen2 hget).mono fun r h' hr => ?_)
 obtain ⟨rfl, rfl⟩ := hr
 have fin := fin es2 O2 hq2 ho2 hp2
 conv => cbv
 exact fin
set_option maxHeartbeats 2000000 in
theorem hpush_ok (P : Program) (hP : P = Try.prog) {v n : Nat} {ro : Bool} {tl es : List (List D)} {O : List Lb} (h : QL n tl es O) (hn : (n : Int) + 1 < 1000000000000) (ho : HOG leL O) (l : Lb) :
  FnS P n_container_heap_Push [quP, lbA l] (quH v n ro es) fun r h' => r = .tup [] ∧ ∃ ro' es' O', h' = quH (v + 1) (n + 1) ro' es' ∧ QL (n + 1) [] es' O' ∧ HOG leL O' ∧ O'.Perm (l :: O) := by
 refine heap_start (hP ▸ mixed) (hP ▸ fn_container_heap_Push) (hP ▸ c_container_heap_Push) (nle rfl) fun Λ Λo KK hKK => ?_
 have hol := h.len
 have hpu := qpush_cut P hP v n ro es l (by omega)
 obtain ⟨es1, hes1⟩ : ∃ x, x = es.take n ++ [encLb l] := ⟨_, rfl⟩
 obtain ⟨O1, hO1⟩ : ∃ x, x = O ++ [l] := ⟨_, rfl⟩
 have hl1 : O1.length = n + 1 := by rw [hO1]; simp; omega
 have hq1 : QL (n + 1) [] es1 O1 := by
  refine ⟨?_, hl1⟩
  rw [hes1, hO1, h.oe, List.take_append_of_le_length (by simp; omega), List.take_of_length_le (by simp; omega)]
  simp
 have hat : ∀ c, c < n → atG O1 c = atG O c := fun c hc => by
  rw [hO1]; simp [atG, List.getD_eq_getElem?_getD, List.getElem?_append_left (show c < O.length by omega)]
 have hpu1 : PreU O1 n := by
  refine ⟨⟨fun c c0 cl cq cpq => ?_, fun c _ c0 cl e => by omega⟩, fun c c0 cl e => by omega⟩
  rw [hat _ (by omega), hat _ (by omega)]
  exact ho c c0 (by omega)
 rw [← hes1] at hpu
 obtain ⟨N, hN⟩ : ∃ x : Nat, x = n + 1 := ⟨_, rfl⟩
 obtain ⟨w, hw⟩ : ∃ x : Nat, x = v + 1 := ⟨_, rfl⟩
 rw [← hN] at hpu hq1
 rw [← hw] at hpu
 obtain ⟨nv, hnv⟩ : ∃ x : Int, x = n := ⟨_, rfl⟩
 have hle := fun ro' => @ql_len P hP w N ro' es1
 have hup := fun ro' => @hup_ok P hP w N ro' [] es1 O1 hq1 (by omega) n (by omega) hpu1
 rw [← hnv] at hup
 clear hP
 have fin : ∀ ro' es' O', QL N [] es' O' → HOG leL O' → O'.Perm O1 → KK (.tup []) (quH w N ro' es') := fun ro' es' O' h1 h2 h3 => hKK _ _ ⟨rfl, ro', es', O', by rw [hN, hw], by rw [← hN]; exact h1, h2, h3.trans (by rw [hO1]; exact List.perm_append_comm)⟩
 clear hKK
 obtain ⟨Nv, hNv⟩ : ∃ x : Int, x = N := ⟨_, rfl⟩
 simp only [← hNv] at hle
 obtain ⟨ln, lc, ld, la⟩ := l
 simp only [lbA, intsD] at *
 generalize List.map encI la = al at *
 conv => cbv
 refine CallV.fn (hpu.mono fun r h' hr => ?_)
 obtain ⟨rfl, ro', rfl⟩ := hr
 conv => cbv
 refine hle ro' ?_
 conv => cbv
 repeat' first | exact gu | exact trivial | refine And.intro ?_ ?_ | (intro hc; exact absurd hc (by decide)) | (intro hc; exfalso; omega) | (intro hc; (first | rw [wS (by omega) (by omega)] at hc | rw [nI_eq] at hc | skip); try (conv => cbv))
 rename_i c
 obtain rfl : c = nv := by omega
 refine CallS.fn ((hup ro').mono fun r h' hr => ?_)
 obtain ⟨rfl, es2, O2, rfl, hq2, ho2, hp2⟩ := hr
 have fin := fin ro' es2 O2 hq2 ho2 hp2
 conv => cbv
 exact fin
end Go.Ab

/-
  Maps whose keys are numbers.
-/
namespace Go.Ab
open Go.Proofs
abbrev Isc := List (Int × DV)
def encZ (e : Int × DV) : DV × DV := (.s (iD e.1), e.2)
def ifind (k : Int) : Isc → Nat → Option (Nat × DV)
 | [], _ => none
 | e :: r, i => if k = e.1 then some (i, e.2) else ifind k r (i + 1)
theorem eqc_int (a x : Int) : eqc [.d (.int .i64 a)] [.d (.int .i64 x)] [(0, 0)] = some (decide (a = x)) := by
 have e : eqc [.d (.int .i64 a)] [.d (.int .i64 x)] [(0, 0)] = some ((a == x) && true) := rfl
 rw [e]
 by_cases h1 : a = x
 ·simp [h1]
 ·simp [h1]
theorem mfind_ints (a : Int) : ∀ (m : Isc) (i : Nat), mfind true 1 [(0, 0)] (.s (.int .i64 a)) (m.map encZ) i = some (ifind a m i) := by
 intro m
 induction m with
 | nil => intro i; rfl
 | cons e r ih =>
  intro i
  obtain ⟨x, v⟩ := e
  have e1 : mfind true 1 [(0, 0)] (.s (.int .i64 a)) (List.map encZ ((x, v) :: r)) i =
    (match eqc [.d (.int .i64 a)] [.d (.int .i64 x)] [(0, 0)] with
    | some true => some (some (i, v))
    | some false => mfind true 1 [(0, 0)] (.s (.int .i64 a)) (List.map encZ r) (i + 1)
    | none => none) := rfl
  rw [e1, eqc_int]
  simp only [ifind]
  by_cases h : a = x
  ·rw [decide_eq_true h, if_pos h]
  ·rw [decide_eq_false h, if_neg h]; exact ih (i + 1)
theorem vlk_ints {a : Int} {m : Isc} {ml : List (DV × DV)} {ok : Bool} {z : AV} {K : AV → Prop} (mlh : m.map encZ = ml) (h0 : ifind a m 0 = none → K (lkR ok z false)) (h1 : ∀ i v, ifind a m 0 = some (i, v) → K (lkR ok (avDV v) true)) :
  ∀ r, mfind true 1 [(0, 0)] (.s (.int .i64 a)) ml 0 = r → vLk ok z K r := by
 intro r hr
 rw [← mlh, mfind_ints] at hr
 subst hr
 cases hp : ifind a m 0 with
 | none => exact h0 hp
 | some p => exact h1 p.1 p.2 hp
theorem vup_ints {a : Int} {m : Isc} {ml : List (DV × DV)} {vd : DV} {K : List (DV × DV) → Prop} (mlh : m.map encZ = ml) (h0 : ifind a m 0 = none → ∀ es', (m ++ [(a, vd)]).map encZ = es' → K es') (h1 : ∀ i v, ifind a m 0 = some (i, v) → ∀ es', (m.set i (a, vd)).map encZ = es' → K es') :
  ∀ r, mfind true 1 [(0, 0)] (.s (.int .i64 a)) ml 0 = r → vUp ml (.s (.int .i64 a)) vd K r := by
 intro r hr
 have hm : mfind true 1 [(0, 0)] (.s (.int .i64 a)) ml 0 = some (ifind a m 0) := by rw [← mlh, mfind_ints]
 rw [hm] at hr
 subst hr
 cases hp : ifind a m 0 with
 | none => intro es' he; exact h0 hp es' (by rw [he, ← mlh]; simp [encZ])
 | some p => intro es' he; exact h1 p.1 p.2 hp es' (by rw [he, ← mlh, List.map_set]; rfl)
theorem ifind_none {k : Int} {m : Isc} : ∀ {i : Nat}, ifind k m i = none ↔ k ∉ m.map (·.1) := by
 induction m with
 | nil => intro i; simp [ifind]
 | cons e r ih =>
  intro i
  simp only [ifind, List.map_cons, List.mem_cons, not_or]
  split
  ·rename_i h; simp [h]
  ·rename_i h; rw [ih]; simp [h]
theorem ifind_some {k : Int} {m : Isc} {v : DV} : ∀ {i j : Nat}, ifind k m i = some (j, v) → i ≤ j ∧ m[j - i]? = some (k, v) := by
 induction m with
 | nil => intro i j h; simp [ifind] at h
 | cons e r ih =>
  intro i j h
  simp only [ifind] at h
  split at h
  ·rename_i hk
   cases h
   exact ⟨Nat.le_refl _, by rw [hk]; simp⟩
  ·obtain ⟨h1, h2⟩ := ih h
   refine ⟨by omega, ?_⟩
   rw [show j - i = (j - (i + 1)) + 1 by omega]; simpa using h2
end Go.Ab

