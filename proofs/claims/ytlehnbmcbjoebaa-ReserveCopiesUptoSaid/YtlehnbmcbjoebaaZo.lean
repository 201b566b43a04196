/-
  Merged texts, part o.
-/
import Derived.Test.YtlehnbmcbjoebaaZn
import Derived.Shelf.SlSortCmp.WholeK
/-
  Reservations, part j: sorting requests: the library's contract, as a contract of the machine.
-/
namespace Go.Ab
open Go.Proofs Go.Sort
inductive SlV where
 | nil
 | emp (a : Addr)
 | sl (b o n cap : Nat)
 deriving Inhabited
def SlV.val : SlV → Value
 | .nil => .slice none 0 0
 | .emp a => .slice (some a) 0 0
 | .sl b o n cap => .slice (some ⟨b, o, none⟩) n cap
def SlV.dat : SlV → D
 | .nil => .list true 1 []
 | .emp _ => .list false 1 []
 | .sl b o n cap => .sl b o 1 n cap
theorem SlV.dr (G : Nat → Prop) (w : World) (s : SlV) : DR G w s.val s.dat := by
 cases s with
 | nil => exact .nils _ _
 | emp a => exact .emp _ _
 | sl b o n cap => exact .slA b o 1 n cap
theorem SlV.of {G : Nat → Prop} {w : World} {v : Value} {l : List (List D)} (h : DR G w v (.list false 1 l)) : ∃ s : SlV, v = s.val := by
 generalize hx : D.list false 1 l = x at h
 cases h <;> first | (cases hx; done) | skip
 ·exact ⟨.nil, rfl⟩
 ·rename_i a _; exact ⟨.emp a, rfl⟩
 ·exact ⟨.sl _ _ _ _, rfl⟩
structure RqV where
 id : Int
 sv : SlV
 amt : Int
 setup : Int
 hold : Int
 deriving Inhabited
def encV (x : RqV) : List Value := [.int .i64 x.id, x.sv.val, .int .i64 x.amt, .int .i64 x.setup, .int .i64 x.hold]
def cfV (x y : RqV) : Int := cmpH x.hold x.id y.hold y.id
theorem quiet_grow {w w' : World} (hq : Quiet w w') (hs : w.heap.size ≤ w'.heap.size) (hf : ∀ b, b < w.heap.size → w'.heap[b]? = w.heap[b]?) : ∃ q os, w' = grow (w.drewN q) os := by
 obtain ⟨h1, h2, h3, h4⟩ := hq
 refine ⟨w'.drawn - w.drawn, w'.heap.extract w.heap.size w'.heap.size, ?_⟩
 have hh : w'.heap = w.heap ++ w'.heap.extract w.heap.size w'.heap.size := by
  apply Array.ext_getElem?
  intro i
  rcases Nat.lt_or_ge i w.heap.size with hi | hi
  ·rw [Array.getElem?_append_left hi, hf i hi]
  ·rw [Array.getElem?_append_right hi, Array.getElem?_extract]
   simp only [Nat.min_self]
   rcases Nat.lt_or_ge i w'.heap.size with hj | hj
   ·rw [if_pos (by omega), show w.heap.size + (i - w.heap.size) = i by omega]
   ·rw [if_neg (by omega), Array.getElem?_eq_none hj]
 have hd : w'.drawn = w.drawn + (w'.drawn - w.drawn) := by omega
 cases w' with
 | mk a b c d e =>
  cases w with
  | mk a2 b2 c2 d2 e2 =>
   simp only at h1 h2 h3 hh hd
   subst h1 h2 h3
   simp only [grow, World.drewN, World.mk.injEq, true_and, and_true]
   exact ⟨hh, hd⟩
theorem ycmp_lays (P : Program) (hP : P = Try.prog) (blk off size : Nat) (w : World) : CmpLays P n_reserve_Table_yielding_1 #[] encV 5 cfV blk off size w := by
 intro m os dk _ x y
 generalize sortWorldK encV 5 w blk off m dk os = W
 have hc := ycmp_ok P hP x.id x.amt x.setup x.hold y.id y.amt y.setup y.hold x.sv.dat y.sv.dat
 have ag : ∀ z : RqV, VR (fun _ => False) W [] [] (.agg (encV z).toArray) (.agg [.d (iD z.id), .d z.sv.dat, .d (iD z.amt), .d (iD z.setup), .d (iD z.hold)]) := fun z =>
  .agg _ _ rfl fun i v y hv hu => by
   match i, hv, hu with
   | 0, hv, hu => cases hv; cases hu; exact .d _ _ (.int _ _)
   | 1, hv, hu => cases hv; cases hu; exact .d _ _ (z.sv.dr _ _)
   | 2, hv, hu => cases hv; cases hu; exact .d _ _ (.int _ _)
   | 3, hv, hu => cases hv; cases hu; exact .d _ _ (.int _ _)
   | 4, hv, hu => cases hv; cases hu; exact .d _ _ (.int _ _)
   | i + 5, hv, hu => cases hu
 have h1 := hc.out (fun _ => False) [] W [.agg (encV x).toArray, .agg (encV y).toArray] (HR_nil fun b hb => hb.elim) ⟨rfl, fun i v u hv hu => by
  match i, hv, hu with
  | 0, hv, hu => cases hv; cases hu; exact ag x
  | 1, hv, hu => cases hv; cases hu; exact ag y
  | i + 2, hv, hu => cases hu⟩
 refine h1.mono fun e w' ⟨v, r, G', ι', h', he, hr, h2, h3, h4⟩ => ?_
 subst hr
 have hv : v = .int .i64 (cfV x y) := by
  cases inv_d h3; rfl
 refine ⟨by rw [he, hv], quiet_grow h4.quiet h4.size fun b hb => h4.frame b hb fun ⟨l, k, h5, _⟩ => by simp at h5⟩
def SortsF (P : Program) (f g : Nat) : Prop :=
 (∀ (blk off cap : Nat) (d : Array RqV) (w : World), CmpLays P g #[] encV 5 cfV blk off d.size w → HoldsK encV 5 w blk off d → blk < w.heap.size → d.size < 4611686018427387904 →
  Calls P f #[.slice (some ⟨blk, off, none⟩) d.size cap, .func (.func g) #[] #[]] w fun e w' => e = .returned (.tuple #[]) ∧ ∃ d' n os, PermIn 0 d.size d d' ∧ SortedIn (ltOf cfV) 0 d.size d' ∧ w' = sortWorldK encV 5 w blk off n d' os) ∧
 ∀ (p : Option Addr) (cap : Nat) (fv : Value) (w : World), Calls P f #[.slice p 0 cap, fv] w fun e w' => e = .returned (.tuple #[]) ∧ w' = w
theorem perm_lift {α β : Type} (f : α → β) {l1 l2 : List β} (h : l1.Perm l2) : ∀ zs : List α, zs.map f = l2 → ∃ zs' : List α, zs'.Perm zs ∧ zs'.map f = l1 := by
 induction h with
 | nil => intro zs hz; exact ⟨zs, .refl _, hz⟩
 | cons x _ ih =>
  intro zs hz
  cases zs with
  | nil => cases hz
  | cons z zs =>
   simp only [List.map_cons, List.cons.injEq] at hz
   obtain ⟨zs', h1, h2⟩ := ih zs hz.2
   exact ⟨z :: zs', h1.cons z, by simp [h2, hz.1]⟩
 | swap x y l =>
  intro zs hz
  match zs, hz with
  | a :: b :: zs, hz =>
   simp only [List.map_cons, List.cons.injEq] at hz
   exact ⟨b :: a :: zs, .swap _ _ _, by simp [hz]⟩
 | trans _ _ ih1 ih2 =>
  intro zs hz
  obtain ⟨z2, h1, h2⟩ := ih2 zs hz
  obtain ⟨z1, h3, h4⟩ := ih1 z2 h2
  exact ⟨z1, h3.trans h1, h4⟩
def RelV (G : Nat → Prop) (w : World) (x : RqV) (r : Rq) : Prop := x.id = r.id ∧ x.amt = r.amt ∧ x.setup = r.setup ∧ x.hold = r.hold ∧ DR G w x.sv.val (intsD r.arcs)
theorem RelV.cell {G : Nat → Prop} {w : World} {x : RqV} {r : Rq} (h : RelV G w x r) : ∀ (j : Nat) (u : D), (encRq r)[j]? = some u → ∃ v, (encV x)[j]? = some v ∧ DR G w v u := by
 obtain ⟨h1, h2, h3, h4, h5⟩ := h
 intro j u hu
 match j, hu with
 | 0, hu => cases hu; exact ⟨_, rfl, by rw [h1]; exact .int _ _⟩
 | 1, hu => cases hu; exact ⟨_, rfl, h5⟩
 | 2, hu => cases hu; exact ⟨_, rfl, by rw [h2]; exact .int _ _⟩
 | 3, hu => cases hu; exact ⟨_, rfl, by rw [h3]; exact .int _ _⟩
 | 4, hu => cases hu; exact ⟨_, rfl, by rw [h4]; exact .int _ _⟩
 | j + 5, hu => cases hu
theorem dr_int {G : Nat → Prop} {w : World} {v : Value} {n : Int} (h : DR G w v (iD n)) : v = .int .i64 n := by cases h; rfl
theorem RelV.of {G : Nat → Prop} {w : World} {r : Rq} {f : Nat → Value} (h : ∀ (j : Nat) (u : D), (encRq r)[j]? = some u → DR G w (f j) u) : ∃ x : RqV, RelV G w x r ∧ ∀ j, j < 5 → (encV x)[j]? = some (f j) := by
 have h0 := h 0 _ rfl
 have h1 := h 1 _ rfl
 have h2 := h 2 _ rfl
 have h3 := h 3 _ rfl
 have h4 := h 4 _ rfl
 obtain ⟨s, hs⟩ := SlV.of h1
 have i0 : f 0 = .int .i64 r.id := dr_int h0
 have i2 : f 2 = .int .i64 r.amt := dr_int h2
 have i3 : f 3 = .int .i64 r.setup := dr_int h3
 have i4 : f 4 = .int .i64 r.hold := dr_int h4
 refine ⟨⟨r.id, s, r.amt, r.setup, r.hold⟩, ⟨rfl, rfl, rfl, rfl, by rw [← hs]; exact h1⟩, fun j hj => ?_⟩
 match j, hj with
 | 0, _ => rw [i0]; rfl
 | 1, _ => rw [hs]; rfl
 | 2, _ => rw [i2]; rfl
 | 3, _ => rw [i3]; rfl
 | 4, _ => rw [i4]; rfl
theorem flat_at {d : Array RqV} {i j : Nat} {x : RqV} {v : Value} (hx : d[i]? = some x) (hj : (encV x)[j]? = some v) : (flatK encV 5 d)[i * 5 + j]! = v := by
 have h1 := (Array.getElem?_eq_some_iff.1 hx).1
 have h2 : j < 5 := get_lt hj
 rw [get_flatK encV 5 d (i * 5 + j) (by omega), show (i * 5 + j) / 5 = i by omega, show (i * 5 + j) % 5 = j by omega]
 have h3 : d[i]! = x := by rw [getElem!_pos d i h1]; exact (Array.getElem?_eq_some_iff.1 hx).2
 rw [h3, getElem!_pos (encV x) j (get_lt hj)]
 exact (List.getElem?_eq_some_iff.1 hj).2
theorem sortF_fn {P : Program} {f g : Nat} (hs : SortsF P f g) (hcm : ∀ blk off size w, CmpLays P g #[] encV 5 cfV blk off size w) (l : List Rq) (hz : l.length < 4611686018427387904) (r : Bool) (v : Nat) :
  FnS P f [.c (.arr 0 v 0 l.length), .c (.fn false g [])] [.da r v 5 (l.map encRq)] fun r' h' => r' = .tup [] ∧ ∃ l' : List Rq, l'.Perm l ∧ l'.Pairwise (fun a b => ¬ cmpH b.hold b.id a.hold a.id < 0) ∧ h' = [.da r v 5 (l'.map encRq)] := by
 refine ⟨fun G ι w vs hr hv => ?_⟩
 obtain ⟨v0, v1, hvs⟩ : ∃ v0 v1, vs = [v0, v1] := by
  have := hv.1
  match vs, this with
  | [x, y], _ => exact ⟨x, y, rfl⟩
 subst hvs
 have hv0 : VR G w ι [.da r v 5 (l.map encRq)] v0 (.c (.arr 0 v 0 l.length)) := hv.2 0 _ _ rfl rfl
 have hv1 : VR G w ι [.da r v 5 (l.map encRq)] v1 (.c (.fn false g [])) := hv.2 1 _ _ rfl rfl
 have hf1 : v1 = .func (.func g) #[] #[] := by
  cases inv_c hv1 with
  | fn _ _ _ vs' _ hv' hn _ =>
   have : vs' = #[] := Array.eq_empty_of_size_eq_zero hn
   subst this
   exact hv'
 subst hf1
 have none : ∀ p cap, v0 = .slice p 0 cap → l = [] → Calls P f [v0, .func (.func g) #[] #[]].toArray w fun e w' => ∃ v' r' G' ι' h', e = .returned v' ∧ (r' = .tup [] ∧ ∃ l' : List Rq, l'.Perm l ∧ l'.Pairwise (fun a b => ¬ cmpH b.hold b.id a.hold a.id < 0) ∧ h' = [.da r v 5 (l'.map encRq)]) ∧ HR G' ι' h' w' ∧ VR G' w' ι' h' v' r' ∧ Ext G ι [.da r v 5 (l.map encRq)] w G' ι' h' w' := by
  intro p cap he hz
  subst he hz
  refine (hs.2 p cap _ w).mono fun e w' ⟨h1, h2⟩ => ?_
  subst h2
  exact ⟨_, .tup [], G, ι, _, h1, ⟨rfl, [], by simp, by simp, rfl⟩, hr, .tup _ _ rfl (by simp), Ext.refl _ _ _ _⟩
 cases inv_c hv0 with
 | arr _ _ _ _ _ blk hb ha hk hk0 =>
  cases hb
  cases r with
  | false =>
   obtain ⟨_, h2, h3⟩ := hk0 5 _ rfl
   exact none _ _ h3 (List.eq_nil_of_length_eq_zero h2)
  | true =>
   obtain ⟨b, o, cap, g1, g2, g3, g4, g5⟩ := hk 5 _ rfl
   by_cases hz0 : l = []
   ·have hl : l.length = 0 := by rw [hz0]; rfl
    rcases g5 with g5 | ⟨_, _, o', g5⟩
    ·exact none _ _ (by rw [hl] at g5; exact g5) hz0
    ·exact none _ _ g5 hz0
   ·have hlen : l.length ≠ 0 := fun h => hz0 (List.eq_nil_of_length_eq_zero h)
    have g5 := g5.resolve_right fun h => hlen h.1
    rw [Nat.zero_mul, Nat.add_zero] at g5
    subst g5
    obtain ⟨b', o', c, t, fr, p0, p1, p2, p3, p4, p5, p6⟩ := hr.blk 0 _ rfl
    rw [g1] at p1; cases p1
    rw [List.length_map] at p0 p3
    have hex : ∀ i, ∃ x : RqV, ∀ q, l[i]? = some q → RelV G w x q ∧ ∀ j, j < 5 → c[o + i * 5 + j]? = (encV x)[j]? := by
     intro i
     cases hq : l[i]? with
     | none => exact ⟨default, fun q h => by cases h⟩
     | some q =>
      have hil := get_lt hq
      have hrow : (l.map encRq)[i]? = some (encRq q) := by rw [List.getElem?_map, hq]; rfl
      have hin : ∀ j, j < 5 → c[o + i * 5 + j]? = some (c[o + i * 5 + j]!) := fun j hj => by
       have : o + i * 5 + j < c.size := by omega
       rw [Array.getElem?_eq_getElem this, getElem!_pos c _ this]
      obtain ⟨x, hx1, hx2⟩ := RelV.of (G := G) (w := w) (r := q) (f := fun j => c[o + i * 5 + j]!) fun j u hu => by
       obtain ⟨y, hy, hd⟩ := p6 i _ j u hrow hu
       have hj : j < 5 := get_lt hu
       rw [hin j hj] at hy
       cases hy; exact hd
      refine ⟨x, fun q' h => by cases h; exact ⟨hx1, fun j hj => by rw [hx2 j hj]; exact hin j hj⟩⟩
    obtain ⟨F, hF⟩ := Classical.axiomOfChoice hex
    have dlen : ((List.range l.length).map F).length = l.length := by simp
    generalize hdl : (List.range l.length).map F = dl at dlen
    have hdl_at : ∀ (i : Nat) (x : RqV) (q : Rq), dl[i]? = some x → l[i]? = some q → RelV G w x q ∧ ∀ j, j < 5 → c[o + i * 5 + j]? = (encV x)[j]? := fun i x q hx hq => by
     rw [← hdl, List.getElem?_map, List.getElem?_range (get_lt hq)] at hx
     cases hx
     exact hF i q hq
    have hH : HoldsK encV 5 w b o dl.toArray := by
     intro t ht
     simp only [size_flatK, List.size_toArray] at ht
     have hi : t / 5 < l.length := by omega
     have e1 : dl[t / 5]? = some (dl[t / 5]'(by omega)) := List.getElem?_eq_getElem _
     have e2 : l[t / 5]? = some (l[t / 5]) := List.getElem?_eq_getElem _
     obtain ⟨_, h2⟩ := hdl_at _ _ _ e1 e2
     have h3 := h2 (t % 5) (by omega)
     rw [show o + t / 5 * 5 + t % 5 = o + t by omega] at h3
     have hlt : o + t < c.size := by omega
     have h4 : (encV (dl[t / 5]'(by omega)))[t % 5]? = some c[o + t] := by rw [← h3]; exact Array.getElem?_eq_getElem hlt
     have h5 := flat_at (d := dl.toArray) (i := t / 5) (by simp) h4
     rw [show t / 5 * 5 + t % 5 = t by omega] at h5
     refine ⟨by rw [cell_of p2, h5]; exact Array.getElem?_eq_getElem hlt, frozen_of p2 (p4 (o + t) hlt)⟩
    have hbw : b < w.heap.size := owned_lt hr (owned_of (k := .da true v 5 (l.map encRq)) g1 rfl rfl)
    have hcall := hs.1 b o cap dl.toArray w (hcm b o _ w) hH hbw (by simpa [dlen] using hz)
    simp only [List.size_toArray, dlen] at hcall
    refine hcall.mono fun e w' ⟨h1, d', n, os, hperm, hsort, h2⟩ => ?_
    have hds : d'.size = l.length := by rw [hperm.1]; simp [dlen]
    have hpl : d'.toList.Perm dl := by
     have := hperm.2.2
     have e1 : d'.extract 0 l.length = d' := by rw [← hds]; simp
     have e2 : dl.toArray.extract 0 l.length = dl.toArray := by rw [← dlen]; simp
     rw [e1, e2] at this
     simpa using this
    obtain ⟨zs, hz1, hz2⟩ := perm_lift (Prod.fst : RqV × Rq → RqV) hpl (dl.zip l) (List.map_fst_zip (by omega))
    have hrel : ∀ z ∈ zs, RelV G w z.1 z.2 := fun z hz => by
     have hm := hz1.mem_iff.1 hz
     obtain ⟨i, hi⟩ := List.mem_iff_getElem?.1 hm
     rw [List.getElem?_zip_eq_some] at hi
     exact (hdl_at i _ _ hi.1 hi.2).1
    have hpr : (zs.map Prod.snd).Perm l := by
     have := hz1.map Prod.snd
     rwa [List.map_snd_zip (by omega)] at this
    have zlen : zs.length = l.length := by rw [← hds]; have := congrArg List.length hz2; simpa using this
    have zat : ∀ (i : Nat) (z : RqV × Rq), zs[i]? = some z → d'[i]? = some z.1 := fun i z hi => by
     have : d'.toList[i]? = some z.1 := by rw [← hz2, List.getElem?_map, hi]; rfl
     simpa using this
    have hpw : (zs.map Prod.snd).Pairwise (fun a b => ¬ cmpH b.hold b.id a.hold a.id < 0) := by
     rw [List.pairwise_map, List.pairwise_iff_getElem]
     intro i j hi hj hij
     have a1 := zat i _ (List.getElem?_eq_getElem hi)
     have a2 := zat j _ (List.getElem?_eq_getElem hj)
     have hs1 := hsort i j (Nat.zero_le _) hij (by omega)
     have b1 := Array.getElem?_eq_some_iff.1 a1
     have b2 := Array.getElem?_eq_some_iff.1 a2
     rw [getElem!_pos d' i b1.1, getElem!_pos d' j b2.1, b1.2, b2.2] at hs1
     simp only [ltOf, cfV] at hs1
     have r1 := hrel zs[i] (List.getElem_mem hi)
     have r2 := hrel zs[j] (List.getElem_mem hj)
     rw [← r1.1, ← r1.2.2.2.1, ← r2.1, ← r2.2.2.2.1]
     exact of_decide_eq_false hs1
    obtain ⟨k1, k2, k3⟩ := row_heap id w n b o (flatK encV 5 d') os p2
    have h2' : w' = grow (putRow id (Sort.ahead w n) b o (flatK encV 5 d')) os := h2
    rw [← h2'] at k1 k2 k3
    have hq : Quiet w w' := by subst h2'; exact ⟨rfl, rfl, rfl, by simp [grow, putRow, mapBlock, Sort.ahead]⟩
    have hi0 : ι.set 0 (b, o) = ι := by
     have hil := hr.len
     cases ι with
     | nil => simp at g1
     | cons y rest => simp only [List.getElem?_cons_zero, Option.some.injEq] at g1; rw [g1]; rfl
    have hpc : (putCells id o (flatK encV 5 d') c).size = c.size := by simp [putCells]
    have hlm : (zs.map Prod.snd).length = l.length := by rw [List.length_map, zlen]
    generalize hlp : zs.map Prod.snd = l' at *
    have hkept : Kept ι (ι.set 0 (b, o)) w w' 0 (.da true v 5 (l.map encRq)) (.da true v 5 (l'.map encRq)) := by
     refine .inr ⟨rfl, rfl, rfl, by simp [hlm], by rw [hi0], fun _ b2 o2 hb2 => ?_⟩
     rw [g1] at hb2; cases hb2
     simp [bsize, k1, p2, hpc]
    have hsame : ∀ b2, G b2 → G b2 ∧ w'.heap[b2]? = w.heap[b2]? := fun b2 hb2 => by
     obtain ⟨q1, q2⟩ := hr.g b2 hb2
     refine ⟨hb2, k2 b2 q1 fun e => q2 ?_⟩
     subst e
     exact owned_of (k := .da true v 5 (l.map encRq)) g1 rfl rfl
    obtain ⟨q1, q2⟩ := HR.move (k := .da true v 5 (l'.map encRq)) (b1 := b) (o1 := o) hr (l := 0) rfl g1 rfl rfl hkept k3 k2 (.inl rfl)
     ⟨b, o, _, t, fr, by rw [List.length_map, hlm]; exact p0, by rw [hi0]; exact g1, k1, by rw [hpc, List.length_map, hlm]; exact p3, by rw [hpc]; exact p4, fun i e he => by
      simp only [List.getElem?_map, Option.map_eq_some_iff] at he
      obtain ⟨_, _, rfl⟩ := he; rfl, fun i e j u he hu => by
      simp only [List.getElem?_map, Option.map_eq_some_iff] at he
      obtain ⟨q, hqi, rfl⟩ := he
      have hj : j < 5 := get_lt hu
      have hil : i < l.length := by have := get_lt hqi; omega
      rw [← hlp, List.getElem?_map, Option.map_eq_some_iff] at hqi
      obtain ⟨z, hzi, rfl⟩ := hqi
      obtain ⟨y, hy, hd⟩ := (hrel z (List.mem_of_getElem? hzi)).cell j u hu
      refine ⟨y, ?_, hd.mono hsame⟩
      have hfl := flat_at (zat i z hzi) hy
      have hlt : o + i * 5 + j < c.size := by omega
      simp only [putCells, Array.getElem?_mapIdx]
      rw [Array.getElem?_eq_getElem hlt, Option.map_some, if_pos (by rw [size_flatK, hds]; omega), show o + i * 5 + j - o = i * 5 + j by omega, hfl]
      rfl⟩ hq
    rw [hi0] at q1 q2
    exact ⟨_, .tup [], G, ι, _, h1, ⟨rfl, l', hpr, hpw, rfl⟩, q1, .tup _ _ rfl (by simp), q2⟩
end Go.Ab

