/-
  Merged texts, part n.
-/
import Derived.Test.YtollegfnkaomeaaZm
import Derived.Sort.Grow
/-
  Compressing, part i: sorting routes: the library's contract, as a contract of the machine.
-/
namespace Go.Ab
open Go.Proofs Go.Sort
def encV (x : Rt) : List Value := [.int .u32 x.p.addr, .int .i64 x.p.len, .int .i64 x.val]
def cfV (x y : Rt) : Int := cmpP x.p y.p
theorem cmp1_ok (P : Program) (hP : P = Try.prog) (x y : Rt) : Ret P n_compress_Compress_1 [.agg [.d (u32D x.p.addr), .d (iD x.p.len), .d (iD x.val)], .agg [.d (u32D y.p.addr), .d (iD y.p.len), .d (iD y.val)]] (iA (cfV x y)) := by
 have h1 := pcmp_ok P hP x.p y.p
 refine ret_start (hP ▸ mixed) (hP ▸ fn_compress_Compress_1) (hP ▸ c_compress_Compress_1) (Nat.le_of_ble_eq_true rfl) fun Λ Λo K hK => ?_
 clear hP
 obtain ⟨⟨a, b⟩, c⟩ := x
 obtain ⟨⟨a2, b2⟩, c2⟩ := y
 simp only [pfA, cfV] at *
 generalize cmpP = cp at *
 conv => cbv
 repeat' first | (refine call_r h1 rfl rfl ?_; conv => cbv) | exact gu | exact trivial | refine And.intro ?_ ?_ | (intro hc; exact absurd hc (by decide)) | (intro hc; exfalso; omega) | (intro hc; (first | rw [wrap_small (by omega) (by omega)] at hc | rw [nI_eq] at hc | skip); try (conv => cbv)) | refine CallG.old ?_
 exact hK
theorem quiet_grow {w w' : World} (hq : Quiet w w') (hs : w.heap.size ≤ w'.heap.size) (hf : ∀ b, b < w.heap.size → w'.heap[b]? = w.heap[b]?) : ∃ q os, w' = grow (w.drewN q) os := by
 obtain ⟨h1, h2, h3, h4⟩ := hq
 refine ⟨w'.drawn - w.drawn, w'.heap.extract w.heap.size w'.heap.size, ?_⟩
 have hh : w'.heap = w.heap ++ w'.heap.extract w.heap.size w'.heap.size := by
  apply Array.ext_getElem?
  intro i
  rcases Nat.lt_or_ge i w.heap.size with hi | hi
  ·rw [Array.getElem?_append_left hi, hf i hi]
  ·rw [Array.getElem?_append_right hi, Array.getElem?_extract]
   simp only [Nat.min_self]
   rcases Nat.lt_or_ge i w'.heap.size with hj | hj
   ·rw [if_pos (by omega), show w.heap.size + (i - w.heap.size) = i by omega]
   ·rw [if_neg (by omega), Array.getElem?_eq_none hj]
 have hd : w'.drawn = w.drawn + (w'.drawn - w.drawn) := by omega
 cases w' with
 | mk a b c d e =>
  cases w with
  | mk a2 b2 c2 d2 e2 =>
   simp only at h1 h2 h3 hh hd
   subst h1 h2 h3
   simp only [grow, World.drewN, World.mk.injEq, true_and, and_true]
   exact ⟨hh, hd⟩
theorem ccmp_lays (P : Program) (hP : P = Try.prog) (blk off size : Nat) (w : World) : CmpLays P n_compress_Compress_1 #[] encV 3 cfV blk off size w := by
 intro m os dk _ x y
 generalize sortWorldK encV 3 w blk off m dk os = W
 have hc := cmp1_ok P hP x y
 have ag : ∀ z : Rt, VR (fun _ => False) W [] [] (.agg (encV z).toArray) (.agg [.d (u32D z.p.addr), .d (iD z.p.len), .d (iD z.val)]) := fun z =>
  .agg _ _ rfl fun i v y hv hu => by
   match i, hv, hu with
   | 0, hv, hu => cases hv; cases hu; exact .d _ _ (.int _ _)
   | 1, hv, hu => cases hv; cases hu; exact .d _ _ (.int _ _)
   | 2, hv, hu => cases hv; cases hu; exact .d _ _ (.int _ _)
   | i + 3, hv, hu => cases hu
 have h1 := hc.out (fun _ => False) [] W [.agg (encV x).toArray, .agg (encV y).toArray] (HR_nil fun b hb => hb.elim) ⟨rfl, fun i v u hv hu => by
  match i, hv, hu with
  | 0, hv, hu => cases hv; cases hu; exact ag x
  | 1, hv, hu => cases hv; cases hu; exact ag y
  | i + 2, hv, hu => cases hu⟩
 refine (h1.calls (hP ▸ fn_compress_Compress_1)).mono fun e w' ⟨v, r, G', ι', h', he, hr, h2, h3, h4⟩ => ?_
 obtain ⟨_, hr⟩ := hr
 subst hr
 have hv : v = .int .i64 (cfV x y) := by
  cases inv_d h3; rfl
 refine ⟨by rw [he, hv], quiet_grow h4.quiet h4.size fun b hb => h4.frame b hb fun ⟨l, k, h5, _⟩ => by simp at h5⟩
theorem row_heap {α : Type} [Inhabited α] (enc : α → Value) (w : World) (n b o : Nat) (d : Array α) (os : Array Obj) {c : Array Value} {t : TypeId} {fr : Nat × Nat} (hb : w.heap[b]? = some (.cells c t fr)) :
  (grow (putRow enc (Sort.ahead w n) b o d) os).heap[b]? = some (.cells (putCells enc o d c) t fr) ∧ (∀ x, x < w.heap.size → x ≠ b → (grow (putRow enc (Sort.ahead w n) b o d) os).heap[x]? = w.heap[x]?) ∧
   w.heap.size ≤ (grow (putRow enc (Sort.ahead w n) b o d) os).heap.size := by
 have hlt : b < w.heap.size := by
  rcases Nat.lt_or_ge b w.heap.size with h | h
  ·exact h
  ·rw [Array.getElem?_eq_none h] at hb; cases hb
 have hg : ∀ x, x < w.heap.size → (grow (putRow enc (Sort.ahead w n) b o d) os).heap[x]? = (w.heap.modify b (onCells (putCells enc o d)))[x]? := by
  intro x hx
  rw [heap_grow_old _ _ (by simpa using hx)]
  rfl
 refine ⟨?_, fun x hx hne => ?_, by simp [grow, putRow, mapBlock]⟩
 ·rw [hg b hlt, Array.getElem?_modify, if_pos rfl, hb]; rfl
 ·rw [hg x hx, Array.getElem?_modify, if_neg (fun e => hne e.symm)]
def SortsF (P : Program) (f g : Nat) : Prop :=
 (∀ (blk off cap : Nat) (d : Array Rt) (w : World), CmpLays P g #[] encV 3 cfV blk off d.size w → HoldsK encV 3 w blk off d → blk < w.heap.size → d.size < 4611686018427387904 →
  Calls P f #[.slice (some ⟨blk, off, none⟩) d.size cap, .func (.func g) #[] #[]] w fun e w' => e = .returned (.tuple #[]) ∧ ∃ d' n os, PermIn 0 d.size d d' ∧ SortedIn (ltOf cfV) 0 d.size d' ∧ w' = sortWorldK encV 3 w blk off n d' os) ∧
 ∀ (p : Option Addr) (cap : Nat) (fv : Value) (w : World), Calls P f #[.slice p 0 cap, fv] w fun e w' => e = .returned (.tuple #[]) ∧ w' = w
theorem perm_lift {α β : Type} (f : α → β) {l1 l2 : List β} (h : l1.Perm l2) : ∀ zs : List α, zs.map f = l2 → ∃ zs' : List α, zs'.Perm zs ∧ zs'.map f = l1 := by
 induction h with
 | nil => intro zs hz; exact ⟨zs, .refl _, hz⟩
 | cons x _ ih =>
  intro zs hz
  cases zs with
  | nil => cases hz
  | cons z zs =>
   simp only [List.map_cons, List.cons.injEq] at hz
   obtain ⟨zs', h1, h2⟩ := ih zs hz.2
   exact ⟨z :: zs', h1.cons z, by simp [h2, hz.1]⟩
 | swap x y l =>
  intro zs hz
  match zs, hz with
  | a :: b :: zs, hz =>
   simp only [List.map_cons, List.cons.injEq] at hz
   exact ⟨b :: a :: zs, .swap _ _ _, by simp [hz]⟩
 | trans _ _ ih1 ih2 =>
  intro zs hz
  obtain ⟨z2, h1, h2⟩ := ih2 zs hz
  obtain ⟨z1, h3, h4⟩ := ih1 z2 h2
  exact ⟨z1, h3.trans h1, h4⟩
def RelR (_ : Nat → Prop) (_ : World) (x : Rt) (r : Rt) : Prop := x = r
theorem dr_int {G : Nat → Prop} {w : World} {k : IntKind} {v : Value} {n : Int} (h : DR G w v (.int k n)) : v = .int k n := by cases h; rfl
theorem RelR.cell {G : Nat → Prop} {w : World} {x : Rt} {r : Rt} (h : RelR G w x r) : ∀ (j : Nat) (u : D), (encRt r)[j]? = some u → ∃ v, (encV x)[j]? = some v ∧ DR G w v u := by
 intro j u hu
 cases h
 match j, hu with
 | 0, hu => cases hu; exact ⟨_, rfl, .int _ _⟩
 | 1, hu => cases hu; exact ⟨_, rfl, .int _ _⟩
 | 2, hu => cases hu; exact ⟨_, rfl, .int _ _⟩
 | j + 3, hu => cases hu
theorem RelR.of {G : Nat → Prop} {w : World} {r : Rt} {f : Nat → Value} (h : ∀ (j : Nat) (u : D), (encRt r)[j]? = some u → DR G w (f j) u) : ∃ x : Rt, RelR G w x r ∧ ∀ j, j < 3 → (encV x)[j]? = some (f j) := by
 have i0 : f 0 = .int .u32 r.p.addr := dr_int (h 0 _ rfl)
 have i1 : f 1 = .int .i64 r.p.len := dr_int (h 1 _ rfl)
 have i2 : f 2 = .int .i64 r.val := dr_int (h 2 _ rfl)
 refine ⟨r, rfl, fun j hj => ?_⟩
 match j, hj with
 | 0, _ => rw [i0]; rfl
 | 1, _ => rw [i1]; rfl
 | 2, _ => rw [i2]; rfl
theorem flat_at {d : Array Rt} {i j : Nat} {x : Rt} {v : Value} (hx : d[i]? = some x) (hj : (encV x)[j]? = some v) : (flatK encV 3 d)[i * 3 + j]! = v := by
 have h1 := (Array.getElem?_eq_some_iff.1 hx).1
 have h2 : j < 3 := get_lt hj
 rw [get_flatK encV 3 d (i * 3 + j) (by omega), show (i * 3 + j) / 3 = i by omega, show (i * 3 + j) % 3 = j by omega]
 have h3 : d[i]! = x := by rw [getElem!_pos d i h1]; exact (Array.getElem?_eq_some_iff.1 hx).2
 rw [h3, getElem!_pos (encV x) j (get_lt hj)]
 exact (List.getElem?_eq_some_iff.1 hj).2
theorem sortF_fn {P : Program} {f g : Nat} {fn : Func} (hfn : P.funcs[f]? = some fn) (hg : Nat.blt g 4294967296 = true) (hs : SortsF P f g) (hcm : ∀ blk off size w, CmpLays P g #[] encV 3 cfV blk off size w) (l : List Rt) (hz : l.length < 4611686018427387904) (r : Bool) (v : Nat) :
  FnS P f [.c (.arr 0 v 0 l.length), .c (.fn false g [])] [.da r v 3 (l.map encRt)] fun r' h' => r' = .tup [] ∧ ∃ l' : List Rt, l'.Perm l ∧ l'.Pairwise (fun a b => ¬ cmpP b.p a.p < 0) ∧ h' = [.da r v 3 (l'.map encRt)] := by
 refine ⟨fun G ι w vs hr hv => ?_⟩
 obtain ⟨v0, v1, hvs⟩ : ∃ v0 v1, vs = [v0, v1] := by
  have := hv.1
  match vs, this with
  | [x, y], _ => exact ⟨x, y, rfl⟩
 subst hvs
 have hv0 : VR G w ι [.da r v 3 (l.map encRt)] v0 (.c (.arr 0 v 0 l.length)) := hv.2 0 _ _ rfl rfl
 have hv1 : VR G w ι [.da r v 3 (l.map encRt)] v1 (.c (.fn false g [])) := hv.2 1 _ _ rfl rfl
 have hf1 : v1 = .func (.func g) #[] #[] := by
  cases inv_c hv1 with
  | fn _ _ _ vs' _ hv' hn _ =>
   have : vs' = #[] := Array.eq_empty_of_size_eq_zero hn
   subst this
   rw [fnV_fn hg] at hv'
   exact hv'
 subst hf1
 refine CallsF.of hfn ?_
 have none : ∀ p cap, v0 = .slice p 0 cap → l = [] → Calls P f [v0, .func (.func g) #[] #[]].toArray w fun e w' => ∃ v' r' G' ι' h', e = .returned v' ∧ (r' = .tup [] ∧ ∃ l' : List Rt, l'.Perm l ∧ l'.Pairwise (fun a b => ¬ cmpP b.p a.p < 0) ∧ h' = [.da r v 3 (l'.map encRt)]) ∧ HR G' ι' h' w' ∧ VR G' w' ι' h' v' r' ∧ Ext G ι [.da r v 3 (l.map encRt)] w G' ι' h' w' := by
  intro p cap he hz
  subst he hz
  refine (hs.2 p cap _ w).mono fun e w' ⟨h1, h2⟩ => ?_
  subst h2
  exact ⟨_, .tup [], G, ι, _, h1, ⟨rfl, [], by simp, by simp, rfl⟩, hr, .tup _ _ rfl (by simp), Ext.refl _ _ _ _⟩
 cases inv_c hv0 with
 | arr _ _ _ _ _ blk hb ha hk hk0 =>
  cases hb
  cases r with
  | false =>
   obtain ⟨_, h2, h3⟩ := hk0 3 _ rfl
   exact none _ _ h3 (List.eq_nil_of_length_eq_zero h2)
  | true =>
   obtain ⟨b, o, cap, g1, g2, g3, g4, g5⟩ := hk 3 _ rfl
   by_cases hz0 : l = []
   ·have hl : l.length = 0 := by rw [hz0]; rfl
    rcases g5 with g5 | ⟨_, _, o', g5⟩
    ·exact none _ _ (by rw [hl] at g5; exact g5) hz0
    ·exact none _ _ g5 hz0
   ·have hlen : l.length ≠ 0 := fun h => hz0 (List.eq_nil_of_length_eq_zero h)
    have g5 := g5.resolve_right fun h => hlen h.1
    rw [Nat.zero_mul, Nat.add_zero] at g5
    subst g5
    obtain ⟨b', o', c, t, fr, p0, p1, p2, p3, p4, p5, p6⟩ := hr.blk 0 _ rfl
    rw [g1] at p1; cases p1
    rw [List.length_map] at p0 p3
    have hex : ∀ i, ∃ x : Rt, ∀ q, l[i]? = some q → RelR G w x q ∧ ∀ j, j < 3 → c[o + i * 3 + j]? = (encV x)[j]? := by
     intro i
     cases hq : l[i]? with
     | none => exact ⟨default, fun q h => by cases h⟩
     | some q =>
      have hil := get_lt hq
      have hrow : (l.map encRt)[i]? = some (encRt q) := by rw [List.getElem?_map, hq]; rfl
      have hin : ∀ j, j < 3 → c[o + i * 3 + j]? = some (c[o + i * 3 + j]!) := fun j hj => by
       have : o + i * 3 + j < c.size := by omega
       rw [Array.getElem?_eq_getElem this, getElem!_pos c _ this]
      obtain ⟨x, hx1, hx2⟩ := RelR.of (G := G) (w := w) (r := q) (f := fun j => c[o + i * 3 + j]!) fun j u hu => by
       obtain ⟨y, hy, hd⟩ := p6 i _ j u hrow hu
       have hj : j < 3 := get_lt hu
       rw [hin j hj] at hy
       cases hy; exact hd
      refine ⟨x, fun q' h => by cases h; exact ⟨hx1, fun j hj => by rw [hx2 j hj]; exact hin j hj⟩⟩
    obtain ⟨F, hF⟩ := Classical.axiomOfChoice hex
    have dlen : ((List.range l.length).map F).length = l.length := by simp
    generalize hdl : (List.range l.length).map F = dl at dlen
    have hdl_at : ∀ (i : Nat) (x : Rt) (q : Rt), dl[i]? = some x → l[i]? = some q → RelR G w x q ∧ ∀ j, j < 3 → c[o + i * 3 + j]? = (encV x)[j]? := fun i x q hx hq => by
     rw [← hdl, List.getElem?_map, List.getElem?_range (get_lt hq)] at hx
     cases hx
     exact hF i q hq
    have hH : HoldsK encV 3 w b o dl.toArray := by
     intro t ht
     simp only [size_flatK, List.size_toArray] at ht
     have hi : t / 3 < l.length := by omega
     have e1 : dl[t / 3]? = some (dl[t / 3]'(by omega)) := List.getElem?_eq_getElem _
     have e2 : l[t / 3]? = some (l[t / 3]) := List.getElem?_eq_getElem _
     obtain ⟨_, h2⟩ := hdl_at _ _ _ e1 e2
     have h3 := h2 (t % 3) (by omega)
     rw [show o + t / 3 * 3 + t % 3 = o + t by omega] at h3
     have hlt : o + t < c.size := by omega
     have h4 : (encV (dl[t / 3]'(by omega)))[t % 3]? = some c[o + t] := by rw [← h3]; exact Array.getElem?_eq_getElem hlt
     have h5 := flat_at (d := dl.toArray) (i := t / 3) (by simp) h4
     rw [show t / 3 * 3 + t % 3 = t by omega] at h5
     refine ⟨by rw [cell_of p2, h5]; exact Array.getElem?_eq_getElem hlt, frozen_of p2 (p4 (o + t) hlt)⟩
    have hbw : b < w.heap.size := owned_lt hr (owned_of (k := .da true v 3 (l.map encRt)) g1 rfl rfl)
    have hcall := hs.1 b o cap dl.toArray w (hcm b o _ w) hH hbw (by simpa [dlen] using hz)
    simp only [List.size_toArray, dlen] at hcall
    refine hcall.mono fun e w' ⟨h1, d', n, os, hperm, hsort, h2⟩ => ?_
    have hds : d'.size = l.length := by rw [hperm.1]; simp [dlen]
    have hpl : d'.toList.Perm dl := by
     have := hperm.2.2
     have e1 : d'.extract 0 l.length = d' := by rw [← hds]; simp
     have e2 : dl.toArray.extract 0 l.length = dl.toArray := by rw [← dlen]; simp
     rw [e1, e2] at this
     simpa using this
    obtain ⟨zs, hz1, hz2⟩ := perm_lift (Prod.fst : Rt × Rt → Rt) hpl (dl.zip l) (List.map_fst_zip (by omega))
    have hrel : ∀ z ∈ zs, RelR G w z.1 z.2 := fun z hz => by
     have hm := hz1.mem_iff.1 hz
     obtain ⟨i, hi⟩ := List.mem_iff_getElem?.1 hm
     rw [List.getElem?_zip_eq_some] at hi
     exact (hdl_at i _ _ hi.1 hi.2).1
    have hpr : (zs.map Prod.snd).Perm l := by
     have := hz1.map Prod.snd
     rwa [List.map_snd_zip (by omega)] at this
    have zlen : zs.length = l.length := by rw [← hds]; have := congrArg List.length hz2; simpa using this
    have zat : ∀ (i : Nat) (z : Rt × Rt), zs[i]? = some z → d'[i]? = some z.1 := fun i z hi => by
     have : d'.toList[i]? = some z.1 := by rw [← hz2, List.getElem?_map, hi]; rfl
     simpa using this
    have hpw : (zs.map Prod.snd).Pairwise (fun a b => ¬ cmpP b.p a.p < 0) := by
     rw [List.pairwise_map, List.pairwise_iff_getElem]
     intro i j hi hj hij
     have a1 := zat i _ (List.getElem?_eq_getElem hi)
     have a2 := zat j _ (List.getElem?_eq_getElem hj)
     have hs1 := hsort i j (Nat.zero_le _) hij (by omega)
     have b1 := Array.getElem?_eq_some_iff.1 a1
     have b2 := Array.getElem?_eq_some_iff.1 a2
     rw [getElem!_pos d' i b1.1, getElem!_pos d' j b2.1, b1.2, b2.2] at hs1
     simp only [ltOf, cfV] at hs1
     have r1 := hrel zs[i] (List.getElem_mem hi)
     have r2 := hrel zs[j] (List.getElem_mem hj)
     rw [← show zs[i].1 = zs[i].2 from r1, ← show zs[j].1 = zs[j].2 from r2]
     exact of_decide_eq_false hs1
    obtain ⟨k1, k2, k3⟩ := row_heap id w n b o (flatK encV 3 d') os p2
    have h2' : w' = grow (putRow id (Sort.ahead w n) b o (flatK encV 3 d')) os := h2
    rw [← h2'] at k1 k2 k3
    have hq : Quiet w w' := by subst h2'; exact ⟨rfl, rfl, rfl, by simp [grow, putRow, mapBlock, Sort.ahead]⟩
    have hi0 : ι.set 0 (b, o) = ι := by
     have hil := hr.len
     cases ι with
     | nil => simp at g1
     | cons y rest => simp only [List.getElem?_cons_zero, Option.some.injEq] at g1; rw [g1]; rfl
    have hpc : (putCells id o (flatK encV 3 d') c).size = c.size := by simp [putCells]
    have hlm : (zs.map Prod.snd).length = l.length := by rw [List.length_map, zlen]
    generalize hlp : zs.map Prod.snd = l' at *
    have hkept : Kept ι (ι.set 0 (b, o)) w w' 0 (.da true v 3 (l.map encRt)) (.da true v 3 (l'.map encRt)) := by
     refine .inr ⟨rfl, rfl, rfl, by simp [hlm], by rw [hi0], fun _ b2 o2 hb2 => ?_⟩
     rw [g1] at hb2; cases hb2
     simp [bsize, k1, p2, hpc]
    have hsame : ∀ b2, G b2 → G b2 ∧ w'.heap[b2]? = w.heap[b2]? := fun b2 hb2 => by
     obtain ⟨q1, q2⟩ := hr.g b2 hb2
     refine ⟨hb2, k2 b2 q1 fun e => q2 ?_⟩
     subst e
     exact owned_of (k := .da true v 3 (l.map encRt)) g1 rfl rfl
    obtain ⟨q1, q2⟩ := HR.move (k := .da true v 3 (l'.map encRt)) (b1 := b) (o1 := o) hr (l := 0) rfl g1 rfl rfl hkept k3 k2 (.inl rfl)
     ⟨b, o, _, t, fr, by rw [List.length_map, hlm]; exact p0, by rw [hi0]; exact g1, k1, by rw [hpc, List.length_map, hlm]; exact p3, by rw [hpc]; exact p4, fun i e he => by
      simp only [List.getElem?_map, Option.map_eq_some_iff] at he
      obtain ⟨_, _, rfl⟩ := he; rfl, fun i e j u he hu => by
      simp only [List.getElem?_map, Option.map_eq_some_iff] at he
      obtain ⟨q, hqi, rfl⟩ := he
      have hj : j < 3 := get_lt hu
      have hil : i < l.length := by have := get_lt hqi; omega
      rw [← hlp, List.getElem?_map, Option.map_eq_some_iff] at hqi
      obtain ⟨z, hzi, rfl⟩ := hqi
      obtain ⟨y, hy, hd⟩ := (hrel z (List.mem_of_getElem? hzi)).cell j u hu
      refine ⟨y, ?_, hd.mono hsame⟩
      have hfl := flat_at (zat i z hzi) hy
      have hlt : o + i * 3 + j < c.size := by omega
      simp only [putCells, Array.getElem?_mapIdx]
      rw [Array.getElem?_eq_getElem hlt, Option.map_some, if_pos (by rw [size_flatK, hds]; omega), show o + i * 3 + j - o = i * 3 + j by omega, hfl]
      rfl⟩ hq
    rw [hi0] at q1 q2
    exact ⟨_, .tup [], G, ι, _, h1, ⟨rfl, l', hpr, hpw, rfl⟩, q1, .tup _ _ rfl (by simp), q2⟩
def ltP0 (p q : Pfx) : Prop := p.addr < q.addr ∨ p.addr = q.addr ∧ p.len < q.len
theorem cmpP_lt {p q : Pfx} : cmpP p q < 0 ↔ ltP0 p q := by
 unfold cmpP ltP0
 split
 ·rename_i h; exact ⟨fun _ => h, fun _ => by omega⟩
 ·rename_i h
  refine ⟨fun h2 => ?_, fun h2 => absurd h2 h⟩
  split at h2 <;> omega
theorem swo_cf : SWO (ltOf cfV) where
 irrefl x := by simp only [ltOf, cfV, decide_eq_false_iff_not, cmpP_lt, ltP0]; omega
 trans x y z h1 h2 := by simp only [ltOf, cfV, decide_eq_true_eq, cmpP_lt, ltP0] at *; omega
 ntrans x y z h1 h2 := by simp only [ltOf, cfV, decide_eq_false_iff_not, cmpP_lt, ltP0] at *; omega
theorem agg33 (w : World) : (isAgg 33).run Try.prog w = .ok true w := by kernel_rfl
theorem size33 (w : World) : (Go.sizeOf 33).run Try.prog w = .ok 3 w := by kernel_rfl
theorem sorts_f : SortsF Try.prog n_slices_SortFunc_api_Route_api_Route n_compress_Compress_1 :=
  ⟨fun blk off cap d w hc hH hb hs => AnyQ.slices_SortFunc Try.sortF 3 agg33 size33 encV (fun _ => rfl) (fun x v hv => by
      simp only [encV, List.mem_cons, List.not_mem_nil, or_false] at hv
      rcases hv with rfl | rfl | rfl
      · rfl
      · rfl
      · rfl) cfV swo_cf 28 #[] blk off cap d w (enters_of Try.func28 (by kernel_rfl) rfl) hc hH hb hs,
   fun p cap fv w => AnyF.slices_SortFunc_none Try.sortF p cap fv w⟩
end Go.Ab

/-
  Sets of numbers: increasing lists, and maps.
-/
namespace Go.Ab
open Go.Proofs
/-! sets of numbers, as maps -/
theorem vlk_iset {a : Int} {m : Isc} {ml : List (DV × DV)} {z : AV} {K : AV → Prop} (mlh : m.map encZ = ml) (hall : ∀ e ∈ m, e.2 = .s (.bool true)) (h0 : a ∉ m.map (·.1) → K z) (h1 : a ∈ m.map (·.1) → K (bA true)) :
  ∀ r, mfind true 1 [(0, 0)] (.s (.int .i64 a)) ml 0 = r → vLk false z K r := by
 refine vlk_ints mlh (fun h => h0 (ifind_none.1 h)) fun i v h => ?_
 have hm := List.mem_of_getElem? (ifind_some h).2
 have := hall _ hm
 simp only at this
 subst this
 exact h1 (List.mem_map.2 ⟨_, hm, rfl⟩)
def setI (l : List Int) : List (DV × DV) := l.map fun i => (.s (iD i), .s (.bool true))
theorem setI_enc (l : List Int) : (l.map fun i => (i, DV.s (.bool true))).map encZ = setI l := by rw [List.map_map]; rfl
theorem vlk_setI {a : Int} {l : List Int} {ml : List (DV × DV)} {z : AV} {K : AV → Prop} (mlh : setI l = ml) (h0 : a ∉ l → K z) (h1 : a ∈ l → K (bA true)) :
  ∀ r, mfind true 1 [(0, 0)] (.s (.int .i64 a)) ml 0 = r → vLk false z K r := by
 have hk : ((l.map fun i => (i, DV.s (.bool true))) : Isc).map (·.1) = l := by simp [Function.comp_def]
 refine vlk_iset ((setI_enc l).trans mlh) (fun e he => ?_) (fun h => h0 (by rw [hk] at h; exact h)) fun h => h1 (by rw [hk] at h; exact h)
 obtain ⟨i, _, rfl⟩ := List.mem_map.1 he
 rfl
theorem vup_setI {a : Int} {l : List Int} {ml : List (DV × DV)} {K : List (DV × DV) → Prop} (mlh : setI l = ml) (h0 : a ∉ l → ∀ es', setI (l ++ [a]) = es' → K es') (h1 : a ∈ l → K ml) :
  ∀ r, mfind true 1 [(0, 0)] (.s (.int .i64 a)) ml 0 = r → vUp ml (.s (.int .i64 a)) (.s (.bool true)) K r := by
 have hk : ((l.map fun i => (i, DV.s (.bool true))) : Isc).map (·.1) = l := by simp [Function.comp_def]
 refine vup_ints ((setI_enc l).trans mlh) (fun h es' he => ?_) fun i v h es' he => ?_
 ·rw [ifind_none, hk] at h
  subst he
  refine h0 h _ ?_
  rw [List.map_append, setI_enc, setI, List.map_append]
  rfl
 ·have hg := (ifind_some h).2
  rw [Nat.sub_zero] at hg
  have hm := List.mem_of_getElem? hg
  obtain ⟨j, hj, e⟩ := List.mem_map.1 hm
  simp only [Prod.mk.injEq] at e
  obtain ⟨rfl, rfl⟩ := e
  rw [set_same hg, setI_enc, mlh] at he
  subst he
  exact h1 hj
def insS : List Int → Int → List Int
 | [], n => [n]
 | x :: r, n => if x < n then x :: insS r n else if x = n then x :: r else n :: x :: r
/-! increasing lists -/
theorem mem_ins {n z : Int} : ∀ {l : List Int}, z ∈ insS l n ↔ z = n ∨ z ∈ l := by
 intro l
 induction l with
 | nil => simp [insS]
 | cons x r ih =>
  rw [insS]
  split
  ·rw [List.mem_cons, ih, List.mem_cons]; exact or_left_comm
  ·split
   ·rename_i h; subst h; simp
   ·rw [List.mem_cons]
theorem sinc_ins {n : Int} : ∀ {l : List Int}, l.Pairwise (· < ·) → (insS l n).Pairwise (· < ·) := by
 intro l
 induction l with
 | nil => intro _; simp [insS]
 | cons x r ih =>
  intro h
  obtain ⟨h1, h2⟩ := List.pairwise_cons.1 h
  rw [insS]
  split
  ·rename_i hx
   refine List.pairwise_cons.2 ⟨fun z hz => ?_, ih h2⟩
   rcases mem_ins.1 hz with rfl | hz
   ·exact hx
   ·exact h1 z hz
  ·split
   ·exact h
   ·refine List.pairwise_cons.2 ⟨fun z hz => ?_, h⟩
    rcases List.mem_cons.1 hz with rfl | hz
    ·omega
    ·have := h1 z hz; omega
theorem fold_ins : ∀ (l : List Int) (s : List Int), s.Pairwise (· < ·) → (l.foldl insS s).Pairwise (· < ·) ∧ ∀ z, z ∈ l.foldl insS s ↔ z ∈ s ∨ z ∈ l := by
 intro l
 induction l with
 | nil => intro s h; exact ⟨h, by simp⟩
 | cons x r ih =>
  intro s h
  obtain ⟨h1, h2⟩ := ih (insS s x) (sinc_ins h)
  refine ⟨h1, fun z => ?_⟩
  rw [List.foldl_cons, h2, mem_ins, List.mem_cons]
  constructor
  ·rintro ((h | h) | h)
   ·exact .inr (.inl h)
   ·exact .inl h
   ·exact .inr (.inr h)
  ·rintro (h | h | h)
   ·exact .inl (.inr h)
   ·exact .inl (.inl h)
   ·exact .inr h
theorem lt_nodup {l : List Int} (h : l.Pairwise (· < ·)) : l.Nodup := h.imp fun h e => by omega
end Go.Ab

/-
  Compressing, part h: which tables are valid.
-/
namespace Go.Ab
open Go.Proofs
def validR (l : List Rt) : Bool := l.all (fun r => validP r.p && decide (0 ≤ r.val)) && decide ((l.map (·.p)).Nodup)
theorem validR_spec {l : List Rt} : validR l = true ↔ (∀ r ∈ l, validP r.p = true ∧ 0 ≤ r.val) ∧ (l.map (·.p)).Nodup := by
 simp only [validR, Bool.and_eq_true, decide_eq_true_eq, List.all_eq_true]
def setP (l : List Pfx) : List (DV × DV) := l.map fun p => (.g [u32D p.addr, iD p.len], .s (.bool true))
theorem eqc_pfx (p q : Pfx) : eqc [.d (.int .u32 p.addr), .d (.int .i64 p.len)] [.d (.int .u32 q.addr), .d (.int .i64 q.len)] [(0, 0), (1, 0)] = some (decide (p = q)) := by
 have e : eqc [.d (.int .u32 p.addr), .d (.int .i64 p.len)] [.d (.int .u32 q.addr), .d (.int .i64 q.len)] [(0, 0), (1, 0)] = some ((p.addr == q.addr) && ((p.len == q.len) && true)) := rfl
 rw [e]
 by_cases h : p = q
 ·subst h; simp
 ·rw [decide_eq_false h]
  by_cases h1 : p.addr = q.addr
  ·by_cases h2 : p.len = q.len
   ·exact absurd (Pfx.ext' h1 h2) h
   ·simp [h1, h2]
  ·simp [h1]
def gfind (p : Pfx) : List Pfx → Nat → Option (Nat × DV)
 | [], _ => none
 | q :: r, i => if p = q then some (i, .s (.bool true)) else gfind p r (i + 1)
theorem mfind_setP (p : Pfx) : ∀ (l : List Pfx) (i : Nat), mfind false 2 [(0, 0), (1, 0)] (.g [.int .u32 p.addr, .int .i64 p.len]) (setP l) i = some (gfind p l i) := by
 intro l
 induction l with
 | nil => intro i; rfl
 | cons q r ih =>
  intro i
  have e1 : mfind false 2 [(0, 0), (1, 0)] (.g [.int .u32 p.addr, .int .i64 p.len]) (setP (q :: r)) i =
    (match eqc [.d (.int .u32 p.addr), .d (.int .i64 p.len)] [.d (.int .u32 q.addr), .d (.int .i64 q.len)] [(0, 0), (1, 0)] with
    | some true => some (some (i, .s (.bool true)))
    | some false => mfind false 2 [(0, 0), (1, 0)] (.g [.int .u32 p.addr, .int .i64 p.len]) (setP r) (i + 1)
    | none => none) := rfl
  rw [e1, eqc_pfx]
  simp only [gfind]
  by_cases h : p = q
  ·rw [decide_eq_true h, if_pos h]
  ·rw [decide_eq_false h, if_neg h]; exact ih (i + 1)
theorem gfind_none {p : Pfx} : ∀ {l : List Pfx} {i : Nat}, gfind p l i = none ↔ p ∉ l := by
 intro l
 induction l with
 | nil => intro i; simp [gfind]
 | cons q r ih =>
  intro i
  simp only [gfind, List.mem_cons, not_or]
  split
  ·rename_i h; simp [h]
  ·rename_i h; rw [ih]; simp [h]
theorem gfind_some {p : Pfx} : ∀ {l : List Pfx} {i j : Nat} {v : DV}, gfind p l i = some (j, v) → p ∈ l ∧ v = .s (.bool true) := by
 intro l
 induction l with
 | nil => intro i j v h; simp [gfind] at h
 | cons q r ih =>
  intro i j v h
  simp only [gfind] at h
  split at h
  ·rename_i hk; cases h; exact ⟨by rw [hk]; simp, rfl⟩
  ·obtain ⟨h1, h2⟩ := ih h
   exact ⟨List.mem_cons_of_mem _ h1, h2⟩
theorem vlk_setP {a n : Int} {l : List Pfx} {ml : List (DV × DV)} {z : AV} {K : AV → Prop} (mlh : setP l = ml) (h0 : (⟨a, n⟩ : Pfx) ∉ l → K z) (h1 : (⟨a, n⟩ : Pfx) ∈ l → K (bA true)) :
  ∀ r, mfind false 2 [(0, 0), (1, 0)] (.g [.int .u32 a, .int .i64 n]) ml 0 = r → vLk false z K r := by
 intro r hr
 rw [← mlh, mfind_setP ⟨a, n⟩] at hr
 subst hr
 cases hp : gfind ⟨a, n⟩ l 0 with
 | none => exact h0 (gfind_none.1 hp)
 | some x =>
  obtain ⟨j, v⟩ := x
  obtain ⟨h, rfl⟩ := gfind_some hp
  exact h1 h
theorem vup_setP {a n : Int} {l : List Pfx} {ml : List (DV × DV)} {K : List (DV × DV) → Prop} (mlh : setP l = ml) (h0 : (⟨a, n⟩ : Pfx) ∉ l) (h1 : ∀ es', setP (l ++ [⟨a, n⟩]) = es' → K es') :
  ∀ r, mfind false 2 [(0, 0), (1, 0)] (.g [.int .u32 a, .int .i64 n]) ml 0 = r → vUp ml (.g [.int .u32 a, .int .i64 n]) (.s (.bool true)) K r := by
 intro r hr
 rw [← mlh, mfind_setP ⟨a, n⟩, gfind_none.2 h0] at hr
 subst hr
 intro es' he
 exact h1 es' (by rw [he, ← mlh, setP, List.map_append]; rfl)
theorem nodup_takeR {l : List Rt} {k : Nat} {x : Rt} (hx : l[k]? = some x) : (((l.take (k + 1)).map (·.p)).Nodup ↔ ((l.take k).map (·.p)).Nodup ∧ x.p ∉ (l.take k).map (·.p)) := by
 rw [take_succ_get hx, List.map_append, List.nodup_append]
 simp only [List.map_cons, List.map_nil, List.nodup_cons, List.not_mem_nil, not_false_eq_true, List.nodup_nil, and_self, true_and, List.mem_singleton]
 constructor
 ·rintro ⟨h1, h2⟩
  exact ⟨h1, fun h => h2 _ h _ rfl rfl⟩
 ·rintro ⟨h1, h2⟩
  exact ⟨h1, fun a ha b hb e => h2 (by rw [← hb, ← e]; exact ha)⟩
theorem dupR_no {l : List Rt} {k : Nat} {x : Rt} (hx : l[k]? = some x) (hm : x.p ∈ (l.take k).map (·.p)) : ¬ (l.map (·.p)).Nodup := by
 intro h
 have h2 : ((l.take (k + 1)).map (·.p)).Nodup := by
  have : (l.take (k + 1)).map (·.p) = (l.map (·.p)).take (k + 1) := by rw [List.map_take]
  rw [this]; exact h.sublist (List.take_sublist _ _)
 exact ((nodup_takeR hx).1 h2).2 hm
set_option maxHeartbeats 4000000 in
theorem cvalid_ok (P : Program) (hP : P = Try.prog) (l : List Rt) (hu : ∀ r ∈ l, inU r.p.addr) : Ret P n_compress_valid [rtsA l] (bA (validR l)) := by
 have hva := fun p h => pvalid_ok P hP p h
 refine ret_start (hP ▸ mixed) (hP ▸ fn_compress_valid) (hP ▸ c_compress_valid) (Nat.le_of_ble_eq_true rfl) fun Λ Λo K hK => ?_
 clear hP
 have yes : (∀ r ∈ l, validP r.p = true ∧ 0 ≤ r.val) → (l.map (·.p)).Nodup → K (bA true) := fun h1 h2 => by rw [validR_spec.2 ⟨h1, h2⟩] at hK; exact hK
 have no : ¬ ((∀ r ∈ l, validP r.p = true ∧ 0 ≤ r.val) ∧ (l.map (·.p)).Nodup) → K (bA false) := fun h => by
  rw [show validR l = false from Bool.eq_false_iff.2 fun h' => h (validR_spec.1 h')] at hK; exact hK
 clear hK
 have no1 : ∀ p ∈ l, ¬ (validP p.p = true ∧ 0 ≤ p.val) → K (bA false) := fun p hp h => no fun h' => h (h'.1 p hp)
 have no2 : ¬ (l.map (·.p)).Nodup → K (bA false) := fun h => no fun h' => h h'.2
 clear no
 simp only [rtsA, rtsD] at *
 generalize rlh : l.map encRt = rl at *
 have rln : Λ rl = l.length := by rw [Λo, ← rlh]; simp
 generalize validP = pv at *
 conv => cbv
 repeat' first | exact gu | exact trivial | refine And.intro ?_ ?_ | (intro hc; exact absurd hc (by decide)) | (intro hc; exfalso; omega) | (intro hc; (first | rw [wrap_small (by omega) (by omega)] at hc | rw [nI_eq] at hc | skip); try (conv => cbv)) | refine CallG.old ?_
 refine loop_up l.length (fun (s : Int × Nat × List (DV × DV)) => [(3, .c (.mp 0)), (7, .c (.d (.list false 3 rl))), (8, iA (Λ rl)), (9, iA s.1)]) (fun s => [.mp s.2.1 s.2.2])
  (fun k s => s.1 = k ∧ k ≤ l.length ∧ setP ((l.take k).map (·.p)) = s.2.2 ∧ (∀ r ∈ l.take k, pv r.p = true ∧ 0 ≤ r.val) ∧ ((l.take k).map (·.p)).Nodup) (0, 0, []) (Wk.cw) ⟨rfl, by omega, rfl, by simp, by simp⟩ (fun k s h => h.2.1) ?_
 rintro k ⟨i, ve, ml⟩ Q' ⟨hi, hk, mlh, hok, hnd⟩ norm ex rt
 simp only at hi mlh
 by_cases hlt : k < l.length
 ·obtain ⟨x, hx⟩ : ∃ x, l[k]? = some x := ⟨_, List.getElem?_eq_getElem hlt⟩
  have hxa := elt_at rlh hi hx
  have hxm := List.mem_of_getElem? hx
  have hdup : x.p ∈ (l.take k).map (·.p) → K (bA false) := fun h => no2 (dupR_no hx h)
  have hbad := no1 x hxm
  have hnds := (nodup_takeR hx).2
  have htk := take_succ_get hx
  have hvx := hva x.p (hu x hxm)
  obtain ⟨⟨addr, len⟩, val⟩ := x
  simp only [encRt] at hxa
  simp only [pfA] at hvx
  simp only at hdup hnds hbad
  conv => cbv
  repeat' first | (refine ex _ _ _ ?_; (conv => cbv)) | (refine rt _ _ ?_; (conv => cbv)) | (intro e he; cases Option.some.inj (he.symm.trans hxa); (conv => cbv)) | (refine vlk_setP mlh ?_ ?_) | (refine vup_setP mlh (by assumption) ?_) | refine call_b hvx rfl rfl ?_ ?_ | exact gu | exact trivial | refine And.intro ?_ ?_ | (intro hc; exact absurd hc (by decide)) | (intro hc; exfalso; omega) | (intro hc; (first | rw [wrap_small (by omega) (by omega)] at hc | rw [nI_eq] at hc | skip); try (conv => cbv)) | refine CallG.old ?_
  all_goals try first
   | exact hdup (by assumption)
   | (refine hbad ?_; intro hb; omega)
   | (refine hbad ?_; intro hb; exact absurd hb.1 (by rw [‹pv _ = false›]; decide))
  ·rename_i es' hes i'
   refine norm _ _ (_, _, es') ?_ (Wk.cw)
   have hvt : pv ⟨addr, len⟩ = true := by assumption
   have hkn : (⟨addr, len⟩ : Pfx) ∉ (l.take k).map (·.p) := by assumption
   refine ⟨by simp only; omega, by omega, ?_, fun p hp => ?_, hnds ⟨hnd, hkn⟩⟩
   ·simp only [← hes, htk, List.map_append]; rfl
   ·rcases (show p ∈ l.take k ∨ p = ⟨⟨addr, len⟩, val⟩ by rw [htk] at hp; simpa using hp) with h | h
    ·exact hok p h
    ·rw [h]; exact ⟨hvt, by simp only; omega⟩
 ·conv => cbv
  repeat' first | (refine ex _ _ _ ?_; (conv => cbv)) | (refine rt _ _ ?_; (conv => cbv)) | exact gu | exact trivial | refine And.intro ?_ ?_ | (intro hc; exact absurd hc (by decide)) | (intro hc; exfalso; omega) | (intro hc; (first | rw [wrap_small (by omega) (by omega)] at hc | rw [nI_eq] at hc | skip); try (conv => cbv)) | refine CallG.old ?_
  have ht : l.take k = l := List.take_of_length_le (by omega)
  rw [ht] at hok hnd
  exact yes hok hnd
end Go.Ab

/-
  The engine: a function's new blocks, given up behind it.
-/
namespace Go.Ab
theorem FnS.cut {P : Program} {f : Nat} {args : List AV} {h : Hp} {R : AV → Hp → Prop} (hf : FnS P f args h R) (hc : ∀ r h', R r h' → refsA h.length r = true ∧ refsH h.length (h'.take h.length) = true) :
  FnS P f args h fun r h1 => ∃ h2, R r (h1 ++ h2) ∧ h1.length = h.length := by
 refine ⟨fun G ι w vs hr hv => ?_⟩
 refine (hf.out G ι w vs hr hv).mono fun e w2 ⟨v, r, G2, ι2, hc2, he, hR, hr2, hvr, hx⟩ => ?_
 have hl2 : h.length ≤ hc2.length := by
  rcases Nat.lt_or_ge hc2.length h.length with hb | hb
  ·obtain ⟨k', h1, _⟩ := hx.keep hc2.length _ (List.getElem?_eq_getElem hb)
   have := get_lt h1; omega
  ·exact hb
 obtain ⟨c1, c2⟩ := hc r hc2 hR
 have hlt : (hc2.take h.length).length = h.length := by rw [List.length_take]; omega
 let a : Act := ⟨#[v], []⟩
 have hfit : Fits 1 G ι h w (lkL [(0, r)]) hc2 a w2 := ⟨G2, ι2, ⟨hr2, rfl, fun i => by
  cases i with
  | zero => exact hvr
  | succ i => exact .c _ _ (.u _)⟩, hx, Marks.nil _ _ _ _ _⟩
 obtain ⟨G3, ι3, st⟩ := Wk.cut_fits (m := h.length) (L' := [(0, r)]) (h' := hc2.take h.length) ⟨hc2.drop h.length, (List.take_append_drop _ _).symm⟩ (by omega) (by rw [hlt]; exact c2)
  (by rw [hlt]; exact ⟨⟨rfl, c1⟩, trivial⟩) (Nat.le_refl _) hfit
 have hv0 := st.rel.env 0
 exact ⟨v, r, G3, ι3, hc2.take h.length, he, ⟨hc2.drop h.length, by rw [List.take_append_drop]; exact hR, hlt⟩, st.rel.hr, hv0, st.ext⟩
theorem FnS.cut2 {P : Program} {f : Nat} {args : List AV} {h : Hp} {R : AV → Hp → Prop} (hf : FnS P f args h R) (hc : ∀ r h', R r h' → ∃ x y, r = .tup [x, y] ∧ refsA h.length x = true ∧ refsA h.length y = true ∧ refsH h.length (h'.take h.length) = true) :
  FnS P f args h fun r h1 => ∃ h2, R r (h1 ++ h2) ∧ h1.length = h.length := by
 refine ⟨fun G ι w vs hr hv => ?_⟩
 refine (hf.out G ι w vs hr hv).mono fun e w2 ⟨v, r, G2, ι2, hc2, he, hR, hr2, hvr, hx⟩ => ?_
 have hl2 : h.length ≤ hc2.length := by
  rcases Nat.lt_or_ge hc2.length h.length with hb | hb
  ·obtain ⟨k', h1, _⟩ := hx.keep hc2.length _ (List.getElem?_eq_getElem hb)
   have := get_lt h1; omega
  ·exact hb
 obtain ⟨x, y, rfl, c1, c2, c3⟩ := hc r hc2 hR
 have hlt : (hc2.take h.length).length = h.length := by rw [List.length_take]; omega
 cases hvr with
 | tup cs _ hn hcs =>
  have hn2 : cs.size = 2 := hn
  let a : Act := ⟨#[cs[0], cs[1]], []⟩
  have hfit : Fits 2 G ι h w (lkL [(0, x), (1, y)]) hc2 a w2 := ⟨G2, ι2, ⟨hr2, rfl, fun i => by
   match i with
   | 0 => exact hcs 0 _ _ (Array.getElem?_eq_getElem (by omega)) rfl
   | 1 => exact hcs 1 _ _ (Array.getElem?_eq_getElem (by omega)) rfl
   | i + 2 => exact .c _ _ (.u _)⟩, hx, Marks.nil _ _ _ _ _⟩
  obtain ⟨G3, ι3, st⟩ := Wk.cut_fits (m := h.length) (L' := [(0, x), (1, y)]) (h' := hc2.take h.length) ⟨hc2.drop h.length, (List.take_append_drop _ _).symm⟩ (by omega) (by rw [hlt]; exact c3)
   (by rw [hlt]; exact ⟨⟨rfl, c1⟩, ⟨rfl, c2⟩, trivial⟩) (Nat.le_refl _) hfit
  have hv0 := st.rel.env 0
  have hv1 := st.rel.env 1
  refine ⟨.tuple cs, _, G3, ι3, hc2.take h.length, he, ⟨hc2.drop h.length, by rw [List.take_append_drop]; exact hR, hlt⟩, st.rel.hr, .tup cs _ hn fun i v z hv hz => ?_, st.ext⟩
  match i, hz with
  | 0, hz => cases hz; rw [Array.getElem?_eq_getElem (by omega)] at hv; cases hv; exact hv0
  | 1, hz => cases hz; rw [Array.getElem?_eq_getElem (by omega)] at hv; cases hv; exact hv1
  | i + 2, hz => cases hz
theorem Kept.unrn {ι ι2 ιc : Io} {w w2 : World} {l : Nat} {k kc : Blk} {ρ : Nat → Nat} (hk : Kept ι ι2 w w2 l k (rnB ρ kc)) (hi : ιc[l]? = ι2[l]?) (hm : ∀ m v es, kc ≠ .mi m v es) : Kept ι ιc w w2 l k kc := by
 cases kc with
 | dead => cases k <;> trivial
 | am m' =>
  cases k with
  | am m => trivial
  | _ => simp [rnB, Kept] at hk
 | bx cs' =>
  cases k with
  | bx cs => exact ⟨by have := hk.1; rw [rnCs_len] at this; exact this, by rw [hi]; exact hk.2⟩
  | _ => simp [rnB, Kept] at hk
 | da r' v' sz' es' =>
  cases k with
  | da r v sz es =>
   rcases hk with hk | ⟨a1, a2, a3, a4, a5, a6⟩
   ·exact .inl hk
   ·exact .inr ⟨a1, a2, a3, a4, by rw [hi]; exact a5, a6⟩
  | _ => simp [rnB, Kept] at hk
 | mp v' es' =>
  cases k with
  | mp v es => exact ⟨by rw [hi]; exact hk.1, hk.2⟩
  | _ => simp [rnB, Kept] at hk
 | mi m v es => exact absurd rfl (hm m v es)
end Go.Ab

/-
  The engine: a function's new blocks, given up behind it, where it returns several values.
-/
namespace Go.Ab
def refsT (n : Nat) : AV → Bool
 | .tup l => l.all (refsA n)
 | x => refsA n x
theorem rnAs_at (ρ : Nat → Nat) : ∀ (l : List AV) (i : Nat), (rnAs ρ l)[i]? = (l[i]?).map (rnA ρ)
 | [], _ => by simp [rnAs, rnA.rnAs]
 | x :: l, 0 => by simp [rnAs, rnA.rnAs]
 |x :: l, i + 1 => by
  have := rnAs_at ρ l i
  simpa [rnAs, rnA.rnAs] using this
theorem rnAs_ln (ρ : Nat → Nat) : ∀ (l : List AV), (rnAs ρ l).length = l.length
 | [] => rfl
 |x :: l => by
  have := rnAs_ln ρ l
  simpa [rnAs, rnA.rnAs] using this
theorem VR.unrnT {G : Nat → Prop} {w : World} {ι ιc : Io} {h hc : Hp} {ρ : Nat → Nat} (am : Among ρ ιc hc ι h) {v : Value} {x : AV} (hx : VR G w ι h v (rnA ρ x)) (hr : refsT hc.length x = true) : VR G w ιc hc v x := by
 cases x with
 | c x => exact hx.unrn am hr
 | agg l => exact hx.unrn am hr
 | tup l =>
  cases hx with
  | tup cs _ hn h1 =>
   have h1 : ∀ (i : Nat) (v : Value) (x : AV), cs[i]? = some v → (rnAs ρ l)[i]? = some x → VR G w ι h v x := h1
   refine .tup cs l (by rw [hn]; exact rnAs_ln ρ l) fun i v x hv hx => ?_
   exact (h1 i v (rnA ρ x) hv (by rw [rnAs_at, hx]; rfl)).unrn am (List.all_eq_true.1 hr x (List.mem_of_getElem? hx))
theorem FnS.gct {P : Program} {f : Nat} {args : List AV} {h : Hp} {R : AV → Hp → Prop} (hf : FnS P f args h R) (Q : AV → Hp → Prop)
    (hg : ∀ r h', R r h' → ∃ (σ : List Nat) (r' : AV) (hc : Hp), Q r' hc ∧ σ.length = hc.length ∧ σ.Nodup ∧ (∀ l ∈ σ, l < h'.length) ∧ (∀ (i : Nat) (k : Blk), hc[i]? = some k → h'[rho σ h'.length i]? = some (rnB (rho σ h'.length) k)) ∧
      r = rnA (rho σ h'.length) r' ∧ refsH hc.length hc = true ∧ refsT hc.length r' = true ∧ h.length ≤ hc.length ∧ (∀ i, i < h.length → rho σ h'.length i = i) ∧ ∀ k ∈ hc, ∀ m v es, k ≠ .mi m v es) : FnS P f args h Q := by
  refine ⟨fun G ι w vs hr hv => ?_⟩
  refine (hf.out G ι w vs hr hv).mono fun e w2 ⟨v, r, G2, ι2, h', he, hR, hr2, hvr, hx⟩ => ?_
  obtain ⟨σ, r', hc, hQ, hlen, hnd, hlt, hh, hrr, hcl, hca, hle, hid, hmi⟩ := hg r h' hR
  generalize hρ : rho σ h'.length = ρ at *
  have rold : ∀ i, i < σ.length → σ[i]? = some (ρ i) := fun i hi => by rw [← hρ]; exact rho_old σ _ i hi
  have rnew : ∀ i, σ.length ≤ i → ρ i = h'.length + (i - σ.length) := fun i hi => by rw [← hρ]; exact rho_new σ _ i hi
  have rmem : ∀ i, i < σ.length → ρ i ∈ σ := fun i hi => List.mem_of_getElem? (rold i hi)
  have rinj : ∀ i j, ρ i = ρ j → i = j := by
    intro i j e
    rcases Nat.lt_or_ge i σ.length with hi | hi <;> rcases Nat.lt_or_ge j σ.length with hj | hj
    · have h1 := rold i hi
      have h2 := rold j hj
      rw [e, ← h2] at h1
      exact (List.getElem?_inj hi hnd).1 h1
    · have := hlt _ (rmem i hi); have := rnew j hj; omega
    · have := hlt _ (rmem j hj); have := rnew i hi; omega
    · have := rnew i hi; have := rnew j hj; omega
  let ιc : Io := σ.map fun l => (ι2[l]?).getD (0, 0)
  have hιc : ∀ i, i < σ.length → ιc[i]? = ι2[ρ i]? := by
    intro i hi
    simp only [ιc, List.getElem?_map, rold i hi, Option.map_some]
    rw [List.getElem?_eq_getElem (by rw [hr2.len]; exact hlt _ (rmem i hi))]; rfl
  have am : Among ρ ιc hc ι2 h' := ⟨hh, fun i k hk => (hιc i (by rw [hlen]; exact get_lt hk)).symm⟩
  have hrc : HR G2 ιc hc w2 := HR.down am hr2 (by simp [ιc, hlen]) (fun i j _ _ e => rinj i j e) hcl
  have hvc : VR G2 w2 ιc hc v r' := VR.unrnT am (hrr ▸ hvr) hca
  refine ⟨v, r', G2, ιc, hc, he, hQ, hrc, hvc, ?_⟩
  exact
    { size := hx.size
      quiet := hx.quiet
      frame := hx.frame
      gmono := hx.gmono
      gnew := hx.gnew
      onew := fun b ho => hx.onew b (owned_up am ho)
      keep := fun l k hk => by
        obtain ⟨k', h1, h2⟩ := hx.keep l k hk
        have hl := get_lt hk
        have hkc : hc[l]? = some (hc[l]'(by omega)) := List.getElem?_eq_getElem _
        have h3 := hh l _ hkc
        rw [hid l hl, h1] at h3
        cases h3
        exact ⟨_, hkc, h2.unrn (by rw [hιc l (by omega), hid l hl]) (hmi _ (List.getElem_mem _))⟩ }
end Go.Ab

/-
  The engine: results that are new memory.
-/
namespace Go.Ab
def scalD : D → Bool
 | .bool _ => true
 | .int _ _ => true
 | .str _ => true
 | _ => false
theorem scalD_move {G G' : Nat → Prop} {w w' : World} {v : Value} {d : D} (hs : scalD d = true) (hd : DR G w v d) : DR G' w' v d := by
 cases hd <;> first | (simp [scalD] at hs; done) | exact .bool _ | exact .int _ _ | exact .str _
end Go.Ab

/-
  The engine: maps that are lent to a call that only looks at them.
-/
namespace Go.Ab
abbrev prD (e : D × D) : DV × DV := (.s e.1, .s e.2)
def scalE (es : List (D × D)) : Prop := ∀ e ∈ es, scalD e.1 = true ∧ scalD e.2 = true
theorem inv_mpf {G : Nat → Prop} {w : World} {v : Value} {es0 : List (D × D)} (h : DR G w v (.mpf es0)) :
  ∃ (b clock : Nat) (ces : Array MapEntry) (es : List (D × D)), v = .map (some b) ∧ es.Perm es0 ∧ G b ∧ w.heap[b]? = some (.map ces clock) ∧ Stamps ces.toList clock ∧ ER G w ces.toList (es.map prD) := by
 cases h with
 | mpf b clock ces _ es hp hG hb hlen hst h1 h2 =>
  refine ⟨b, clock, ces, es, rfl, hp, hG, hb, hst, by simpa using hlen, fun i c e hc he => ?_⟩
  rw [List.getElem?_map, Option.map_eq_some_iff] at he
  obtain ⟨e0, he0, rfl⟩ := he
  exact ⟨.s _ _ (h1 i c e0 hc he0), .s _ _ (h2 i c e0 hc he0)⟩
theorem ER.scal {G G' : Nat → Prop} {w w' : World} {ces : List MapEntry} {es : List (D × D)} (hs : scalE es) (h : ER G w ces (es.map prD)) : ER G' w' ces (es.map prD) := by
 refine ⟨h.1, fun i c e hc he => ?_⟩
 have h1 := h.2 i c e hc he
 rw [List.getElem?_map, Option.map_eq_some_iff] at he
 obtain ⟨e0, he0, rfl⟩ := he
 have hm := hs e0 (List.mem_of_getElem? he0)
 exact ⟨.s _ _ (scalD_move hm.1 (inv_dvs h1.1)), .s _ _ (scalD_move hm.2 (inv_dvs h1.2))⟩
theorem mpf_of {G : Nat → Prop} {w : World} {b clock : Nat} {ces : Array MapEntry} {es es0 : List (D × D)} (hp : es.Perm es0) (hG : G b) (hb : w.heap[b]? = some (.map ces clock)) (hst : Stamps ces.toList clock) (he : ER G w ces.toList (es.map prD)) : DR G w (.map (some b)) (.mpf es0) := by
 have hl : ces.toList.length = es.length := by simpa using he.1
 refine .mpf b clock ces es0 es hp hG hb hl hst (fun i c e hc h1 => ?_) fun i c e hc h1 => ?_
 ·exact inv_dvs (he.2 i c (prD e) hc (by rw [List.getElem?_map, h1]; rfl)).1
 ·exact inv_dvs (he.2 i c (prD e) hc (by rw [List.getElem?_map, h1]; rfl)).2
theorem scal_uniq {G : Nat → Prop} {w : World} {v : Value} {x y : D} (hx : DR G w v x) (hy : DR G w v y) (sx : scalD x = true) (sy : scalD y = true) : x = y := by
 cases x with
 | bool b => cases hx; cases y with
  | bool c => cases hy; rfl
  | _ => first | (simp [scalD] at sy; done) | cases hy
 | int k n => cases hx; cases y with
  | int c => cases hy; rfl
  | _ => first | (simp [scalD] at sy; done) | cases hy
 | str t => generalize hd : D.str t = d at hx; cases hx with
  | str q => cases hd; cases y with
   | str c => generalize he : D.str c = e at hy; cases hy with
    | str q => rfl
   | _ => first | (simp [scalD] at sy; done) | cases hy
  | _ => cases hd
 | _ => simp [scalD] at sx
theorem er_uniq {G : Nat → Prop} {w : World} {ces : List MapEntry} {xa xb : List (D × D)} (ha : ER G w ces (xa.map prD)) (hb : ER G w ces (xb.map prD)) (sa : scalE xa) (sb : scalE xb) : xa = xb := by
 have la : ces.length = xa.length := by simpa using ha.1
 have lb : ces.length = xb.length := by simpa using hb.1
 apply List.ext_getElem?
 intro i
 by_cases hi : i < ces.length
 ·have h0 : ces[i]? = some ces[i] := List.getElem?_eq_getElem hi
  have h1 : xa[i]? = some (xa[i]'(by omega)) := List.getElem?_eq_getElem _
  have h2 : xb[i]? = some (xb[i]'(by omega)) := List.getElem?_eq_getElem _
  generalize xa[i]'(by omega) = p at h1
  generalize xb[i]'(by omega) = q at h2
  obtain ⟨a1, a2⟩ := ha.2 i _ (prD p) h0 (by rw [List.getElem?_map, h1]; rfl)
  obtain ⟨b1, b2⟩ := hb.2 i _ (prD q) h0 (by rw [List.getElem?_map, h2]; rfl)
  have s1 := sa p (List.mem_of_getElem? h1)
  have s2 := sb q (List.mem_of_getElem? h2)
  have e1 := scal_uniq (inv_dvs a1) (inv_dvs b1) s1.1 s2.1
  have e2 := scal_uniq (inv_dvs a2) (inv_dvs b2) s1.2 s2.2
  rw [h1, h2]
  exact congrArg some (Prod.ext e1 e2)
 ·rw [List.getElem?_eq_none (by omega), List.getElem?_eq_none (by omega)]
theorem lend_out {w w' : World} {v : Value} {ι ι' : Io} {h h' : Hp} {G' : Nat → Prop} {l ver : Nat} {es ec : List (D × D)} (hall : ∀ k ∈ h, ∃ es, k = .mp 0 es) (hr : HR (fun _ => False) ι h w) (hx : Ext (fun _ => False) ι h w G' ι' h' w') (hr' : HR G' ι' h' w')
    (hv : VR G' w' ι' h' v (.c (.mp l))) (hl : h[l]? = none) (hl' : h'[l]? = some (.mp ver (es.map prD))) (hp : es.Perm ec) (hs : scalE ec) (hkeep : ∀ i, i < h.length → h'[i]? = h[i]?) (G : Nat → Prop) (hG : ∀ b, G b → b < w.heap.size) :
    ∃ G2, HR G2 [] [] w' ∧ VR G2 w' [] [] v (.c (.d (.mpf ec))) ∧ Ext G [] [] w G2 [] [] w' := by
  obtain ⟨b, o, ces, clock, rfl, g1, g2, g3, g4⟩ := map_at hr' hv hl'
  have hsame : ∀ b, b < w.heap.size → w'.heap[b]? = w.heap[b]? := by
    intro b hb
    by_cases ho : owned ι h b
    · obtain ⟨i, k, h1, h2⟩ := ho
      obtain ⟨es, rfl⟩ := hall k (List.mem_of_getElem? h1)
      obtain ⟨_, o, h3⟩ := h2
      obtain ⟨k', h4, h5⟩ := hx.keep i _ h1
      rw [hkeep i (get_lt h1), h1] at h4
      cases h4
      rcases h5.2 with h6 | ⟨_, _, h6⟩
      · omega
      · exact h6 b o h3
    · exact hx.frame b hb ho
  have hnew : w.heap.size ≤ b := by
    have ho' : owned ι' h' b := owned_of g1 hl' rfl
    rcases hx.onew b ho' with ⟨i, k, h1, h2⟩ | h1
    · exfalso
      obtain ⟨es, rfl⟩ := hall k (List.mem_of_getElem? h1)
      obtain ⟨_, o2, h3⟩ := h2
      obtain ⟨k', h4, h5⟩ := hx.keep i _ h1
      rw [hkeep i (get_lt h1), h1] at h4
      cases h4
      have hi : ι'[i]? = some (b, o2) := by rw [h5.1]; exact h3
      have := hr'.own i l b _ _ ((hkeep i (get_lt h1)).trans h1) hl' (own1_of hi rfl) (own1_of g1 rfl)
      subst this
      rw [hl] at h1; cases h1
    · exact h1
  have hbs : b < w'.heap.size := (Array.getElem?_eq_some_iff.1 g2).1
  have hse : scalE es := fun e he => hs e (hp.mem_iff.1 he)
  refine ⟨fun b' => G b' ∨ b' = b, HR_nil fun b' hb' => ?_, .c _ _ (.d _ _ (mpf_of hp (.inr rfl) g2 g3 (g4.scal hse))), ?_⟩
  · rcases hb' with hb' | rfl
    · have := hG b' hb'; have := hx.size; omega
    · exact hbs
  · exact
      { size := hx.size
        quiet := hx.quiet
        frame := fun b' hb' _ => hsame b' hb'
        gmono := fun b' hb' => .inl hb'
        gnew := fun b' hb' => by
          rcases hb' with hb' | rfl
          · exact .inl hb'
          · exact .inr (.inl hnew)
        onew := fun b' ⟨l, k, h1, _⟩ => by simp at h1
        keep := fun l k hk => by simp at hk }
theorem FnS.lend2 {P : Program} {f : Nat} {ea eb ec : List (D × D)} (sa : scalE ea) (sb : scalE eb) (sc : scalE ec)
    (h2 : ∀ xa xb : List (D × D), xa.Perm ea → xb.Perm eb → FnS P f [.c (.mp 0), .c (.mp 1)] [.mp 0 (xa.map prD), .mp 0 (xb.map prD)] fun r h' => ∃ (l ver : Nat) (es : List (D × D)), r = .c (.mp l) ∧ 2 ≤ l ∧ h'[l]? = some (.mp ver (es.map prD)) ∧ es.Perm ec ∧ h'[0]? = some (.mp 0 (xa.map prD)) ∧ h'[1]? = some (.mp 0 (xb.map prD)))
    (h1 : ∀ xa : List (D × D), xa.Perm ea → xa.Perm eb → FnS P f [.c (.mp 0), .c (.mp 0)] [.mp 0 (xa.map prD)] fun r h' => ∃ (l ver : Nat) (es : List (D × D)), r = .c (.mp l) ∧ 1 ≤ l ∧ h'[l]? = some (.mp ver (es.map prD)) ∧ es.Perm ec ∧ h'[0]? = some (.mp 0 (xa.map prD))) :
    FnS P f [.c (.d (.mpf ea)), .c (.d (.mpf eb))] [] fun r _ => pureA r = true ∧ r = .c (.d (.mpf ec)) := by
  refine ⟨fun G ι w vs hr hv => ?_⟩
  obtain ⟨v0, v1, rfl⟩ : ∃ v0 v1, vs = [v0, v1] := by
    have := hv.1
    match vs, this with
    | [x, y], _ => exact ⟨x, y, rfl⟩
  have hd0 := inv_d (hv.2 0 v0 _ rfl rfl)
  have hd1 := inv_d (hv.2 1 v1 _ rfl rfl)
  obtain ⟨b0, cl0, ces0, xa, rfl, pa, gb0, hb0, st0, er0⟩ := inv_mpf hd0
  obtain ⟨b1, cl1, ces1, xb, rfl, pb, gb1, hb1, st1, er1⟩ := inv_mpf hd1
  have hι : ι = [] := List.eq_nil_of_length_eq_zero (by rw [hr.len]; rfl)
  subst hι
  have ha : scalE xa := fun e he => sa e (pa.mem_iff.1 he)
  have hb : scalE xb := fun e he => sb e (pb.mem_iff.1 he)
  have hGs : ∀ b, G b → b < w.heap.size := fun b hb => (hr.g b hb).1
  by_cases hne : b0 = b1
  · subst hne
    rw [hb0] at hb1
    cases hb1
    have hxx := er_uniq er0 er1 ha hb
    subst hxx
    have hr1 : HR (fun _ => False) [(b0, 0)] [.mp 0 (xa.map prD)] w :=
      { len := rfl
        own := fun l l' b k k' q1 q2 q3 q4 => by
          have := get_lt q1
          have := get_lt q2
          simp only [List.length_cons, List.length_nil] at *
          omega
        g := fun b hb => hb.elim
        blk := fun l k q => by
          match l, q with
          | 0, q => cases q; exact ⟨b0, 0, ces0, cl0, rfl, hb0, st0, er0.scal ha⟩ }
    have hv1 : VRs (fun _ => False) w [(b0, 0)] [.mp 0 (xa.map prD)] [.map (some b0), .map (some b0)] [.c (.mp 0), .c (.mp 0)] := ⟨rfl, fun i v x q1 q2 => by
      match i, q1, q2 with
      | 0, q1, q2 => cases q1; cases q2; exact .c _ _ (.mp _ 0 _ rfl fun ver es e => ⟨b0, 0, rfl, rfl⟩)
      | 1, q1, q2 => cases q1; cases q2; exact .c _ _ (.mp _ 0 _ rfl fun ver es e => ⟨b0, 0, rfl, rfl⟩)⟩
    refine ((h1 xa pa pb).out _ _ w _ hr1 hv1).mono fun e w' ⟨v, r, G', ι', h', he, ⟨l, ver, es, hrr, q1, q2, q3, q4⟩, hr', hvr, hx⟩ => ?_
    subst hrr
    obtain ⟨G2, k1, k2, k3⟩ := lend_out (fun k hk => by
      simp only [List.mem_cons, List.not_mem_nil, or_false] at hk
      subst hk; exact ⟨_, rfl⟩) hr1 hx hr' hvr (List.getElem?_eq_none (by simpa using q1)) q2 q3 sc (fun i hi => by
      match i, hi with
      | 0, _ => exact q4) G hGs
    exact ⟨v, .c (.d (.mpf ec)), G2, [], [], he, ⟨rfl, rfl⟩, k1, k2, k3⟩
  · have hr2 : HR (fun _ => False) [(b0, 0), (b1, 0)] [.mp 0 (xa.map prD), .mp 0 (xb.map prD)] w :=
      { len := rfl
        own := fun l l' b k k' q1 q2 q3 q4 => by
          have aux : ∀ (l : Nat) (k : Blk), [Blk.mp 0 (xa.map prD), .mp 0 (xb.map prD)][l]? = some k → own1 [(b0, 0), (b1, 0)] l k b → (l = 0 ∧ b = b0) ∨ (l = 1 ∧ b = b1) := by
            intro l k q1 q3
            match l, q1 with
            | 0, q1 => cases q1; obtain ⟨_, o, q⟩ := q3; cases q; exact .inl ⟨rfl, rfl⟩
            | 1, q1 => cases q1; obtain ⟨_, o, q⟩ := q3; cases q; exact .inr ⟨rfl, rfl⟩
          rcases aux l k q1 q3 with ⟨e1, e2⟩ | ⟨e1, e2⟩ <;> rcases aux l' k' q2 q4 with ⟨e3, e4⟩ | ⟨e3, e4⟩
          · rw [e1, e3]
          · exact absurd (e2.symm.trans e4) hne
          · exact absurd (e4.symm.trans e2) hne
          · rw [e1, e3]
        g := fun b hb => hb.elim
        blk := fun l k q => by
          match l, q with
          | 0, q => cases q; exact ⟨b0, 0, ces0, cl0, rfl, hb0, st0, er0.scal ha⟩
          | 1, q => cases q; exact ⟨b1, 0, ces1, cl1, rfl, hb1, st1, er1.scal hb⟩ }
    have hv2 : VRs (fun _ => False) w [(b0, 0), (b1, 0)] [.mp 0 (xa.map prD), .mp 0 (xb.map prD)] [.map (some b0), .map (some b1)] [.c (.mp 0), .c (.mp 1)] := ⟨rfl, fun i v x q1 q2 => by
      match i, q1, q2 with
      | 0, q1, q2 => cases q1; cases q2; exact .c _ _ (.mp _ 0 _ rfl fun ver es e => ⟨b0, 0, rfl, rfl⟩)
      | 1, q1, q2 => cases q1; cases q2; exact .c _ _ (.mp _ 1 _ rfl fun ver es e => ⟨b1, 0, rfl, rfl⟩)⟩
    refine ((h2 xa xb pa pb).out _ _ w _ hr2 hv2).mono fun e w' ⟨v, r, G', ι', h', he, ⟨l, ver, es, hrr, q1, q2, q3, q4, q5⟩, hr', hvr, hx⟩ => ?_
    subst hrr
    obtain ⟨G2, k1, k2, k3⟩ := lend_out (fun k hk => by
      simp only [List.mem_cons, List.not_mem_nil, or_false] at hk
      rcases hk with rfl | rfl <;> exact ⟨_, rfl⟩) hr2 hx hr' hvr (List.getElem?_eq_none (by simpa using q1)) q2 q3 sc (fun i hi => by
      match i, hi with
      | 0, _ => exact q4
      | 1, _ => exact q5) G hGs
    exact ⟨v, .c (.d (.mpf ec)), G2, [], [], he, ⟨rfl, rfl⟩, k1, k2, k3⟩
end Go.Ab

/-
  Compressing, part c: sets of values (written by r06/comb.py).
-/
namespace Go.Ab
open Go.Proofs
theorem perm_erase {α : Type} : ∀ {l : List α} {j : Nat} {x : α}, l[j]? = some x → (x :: l.eraseIdx j).Perm l := by
 intro l
 induction l with
 | nil => intro j x h; simp at h
 | cons y l ih =>
  intro j x h
  cases j with
  | zero => simp at h; subst h; simp
  | succ j =>
   simp only [List.getElem?_cons_succ] at h
   rw [List.eraseIdx_cons_succ]
   exact (List.Perm.swap y x _).trans ((ih h).cons y)
theorem map_erase {α β : Type} (f : α → β) : ∀ (l : List α) (j : Nat), (l.eraseIdx j).map f = (l.map f).eraseIdx j := by
 intro l
 induction l with
 | nil => intro j; rfl
 | cons y l ih => intro j; cases j with
  | zero => rfl
  | succ j => simp only [List.eraseIdx_cons_succ, List.map_cons, ih]
abbrev setF (l : List Int) : List (D × D) := l.map fun v => (iD v, D.bool true)
theorem setF_I (l : List Int) : (setF l).map prD = setI l := by rw [setF, setI, List.map_map]; rfl
theorem setF_scal (l : List Int) : scalE (setF l) := fun e he => by
 obtain ⟨v, _, rfl⟩ := List.mem_map.1 he
 exact ⟨rfl, rfl⟩
def unI (e : D × D) : Int := match e.1 with
 | .int _ n => n
 | _ => 0
theorem perm_setF {xa : List (D × D)} {a : List Int} (h : xa.Perm (setF a)) : ∃ a' : List Int, a'.Perm a ∧ xa = setF a' := by
 refine ⟨xa.map unI, ?_, ?_⟩
 ·have := h.map unI
  rw [setF, List.map_map] at this
  have e : a.map (unI ∘ fun v => (iD v, D.bool true)) = a := by
   conv => rhs; rw [← List.map_id a]
   exact List.map_congr_left fun v _ => rfl
  rw [e] at this; exact this
 ·rw [setF, List.map_map]
  conv => lhs; rw [← List.map_id xa]
  refine List.map_congr_left fun e he => ?_
  obtain ⟨v, _, rfl⟩ := List.mem_map.1 (h.mem_iff.1 he)
  rfl
theorem setF_perm {a b : List Int} (h : a.Perm b) : (setF a).Perm (setF b) := h.map _
theorem mem_perm_of {a b : List Int} (ha : a.Nodup) (hb : b.Nodup) (h : ∀ z, z ∈ a ↔ z ∈ b) : a.Perm b := (List.perm_ext_iff_of_nodup ha hb).2 h
def uniS (a b : List Int) : List Int := b.foldl insS a
def combineS (a b : List Int) : List Int := if a.filter (fun v => decide (v ∈ b)) = [] then uniS a b else a.filter fun v => decide (v ∈ b)
theorem uniS_inc {a b : List Int} (ha : a.Pairwise (· < ·)) : (uniS a b).Pairwise (· < ·) := (fold_ins b a ha).1
theorem uniS_mem {a b : List Int} (ha : a.Pairwise (· < ·)) {z : Int} : z ∈ uniS a b ↔ z ∈ a ∨ z ∈ b := (fold_ins b a ha).2 z
theorem combineS_inc {a b : List Int} (ha : a.Pairwise (· < ·)) : (combineS a b).Pairwise (· < ·) := by
 rw [combineS]
 split
 ·exact uniS_inc ha
 ·exact ha.filter _
theorem setI_nil_of {l : List Int} (h : setI l = []) : l = [] := by simpa [setI] using h
theorem setI_get {l : List Int} {j : Nat} {k y : DV} (h : (setI l)[j]? = some (k, y)) : ∃ v, l[j]? = some v ∧ k = .s (iD v) ∧ y = .s (.bool true) := by
 rw [setI, List.getElem?_map, Option.map_eq_some_iff] at h
 obtain ⟨v, hv, e⟩ := h
 cases e
 exact ⟨v, hv, rfl, rfl⟩
theorem setI_erase (l : List Int) (j : Nat) : setI (l.eraseIdx j) = (setI l).eraseIdx j := map_erase _ l j
theorem setI_len (l : List Int) : (setI l).length = l.length := by simp [setI]
theorem copy_ok (P : Program) (hP : P = Try.prog) (v : Nat) (d s : List Int) (hd : d.Nodup) (hs : s.Nodup) :
  FnS P n_maps_Copy_map_int_bool_map_int_bool_int_bool [.c (.mp 0), .c (.mp 1)] [.mp v (setI d), .mp 0 (setI s)] fun r h' => ∃ (v2 : Nat) (d2 : List Int), r = .tup [] ∧ d2.Nodup ∧ (∀ z, z ∈ d2 ↔ z ∈ d ∨ z ∈ s) ∧ h' = [.mp v2 (setI d2), .mp 0 (setI s)] := by
 have h1 : FnS P n_maps_Copy_map_int_bool_map_int_bool_int_bool [.c (.mp 0), .c (.mp 1)] [.mp v (setI d), .mp 0 (setI s)] fun r h' => ∃ (v2 : Nat) (d2 : List Int) (t : Hp), r = .tup [] ∧ d2.Nodup ∧ (∀ z, z ∈ d2 ↔ z ∈ d ∨ z ∈ s) ∧ h' = [.mp v2 (setI d2), .mp 0 (setI s)] ++ t := by
  refine heap_start (hP ▸ mixed) (hP ▸ fn_maps_Copy_map_int_bool_map_int_bool_int_bool) (hP ▸ c_maps_Copy_map_int_bool_map_int_bool_int_bool) (Nat.le_of_ble_eq_true rfl) fun Λ Λo K hK => ?_
  clear hP
  have leaf : ∀ v2 (d2 : List Int) dl t, setI d2 = dl → d2.Nodup → (∀ z, z ∈ d2 ↔ z ∈ d ∨ z ∈ s) → K (.tup []) ([.mp v2 dl, .mp 0 (setI s)] ++ t) := fun v2 d2 dl t h1 h2 h3 => by subst h1; exact hK _ _ ⟨v2, d2, t, rfl, h2, h3, rfl⟩
  clear hK
  obtain ⟨dl, hdl⟩ : ∃ dl, setI d = dl := ⟨_, rfl⟩
  obtain ⟨sl, hsl⟩ : ∃ sl, setI s = sl := ⟨_, rfl⟩
  rw [hdl]
  rw [hsl] at leaf ⊢
  conv => cbv
  repeat' first | exact gu | exact trivial | refine And.intro ?_ ?_ | (intro hc; exact absurd hc (by decide)) | (intro hc; exfalso; omega) | (intro hc; (first | rw [wrap_small (by omega) (by omega)] at hc | rw [nI_eq] at hc | skip); try (conv => cbv)) | refine CallG.old ?_
  refine loop_up s.length (fun (q : Nat × List (DV × DV) × (DV × DV) × List (DV × DV)) => [(0, .c (.mp 0)), (7, .c (.it 2))])
   (fun q => [.mp q.1 q.2.1, .mp 0 sl, .mi 1 0 (q.2.2.1 :: q.2.2.2)])
   (fun k q => ∃ dn rs d2 : List Int, (dn ++ rs).Perm s ∧ q.2.2.2 = setI rs ∧ setI d2 = q.2.1 ∧ d2.Nodup ∧ (∀ z, z ∈ d2 ↔ z ∈ d ∨ z ∈ dn) ∧ dn.length = k) (v, dl, (.g [], .g []), sl) (Wk.ca)
   ⟨[], s, d, by simp, hsl.symm, hdl, hd, by simp, rfl⟩ (fun k s h => by obtain ⟨dn, rs, d2, h1, _, _, _, _, h2⟩ := h; have := h1.length_eq; simp at this; omega) ?_
  rintro k ⟨v2, el, e0, rest⟩ Q' ⟨dn, rs, d2, hpm, hrs, hel, hnd, hmem, hlen⟩ norm ex rt
  simp only at hrs hel
  have lf := fun (e : rest = []) t => leaf v2 d2 el t hel hnd (fun z => by
   have h0 : rs = [] := setI_nil_of (hrs.symm.trans e)
   subst h0
   rw [List.append_nil] at hpm
   rw [hmem, hpm.mem_iff])
  have next : ∀ (j : Nat) (x : Int) (rest' : List (DV × DV)), rs[j]? = some x → rest' = rest.eraseIdx j → ∃ rs' : List Int, (dn ++ [x] ++ rs').Perm s ∧ rest' = setI rs' ∧ (dn ++ [x]).length = k + 1 := fun j x rest' hx hr => by
   refine ⟨rs.eraseIdx j, ?_, by rw [hr, hrs, setI_erase], by simp [hlen]⟩
   rw [List.append_assoc]
   exact ((perm_erase hx).append_left dn).trans hpm
  clear leaf
  conv => cbv
  repeat' first | (refine ex _ _ _ ?_; (conv => cbv)) | (refine rt _ _ ?_; (conv => cbv)) | (intro (j : Nat) (kk : DV) (y : DV) (rest' : List (DV × DV)) hj hr'; obtain ⟨x, hx, rfl, rfl⟩ := setI_get (hrs ▸ hj); have nx := next j x rest' hx hr'; (conv => cbv)) | (refine vup_setI hel (fun hni es' he => ?_) (fun hin => ?_) <;> (conv => cbv)) | exact gu | exact trivial | refine And.intro ?_ ?_ | (intro hc; exact absurd hc (by decide)) | (intro hc; exfalso; omega) | (intro hc; (first | rw [wrap_small (by omega) (by omega)] at hc | rw [nI_eq] at hc | skip); try (conv => cbv)) | refine CallG.old ?_
  ·exact lf (by assumption) _
  ·obtain ⟨rs', q1, q2, q3⟩ := nx
   refine norm _ _ (_, _, _, _) ?_ (Wk.ca)
   refine ⟨dn ++ [x], rs', d2 ++ [x], q1, q2, he, ?_, fun z => ?_, q3⟩
   ·rw [List.nodup_append]
    exact ⟨hnd, by simp, fun a ha b hb e => hni (by rw [List.mem_singleton] at hb; rw [← hb, ← e]; exact ha)⟩
   ·rw [List.mem_append, List.mem_append, hmem]
    exact ⟨fun h => h.elim (fun h => h.elim .inl fun h => .inr (.inl h)) fun h => .inr (.inr h), fun h => h.elim (fun h => .inl (.inl h)) fun h => h.elim (fun h => .inl (.inr h)) .inr⟩
  ·obtain ⟨rs', q1, q2, q3⟩ := nx
   refine norm _ _ (_, _, _, _) ?_ (Wk.ca)
   refine ⟨dn ++ [x], rs', d2, q1, q2, hel, hnd, fun z => ?_, q3⟩
   rw [List.mem_append, List.mem_singleton, hmem]
   constructor
   ·rintro (h | h)
    ·exact .inl h
    ·exact .inr (.inl h)
   ·rintro (h | h | h)
    ·exact .inl h
    ·exact .inr h
    ·rw [h]; exact (hmem x).1 hin
 refine FnS.gct h1 _ fun r h' hR => ?_
 obtain ⟨v2, d2, t, rfl, h2, h3, rfl⟩ := hR
 exact ⟨[0, 1], .tup [], [.mp v2 (setI d2), .mp 0 (setI s)], ⟨v2, d2, rfl, h2, h3, rfl⟩, rfl, by decide, fun l hl => by simp at hl ⊢; omega,
  fun i k hk => by have := frOk_get (h := [.mp v2 (setI d2), .mp 0 (setI s)] ++ t) (hc := [Blk.mp v2 (setI d2), Blk.mp 0 (setI s)]) (n := 0) (ρ := rho [0, 1] ([Blk.mp v2 (setI d2), Blk.mp 0 (setI s)] ++ t).length) (by repeat' first | exact trivial | refine And.intro ?_ ?_ | rfl) i k hk; rw [Nat.zero_add] at this; exact this,
  rfl, rfl, rfl, by simp, fun i hi => by (match i, hi with | 0, _ => rfl | 1, _ => rfl), fun k hk => by simp at hk; rcases hk with rfl | rfl <;> intro _ _ _ h <;> cases h⟩
theorem combine_two (P : Program) (hP : P = Try.prog) (a b : List Int) (ha : a.Nodup) (hb : b.Nodup) :
  FnS P n_compress_combine [.c (.mp 0), .c (.mp 1)] [.mp 0 (setI a), .mp 0 (setI b)] fun r h' => ∃ (l ver : Nat) (es : List Int), r = .c (.mp l) ∧ 2 ≤ l ∧ h'[l]? = some (.mp ver (setI es)) ∧ es.Nodup ∧ (∀ z, z ∈ es ↔ if (∃ v, v ∈ a ∧ v ∈ b) then z ∈ a ∧ z ∈ b else z ∈ a ∨ z ∈ b) ∧ h'[0]? = some (.mp 0 (setI a)) ∧ h'[1]? = some (.mp 0 (setI b)) := by
 have hcp := fun v d s hd hs => copy_ok P hP v d s hd hs
 refine heap_start (hP ▸ mixed) (hP ▸ fn_compress_combine) (hP ▸ c_compress_combine) (Nat.le_of_ble_eq_true rfl) fun Λ Λo K hK => ?_
 clear hP
 have leaf : ∀ ver (es : List Int) el t, setI es = el → es.Nodup → (∀ z, z ∈ es ↔ if (∃ v, v ∈ a ∧ v ∈ b) then z ∈ a ∧ z ∈ b else z ∈ a ∨ z ∈ b) → K (.c (.mp 2)) ([.mp 0 (setI a), .mp 0 (setI b)] ++ (.mp ver el :: t)) := fun ver es el t h1 h2 h3 => by
  subst h1; exact hK _ _ ⟨2, ver, es, rfl, Nat.le_refl _, rfl, h2, h3, rfl, rfl⟩
 clear hK
 obtain ⟨al, hal⟩ : ∃ al, setI a = al := ⟨_, rfl⟩
 obtain ⟨bl, hbl⟩ : ∃ bl, setI b = bl := ⟨_, rfl⟩
 rw [hal, hbl] at leaf ⊢
 have hcpa := fun v d hd => hcp v d a hd ha
 have hcpb := fun v d hd => hcp v d b hd hb
 rw [hal] at hcpa
 rw [hbl] at hcpb
 clear hcp
 conv => cbv
 repeat' first | exact gu | exact trivial | refine And.intro ?_ ?_ | (intro hc; exact absurd hc (by decide)) | (intro hc; exfalso; omega) | (intro hc; (first | rw [wrap_small (by omega) (by omega)] at hc | rw [nI_eq] at hc | skip); try (conv => cbv)) | refine CallG.old ?_
 refine loop_upx a.length (fun (q : Nat × List (DV × DV) × (DV × DV) × List (DV × DV)) => [(0, .c (.mp 0)), (1, .c (.mp 1)), (5, .c (.mp 2)), (9, .c (.it 3))])
  (fun q => [.mp 0 al, .mp 0 bl, .mp q.1 q.2.1, .mi 0 0 (q.2.2.1 :: q.2.2.2)])
  (fun k q => ∃ dn rs d2 : List Int, (dn ++ rs).Perm a ∧ q.2.2.2 = setI rs ∧ setI d2 = q.2.1 ∧ d2.Nodup ∧ (∀ z, z ∈ d2 ↔ z ∈ dn ∧ z ∈ b) ∧ dn.length = k) (0, [], (.g [], .g []), al) 0
  (fun (q : Nat × List (DV × DV) × (DV × DV) × List (DV × DV)) => [(0, .c (.mp 0)), (1, .c (.mp 1)), (5, .c (.mp 2))])
  (fun q => [.mp 0 al, .mp 0 bl, .mp q.1 q.2.1, .mi 0 0 (q.2.2.1 :: q.2.2.2)])
  (fun q => ∃ d2 : List Int, setI d2 = q.2.1 ∧ d2.Nodup ∧ (∀ z, z ∈ d2 ↔ z ∈ a ∧ z ∈ b)) (Wk.ca)
  ⟨[], a, [], by simp, hal.symm, rfl, .nil, by simp, rfl⟩ (fun k s h => by obtain ⟨dn, rs, d2, h1, _, _, _, _, h2⟩ := h; have := h1.length_eq; simp at this; omega) ?_ ?_
 ·rintro k ⟨v2, el, e0, rest⟩ Q' ⟨dn, rs, d2, hpm, hrs, hel, hnd, hmem, hlen⟩ norm jn ex rt
  simp only at hrs hel
  have lf := fun (e : rest = []) => (⟨d2, hel, hnd, fun z => by
   have h0 : rs = [] := setI_nil_of (hrs.symm.trans e)
   subst h0
   rw [List.append_nil] at hpm
   rw [hmem, hpm.mem_iff]⟩ : ∃ d2 : List Int, setI d2 = el ∧ d2.Nodup ∧ (∀ z, z ∈ d2 ↔ z ∈ a ∧ z ∈ b))
  have next : ∀ (j : Nat) (x : Int) (rest' : List (DV × DV)), rs[j]? = some x → rest' = rest.eraseIdx j → ∃ rs' : List Int, (dn ++ [x] ++ rs').Perm a ∧ rest' = setI rs' ∧ (dn ++ [x]).length = k + 1 := fun j x rest' hx hr => by
   refine ⟨rs.eraseIdx j, ?_, by rw [hr, hrs, setI_erase], by simp [hlen]⟩
   rw [List.append_assoc]
   exact ((perm_erase hx).append_left dn).trans hpm
  clear leaf hcpa hcpb
  conv => cbv
  repeat' first | (intro (j : Nat) (kk : DV) (y : DV) (rest' : List (DV × DV)) hj hr'; obtain ⟨x, hx, rfl, rfl⟩ := setI_get (hrs ▸ hj); have nx := next j x rest' hx hr'; (conv => cbv)) | (refine vlk_setI hbl (fun hnb => ?_) (fun hib => ?_) <;> (conv => cbv)) | (refine vup_setI hel (fun hni es' he => ?_) (fun hin => ?_) <;> (conv => cbv)) | exact gu | exact trivial | refine And.intro ?_ ?_ | (intro hc; exact absurd hc (by decide)) | (intro hc; exfalso; omega) | (intro hc; (first | rw [wrap_small (by omega) (by omega)] at hc | rw [nI_eq] at hc | skip); try (conv => cbv)) | refine CallG.old ?_
  ·exact jn _ _ (v2, el, e0, rest) (lf (by assumption)) (Wk.ca)
  ·obtain ⟨rs', q1, q2, q3⟩ := nx
   refine norm _ _ (_, _, _, _) ?_ (Wk.ca)
   refine ⟨dn ++ [x], rs', d2, q1, q2, hel, hnd, fun z => ?_, q3⟩
   rw [List.mem_append, List.mem_singleton, hmem]
   constructor
   ·rintro h
    exact ⟨.inl h.1, h.2⟩
   ·rintro ⟨h | rfl, h'⟩
    ·exact ⟨h, h'⟩
    ·exact absurd h' hnb
  ·obtain ⟨rs', q1, q2, q3⟩ := nx
   refine norm _ _ (_, _, _, _) ?_ (Wk.ca)
   refine ⟨dn ++ [x], rs', d2 ++ [x], q1, q2, he, ?_, fun z => ?_, q3⟩
   ·rw [List.nodup_append]
    exact ⟨hnd, by simp, fun c hc d hd e => hni (by rw [List.mem_singleton] at hd; rw [← hd, ← e]; exact hc)⟩
   ·rw [List.mem_append, List.mem_append, hmem, List.mem_singleton]
    constructor
    ·rintro (h | rfl)
     ·exact ⟨.inl h.1, h.2⟩
     ·exact ⟨.inr rfl, hib⟩
    ·rintro ⟨h | h, h'⟩
     ·exact .inl ⟨h, h'⟩
     ·exact .inr h
  ·obtain ⟨rs', q1, q2, q3⟩ := nx
   refine norm _ _ (_, _, _, _) ?_ (Wk.ca)
   refine ⟨dn ++ [x], rs', d2, q1, q2, hel, hnd, fun z => ?_, q3⟩
   rw [List.mem_append, List.mem_singleton, hmem]
   constructor
   ·rintro h
    exact ⟨.inl h.1, h.2⟩
   ·rintro ⟨h | rfl, h'⟩
    ·exact ⟨h, h'⟩
    ·exact (hmem z).1 hin
 ·rintro ⟨v2, el, e0, rest⟩ ⟨d2, hel, hnd, hmem⟩
  simp only at hel
  have ell : el.length = d2.length := by rw [← hel]; exact setI_len _
  obtain ⟨ez, hez⟩ : ∃ ez : Int, ez = (el.length : Int) := ⟨_, rfl⟩
  by_cases he : d2 = []
  ·subst he
   have hno : ¬ ∃ v, v ∈ a ∧ v ∈ b := fun ⟨v, hv⟩ => by have := (hmem v).2 hv; cases this
   have leaf := fun ver (es : List Int) el t h1 h2 (h3 : ∀ z, z ∈ es ↔ z ∈ a ∨ z ∈ b) => leaf ver es el t h1 h2 fun z => by rw [if_neg hno]; exact h3 z
   have hc1 := hcpa v2 [] .nil
   rw [hel] at hc1
   have ez0 : ez = 0 := by rw [hez, ell]; rfl
   conv => cbv
   repeat' first | (intro (c : Int) hcl; refine (fun (hz : ez = c) => ?_) (hez.trans hcl.symm); subst hz; (conv => cbv)) | (refine call_fr [2, 1] hc2 rfl rfl (by decide) (by repeat' first | exact trivial | refine And.intro ?_ ?_ | rfl) rfl rfl ?_; rintro r hc' ⟨w3, d4, rfl, hn4, hm4, rfl⟩; obtain ⟨d4l, hd4⟩ : ∃ d4l, setI d4 = d4l := ⟨_, rfl⟩; simp only [hd4]; (conv => cbv)) | (refine call_fr [2, 0] hc1 rfl rfl (by decide) (by repeat' first | exact trivial | refine And.intro ?_ ?_ | rfl) rfl rfl ?_; rintro r hc' ⟨w2, d3, rfl, hn3, hm3, rfl⟩; obtain ⟨d3l, hd3⟩ : ∃ d3l, setI d3 = d3l := ⟨_, rfl⟩; have hc2 := hcpb w2 d3 hn3; simp only [hd3] at hc2 ⊢; (conv => cbv)) | exact gu | exact trivial | refine And.intro ?_ ?_ | (intro hc; exact absurd hc (by decide)) | (intro hc; exfalso; omega) | (intro hc; (first | rw [wrap_small (by omega) (by omega)] at hc | rw [nI_eq] at hc | skip); try (conv => cbv)) | refine CallG.old ?_
   refine leaf w3 d4 d4l [_] hd4 hn4 fun z => ?_
   rw [hm4, hm3]; simp
  ·have hyes : ∃ v, v ∈ a ∧ v ∈ b := by
    cases hd : d2 with
    | nil => exact absurd hd he
    | cons v l => exact ⟨v, (hmem v).1 (by rw [hd]; simp)⟩
   have hpos : 0 < d2.length := List.length_pos_iff.2 he
   have leaf := fun t => leaf v2 d2 el t hel hnd fun z => by rw [if_pos hyes]; exact hmem z
   clear hcpa hcpb
   have ez0 : ¬ ez = 0 := by omega
   conv => cbv
   repeat' first | (intro (c : Int) hcl; refine (fun (hz : ez = c) => ?_) (hez.trans hcl.symm); subst hz; (conv => cbv)) | exact gu | exact trivial | refine And.intro ?_ ?_ | (intro hc; exact absurd hc (by decide)) | (intro hc; exfalso; omega) | (intro hc; (first | rw [wrap_small (by omega) (by omega)] at hc | rw [nI_eq] at hc | skip); try (conv => cbv)) | refine CallG.old ?_
   exact leaf [_]
theorem combine_one (P : Program) (hP : P = Try.prog) (a : List Int) (ha : a.Nodup) :
  FnS P n_compress_combine [.c (.mp 0), .c (.mp 0)] [.mp 0 (setI a)] fun r h' => ∃ (l ver : Nat) (es : List Int), r = .c (.mp l) ∧ 1 ≤ l ∧ h'[l]? = some (.mp ver (setI es)) ∧ es.Nodup ∧ (∀ z, z ∈ es ↔ if (∃ v, v ∈ a ∧ v ∈ a) then z ∈ a ∧ z ∈ a else z ∈ a ∨ z ∈ a) ∧ h'[0]? = some (.mp 0 (setI a)) := by
 have hcp := fun v d s hd hs => copy_ok P hP v d s hd hs
 refine heap_start (hP ▸ mixed) (hP ▸ fn_compress_combine) (hP ▸ c_compress_combine) (Nat.le_of_ble_eq_true rfl) fun Λ Λo K hK => ?_
 clear hP
 have leaf : ∀ ver (es : List Int) el t, setI es = el → es.Nodup → (∀ z, z ∈ es ↔ if (∃ v, v ∈ a ∧ v ∈ a) then z ∈ a ∧ z ∈ a else z ∈ a ∨ z ∈ a) → K (.c (.mp 1)) ([.mp 0 (setI a)] ++ (.mp ver el :: t)) := fun ver es el t h1 h2 h3 => by
  subst h1; exact hK _ _ ⟨1, ver, es, rfl, Nat.le_refl _, rfl, h2, h3, rfl⟩
 clear hK
 obtain ⟨al, hal⟩ : ∃ al, setI a = al := ⟨_, rfl⟩
 skip
 rw [hal] at leaf ⊢
 have hcpa := fun v d hd => hcp v d a hd ha
 have hcpb := fun v d hd => hcp v d a hd ha
 rw [hal] at hcpa
 rw [hal] at hcpb
 clear hcp
 conv => cbv
 repeat' first | exact gu | exact trivial | refine And.intro ?_ ?_ | (intro hc; exact absurd hc (by decide)) | (intro hc; exfalso; omega) | (intro hc; (first | rw [wrap_small (by omega) (by omega)] at hc | rw [nI_eq] at hc | skip); try (conv => cbv)) | refine CallG.old ?_
 refine loop_upx a.length (fun (q : Nat × List (DV × DV) × (DV × DV) × List (DV × DV)) => [(0, .c (.mp 0)), (1, .c (.mp 0)), (5, .c (.mp 1)), (9, .c (.it 2))])
  (fun q => [.mp 0 al, .mp q.1 q.2.1, .mi 0 0 (q.2.2.1 :: q.2.2.2)])
  (fun k q => ∃ dn rs d2 : List Int, (dn ++ rs).Perm a ∧ q.2.2.2 = setI rs ∧ setI d2 = q.2.1 ∧ d2.Nodup ∧ (∀ z, z ∈ d2 ↔ z ∈ dn ∧ z ∈ a) ∧ dn.length = k) (0, [], (.g [], .g []), al) 0
  (fun (q : Nat × List (DV × DV) × (DV × DV) × List (DV × DV)) => [(0, .c (.mp 0)), (1, .c (.mp 0)), (5, .c (.mp 1))])
  (fun q => [.mp 0 al, .mp q.1 q.2.1, .mi 0 0 (q.2.2.1 :: q.2.2.2)])
  (fun q => ∃ d2 : List Int, setI d2 = q.2.1 ∧ d2.Nodup ∧ (∀ z, z ∈ d2 ↔ z ∈ a ∧ z ∈ a)) (Wk.ca)
  ⟨[], a, [], by simp, hal.symm, rfl, .nil, by simp, rfl⟩ (fun k s h => by obtain ⟨dn, rs, d2, h1, _, _, _, _, h2⟩ := h; have := h1.length_eq; simp at this; omega) ?_ ?_
 ·rintro k ⟨v2, el, e0, rest⟩ Q' ⟨dn, rs, d2, hpm, hrs, hel, hnd, hmem, hlen⟩ norm jn ex rt
  simp only at hrs hel
  have lf := fun (e : rest = []) => (⟨d2, hel, hnd, fun z => by
   have h0 : rs = [] := setI_nil_of (hrs.symm.trans e)
   subst h0
   rw [List.append_nil] at hpm
   rw [hmem, hpm.mem_iff]⟩ : ∃ d2 : List Int, setI d2 = el ∧ d2.Nodup ∧ (∀ z, z ∈ d2 ↔ z ∈ a ∧ z ∈ a))
  have next : ∀ (j : Nat) (x : Int) (rest' : List (DV × DV)), rs[j]? = some x → rest' = rest.eraseIdx j → ∃ rs' : List Int, (dn ++ [x] ++ rs').Perm a ∧ rest' = setI rs' ∧ (dn ++ [x]).length = k + 1 := fun j x rest' hx hr => by
   refine ⟨rs.eraseIdx j, ?_, by rw [hr, hrs, setI_erase], by simp [hlen]⟩
   rw [List.append_assoc]
   exact ((perm_erase hx).append_left dn).trans hpm
  clear leaf hcpa hcpb
  conv => cbv
  repeat' first | (intro (j : Nat) (kk : DV) (y : DV) (rest' : List (DV × DV)) hj hr'; obtain ⟨x, hx, rfl, rfl⟩ := setI_get (hrs ▸ hj); have nx := next j x rest' hx hr'; (conv => cbv)) | (refine vlk_setI hal (fun hnb => ?_) (fun hib => ?_) <;> (conv => cbv)) | (refine vup_setI hel (fun hni es' he => ?_) (fun hin => ?_) <;> (conv => cbv)) | exact gu | exact trivial | refine And.intro ?_ ?_ | (intro hc; exact absurd hc (by decide)) | (intro hc; exfalso; omega) | (intro hc; (first | rw [wrap_small (by omega) (by omega)] at hc | rw [nI_eq] at hc | skip); try (conv => cbv)) | refine CallG.old ?_
  ·exact jn _ _ (v2, el, e0, rest) (lf (by assumption)) (Wk.ca)
  ·obtain ⟨rs', q1, q2, q3⟩ := nx
   refine norm _ _ (_, _, _, _) ?_ (Wk.ca)
   refine ⟨dn ++ [x], rs', d2, q1, q2, hel, hnd, fun z => ?_, q3⟩
   rw [List.mem_append, List.mem_singleton, hmem]
   constructor
   ·rintro h
    exact ⟨.inl h.1, h.2⟩
   ·rintro ⟨h | rfl, h'⟩
    ·exact ⟨h, h'⟩
    ·exact absurd h' hnb
  ·obtain ⟨rs', q1, q2, q3⟩ := nx
   refine norm _ _ (_, _, _, _) ?_ (Wk.ca)
   refine ⟨dn ++ [x], rs', d2 ++ [x], q1, q2, he, ?_, fun z => ?_, q3⟩
   ·rw [List.nodup_append]
    exact ⟨hnd, by simp, fun c hc d hd e => hni (by rw [List.mem_singleton] at hd; rw [← hd, ← e]; exact hc)⟩
   ·rw [List.mem_append, List.mem_append, hmem, List.mem_singleton]
    constructor
    ·rintro (h | rfl)
     ·exact ⟨.inl h.1, h.2⟩
     ·exact ⟨.inr rfl, hib⟩
    ·rintro ⟨h | h, h'⟩
     ·exact .inl ⟨h, h'⟩
     ·exact .inr h
  ·obtain ⟨rs', q1, q2, q3⟩ := nx
   refine norm _ _ (_, _, _, _) ?_ (Wk.ca)
   refine ⟨dn ++ [x], rs', d2, q1, q2, hel, hnd, fun z => ?_, q3⟩
   rw [List.mem_append, List.mem_singleton, hmem]
   constructor
   ·rintro h
    exact ⟨.inl h.1, h.2⟩
   ·rintro ⟨h | rfl, h'⟩
    ·exact ⟨h, h'⟩
    ·exact (hmem z).1 hin
 ·rintro ⟨v2, el, e0, rest⟩ ⟨d2, hel, hnd, hmem⟩
  simp only at hel
  have ell : el.length = d2.length := by rw [← hel]; exact setI_len _
  obtain ⟨ez, hez⟩ : ∃ ez : Int, ez = (el.length : Int) := ⟨_, rfl⟩
  by_cases he : d2 = []
  ·subst he
   have hno : ¬ ∃ v, v ∈ a ∧ v ∈ a := fun ⟨v, hv⟩ => by have := (hmem v).2 hv; cases this
   have leaf := fun ver (es : List Int) el t h1 h2 (h3 : ∀ z, z ∈ es ↔ z ∈ a ∨ z ∈ a) => leaf ver es el t h1 h2 fun z => by rw [if_neg hno]; exact h3 z
   have hc1 := hcpa v2 [] .nil
   rw [hel] at hc1
   have ez0 : ez = 0 := by rw [hez, ell]; rfl
   conv => cbv
   repeat' first | (intro (c : Int) hcl; refine (fun (hz : ez = c) => ?_) (hez.trans hcl.symm); subst hz; (conv => cbv)) | (refine call_fr [1, 0] hc2 rfl rfl (by decide) (by repeat' first | exact trivial | refine And.intro ?_ ?_ | rfl) rfl rfl ?_; rintro r hc' ⟨w3, d4, rfl, hn4, hm4, rfl⟩; obtain ⟨d4l, hd4⟩ : ∃ d4l, setI d4 = d4l := ⟨_, rfl⟩; simp only [hd4]; (conv => cbv)) | (refine call_fr [1, 0] hc1 rfl rfl (by decide) (by repeat' first | exact trivial | refine And.intro ?_ ?_ | rfl) rfl rfl ?_; rintro r hc' ⟨w2, d3, rfl, hn3, hm3, rfl⟩; obtain ⟨d3l, hd3⟩ : ∃ d3l, setI d3 = d3l := ⟨_, rfl⟩; have hc2 := hcpb w2 d3 hn3; simp only [hd3] at hc2 ⊢; (conv => cbv)) | exact gu | exact trivial | refine And.intro ?_ ?_ | (intro hc; exact absurd hc (by decide)) | (intro hc; exfalso; omega) | (intro hc; (first | rw [wrap_small (by omega) (by omega)] at hc | rw [nI_eq] at hc | skip); try (conv => cbv)) | refine CallG.old ?_
   refine leaf w3 d4 d4l [_] hd4 hn4 fun z => ?_
   rw [hm4, hm3]; simp
  ·have hyes : ∃ v, v ∈ a ∧ v ∈ a := by
    cases hd : d2 with
    | nil => exact absurd hd he
    | cons v l => exact ⟨v, (hmem v).1 (by rw [hd]; simp)⟩
   have hpos : 0 < d2.length := List.length_pos_iff.2 he
   have leaf := fun t => leaf v2 d2 el t hel hnd fun z => by rw [if_pos hyes]; exact hmem z
   clear hcpa hcpb
   have ez0 : ¬ ez = 0 := by omega
   conv => cbv
   repeat' first | (intro (c : Int) hcl; refine (fun (hz : ez = c) => ?_) (hez.trans hcl.symm); subst hz; (conv => cbv)) | exact gu | exact trivial | refine And.intro ?_ ?_ | (intro hc; exact absurd hc (by decide)) | (intro hc; exfalso; omega) | (intro hc; (first | rw [wrap_small (by omega) (by omega)] at hc | rw [nI_eq] at hc | skip); try (conv => cbv)) | refine CallG.old ?_
   exact leaf [_]
theorem combine_mem {a b : List Int} (ha : a.Pairwise (· < ·)) {z : Int} : z ∈ combineS a b ↔ if (∃ v, v ∈ a ∧ v ∈ b) then z ∈ a ∧ z ∈ b else z ∈ a ∨ z ∈ b := by
 rw [combineS]
 by_cases h : a.filter (fun v => decide (v ∈ b)) = []
 ·have hno : ¬ ∃ v, v ∈ a ∧ v ∈ b := fun ⟨v, h1, h2⟩ => by
   have : v ∈ a.filter fun v => decide (v ∈ b) := List.mem_filter.2 ⟨h1, by simpa using h2⟩
   rw [h] at this; cases this
  rw [if_pos h, if_neg hno, uniS_mem ha]
 ·have hyes : ∃ v, v ∈ a ∧ v ∈ b := by
   cases hd : a.filter (fun v => decide (v ∈ b)) with
   | nil => exact absurd hd h
   | cons v l =>
    have : v ∈ a.filter fun v => decide (v ∈ b) := by rw [hd]; simp
    obtain ⟨h1, h2⟩ := List.mem_filter.1 this
    exact ⟨v, h1, by simpa using h2⟩
  rw [if_neg h, if_pos hyes, List.mem_filter, decide_eq_true_iff]
theorem combine_ok (P : Program) (hP : P = Try.prog) (a b : List Int) (ha : a.Pairwise (· < ·)) (hb : b.Pairwise (· < ·)) : Ret P n_compress_combine [.c (.d (.mpf (setF a))), .c (.d (.mpf (setF b)))] (.c (.d (.mpf (setF (combineS a b))))) := by
 have hc := combineS_inc (a := a) (b := b) ha
 refine FnS.lend2 (setF_scal a) (setF_scal b) (setF_scal _) (fun xa xb pa pb => ?_) (fun xa pa pb => ?_)
 ·obtain ⟨a', ha', rfl⟩ := perm_setF pa
  obtain ⟨b', hb', rfl⟩ := perm_setF pb
  rw [setF_I, setF_I]
  refine (combine_two P hP a' b' (ha'.nodup_iff.2 (lt_nodup ha)) (hb'.nodup_iff.2 (lt_nodup hb))).mono ?_
  rintro r h' ⟨l, ver, es, rfl, h1, h2, h3, h4, h5, h6⟩
  refine ⟨l, ver, setF es, rfl, h1, by rw [setF_I]; exact h2, setF_perm (mem_perm_of h3 (lt_nodup hc) fun z => ?_), h5, h6⟩
  rw [h4, combine_mem ha]
  simp only [ha'.mem_iff, hb'.mem_iff]
 ·obtain ⟨a', ha', rfl⟩ := perm_setF pa
  have hab : ∀ z, z ∈ a' ↔ z ∈ b := fun z => by
   obtain ⟨b', hb', e⟩ := perm_setF pb
   have e2 : a' = b' := by
    have := congrArg (List.map unI) e
    simp only [setF, List.map_map] at this
    have key : ∀ l : List Int, l.map (unI ∘ fun v => (iD v, D.bool true)) = l := fun l => by
     conv => rhs; rw [← List.map_id l]
     exact List.map_congr_left fun v _ => rfl
    rw [key, key] at this; exact this
   rw [e2]; exact hb'.mem_iff
  rw [setF_I]
  refine (combine_one P hP a' (ha'.nodup_iff.2 (lt_nodup ha))).mono ?_
  rintro r h' ⟨l, ver, es, rfl, h1, h2, h3, h4, h5⟩
  refine ⟨l, ver, setF es, rfl, h1, by rw [setF_I]; exact h2, setF_perm (mem_perm_of h3 (lt_nodup hc) fun z => ?_), h5⟩
  rw [h4, combine_mem ha]
  simp only [← hab, ← ha'.mem_iff]
end Go.Ab

/-
  Compressing, part d: the tree of parts.
-/
namespace Go.Ab
open Go.Proofs
inductive Prt where
 | leaf (p : Pfx) (v : Int)
 | node (p : Pfx) (a b : Prt)
def Prt.pf : Prt → Pfx
 | .leaf p _ => p
 | .node p _ _ => p
def Prt.best : Prt → List Int
 | .leaf _ v => [v]
 | .node _ a b => combineS a.best b.best
def treeCs : Prt → List D
 | .leaf p v => [u32D p.addr, iD p.len, .nilp, .nilp, .mpf (setF [v])]
 | .node p a b => [u32D p.addr, iD p.len, .rp (treeCs a), .rp (treeCs b), .mpf (setF (combineS a.best b.best))]
theorem best_inc : ∀ t : Prt, t.best.Pairwise (· < ·)
 | .leaf _ _ => List.pairwise_singleton _ _
 | .node _ a _ => combineS_inc (best_inc a)
theorem treeCs_eq : ∀ t : Prt, ∃ x y, treeCs t = [u32D t.pf.addr, iD t.pf.len, x, y, .mpf (setF t.best)]
 | .leaf _ _ => ⟨_, _, rfl⟩
 | .node _ _ _ => ⟨_, _, rfl⟩
def ltP (p q : Pfx) : Prop := p.addr < q.addr ∨ p.addr = q.addr ∧ p.len < q.len
def SrtR (l : List Rt) : Prop := l.Pairwise fun r s => ltP r.p s.p
structure PreD (p : Pfx) (l : List Rt) : Prop where
 u : inU p.addr
 v : validP p = true
 all : ∀ r ∈ l, inU r.p.addr ∧ covP p r.p = true
 srt : SrtR l
def dropH (p : Pfx) : List Rt → List Rt
 | [] => []
 | r :: l => if r.p = p then l else r :: l
def headV (p : Pfx) (v : Int) : List Rt → Int
 | [] => v
 | r :: _ => if r.p = p then r.val else v
def cntP (q : Pfx) (l : List Rt) : Nat := (l.takeWhile fun r => covP q r.p).length
def divS : Nat → Pfx → Int → List Rt → Prt
 | 0, p, v, l => .leaf p (headV p v l)
 | k + 1, p, v, l => if dropH p l = [] then .leaf p (headV p v l) else .node p (divS k (loP p) (headV p v l) ((dropH p l).take (cntP (loP p) (dropH p l)))) (divS k (hiP p) (headV p v l) ((dropH p l).drop (cntP (loP p) (dropH p l))))
theorem valid_spec {p : Pfx} : validP p = true ↔ 0 ≤ p.len ∧ p.len ≤ 32 ∧ p.addr % szP p.len = 0 := decide_eq_true_iff
theorem cov_spec {p q : Pfx} : covP p q = true ↔ validP q = true ∧ validP p = true ∧ (p.addr ≤ q.addr ∧ q.addr < p.addr + szP p.len) ∧ p.len ≤ q.len := by
 simp only [covP, contP, Bool.and_eq_true, decide_eq_true_eq, and_assoc]
theorem cov_full {p q : Pfx} (h : covP p q = true) (h32 : p.len = 32) : q = p := by
 obtain ⟨h1, h2, h3, h4⟩ := cov_spec.1 h
 have h5 := valid_spec.1 h1
 have h6 : szP p.len = 1 := by rw [szP, h32]; rfl
 rw [h6] at h3
 exact Pfx.ext' (by omega) (by omega)
theorem lo_valid {p : Pfx} (hv : validP p = true) (h : p.len ≠ 32) : validP (loP p) = true := by
 obtain ⟨h0, h1, h2⟩ := valid_spec.1 hv
 refine valid_spec.2 ⟨by simp only [loP]; omega, by simp only [loP]; omega, ?_⟩
 have := szP_split h0 (by omega)
 simp only [loP]
 rw [this] at h2
 have hs := szP_pos (p.len + 1)
 generalize szP (p.len + 1) = s at *
 have h3 : ((2 * s : Nat) : Int) = 2 * s := by omega
 rw [h3] at h2
 have := Int.emod_emod_of_dvd p.addr (show (s : Int) ∣ 2 * s from ⟨2, by omega⟩)
 rw [h2] at this
 simpa using this.symm
theorem hi_valid {p : Pfx} (hv : validP p = true) (h : p.len ≠ 32) : validP (hiP p) = true := by
 have h1 := valid_spec.1 (lo_valid hv h)
 simp only [loP] at h1
 refine valid_spec.2 ⟨h1.1, h1.2.1, ?_⟩
 simp only [hiP]
 rw [Int.add_emod_right]
 exact h1.2.2
theorem addr_top {p : Pfx} (hu : inU p.addr) (hv : validP p = true) : p.addr + szP p.len ≤ 4294967296 := by
 obtain ⟨h0, h1, h2⟩ := valid_spec.1 hv
 have h3 : (4294967296 : Int) % szP p.len = 0 := by
  have h4 : (4294967296 : Nat) = 2 ^ (32 - p.len.toNat) * 2 ^ p.len.toNat := by rw [← Nat.pow_add, show 32 - p.len.toNat + p.len.toNat = 32 by omega]
  have h5 : (4294967296 : Int) = ((4294967296 : Nat) : Int) := rfl
  rw [h5, h4, szP, Int.natCast_mul, Int.mul_emod_right]
 have hs : (0 : Int) < szP p.len := by have := szP_pos p.len; omega
 have hl := hu.2
 generalize (szP p.len : Int) = s at *
 obtain ⟨a, ha⟩ := Int.dvd_of_emod_eq_zero h2
 obtain ⟨b, hb⟩ := Int.dvd_of_emod_eq_zero h3
 have : a < b := by
  apply Classical.byContradiction
  intro hn
  have := Int.mul_le_mul_of_nonneg_left (show b ≤ a by omega) (show 0 ≤ s by omega)
  omega
 have := Int.mul_le_mul_of_nonneg_left (show a + 1 ≤ b by omega) (show 0 ≤ s by omega)
 rw [Int.mul_add, Int.mul_one] at this
 omega
theorem hi_u {p : Pfx} (hu : inU p.addr) (hv : validP p = true) (h : p.len ≠ 32) : inU (hiP p).addr := by
 have h1 := valid_spec.1 hv
 have h2 := addr_top hu hv
 have h3 := szP_split h1.1 (by omega)
 have h4 := szP_pos (p.len + 1)
 have := hu.1
 simp only [hiP]
 exact ⟨by omega, by omega⟩
theorem cov_half {p q : Pfx} (hu : inU p.addr) (h : covP p q = true) (hne : q ≠ p) : p.len ≠ 32 ∧ (covP (loP p) q = true ↔ q.addr < (hiP p).addr) ∧ (covP (hiP p) q = true ↔ (hiP p).addr ≤ q.addr) := by
 obtain ⟨h1, h2, h3, h4⟩ := cov_spec.1 h
 have h32 : p.len ≠ 32 := fun e => hne (cov_full h e)
 have v1 := valid_spec.1 h2
 have v2 := valid_spec.1 h1
 have hs := szP_split v1.1 (by omega)
 have hlen : p.len + 1 ≤ q.len := by
  apply Classical.byContradiction
  intro hn
  have e : p.len = q.len := by omega
  refine hne (Pfx.ext' ?_ e.symm)
  have h5 : (q.addr - p.addr) % szP p.len = q.addr - p.addr := Int.emod_eq_of_lt (by omega) (by omega)
  rw [Int.sub_emod, e, v2.2.2, ← e, v1.2.2] at h5
  simp at h5
  omega
 have hp := szP_pos (p.len + 1)
 refine ⟨h32, ?_, ?_⟩
 ·rw [cov_spec]
  simp only [loP, hiP]
  exact ⟨fun h => by omega, fun h => ⟨h1, lo_valid h2 h32, by omega, hlen⟩⟩
 ·rw [cov_spec]
  simp only [hiP]
  exact ⟨fun h => by omega, fun h => ⟨h1, hi_valid h2 h32, by omega, hlen⟩⟩
theorem drop_sub {p : Pfx} {l : List Rt} : ∀ r ∈ dropH p l, r ∈ l := by
 cases l with
 | nil => intro r h; exact h
 | cons x l =>
  intro r h
  rw [dropH] at h
  split at h
  ·simp [h]
  ·exact h
theorem drop_srt {p : Pfx} {l : List Rt} (h : SrtR l) : SrtR (dropH p l) := by
 cases l with
 | nil => exact h
 | cons x l =>
  rw [dropH]
  split
  ·exact (List.pairwise_cons.1 h).2
  ·exact h
theorem drop_ne {p : Pfx} {l : List Rt} (h : PreD p l) : ∀ r ∈ dropH p l, r.p ≠ p := by
 cases l with
 | nil => intro r h; cases h
 | cons x l =>
  obtain ⟨s1, s2⟩ := List.pairwise_cons.1 h.srt
  intro r hr
  rw [dropH] at hr
  split at hr
  ·rename_i hx
   intro e
   have := s1 r hr
   rw [hx, e, ltP] at this
   omega
  ·rename_i hx
   rcases List.mem_cons.1 hr with rfl | hr
   ·exact hx
   ·intro e
    have h1 := s1 r hr
    obtain ⟨_, c1⟩ := h.all x (by simp)
    obtain ⟨c2, c3, c4, c5⟩ := cov_spec.1 c1
    rw [e, ltP] at h1
    omega
theorem take_tw {α : Type} (f : α → Bool) : ∀ l : List α, l.take (l.takeWhile f).length = l.takeWhile f ∧ l.drop (l.takeWhile f).length = l.dropWhile f := by
 intro l
 induction l with
 | nil => exact ⟨rfl, rfl⟩
 | cons x l ih =>
  rw [List.takeWhile_cons, List.dropWhile_cons]
  cases f x with
  | false => exact ⟨rfl, rfl⟩
  | true => exact ⟨by simp [ih.1], by simpa using ih.2⟩
theorem tw_all {α : Type} {f : α → Bool} : ∀ {l : List α}, ∀ x ∈ l.takeWhile f, f x = true := by
 intro l
 induction l with
 | nil => intro x h; cases h
 | cons y l ih =>
  intro x h
  rw [List.takeWhile_cons] at h
  cases hy : f y with
  | false => rw [hy] at h; simp at h
  | true =>
   rw [hy] at h
   rcases List.mem_cons.1 h with rfl | h
   ·exact hy
   ·exact ih x h
theorem dw_head {α : Type} {f : α → Bool} : ∀ {l : List α} {y : α} {ys : List α}, l.dropWhile f = y :: ys → f y = false := by
 intro l
 induction l with
 | nil => intro y ys h; cases h
 | cons x l ih =>
  intro y ys h
  rw [List.dropWhile_cons] at h
  cases hx : f x with
  | true => rw [hx] at h; exact ih h
  | false => rw [hx] at h; cases h; exact hx
theorem take_while_le {q : Pfx} : ∀ {l : List Rt}, cntP q l ≤ l.length := by
 intro l
 rw [cntP]
 exact (List.takeWhile_sublist _).length_le
theorem pre_lo {p : Pfx} {l : List Rt} (h : PreD p l) (h32 : p.len ≠ 32) : PreD (loP p) ((dropH p l).take (cntP (loP p) (dropH p l))) where
 u := h.u
 v := lo_valid h.v h32
 all := fun r hr => by
  refine ⟨(h.all r (drop_sub r (List.mem_of_mem_take hr))).1, ?_⟩
  rw [cntP, (take_tw _ _).1] at hr
  exact tw_all r hr
 srt := (drop_srt h.srt).sublist (List.take_sublist _ _)
theorem pre_hi {p : Pfx} {l : List Rt} (h : PreD p l) (h32 : p.len ≠ 32) : PreD (hiP p) ((dropH p l).drop (cntP (loP p) (dropH p l))) where
 u := hi_u h.u h.v h32
 v := hi_valid h.v h32
 all := fun r hr => by
  have hm := List.mem_of_mem_drop hr
  have hm2 := drop_sub r hm
  refine ⟨(h.all r hm2).1, ?_⟩
  have hc := fun s (hs : s ∈ dropH p l) => cov_half h.u (h.all s (drop_sub s hs)).2 (drop_ne h s hs)
  rw [(hc r hm).2.2]
  have hs := drop_srt (p := p) h.srt
  generalize dropH p l = m at *
  -- the first one behind the cut is not covered by the first half
  rw [cntP, (take_tw _ _).2] at hr
  cases hd : m.dropWhile (fun r => covP (loP p) r.p) with
  | nil => rw [hd] at hr; cases hr
  | cons y ys =>
   have hy : ¬ covP (loP p) y.p = true := by rw [dw_head hd]; decide
   have hym : y ∈ m := (List.dropWhile_sublist _).subset (by rw [hd]; simp)
   have h1 := (hc y hym).2.1
   have h2 : (hiP p).addr ≤ y.p.addr := by
    apply Classical.byContradiction
    intro hn
    exact hy (h1.2 (by omega))
   rw [hd] at hr
   rcases List.mem_cons.1 hr with rfl | hr
   ·exact h2
   ·have hsd : SrtR (y :: ys) := by rw [← hd]; exact hs.sublist (List.dropWhile_sublist _)
    have := (List.pairwise_cons.1 hsd).1 r hr
    rw [ltP] at this
    omega
 srt := (drop_srt h.srt).sublist (List.drop_sublist _ _)
end Go.Ab

/-
  Compressing, part e: compress.divide (written by r06/div.py).
-/
namespace Go.Ab
open Go.Proofs
theorem cnt_lt {q : Pfx} : ∀ {l : List Rt} {j : Nat} {r : Rt}, j < cntP q l → l[j]? = some r → covP q r.p = true := by
 intro l j r hj hr
 have h1 : (l.takeWhile fun r => covP q r.p)[j]? = some r := by
  rw [← (take_tw (fun r : Rt => covP q r.p) l).1, List.getElem?_take_of_lt (show j < (l.takeWhile fun r => covP q r.p).length from hj)]; exact hr
 exact tw_all r (List.mem_of_getElem? h1)
theorem cnt_at {q : Pfx} {l : List Rt} {r : Rt} (hr : l[cntP q l]? = some r) : covP q r.p = false := by
 have h1 := (take_tw (fun r : Rt => covP q r.p) l).2
 cases hd : l.dropWhile (fun r => covP q r.p) with
 | nil =>
  rw [hd] at h1
  have : (l.drop (cntP q l))[0]? = some r := by rw [List.getElem?_drop, Nat.add_zero]; exact hr
  rw [cntP, h1] at this; cases this
 | cons y ys =>
  have h2 := dw_head hd
  have : (l.drop (cntP q l))[0]? = some r := by rw [List.getElem?_drop, Nat.add_zero]; exact hr
  rw [cntP, h1, hd] at this
  cases this
  exact h2
set_option maxHeartbeats 2000000 in
theorem divide_ok (P : Program) (hP : P = Try.prog) : ∀ (k : Nat) (p : Pfx) (v : Int) (l : List Rt), PreD p l → p.len = 32 - k → l.length ≤ 1000000 → Ret P n_compress_divide [pfA p, iA v, rtsA l] (.c (.rp (treeCs (divS k p v l)))) := by
 have base : ∀ (k : Nat) (p : Pfx) (v : Int) (l : List Rt), dropH p l = [] → Ret P n_compress_divide [pfA p, iA v, rtsA l] (.c (.rp (treeCs (divS k p v l)))) := by
  intro k p v l hdr
  have hdv : divS k p v l = .leaf p (headV p v l) := by
   cases k with
   | zero => rfl
   | succ k => rw [divS, if_pos hdr]
  rw [hdv, treeCs]
  obtain ⟨addr, len⟩ := p
  cases l with
  | nil =>
   refine ret_start (hP ▸ mixed) (hP ▸ fn_compress_divide) (hP ▸ c_compress_divide) (Nat.le_of_ble_eq_true rfl) fun Λ Λo K hK => ?_
   clear hP
   rw [headV] at hK
   simp only [rtsA, rtsD, List.map_nil, setF, List.map_cons] at hK ⊢
   have hl0 : Λ ([] : List (List D)) = 0 := by rw [Λo]; rfl
   conv => cbv
   repeat' first | (refine vup_setI (l := []) rfl (fun _ es' he => ?_) (fun h => absurd h (by simp)); subst he; (conv => cbv)) | (refine ⟨[(iD v, D.bool true)], rfl, ?_⟩; (conv => cbv)) | exact gu | exact trivial | refine And.intro ?_ ?_ | (intro hc; exact absurd hc (by decide)) | (intro hc; exfalso; omega) | (intro hc; (first | rw [wrap_small (by omega) (by omega)] at hc | rw [nI_eq] at hc | skip); try (conv => cbv)) | refine CallG.old ?_
   all_goals exact hK
  | cons r l =>
   obtain ⟨⟨ra, rl⟩, rv⟩ := r
   have hr : (⟨ra, rl⟩ : Pfx) = ⟨addr, len⟩ ∧ l = [] := by
    rw [dropH] at hdr
    split at hdr
    ·exact ⟨by assumption, hdr⟩
    ·cases hdr
   obtain ⟨hr, rfl⟩ := hr
   cases hr
   refine ret_start (hP ▸ mixed) (hP ▸ fn_compress_divide) (hP ▸ c_compress_divide) (Nat.le_of_ble_eq_true rfl) fun Λ Λo K hK => ?_
   clear hP
   rw [headV, if_pos rfl] at hK
   simp only [rtsA, rtsD, List.map_nil, setF, List.map_cons, encRt] at hK ⊢
   obtain ⟨ll, hll⟩ : ∃ ll, ll = [[u32D addr, iD len, iD rv]] := ⟨_, rfl⟩
   have hln : Λ ll = 1 := by rw [Λo, hll]; rfl
   have hle : ll[(0 : Int).toNat]? = some [u32D addr, iD len, iD rv] := by rw [hll]; rfl
   obtain ⟨ml, hml0⟩ : ∃ ml, ml = ([] : List (List D)) := ⟨_, rfl⟩
   have hml : ml = List.drop (1 : Int).toNat ll := by rw [hml0, hll]; rfl
   have hl0 : Λ ml = 0 := by rw [Λo, hml0]; rfl
   rw [← hll]
   conv => cbv
   repeat' first | (intro (e : List D) he; cases Option.some.inj (he.symm.trans hle); (conv => cbv)) | (intro (z : List (List D)) hz; refine (fun (hq : ml = z) => ?_) (hml.trans hz.symm); subst hq; (conv => cbv)) | (refine vup_setI (l := []) rfl (fun _ es' he => ?_) (fun h => absurd h (by simp)); subst he; (conv => cbv)) | (refine ⟨[(iD rv, D.bool true)], rfl, ?_⟩; (conv => cbv)) | exact gu | exact trivial | refine And.intro ?_ ?_ | (intro hc; exact absurd hc (by decide)) | (intro hc; exfalso; omega) | (intro hc; (first | rw [wrap_small (by omega) (by omega)] at hc | rw [nI_eq] at hc | skip); try (conv => cbv)) | refine CallG.old ?_
   all_goals exact hK
 intro k
 induction k with
 | zero =>
  intro p v l h hl _
  refine base 0 p v l ?_
  cases hd : dropH p l with
  | nil => rfl
  | cons r m =>
   exfalso
   have hm : r ∈ dropH p l := by rw [hd]; simp
   exact (cov_half h.u (h.all r (drop_sub r hm)).2 (drop_ne h r hm)).1 (by omega)
 | succ k ih =>
  intro p v l h hl hlen
  by_cases hm0 : dropH p l = []
  ·exact base _ p v l hm0
  have h32 : p.len ≠ 32 := by
   cases hd : dropH p l with
   | nil => exact absurd hd hm0
   | cons r m =>
    have hm : r ∈ dropH p l := by rw [hd]; simp
    exact (cov_half h.u (h.all r (drop_sub r hm)).2 (drop_ne h r hm)).1
  obtain ⟨addr, len⟩ := p
  have hl : len = 32 - ((k + 1 : Nat) : Int) := hl
  cases l with
  | nil => exact absurd rfl hm0
  | cons r l =>
   by_cases hr : r.p = ⟨addr, len⟩
   ·obtain ⟨m, hmd⟩ : ∃ m, m = l := ⟨_, rfl⟩
    have hdr : dropH ⟨addr, len⟩ (r :: l) = m := by rw [dropH, if_pos hr, hmd]
    have hm : m ≠ [] := by rw [hdr] at hm0; exact hm0
    have hhv : headV ⟨addr, len⟩ v (r :: l) = r.val := by rw [headV, if_pos hr]
    obtain ⟨⟨ra, rl⟩, rv⟩ := r
    simp only at hr hhv
    cases hr
    have hpre2 := pre_lo h h32
    have hpre3 := pre_hi h h32
    rw [hdr] at hpre2 hpre3
    have hcn : cntP (loP ⟨addr, len⟩) m ≤ m.length := take_while_le
    have hc1 := fun (j : Nat) (r : Rt) (hr : m[j]? = some r) (hj : j < cntP (loP ⟨addr, len⟩) m) => cnt_lt hj hr
    have hc2 := fun (j : Nat) (r : Rt) (hr : m[j]? = some r) (hj : j = cntP (loP ⟨addr, len⟩) m) => cnt_at (q := loP ⟨addr, len⟩) (l := m) (r := r) (by rw [← hj]; exact hr)
    have hll : m.length ≤ 1000000 := by rw [hmd]; simp only [List.length_cons] at hlen; omega
    have ih0 := ih (loP ⟨addr, len⟩) rv _ hpre2 (by simp only [loP]; omega) (by rw [List.length_take]; omega)
    have ih1 := ih (hiP ⟨addr, len⟩) rv _ hpre3 (by simp only [hiP]; omega) (by rw [List.length_drop]; omega)
    have hco := combine_ok P hP (divS k (loP ⟨addr, len⟩) rv (m.take (cntP (loP ⟨addr, len⟩) m))).best (divS k (hiP ⟨addr, len⟩) rv (m.drop (cntP (loP ⟨addr, len⟩) m))).best (best_inc _) (best_inc _)
    have hcov := fun (r : Rt) (hr : r ∈ m) => pcov_ok P hP (loP ⟨addr, len⟩) r.p h.u (h.all r (drop_sub r (by rw [hdr]; exact hr))).1
    have hsp := psplit_ok P hP ⟨addr, len⟩ h.u h.v h32
    refine ret_start (hP ▸ mixed) (hP ▸ fn_compress_divide) (hP ▸ c_compress_divide) (Nat.le_of_ble_eq_true rfl) fun Λ Λo K hK => ?_
    clear hP ih h
    have hdv : divS (k + 1) ⟨addr, len⟩ v (⟨⟨addr, len⟩, rv⟩ :: l) = .node ⟨addr, len⟩ (divS k (loP ⟨addr, len⟩) rv (m.take (cntP (loP ⟨addr, len⟩) m))) (divS k (hiP ⟨addr, len⟩) rv (m.drop (cntP (loP ⟨addr, len⟩) m))) := by
     rw [divS, hdr, if_neg hm, hhv]
    rw [hdv, treeCs] at hK
    obtain ⟨x0, y0, e0⟩ := treeCs_eq (divS k (loP ⟨addr, len⟩) rv (m.take (cntP (loP ⟨addr, len⟩) m)))
    obtain ⟨x1, y1, e1⟩ := treeCs_eq (divS k (hiP ⟨addr, len⟩) rv (m.drop (cntP (loP ⟨addr, len⟩) m)))
    rw [e0] at ih0 hK
    rw [e1] at ih1 hK
    clear hdv e0 e1
    generalize (divS k (loP ⟨addr, len⟩) rv (m.take (cntP (loP ⟨addr, len⟩) m))).pf.addr = a0 at *
    generalize (divS k (loP ⟨addr, len⟩) rv (m.take (cntP (loP ⟨addr, len⟩) m))).pf.len = l0 at *
    generalize (divS k (hiP ⟨addr, len⟩) rv (m.drop (cntP (loP ⟨addr, len⟩) m))).pf.addr = a1 at *
    generalize (divS k (hiP ⟨addr, len⟩) rv (m.drop (cntP (loP ⟨addr, len⟩) m))).pf.len = l1 at *
    generalize setF (combineS _ _) = sc at *
    generalize setF (divS k (loP ⟨addr, len⟩) rv (m.take (cntP (loP ⟨addr, len⟩) m))).best = sa at *
    generalize setF (divS k (hiP ⟨addr, len⟩) rv (m.drop (cntP (loP ⟨addr, len⟩) m))).best = sb at *
    generalize cntP (loP ⟨addr, len⟩) m = cn at *
    simp only [loP, hiP, rtsA, rtsD, List.map_take, List.map_drop] at *
    generalize len + 1 = len1 at *
    generalize addr + (szP len1 : Int) = addr2 at *
    generalize mlh : m.map encRt = ml at *
    obtain ⟨tk, htk⟩ : ∃ tk, tk = ml.take cn := ⟨_, rfl⟩
    obtain ⟨dk, hdk⟩ : ∃ dk, dk = ml.drop cn := ⟨_, rfl⟩
    rw [← htk] at ih0
    rw [← hdk] at ih1
    have hmln : Λ ml = m.length := by rw [Λo, ← mlh]; simp
    have mln : 0 < Λ ml := by rw [Λo, ← mlh, List.length_map]; have := List.length_pos_iff.2 hm; omega
    simp only [List.map_cons, encRt]
    obtain ⟨ll, hll⟩ : ∃ ll, ll = [u32D addr, iD len, iD rv] :: l.map encRt := ⟨_, rfl⟩
    have hln : 0 < Λ ll := by rw [Λo, hll]; simp
    have hln2 : Λ ll = 1 + Λ ml := by rw [Λo, Λo, hll, ← mlh, hmd]; simp; omega
    have hle : ll[(0 : Int).toNat]? = some [u32D addr, iD len, iD rv] := by rw [hll]; rfl
    have hml : ml = List.drop (1 : Int).toNat ll := by rw [hll, ← mlh, hmd]; rfl
    rw [← hll]
    clear hll hlen hl hm0 hdr
    conv => cbv
    repeat' first | (intro (e : List D) he; cases Option.some.inj (he.symm.trans hle); (conv => cbv)) | (intro (z : List (List D)) hz; refine (fun (hq : ml = z) => ?_) (hml.trans hz.symm); subst hq; (conv => cbv)) | (refine call_r hsp rfl rfl ?_; conv => cbv) | exact gu | exact trivial | refine And.intro ?_ ?_ | (intro hc; exact absurd hc (by decide)) | (intro hc; exfalso; omega) | (intro hc; (first | rw [wrap_small (by omega) (by omega)] at hc | rw [nI_eq] at hc | skip); try (conv => cbv)) | refine CallG.old ?_
    refine loop_upx cn (fun i : Int => [(1, iA rv), (2, .c (.d (.list false 3 ml))), (3, .c (.ptr 0 0 0 0)), (7, .c (.ptr 1 0 0 0)), (8, .c (.ptr 2 0 0 0)), (9, .c (.ptr 3 0 0 0)), (11, iA i)])
     (fun _ => [.bx [.d (u32D addr), .d (iD len)], .bx [.d (u32D addr), .d (iD len), .d .nilp, .d .nilp, .d .nilm], .bx [.d (u32D addr), .d (iD len1)], .bx [.d (u32D addr2), .d (iD len1)]])
     (fun j i => i = j ∧ j ≤ cn) 0 0
     (fun i : Int => [(1, iA rv), (2, .c (.d (.list false 3 ml))), (3, .c (.ptr 0 0 0 0)), (7, .c (.ptr 1 0 0 0)), (8, .c (.ptr 2 0 0 0)), (9, .c (.ptr 3 0 0 0)), (11, iA i)])
     (fun _ => [.bx [.d (u32D addr), .d (iD len)], .bx [.d (u32D addr), .d (iD len), .d .nilp, .d .nilp, .d .nilm], .bx [.d (u32D addr), .d (iD len1)], .bx [.d (u32D addr2), .d (iD len1)]])
     (fun i => i = cn) (Wk.ca) ⟨rfl, by omega⟩ (fun j s h => h.2) ?_ ?_
    ·rintro j i Q' ⟨hi, hj⟩ norm jn ex rt
     clear hK ih0 ih1 hco hsp
     by_cases hjl : j < m.length
     ·obtain ⟨⟨⟨qa, ql⟩, qv⟩, hr⟩ : ∃ r, m[j]? = some r := ⟨_, List.getElem?_eq_getElem hjl⟩
      have hra := elt_at mlh hi hr
      simp only [encRt] at hra
      have hcv := hcov ⟨⟨qa, ql⟩, qv⟩ (List.mem_of_getElem? hr)
      have h1 := hc1 j ⟨⟨qa, ql⟩, qv⟩ hr
      have h2 := hc2 j ⟨⟨qa, ql⟩, qv⟩ hr
      simp only at hcv h1 h2
      generalize covP _ _ = F at *
      cases F with
      | true =>
       have hjc : j < cn := by
        apply Classical.byContradiction
        intro hn
        have := h2 (by omega)
        cases this
       conv => cbv
       repeat' first | (intro (e : List D) he; cases Option.some.inj (he.symm.trans hra); (conv => cbv)) | refine call_b hcv rfl rfl ?_ ?_ | exact gu | exact trivial | refine And.intro ?_ ?_ | (intro hc; exact absurd hc (by decide)) | (intro hc; exfalso; omega) | (intro hc; (first | rw [wrap_small (by omega) (by omega)] at hc | rw [nI_eq] at hc | skip); try (conv => cbv)) | refine CallG.old ?_
       rename_i i2
       refine norm _ _ i2 ?_ (Wk.ca)
       exact ⟨by omega, by omega⟩
      | false =>
       have hjc : j = cn := by
        apply Classical.byContradiction
        intro hn
        have := h1 (by omega)
        cases this
       conv => cbv
       repeat' first | (intro (e : List D) he; cases Option.some.inj (he.symm.trans hra); (conv => cbv)) | refine call_b hcv rfl rfl ?_ ?_ | exact gu | exact trivial | refine And.intro ?_ ?_ | (intro hc; exact absurd hc (by decide)) | (intro hc; exfalso; omega) | (intro hc; (first | rw [wrap_small (by omega) (by omega)] at hc | rw [nI_eq] at hc | skip); try (conv => cbv)) | refine CallG.old ?_
       exact jn _ _ i (by omega) (Wk.ca)
     ·have hjc : j = cn := by omega
      conv => cbv
      repeat' first | exact gu | exact trivial | refine And.intro ?_ ?_ | (intro hc; exact absurd hc (by decide)) | (intro hc; exfalso; omega) | (intro hc; (first | rw [wrap_small (by omega) (by omega)] at hc | rw [nI_eq] at hc | skip); try (conv => cbv)) | refine CallG.old ?_
      exact jn _ _ i (by omega) (Wk.ca)
    ·intro i hi
     have hit : i.toNat = cn := by omega
     have htk2 : tk = List.take i.toNat ml := by rw [htk, hit]
     have hdk2 : dk = List.drop i.toNat ml := by rw [hdk, hit]
     clear hcov hc1 hc2 hsp
     conv => cbv
     repeat' first | (intro (z : List (List D)) hz; first | (refine (fun (hq : tk = z) => ?_) (htk2.trans hz.symm); subst hq; (conv => cbv)) | (refine (fun (hq : dk = z) => ?_) (hdk2.trans hz.symm); subst hq; (conv => cbv))) | (refine call_r ih0 rfl rfl ?_; conv => cbv) | (refine call_r ih1 rfl rfl ?_; conv => cbv) | (refine call_r hco rfl rfl ?_; conv => cbv) | exact gu | exact trivial | refine And.intro ?_ ?_ | (intro hc; exact absurd hc (by decide)) | (intro hc; exfalso; omega) | (intro hc; (first | rw [wrap_small (by omega) (by omega)] at hc | rw [nI_eq] at hc | skip); try (conv => cbv)) | refine CallG.old ?_
     all_goals exact hK
   ·obtain ⟨m, hmd⟩ : ∃ m, m = r :: l := ⟨_, rfl⟩
    have hdr : dropH ⟨addr, len⟩ (r :: l) = m := by rw [dropH, if_neg hr, hmd]
    have hm : m ≠ [] := by rw [hdr] at hm0; exact hm0
    have hhv : headV ⟨addr, len⟩ v (r :: l) = v := by rw [headV, if_neg hr]
    have hpre2 := pre_lo h h32
    have hpre3 := pre_hi h h32
    rw [hdr] at hpre2 hpre3
    have hcn : cntP (loP ⟨addr, len⟩) m ≤ m.length := take_while_le
    have hc1 := fun (j : Nat) (r : Rt) (hr : m[j]? = some r) (hj : j < cntP (loP ⟨addr, len⟩) m) => cnt_lt hj hr
    have hc2 := fun (j : Nat) (r : Rt) (hr : m[j]? = some r) (hj : j = cntP (loP ⟨addr, len⟩) m) => cnt_at (q := loP ⟨addr, len⟩) (l := m) (r := r) (by rw [← hj]; exact hr)
    have hll : m.length ≤ 1000000 := by rw [hmd]; exact hlen
    have ih0 := ih (loP ⟨addr, len⟩) v _ hpre2 (by simp only [loP]; omega) (by rw [List.length_take]; omega)
    have ih1 := ih (hiP ⟨addr, len⟩) v _ hpre3 (by simp only [hiP]; omega) (by rw [List.length_drop]; omega)
    have hco := combine_ok P hP (divS k (loP ⟨addr, len⟩) v (m.take (cntP (loP ⟨addr, len⟩) m))).best (divS k (hiP ⟨addr, len⟩) v (m.drop (cntP (loP ⟨addr, len⟩) m))).best (best_inc _) (best_inc _)
    have hcov := fun (r : Rt) (hr : r ∈ m) => pcov_ok P hP (loP ⟨addr, len⟩) r.p h.u (h.all r (drop_sub r (by rw [hdr]; exact hr))).1
    have hsp := psplit_ok P hP ⟨addr, len⟩ h.u h.v h32
    refine ret_start (hP ▸ mixed) (hP ▸ fn_compress_divide) (hP ▸ c_compress_divide) (Nat.le_of_ble_eq_true rfl) fun Λ Λo K hK => ?_
    clear hP ih h
    have hdv : divS (k + 1) ⟨addr, len⟩ v (r :: l) = .node ⟨addr, len⟩ (divS k (loP ⟨addr, len⟩) v (m.take (cntP (loP ⟨addr, len⟩) m))) (divS k (hiP ⟨addr, len⟩) v (m.drop (cntP (loP ⟨addr, len⟩) m))) := by
     rw [divS, hdr, if_neg hm, hhv]
    rw [hdv, treeCs] at hK
    obtain ⟨x0, y0, e0⟩ := treeCs_eq (divS k (loP ⟨addr, len⟩) v (m.take (cntP (loP ⟨addr, len⟩) m)))
    obtain ⟨x1, y1, e1⟩ := treeCs_eq (divS k (hiP ⟨addr, len⟩) v (m.drop (cntP (loP ⟨addr, len⟩) m)))
    rw [e0] at ih0 hK
    rw [e1] at ih1 hK
    clear hdv e0 e1
    generalize (divS k (loP ⟨addr, len⟩) v (m.take (cntP (loP ⟨addr, len⟩) m))).pf.addr = a0 at *
    generalize (divS k (loP ⟨addr, len⟩) v (m.take (cntP (loP ⟨addr, len⟩) m))).pf.len = l0 at *
    generalize (divS k (hiP ⟨addr, len⟩) v (m.drop (cntP (loP ⟨addr, len⟩) m))).pf.addr = a1 at *
    generalize (divS k (hiP ⟨addr, len⟩) v (m.drop (cntP (loP ⟨addr, len⟩) m))).pf.len = l1 at *
    generalize setF (combineS _ _) = sc at *
    generalize setF (divS k (loP ⟨addr, len⟩) v (m.take (cntP (loP ⟨addr, len⟩) m))).best = sa at *
    generalize setF (divS k (hiP ⟨addr, len⟩) v (m.drop (cntP (loP ⟨addr, len⟩) m))).best = sb at *
    generalize cntP (loP ⟨addr, len⟩) m = cn at *
    simp only [loP, hiP, rtsA, rtsD, List.map_take, List.map_drop] at *
    generalize len + 1 = len1 at *
    generalize addr + (szP len1 : Int) = addr2 at *
    generalize mlh : m.map encRt = ml at *
    obtain ⟨tk, htk⟩ : ∃ tk, tk = ml.take cn := ⟨_, rfl⟩
    obtain ⟨dk, hdk⟩ : ∃ dk, dk = ml.drop cn := ⟨_, rfl⟩
    rw [← htk] at ih0
    rw [← hdk] at ih1
    have hmln : Λ ml = m.length := by rw [Λo, ← mlh]; simp
    have mln : 0 < Λ ml := by rw [Λo, ← mlh, List.length_map]; have := List.length_pos_iff.2 hm; omega
    have hmap : (r :: l).map encRt = ml := by rw [← mlh, hmd]
    have hle : ml[(0 : Int).toNat]? = some (encRt r) := by rw [← hmap]; rfl
    obtain ⟨⟨ra, rl⟩, rv⟩ := r
    have hrn : ¬ (ra = addr ∧ rl = len) := fun e => hr (Pfx.ext' e.1 e.2)
    simp only [encRt] at hle
    rw [hmap]
    clear hlen hl hm0 hdr hr hmap hhv
    conv => cbv
    repeat' first | (intro (e : List D) he; cases Option.some.inj (he.symm.trans hle); (conv => cbv)) | (refine call_r hsp rfl rfl ?_; conv => cbv) | exact gu | exact trivial | refine And.intro ?_ ?_ | (intro hc; exact absurd hc (by decide)) | (intro hc; exfalso; omega) | (intro hc; (first | rw [wrap_small (by omega) (by omega)] at hc | rw [nI_eq] at hc | skip); try (conv => cbv)) | refine CallG.old ?_
    refine loop_upx cn (fun i : Int => [(1, iA v), (2, .c (.d (.list false 3 ml))), (3, .c (.ptr 0 0 0 0)), (7, .c (.ptr 1 0 0 0)), (8, .c (.ptr 2 0 0 0)), (9, .c (.ptr 3 0 0 0)), (11, iA i)])
     (fun _ => [.bx [.d (u32D addr), .d (iD len)], .bx [.d (u32D addr), .d (iD len), .d .nilp, .d .nilp, .d .nilm], .bx [.d (u32D addr), .d (iD len1)], .bx [.d (u32D addr2), .d (iD len1)]])
     (fun j i => i = j ∧ j ≤ cn) 0 0
     (fun i : Int => [(1, iA v), (2, .c (.d (.list false 3 ml))), (3, .c (.ptr 0 0 0 0)), (7, .c (.ptr 1 0 0 0)), (8, .c (.ptr 2 0 0 0)), (9, .c (.ptr 3 0 0 0)), (11, iA i)])
     (fun _ => [.bx [.d (u32D addr), .d (iD len)], .bx [.d (u32D addr), .d (iD len), .d .nilp, .d .nilp, .d .nilm], .bx [.d (u32D addr), .d (iD len1)], .bx [.d (u32D addr2), .d (iD len1)]])
     (fun i => i = cn) (Wk.ca) ⟨rfl, by omega⟩ (fun j s h => h.2) ?_ ?_
    ·rintro j i Q' ⟨hi, hj⟩ norm jn ex rt
     clear hK ih0 ih1 hco hsp
     by_cases hjl : j < m.length
     ·obtain ⟨⟨⟨qa, ql⟩, qv⟩, hr⟩ : ∃ r, m[j]? = some r := ⟨_, List.getElem?_eq_getElem hjl⟩
      have hra := elt_at mlh hi hr
      simp only [encRt] at hra
      have hcv := hcov ⟨⟨qa, ql⟩, qv⟩ (List.mem_of_getElem? hr)
      have h1 := hc1 j ⟨⟨qa, ql⟩, qv⟩ hr
      have h2 := hc2 j ⟨⟨qa, ql⟩, qv⟩ hr
      simp only at hcv h1 h2
      generalize covP _ _ = F at *
      cases F with
      | true =>
       have hjc : j < cn := by
        apply Classical.byContradiction
        intro hn
        have := h2 (by omega)
        cases this
       conv => cbv
       repeat' first | (intro (e : List D) he; cases Option.some.inj (he.symm.trans hra); (conv => cbv)) | refine call_b hcv rfl rfl ?_ ?_ | exact gu | exact trivial | refine And.intro ?_ ?_ | (intro hc; exact absurd hc (by decide)) | (intro hc; exfalso; omega) | (intro hc; (first | rw [wrap_small (by omega) (by omega)] at hc | rw [nI_eq] at hc | skip); try (conv => cbv)) | refine CallG.old ?_
       rename_i i2
       refine norm _ _ i2 ?_ (Wk.ca)
       exact ⟨by omega, by omega⟩
      | false =>
       have hjc : j = cn := by
        apply Classical.byContradiction
        intro hn
        have := h1 (by omega)
        cases this
       conv => cbv
       repeat' first | (intro (e : List D) he; cases Option.some.inj (he.symm.trans hra); (conv => cbv)) | refine call_b hcv rfl rfl ?_ ?_ | exact gu | exact trivial | refine And.intro ?_ ?_ | (intro hc; exact absurd hc (by decide)) | (intro hc; exfalso; omega) | (intro hc; (first | rw [wrap_small (by omega) (by omega)] at hc | rw [nI_eq] at hc | skip); try (conv => cbv)) | refine CallG.old ?_
       exact jn _ _ i (by omega) (Wk.ca)
     ·have hjc : j = cn := by omega
      conv => cbv
      repeat' first | exact gu | exact trivial | refine And.intro ?_ ?_ | (intro hc; exact absurd hc (by decide)) | (intro hc; exfalso; omega) | (intro hc; (first | rw [wrap_small (by omega) (by omega)] at hc | rw [nI_eq] at hc | skip); try (conv => cbv)) | refine CallG.old ?_
      exact jn _ _ i (by omega) (Wk.ca)
    ·intro i hi
     have hit : i.toNat = cn := by omega
     have htk2 : tk = List.take i.toNat ml := by rw [htk, hit]
     have hdk2 : dk = List.drop i.toNat ml := by rw [hdk, hit]
     clear hcov hc1 hc2 hsp
     conv => cbv
     repeat' first | (intro (z : List (List D)) hz; first | (refine (fun (hq : tk = z) => ?_) (htk2.trans hz.symm); subst hq; (conv => cbv)) | (refine (fun (hq : dk = z) => ?_) (hdk2.trans hz.symm); subst hq; (conv => cbv))) | (refine call_r ih0 rfl rfl ?_; conv => cbv) | (refine call_r ih1 rfl rfl ?_; conv => cbv) | (refine call_r hco rfl rfl ?_; conv => cbv) | exact gu | exact trivial | refine And.intro ?_ ?_ | (intro hc; exact absurd hc (by decide)) | (intro hc; exfalso; omega) | (intro hc; (first | rw [wrap_small (by omega) (by omega)] at hc | rw [nI_eq] at hc | skip); try (conv => cbv)) | refine CallG.old ?_
     all_goals exact hK
end Go.Ab

