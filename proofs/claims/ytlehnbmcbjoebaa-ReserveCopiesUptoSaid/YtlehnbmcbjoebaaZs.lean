/-
  Merged texts, part s.
-/
import Derived.Test.YtlehnbmcbjoebaaZr
import Derived.Shelf.SlGeneric
import Derived.Shelf.SlSortCmp.WholeK
import Derived.Shelf.SlSortCmp.NoneTotal
import Derived.Ground.SlsfProg
import Derived.Test.YtlehnbmcbjoebaaProg
/-
  The contract of slices.SortFunc at this program (written by the kit's lay-plain tool).
-/
namespace Go.Proofs
open Go.Shelf
def Try.sortF_ren : Go.Shelf.Ren := ⟨fun | 6 => 51 | 15 => 69 | 14 => 68 | 28 => 81 | 29 => 82 | 20 => 73 | 21 => 74 | 22 => 75 | 23 => 76 | 24 => 77 | 25 => 78 | 26 => 79 | 27 => 80 | 46 => 92 | 47 => 93 | 48 => 94 | 49 => 95 | 50 => 96 | 57 => 100 | n => n, fun | 22 => 75 | 24 => 44 | 25 => 93 | 3 => 3 | 39 => 103 | 0 => 0 | 53 => 115 | 55 => 117 | 4 => 4 | 46 => 108 | 45 => 107 | 50 => 112 | 5 => 5 | 9 => 9 | 66 => 124 | 70 => 128 | 76 => 132 | 77 => 133 | n => n, fun | n => n⟩
theorem Try.sortF : Go.Proofs.SlLaysF0.n6 Try.prog Try.sortF_ren := {
  mixed := by kernel_rfl
  f6 := ⟨Try.f51.name, by decide, Try.func51.trans (congrArg some (by kernel_rfl))⟩
  f14 := ⟨Try.f68.name, by decide, Try.func68.trans (congrArg some (by kernel_rfl))⟩
  f15 := Try.func69.trans (congrArg some (by kernel_rfl))
  f20 := ⟨Try.f73.name, by decide, Try.func73.trans (congrArg some (by kernel_rfl))⟩
  f21 := ⟨Try.f74.name, by decide, Try.func74.trans (congrArg some (by kernel_rfl))⟩
  f22 := ⟨Try.f75.name, by decide, Try.func75.trans (congrArg some (by kernel_rfl))⟩
  f23 := ⟨Try.f76.name, by decide, Try.func76.trans (congrArg some (by kernel_rfl))⟩
  f24 := ⟨Try.f77.name, by decide, Try.func77.trans (congrArg some (by kernel_rfl))⟩
  f25 := ⟨Try.f78.name, by decide, Try.func78.trans (congrArg some (by kernel_rfl))⟩
  f26 := ⟨Try.f79.name, by decide, Try.func79.trans (congrArg some (by kernel_rfl))⟩
  f27 := ⟨Try.f80.name, by decide, Try.func80.trans (congrArg some (by kernel_rfl))⟩
  f28 := Try.func81.trans (congrArg some (by kernel_rfl))
  f29 := Try.func82.trans (congrArg some (by kernel_rfl))
  f46 := ⟨Try.f92.name, by decide, Try.func92.trans (congrArg some (by kernel_rfl))⟩
  f47 := Try.func93.trans (congrArg some (by kernel_rfl))
  f48 := Try.func94.trans (congrArg some (by kernel_rfl))
  f49 := ⟨Try.f95.name, by decide, Try.func95.trans (congrArg some (by kernel_rfl))⟩
  f50 := ⟨Try.f96.name, by decide, Try.func96.trans (congrArg some (by kernel_rfl))⟩
  f57 := ⟨Try.f100.name, by decide, Try.func100.trans (congrArg some (by kernel_rfl))⟩
  t0 := Try.underlying0
  a0 := Try.isAgg0
  z0 := Try.sizeOf0
  v0 := Try.zeroValue0
  t3 := Try.underlying3
  a3 := Try.isAgg3
  z3 := Try.sizeOf3
  v3 := Try.zeroValue3
  t4 := Try.underlying4
  a4 := Try.isAgg4
  z4 := Try.sizeOf4
  v4 := Try.zeroValue4
  t5 := Try.underlying5
  a5 := Try.isAgg5
  z5 := Try.sizeOf5
  v5 := Try.zeroValue5
  t9 := Try.underlying9
  a9 := Try.isAgg9
  z9 := Try.sizeOf9
  v9 := Try.zeroValue9
  t22 := Try.underlying75
  a22 := Try.isAgg75
  z22 := Try.sizeOf75
  v22 := Try.zeroValue75
  t25 := Try.underlying93
  a25 := Try.isAgg93
  z25 := Try.sizeOf93
  v25 := Try.zeroValue93
  t39 := Try.underlying103
  a39 := Try.isAgg103
  z39 := Try.sizeOf103
  v39 := Try.zeroValue103
  t45 := Try.underlying107
  a45 := Try.isAgg107
  z45 := Try.sizeOf107
  v45 := Try.zeroValue107
  t46 := Try.underlying108
  a46 := Try.isAgg108
  z46 := Try.sizeOf108
  v46 := Try.zeroValue108
  t50 := Try.underlying112
  a50 := Try.isAgg112
  z50 := Try.sizeOf112
  v50 := Try.zeroValue112
  t53 := Try.underlying115
  a53 := Try.isAgg115
  z53 := Try.sizeOf115
  v53 := Try.zeroValue115
  t55 := Try.underlying117
  a55 := Try.isAgg117
  z55 := Try.sizeOf117
  v55 := Try.zeroValue117
  t66 := Try.underlying124
  a66 := Try.isAgg124
  z66 := Try.sizeOf124
  v66 := Try.zeroValue124
  t70 := Try.underlying128
  a70 := Try.isAgg128
  z70 := Try.sizeOf128
  v70 := Try.zeroValue128
  t76 := Try.underlying132
  a76 := Try.isAgg132
  z76 := Try.sizeOf132
  v76 := Try.zeroValue132
  t77 := Try.underlying133
  a77 := Try.isAgg133
  z77 := Try.sizeOf133
  v77 := Try.zeroValue133 }
end Go.Proofs

/-
  Reservations, part l: who yields to a request, in order.
-/
namespace Go.Ab
open Go.Proofs Go.Sort
theorem cmpI_lt {x y : Int} : cmpI x y < 0 ↔ x < y := by
 unfold cmpI
 repeat' split
 all_goals omega
theorem cmpI_eq {x y : Int} : cmpI x y = 0 ↔ x = y := by
 unfold cmpI
 repeat' split
 all_goals omega
theorem cmpH_lt {h1 i1 h2 i2 : Int} : cmpH h1 i1 h2 i2 < 0 ↔ (h2 < h1 ∨ (h1 = h2 ∧ i1 < i2)) := by
 unfold cmpH
 split
 ·next h => rw [cmpI_eq] at h; rw [cmpI_lt]; omega
 ·next h => rw [cmpI_eq] at h; rw [cmpI_lt]; omega
theorem swo_cf : SWO (ltOf cfV) where
 irrefl x := by simp only [ltOf, cfV, decide_eq_false_iff_not, cmpH_lt]; omega
 trans x y z h1 h2 := by simp only [ltOf, cfV, decide_eq_true_eq, cmpH_lt] at *; omega
 ntrans x y z h1 h2 := by simp only [ltOf, cfV, decide_eq_false_iff_not, cmpH_lt] at *; omega
theorem agg44 (w : World) : (isAgg 44).run Try.prog w = .ok true w := by kernel_rfl
theorem size44 (w : World) : (Go.sizeOf 44).run Try.prog w = .ok 5 w := by kernel_rfl
theorem sorts_f : SortsF Try.prog n_slices_SortFunc_reserve_Request_reserve_Request n_reserve_Table_yielding_1 :=
  ⟨fun blk off cap d w hc hH hb hs => AnyQ.slices_SortFunc Try.sortF 5 agg44 size44 encV (fun _ => rfl) (fun x v hv => by
      simp only [encV, List.mem_cons, List.not_mem_nil, or_false] at hv
      rcases hv with rfl | rfl | rfl | rfl | rfl
      · rfl
      · cases x.sv <;> rfl
      · rfl
      · rfl
      · rfl) cfV swo_cf 52 #[] blk off cap d w (enters_of Try.func52 (by kernel_rfl) rfl) hc hH hb hs,
   fun p cap fv w => AnyF.slices_SortFunc_none Try.sortF p cap fv w⟩
def HoldLt (a b : Rq) : Prop := ¬ cmpH b.hold b.id a.hold a.id < 0
theorem FnS.frz1 {P : Program} {f : Nat} {args : List AV} {h0 : Hp} {sz : Nat} {Q : List (List D) → Prop} (hrefs : refsH h0.length h0 = true)
  (hf : FnS P f args h0 fun r h' => ∃ k ve rr es, Q es ∧ r = .c (.arr k ve 0 es.length) ∧ h'[k]? = some (.da rr ve sz es) ∧ h0.length ≤ k ∧ ∃ t, h' = h0 ++ t) :
  FnS P f args h0 fun r h' => (∃ es, Q es ∧ r = .c (.d (.list false sz es))) ∧ h' = h0 := by
 have h1 : FnS P f args h0 fun r h' => ∃ es h2, Q es ∧ r = .c (.d (.list false sz es)) ∧ h' = h0 ++ h2 := by
  refine ⟨fun G ι w vs hr hv => (hf.out G ι w vs hr hv).mono fun e w2 ⟨u, r, G2, ι2, h', he, ⟨k, ve, rr, es, hQ, hre, hk, hle, t, ht⟩, hr2, hvr, hx⟩ => ?_⟩
  subst hre
  cases hvr with
  | c _ _ hc =>
   have hfz : frz h' (.arr k ve 0 es.length) = some (.list false sz es, h'.set k Blk.dead) := by
    simp [frz, hk]
   obtain ⟨G', q1, q2, q3⟩ := frz_sound hr2 hc hfz
   refine ⟨u, _, G', ι2, _, he, ⟨es, (h'.set k Blk.dead).drop h0.length, hQ, rfl, ?_⟩, q1, .c _ _ (.d _ _ q2), hx.trans q3⟩
   subst ht
   rw [List.set_append_right _ _ hle]
   simp
 refine (FnS.cut h1 ?_).mono ?_
 ·rintro r h' ⟨es, h2, _, rfl, rfl⟩
  refine ⟨rfl, ?_⟩
  rw [List.take_append_of_le_length (Nat.le_refl _), List.take_length]
  exact hrefs
 ·rintro r h1 ⟨h2, ⟨es, h3, hQ, rfl, e⟩, hl⟩
  exact ⟨⟨es, hQ, rfl⟩, (List.append_inj e hl).1⟩
def YldL (m : List Rq) (s : Int) (l : List Rq) : Prop := l.Perm (m.filter fun x => decide (s < x.hold)) ∧ l.Pairwise HoldLt
theorem tyield_ok (P : Program) (hP : P = Try.prog) (caps : List Int) (v : Nat) (m : List Rq) (r : Rq) (hs : m.length ≤ 1000000) :
  FnS P n_reserve_Table_yielding [.c (.ptr 0 0 0 0), rqA r] (rsvH caps v m) fun r' h' => (∃ es, (∃ l', YldL m r.setup l' ∧ es = l'.map encRq) ∧ r' = .c (.d (.list false 5 es))) ∧ h' = rsvH caps v m := by
 refine FnS.frz1 rfl ?_
 have hso : ∀ (l : List Rq) (n : Nat) (es : List (List D)) (rr : Bool) (ve : Nat), l.length ≤ 1000000 → n = l.length → es = l.map encRq →
   FnS P n_slices_SortFunc_reserve_Request_reserve_Request [.c (.arr 0 ve 0 n), .c (.fn false n_reserve_Table_yielding_1 [])] [.da rr ve 5 es] fun r' h' => ∃ es', (r' = .tup [] ∧ ∃ l' : List Rq, l'.Perm l ∧ l'.Pairwise HoldLt ∧ es' = l'.map encRq) ∧ h' = [.da rr ve 5 es'] := by
  rintro l n es rr ve hl rfl rfl
  refine (sortF_fn (hP ▸ sorts_f) (ycmp_lays P hP) l (by omega) rr ve).mono ?_
  rintro r' h' ⟨h1, l', h2, h3, h4⟩
  exact ⟨_, ⟨h1, l', h2, h3, rfl⟩, h4⟩
 refine heap_start (hP ▸ mixed) (hP ▸ fn_reserve_Table_yielding) (hP ▸ c_reserve_Table_yielding) (Nat.le_of_ble_eq_true rfl) fun Λ Λo K hK => ?_
 clear hP
 have k1 : ∀ b2 b3 ve rr n es t2 (l' : List Rq), YldL m r.setup l' → es = l'.map encRq → n = l'.length → K (.c (.arr 4 ve 0 n)) (rsvH caps v m ++ [b2, b3, .da rr ve 5 es] ++ t2) := by
  rintro b2 b3 ve rr n es t2 l' h1 rfl rfl
  refine hK _ _ ⟨4, ve, rr, l'.map encRq, ⟨l', h1, rfl⟩, by rw [List.length_map], rfl, by simp, [b2, b3, .da rr ve 5 (l'.map encRq)] ++ t2, by simp⟩
 clear hK
 obtain ⟨F, hF⟩ : ∃ F : List Rq → List Rq, F = fun l => l.filter fun x => decide (r.setup < x.hold) := ⟨_, rfl⟩
 have hF0 : F [] = [] := by rw [hF]; rfl
 have hFy : ∀ l x, r.setup < x.hold → F (l ++ [x]) = F l ++ [x] := fun l x h => by rw [hF]; simp [List.filter_append, h]
 have hFn : ∀ l x, ¬ r.setup < x.hold → F (l ++ [x]) = F l := fun l x h => by rw [hF]; simp [List.filter_append]; omega
 have hFl : ∀ l, (F l).length ≤ l.length := fun l => by rw [hF]; exact List.length_filter_le _ _
 have k2 : ∀ b2 b3 ve rr n es t2 (dn l' : List Rq), dn.Perm m → l'.Perm (F dn) → l'.Pairwise HoldLt → es = l'.map encRq → n = l'.length → K (.c (.arr 4 ve 0 n)) (rsvH caps v m ++ [b2, b3, .da rr ve 5 es] ++ t2) :=
  fun b2 b3 ve rr n es t2 dn l' h1 h2 h3 h4 h5 => k1 b2 b3 ve rr n es t2 l' ⟨h2.trans (by rw [hF]; exact h1.filter _), h3⟩ h4 h5
 clear hF k1
 obtain ⟨id, arcs, amt, setup, hold⟩ := r
 simp only [rqA, rsvH, intsD, List.cons_append, List.nil_append] at *
 generalize arcs.map encI = al at *
 generalize caps.map encI = cl at *
 generalize mlh : m.map encM = ml at *
 conv => cbv
 repeat' first | exact gu | exact trivial | refine And.intro ?_ ?_ | (intro hc; exact absurd hc (by decide)) | (intro hc; exfalso; omega) | (intro hc; (first | rw [wrap_small (by omega) (by omega)] at hc | rw [nI_eq] at hc | skip); try (conv => cbv))
 refine loop_upx m.length (fun (s : Nat × Bool × Nat × List (List D) × (DV × DV) × List (DV × DV)) => [(3, .c (.ptr 2 0 0 0)), (5, .c (.arr 4 s.1 0 s.2.2.1)), (12, .c (.it 3))])
  (fun s => [.bx [.d (.list false 1 cl), .mp 1], .mp v ml, .bx [.d (iD id), .d (.list false 1 al), .d (iD amt), .d (iD setup), .d (iD hold)], .mi 1 v (s.2.2.2.2.1 :: s.2.2.2.2.2), .da s.2.1 s.1 5 s.2.2.2.1])
  (fun k s => ∃ dn rs : List Rq, (dn ++ rs).Perm m ∧ s.2.2.2.2.2 = rs.map encM ∧ s.2.2.2.1 = (F dn).map encRq ∧ s.2.2.1 = (F dn).length ∧ dn.length = k) (0, false, 0, [], (.g [], .g []), ml) 0
  (fun (s : Nat × Bool × Nat × List (List D) × Blk) => [(5, .c (.arr 4 s.1 0 s.2.2.1))]) (fun s => [.bx [.d (.list false 1 cl), .mp 1], .mp v ml, .bx [.d (iD id), .d (.list false 1 al), .d (iD amt), .d (iD setup), .d (iD hold)], s.2.2.2.2, .da s.2.1 s.1 5 s.2.2.2.1])
  (fun s => ∃ dn : List Rq, dn.Perm m ∧ s.2.2.2.1 = (F dn).map encRq ∧ s.2.2.1 = (F dn).length)
  (.trans (.nilS 5 5 rfl) (Wk.ca)) ⟨[], m, by simp, mlh.symm, by rw [hF0]; rfl, by rw [hF0]; rfl, rfl⟩ (fun k s h => by obtain ⟨dn, rs, h1, _, _, _, h2⟩ := h; have := h1.length_eq; simp at this; omega) ?_ ?_
 ·rintro k ⟨ve, rr, n, es, e0, rest⟩ Q' ⟨dn, rs, hpm, hrs, hes, hn, hlen⟩ norm jn ex rt
  simp only at hrs hes hn
  have hml := hpm.length_eq
  rw [List.length_append] at hml
  have hnb : n ≤ 1000000 := by have := hFl dn; omega
  have next : ∀ (j : Nat) (x : Rq) (rest' : List (DV × DV)), rs[j]? = some x → rest' = rest.eraseIdx j → ∃ rs' : List Rq, (dn ++ [x] ++ rs').Perm m ∧ rest' = rs'.map encM ∧ (dn ++ [x]).length = k + 1 := fun j x rest' hx hr => by
   refine ⟨rs.eraseIdx j, ?_, by rw [hr, hrs, map_erase], by simp [hlen]⟩
   rw [List.append_assoc]
   exact ((perm_erase hx).append_left dn).trans hpm
  have lf := fun (e : rest = []) => (show dn.Perm m by
   have : rs = [] := by rw [hrs] at e; simpa using e
   subst this
   rw [List.append_nil] at hpm
   exact hpm)
  obtain ⟨n1, hn1⟩ : ∃ n1, n1 = n + 1 := ⟨_, rfl⟩
  have hel : es.length = n := by rw [hes, hn, List.length_map]
  conv => cbv
  repeat' first | (intro (j : Nat) (kk : DV) (y : DV) (rest' : List (DV × DV)) hj hr'; obtain ⟨⟨xi, xa, xm, xs, xh⟩, hx, e⟩ := map_get' hrs.symm hj; simp only [encM, encRq, intsD, Prod.mk.injEq] at e; obtain ⟨rfl, rfl⟩ := e; have nx := next j _ rest' hx hr'; have hyes := hFy dn ⟨xi, xa, xm, xs, xh⟩; have hno := hFn dn ⟨xi, xa, xm, xs, xh⟩; generalize hxe : xa.map encI = xl at *; obtain ⟨e1, he1⟩ : ∃ e1, e1 = es ++ [[iD xi, .list false 1 xl, iD xm, iD xs, iD xh]] := ⟨_, rfl⟩; (conv => cbv)) | (intro (m : Nat) (r : Bool) (y : List (List D)) hm hr hy; refine (fun (hz : n1 = m) (hz2 : e1 = y) => ?_) (by first | omega | (simp only [List.length_cons, List.length_nil] at hm; omega)) (by first | (rw [hy, List.drop_zero, List.take_of_length_le (by omega)]; exact he1) | (rw [hy]; exact he1)); subst hz; subst hz2; (conv => cbv)) | exact gu | exact trivial | refine And.intro ?_ ?_ | (intro hc; exact absurd hc (by decide)) | (intro hc; exfalso; omega) | (intro hc; (first | rw [wrap_small (by omega) (by omega)] at hc | rw [nI_eq] at hc | skip); try (conv => cbv))
  ·exact jn _ _ (ve, rr, n, es, .mi 1 v (e0 :: rest)) ⟨dn, lf (by assumption), hes, hn⟩ (Wk.ca)
  ·obtain ⟨rs', q1, q2, q3⟩ := nx
   refine norm _ _ (_, _, _, _, _, _) ?_ (Wk.ca)
   have hyes := hyes (by omega)
   exact ⟨_, rs', q1, q2, by simp only; rw [hyes, he1, hes, List.map_append, List.map_singleton, encRq, intsD, hxe], by simp only; rw [hyes]; simp; omega, q3⟩
  ·obtain ⟨rs', q1, q2, q3⟩ := nx
   refine norm _ _ (_, _, _, _, _, _) ?_ (Wk.ca)
   have hno := hno (by omega)
   exact ⟨_, rs', q1, q2, by simp only; rw [hno]; exact hes, by simp only; rw [hno]; exact hn, q3⟩
 ·rintro ⟨ve, rr, n, es, bk⟩ ⟨dn, hpm, hes, hn⟩
  simp only at hes hn
  have hml := hpm.length_eq
  have hfl := hFl dn
  have hsn := hso (F dn) n es rr ve (by omega) hn hes
  conv => cbv
  repeat' first | (refine call_fr [4] hsn rfl rfl (by decide) (by repeat' first | exact trivial | refine And.intro ?_ ?_ | rfl) rfl rfl ?_; rintro r hc' ⟨es', ⟨rfl, l', p1, p2, he'⟩, rfl⟩; (conv => cbv)) | exact gu | exact trivial | refine And.intro ?_ ?_ | (intro hc; exact absurd hc (by decide)) | (intro hc; exfalso; omega) | (intro hc; (first | rw [wrap_small (by omega) (by omega)] at hc | rw [nI_eq] at hc | skip); try (conv => cbv))
  exact k2 _ _ _ _ _ _ [] dn l' hpm p1 p2 he' (by rw [hn]; exact p1.length_eq.symm)
end Go.Ab

/-
  Reservations, part m: whether a reservation has to go.
-/
namespace Go.Ab
open Go.Proofs
abbrev hanH (caps : List Int) (v : Nat) (m : List Rq) (r : Rq) : Hp := [.bx [.d (intsD caps), .mp 1], .mp v (m.map encM), .bx [.ptr 0 0 0 0], .bx [.d (iD r.id), .d (intsD r.arcs), .d (iD r.amt), .d (iD r.setup), .d (iD r.hold)]]
def shortP (caps : List Int) (m : List Rq) (r : Rq) (a : Int) : Bool := decide (a ∈ r.arcs) && decide (capAt caps a - sumR (fun _ => true) a m < r.amt)
structure FitR (caps : List Int) (m : List Rq) (r : Rq) : Prop where
 sml : Sml m
 len : caps.length ≤ 1000
 cap : ∀ c ∈ caps, 0 ≤ c ∧ c ≤ 1048576
 arc : ∀ a ∈ r.arcs, 0 ≤ a ∧ a < 2 * (caps.length : Int)
 num : r.arcs.length ≤ 1000000
theorem tshort_ok (P : Program) (hP : P = Try.prog) (caps : List Int) (v : Nat) (m : List Rq) (r : Rq) (a : Int) (hf : FitR caps m r) :
  FnS P n_reserve_Table_Reserve_1 [iA a, .c (.ptr 3 0 0 0), .c (.ptr 2 0 0 0)] (hanH caps v m r) fun r' h' => r' = bA (shortP caps m r a) ∧ h' = hanH caps v m r := by
 have h1 : FnS P n_reserve_Table_Reserve_1 [iA a, .c (.ptr 3 0 0 0), .c (.ptr 2 0 0 0)] (hanH caps v m r) fun r' h' => ∃ h2, r' = bA (shortP caps m r a) ∧ h' = hanH caps v m r ++ h2 := by
  have hcon := contains_ok P hP r.arcs a
  have huse := tuse_ok P hP caps v m a hf.sml
  have hbd := sumR_take (p := fun _ => true) (a := a) hf.sml m.length
  rw [List.take_length] at hbd
  refine heap_start (hP ▸ mixed) (hP ▸ fn_reserve_Table_Reserve_1) (hP ▸ c_reserve_Table_Reserve_1) (Nat.le_of_ble_eq_true rfl) fun Λ Λo K hK => ?_
  clear hP
  have leaf : ∀ b h2, b = shortP caps m r a → K (bA b) (hanH caps v m r ++ h2) := fun b h2 e => hK _ _ ⟨h2, by rw [e], rfl⟩
  clear hK
  rw [shortP] at leaf
  generalize sumR (fun _ => true) a m = s at *
  by_cases ha : a ∈ r.arcs
  rotate_left
  ·rw [decide_eq_false ha] at hcon leaf
   clear huse
   obtain ⟨id, arcs, amt, setup, hold⟩ := r
   simp only [hanH, intsD, intsA, Bool.false_and] at *
   generalize caps.map encI = cl at *
   generalize arcs.map encI = al at *
   generalize m.map encM = ml at *
   conv => cbv
   repeat' first | (refine call_r hcon rfl rfl ?_; conv => cbv) | exact gu | exact trivial | refine And.intro ?_ ?_ | (intro hc; exact absurd hc (by decide)) | (intro hc; exfalso; omega) | (intro hc; (first | rw [wrap_small (by omega) (by omega)] at hc | rw [nI_eq] at hc | skip); try (conv => cbv))
   exact leaf _ [] rfl
  have har := hf.arc a ha
  rw [decide_eq_true ha] at hcon leaf
  have hlen := hf.len
  have hcb := hf.cap
  clear hf
  have hq := tdiv2 har.1 (by omega)
  have hlt : (a / 2).toNat < caps.length := by omega
  have hx : caps[(a / 2).toNat]? = some (caps[(a / 2).toNat]) := List.getElem?_eq_getElem hlt
  have hxb := hcb _ (List.mem_of_getElem? hx)
  rw [capAt] at leaf
  generalize caps[(a / 2).toNat] = cx at *
  rw [hx, Option.getD_some] at leaf
  obtain ⟨q, hqe⟩ : ∃ q, a / 2 = q := ⟨_, rfl⟩
  rw [hqe] at hq hx hlt
  have hq0 : 0 ≤ q := by omega
  have hxa : (caps.map encI)[q.toNat]? = some [iD cx] := by rw [List.getElem?_map, hx]; rfl
  obtain ⟨id, arcs, amt, setup, hold⟩ := r
  simp only [hanH, rsvH, intsD, intsA, List.cons_append, List.nil_append, Bool.true_and] at *
  have cln : Λ (caps.map encI) = caps.length := by rw [Λo]; simp
  generalize caps.map encI = cl at *
  generalize arcs.map encI = al at *
  generalize m.map encM = ml at *
  conv => cbv
  repeat' first | (refine call_r hcon rfl rfl ?_; conv => cbv) | (intro (_ : Unit); decide) | (intro q' hq'; refine (fun (hz : q = q') => ?_) (hq.symm.trans hq'.symm); subst hz; (conv => cbv)) | (intro (e : List D) he; cases Option.some.inj (he.symm.trans hxa); (conv => cbv)) | exact gu | exact trivial | refine And.intro ?_ ?_ | (intro hc; exact absurd hc (by decide)) | (intro hc; exfalso; omega) | (intro hc; (first | rw [wrap_small (by omega) (by omega)] at hc | rw [nI_eq] at hc | skip); try (conv => cbv))
  refine call_ro [0, 1] huse (Nat.succ_pos _) (fun _ => rfl) rfl (by decide) (fun _ => by repeat' first | exact trivial | refine And.intro ?_ ?_ | rfl) rfl rfl (fun _ => rfl) (fun p h1 h2 => ?_) ?_
  ·have q0 : p 0 := h1 (.c (.ptr 0 0 0 0)) (by simp [evsN, evN, lkN])
   have q1 : p 1 := h2 0 _ q0 rfl (.mp 1) (by simp)
   intro l hl
   simp only [List.mem_cons, List.not_mem_nil, or_false] at hl
   rcases hl with rfl | rfl <;> assumption
  conv => cbv
  repeat' first | exact gu | exact trivial | refine And.intro ?_ ?_ | (intro hc; exact absurd hc (by decide)) | (intro hc; exfalso; omega) | (intro hc; (first | rw [wrap_small (by omega) (by omega)] at hc | rw [nI_eq] at hc | skip); try (conv => cbv))
  ·exact leaf _ [] (decide_eq_true (by omega)).symm
  ·exact leaf _ [] (decide_eq_false (by omega)).symm
 refine (FnS.cut h1 ?_).mono ?_
 ·rintro r' h' ⟨h2, rfl, rfl⟩
  exact ⟨rfl, rfl⟩
 ·rintro r' h1 ⟨h2, ⟨h3, rfl, e⟩, hl⟩
  exact ⟨rfl, (List.append_inj e hl).1⟩
theorem tindexf_ok (P : Program) (hP : P = Try.prog) (caps : List Int) (v : Nat) (m : List Rq) (r : Rq) (l : List Int) (hf : FitR caps m r) (hl : l.length ≤ 1000000) :
  FnS P n_slices_IndexFunc_int_int [intsA l, .c (.fn false n_reserve_Table_Reserve_1 [.ptr 3 0 0 0, .ptr 2 0 0 0])] (hanH caps v m r) fun r' h' => (∃ i : Int, r' = iA i ∧ decide (0 ≤ i) = l.any (shortP caps m r)) ∧ h' = hanH caps v m r := by
 have hfo : FnOk P n_reserve_Table_Reserve_1 := hP ▸ ⟨_, fn_reserve_Table_Reserve_1, rfl, by decide⟩
 have h1 : FnS P n_slices_IndexFunc_int_int [intsA l, .c (.fn false n_reserve_Table_Reserve_1 [.ptr 3 0 0 0, .ptr 2 0 0 0])] (hanH caps v m r) fun r' h' => ∃ h2 i, decide (0 ≤ i) = l.any (shortP caps m r) ∧ r' = iA i ∧ h' = hanH caps v m r ++ h2 := by
  have hcl := fun a => tshort_ok P hP caps v m r a hf
  refine heap_start (hP ▸ mixed) (hP ▸ fn_slices_IndexFunc_int_int) (hP ▸ c_slices_IndexFunc_int_int) (Nat.le_of_ble_eq_true rfl) fun Λ Λo K hK => ?_
  clear hP hf
  have leaf : ∀ (i : Int) h2, decide (0 ≤ i) = l.any (shortP caps m r) → K (iA i) (hanH caps v m r ++ h2) := fun i h2 e => hK _ _ ⟨h2, i, e, rfl, rfl⟩
  clear hK
  generalize shortP caps m r = p at *
  obtain ⟨id, arcs, amt, setup, hold⟩ := r
  simp only [hanH, intsD, intsA, List.cons_append, List.nil_append] at *
  generalize caps.map encI = cl at *
  generalize arcs.map encI = al at *
  generalize m.map encM = ml at *
  generalize llh : List.map encI l = ll at *
  have lln : Λ ll = l.length := by rw [Λo, ← llh]; simp
  conv => cbv
  repeat' first | exact gu | exact trivial | refine And.intro ?_ ?_ | (intro hc; exact absurd hc (by decide)) | (intro hc; exfalso; omega) | (intro hc; (first | rw [wrap_small (by omega) (by omega)] at hc | rw [nI_eq] at hc | skip); try (conv => cbv))
  refine loop_up l.length (fun (i : Int) => [(0, .c (.d (.list false 1 ll))), (1, .c (.fn false 34 [.ptr 3 0 0 0, .ptr 2 0 0 0])), (7, iA (Λ ll)), (8, iA i)])
   (fun _ => [.bx [.d (.list false 1 cl), .mp 1], .mp v ml, .bx [.ptr 0 0 0 0], .bx [.d (iD id), .d (.list false 1 al), .d (iD amt), .d (iD setup), .d (iD hold)]])
   (fun k i => i = k ∧ k ≤ l.length ∧ ∀ x ∈ l.take k, p x = false) 0 (Wk.ca) ⟨rfl, by omega, by simp⟩ (fun k s h => h.2.1) ?_
  rintro k i Q' ⟨hi, hk, hno⟩ norm ex rt
  by_cases hlt : k < l.length
  ·obtain ⟨x, hx⟩ : ∃ x, l[k]? = some x := ⟨_, List.getElem?_eq_getElem hlt⟩
   have hxa := elt_at llh hi hx
   have hclx := hcl x
   have yes : p x = true → l.any p = true := fun h => List.any_eq_true.2 ⟨x, List.mem_of_getElem? hx, h⟩
   have nxt : p x = false → ∀ y ∈ l.take (k + 1), p y = false := fun h y hy => by
    rw [take_succ_get hx] at hy
    rcases List.mem_append.1 hy with hy | hy
    ·exact hno y hy
    ·simp only [List.mem_singleton] at hy; subst hy; exact h
   generalize p x = b at *
   conv => cbv
   repeat' first | (refine ex _ _ _ ?_; (conv => cbv)) | (refine rt _ _ ?_; (conv => cbv)) | (intro e he; cases Option.some.inj (he.symm.trans hxa); (conv => cbv)) | exact hfo | (refine callv_fr [0, 1, 2, 3] hclx rfl rfl (by decide) (by repeat' first | exact trivial | refine And.intro ?_ ?_ | rfl) rfl rfl ?_; rintro r hc' ⟨rfl, rfl⟩; (conv => cbv)) | exact gu | exact trivial | refine And.intro ?_ ?_ | (intro hc; exact absurd hc (by decide)) | (intro hc; exfalso; omega) | (intro hc; (first | rw [wrap_small (by omega) (by omega)] at hc | rw [nI_eq] at hc | skip); try (conv => cbv))
   cases b with
   | true =>
    repeat' first | (refine ex _ _ _ ?_; (conv => cbv)) | (refine rt _ _ ?_; (conv => cbv)) | exact gu | exact trivial | refine And.intro ?_ ?_ | (intro hc; exact absurd hc (by decide)) | (intro hc; exfalso; omega) | (intro hc; (first | rw [wrap_small (by omega) (by omega)] at hc | rw [nI_eq] at hc | skip); try (conv => cbv))
    refine leaf _ [] ?_
    rw [yes rfl]; exact decide_eq_true (by omega)
   | false =>
    repeat' first | (refine ex _ _ _ ?_; (conv => cbv)) | (refine rt _ _ ?_; (conv => cbv)) | exact gu | exact trivial | refine And.intro ?_ ?_ | (intro hc; exact absurd hc (by decide)) | (intro hc; exfalso; omega) | (intro hc; (first | rw [wrap_small (by omega) (by omega)] at hc | rw [nI_eq] at hc | skip); try (conv => cbv))
    refine norm _ _ _ ?_ (Wk.ca)
    exact ⟨by omega, by omega, nxt rfl⟩
  ·obtain rfl : k = l.length := by omega
   rw [List.take_length] at hno
   conv => cbv
   repeat' first | (refine ex _ _ _ ?_; (conv => cbv)) | (refine rt _ _ ?_; (conv => cbv)) | exact gu | exact trivial | refine And.intro ?_ ?_ | (intro hc; exact absurd hc (by decide)) | (intro hc; exfalso; omega) | (intro hc; (first | rw [wrap_small (by omega) (by omega)] at hc | rw [nI_eq] at hc | skip); try (conv => cbv))
   refine leaf _ [] ?_
   have : l.any p = false := by rw [List.any_eq_false]; intro x hx; rw [hno x hx]; simp
   rw [this]; rfl
 refine (FnS.cut h1 ?_).mono ?_
 ·rintro r' h' ⟨h2, i, _, rfl, rfl⟩
  exact ⟨rfl, rfl⟩
 ·rintro r' h1 ⟨h2, ⟨h3, i, e1, rfl, e⟩, hl⟩
  exact ⟨⟨i, rfl, e1⟩, (List.append_inj e hl).1⟩
theorem tcontf_ok (P : Program) (hP : P = Try.prog) (caps : List Int) (v : Nat) (m : List Rq) (r : Rq) (l : List Int) (hf : FitR caps m r) (hl : l.length ≤ 1000000) :
  FnS P n_slices_ContainsFunc_int_int [intsA l, .c (.fn false n_reserve_Table_Reserve_1 [.ptr 3 0 0 0, .ptr 2 0 0 0])] (hanH caps v m r) fun r' h' => r' = bA (l.any (shortP caps m r)) ∧ h' = hanH caps v m r := by
 have hix := tindexf_ok P hP caps v m r l hf hl
 refine heap_start (hP ▸ mixed) (hP ▸ fn_slices_ContainsFunc_int_int) (hP ▸ c_slices_ContainsFunc_int_int) (Nat.le_of_ble_eq_true rfl) fun Λ Λo K hK => ?_
 clear hP hf
 have leaf : ∀ b, b = l.any (shortP caps m r) → K (bA b) (hanH caps v m r) := fun b e => hK _ _ ⟨by rw [e], rfl⟩
 clear hK
 generalize l.any (shortP caps m r) = t at *
 obtain ⟨id, arcs, amt, setup, hold⟩ := r
 simp only [hanH, intsD, intsA] at *
 generalize caps.map encI = cl at *
 generalize arcs.map encI = al at *
 generalize m.map encM = ml at *
 generalize l.map encI = ll at *
 conv => cbv
 repeat' first | (refine call_fr [0, 1, 2, 3] hix rfl rfl (by decide) (by repeat' first | exact trivial | refine And.intro ?_ ?_ | rfl) rfl rfl ?_; rintro r hc' ⟨⟨i, rfl, hi⟩, rfl⟩; (conv => cbv)) | exact gu | exact trivial | refine And.intro ?_ ?_ | (intro hc; exact absurd hc (by decide)) | (intro hc; exfalso; omega) | (intro hc; (first | rw [wrap_small (by omega) (by omega)] at hc | rw [nI_eq] at hc | skip); try (conv => cbv))
 ·exact leaf _ (by rw [← hi]; exact (decide_eq_true (by omega)).symm)
 ·exact leaf _ (by rw [← hi]; exact (decide_eq_false (by omega)).symm)
end Go.Ab

/-
  Reservations, part n: the program's Reserve.
-/
namespace Go.Ab
open Go.Proofs
theorem FnS.frz2 {P : Program} {f : Nat} {args : List AV} {h0 : Hp} {sz : Nat} {Q : List (List D) → AV → Hp → Prop} (hrefs : ∀ es x h', Q es x h' → refsH h0.length h' = true ∧ h'.length = h0.length ∧ refsA h0.length x = true ∧ pureA x = true)
  (hf : FnS P f args h0 fun r h' => ∃ es x h1, Q es x h1 ∧ ((∃ k ve rr t, r = .tup [.c (.arr k ve 0 es.length), x] ∧ h' = h1 ++ t ∧ h'[k]? = some (.da rr ve sz es) ∧ h0.length ≤ k) ∨ (es = [] ∧ r = .tup [.c (.d (.list true sz [])), x] ∧ ∃ t, h' = h1 ++ t))) :
  FnS P f args h0 fun r h' => ∃ es x, Q es x h' ∧ r = .tup [.c (.d (.list false sz es)), x] := by
 have h1 : FnS P f args h0 fun r h' => ∃ es x h1 h2, Q es x h1 ∧ r = .tup [.c (.d (.list false sz es)), x] ∧ h' = h1 ++ h2 := by
  refine ⟨fun G ι w vs hr hv => (hf.out G ι w vs hr hv).mono fun e w2 ⟨u, r, G2, ι2, h', he, ⟨es, x, h1, hQ, hc⟩, hr2, hvr, hx⟩ => ?_⟩
  obtain ⟨_, hl, _, hpx⟩ := hrefs _ _ _ hQ
  rcases hc with ⟨k, ve, rr, t, rfl, rfl, hk, hle⟩ | ⟨rfl, rfl, t, rfl⟩
  ·cases hvr with
   | tup cs _ hn hcs =>
    have hn : cs.size = 2 := hn
    have h0 := hcs 0 _ _ (Array.getElem?_eq_getElem (by omega)) rfl
    have hc := inv_c h0
    have hfz : frz (h1 ++ t) (.arr k ve 0 es.length) = some (.list false sz es, (h1 ++ t).set k Blk.dead) := by
     simp [frz, hk]
    obtain ⟨G', q1, q2, q3⟩ := frz_sound hr2 hc hfz
    refine ⟨.tuple cs, .tup [.c (.d (.list false sz es)), x], G', ι2, _, he, ⟨es, x, h1, t.set (k - h1.length) Blk.dead, hQ, rfl, List.set_append_right _ _ (by omega)⟩, q1, .tup cs _ hn (fun i y z hu hy => ?_), hx.trans q3⟩
    match i, hy with
    | 0, hy =>
     cases hy
     rw [Array.getElem?_eq_getElem (by omega)] at hu
     cases hu
     exact .c _ _ (.d _ _ q2)
    | 1, hy => cases hy; exact (hcs 1 y _ hu rfl).ext q3 hr2
  ·cases hvr with
   | tup cs _ hn hcs =>
    refine ⟨.tuple cs, .tup [.c (.d (.list false sz [])), x], G2, ι2, _, he, ⟨[], x, h1, t, hQ, rfl, rfl⟩, hr2, .tup cs _ hn (fun i y z hu hy => ?_), hx⟩
    match i, hy with
    | 0, hy =>
     cases hy
     have hd := inv_d (hcs 0 y _ hu rfl)
     generalize hg : D.list true sz [] = g at hd
     cases hd <;> first | (cases hg; done) | skip
     cases hg
     exact .c _ _ (.d _ _ (.nils _ _))
    | 1, hy => cases hy; exact hcs 1 y _ hu rfl
 refine (FnS.cut2 h1 ?_).mono ?_
 ·rintro r h' ⟨es, x, h1, h2, hQ, rfl, rfl⟩
  obtain ⟨q1, q2, q3, _⟩ := hrefs _ _ _ hQ
  exact ⟨_, _, rfl, rfl, q3, by rw [← q2, List.take_left, q2]; exact q1⟩
 ·rintro r h' ⟨h2, ⟨es, x, h1, h3, hQ, rfl, e⟩, hl⟩
  obtain ⟨q1, q2, q3, _⟩ := hrefs _ _ _ hQ
  have := (List.append_inj e (by omega)).1
  subst this
  exact ⟨es, x, hQ, rfl⟩
def stepP (caps : List Int) (m : List Rq) (r : Rq) (out : List Int) (x : Rq) : List Int := if x.arcs.any (shortP caps (leftR m out) r) then out ++ [x.id] else out
def ResP (caps : List Int) (m : List Rq) (r : Rq) (m' : List Rq) (out : List Int) (e : Int) : Prop :=
 if ¬ PropN (2 * caps.length) r then m' = m ∧ out = [] ∧ e = 1 else if r.id ∈ m.map (·.id) then m' = m ∧ out = [] ∧ e = 9 else
 if (r.arcs.any fun a => decide (roomP caps m a r.setup < r.amt)) = true then m' = m ∧ out = [] ∧ e = 12
 else ∃ l, YldL m r.setup l ∧ out = l.foldl (stepP caps m r) [] ∧ m' = leftR m out ++ [r] ∧ e = 0
theorem tres_ok (P : Program) (hP : P = Try.prog) (caps : List Int) (v : Nat) (m : List Rq) (r : Rq) (hs : Sml m) (hid : Ids m) (hla : ∀ x ∈ m, x.arcs.length ≤ 1000000) (hr : r.arcs.length ≤ 1000000) (hc : caps.length ≤ 1000) (hcb : ∀ c ∈ caps, 0 ≤ c ∧ c ≤ 1048576) :
  FnS P n_reserve_Table_Reserve [.c (.ptr 0 0 0 0), rqA r] (rsvH caps v m) fun r' h' => ∃ es x, (∃ m' out e v', ResP caps m r m' out e ∧ es = out.map encI ∧ x = iA e ∧ h' = rsvH caps v' m') ∧ r' = .tup [.c (.d (.list false 1 es)), x] := by
 refine FnS.frz2 (Q := fun es x h' => ∃ m' out e v', ResP caps m r m' out e ∧ es = out.map encI ∧ x = iA e ∧ h' = rsvH caps v' m') ?_ ?_
 ·rintro es x h' ⟨m', out, e, v', _, rfl, rfl, rfl⟩
  exact ⟨rfl, rfl, rfl, rfl⟩
 have hpr := tproper_ok P hP caps v m r hc
 refine heap_start (hP ▸ mixed) (hP ▸ fn_reserve_Table_Reserve) (hP ▸ c_reserve_Table_Reserve) (Nat.le_of_ble_eq_true rfl) fun Λ Λo K hK => ?_
 have fail : ∀ e h2, ResP caps m r m [] e → K (.tup [.c (.d (.list true 1 [])), iA e]) (rsvH caps v m ++ h2) := fun e h2 h =>
  hK _ _ ⟨[], iA e, rsvH caps v m, ⟨m, [], e, v, h, rfl, rfl, rfl⟩, .inr ⟨rfl, rfl, h2, rfl⟩⟩
 by_cases hp : PropN (2 * caps.length) r
 rotate_left
 ·have k0 := fun h2 => fail 1 h2 (by rw [ResP, if_pos hp]; exact ⟨rfl, rfl, rfl⟩)
  clear hK fail hP
  rw [decide_eq_false hp] at hpr
  obtain ⟨id, arcs, amt, setup, hold⟩ := r
  simp only [rqA, rsvH, intsD, List.cons_append, List.nil_append] at *
  generalize caps.map encI = cl at *
  generalize arcs.map encI = al at *
  generalize m.map encM = ml at *
  conv => cbv
  repeat' first | (refine call_fr [0, 1] hpr rfl rfl (by decide) (by repeat' first | exact trivial | refine And.intro ?_ ?_ | rfl) rfl rfl ?_; rintro r hc' ⟨rfl, rfl⟩; (conv => cbv)) | exact gu | exact trivial | refine And.intro ?_ ?_ | (intro hc; exact absurd hc (by decide)) | (intro hc; exfalso; omega) | (intro hc; (first | rw [wrap_small (by omega) (by omega)] at hc | rw [nI_eq] at hc | skip); try (conv => cbv))
  exact k0 _
 rw [decide_eq_true hp] at hpr
 have hcl := clone_ok47 P hP r hr
 have hroom := fun a => troom_ok P hP caps v m a r.setup hs hc hcb
 have hyl := tyield_ok P hP caps v m r (by have := hs.2; omega)
 have harc : ∀ a ∈ r.arcs, 0 ≤ a ∧ a < 2 * (caps.length : Int) := hp.2.2.2.2.2
 have hcon := fun (out : List Int) (v' : Nat) (l : List Int) (hl : l.length ≤ 1000000) => tcontf_ok P hP caps v' (leftR m out) r l ⟨hs.left out, hc, hcb, harc, hr⟩ hl
 have k1 : r.id ∈ m.map (·.id) → ∀ h2, K (.tup [.c (.d (.list true 1 [])), iA 9]) (rsvH caps v m ++ h2) := fun h h2 => fail 9 h2 (by rw [ResP, if_neg (not_not_intro hp), if_pos h]; exact ⟨rfl, rfl, rfl⟩)
 have k2 : r.id ∉ m.map (·.id) → ∀ a ∈ r.arcs, roomP caps m a r.setup < r.amt → ∀ h2, K (.tup [.c (.d (.list true 1 [])), iA 12]) (rsvH caps v m ++ h2) := fun h a ha hra h2 => fail 12 h2 (by
  rw [ResP, if_neg (not_not_intro hp), if_neg h, if_pos (List.any_eq_true.2 ⟨a, ha, decide_eq_true hra⟩)]; exact ⟨rfl, rfl, rfl⟩)
 have k3 : r.id ∉ m.map (·.id) → (∀ a ∈ r.arcs, ¬ roomP caps m a r.setup < r.amt) → ∀ l, YldL m r.setup l → ∀ v' ve rr n es b2 b3 h2 ml out, out = l.foldl (stepP caps m r) [] → n = out.length → es = out.map encI → ml = (leftR m out ++ [r]).map encM →
   K (.tup [.c (.arr 4 ve 0 n), iA 0]) ([.bx [.d (intsD caps), .mp 1], .mp v' ml, b2, b3, .da rr ve 1 es] ++ h2) := by
  rintro h hno l hl v' ve rr n es b2 b3 h2 ml out hout rfl rfl rfl
  refine hK _ _ ⟨out.map encI, iA 0, rsvH caps v' (leftR m out ++ [r]), ⟨_, out, 0, v', ?_, rfl, rfl, rfl⟩, .inl ⟨4, ve, rr, [b2, b3, .da rr ve 1 (out.map encI)] ++ h2, by rw [List.length_map], by simp, rfl, by simp⟩⟩
  rw [ResP, if_neg (not_not_intro hp), if_neg h, if_neg (fun h => by obtain ⟨a, ha, hb⟩ := List.any_eq_true.1 h; exact hno a ha (of_decide_eq_true hb))]
  exact ⟨l, hl, hout, rfl, rfl⟩
 clear hK fail hP
 obtain ⟨st, hste⟩ : ∃ st, st = stepP caps m r := ⟨_, rfl⟩
 have hst : ∀ out x, st out x = if x.arcs.any (shortP caps (leftR m out) r) then out ++ [x.id] else out := fun out x => by rw [hste]; rfl
 rw [← hste] at k3
 clear hste
 generalize roomP caps m = rp at *
 obtain ⟨id, arcs, amt, setup, hold⟩ := r
 simp only [rqA, rsvH, hanH, intsA, intsD, List.cons_append, List.nil_append] at *
 generalize caps.map encI = cl at *
 generalize alh : List.map encI arcs = al at *
 have aln : Λ al = arcs.length := by rw [Λo, ← alh]; simp
 generalize mlh : m.map encM = ml at *
 conv => cbv
 repeat' first | (refine call_fr [0, 1] hpr rfl rfl (by decide) (by repeat' first | exact trivial | refine And.intro ?_ ?_ | rfl) rfl rfl ?_; rintro r hc' ⟨rfl, rfl⟩; (conv => cbv)) | (refine vlkM mlh (fun h0 => ?_) (fun i x hx => ?_); (conv => cbv); rotate_left; obtain ⟨xi, xa, xm, xs, xh⟩ := x; simp only [encRq, intsD, avDV]; generalize xa.map encI = xl; (conv => cbv)) | exact gu | exact trivial | refine And.intro ?_ ?_ | (intro hc; exact absurd hc (by decide)) | (intro hc; exfalso; omega) | (intro hc; (first | rw [wrap_small (by omega) (by omega)] at hc | rw [nI_eq] at hc | skip); try (conv => cbv))
 ·exact k1 hx.idx.1 _
 have hnd := h0
 clear k1 hpr
 refine loop_upx arcs.length (fun (i : Int) => [(2, .c (.ptr 2 0 0 0)), (3, .c (.ptr 3 0 0 0)), (32, .c (.d (.list false 1 al))), (33, iA (Λ al)), (34, iA i)])
  (fun _ => [.bx [.d (.list false 1 cl), .mp 1], .mp v ml, .bx [.ptr 0 0 0 0], .bx [.d (iD id), .d (.list false 1 al), .d (iD amt), .d (iD setup), .d (iD hold)]])
  (fun k i => i = k ∧ k ≤ arcs.length ∧ ∀ a ∈ arcs.take k, ¬ rp a setup < amt) 0 0
  (fun (_ : Unit) => [(2, .c (.ptr 2 0 0 0)), (3, .c (.ptr 3 0 0 0))]) (fun _ => [.bx [.d (.list false 1 cl), .mp 1], .mp v ml, .bx [.ptr 0 0 0 0], .bx [.d (iD id), .d (.list false 1 al), .d (iD amt), .d (iD setup), .d (iD hold)]]) (fun _ => ∀ a ∈ arcs, ¬ rp a setup < amt)
  (Wk.ca) ⟨rfl, by omega, by simp⟩ (fun k s h => h.2.1) ?_ ?_
 ·rintro k i Q' ⟨hi, hk, hno⟩ norm jn ex rt
  by_cases hlt : k < arcs.length
  ·clear jn
   obtain ⟨x, hx⟩ : ∃ x, arcs[k]? = some x := ⟨_, List.getElem?_eq_getElem hlt⟩
   have hxa := elt_at alh hi hx
   have hrx := hroom x
   have k2x := k2 hnd x (List.mem_of_getElem? hx)
   have nxt : ¬ rp x setup < amt → ∀ y ∈ arcs.take (k + 1), ¬ rp y setup < amt := fun h y hy => by
    rw [take_succ_get hx] at hy
    rcases List.mem_append.1 hy with hy | hy
    ·exact hno y hy
    ·simp only [List.mem_singleton] at hy; subst hy; exact h
   generalize rp x setup = b at *
   conv => cbv
   repeat' first | (refine ex _ _ _ ?_; (conv => cbv)) | (refine rt _ _ ?_; (conv => cbv)) | (intro e he; cases Option.some.inj (he.symm.trans hxa); (conv => cbv)) | exact gu | exact trivial | refine And.intro ?_ ?_ | (intro hc; exact absurd hc (by decide)) | (intro hc; exfalso; omega) | (intro hc; (first | rw [wrap_small (by omega) (by omega)] at hc | rw [nI_eq] at hc | skip); try (conv => cbv))
   refine call_ro [0, 1] hrx (Nat.succ_pos _) (fun _ => rfl) rfl (by decide) (fun _ => by repeat' first | exact trivial | refine And.intro ?_ ?_ | rfl) rfl rfl (fun _ => rfl) (fun p h1 h2 => ?_) ?_
   ·have q0 : p 0 := h1 (.c (.ptr 0 0 0 0)) (by simp [evsN, evN, lkN])
    have q1 : p 1 := h2 0 _ q0 rfl (.mp 1) (by simp)
    intro l hl
    simp only [List.mem_cons, List.not_mem_nil, or_false] at hl
    rcases hl with rfl | rfl <;> assumption
   conv => cbv
   repeat' first | (refine ex _ _ _ ?_; (conv => cbv)) | (refine rt _ _ ?_; (conv => cbv)) | exact gu | exact trivial | refine And.intro ?_ ?_ | (intro hc; exact absurd hc (by decide)) | (intro hc; exfalso; omega) | (intro hc; (first | rw [wrap_small (by omega) (by omega)] at hc | rw [nI_eq] at hc | skip); try (conv => cbv))
   ·exact k2x (by omega) _
   ·refine norm _ _ _ ?_ (Wk.ca)
    exact ⟨by omega, by omega, nxt (by omega)⟩
  ·obtain rfl : k = arcs.length := by omega
   rw [List.take_length] at hno
   clear norm
   conv => cbv
   repeat' first | exact gu | exact trivial | refine And.intro ?_ ?_ | (intro hc; exact absurd hc (by decide)) | (intro hc; exfalso; omega) | (intro hc; (first | rw [wrap_small (by omega) (by omega)] at hc | rw [nI_eq] at hc | skip); try (conv => cbv))
   exact jn _ _ () hno (Wk.ca)
 rintro - hno
 have k3 := k3 hnd hno
 clear k2 hroom
 conv => cbv
 repeat' first | (refine call_fr [0, 1] hyl rfl rfl (by decide) (by repeat' first | exact trivial | refine And.intro ?_ ?_ | rfl) rfl rfl ?_; rintro r hc' ⟨⟨ll, ⟨l, hyd, hle⟩, rfl⟩, rfl⟩; (conv => cbv)) | exact gu | exact trivial | refine And.intro ?_ ?_ | (intro hc; exact absurd hc (by decide)) | (intro hc; exfalso; omega) | (intro hc; (first | rw [wrap_small (by omega) (by omega)] at hc | rw [nI_eq] at hc | skip); try (conv => cbv))
 have llh : l.map encRq = ll := hle.symm
 have lln : Λ ll = l.length := by rw [Λo, ← llh]; simp
 have hlm : ∀ x ∈ l, x ∈ m := fun x hx => (List.mem_filter.1 (hyd.1.mem_iff.1 hx)).1
 have hll : l.length ≤ 100000 := by
  have h1 := hyd.1.length_eq
  have h2 := List.length_filter_le (fun x : Rq => decide (setup < x.hold)) m
  have h3 := hs.2
  omega
 have hli : Ids l := by
  have h1 : (m.map fun x : Rq => x.id).Nodup := hid
  have h2 : ((m.filter fun x : Rq => decide (setup < x.hold)).map fun x : Rq => x.id).Nodup := List.Nodup.sublist (List.Sublist.map _ List.filter_sublist) h1
  exact (hyd.1.map fun x : Rq => x.id).nodup_iff.2 h2
 have k3 := k3 l hyd
 clear hyl hyd
 refine loop_up l.length (fun (s : Int × Nat × Bool × Nat × List (List D) × Nat × List (DV × DV)) => [(2, .c (.ptr 2 0 0 0)), (3, .c (.ptr 3 0 0 0)), (10, .c (.arr 4 s.2.1 0 s.2.2.2.1)), (49, .c (.d (.list false 5 ll))), (50, iA (Λ ll)), (51, iA s.1)])
  (fun s => [.bx [.d (.list false 1 cl), .mp 1], .mp s.2.2.2.2.2.1 s.2.2.2.2.2.2, .bx [.ptr 0 0 0 0], .bx [.d (iD id), .d (.list false 1 al), .d (iD amt), .d (iD setup), .d (iD hold)], .da s.2.2.1 s.2.1 1 s.2.2.2.2.1])
  (fun k s => ∃ out : List Int, s.1 = k ∧ k ≤ l.length ∧ out = (l.take k).foldl st [] ∧ (leftR m out).map encM = s.2.2.2.2.2.2 ∧ s.2.2.2.2.1 = out.map encI ∧ s.2.2.2.1 = out.length ∧ out.length ≤ k ∧ ∀ j ∈ out, ∃ y ∈ l.take k, y.id = j) (0, 0, false, 0, [], v, ml)
  (.trans (.nilS 10 1 rfl) (Wk.ca)) ⟨[], rfl, by omega, rfl, by rw [← mlh, leftR, List.filter_eq_self.2 (by simp)], rfl, rfl, by simp, by simp⟩ (fun k s h => h.choose_spec.2.1) ?_
 rintro k ⟨i, ve, rr, n, es, v', ml'⟩ Q' ⟨out, hi, hk, hout, hml, hes, hn, hol, hof⟩ norm ex rt
 simp only at hi hml hes hn
 by_cases hlt : k < l.length
 ·clear k3 hcl
  have hmem := fun x (hx : l[k]? = some x) => (mem_left (out := out) (hlm x (List.mem_of_getElem? hx)) fun h => by
   obtain ⟨y, hy, e⟩ := hof _ h
   exact hli.at hx hy e)
  have hstk := fun x (hx : l[k]? = some x) => (show (l.take (k + 1)).foldl st [] = st out x by rw [take_succ_get hx, List.foldl_append, ← hout]; rfl)
  have hxl := fun x (hx : l[k]? = some x) => hla x (hlm x (List.mem_of_getElem? hx))
  have hti := fun x (hx : l[k]? = some x) => take_succ_get hx
  have hcx := fun x (hx : l[k]? = some x) => hcon out v' x.arcs (hxl x hx)
  clear hcon hxl
  obtain ⟨⟨xi, xa, xm, xs, xh⟩, hx⟩ : ∃ x, l[k]? = some x := ⟨_, List.getElem?_eq_getElem hlt⟩
  have hxa := elt_at llh hi hx
  simp only [encRq, intsD] at hxa
  generalize hxe : xa.map encI = xl at *
 
  have hmx := hmem _ hx
  have hsx := hstk _ hx
  have htx := hti _ hx
  have hcx := hcx _ hx
  rw [hst] at hsx
  simp only [hxe, hml] at hcx hsx hmx
  clear hmem hstk hti hst
  generalize xa.any (shortP caps (leftR m out) ⟨id, arcs, amt, setup, hold⟩) = b at *
  obtain ⟨n1, hn1⟩ : ∃ n1, n1 = n + 1 := ⟨_, rfl⟩
  obtain ⟨e1, he1⟩ : ∃ e1, e1 = es ++ [[iD xi]] := ⟨_, rfl⟩
  have hel : es.length = n := by rw [hes, hn, List.length_map]
  conv => cbv
  repeat' first | (refine ex _ _ _ ?_; (conv => cbv)) | (refine rt _ _ ?_; (conv => cbv)) | (intro e he; cases Option.some.inj (he.symm.trans hxa); (conv => cbv)) | (refine call_fr [0, 1, 2, 3] hcx rfl rfl (by decide) (by repeat' first | exact trivial | refine And.intro ?_ ?_ | rfl) rfl rfl ?_; rintro r hc' ⟨rfl, rfl⟩; (conv => cbv)) | exact gu | exact trivial | refine And.intro ?_ ?_ | (intro hc; exact absurd hc (by decide)) | (intro hc; exfalso; omega) | (intro hc; (first | rw [wrap_small (by omega) (by omega)] at hc | rw [nI_eq] at hc | skip); try (conv => cbv))
  cases b with
  | true =>
   repeat' first | (refine ex _ _ _ ?_; (conv => cbv)) | (refine rt _ _ ?_; (conv => cbv)) | (refine vdelM hml (fun h0 => absurd hmx h0) (fun i2 x2 hx2 es' he => ?_); (conv => cbv)) | (intro (m : Nat) (r : Bool) (y : List (List D)) hm hr hy; refine (fun (hz : n1 = m) (hz2 : e1 = y) => ?_) (by first | omega | (simp only [List.length_cons, List.length_nil] at hm; omega)) (by first | (rw [hy, List.drop_zero, List.take_of_length_le (by omega)]; exact he1) | (rw [hy]; exact he1)); subst hz; subst hz2; (conv => cbv)) | exact gu | exact trivial | refine And.intro ?_ ?_ | (intro hc; exact absurd hc (by decide)) | (intro hc; exfalso; omega) | (intro hc; (first | rw [wrap_small (by omega) (by omega)] at hc | rw [nI_eq] at hc | skip); try (conv => cbv))
   refine norm _ _ (_, _, _, _, _, _, _) ?_ (Wk.ca)
   rw [if_pos rfl] at hsx
   have hei := erase_left hid out xi
   rw [hx2.idx.2] at hei
   exact ⟨out ++ [xi], by simp only; omega, by omega, hsx.symm, by simp only; rw [he, hei], by simp only; rw [he1, hes]; simp [encI], by simp only; rw [hn1, hn]; simp, by simp; omega, fun j hj => by
    rw [htx]
    rcases List.mem_append.1 hj with hj | hj
    ·obtain ⟨y, hy, e⟩ := hof j hj; exact ⟨y, List.mem_append_left _ hy, e⟩
    ·simp only [List.mem_singleton] at hj; exact ⟨_, List.mem_append_right _ (List.mem_singleton.2 rfl), hj.symm⟩⟩
  | false =>
   repeat' first | (refine ex _ _ _ ?_; (conv => cbv)) | (refine rt _ _ ?_; (conv => cbv)) | exact gu | exact trivial | refine And.intro ?_ ?_ | (intro hc; exact absurd hc (by decide)) | (intro hc; exfalso; omega) | (intro hc; (first | rw [wrap_small (by omega) (by omega)] at hc | rw [nI_eq] at hc | skip); try (conv => cbv))
   refine norm _ _ (_, _, _, _, _, _, _) ?_ (Wk.ca)
   rw [if_neg (by simp)] at hsx
   exact ⟨out, by simp only; omega, by omega, hsx.symm, hml, hes, hn, by omega, fun j hj => by obtain ⟨y, hy, e⟩ := hof j hj; exact ⟨y, by rw [htx]; exact List.mem_append_left _ hy, e⟩⟩
 ·obtain rfl : k = l.length := by omega
  rw [List.take_length] at hout
  clear norm hcon hst
  have hnl : id ∉ (leftR m out).map (·.id) := fun h => by
   obtain ⟨y, hy, e⟩ := List.mem_map.1 h
   exact hnd (List.mem_map.2 ⟨y, (List.mem_filter.1 hy).1, e⟩)
  have hml2 : ∀ es', es' = ml' ++ [(.s (.int .i64 id), .g [iD id, .list false 1 al, iD amt, iD setup, iD hold])] → es' = (leftR m out ++ [(⟨id, arcs, amt, setup, hold⟩ : Rq)]).map encM := fun es' h => by
   rw [h, List.map_append, hml, List.map_singleton, encM, encRq, intsD, alh]
  conv => cbv
  repeat' first | (refine ex _ _ _ ?_; (conv => cbv)) | (refine rt _ _ ?_; (conv => cbv)) | (refine call_r hcl rfl rfl ?_; conv => cbv) | (refine vupM hml hnl (fun es' he => ?_); (conv => cbv)) | exact gu | exact trivial | refine And.intro ?_ ?_ | (intro hc; exact absurd hc (by decide)) | (intro hc; exfalso; omega) | (intro hc; (first | rw [wrap_small (by omega) (by omega)] at hc | rw [nI_eq] at hc | skip); try (conv => cbv))
  exact k3 _ _ _ _ _ _ _ [] _ out hout hn hes (hml2 _ he)
end Go.Ab

/-
  Reservations, part o: the program's answers are the reference's.
-/
namespace Go.Ab
open Go.Proofs
structure TbI (t : Top) (l : List Rq) : Prop where
 srt : l.Pairwise fun a b => a.id < b.id
 prop : ∀ r ∈ l, PropN (2 * t.links.length) r
 len : l.length ≤ 1000
theorem arcsT_v {t : Top} (h : validT t = true) : arcsT t = 2 * t.links.length := by rw [arcsT, if_pos h]
theorem ids_srt {l : List Rq} (h : l.Pairwise fun a b => a.id < b.id) : Ids l := by
 rw [Ids, List.Nodup, List.pairwise_map]
 exact h.imp fun h e => by omega
theorem TbI.ids {t : Top} {l : List Rq} (h : TbI t l) : Ids l := ids_srt h.srt
theorem TbI.sml {t : Top} {l : List Rq} (h : TbI t l) : Sml l := ⟨fun r hr => by have := (h.prop r hr).2.1; omega, by have := h.len; omega⟩
theorem TbI.nil (t : Top) : TbI t [] := ⟨.nil, by simp, by simp⟩
theorem TbI.sub {t : Top} {l l' : List Rq} (h : TbI t l) (hs : l'.Sublist l) : TbI t l' :=
 ⟨h.srt.sublist hs, fun r hr => h.prop r (hs.subset hr), Nat.le_trans hs.length_le h.len⟩
theorem TbI.rel {t : Top} {l : List Rq} (h : TbI t l) (id : Int) : TbI t (relS l id).1 := by
 unfold relS
 split
 ·exact h.sub (List.eraseIdx_sublist _ _)
 ·exact h
theorem TbI.left {t : Top} {l : List Rq} (h : TbI t l) (out : List Int) : TbI t (leftR l out) := h.sub List.filter_sublist
theorem withR_mem {r : Rq} : ∀ {l : List Rq} {x : Rq}, x ∈ withR r l ↔ x = r ∨ x ∈ l := by
 intro l
 induction l with
 | nil => intro x; simp [withR]
 | cons y l ih =>
  intro x
  rw [withR]
  split
  ·simp
  ·simp only [List.mem_cons, ih]; constructor
   ·rintro (h | h | h) <;> simp [h]
   ·rintro (h | h | h) <;> simp [h]
theorem withR_perm (r : Rq) : ∀ l : List Rq, (withR r l).Perm (r :: l) := by
 intro l
 induction l with
 | nil => exact .refl _
 | cons y l ih =>
  rw [withR]
  split
  ·exact .refl _
  ·exact (ih.cons y).trans (.swap r y l)
theorem withR_srt {r : Rq} : ∀ {l : List Rq}, l.Pairwise (fun a b => a.id < b.id) → r.id ∉ l.map (·.id) → (withR r l).Pairwise fun a b => a.id < b.id := by
 intro l
 induction l with
 | nil => intro _ _; simp [withR]
 | cons y l ih =>
  intro h hn
  rw [List.pairwise_cons] at h
  simp only [List.map_cons, List.mem_cons, not_or] at hn
  rw [withR]
  split
  ·next hlt =>
   refine List.pairwise_cons.2 ⟨fun z hz => ?_, List.pairwise_cons.2 h⟩
   rcases List.mem_cons.1 hz with rfl | hz
   ·exact hlt
   ·have := h.1 z hz; omega
  ·next hlt =>
   refine List.pairwise_cons.2 ⟨fun z hz => ?_, ih h.2 hn.2⟩
   rcases withR_mem.1 hz with rfl | hz
   ·omega
   ·exact h.1 z hz
theorem TbI.res {t : Top} {l : List Rq} (h : TbI t l) (hv : validT t = true) (r : Rq) (hl : l.length < 1000) : TbI t (resS t l r).1 := by
 unfold resS
 split
 ·exact h
 ·next hp =>
  rw [arcsT_v hv, Classical.not_not] at hp
  split
  ·exact h
  ·next hid =>
   split
   ·exact h
   ·have hlf := h.left (preS t l r)
    refine ⟨withR_srt hlf.srt fun hm => hid ?_, fun x hx => ?_, ?_⟩
    ·obtain ⟨y, hy, e⟩ := List.mem_map.1 hm
     exact List.mem_map.2 ⟨y, (List.mem_filter.1 hy).1, e⟩
    ·rcases withR_mem.1 hx with rfl | hx
     ·exact hp
     ·exact hlf.prop x hx
    ·rw [(withR_perm _ _).length_eq, List.length_cons]
     have := List.length_filter_le (fun x : Rq => decide (x.id ∉ preS t l r)) l
     rw [leftR]; omega
theorem res_len (t : Top) (l : List Rq) (r : Rq) : (resS t l r).1.length ≤ l.length + 1 := by
 unfold resS
 repeat' split
 ·simp
 ·simp
 ·simp
 ·rw [(withR_perm _ _).length_eq, List.length_cons]
  have := List.length_filter_le (fun x : Rq => decide (x.id ∉ preS t l r)) l
  simp only [leftR]; omega
theorem rel_len (l : List Rq) (id : Int) : (relS l id).1.length ≤ l.length := by
 unfold relS
 split
 ·exact (List.eraseIdx_sublist _ _).length_le
 ·simp
theorem rel_ref {m l : List Rq} (hp : m.Perm l) (hd : Ids l) (id : Int) : (relS m id).2 = (relS l id).2 ∧ (relS m id).1.Perm (relS l id).1 := by
 have hdm : Ids m := (hp.map fun x : Rq => x.id).nodup_iff.2 hd
 have hi : id ∈ m.map (·.id) ↔ id ∈ l.map (·.id) := (hp.map fun x : Rq => x.id).mem_iff
 unfold relS
 by_cases h : id ∈ l.map (·.id)
 ·rw [if_pos h, if_pos (hi.2 h), erase_id hd, erase_id hdm]
  exact ⟨rfl, hp.filter _⟩
 ·rw [if_neg h, if_neg (fun x => h (hi.1 x))]
  exact ⟨rfl, hp⟩
theorem cap_at {t : Top} (hv : validT t = true) {a : Int} (h0 : 0 ≤ a) (h1 : a < 2 * t.links.length) : capAt (capsT t) a = (lkAt t a).cap := by
 obtain ⟨h, _⟩ := cap_le hv h0 h1
 rw [capAt, capsT, List.getElem?_map, h]; rfl
theorem room_ref {t : Top} (hv : validT t = true) {m l : List Rq} (hp : m.Perm l) (a p : Int) : roomP (capsT t) m a p = roomS t l a p := by
 have hl : (capsT t).length = t.links.length := List.length_map _
 have hi : isR t a ↔ 0 ≤ a ∧ a < 2 * (t.links.length : Int) := by rw [isR, arcsT_v hv]
 unfold roomP roomS
 rw [hl]
 by_cases h : 0 ≤ a ∧ a < 2 * (t.links.length : Int)
 ·rw [if_pos h, if_pos (hi.2 h), cap_at hv h.1 h.2, sumR_perm hp]
 ·rw [if_neg h, if_neg (fun x => h (hi.1 x))]
theorem use_ref {t : Top} (hv : validT t = true) {m l : List Rq} (hp : m.Perm l) (ht : TbI t l) (a : Int) : sumR (fun _ => true) a m = useS t l a := by
 rw [sumR_perm hp, useS]
 by_cases h : isR t a
 ·rw [if_pos h]
 ·rw [if_neg h]
  have : ∀ r ∈ l, wtR (fun _ => true) a r = 0 := fun r hr => by
   rw [wtR, if_neg]
   rintro ⟨_, ha⟩
   refine h ?_
   rw [isR, arcsT_v hv]
   exact (ht.prop r hr).2.2.2.2.2 a ha
  clear hp ht
  rw [sumR]
  induction l with
  | nil => rfl
  | cons x l ih =>
   rw [List.map_cons, List.sum_cons, this x (by simp), ih fun r hr => this r (by simp [hr])]; rfl
theorem mem_cdn {l : List Rq} {n : Nat} {x : Rq} : x ∈ cdn l n ↔ x ∈ l ∧ 7 - (n : Int) < x.hold ∧ x.hold ≤ 7 := by
 induction n with
 | zero => simp only [cdn, List.not_mem_nil, false_iff]; omega
 | succ n ih =>
  rw [cdn, List.mem_append, ih, List.mem_filter, decide_eq_true_eq]
  constructor
  ·rintro (⟨h1, h2⟩ | ⟨h1, h2⟩)
   ·exact ⟨h1, by omega⟩
   ·exact ⟨h1, by omega⟩
  ·rintro ⟨h1, h2⟩
   by_cases h : x.hold = 7 - (n : Int)
   ·exact .inr ⟨h1, h⟩
   ·exact .inl ⟨h1, by omega⟩
theorem cdn_srt {l : List Rq} (h : l.Pairwise fun a b => a.id < b.id) (n : Nat) : (cdn l n).Pairwise HoldLt := by
 induction n with
 | zero => exact .nil
 | succ n ih =>
  rw [cdn, List.pairwise_append]
  refine ⟨ih, ?_, fun a ha b hb => ?_⟩
  ·refine (h.sublist List.filter_sublist).imp_of_mem fun {a b} ha hb hlt => ?_
   have e1 := (List.mem_filter.1 ha).2
   have e2 := (List.mem_filter.1 hb).2
   simp only [decide_eq_true_eq] at e1 e2
   rw [HoldLt, cmpH_lt]; omega
  ·have e1 := (mem_cdn.1 ha).2
   have e2 := (List.mem_filter.1 hb).2
   simp only [decide_eq_true_eq] at e2
   rw [HoldLt, cmpH_lt]; omega
theorem cdn_nodup {l : List Rq} (h : l.Nodup) (n : Nat) : (cdn l n).Nodup := by
 induction n with
 | zero => exact .nil
 | succ n ih =>
  rw [cdn, List.nodup_append]
  refine ⟨ih, h.sublist List.filter_sublist, fun a ha b hb e => ?_⟩
  subst e
  have e1 := (mem_cdn.1 ha).2
  have e2 := (List.mem_filter.1 hb).2
  simp only [decide_eq_true_eq] at e2
  omega
theorem yld_cdn {t : Top} {m l : List Rq} {s : Int} {ys : List Rq} (ht : TbI t l) (hp : m.Perm l) (hy : YldL m s ys) (h0 : s ≤ 7) : ys = cdn l (7 - s).toNat := by
 have hnd : l.Nodup := ht.srt.imp fun h e => by subst e; omega
 have hperm : ys.Perm (cdn l (7 - s).toNat) := by
  refine (hy.1.trans (hp.filter _)).trans ?_
  refine (List.perm_ext_iff_of_nodup (hnd.sublist List.filter_sublist) (cdn_nodup hnd _)).2 fun x => ?_
  rw [List.mem_filter, mem_cdn, decide_eq_true_eq]
  constructor
  ·rintro ⟨h1, h2⟩
   have := (ht.prop x h1).2.2
   exact ⟨h1, by omega⟩
  ·rintro ⟨h1, h2⟩
   exact ⟨h1, by omega⟩
 refine List.Perm.eq_of_pairwise (le := HoldLt) (fun a b ha hb h1 h2 => ?_) hy.2 (cdn_srt ht.srt _) hperm
 rw [HoldLt, cmpH_lt] at h1 h2
 refine ht.ids.inj (mem_cdn.1 (hperm.mem_iff.1 ha)).1 (mem_cdn.1 hb).1 (by omega)
theorem left_perm {m l : List Rq} (hp : m.Perm l) (out : List Int) : (leftR m out).Perm (leftR l out) := hp.filter _
theorem step_ref {t : Top} (hv : validT t = true) {m l : List Rq} (hp : m.Perm l) (ht : TbI t l) {r : Rq} (hr : PropN (2 * t.links.length) r) (out : List Int) (x : Rq) : stepP (capsT t) m r out x = preStep t l r out x := by
 have : (x.arcs.any (shortP (capsT t) (leftR m out) r)) = shortS t (leftR l out) x r := by
  rw [Bool.eq_iff_iff, shortS, List.any_eq_true, List.any_eq_true]
  simp only [shortP, shortA, Bool.and_eq_true, decide_eq_true_eq]
  have e : ∀ a ∈ r.arcs, (capAt (capsT t) a - sumR (fun _ => true) a (leftR m out) < r.amt ↔ (lkAt t a).cap - useS t (leftR l out) a < r.amt) := fun a ha => by
   have := hr.2.2.2.2.2 a ha
   rw [cap_at hv this.1 this.2, use_ref hv (left_perm hp out) (ht.left out)]
  constructor
  ·rintro ⟨a, h1, h2, h3⟩; exact ⟨a, h2, h1, (e a h2).1 h3⟩
  ·rintro ⟨a, h1, h2, h3⟩; exact ⟨a, h2, h1, (e a h1).2 h3⟩
 rw [stepP, preStep, this]
theorem res_ref {t : Top} (hv : validT t = true) {m l m' : List Rq} {r : Rq} {out : List Int} {e : Int} (hp : m.Perm l) (ht : TbI t l) (h : ResP (capsT t) m r m' out e) :
  out = (resS t l r).2.1 ∧ e = (resS t l r).2.2 ∧ m'.Perm (resS t l r).1 := by
 have hl : (capsT t).length = t.links.length := List.length_map _
 unfold ResP at h
 unfold resS
 rw [hl] at h
 rw [arcsT_v hv]
 by_cases hpr : PropN (2 * t.links.length) r
 rotate_left
 ·rw [if_pos hpr] at h ⊢
  obtain ⟨rfl, rfl, rfl⟩ := h
  exact ⟨rfl, rfl, hp⟩
 rw [if_neg (not_not_intro hpr)] at h ⊢
 have hi : r.id ∈ m.map (·.id) ↔ r.id ∈ l.map (·.id) := (hp.map fun x : Rq => x.id).mem_iff
 by_cases hid : r.id ∈ l.map (·.id)
 ·rw [if_pos hid]; rw [if_pos (hi.2 hid)] at h
  obtain ⟨rfl, rfl, rfl⟩ := h
  exact ⟨rfl, rfl, hp⟩
 rw [if_neg hid]; rw [if_neg (fun x => hid (hi.1 x))] at h
 have hf : (r.arcs.any fun a => decide (roomP (capsT t) m a r.setup < r.amt)) = fullS t l r := by
  rw [fullS]; congr 1; funext a; rw [room_ref hv hp]
 rw [hf] at h
 by_cases hfu : fullS t l r = true
 ·rw [if_pos hfu] at h ⊢
  obtain ⟨rfl, rfl, rfl⟩ := h
  exact ⟨rfl, rfl, hp⟩
 rw [if_neg hfu] at h ⊢
 obtain ⟨ys, h1, h2, rfl, rfl⟩ := h
 rw [yld_cdn ht hp h1 (by have := hpr.2.2.1; omega)] at h2
 have he : out = preS t l r := by
  rw [h2, preS]
  congr 1
  funext o x
  exact step_ref hv hp ht hpr o x
 clear h2
 subst he
 refine ⟨rfl, rfl, ?_⟩
 exact (List.perm_append_comm.trans ((left_perm hp _).cons r)).trans (withR_perm _ _).symm
end Go.Ab

/-
  Reservations, part p: a copy of a table.
-/
namespace Go.Ab
open Go.Proofs
theorem tcopy_ok (P : Program) (hP : P = Try.prog) (caps : List Int) (v : Nat) (m : List Rq) (hid : Ids m) (hla : ∀ x ∈ m, x.arcs.length ≤ 1000000) (hc : caps.length ≤ 1000000) :
  FnS P n_reserve_Table_Copy [.c (.ptr 0 0 0 0)] (rsvH caps v m) fun r' h' => ∃ (v2 : Nat) (m2 : List Rq), m2.Perm m ∧ r' = .c (.ptr 2 0 0 0) ∧ h' = rsvH caps v m ++ [.bx [.d (intsD caps), .mp 3], .mp v2 (m2.map encM)] := by
 have h1 : FnS P n_reserve_Table_Copy [.c (.ptr 0 0 0 0)] (rsvH caps v m) fun r' h' => ∃ (v2 : Nat) (m2 : List Rq) (t : Hp), m2.Perm m ∧ r' = .c (.ptr 3 0 0 0) ∧ h' = rsvH caps v m ++ [.mp v2 (m2.map encM), .bx [.d (intsD caps), .mp 2]] ++ t := by
  have hcl := fun r h => clone_ok47 P hP r h
  have hci := cloneInts_ok P hP caps hc
  refine heap_start (hP ▸ mixed) (hP ▸ fn_reserve_Table_Copy) (hP ▸ c_reserve_Table_Copy) (Nat.le_of_ble_eq_true rfl) fun Λ Λo K hK => ?_
  clear hP
  have k1 : ∀ v2 (m2 : List Rq) ml2 t, m2.Perm m → m2.map encM = ml2 → K (.c (.ptr 3 0 0 0)) (rsvH caps v m ++ [.mp v2 ml2, .bx [.d (intsD caps), .mp 2]] ++ t) := fun v2 m2 ml2 t h1 h2 => by
   subst h2; exact hK _ _ ⟨v2, m2, t, h1, rfl, rfl⟩
  clear hK
  simp only [rsvH, intsA, intsD, List.cons_append, List.nil_append] at *
  generalize caps.map encI = cl at *
  generalize mlh : m.map encM = ml at *
  conv => cbv
  repeat' first | (refine call_r hci rfl rfl ?_; conv => cbv) | exact gu | exact trivial | refine And.intro ?_ ?_ | (intro hc; exact absurd hc (by decide)) | (intro hc; exfalso; omega) | (intro hc; (first | rw [wrap_small (by omega) (by omega)] at hc | rw [nI_eq] at hc | skip); try (conv => cbv))
  refine loop_up m.length (fun (s : Nat × List (DV × DV) × (DV × DV) × List (DV × DV)) => [(3, .c (.ptr 3 0 0 0)), (20, .c (.it 4))])
   (fun s => [.bx [.d (.list false 1 cl), .mp 1], .mp v ml, .mp s.1 s.2.1, .bx [.d (.list false 1 cl), .mp 2], .mi 1 v (s.2.2.1 :: s.2.2.2)])
   (fun k s => ∃ dn rs : List Rq, (dn ++ rs).Perm m ∧ s.2.2.2 = rs.map encM ∧ dn.map encM = s.2.1 ∧ dn.length = k) (0, [], (.g [], .g []), ml) (Wk.ca) ⟨[], m, by simp, mlh.symm, rfl, rfl⟩ (fun k s h => by obtain ⟨dn, rs, h1, _, _, h2⟩ := h; have := h1.length_eq; simp at this; omega) ?_
  rintro k ⟨v2, ml2, e0, rest⟩ Q' ⟨dn, rs, hpm, hrs, hml2, hlen⟩ norm ex rt
  simp only at hrs hml2
  have lf := fun (e : rest = []) (t : Hp) => k1 v2 dn ml2 t (by
   have : rs = [] := by rw [hrs] at e; simpa using e
   subst this
   rw [List.append_nil] at hpm
   exact hpm) hml2
  have next : ∀ (j : Nat) (x : Rq) (rest' : List (DV × DV)), rs[j]? = some x → rest' = rest.eraseIdx j → x.id ∉ dn.map (·.id) ∧ ∃ rs' : List Rq, (dn ++ [x] ++ rs').Perm m ∧ rest' = rs'.map encM ∧ (dn ++ [x]).length = k + 1 := fun j x rest' hx hr => by
   refine ⟨fun hm => ?_, rs.eraseIdx j, ?_, by rw [hr, hrs, map_erase], by simp [hlen]⟩
   ·have h1 : Ids (dn ++ rs) := (hpm.map fun x : Rq => x.id).nodup_iff.2 hid
    rw [Ids, List.map_append, List.nodup_append] at h1
    exact h1.2.2 _ hm _ (List.mem_map.2 ⟨x, List.mem_of_getElem? hx, rfl⟩) rfl
   ·rw [List.append_assoc]
    exact ((perm_erase hx).append_left dn).trans hpm
  have hlx := fun (j : Nat) (x : Rq) (hx : rs[j]? = some x) => hla x (hpm.mem_iff.1 (List.mem_append_right _ (List.mem_of_getElem? hx)))
  clear k1 hla
  conv => cbv
  repeat' first | (refine ex _ _ _ ?_; (conv => cbv)) | (refine rt _ _ ?_; (conv => cbv)) | (intro (j : Nat) (kk : DV) (y : DV) (rest' : List (DV × DV)) hj hr'; obtain ⟨⟨xi, xa, xm, xs, xh⟩, hx, e⟩ := map_get' hrs.symm hj; simp only [encM, encRq, intsD, Prod.mk.injEq] at e; obtain ⟨rfl, rfl⟩ := e; have nx := next j _ rest' hx hr'; have hcx := hcl _ (hlx j _ hx); simp only [rqA, intsD] at hcx; generalize hxe : xa.map encI = xl at *; (conv => cbv)) | (refine call_r hcx rfl rfl ?_; conv => cbv) | (refine vupM hml2 nx.1 (fun es' he => ?_); (conv => cbv)) | exact gu | exact trivial | refine And.intro ?_ ?_ | (intro hc; exact absurd hc (by decide)) | (intro hc; exfalso; omega) | (intro hc; (first | rw [wrap_small (by omega) (by omega)] at hc | rw [nI_eq] at hc | skip); try (conv => cbv))
  ·exact lf (by assumption) _
  ·obtain ⟨_, rs', q1, q2, q3⟩ := nx
   refine norm _ _ (_, _, _, _) ?_ (Wk.ca)
   exact ⟨_, rs', q1, q2, by rw [he, List.map_append, hml2, List.map_singleton, encM, encRq, intsD, hxe], q3⟩
 refine FnS.gct h1 _ fun r h' hR => ?_
 obtain ⟨v2, m2, t, hpm, rfl, rfl⟩ := hR
 exact ⟨[0, 1, 3, 2], .c (.ptr 2 0 0 0), rsvH caps v m ++ [.bx [.d (intsD caps), .mp 3], .mp v2 (m2.map encM)], ⟨v2, m2, hpm, rfl, rfl⟩, rfl, by decide, fun l hl => by simp at hl ⊢; omega,
   fun i k hk => by have := frOk_get (h := rsvH caps v m ++ [.mp v2 (m2.map encM), .bx [.d (intsD caps), .mp 2]] ++ t) (hc := rsvH caps v m ++ [Blk.bx [.d (intsD caps), .mp 3], Blk.mp v2 (m2.map encM)]) (n := 0) (ρ := rho [0, 1, 3, 2] (rsvH caps v m ++ [Blk.mp v2 (m2.map encM), Blk.bx [.d (intsD caps), .mp 2]] ++ t).length) (by repeat' first | exact trivial | refine And.intro ?_ ?_ | rfl) i k hk; rw [Nat.zero_add] at this; exact this,
   rfl, rfl, rfl, by simp, fun i hi => by (match i, hi with | 0, _ => rfl | 1, _ => rfl), fun k hk => by simp at hk; rcases hk with rfl | rfl | rfl | rfl <;> intro _ _ _ h <;> cases h⟩
end Go.Ab

/-
  Reservations, part q: the calls of a script.
-/
namespace Go.Ab
open Go.Proofs
theorem program_ok (P : Program) (hP : P = Try.prog) (r : Rq) (hl : r.arcs.length ≤ 1000000) : Ret P n_law47_program [rqA r] (rqA r) := by
 refine ret_start (hP ▸ mixed) (hP ▸ fn_law47_program) (hP ▸ c_law47_program) (Nat.le_of_ble_eq_true rfl) fun Λ Λo K hK => ?_
 clear hP
 obtain ⟨id, arcs, amt, setup, hold⟩ := r
 simp only [rqA, intsD] at *
 generalize alh : List.map encI arcs = al at *
 have aln : Λ al = arcs.length := by rw [Λo, ← alh]; simp
 have all : al.length ≤ 1000000 := by rw [← alh, List.length_map]; exact hl
 conv => cbv
 repeat' first | (intro (_ : Unit); simp; omega) | exact gu | exact trivial | refine And.intro ?_ ?_ | (intro hc; exact absurd hc (by decide)) | (intro hc; exfalso; omega) | (intro hc; (first | rw [wrap_small (by omega) (by omega)] at hc | rw [nI_eq] at hc | skip); try (conv => cbv))
 rename_i n b y h1 h2 h3 z
 have e : z = al := by rw [hc, h1, h3]; simp
 rw [e]; exact hK
theorem small_ok (P : Program) (hP : P = Try.prog) (t : Top) : Ret P n_law47_small [topA t] (bA (decide (t.links.length ≤ 10) && validT t)) := by
 have hv := valid_ok P hP t
 refine ret_start (hP ▸ mixed) (hP ▸ fn_law47_small) (hP ▸ c_law47_small) (Nat.le_of_ble_eq_true rfl) fun Λ Λo K hK => ?_
 clear hP
 have leaf : ∀ b, b = (decide (t.links.length ≤ 10) && validT t) → K (bA b) := fun b h => by rw [h]; exact hK
 clear hK
 generalize validT t = vt at *
 obtain ⟨nodes, ov, links⟩ := t
 simp only [topA, boolsD, linksD] at *
 generalize hol : ov.map encB = ol at *
 generalize hll : links.map encLk = ll at *
 have hlo : Λ ol = ov.length := by rw [Λo, ← hol]; simp
 have hls : Λ ll = links.length := by rw [Λo, ← hll]; simp
 conv => cbv
 repeat' first | refine call_b hv rfl rfl ?_ ?_ | exact gu | exact trivial | refine And.intro ?_ ?_ | (intro hc; exact absurd hc (by decide)) | (intro hc; exfalso; omega) | (intro hc; (first | rw [wrap_small (by omega) (by omega)] at hc | rw [nI_eq] at hc | skip); try (conv => cbv))
 all_goals refine leaf _ ?_
 all_goals first
  | (rw [decide_eq_true (by omega)]; first | rfl | (simp_all; done))
  | (rw [decide_eq_false (by omega)]; first | rfl | (simp_all; done))
theorem wr_fr {P : Program} {h : Hp} {f : Nat} {args' : List AV} {K : AV → Hp → Prop} {args : List AV} {hc : Hp} {R : AV → Hp → Prop} (σ : List Nat) (hf : FnS P f args hc R) (ha : args' = rnAs (rho σ h.length) args) (hlen : σ.length = hc.length) (hnd : σ.Nodup)
  (hh : frOk h (rho σ h.length) 0 hc) (hcl : refsH hc.length hc = true) (hca : args.all (refsA hc.length) = true) (k : ∀ r hc', R r hc' → K (rnA (rho σ h.length) r) (backH h σ hc')) : ∃ R', FnS P f args' h R' ∧ ∀ r h', R' r h' → K r h' := by
 subst ha
 refine ⟨_, hf.frame σ h hlen hnd (fun i b hb => by have := frOk_get hh i b hb; rw [Nat.zero_add] at this; exact this) hcl (fun x hx => List.all_eq_true.1 hca x hx), ?_⟩
 rintro r h' ⟨r0, hc', h1, rfl, rfl⟩
 exact k r0 hc' h1
def stepS (t : Top) (l : List Rq) (s : Stp) : List Rq := if s.rel then (relS l s.r.id).1 else (resS t l s.r).1
theorem capsT_le {t : Top} (hv : validT t = true) : (capsT t).length ≤ 1000 ∧ ∀ c ∈ capsT t, 0 ≤ c ∧ c ≤ 1048576 := by
 refine ⟨by rw [capsT, List.length_map]; have := (validT_spec.1 hv).2.2.1; omega, fun c hc => ?_⟩
 obtain ⟨x, hx, rfl⟩ := List.mem_map.1 hc
 obtain ⟨i, hi⟩ := List.getElem?_of_mem hx
 have hlt := get_lt hi
 have h := cap_le hv (a := 2 * (i : Int)) (by omega) (by omega)
 rw [show ((2 * (i : Int)) / 2).toNat = i by omega, hi] at h
 cases Option.some.inj h.1
 exact h.2
theorem trel_ref (P : Program) (hP : P = Try.prog) (caps : List Int) (v : Nat) {m l : List Rq} (id : Int) (hp : m.Perm l) (hd : Ids l) :
  FnS P n_reserve_Table_Release [.c (.ptr 0 0 0 0), iA id] (rsvH caps v m) fun r' h' => ∃ (v' : Nat) (m' : List Rq), m'.Perm (relS l id).1 ∧ r' = iA (relS l id).2 ∧ h' = rsvH caps v' m' := by
 refine (trel_ok P hP caps v m id).mono ?_
 rintro r' h' ⟨v', rfl, rfl⟩
 obtain ⟨h1, h2⟩ := rel_ref hp hd id
 exact ⟨v', _, h2, by rw [h1], rfl⟩
theorem tres_ref (P : Program) (hP : P = Try.prog) {t : Top} (v : Nat) {m l : List Rq} (r : Rq) (hv : validT t = true) (hp : m.Perm l) (ht : TbI t l) (hr : r.arcs.length ≤ 1000000) :
  FnS P n_reserve_Table_Reserve [.c (.ptr 0 0 0 0), rqA r] (rsvH (capsT t) v m) fun r' h' => ∃ (v' : Nat) (m' : List Rq), m'.Perm (resS t l r).1 ∧ r' = .tup [.c (.d (intsD (resS t l r).2.1)), iA (resS t l r).2.2] ∧ h' = rsvH (capsT t) v' m' := by
 have hids : Ids m := (hp.map fun x : Rq => x.id).nodup_iff.2 ht.ids
 have hsm : Sml m := ⟨fun r hr => ht.sml.1 r (hp.mem_iff.1 hr), by have := hp.length_eq; have := ht.len; omega⟩
 obtain ⟨c1, c2⟩ := capsT_le hv
 refine (tres_ok P hP (capsT t) v m r hsm hids (fun x hx => by have := (ht.prop x (hp.mem_iff.1 hx)).1; omega) hr c1 c2).mono ?_
 rintro r' h' ⟨es, x, ⟨m', out, e, v', h1, rfl, rfl, rfl⟩, rfl⟩
 obtain ⟨rfl, rfl, h2⟩ := res_ref hv hp ht h1
 exact ⟨v', m', h2, rfl, rfl⟩
theorem step_ok47 (P : Program) (hP : P = Try.prog) {t : Top} (v : Nat) {m l : List Rq} (s : Stp) (hv : validT t = true) (hp : m.Perm l) (ht : TbI t l) (hr : s.r.arcs.length ≤ 100000) :
  FnS P n_law47_step [.c (.ptr 0 0 0 0), tbA t l, stpA s] (rsvH (capsT t) v m) fun r' h' => ∃ (v' : Nat) (m' : List Rq), m'.Perm (stepS t l s) ∧ r' = .tup [tbA t (stepS t l s), bA true] ∧ h' = rsvH (capsT t) v' m' := by
 have h1 : FnS P n_law47_step [.c (.ptr 0 0 0 0), tbA t l, stpA s] (rsvH (capsT t) v m) fun r' h' => ∃ (v' : Nat) (m' : List Rq) (h2 : Hp), m'.Perm (stepS t l s) ∧ r' = .tup [tbA t (stepS t l s), bA true] ∧ h' = rsvH (capsT t) v' m' ++ h2 := by
  have hle := ht.len
  obtain ⟨rel, r⟩ := s
  simp only at hr
  refine heap_start (hP ▸ mixed) (hP ▸ fn_law47_step) (hP ▸ c_law47_step) (Nat.le_of_ble_eq_true rfl) fun Λ Λo K hK => ?_
  cases rel with
  | true =>
   have hrel := trel_ref P hP (capsT t) v r.id hp ht.ids
   have hrr := release_ok P hP t l r.id (by omega)
   have k1 : ∀ (v' : Nat) (m' : List Rq) me h2, m'.Perm (relS l r.id).1 → m'.map encM = me → K (.tup [tbA t (relS l r.id).1, bA true]) ([.bx [.d (intsD (capsT t)), .mp 1], .mp v' me] ++ h2) := fun v' m' me h2 h e => by subst e; exact hK _ _ ⟨v', m', h2, h, rfl, rfl⟩
   clear hK hP
   generalize (relS l r.id).1 = l1 at *
   generalize (relS l r.id).2 = e1 at *
   obtain ⟨id, arcs, amt, setup, hold⟩ := r
   simp only [rsvH, tbA, stpA, boolsD, linksD, rqsD, intsD, List.cons_append, List.nil_append] at *
   generalize (capsT t).map encI = cl at *
   generalize arcs.map encI = al at *
   generalize m.map encM = ml at *
   generalize t.ov.map encB = ol at *
   generalize t.links.map encLk = ll at *
   generalize l.map encRq = rl at *
   generalize l1.map encRq = rl1 at *
   conv => cbv
   repeat' first | (refine call_r hrr rfl rfl ?_; conv => cbv) | (refine wr_fr [0, 1] hrel rfl rfl (by decide) (by repeat' first | exact trivial | refine And.intro ?_ ?_ | rfl) rfl rfl ?_; rintro r hc' ⟨v', m', hpm, rfl, rfl⟩; generalize hme : List.map encM m' = me; (conv => cbv)) | exact gu | exact trivial | refine And.intro ?_ ?_ | (intro hc; exact absurd hc (by decide)) | (intro hc; exfalso; omega) | (intro hc; (first | rw [wrap_small (by omega) (by omega)] at hc | rw [nI_eq] at hc | skip); try (conv => cbv))
   exact k1 _ _ _ _ hpm hme
  | false =>
   have hrw := tres_ref P hP v r hv hp ht (by omega)
   have hrr := rres_ok P hP t l r hv ht.sml ht.ids (by omega) (by omega)
   have hpg := program_ok P hP r (by omega)
   have hsi := sameInts_ok P hP (resS t l r).2.1 (resS t l r).2.1
   rw [decide_eq_true rfl] at hsi
   have k1 : ∀ (v' : Nat) (m' : List Rq) me h2, m'.Perm (resS t l r).1 → m'.map encM = me → K (.tup [tbA t (resS t l r).1, bA true]) ([.bx [.d (intsD (capsT t)), .mp 1], .mp v' me] ++ h2) := fun v' m' me h2 h e => by subst e; exact hK _ _ ⟨v', m', h2, h, rfl, rfl⟩
   clear hK hP
   generalize (resS t l r).1 = l1 at *
   generalize (resS t l r).2.1 = o1 at *
   generalize (resS t l r).2.2 = e1 at *
   obtain ⟨id, arcs, amt, setup, hold⟩ := r
   simp only [rsvH, tbA, rqA, intsA, stpA, boolsD, linksD, rqsD, intsD, List.cons_append, List.nil_append] at *
   generalize (capsT t).map encI = cl at *
   generalize arcs.map encI = al at *
   generalize m.map encM = ml at *
   generalize t.ov.map encB = ol at *
   generalize t.links.map encLk = ll at *
   generalize l.map encRq = rl at *
   generalize l1.map encRq = rl1 at *
   generalize o1.map encI = ol1 at *
   conv => cbv
   repeat' first | (refine call_r hrr rfl rfl ?_; conv => cbv) | (refine call_r hpg rfl rfl ?_; conv => cbv) | refine call_b hsi rfl rfl ?_ ?_ | (refine call_fr [0, 1] hrw rfl rfl (by decide) (by repeat' first | exact trivial | refine And.intro ?_ ?_ | rfl) rfl rfl ?_; rintro r hc' ⟨v', m', hpm, rfl, rfl⟩; generalize hme : List.map encM m' = me; (conv => cbv)) | exact gu | exact trivial | refine And.intro ?_ ?_ | (intro hc; exact absurd hc (by decide)) | (intro hc; exfalso; omega) | (intro hc; (first | rw [wrap_small (by omega) (by omega)] at hc | rw [nI_eq] at hc | skip); try (conv => cbv))
   exact k1 _ _ _ _ hpm hme
 refine (FnS.cut2 h1 ?_).mono ?_
 ·rintro r' h' ⟨v', m', h2, _, rfl, rfl⟩
  exact ⟨_, _, rfl, rfl, rfl, rfl⟩
 ·rintro r' h1 ⟨h2, ⟨v', m', h3, hpm, rfl, e⟩, hl⟩
  exact ⟨v', m', hpm, rfl, (List.append_inj e hl).1⟩
end Go.Ab

/-
  Reservations, part r: both tables after a script.
-/
namespace Go.Ab
open Go.Proofs
def runS (t : Top) (l : List Rq) (s : List Stp) : List Rq := s.foldl (stepS t) l
theorem TbI.step {t : Top} {l : List Rq} (h : TbI t l) (hv : validT t = true) (s : Stp) (hl : l.length < 1000) : TbI t (stepS t l s) := by
 unfold stepS
 split
 ·exact h.rel _
 ·exact h.res hv _ hl
theorem step_len (t : Top) (l : List Rq) (s : Stp) : (stepS t l s).length ≤ l.length + 1 := by
 unfold stepS
 split
 ·have := rel_len l s.r.id; omega
 ·exact res_len t l s.r
theorem run_take {t : Top} {s : List Stp} {k : Nat} {x : Stp} (hx : s[k]? = some x) : runS t [] (s.take (k + 1)) = stepS t (runS t [] (s.take k)) x := by
 rw [take_succ_get hx, runS, List.foldl_append]; rfl
theorem run_len (t : Top) : ∀ (s : List Stp) (l : List Rq), (runS t l s).length ≤ l.length + s.length := by
 intro s
 induction s with
 | nil => intro l; simp [runS]
 | cons x s ih =>
  intro l
  have h1 := ih (stepS t l x)
  have h2 := step_len t l x
  simp only [runS, List.foldl_cons, List.length_cons] at *
  omega
theorem TbI.run {t : Top} (hv : validT t = true) : ∀ (s : List Stp) {l : List Rq}, TbI t l → l.length + s.length ≤ 1000 → TbI t (runS t l s) := by
 intro s
 induction s with
 | nil => intro l h _; exact h
 | cons x s ih =>
  intro l h hl
  simp only [List.length_cons] at hl
  have h2 := step_len t l x
  exact ih (h.step hv x (by omega)) (by omega)
theorem FnS.flag {P : Program} {f : Nat} {a0 a2 : AV} {l : List CV} {sz : Nat} {h : Hp} {R : AV → Hp → Prop} {fl : Bool} {es : List (List D)} (hfl : fl = true → es = []) (hf : FnS P f [a0, .agg (l ++ [.d (.list false sz es)]), a2] h R) :
  FnS P f [a0, .agg (l ++ [.d (.list fl sz es)]), a2] h R := by
 refine ⟨fun G ι w vs hr hv => hf.out G ι w vs hr ⟨hv.1, fun i v y h1 h2 => ?_⟩⟩
 match i, h2 with
 | 0, h2 => exact hv.2 0 v y h1 h2
 | 2, h2 => exact hv.2 2 v y h1 h2
 | 1, h2 =>
  cases h2
  obtain ⟨cs, rfl, k1, k2⟩ := inv_agg (hv.2 1 v _ h1 rfl)
  refine .agg cs _ (by rw [k1]; simp) fun j u x hu hx => ?_
  rcases Nat.lt_or_ge j l.length with hj | hj
  ·exact k2 j u x hu (by rw [List.getElem?_append_left hj] at hx ⊢; exact hx)
  ·have hjl := get_lt hx
   simp only [List.length_append, List.length_cons, List.length_nil] at hjl
   obtain rfl : j = l.length := by omega
   rw [List.getElem?_append_right (Nat.le_refl _), Nat.sub_self] at hx
   cases hx
   have h3 := k2 l.length u (.d (.list fl sz es)) hu (by rw [List.getElem?_append_right (Nat.le_refl _), Nat.sub_self]; rfl)
   cases fl with
   | false => exact h3
   | true =>
    obtain rfl := hfl rfl
    cases h3 with
    | d _ _ hd =>
     generalize hg : D.list true sz [] = g at hd
     cases hd <;> first | (cases hg; done) | skip
     cases hg
     exact .d _ _ (.nils _ _)
theorem vr_flag {G : Nat → Prop} {w : World} {ι : Io} {h : Hp} {v : Value} {l : List CV} {sz : Nat} {fl : Bool} {es : List (List D)} (hfl : fl = true → es = []) (h3 : VR G w ι h v (.agg (l ++ [.d (.list fl sz es)]))) : VR G w ι h v (.agg (l ++ [.d (.list false sz es)])) := by
 obtain ⟨cs, rfl, k1, k2⟩ := inv_agg h3
 refine .agg cs _ (by rw [k1]; simp) fun j u x hu hx => ?_
 rcases Nat.lt_or_ge j l.length with hj | hj
 ·exact k2 j u x hu (by rw [List.getElem?_append_left hj] at hx ⊢; exact hx)
 ·have hjl := get_lt hx
  simp only [List.length_append, List.length_cons, List.length_nil] at hjl
  obtain rfl : j = l.length := by omega
  rw [List.getElem?_append_right (Nat.le_refl _), Nat.sub_self] at hx
  cases hx
  have h3 := k2 l.length u (.d (.list fl sz es)) hu (by rw [List.getElem?_append_right (Nat.le_refl _), Nat.sub_self]; rfl)
  cases fl with
  | false => exact h3
  | true =>
   obtain rfl := hfl rfl
   cases h3 with
   | d _ _ hd =>
    generalize hg : D.list true sz [] = g at hd
    cases hd <;> first | (cases hg; done) | skip
    cases hg
    exact .d _ _ (.nils _ _)
theorem FnS.unflag3 {P : Program} {f : Nat} {args : List AV} {h : Hp} {sz : Nat} {Q : AV → List CV → List (List D) → AV → Hp → Prop}
  (hf : FnS P f args h fun r h' => ∃ x l es y fl, Q x l es y h' ∧ (fl = true → es = []) ∧ r = .tup [x, .agg (l ++ [.d (.list fl sz es)]), y]) :
  FnS P f args h fun r h' => ∃ x l es y, Q x l es y h' ∧ r = .tup [x, .agg (l ++ [.d (.list false sz es)]), y] := by
 refine ⟨fun G ι w vs hr hv => (hf.out G ι w vs hr hv).mono fun e w2 ⟨u, r, G2, ι2, h', he, ⟨x, l, es, y, fl, hQ, hfl, hrr⟩, hr2, hvr, hx⟩ => ?_⟩
 subst hrr
 cases hvr with
 | tup cs _ hn hcs =>
  refine ⟨.tuple cs, _, G2, ι2, _, he, ⟨x, l, es, y, hQ, rfl⟩, hr2, .tup cs _ hn (fun i v z hu hy => ?_), hx⟩
  match i, hy with
  | 0, hy => cases hy; exact hcs 0 _ _ hu rfl
  | 1, hy => cases hy; exact vr_flag hfl (hcs 1 _ _ hu rfl)
  | 2, hy => cases hy; exact hcs 2 _ _ hu rfl
theorem few_spec {l : List Stp} : fewR l = true ↔ (∀ x ∈ l, x.r.arcs.length ≤ 70) ∧ l.length ≤ 25 := by
 simp only [fewR, Bool.and_eq_true, List.all_eq_true, decide_eq_true_eq]
theorem build_ok47 (P : Program) (hP : P = Try.prog) (t : Top) (s : List Stp) (hv : validT t = true) (hf : fewR s = true) :
  FnS P n_law47_build [topA t, .c (.d (stpsD s))] [] fun r' h' => ∃ (v' : Nat) (m' : List Rq), m'.Perm (runS t [] s) ∧ r' = .tup [.c (.ptr 0 0 0 0), tbA t (runS t [] s), bA true] ∧ h' = rsvH (capsT t) v' m' := by
 let Qb : AV → List CV → List (List D) → AV → Hp → Prop := fun x l es y h' => ∃ (v' : Nat) (m' : List Rq) (b0 b1 : Blk) (h2 : Hp), m'.Perm (runS t [] s) ∧ x = .c (.ptr 2 0 0 0) ∧ l = [.d (iD t.nodes), .d (boolsD t.ov), .d (linksD t.links)] ∧ es = (runS t [] s).map encRq ∧ y = bA true ∧ h' = [b0, b1, .bx [.d (intsD (capsT t)), .mp 3], .mp v' (m'.map encM)] ++ h2
 have h1 : FnS P n_law47_build [topA t, .c (.d (stpsD s))] [] fun r' h' => ∃ x l es y, Qb x l es y h' ∧ r' = .tup [x, .agg (l ++ [.d (.list false 5 es)]), y] := by
  refine FnS.unflag3 (Q := Qb) ?_
  have hf2 := few_spec.1 hf
  have hnew : FnS P n_reserve_New [topA t] [] fun r h' => r = .tup [.c (.ptr 0 0 0 0), iA 0] ∧ h' = rsvH (capsT t) 0 [] := (tnew_ok P hP t).mono fun r h' h => by
   rcases h with h | h
   ·exact h.2
   ·rw [hv] at h; exact absurd h.1 (by simp)
  have hstep : ∀ (l : List Rq) (m : List Rq) (v : Nat) (fl : Bool) (x : Stp), m.Perm l → TbI t l → x ∈ s → (fl = true → l.map encRq = []) →
    FnS P n_law47_step [.c (.ptr 0 0 0 0), .agg ([.d (iD t.nodes), .d (boolsD t.ov), .d (linksD t.links)] ++ [.d (.list fl 5 (l.map encRq))]), stpA x] (rsvH (capsT t) v m) fun r' h' => ∃ (v' : Nat) (m' : List Rq), m'.Perm (stepS t l x) ∧ r' = .tup [tbA t (stepS t l x), bA true] ∧ h' = rsvH (capsT t) v' m' :=
   fun l m v fl x h1 h2 h3 h4 => FnS.flag h4 (step_ok47 P hP v x hv h1 h2 (by have := hf2.1 x h3; omega))
  refine heap_start (hP ▸ mixed) (hP ▸ fn_law47_build) (hP ▸ c_law47_build) (Nat.le_of_ble_eq_true rfl) fun Λ Λo K hK => ?_
  clear hP
  have k1 : ∀ (v' : Nat) (m' : List Rq) b0 b1 h2 me re fl, m'.Perm (runS t [] s) → m'.map encM = me → re = (runS t [] s).map encRq → (fl = true → re = []) → K (.tup [.c (.ptr 2 0 0 0), .agg [.d (iD t.nodes), .d (boolsD t.ov), .d (linksD t.links), .d (.list fl 5 re)], bA true]) ([b0, b1, .bx [.d (intsD (capsT t)), .mp 3], .mp v' me] ++ h2) := fun v' m' b0 b1 h2 me re fl h e e2 hfl => by
   subst e e2; exact hK _ _ ⟨_, _, _, _, fl, ⟨v', m', b0, b1, h2, h, rfl, rfl, rfl, rfl, rfl⟩, hfl, rfl⟩
  clear hK Qb
  have hti : ∀ k, TbI t (runS t [] (s.take k)) := fun k => TbI.run hv _ (TbI.nil t) (by have := hf2.2; simp only [List.length_nil, List.length_take]; omega)
  have hst : ∀ k x, s[k]? = some x → runS t [] (s.take (k + 1)) = stepS t (runS t [] (s.take k)) x := fun k x hx => run_take hx
  have hal : runS t [] (s.take s.length) = runS t [] s := by rw [List.take_length]
  have h0 : runS t [] (s.take 0) = [] := rfl
  have hf25 := hf2.2
  clear hf2 hf hv
  generalize runS t [] s = last at *
  generalize runS t [] = run at *
  obtain ⟨caps, hcaps⟩ : ∃ caps, caps = capsT t := ⟨_, rfl⟩
  rw [← hcaps] at k1 hnew
  simp only [← hcaps] at hstep
  clear hcaps
  obtain ⟨st, hste⟩ : ∃ st, st = stepS t := ⟨_, rfl⟩
  rw [← hste] at hst hstep
  clear hste
  obtain ⟨Tb, hTb⟩ : ∃ Tb, Tb = TbI t := ⟨_, rfl⟩
  rw [← hTb] at hti hstep
  clear hTb
  simp only [tbA] at hstep
  obtain ⟨nodes, ov, links⟩ := t
  simp only [topA, boolsD, linksD] at *
  generalize hol : ov.map encB = ol at *
  generalize hll : links.map encLk = ll at *
  have hlo : Λ ol = ov.length := by rw [Λo, ← hol]; simp
  have hls : Λ ll = links.length := by rw [Λo, ← hll]; simp
  simp only [rsvH, stpsD, intsD, List.cons_append, List.nil_append, List.map_nil] at *
  generalize caps.map encI = cl at *
  generalize sth : s.map encStp = sl at *
  have sln : Λ sl = s.length := by rw [Λo, ← sth]; simp
  conv => cbv
  repeat' first | (refine call_fr [] hnew rfl rfl (by decide) (by repeat' first | exact trivial | refine And.intro ?_ ?_ | rfl) rfl rfl ?_; rintro r hc' ⟨rfl, rfl⟩; (conv => cbv)) | exact gu | exact trivial | refine And.intro ?_ ?_ | (intro hc; exact absurd hc (by decide)) | (intro hc; exfalso; omega) | (intro hc; (first | rw [wrap_small (by omega) (by omega)] at hc | rw [nI_eq] at hc | skip); try (conv => cbv))
  refine loop_up s.length (fun (z : Int × Nat × List (DV × DV) × Bool × List (List D)) => [(1, .c (.d (.list false 6 sl))), (5, .c (.ptr 1 0 0 0)), (7, .c (.ptr 2 0 0 0)), (9, .c (.ptr 4 0 0 0)), (10, bA true), (11, iA z.1)])
   (fun z => [.bx [.d (iD nodes), .d (.list false 1 ol), .d (.list false 7 ll)], .bx [.d (iD 0), .d (.list true 1 []), .d (.list true 7 []), .d (.list true 5 [])], .bx [.d (.list false 1 cl), .mp 3], .mp z.2.1 z.2.2.1, .bx [.d (iD nodes), .d (.list false 1 ol), .d (.list false 7 ll), .d (.list z.2.2.2.1 5 z.2.2.2.2)]])
   (fun k z => z.1 = k ∧ k ≤ s.length ∧ ∃ m : List Rq, m.Perm (run (s.take k)) ∧ m.map encM = z.2.2.1 ∧ z.2.2.2.2 = (run (s.take k)).map encRq ∧ (z.2.2.2.1 = true → z.2.2.2.2 = [])) (0, 0, [], true, [])
   (Wk.ca) ⟨rfl, by omega, [], by rw [h0], rfl, by rw [h0]; rfl, fun _ => rfl⟩ (fun k s h => h.2.1) ?_
  rintro k ⟨i, v, ml, fl, rl⟩ Q' ⟨hi, hk, m, hpm, hml, hrl, hfl⟩ norm ex rt
  simp only at hi hml hrl hfl
  by_cases hlt : k < s.length
  ·clear k1
   obtain ⟨⟨xrel, xi, xa, xm, xs, xh⟩, hx⟩ : ∃ x, s[k]? = some x := ⟨_, List.getElem?_eq_getElem hlt⟩
   have hxa := elt_at sth hi hx
   have hsx := hstep (run (s.take k)) m v fl _ hpm (hti k) (List.mem_of_getElem? hx) (fun h => by rw [← hrl]; exact hfl h)
   have hstx := hst k _ hx
   rw [← hrl, hml] at hsx
   clear hstep hst hti
   obtain ⟨l2, hl2⟩ : ∃ l2, st (run (s.take k)) ⟨xrel, xi, xa, xm, xs, xh⟩ = l2 := ⟨_, rfl⟩
   rw [hl2] at hsx hstx
   clear hl2
   simp only [encStp, encRq, stpA, intsD, rqsD, List.cons_append, List.nil_append] at hxa hsx
   generalize xa.map encI = xl at *
   obtain ⟨r1, hr1⟩ : ∃ r1, l2.map encRq = r1 := ⟨_, rfl⟩
   rw [hr1] at hsx
   conv => cbv
   repeat' first | (refine ex _ _ _ ?_; (conv => cbv)) | (refine rt _ _ ?_; (conv => cbv)) | (intro e he; cases Option.some.inj (he.symm.trans hxa); (conv => cbv)) | (refine call_fr [2, 3] hsx rfl rfl (by decide) (by repeat' first | exact trivial | refine And.intro ?_ ?_ | rfl) rfl rfl ?_; rintro r hc' ⟨v', m', hpm', rfl, rfl⟩; generalize hme : List.map encM m' = me; (conv => cbv)) | exact gu | exact trivial | refine And.intro ?_ ?_ | (intro hc; exact absurd hc (by decide)) | (intro hc; exfalso; omega) | (intro hc; (first | rw [wrap_small (by omega) (by omega)] at hc | rw [nI_eq] at hc | skip); try (conv => cbv))
   refine norm _ _ (_, _, _, _, _) ?_ (Wk.ca)
   exact ⟨by simp only; omega, by omega, m', by rw [hstx]; exact hpm', hme, by simp only; rw [hstx, hr1], fun h => by cases h⟩
  ·obtain rfl : k = s.length := by omega
   rw [hal] at hpm hrl
   conv => cbv
   repeat' first | (refine ex _ _ _ ?_; (conv => cbv)) | (refine rt _ _ ?_; (conv => cbv)) | exact gu | exact trivial | refine And.intro ?_ ?_ | (intro hc; exact absurd hc (by decide)) | (intro hc; exfalso; omega) | (intro hc; (first | rw [wrap_small (by omega) (by omega)] at hc | rw [nI_eq] at hc | skip); try (conv => cbv))
   exact k1 _ _ _ _ [_] _ _ _ hpm hml hrl hfl
 refine FnS.gct h1 _ fun r h' hR => ?_
 obtain ⟨x, l, es, y, ⟨v2, m2, b0, b1, t2, hpm, rfl, rfl, rfl, rfl, rfl⟩, rfl⟩ := hR
 exact ⟨[2, 3], .tup [.c (.ptr 0 0 0 0), tbA t (runS t [] s), bA true], rsvH (capsT t) v2 m2, ⟨v2, m2, hpm, rfl, rfl⟩, rfl, by decide, fun l hl => by simp at hl ⊢; omega,
   fun i k hk => by (match i, hk with | 0, hk => cases Option.some.inj hk; rfl | 1, hk => cases Option.some.inj hk; rfl), rfl, rfl, rfl, by simp, fun i hi => by simp at hi, fun k hk => by simp at hk; rcases hk with rfl | rfl <;> intro _ _ _ h <;> cases h⟩
end Go.Ab

/-
  Reservations, part s: the program's table is as specified.
-/
namespace Go.Ab
open Go.Proofs
def Rng (l : List Rq) : Prop := ∀ r ∈ l, -9223372036854775808 ≤ r.id ∧ r.id ≤ 9223372036854775807
theorem mem_step {t : Top} {l : List Rq} {s : Stp} {x : Rq} (h : x ∈ stepS t l s) : x ∈ l ∨ x = s.r := by
 unfold stepS at h
 split at h
 ·unfold relS at h
  split at h
  ·exact .inl (List.mem_of_mem_eraseIdx h)
  ·exact .inl h
 ·unfold resS at h
  repeat' split at h
  ·exact .inl h
  ·exact .inl h
  ·exact .inl h
  ·rcases withR_mem.1 h with h | h
   ·exact .inr h
   ·exact .inl (List.mem_filter.1 h).1
theorem mem_run {t : Top} : ∀ {s : List Stp} {l : List Rq} {x : Rq}, x ∈ runS t l s → x ∈ l ∨ ∃ y ∈ s, x = y.r := by
 intro s
 induction s with
 | nil => intro l x h; exact .inl h
 | cons y s ih =>
  intro l x h
  rcases ih (l := stepS t l y) h with h | ⟨z, h1, h2⟩
  ·rcases mem_step h with h | h
   ·exact .inl h
   ·exact .inr ⟨y, by simp, h⟩
  ·exact .inr ⟨z, by simp [h1], h2⟩
theorem ids_ref {m l : List Rq} (hp : m.Perm l) (hs : l.Pairwise fun a b => a.id < b.id) : idsM m = l.map (·.id) := by
 rw [idsM, mergeSort_of_perm_i (hp.map fun x : Rq => x.id)]
 refine List.mergeSort_of_pairwise ?_
 rw [List.pairwise_map]
 exact hs.imp fun h => by simp only [decide_eq_true_eq]; omega
theorem get_ref {m l : List Rq} (hp : m.Perm l) (hd : Ids l) {x : Rq} (hx : x ∈ l) : getS m x.id = (x, true) := by
 have hdm : Ids m := (hp.map fun x : Rq => x.id).nodup_iff.2 hd
 have hm := hp.mem_iff.2 hx
 obtain ⟨i, hi⟩ := List.getElem?_of_mem hm
 exact getS_at ⟨hi, rfl, fun h => by
  obtain ⟨y, hy, e⟩ := List.mem_map.1 h
  exact hdm.at hi hy e⟩
theorem reference_ok (P : Program) (hP : P = Try.prog) (r : Rq) : Ret P n_law47_reference [rqA r] (rqA r) := by
 refine ret_start (hP ▸ mixed) (hP ▸ fn_law47_reference) (hP ▸ c_law47_reference) (Nat.le_of_ble_eq_true rfl) fun Λ Λo K hK => ?_
 clear hP
 obtain ⟨id, arcs, amt, setup, hold⟩ := r
 simp only [rqA, intsD] at *
 generalize arcs.map encI = al at *
 conv => cbv
 repeat' first | exact gu | exact trivial | refine And.intro ?_ ?_ | (intro hc; exact absurd hc (by decide)) | (intro hc; exfalso; omega) | (intro hc; (first | rw [wrap_small (by omega) (by omega)] at hc | rw [nI_eq] at hc | skip); try (conv => cbv))
 exact hK
theorem same_ok47 (P : Program) (hP : P = Try.prog) {t : Top} (v : Nat) {m l : List Rq} (hv : validT t = true) (hp : m.Perm l) (ht : TbI t l) (hrg : Rng l) :
  FnS P n_law47_same [.c (.ptr 0 0 0 0), tbA t l] (rsvH (capsT t) v m) fun r' h' => r' = bA true ∧ h' = rsvH (capsT t) v m := by
 have h1 : FnS P n_law47_same [.c (.ptr 0 0 0 0), tbA t l] (rsvH (capsT t) v m) fun r' h' => ∃ h2, r' = bA true ∧ h' = rsvH (capsT t) v m ++ h2 := by
  have hdm : Ids m := (hp.map fun x : Rq => x.id).nodup_iff.2 ht.ids
  have hlm := hp.length_eq
  have hll := ht.len
  obtain ⟨c1, c2⟩ := capsT_le hv
  have hsm : Sml m := ⟨fun r hr => ht.sml.1 r (hp.mem_iff.1 hr), by omega⟩
  have hids := tids_ok P hP (capsT t) v m hdm (fun r hr => hrg r (hp.mem_iff.1 hr)) (by omega)
  rw [ids_ref hp ht.srt] at hids
  have hget : ∀ x, x ∈ l → FnS P n_reserve_Table_Get [.c (.ptr 0 0 0 0), iA x.id] (rsvH (capsT t) v m) fun r' h' => r' = .tup [rqA x, bA true] ∧ h' = rsvH (capsT t) v m := fun x hx => by
   have := tget_ok P hP (capsT t) v m x.id (fun r hr => by have := (ht.prop r (hp.mem_iff.1 hr)).1; omega)
   rw [get_ref hp ht.ids hx] at this
   exact this
  have huse := fun a => tuse_ok P hP (capsT t) v m a hsm
  simp only [use_ref hv hp ht] at huse
  have hroom := fun a p => troom_ok P hP (capsT t) v m a p hsm c1 c2
  simp only [room_ref hv hp] at hroom
  have hruse := fun a => ruse_ok P hP t l a ht.sml
  have hrroom := fun a p => rroom_ok P hP t l a p ht.sml
  have href := fun x => reference_ok P hP x
  have hsame := fun x => rsame_ok47 P hP x x
  have harc := arcs_ok P hP t
  have hab := arcsT_le t
  refine heap_start (hP ▸ mixed) (hP ▸ fn_law47_same) (hP ▸ c_law47_same) (Nat.le_of_ble_eq_true rfl) fun Λ Λo K hK => ?_
  clear hP
  have leaf : ∀ h2, K (bA true) (rsvH (capsT t) v m ++ h2) := fun h2 => hK _ _ ⟨h2, rfl, rfl⟩
  clear hK hsm c1 c2 hdm hrg hp ht hv
  generalize useS t l = us at *
  generalize roomS t l = rs at *
  generalize arcsT t = na at *
  have hxs : ∀ x : Rq, decide (x = x) = true := fun x => decide_eq_true rfl
  simp only [hxs] at hsame
  obtain ⟨il, hil⟩ : ∃ il, il = (l.map (·.id)).map encI := ⟨_, rfl⟩
  rw [← hil] at hids
  have iln : Λ il = l.length := by rw [Λo, hil]; simp
  have hia : ∀ (k : Nat) (x : Rq), l[k]? = some x → il[k]? = some [iD x.id] := fun k x hx => by rw [hil, List.getElem?_map, List.getElem?_map, hx]; rfl
  simp only [rsvH, tbA, topA, rqA, intsD, boolsD, linksD, rqsD, List.cons_append, List.nil_append] at *
  generalize (capsT t).map encI = cl at *
  generalize m.map encM = ml at *
  generalize t.ov.map encB = ol at *
  generalize t.links.map encLk = ll at *
  generalize t.nodes = nodes at *
  generalize rlh : l.map encRq = rl at *
  have rln : Λ rl = l.length := by rw [Λo, ← rlh]; simp
  conv => cbv
  repeat' first | (refine call_fr [0, 1] hids rfl rfl (by decide) (by repeat' first | exact trivial | refine And.intro ?_ ?_ | rfl) rfl rfl ?_; rintro r hc' ⟨rfl, rfl⟩; (conv => cbv)) | exact gu | exact trivial | refine And.intro ?_ ?_ | (intro hc; exact absurd hc (by decide)) | (intro hc; exfalso; omega) | (intro hc; (first | rw [wrap_small (by omega) (by omega)] at hc | rw [nI_eq] at hc | skip); try (conv => cbv))
  refine loop_upx l.length (fun (i : Int) => [(0, .c (.ptr 0 0 0 0)), (3, .c (.ptr 2 0 0 0)), (5, .c (.d (.list false 1 il))), (6, iA i)])
   (fun _ => [.bx [.d (.list false 1 cl), .mp 1], .mp v ml, .bx [.d (iD nodes), .d (.list false 1 ol), .d (.list false 7 ll), .d (.list false 5 rl)]])
   (fun k i => i = k ∧ k ≤ l.length) 0 0
   (fun (_ : Unit) => [(0, .c (.ptr 0 0 0 0)), (3, .c (.ptr 2 0 0 0))]) (fun _ => [.bx [.d (.list false 1 cl), .mp 1], .mp v ml, .bx [.d (iD nodes), .d (.list false 1 ol), .d (.list false 7 ll), .d (.list false 5 rl)]]) (fun _ => True)
   (Wk.ca) ⟨rfl, by omega⟩ (fun k s h => h.2) ?_ ?_
  ·rintro k i Q' ⟨hi, hk⟩ norm jn ex rt
   by_cases hlt : k < l.length
   ·clear jn
    obtain ⟨⟨xi, xa, xm, xs, xh⟩, hx⟩ : ∃ x, l[k]? = some x := ⟨_, List.getElem?_eq_getElem hlt⟩
    have hxa := elt_at rlh hi hx
    simp only [encRq, intsD] at hxa
    generalize hxe : xa.map encI = xl at *
 
    have hrf := href ⟨xi, xa, xm, xs, xh⟩
    have hsm := hsame ⟨xi, xa, xm, xs, xh⟩
    have hgt := hget _ (List.mem_of_getElem? hx)
    have hix := hia k _ hx
    simp only [hxe] at hrf hsm hgt hix
    have hix : il[i.toNat]? = some [iD xi] := by rw [hi]; exact hix
    conv => cbv
    repeat' first | (refine ex _ _ _ ?_; (conv => cbv)) | (refine rt _ _ ?_; (conv => cbv)) | (intro e he; cases Option.some.inj (he.symm.trans hxa); (conv => cbv)) | (intro (e : List D) he; cases Option.some.inj (he.symm.trans hix); (conv => cbv)) | (refine call_r hrf rfl rfl ?_; conv => cbv) | refine call_b hsm rfl rfl ?_ ?_ | (refine call_fr [0, 1] hgt rfl rfl (by decide) (by repeat' first | exact trivial | refine And.intro ?_ ?_ | rfl) rfl rfl ?_; rintro r hc' ⟨rfl, rfl⟩; (conv => cbv)) | exact gu | exact trivial | refine And.intro ?_ ?_ | (intro hc; exact absurd hc (by decide)) | (intro hc; exfalso; omega) | (intro hc; (first | rw [wrap_small (by omega) (by omega)] at hc | rw [nI_eq] at hc | skip); try (conv => cbv))
    refine norm _ _ _ ?_ (Wk.ca)
    exact ⟨by omega, by omega⟩
   ·obtain rfl : k = l.length := by omega
    clear norm
    conv => cbv
    repeat' first | exact gu | exact trivial | refine And.intro ?_ ?_ | (intro hc; exact absurd hc (by decide)) | (intro hc; exfalso; omega) | (intro hc; (first | rw [wrap_small (by omega) (by omega)] at hc | rw [nI_eq] at hc | skip); try (conv => cbv))
    exact jn _ _ () trivial (Wk.ca)
  ·rintro - -
   have hro : ∀ (p : Nat → Prop), p 0 → p 1 → ∀ l ∈ ([0, 1] : List Nat), p l := fun p h0 h1 l hl => by
    simp only [List.mem_cons, List.not_mem_nil, or_false] at hl
    rcases hl with rfl | rfl <;> assumption
   conv => cbv
   repeat' first | exact gu | exact trivial | refine And.intro ?_ ?_ | (intro hc; exact absurd hc (by decide)) | (intro hc; exfalso; omega) | (intro hc; (first | rw [wrap_small (by omega) (by omega)] at hc | rw [nI_eq] at hc | skip); try (conv => cbv))
   refine loop_up (na.toNat + 2) (fun (a : Int) => [(0, .c (.ptr 0 0 0 0)), (3, .c (.ptr 2 0 0 0)), (9, iA a)]) (fun _ => [.bx [.d (.list false 1 cl), .mp 1], .mp v ml, .bx [.d (iD nodes), .d (.list false 1 ol), .d (.list false 7 ll), .d (.list false 5 rl)]])
    (fun k a => a = (k : Int) - 1 ∧ (k : Int) ≤ na + 2) (-1) (Wk.ca) ⟨by simp, by omega⟩ (fun k s h => by omega) ?_
   rintro k a Q' ⟨ha, hk⟩ norm ex rt
   have hua := huse a
   have hra := hruse a
   conv => cbv
   repeat' first | (refine ex _ _ _ ?_; (conv => cbv)) | (refine rt _ _ ?_; (conv => cbv)) | (refine call_r harc rfl rfl ?_; conv => cbv) | exact gu | exact trivial | refine And.intro ?_ ?_ | (intro hc; exact absurd hc (by decide)) | (intro hc; exfalso; omega) | (intro hc; (first | rw [wrap_small (by omega) (by omega)] at hc | rw [nI_eq] at hc | skip); try (conv => cbv))
   ·refine call_ro [0, 1] hua (Nat.succ_pos _) (fun _ => rfl) rfl (by decide) (fun _ => by repeat' first | exact trivial | refine And.intro ?_ ?_ | rfl) rfl rfl (fun _ => rfl) (fun p h1 h2 => ?_) ?_
    ·have q0 : p 0 := h1 (.c (.ptr 0 0 0 0)) (by simp [evsN, evN, lkN])
     exact hro p q0 (h2 0 _ q0 rfl (.mp 1) (by simp))
    generalize us a = ua at *
    conv => cbv
    repeat' first | (refine ex _ _ _ ?_; (conv => cbv)) | (refine rt _ _ ?_; (conv => cbv)) | (refine call_r hra rfl rfl ?_; conv => cbv) | exact gu | exact trivial | refine And.intro ?_ ?_ | (intro hc; exact absurd hc (by decide)) | (intro hc; exfalso; omega) | (intro hc; (first | rw [wrap_small (by omega) (by omega)] at hc | rw [nI_eq] at hc | skip); try (conv => cbv))
    refine loop_up 9 (fun (p : Int) => [(0, .c (.ptr 0 0 0 0)), (3, .c (.ptr 2 0 0 0)), (9, iA a), (10, iA p)]) (fun _ => [.bx [.d (.list false 1 cl), .mp 1], .mp v ml, .bx [.d (iD nodes), .d (.list false 1 ol), .d (.list false 7 ll), .d (.list false 5 rl)]])
     (fun k p => p = (k : Int) - 1 ∧ k ≤ 9) (-1) (Wk.ca) ⟨by simp, by omega⟩ (fun k s h => h.2) ?_
    rintro k2 p Q2 ⟨hp, hk2⟩ norm2 ex rt
    have hrp := hroom a p
    have hrr := hrroom a p
    conv => cbv
    repeat' first | (refine ex _ _ _ ?_; (conv => cbv)) | (refine rt _ _ ?_; (conv => cbv)) | exact gu | exact trivial | refine And.intro ?_ ?_ | (intro hc; exact absurd hc (by decide)) | (intro hc; exfalso; omega) | (intro hc; (first | rw [wrap_small (by omega) (by omega)] at hc | rw [nI_eq] at hc | skip); try (conv => cbv))
    ·refine call_ro [0, 1] hrp (Nat.succ_pos _) (fun _ => rfl) rfl (by decide) (fun _ => by repeat' first | exact trivial | refine And.intro ?_ ?_ | rfl) rfl rfl (fun _ => rfl) (fun p h1 h2 => ?_) ?_
     ·have q0 : p 0 := h1 (.c (.ptr 0 0 0 0)) (by simp [evsN, evN, lkN])
      exact hro p q0 (h2 0 _ q0 rfl (.mp 1) (by simp))
     generalize rs a p = ra at *
     conv => cbv
     repeat' first | (refine ex _ _ _ ?_; (conv => cbv)) | (refine rt _ _ ?_; (conv => cbv)) | (refine call_r hrr rfl rfl ?_; conv => cbv) | exact gu | exact trivial | refine And.intro ?_ ?_ | (intro hc; exact absurd hc (by decide)) | (intro hc; exfalso; omega) | (intro hc; (first | rw [wrap_small (by omega) (by omega)] at hc | rw [nI_eq] at hc | skip); try (conv => cbv))
     refine norm2 _ _ _ ?_ (Wk.ca)
     exact ⟨by omega, by omega⟩
    ·refine norm _ _ _ ?_ (Wk.ca)
     exact ⟨by omega, by omega⟩
   ·exact leaf [_]
 refine (FnS.cut h1 ?_).mono ?_
 ·rintro r' h' ⟨h2, rfl, rfl⟩
  exact ⟨rfl, rfl⟩
 ·rintro r' h1 ⟨h2, ⟨h3, rfl, e⟩, hl⟩
  exact ⟨rfl, (List.append_inj e hl).1⟩
end Go.Ab

/-
  Reservations, part t: the example of the document.
-/
namespace Go.Ab
open Go.Proofs
def topE : Top := ⟨2, [], [⟨0, 1, 1, 1, 10, 1, 0⟩]⟩
def rqE (i a s h : Int) : Rq := ⟨i, [0], a, s, h⟩
theorem one_ok (P : Program) (hP : P = Try.prog) : Ret P n_law47_one [] (topA topE) := by
 refine ret_start (hP ▸ mixed) (hP ▸ fn_law47_one) (hP ▸ c_law47_one) (Nat.le_of_ble_eq_true rfl) fun Λ Λo K hK => ?_
 clear hP
 conv => cbv
 repeat' first | exact gu | exact trivial | refine And.intro ?_ ?_ | (intro hc; exact absurd hc (by decide)) | (intro hc; exfalso; omega) | (intro hc; (first | rw [wrap_small (by omega) (by omega)] at hc | rw [nI_eq] at hc | skip); try (conv => cbv))
 rename_i z
 have e : z = [[iD 0, iD 1, iD 1, iD 1, iD 10, iD 1, iD 0]] := by rw [hc]; rfl
 rw [e]; exact hK
theorem validE : validT topE = true := by decide
theorem awake_ok (P : Program) (hP : P = Try.prog) : Ret P n_law47_awake [] (bA true) := by
 have hone := one_ok P hP
 have hnew : FnS P n_reserve_New [topA topE] [] fun r h' => r = .tup [.c (.ptr 0 0 0 0), iA 0] ∧ h' = rsvH (capsT topE) 0 [] := (tnew_ok P hP topE).mono fun r h' h => by
  rcases h with h | h
  ·exact h.2
  ·rw [validE] at h; exact absurd h.1 (by simp)
 have e1 : resS topE [] (rqE 1 6 5 5) = ([rqE 1 6 5 5], [], 0) := by decide
 have e2 : resS topE [rqE 1 6 5 5] (rqE 2 4 3 3) = ([rqE 1 6 5 5, rqE 2 4 3 3], [], 0) := by decide
 have e3 : resS topE [rqE 1 6 5 5, rqE 2 4 3 3] (rqE 3 5 4 4) = ([rqE 2 4 3 3, rqE 3 5 4 4], [1], 0) := by decide
 have e4 : resS topE [rqE 1 6 5 5, rqE 2 4 3 3] (rqE 3 10 2 0) = ([rqE 3 10 2 0], [1, 2], 0) := by decide
 have e5 : resS topE [rqE 1 6 5 5, rqE 2 4 3 3] (rqE 3 7 4 4) = ([rqE 1 6 5 5, rqE 2 4 3 3], [], 12) := by decide
 have t1 : TbI topE [rqE 1 6 5 5] := by have := (TbI.nil topE).res validE (rqE 1 6 5 5) (by decide); rw [e1] at this; exact this
 have t2 : TbI topE [rqE 1 6 5 5, rqE 2 4 3 3] := by have := t1.res validE (rqE 2 4 3 3) (by decide); rw [e2] at this; exact this
 have t3 : TbI topE [rqE 2 4 3 3, rqE 3 5 4 4] := by have := t2.res validE (rqE 3 5 4 4) (by decide); rw [e3] at this; exact this
 have k1 := tres_ref P hP 0 (rqE 1 6 5 5) validE (List.Perm.refl []) (TbI.nil topE) (by decide)
 have k2 := fun (v : Nat) (m : List Rq) (hp : m.Perm [rqE 1 6 5 5]) => tres_ref P hP v (rqE 2 4 3 3) validE hp t1 (by decide)
 have k3 := fun (v : Nat) (m : List Rq) (hp : m.Perm [rqE 1 6 5 5, rqE 2 4 3 3]) => tres_ref P hP v (rqE 3 5 4 4) validE hp t2 (by decide)
 have k4 := fun (v : Nat) (m : List Rq) (hp : m.Perm [rqE 1 6 5 5, rqE 2 4 3 3]) => tres_ref P hP v (rqE 3 10 2 0) validE hp t2 (by decide)
 have k5 := fun (v : Nat) (m : List Rq) (hp : m.Perm [rqE 1 6 5 5, rqE 2 4 3 3]) => tres_ref P hP v (rqE 3 7 4 4) validE hp t2 (by decide)
 have cp := fun v (m : List Rq) (hp : m.Perm [rqE 1 6 5 5, rqE 2 4 3 3]) => tcopy_ok P hP (capsT topE) v m ((hp.map fun x : Rq => x.id).nodup_iff.2 t2.ids) (fun x hx => by have := (t2.prop x (hp.mem_iff.1 hx)).1; omega) (by decide)
 have u2 := fun v (m : List Rq) (hp : m.Perm [rqE 1 6 5 5, rqE 2 4 3 3]) => tuse_ok P hP (capsT topE) v m 0 ⟨fun r hr => t2.sml.1 r (hp.mem_iff.1 hr), by have := hp.length_eq; simp at this; omega⟩
 have u3 := fun v (m : List Rq) (hp : m.Perm [rqE 2 4 3 3, rqE 3 5 4 4]) => tuse_ok P hP (capsT topE) v m 0 ⟨fun r hr => t3.sml.1 r (hp.mem_iff.1 hr), by have := hp.length_eq; simp at this; omega⟩
 have v2 : ∀ m : List Rq, m.Perm [rqE 1 6 5 5, rqE 2 4 3 3] → sumR (fun _ => true) 0 m = 10 := fun m hp => by rw [sumR_perm hp]; decide
 have v3 : ∀ m : List Rq, m.Perm [rqE 2 4 3 3, rqE 3 5 4 4] → sumR (fun _ => true) 0 m = 9 := fun m hp => by rw [sumR_perm hp]; decide
 have s1 := sameInts_ok P hP [1] [1]
 have s2 := sameInts_ok P hP [1, 2] [1, 2]
 rw [decide_eq_true rfl] at s1 s2
 simp only [e1] at k1
 simp only [e2] at k2
 simp only [e3] at k3
 simp only [e4] at k4
 simp only [e5] at k5
 clear e1 e2 e3 e4 e5 t1 t2 t3
 refine ret_start (hP ▸ mixed) (hP ▸ fn_law47_awake) (hP ▸ c_law47_awake) (Nat.le_of_ble_eq_true rfl) fun Λ Λo K hK => ?_
 clear hP
 simp only [rsvH, intsA, intsD, rqA, topA, boolsD, linksD, List.map_nil, List.map_cons, encI, rqE] at *
 generalize (capsT topE).map encI = cl at *
 conv => cbv
 repeat' first | (refine call_r hone rfl rfl ?_; conv => cbv) | (refine call_fr [] hnew rfl rfl (by decide) (by repeat' first | exact trivial | refine And.intro ?_ ?_ | rfl) rfl rfl ?_; rintro r hc' ⟨rfl, rfl⟩; (conv => cbv)) | (refine call_fr [0, 1] k1 rfl rfl (by decide) (by repeat' first | exact trivial | refine And.intro ?_ ?_ | rfl) rfl rfl ?_; rintro r hc' ⟨w1, m1, p1, rfl, rfl⟩; have q2 := k2 w1 m1 p1; generalize hm1 : List.map encM m1 = ml1 at *; clear k1 k2; (conv => cbv)) | (refine call_fr [0, 1] q2 rfl rfl (by decide) (by repeat' first | exact trivial | refine And.intro ?_ ?_ | rfl) rfl rfl ?_; rintro r hc' ⟨w2, m2, p2, rfl, rfl⟩; have qc := cp w2 m2 p2; have q5 := k5 w2 m2 p2; generalize hm2 : List.map encM m2 = ml2 at *; clear q2 cp k5; (conv => cbv)) | (have := py; refine call_fr [0, 1] qc rfl rfl (by decide) (by repeat' first | exact trivial | refine And.intro ?_ ?_ | rfl) rfl rfl ?_; rintro r hc' ⟨wz, mz, pz, rfl, rfl⟩; have qz := k4 wz mz (pz.trans p2); generalize hmz : List.map encM mz = mlz at *; (conv => cbv)) | (refine call_fr [0, 1] qc rfl rfl (by decide) (by repeat' first | exact trivial | refine And.intro ?_ ?_ | rfl) rfl rfl ?_; rintro r hc' ⟨wy, my, py, rfl, rfl⟩; have qy := k3 wy my (py.trans p2); generalize hmy : List.map encM my = mly at *; (conv => cbv)) | (refine call_fr [4, 5] qy rfl rfl (by decide) (by repeat' first | exact trivial | refine And.intro ?_ ?_ | rfl) rfl rfl ?_; rintro r hc' ⟨wu, mu, pu, rfl, rfl⟩; have qu := u3 wu mu pu; rw [v3 mu pu] at qu; generalize hmu : List.map encM mu = mlu at *; clear qy; (conv => cbv)) | (refine call_fr [6, 7] qz rfl rfl (by decide) (by repeat' first | exact trivial | refine And.intro ?_ ?_ | rfl) rfl rfl ?_; rintro r hc' ⟨wt, mt, pt, rfl, rfl⟩; generalize hmt : List.map encM mt = mlt at *; clear qz; (conv => cbv)) | (refine call_fr [0, 1] q5 rfl rfl (by decide) (by repeat' first | exact trivial | refine And.intro ?_ ?_ | rfl) rfl rfl ?_; rintro r hc' ⟨ws, ms, ps, rfl, rfl⟩; have qs := u2 ws ms ps; rw [v2 ms ps] at qs; generalize hms : List.map encM ms = mls at *; clear q5; (conv => cbv)) | refine call_b s1 rfl rfl ?_ ?_ | refine call_b s2 rfl rfl ?_ ?_ | (refine call_fr [0, 1] qs rfl rfl (by decide) (by repeat' first | exact trivial | refine And.intro ?_ ?_ | rfl) rfl rfl ?_; rintro r hc' ⟨rfl, rfl⟩; (conv => cbv)) | (refine call_fr [4, 5] qu rfl rfl (by decide) (by repeat' first | exact trivial | refine And.intro ?_ ?_ | rfl) rfl rfl ?_; rintro r hc' ⟨rfl, rfl⟩; (conv => cbv)) | (refine call_z 2 0 1 1 rfl rfl (by repeat' first | exact trivial | refine And.intro ?_ ?_ | rfl) (by repeat' first | exact trivial | refine And.intro ?_ ?_ | rfl) ?_; conv => cbv) | (refine call_z 3 0 1 1 rfl rfl (by repeat' first | exact trivial | refine And.intro ?_ ?_ | rfl) (by repeat' first | exact trivial | refine And.intro ?_ ?_ | rfl) ?_; conv => cbv) | (refine call_z 8 0 1 1 rfl rfl (by repeat' first | exact trivial | refine And.intro ?_ ?_ | rfl) (by repeat' first | exact trivial | refine And.intro ?_ ?_ | rfl) ?_; conv => cbv) | (refine call_z 9 0 1 1 rfl rfl (by repeat' first | exact trivial | refine And.intro ?_ ?_ | rfl) (by repeat' first | exact trivial | refine And.intro ?_ ?_ | rfl) ?_; conv => cbv) | (refine call_z 10 0 1 1 rfl rfl (by repeat' first | exact trivial | refine And.intro ?_ ?_ | rfl) (by repeat' first | exact trivial | refine And.intro ?_ ?_ | rfl) ?_; conv => cbv) | (refine call_z 11 0 1 1 rfl rfl (by repeat' first | exact trivial | refine And.intro ?_ ?_ | rfl) (by repeat' first | exact trivial | refine And.intro ?_ ?_ | rfl) ?_; conv => cbv) | (refine call_z 12 0 1 2 rfl rfl (by repeat' first | exact trivial | refine And.intro ?_ ?_ | rfl) (by repeat' first | exact trivial | refine And.intro ?_ ?_ | rfl) ?_; conv => cbv) | exact gu | exact trivial | refine And.intro ?_ ?_ | (intro hc; exact absurd hc (by decide)) | (intro hc; exfalso; omega) | (intro hc; (first | rw [wrap_small (by omega) (by omega)] at hc | rw [nI_eq] at hc | skip); try (conv => cbv))
 exact hK
end Go.Ab

