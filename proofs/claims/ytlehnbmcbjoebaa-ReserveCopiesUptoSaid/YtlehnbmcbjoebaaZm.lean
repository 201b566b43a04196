/-
  Merged texts, part m.
-/
import Derived.Test.YtlehnbmcbjoebaaZl
/-
  Reservations, part g: the program's table: what is used, what room there is; releasing, getting; a new table.
-/
namespace Go.Ab
open Go.Proofs
theorem tuse_ok (P : Program) (hP : P = Try.prog) (caps : List Int) (v : Nat) (m : List Rq) (a : Int) (hs : Sml m) :
  FnS P n_reserve_Table_Use [.c (.ptr 0 0 0 0), iA a] (rsvH caps v m) fun r' h' => r' = iA (sumR (fun _ => true) a m) ∧ h' = rsvH caps v m := by
 have hsum := sumU_ok P hP caps v m a hs
 refine heap_start (hP ▸ mixed) (hP ▸ fn_reserve_Table_Use) (hP ▸ c_reserve_Table_Use) (Nat.le_of_ble_eq_true rfl) fun Λ Λo K hK => ?_
 clear hP
 have leaf : K (iA (sumR (fun _ => true) a m)) (rsvH caps v m) := hK _ _ ⟨rfl, rfl⟩
 clear hK
 generalize sumR (fun _ => true) a m = s at *
 simp only [rsvH, intsD] at *
 generalize caps.map encI = cl at *
 generalize m.map encM = ml at *
 conv => cbv
 repeat' first | (refine call_fr [0, 1] hsum rfl rfl (by decide) (by repeat' first | exact trivial | refine And.intro ?_ ?_ | rfl) rfl rfl ?_; rintro r hc' ⟨rfl, rfl⟩; (conv => cbv)) | exact gu | exact trivial | refine And.intro ?_ ?_ | (intro hc; exact absurd hc (by decide)) | (intro hc; exfalso; omega) | (intro hc; (first | rw [wrap_small (by omega) (by omega)] at hc | rw [nI_eq] at hc | skip); try (conv => cbv))
 exact leaf
def capAt (caps : List Int) (a : Int) : Int := (caps[(a / 2).toNat]?).getD 0
def roomP (caps : List Int) (m : List Rq) (a p : Int) : Int := if 0 ≤ a ∧ a < 2 * caps.length then capAt caps a - sumR (fun r => decide (r.hold ≤ p)) a m else 0
theorem troom_ok (P : Program) (hP : P = Try.prog) (caps : List Int) (v : Nat) (m : List Rq) (a p : Int) (hs : Sml m) (hc : caps.length ≤ 1000) (hcb : ∀ c ∈ caps, 0 ≤ c ∧ c ≤ 1048576) :
  FnS P n_reserve_Table_Room [.c (.ptr 0 0 0 0), iA a, iA p] (rsvH caps v m) fun r' h' => r' = iA (roomP caps m a p) ∧ h' = rsvH caps v m := by
 have h1 : FnS P n_reserve_Table_Room [.c (.ptr 0 0 0 0), iA a, iA p] (rsvH caps v m) fun r' h' => ∃ h2, r' = iA (roomP caps m a p) ∧ h' = rsvH caps v m ++ h2 := by
  have hsum := sumP_ok P hP caps v m a p hs
  have hhas := thas_ok P hP caps v m a hc
  refine heap_start (hP ▸ mixed) (hP ▸ fn_reserve_Table_Room) (hP ▸ c_reserve_Table_Room) (Nat.le_of_ble_eq_true rfl) fun Λ Λo K hK => ?_
  clear hP
  have leaf : ∀ b h2, b = roomP caps m a p → K (iA b) (rsvH caps v m ++ h2) := fun b h2 e => hK _ _ ⟨h2, by rw [e], rfl⟩
  clear hK
  rw [roomP] at leaf
  have hbd := sumR_take (p := fun r => decide (r.hold ≤ p)) (a := a) hs m.length
  rw [List.take_length] at hbd
  generalize sumR (fun r => decide (r.hold ≤ p)) a m = s at *
  by_cases ha : 0 ≤ a ∧ a < 2 * (caps.length : Int)
  rotate_left
  ·rw [decide_eq_false ha] at hhas
   simp only [if_neg ha] at leaf
   clear hsum
   simp only [rsvH, intsD] at *
   generalize caps.map encI = cl at *
   generalize m.map encM = ml at *
   conv => cbv
   repeat' first | (refine call_fr [0, 1] hhas rfl rfl (by decide) (by repeat' first | exact trivial | refine And.intro ?_ ?_ | rfl) rfl rfl ?_; rintro r hc' ⟨rfl, rfl⟩; (conv => cbv)) | exact gu | exact trivial | refine And.intro ?_ ?_ | (intro hc; exact absurd hc (by decide)) | (intro hc; exfalso; omega) | (intro hc; (first | rw [wrap_small (by omega) (by omega)] at hc | rw [nI_eq] at hc | skip); try (conv => cbv))
   exact leaf _ _ rfl
  rw [decide_eq_true ha] at hhas
  simp only [if_pos ha] at leaf
  have hq := tdiv2 ha.1 (by omega)
  have hlt : (a / 2).toNat < caps.length := by omega
  have hx : caps[(a / 2).toNat]? = some (caps[(a / 2).toNat]) := List.getElem?_eq_getElem hlt
  have hxb := hcb _ (List.mem_of_getElem? hx)
  rw [capAt] at leaf
  generalize caps[(a / 2).toNat] = cx at *
  rw [hx, Option.getD_some] at leaf
  obtain ⟨q, hqe⟩ : ∃ q, a / 2 = q := ⟨_, rfl⟩
  rw [hqe] at hq hx hlt
  have hq0 : 0 ≤ q := by omega
  have hxa : (caps.map encI)[q.toNat]? = some [iD cx] := by rw [List.getElem?_map, hx]; rfl
  simp only [rsvH, intsD, List.cons_append, List.nil_append] at *
  have cln : Λ (caps.map encI) = caps.length := by rw [Λo]; simp
  generalize caps.map encI = cl at *
  generalize m.map encM = ml at *
  conv => cbv
  repeat' first | (refine call_fr [0, 1] hhas rfl rfl (by decide) (by repeat' first | exact trivial | refine And.intro ?_ ?_ | rfl) rfl rfl ?_; rintro r hc' ⟨rfl, rfl⟩; (conv => cbv)) | (intro (_ : Unit); decide) | (intro q' hq'; refine (fun (hz : q = q') => ?_) (hq.symm.trans hq'.symm); subst hz; (conv => cbv)) | (intro (e : List D) he; cases Option.some.inj (he.symm.trans hxa); (conv => cbv)) | exact gu | exact trivial | refine And.intro ?_ ?_ | (intro hc; exact absurd hc (by decide)) | (intro hc; exfalso; omega) | (intro hc; (first | rw [wrap_small (by omega) (by omega)] at hc | rw [nI_eq] at hc | skip); try (conv => cbv))
  refine call_ro [0, 1, 2] hsum (Nat.succ_pos _) (fun _ => rfl) rfl (by decide) (fun _ => by repeat' first | exact trivial | refine And.intro ?_ ?_ | rfl) rfl rfl (fun _ => rfl) (fun p h1 h2 => ?_) ?_
  ·have q0 : p 0 := h1 (.c (.ptr 0 0 0 0)) (by simp [evsN, evN, lkN])
   have q2 : p 2 := h1 (.c (.fn false 47 [.ptr 2 0 0 0])) (by simp [evsN, evN, lkN]) _ (List.mem_cons_self ..)
   have q1 : p 1 := h2 0 _ q0 rfl (.mp 1) (by simp)
   intro l hl
   simp only [List.mem_cons, List.not_mem_nil, or_false] at hl
   rcases hl with rfl | rfl | rfl <;> assumption
  conv => cbv
  repeat' first | exact gu | exact trivial | refine And.intro ?_ ?_ | (intro hc; exact absurd hc (by decide)) | (intro hc; exfalso; omega) | (intro hc; (first | rw [wrap_small (by omega) (by omega)] at hc | rw [nI_eq] at hc | skip); try (conv => cbv))
  exact leaf _ [_] (by omega)
 refine (FnS.cut h1 ?_).mono ?_
 ·rintro r' h' ⟨h2, rfl, rfl⟩
  exact ⟨rfl, rfl⟩
 ·rintro r' h1 ⟨h2, ⟨h3, rfl, e⟩, hl⟩
  exact ⟨rfl, (List.append_inj e hl).1⟩
theorem mfindM {a : Int} : ∀ (m : List Rq) (i0 : Nat), ∃ r, mfind true 1 [(0, 0)] (.s (.int .i64 a)) (m.map encM) i0 = some r ∧ ((r = none ∧ a ∉ m.map (·.id)) ∨ ∃ i x, r = some (i, .g (encRq x)) ∧ i0 ≤ i ∧ m[i - i0]? = some x ∧ x.id = a ∧ a ∉ (m.take (i - i0)).map (·.id)) := by
 intro m
 induction m with
 | nil => intro i0; exact ⟨none, rfl, .inl ⟨rfl, by simp⟩⟩
 | cons e m ih =>
  intro i0
  have e1 : mfind true 1 [(0, 0)] (.s (.int .i64 a)) ((e :: m).map encM) i0 =
    (match eqc [.d (.int .i64 a)] [.d (.int .i64 e.id)] [(0, 0)] with
    | some true => some (some (i0, .g (encRq e)))
    | some false => mfind true 1 [(0, 0)] (.s (.int .i64 a)) (m.map encM) (i0 + 1)
    | none => none) := rfl
  rw [e1, eqc_int]
  by_cases h : a = e.id
  ·rw [decide_eq_true h]
   exact ⟨_, rfl, .inr ⟨i0, e, rfl, Nat.le_refl _, by simp, h.symm, by simp⟩⟩
  ·rw [decide_eq_false h]
   obtain ⟨r, h1, h2⟩ := ih (i0 + 1)
   refine ⟨r, h1, ?_⟩
   rcases h2 with ⟨h2, h3⟩ | ⟨i, x, h2, h3, h4, h5, h6⟩
   ·exact .inl ⟨h2, by simp only [List.map_cons, List.mem_cons, not_or]; exact ⟨h, h3⟩⟩
   ·have ei : i - i0 = (i - (i0 + 1)) + 1 := by omega
    refine .inr ⟨i, x, h2, by omega, by rw [ei, List.getElem?_cons_succ]; exact h4, h5, ?_⟩
    rw [ei, List.take_succ_cons, List.map_cons, List.mem_cons, not_or]
    exact ⟨h, h6⟩
def AtId (m : List Rq) (a : Int) (i : Nat) (x : Rq) : Prop := m[i]? = some x ∧ x.id = a ∧ a ∉ (m.take i).map (·.id)
theorem vlkM {a : Int} {m : List Rq} {ml : List (DV × DV)} {ok : Bool} {z : AV} {K : AV → Prop} (mlh : m.map encM = ml) (h0 : a ∉ m.map (·.id) → K (lkR ok z false)) (h1 : ∀ i x, AtId m a i x → K (lkR ok (avDV (.g (encRq x))) true)) :
  ∀ r, mfind true 1 [(0, 0)] (.s (.int .i64 a)) ml 0 = r → vLk ok z K r := by
 intro r hr
 obtain ⟨r', e1, e2⟩ := mfindM (a := a) m 0
 rw [← mlh, e1] at hr
 subst hr
 rcases e2 with ⟨rfl, h2⟩ | ⟨i, x, rfl, _, h3, h4, h5⟩
 ·exact h0 h2
 ·exact h1 i x ⟨by simpa using h3, h4, by simpa using h5⟩
theorem vupM {a : Int} {m : List Rq} {ml : List (DV × DV)} {vd : DV} {K : List (DV × DV) → Prop} (mlh : m.map encM = ml) (hn : a ∉ m.map (·.id)) (h0 : ∀ es', es' = ml ++ [(.s (.int .i64 a), vd)] → K es') :
  ∀ r, mfind true 1 [(0, 0)] (.s (.int .i64 a)) ml 0 = r → vUp ml (.s (.int .i64 a)) vd K r := by
 intro r hr
 obtain ⟨r', e1, e2⟩ := mfindM (a := a) m 0
 rw [← mlh, e1] at hr
 subst hr
 rcases e2 with ⟨rfl, h2⟩ | ⟨i, x, rfl, _, h3, h4, h5⟩
 ·exact h0
 ·exact absurd (List.mem_map.2 ⟨x, List.mem_of_getElem? h3, h4⟩) hn
theorem vdelM {a : Int} {m : List Rq} {ml : List (DV × DV)} {K0 : Prop} {K : List (DV × DV) → Prop} (mlh : m.map encM = ml) (h0 : a ∉ m.map (·.id) → K0) (h1 : ∀ i x, AtId m a i x → ∀ es', es' = (m.eraseIdx i).map encM → K es') :
  ∀ r, mfind true 1 [(0, 0)] (.s (.int .i64 a)) ml 0 = r → vDel ml K0 K r := by
 intro r hr
 obtain ⟨r', e1, e2⟩ := mfindM (a := a) m 0
 rw [← mlh, e1] at hr
 subst hr
 rcases e2 with ⟨rfl, h2⟩ | ⟨i, x, rfl, _, h3, h4, h5⟩
 ·exact h0 h2
 ·intro es' he
  exact h1 i x ⟨by simpa using h3, h4, by simpa using h5⟩ es' (by rw [he, map_erase, mlh])
theorem AtId.idx {m : List Rq} {a : Int} {i : Nat} {x : Rq} (h : AtId m a i x) : a ∈ m.map (·.id) ∧ (m.map (·.id)).idxOf a = i := by
 obtain ⟨h1, h2, h3⟩ := h
 have h4 : (m.map (·.id))[i]? = some a := by rw [List.getElem?_map, h1]; exact congrArg some h2
 exact ⟨List.mem_of_getElem? h4, idxOf_at h4 (by rw [← List.map_take]; exact h3)⟩
theorem trel_ok (P : Program) (hP : P = Try.prog) (caps : List Int) (v : Nat) (m : List Rq) (id : Int) :
  FnS P n_reserve_Table_Release [.c (.ptr 0 0 0 0), iA id] (rsvH caps v m) fun r' h' => ∃ v', r' = iA (relS m id).2 ∧ h' = rsvH caps v' (relS m id).1 := by
 have h1 : FnS P n_reserve_Table_Release [.c (.ptr 0 0 0 0), iA id] (rsvH caps v m) fun r' h' => ∃ v' h2, r' = iA (relS m id).2 ∧ h' = rsvH caps v' (relS m id).1 ++ h2 := by
  refine heap_start (hP ▸ mixed) (hP ▸ fn_reserve_Table_Release) (hP ▸ c_reserve_Table_Release) (Nat.le_of_ble_eq_true rfl) fun Λ Λo K hK => ?_
  clear hP
  have k0 : id ∉ m.map (·.id) → ∀ h2, K (iA 8) (rsvH caps v m ++ h2) := fun h h2 => hK _ _ ⟨v, h2, by rw [relS, if_neg h], by rw [relS, if_neg h]⟩
  have k1 : ∀ i x, AtId m id i x → ∀ v' h2, K (iA 0) (rsvH caps v' (m.eraseIdx i) ++ h2) := fun i x h v' h2 => by
   obtain ⟨h3, h4⟩ := h.idx
   exact hK _ _ ⟨v', h2, by rw [relS, if_pos h3], by rw [relS, if_pos h3, h4]⟩
  clear hK
  simp only [rsvH, intsD, List.cons_append, List.nil_append] at *
  generalize caps.map encI = cl at *
  generalize mlh : m.map encM = ml at *
  conv => cbv
  repeat' first | (refine vlkM mlh (fun h0 => ?_) (fun i x hx => ?_); (conv => cbv); rotate_left; obtain ⟨xi, xa, xm, xs, xh⟩ := x; simp only [encRq, intsD, avDV]; generalize xa.map encI = xl; (conv => cbv)) | (refine vdelM mlh (fun h0 => absurd hx.idx.1 h0) (fun i2 x2 hx2 es' he => ?_); (conv => cbv)) | exact gu | exact trivial | refine And.intro ?_ ?_ | (intro hc; exact absurd hc (by decide)) | (intro hc; exfalso; omega) | (intro hc; (first | rw [wrap_small (by omega) (by omega)] at hc | rw [nI_eq] at hc | skip); try (conv => cbv))
  ·subst he
   exact k1 _ _ hx2 _ _
  ·exact k0 (by assumption) _
 refine (FnS.cut h1 ?_).mono ?_
 ·rintro r' h' ⟨v', h2, rfl, rfl⟩
  exact ⟨rfl, rfl⟩
 ·rintro r' h1 ⟨h2, ⟨v', h3, rfl, e⟩, hl⟩
  exact ⟨v', rfl, (List.append_inj e hl).1⟩
def getS (m : List Rq) (id : Int) : Rq × Bool := match m.find? fun x => decide (x.id = id) with
 | some x => (x, true)
 | none => (⟨0, [], 0, 0, 0⟩, false)
theorem getS_at {m : List Rq} {id : Int} : ∀ {i : Nat} {x : Rq}, AtId m id i x → getS m id = (x, true) := by
 induction m with
 | nil => intro i x h; exact absurd h.1 (by simp)
 | cons y m ih =>
  intro i x ⟨h1, h2, h3⟩
  cases i with
  | zero =>
   simp at h1; subst h1
   simp [getS, List.find?, h2]
  | succ i =>
   simp only [List.getElem?_cons_succ, List.take_succ_cons, List.map_cons, List.mem_cons, not_or] at h1 h3
   have := ih ⟨h1, h2, h3.2⟩
   rw [getS] at this ⊢
   rw [List.find?_cons, decide_eq_false (fun e => h3.1 e.symm)]
   exact this
theorem getS_no {m : List Rq} {id : Int} (h : id ∉ m.map (·.id)) : getS m id = (⟨0, [], 0, 0, 0⟩, false) := by
 rw [getS, List.find?_eq_none.2 fun x hx => by simp only [decide_eq_true_eq]; exact fun e => h (List.mem_map.2 ⟨x, hx, e⟩)]
theorem tget_ok (P : Program) (hP : P = Try.prog) (caps : List Int) (v : Nat) (m : List Rq) (id : Int) (hs : ∀ r ∈ m, r.arcs.length ≤ 1000000) :
  FnS P n_reserve_Table_Get [.c (.ptr 0 0 0 0), iA id] (rsvH caps v m) fun r' h' => r' = .tup [rqA (getS m id).1, bA (getS m id).2] ∧ h' = rsvH caps v m := by
 have h1 : FnS P n_reserve_Table_Get [.c (.ptr 0 0 0 0), iA id] (rsvH caps v m) fun r' h' => ∃ h2, r' = .tup [rqA (getS m id).1, bA (getS m id).2] ∧ h' = rsvH caps v m ++ h2 := by
  have hcl := fun r h => clone_ok47 P hP r h
  refine heap_start (hP ▸ mixed) (hP ▸ fn_reserve_Table_Get) (hP ▸ c_reserve_Table_Get) (Nat.le_of_ble_eq_true rfl) fun Λ Λo K hK => ?_
  clear hP
  have k0 : id ∉ m.map (·.id) → ∀ h2, K (.tup [rqA ⟨0, [], 0, 0, 0⟩, bA false]) (rsvH caps v m ++ h2) := fun h h2 => hK _ _ ⟨h2, by rw [getS_no h], rfl⟩
  have k1 : ∀ i x, AtId m id i x → ∀ h2, K (.tup [rqA x, bA true]) (rsvH caps v m ++ h2) := fun i x h h2 => hK _ _ ⟨h2, by rw [getS_at h], rfl⟩
  clear hK
  have hc0 := hcl ⟨0, [], 0, 0, 0⟩ (by simp)
  simp only [rsvH, rqA, intsD, List.cons_append, List.nil_append, List.map_nil] at *
  generalize caps.map encI = cl at *
  generalize mlh : m.map encM = ml at *
  conv => cbv
  repeat' first | (refine vlkM mlh (fun h0 => ?_) (fun i x hx => ?_); (conv => cbv); rotate_left; obtain ⟨xi, xa, xm, xs, xh⟩ := x; have hcx := hcl _ (hs _ (List.mem_of_getElem? hx.1)); have k1x := k1 _ _ hx; simp only [encRq, intsD, avDV] at hcx k1x ⊢; generalize xa.map encI = xl at *; (conv => cbv)) | (refine call_r hc0 rfl rfl ?_; conv => cbv) | (refine call_r hcx rfl rfl ?_; conv => cbv) | exact gu | exact trivial | refine And.intro ?_ ?_ | (intro hc; exact absurd hc (by decide)) | (intro hc; exfalso; omega) | (intro hc; (first | rw [wrap_small (by omega) (by omega)] at hc | rw [nI_eq] at hc | skip); try (conv => cbv))
  ·exact k1x _
  ·exact k0 (by assumption) _
 refine (FnS.cut2 h1 ?_).mono ?_
 ·rintro r' h' ⟨h2, rfl, rfl⟩
  exact ⟨_, _, rfl, rfl, rfl, rfl⟩
 ·rintro r' h1 ⟨h2, ⟨h3, rfl, e⟩, hl⟩
  exact ⟨rfl, (List.append_inj e hl).1⟩
end Go.Ab

/-
  The engine: a function's new blocks, given up behind it, where it returns several values.
-/
namespace Go.Ab
def refsT (n : Nat) : AV → Bool
 | .tup l => l.all (refsA n)
 | x => refsA n x
theorem rnAs_at (ρ : Nat → Nat) : ∀ (l : List AV) (i : Nat), (rnAs ρ l)[i]? = (l[i]?).map (rnA ρ)
 | [], _ => by simp [rnAs, rnA.rnAs]
 | x :: l, 0 => by simp [rnAs, rnA.rnAs]
 | x :: l, i + 1 => by
  have := rnAs_at ρ l i
  simpa [rnAs, rnA.rnAs] using this
theorem rnAs_ln (ρ : Nat → Nat) : ∀ (l : List AV), (rnAs ρ l).length = l.length
 | [] => rfl
 | x :: l => by
  have := rnAs_ln ρ l
  simpa [rnAs, rnA.rnAs] using this
theorem VR.unrnT {G : Nat → Prop} {w : World} {ι ιc : Io} {h hc : Hp} {ρ : Nat → Nat} (am : Among ρ ιc hc ι h) {v : Value} {x : AV} (hx : VR G w ι h v (rnA ρ x)) (hr : refsT hc.length x = true) : VR G w ιc hc v x := by
 cases x with
 | c x => exact hx.unrn am hr
 | agg l => exact hx.unrn am hr
 | tup l =>
  cases hx with
  | tup cs _ hn h1 =>
   have h1 : ∀ (i : Nat) (v : Value) (x : AV), cs[i]? = some v → (rnAs ρ l)[i]? = some x → VR G w ι h v x := h1
   refine .tup cs l (by rw [hn]; exact rnAs_ln ρ l) fun i v x hv hx => ?_
   exact (h1 i v (rnA ρ x) hv (by rw [rnAs_at, hx]; rfl)).unrn am (List.all_eq_true.1 hr x (List.mem_of_getElem? hx))
theorem FnS.gct {P : Program} {f : Nat} {args : List AV} {h : Hp} {R : AV → Hp → Prop} (hf : FnS P f args h R) (Q : AV → Hp → Prop)
    (hg : ∀ r h', R r h' → ∃ (σ : List Nat) (r' : AV) (hc : Hp), Q r' hc ∧ σ.length = hc.length ∧ σ.Nodup ∧ (∀ l ∈ σ, l < h'.length) ∧ (∀ (i : Nat) (k : Blk), hc[i]? = some k → h'[rho σ h'.length i]? = some (rnB (rho σ h'.length) k)) ∧
      r = rnA (rho σ h'.length) r' ∧ refsH hc.length hc = true ∧ refsT hc.length r' = true ∧ h.length ≤ hc.length ∧ (∀ i, i < h.length → rho σ h'.length i = i) ∧ ∀ k ∈ hc, ∀ m v es, k ≠ .mi m v es) : FnS P f args h Q := by
  refine ⟨fun G ι w vs hr hv => ?_⟩
  refine (hf.out G ι w vs hr hv).mono fun e w2 ⟨v, r, G2, ι2, h', he, hR, hr2, hvr, hx⟩ => ?_
  obtain ⟨σ, r', hc, hQ, hlen, hnd, hlt, hh, hrr, hcl, hca, hle, hid, hmi⟩ := hg r h' hR
  generalize hρ : rho σ h'.length = ρ at *
  have rold : ∀ i, i < σ.length → σ[i]? = some (ρ i) := fun i hi => by rw [← hρ]; exact rho_old σ _ i hi
  have rnew : ∀ i, σ.length ≤ i → ρ i = h'.length + (i - σ.length) := fun i hi => by rw [← hρ]; exact rho_new σ _ i hi
  have rmem : ∀ i, i < σ.length → ρ i ∈ σ := fun i hi => List.mem_of_getElem? (rold i hi)
  have rinj : ∀ i j, ρ i = ρ j → i = j := by
    intro i j e
    rcases Nat.lt_or_ge i σ.length with hi | hi <;> rcases Nat.lt_or_ge j σ.length with hj | hj
    · have h1 := rold i hi
      have h2 := rold j hj
      rw [e, ← h2] at h1
      exact (List.getElem?_inj hi hnd).1 h1
    · have := hlt _ (rmem i hi); have := rnew j hj; omega
    · have := hlt _ (rmem j hj); have := rnew i hi; omega
    · have := rnew i hi; have := rnew j hj; omega
  let ιc : Io := σ.map fun l => (ι2[l]?).getD (0, 0)
  have hιc : ∀ i, i < σ.length → ιc[i]? = ι2[ρ i]? := by
    intro i hi
    simp only [ιc, List.getElem?_map, rold i hi, Option.map_some]
    rw [List.getElem?_eq_getElem (by rw [hr2.len]; exact hlt _ (rmem i hi))]; rfl
  have am : Among ρ ιc hc ι2 h' := ⟨hh, fun i k hk => (hιc i (by rw [hlen]; exact get_lt hk)).symm⟩
  have hrc : HR G2 ιc hc w2 := HR.down am hr2 (by simp [ιc, hlen]) (fun i j _ _ e => rinj i j e) hcl
  have hvc : VR G2 w2 ιc hc v r' := VR.unrnT am (hrr ▸ hvr) hca
  refine ⟨v, r', G2, ιc, hc, he, hQ, hrc, hvc, ?_⟩
  exact
    { size := hx.size
      quiet := hx.quiet
      frame := hx.frame
      gmono := hx.gmono
      gnew := hx.gnew
      onew := fun b ho => hx.onew b (owned_up am ho)
      keep := fun l k hk => by
        obtain ⟨k', h1, h2⟩ := hx.keep l k hk
        have hl := get_lt hk
        have hkc : hc[l]? = some (hc[l]'(by omega)) := List.getElem?_eq_getElem _
        have h3 := hh l _ hkc
        rw [hid l hl, h1] at h3
        cases h3
        exact ⟨_, hkc, h2.unrn (by rw [hιc l (by omega), hid l hl]) (hmi _ (List.getElem_mem _))⟩ }
end Go.Ab

/-
  Comparing the versions of blocks.
-/
namespace Go.Ab
open Go.Proofs
theorem bq_self (n : Nat) : Nat.beq n n = true := Nat.beq_refl n
theorem bq_old (n : Nat) : Nat.beq n n.succ = false := by
 rw [Bool.eq_false_iff]; intro h; have := Nat.eq_of_beq_eq_true h; omega
theorem bq_lit (a b : Nat) : Nat.beq a b = decide (a = b) := by
 by_cases h : a = b
 ·subst h; simp
 ·rw [decide_eq_false h, Bool.eq_false_iff]; exact fun h' => h (Nat.eq_of_beq_eq_true h')
end Go.Ab

/-
  Reservations, part h: the program's table: proper requests; a new table.
-/
namespace Go.Ab
open Go.Proofs
theorem tproper_ok (P : Program) (hP : P = Try.prog) (caps : List Int) (v : Nat) (m : List Rq) (r : Rq) (hc : caps.length ≤ 1000) :
  FnS P n_reserve_Table_proper [.c (.ptr 0 0 0 0), rqA r] (rsvH caps v m) fun r' h' => r' = bA (decide (PropN (2 * caps.length) r)) ∧ h' = rsvH caps v m := by
 have h1 : FnS P n_reserve_Table_proper [.c (.ptr 0 0 0 0), rqA r] (rsvH caps v m) fun r' h' => ∃ h2, r' = bA (decide (PropN (2 * caps.length) r)) ∧ h' = rsvH caps v m ++ h2 := by
  have hhas := fun a => thas_ok P hP caps v m a hc
  have hcon := fun l a => contains_ok P hP l a
  refine heap_start (hP ▸ mixed) (hP ▸ fn_reserve_Table_proper) (hP ▸ c_reserve_Table_proper) (Nat.le_of_ble_eq_true rfl) fun Λ Λo K hK => ?_
  clear hP
  have yes : PropN (2 * caps.length) r → ∀ h2, K (bA true) (rsvH caps v m ++ h2) := fun h h2 => hK _ _ ⟨h2, by rw [decide_eq_true h], rfl⟩
  have no : ¬ PropN (2 * caps.length) r → ∀ h2, K (bA false) (rsvH caps v m ++ h2) := fun h h2 => hK _ _ ⟨h2, by rw [decide_eq_false h], rfl⟩
  clear hK
  obtain ⟨id, arcs, amt, setup, hold⟩ := r
  unfold PropN at yes no
  simp only at yes no
  simp only [rsvH, rqA, intsA, intsD, List.cons_append, List.nil_append] at *
  generalize caps.map encI = cl at *
  generalize m.map encM = ml at *
  generalize 2 * (caps.length : Int) = n at *
  obtain ⟨al, alh⟩ : ∃ al, arcs.map encI = al := ⟨_, rfl⟩
  rw [alh]
  have aln : Λ al = arcs.length := by rw [Λo, ← alh]; simp
  conv => cbv
  repeat' first | exact gu | exact trivial | refine And.intro ?_ ?_ | (intro hc; exact absurd hc (by decide)) | (intro hc; exfalso; omega) | (intro hc; (first | rw [wrap_small (by omega) (by omega)] at hc | rw [nI_eq] at hc | skip); try (conv => cbv))
  all_goals try (exact no (by omega) [_])
  refine loop_upx arcs.length (fun i : Int => [(0, .c (.ptr 0 0 0 0)), (3, .c (.ptr 2 0 0 0)), (28, .c (.d (.list false 1 al))), (29, iA (Λ al)), (30, iA i)])
   (fun _ => [.bx [.d (.list false 1 cl), .mp 1], .mp v ml, .bx [.d (iD id), .d (.list false 1 al), .d (iD amt), .d (iD setup), .d (iD hold)]])
   (fun k i => i = k ∧ k ≤ arcs.length ∧ (arcs.take k).Nodup ∧ ∀ a ∈ arcs.take k, 0 ≤ a ∧ a < n) 0 0
   (fun (_ : Unit) => [(3, .c (.ptr 2 0 0 0))]) (fun _ => [.bx [.d (.list false 1 cl), .mp 1], .mp v ml, .bx [.d (iD id), .d (.list false 1 al), .d (iD amt), .d (iD setup), .d (iD hold)]])
   (fun _ => arcs.Nodup ∧ ∀ a ∈ arcs, 0 ≤ a ∧ a < n) (Wk.ca) ⟨rfl, by omega, by simp, by simp⟩ (fun k s h => h.2.1) ?_ ?_
  ·rintro k i Q' ⟨hi, hk, hnd, hrg⟩ norm jn ex rt
   by_cases hlt : k < arcs.length
   ·obtain ⟨x, hx⟩ : ∃ x, arcs[k]? = some x := ⟨_, List.getElem?_eq_getElem hlt⟩
    have hxa := elt_at alh hi hx
    have hhx := hcon (arcs.take k) x
    have ik : i.toNat = k := by omega
    obtain ⟨tl, htl⟩ : ∃ tl, tl = List.take (Int.toNat i) al := ⟨_, rfl⟩
    rw [List.map_take, alh, ← ik, ← htl, ik] at hhx
    have hhs := hhas x
    by_cases hxr : 0 ≤ x ∧ x < n
    rotate_left
    ·rw [decide_eq_false hxr] at hhs
     clear hhx jn norm
     conv => cbv
     repeat' first | (refine ex _ _ _ ?_; (conv => cbv)) | (refine rt _ _ ?_; (conv => cbv)) | (intro e he; cases Option.some.inj (he.symm.trans hxa); (conv => cbv)) | (refine call_fr [0, 1] hhs rfl rfl (by decide) (by repeat' first | exact trivial | refine And.intro ?_ ?_ | rfl) rfl rfl ?_; rintro r hc' ⟨rfl, rfl⟩; (conv => cbv)) | exact gu | exact trivial | refine And.intro ?_ ?_ | (intro hc; exact absurd hc (by decide)) | (intro hc; exfalso; omega) | (intro hc; (first | rw [wrap_small (by omega) (by omega)] at hc | rw [nI_eq] at hc | skip); try (conv => cbv))
     exact no (fun h => hxr (h.2.2.2.2.2 x (List.mem_of_getElem? hx))) [_]
    rw [decide_eq_true hxr] at hhs
    conv => cbv
    repeat' first | (refine ex _ _ _ ?_; (conv => cbv)) | (refine rt _ _ ?_; (conv => cbv)) | (intro e he; cases Option.some.inj (he.symm.trans hxa); (conv => cbv)) | (refine call_fr [0, 1] hhs rfl rfl (by decide) (by repeat' first | exact trivial | refine And.intro ?_ ?_ | rfl) rfl rfl ?_; rintro r hc' ⟨rfl, rfl⟩; (conv => cbv)) | (intro (y : List (List D)) hy; refine (fun (hz : tl = y) => ?_) (htl.trans hy.symm); subst hz; (conv => cbv)) | refine call_b hhx rfl rfl ?_ ?_ | exact gu | exact trivial | refine And.intro ?_ ?_ | (intro hc; exact absurd hc (by decide)) | (intro hc; exfalso; omega) | (intro hc; (first | rw [wrap_small (by omega) (by omega)] at hc | rw [nI_eq] at hc | skip); try (conv => cbv))
    ·exact no (fun h => nodup_at h.2.2.2.2.1 hx (of_decide_eq_true (by assumption))) [_]
    ·refine norm _ _ _ ?_ (Wk.ca)
     have hnx : x ∉ arcs.take k := of_decide_eq_false (by assumption)
     rw [take_succ_get hx]
     refine ⟨by omega, by omega, ?_, ?_⟩
     ·rw [List.nodup_append]
      exact ⟨hnd, by simp, fun a ha b hb => by simp only [List.mem_singleton] at hb; subst hb; intro e; subst e; exact hnx ha⟩
     ·intro a ha
      rcases List.mem_append.1 ha with ha | ha
      ·exact hrg a ha
      ·simp only [List.mem_singleton] at ha; subst ha; exact hxr
   ·have jn := fun L h => jn L h () (by rw [List.take_of_length_le (by omega)] at hnd hrg; exact ⟨hnd, hrg⟩)
    clear norm
    conv => cbv
    repeat' first | exact gu | exact trivial | refine And.intro ?_ ?_ | (intro hc; exact absurd hc (by decide)) | (intro hc; exfalso; omega) | (intro hc; (first | rw [wrap_small (by omega) (by omega)] at hc | rw [nI_eq] at hc | skip); try (conv => cbv))
    exact jn _ _ (Wk.ca)
  ·rintro - ⟨hnd, hrg⟩
   conv => cbv
   repeat' first | exact gu | exact trivial | refine And.intro ?_ ?_ | (intro hc; exact absurd hc (by decide)) | (intro hc; exfalso; omega) | (intro hc; (first | rw [wrap_small (by omega) (by omega)] at hc | rw [nI_eq] at hc | skip); try (conv => cbv))
   all_goals first | exact yes ⟨by omega, by omega, by omega, by omega, hnd, hrg⟩ [_] | exact no (by omega) [_]
 refine (FnS.cut h1 ?_).mono ?_
 ·rintro r' h' ⟨h2, rfl, rfl⟩
  exact ⟨rfl, rfl⟩
 ·rintro r' h1 ⟨h2, ⟨h3, rfl, e⟩, hl⟩
  exact ⟨rfl, (List.append_inj e hl).1⟩
def capsT (t : Top) : List Int := t.links.map (·.cap)
def NewR (t : Top) (r : AV) (h' : Hp) : Prop := (validT t = true ∧ r = .tup [.c (.ptr 0 0 0 0), iA 0] ∧ h' = rsvH (capsT t) 0 []) ∨ (validT t = false ∧ r = .tup [.c (.d .nilp), iA 1] ∧ h' = [])
theorem tnew_ok (P : Program) (hP : P = Try.prog) (t : Top) : FnS P n_reserve_New [topA t] [] (NewR t) := by
 have h1 : FnS P n_reserve_New [topA t] [] fun r h' => (validT t = true ∧ r = .tup [.c (.ptr 2 0 0 0), iA 0] ∧ ∃ b h2, h' = [b, .mp 0 [], .bx [.d (intsD (capsT t)), .mp 1]] ++ h2) ∨ (validT t = false ∧ r = .tup [.c (.d .nilp), iA 1]) := by
  have hval := tvalid_ok P hP t
  refine heap_start (hP ▸ mixed) (hP ▸ fn_reserve_New) (hP ▸ c_reserve_New) (Nat.le_of_ble_eq_true rfl) fun Λ Λo K hK => ?_
  clear hP
  by_cases hv : validT t = true
  rotate_left
  ·have hv : validT t = false := by simpa using hv
   have k0 : ∀ h', K (.tup [.c (.d .nilp), iA 1]) h' := fun h' => hK _ _ (.inr ⟨hv, rfl⟩)
   clear hK
   rw [hv] at hval
   obtain ⟨nodes, ov, links⟩ := t
   simp only [topA, boolsD, linksD] at *
   generalize hol : ov.map encB = ol at *
   generalize hll : links.map encLk = ll at *
   have hlo : Λ ol = ov.length := by rw [Λo, ← hol]; simp
   have hls : Λ ll = links.length := by rw [Λo, ← hll]; simp
   conv => cbv
   repeat' first | refine call_b hval rfl rfl ?_ ?_ | exact gu | exact trivial | refine And.intro ?_ ?_ | (intro hc; exact absurd hc (by decide)) | (intro hc; exfalso; omega) | (intro hc; (first | rw [wrap_small (by omega) (by omega)] at hc | rw [nI_eq] at hc | skip); try (conv => cbv))
   exact k0 _
  have k1 : ∀ b h2, K (.tup [.c (.ptr 2 0 0 0), iA 0]) ([b, .mp 0 [], .bx [.d (intsD (capsT t)), .mp 1]] ++ h2) := fun b h2 => hK _ _ (.inl ⟨hv, rfl, b, h2, rfl⟩)
  clear hK
  have h256 := (validT_spec.1 hv).2.2.1
  rw [hv] at hval
  clear hv
  rw [capsT] at k1
  obtain ⟨nodes, ov, links⟩ := t
  simp only [topA, boolsD, linksD] at *
  generalize hol : ov.map encB = ol at *
  generalize hll : links.map encLk = ll at *
  have hlo : Λ ol = ov.length := by rw [Λo, ← hol]; simp
  have hls : Λ ll = links.length := by rw [Λo, ← hll]; simp
  simp only [intsD, List.cons_append, List.nil_append] at k1
  obtain ⟨cs, hcs⟩ : ∃ cs, cs = (links.map (·.cap)).map encI := ⟨_, rfl⟩
  rw [← hcs] at k1
  have hst : ∀ k x, links[k]? = some x → ((links.take (k + 1)).map (·.cap)).map encI = ((links.take k).map (·.cap)).map encI ++ [[iD x.cap]] := fun k x hx => by rw [take_succ_get hx]; simp [encI]
  have hall : links.take links.length = links := List.take_length
  have hlen : ∀ k, ((links.take k).map (·.cap)).map encI = ((links.take k).map (·.cap)).map encI := fun _ => rfl
  clear hlen
  conv => cbv
  repeat' first | refine call_b hval rfl rfl ?_ ?_ | exact gu | exact trivial | refine And.intro ?_ ?_ | (intro hc; exact absurd hc (by decide)) | (intro hc; exfalso; omega) | (intro hc; (first | rw [wrap_small (by omega) (by omega)] at hc | rw [nI_eq] at hc | skip); try (conv => cbv))
  refine loop_upx links.length (fun s : Int × Nat × Bool × Nat × List (List D) => [(4, .c (.ptr 2 0 0 0)), (14, .c (.d (.list false 7 ll))), (15, iA (Λ ll)), (16, iA s.1)])
   (fun s => [.bx [.d (iD nodes), .d (.list false 1 ol), .d (.list false 7 ll)], .mp 0 [], .bx [.arr 3 s.2.1 0 s.2.2.2.1, .mp 1], .da s.2.2.1 s.2.1 1 s.2.2.2.2])
   (fun k s => s.1 = k ∧ k ≤ links.length ∧ s.2.2.2.1 = k ∧ s.2.2.2.2 = ((links.take k).map (·.cap)).map encI ∧ s.2.2.2.2.length = k) (0, 0, false, 0, []) 0
   (fun (_ : Unit) => [(4, .c (.ptr 2 0 0 0))]) (fun _ => [.bx [.d (iD nodes), .d (.list false 1 ol), .d (.list false 7 ll)], .mp 0 [], .bx [.d (.list false 1 cs), .mp 1], .dead]) (fun _ => True)
   (.trans (.nilB 2 0 1 _ rfl rfl) (Wk.ca)) ⟨rfl, by omega, rfl, by simp, rfl⟩ (fun k s h => h.2.1) ?_ ?_
  ·rintro k ⟨i, ve, rr, n, es⟩ Q' ⟨hi, hk, hn, hes, hel⟩ norm jn ex rt
   simp only at hi hn hes hel
   by_cases hlt : k < links.length
   ·clear jn
    obtain ⟨⟨xa, xb, xc, xd, xcap, xdl, xg⟩, hx⟩ : ∃ x, links[k]? = some x := ⟨_, List.getElem?_eq_getElem hlt⟩
    have hxa := elt_at hll hi hx
    simp only [encLk] at hxa
    have hst := hst k _ hx
    simp only at hst
    rw [← hes] at hst
    obtain ⟨n1, hn1⟩ : ∃ n1, n1 = n + 1 := ⟨_, rfl⟩
    obtain ⟨e1, he1⟩ : ∃ e1, e1 = es ++ [[iD xcap]] := ⟨_, rfl⟩
    conv => cbv
    repeat' first | (refine ex _ _ _ ?_; (conv => cbv)) | (refine rt _ _ ?_; (conv => cbv)) | (intro e he; cases Option.some.inj (he.symm.trans hxa); (conv => cbv)) | (intro (m : Nat) (r : Bool) (y : List (List D)) hm hr hy; refine (fun (hz : n1 = m) (hz2 : e1 = y) => ?_) (by first | omega | (simp only [List.length_cons, List.length_nil] at hm; omega)) (by first | (rw [hy, List.drop_zero, List.take_of_length_le (by omega)]; exact he1) | (rw [hy]; exact he1)); subst hz; subst hz2; (conv => cbv)) | exact gu | exact trivial | refine And.intro ?_ ?_ | (intro hc; exact absurd hc (by decide)) | (intro hc; exfalso; omega) | (intro hc; (first | rw [wrap_small (by omega) (by omega)] at hc | rw [nI_eq] at hc | skip); try (conv => cbv))
    refine norm _ _ (_, _, _, _, _) ?_ (Wk.ca)
    exact ⟨by simp only; omega, by omega, by simp only; omega, by simp only; rw [hst, he1], by simp only; rw [he1]; simp; omega⟩
   ·obtain rfl : k = links.length := by omega
    rw [hall] at hes
    obtain rfl : es = cs := by rw [hes, hcs]
    clear norm hst
    conv => cbv
    repeat' first | exact gu | exact trivial | refine And.intro ?_ ?_ | (intro hc; exact absurd hc (by decide)) | (intro hc; exfalso; omega) | (intro hc; (first | rw [wrap_small (by omega) (by omega)] at hc | rw [nI_eq] at hc | skip); try (conv => cbv))
    refine jn _ _ () trivial (.trans (wk_z 3 ve 1 n rfl (by omega) (by simp [okL, okA, okCs, okC, bq_lit]) (by first | (simp [okH, okB, okCs, okC]; done) | simp [okH, okB, okCs, okC, bq_lit])) ?_)
    simp only [zL, zA, zCs, zC, zH, zB, bq_self, bq_old]
    exact Wk.ca
  ·rintro - -
   conv => cbv
   repeat' first | exact gu | exact trivial | refine And.intro ?_ ?_ | (intro hc; exact absurd hc (by decide)) | (intro hc; exfalso; omega) | (intro hc; (first | rw [wrap_small (by omega) (by omega)] at hc | rw [nI_eq] at hc | skip); try (conv => cbv))
   exact k1 _ [_]
 refine FnS.gct h1 _ fun r h' hR => ?_
 rcases hR with ⟨hv, rfl, b, h2, rfl⟩ | ⟨hv, rfl⟩
 ·exact ⟨[2, 1], .tup [.c (.ptr 0 0 0 0), iA 0], rsvH (capsT t) 0 [], .inl ⟨hv, rfl, rfl⟩, rfl, by decide, fun l hl => by simp at hl ⊢; omega,
   fun i k hk => by (match i, hk with | 0, hk => cases Option.some.inj hk; rfl | 1, hk => cases Option.some.inj hk; rfl), rfl, rfl, rfl, by simp, fun i hi => by simp at hi, fun k hk => by simp at hk; rcases hk with rfl | rfl <;> intro _ _ _ h <;> cases h⟩
 ·exact ⟨[], .tup [.c (.d .nilp), iA 1], [], .inr ⟨hv, rfl, rfl⟩, rfl, by simp, by simp, fun i k hk => by simp at hk, rfl, rfl, rfl, by simp, by simp, by simp⟩
end Go.Ab

/-
  Reservations, part i: the order in which reservations yield.
-/
namespace Go.Ab
open Go.Proofs
def cmpI (x y : Int) : Int := if x < y then -1 else if y < x then 1 else 0
def cmpH (h1 i1 h2 i2 : Int) : Int := if cmpI h2 h1 = 0 then cmpI i1 i2 else cmpI h2 h1
theorem nan_ok (P : Program) (hP : P = Try.prog) (x : Int) : Ret P n_cmp_isNaN_int [iA x] (bA false) := by
 refine ret_start (hP ▸ mixed) (hP ▸ fn_cmp_isNaN_int) (hP ▸ c_cmp_isNaN_int) (Nat.le_of_ble_eq_true rfl) fun Λ Λo K hK => ?_
 clear hP
 conv => cbv
 repeat' first | exact gu | exact trivial | refine And.intro ?_ ?_ | (intro hc; exact absurd hc (by decide)) | (intro hc; exfalso; omega) | (intro hc; (first | rw [wrap_small (by omega) (by omega)] at hc | rw [nI_eq] at hc | skip); try (conv => cbv))
 exact hK
theorem compare_ok (P : Program) (hP : P = Try.prog) (x y : Int) : Ret P n_cmp_Compare_int [iA x, iA y] (iA (cmpI x y)) := by
 have hn := nan_ok P hP
 refine ret_start (hP ▸ mixed) (hP ▸ fn_cmp_Compare_int) (hP ▸ c_cmp_Compare_int) (Nat.le_of_ble_eq_true rfl) fun Λ Λo K hK => ?_
 clear hP
 have leaf : ∀ b : Int, cmpI x y = b → K (iA b) := fun b hb => by rw [← hb]; exact hK
 clear hK
 unfold cmpI at leaf
 conv => cbv
 repeat' first | refine call_b (hn _) rfl rfl ?_ ?_ | exact gu | exact trivial | refine And.intro ?_ ?_ | (intro hc; exact absurd hc (by decide)) | (intro hc; exfalso; omega) | (intro hc; (first | rw [wrap_small (by omega) (by omega)] at hc | rw [nI_eq] at hc | skip); try (conv => cbv))
 all_goals (refine leaf _ ?_; (repeat' split) <;> omega)
theorem or_ok (P : Program) (hP : P = Try.prog) (x y : Int) : Ret P n_cmp_Or_int [.c (.d (.list false 1 [[iD x], [iD y]]))] (iA (if x = 0 then y else x)) := by
 refine ret_start (hP ▸ mixed) (hP ▸ fn_cmp_Or_int) (hP ▸ c_cmp_Or_int) (Nat.le_of_ble_eq_true rfl) fun Λ Λo K hK => ?_
 clear hP
 have leaf : ∀ b : Int, (if x = 0 then y else x) = b → K (iA b) := fun b hb => by rw [← hb]; exact hK
 clear hK
 obtain ⟨al, hal⟩ : ∃ al, al = [[iD x], [iD y]] := ⟨_, rfl⟩
 rw [← hal]
 have aln : Λ al = 2 := by rw [Λo, hal]; rfl
 have g0 : ∀ i : Int, i = 0 → al[i.toNat]? = some [iD x] := fun i h => by rw [h, hal]; rfl
 have g1 : ∀ i : Int, i = 1 → al[i.toNat]? = some [iD y] := fun i h => by rw [h, hal]; rfl
 conv => cbv
 repeat' first | exact gu | exact trivial | refine And.intro ?_ ?_ | (intro hc; exact absurd hc (by decide)) | (intro hc; exfalso; omega) | (intro hc; (first | rw [wrap_small (by omega) (by omega)] at hc | rw [nI_eq] at hc | skip); try (conv => cbv))
 refine loop_up 2 (fun i : Int => [(3, iA 0), (6, .c (.d (.list false 1 al))), (7, iA (Λ al)), (8, iA i)]) (fun _ => []) (fun k i => i = k ∧ k ≤ 2 ∧ (1 ≤ k → x = 0) ∧ (2 ≤ k → y = 0)) 0 (Wk.cw) ⟨rfl, by omega, by omega, by omega⟩ (fun k s h => h.2.1) ?_
 rintro k i Q' ⟨hi, hk, h0, h1⟩ norm ex rt
 have hk3 : k = 0 ∨ k = 1 ∨ k = 2 := by omega
 rcases hk3 with rfl | rfl | rfl
 ·have gx := g0 i (by omega)
  conv => cbv
  repeat' first | (refine ex _ _ _ ?_; (conv => cbv)) | (refine rt _ _ ?_; (conv => cbv)) | (intro (e : List D) he; cases Option.some.inj (he.symm.trans gx); (conv => cbv)) | exact gu | exact trivial | refine And.intro ?_ ?_ | (intro hc; exact absurd hc (by decide)) | (intro hc; exfalso; omega) | (intro hc; (first | rw [wrap_small (by omega) (by omega)] at hc | rw [nI_eq] at hc | skip); try (conv => cbv))
  ·refine leaf _ ?_
   rw [if_neg (by assumption)]
  ·refine norm _ _ _ ?_ (Wk.cw)
   exact ⟨by omega, by omega, fun _ => by omega, by omega⟩
 ·have gx := g1 i (by omega)
  conv => cbv
  repeat' first | (refine ex _ _ _ ?_; (conv => cbv)) | (refine rt _ _ ?_; (conv => cbv)) | (intro (e : List D) he; cases Option.some.inj (he.symm.trans gx); (conv => cbv)) | exact gu | exact trivial | refine And.intro ?_ ?_ | (intro hc; exact absurd hc (by decide)) | (intro hc; exfalso; omega) | (intro hc; (first | rw [wrap_small (by omega) (by omega)] at hc | rw [nI_eq] at hc | skip); try (conv => cbv))
  ·refine leaf _ ?_
   rw [if_pos (h0 (by omega))]
  ·refine norm _ _ _ ?_ (Wk.cw)
   exact ⟨by omega, by omega, fun _ => h0 (by omega), fun _ => by omega⟩
 ·conv => cbv
  repeat' first | (refine ex _ _ _ ?_; (conv => cbv)) | (refine rt _ _ ?_; (conv => cbv)) | exact gu | exact trivial | refine And.intro ?_ ?_ | (intro hc; exact absurd hc (by decide)) | (intro hc; exfalso; omega) | (intro hc; (first | rw [wrap_small (by omega) (by omega)] at hc | rw [nI_eq] at hc | skip); try (conv => cbv))
  refine leaf _ ?_
  have e1 := h0 (by omega)
  have e2 := h1 (by omega)
  rw [if_pos e1, e2]
theorem ycmp_ok (P : Program) (hP : P = Try.prog) (i1 m1 s1 h1 i2 m2 s2 h2 : Int) (x y : D) : FnS P n_reserve_Table_yielding_1 [.agg [.d (iD i1), .d x, .d (iD m1), .d (iD s1), .d (iD h1)], .agg [.d (iD i2), .d y, .d (iD m2), .d (iD s2), .d (iD h2)]] [] fun r _ => r = iA (cmpH h1 i1 h2 i2) := by
 have hc := compare_ok P hP
 have ho := or_ok P hP (cmpI h2 h1) (cmpI i1 i2)
 refine heap_start (hP ▸ mixed) (hP ▸ fn_reserve_Table_yielding_1) (hP ▸ c_reserve_Table_yielding_1) (Nat.le_of_ble_eq_true rfl) fun Λ Λo K hK => ?_
 clear hP
 have leaf : ∀ b h', b = cmpH h1 i1 h2 i2 → K (iA b) h' := fun b h' e => hK _ _ (by rw [e])
 clear hK
 have hc1 := hc h2 h1
 have hc2 := hc i1 i2
 unfold cmpH at leaf
 clear hc
 generalize cmpI h2 h1 = c1 at *
 generalize cmpI i1 i2 = c2 at *
 conv => cbv
 repeat' first | (refine call_r hc1 rfl rfl ?_; conv => cbv) | (refine call_r hc2 rfl rfl ?_; conv => cbv) | (refine look_i ho rfl ?_; (conv => cbv)) | exact gu | exact trivial | refine And.intro ?_ ?_ | (intro hc; exact absurd hc (by decide)) | (intro hc; exfalso; omega) | (intro hc; (first | rw [wrap_small (by omega) (by omega)] at hc | rw [nI_eq] at hc | skip); try (conv => cbv))
 exact leaf _ _ (by assumption)
end Go.Ab

