/-
  The engine, part i: composite values and new slices.
-/
import Derived.Test.YtjaodmgeonfkiaaEh
namespace Go.Ab

section
variable {P : Program} {w : World} {G : Nat → Prop} {ι : Io} {h : Hp}

theorem wrap_id {n : Int} (h0 : -9223372036854775808 ≤ n) (h1 : n ≤ 9223372036854775807) : IntKind.i64.wrap n = n := by
  simp [IntKind.wrap, IntKind.bits, IntKind.signed]
  omega

/-- give up the blocks of a list of cells -/
def frzs (h : Hp) : List CV → Option (List D × Hp)
  | [] => some ([], h)
  | x :: r => match frz h x with
    | some (d, h1) => match frzs h1 r with
      | some (ds, h2) => some (d :: ds, h2)
      | none => none
    | none => none

theorem frzs_sound : ∀ {cs : List CV} {vs : List Value} {G : Nat → Prop} {h h' : Hp} {ds : List D}, HR G ι h w → vs.length = cs.length →
    (∀ (i : Nat) (v : Value) (x : CV), vs[i]? = some v → cs[i]? = some x → CR G w ι h v x) → frzs h cs = some (ds, h') →
    ∃ G', HR G' ι h' w ∧ Ext G ι h w G' ι h' w ∧ ds.length = cs.length ∧ ∀ (i : Nat) (v : Value) (x : D), vs[i]? = some v → ds[i]? = some x → DR G' w v x := by
  intro cs
  induction cs with
  | nil =>
    intro vs G h h' ds hr hl hc hf
    simp only [frzs, Option.some.injEq, Prod.mk.injEq] at hf
    obtain ⟨rfl, rfl⟩ := hf
    exact ⟨G, hr, Ext.refl _ _ _ _, rfl, by simp⟩
  | cons c cs ih =>
    intro vs G h h' ds hr hl hc hf
    cases vs with
    | nil => simp at hl
    | cons v vs =>
      simp only [frzs] at hf
      split at hf
      · rename_i d h1 hd
        split at hf
        · rename_i ds' h2 hds
          simp only [Option.some.injEq, Prod.mk.injEq] at hf
          obtain ⟨rfl, rfl⟩ := hf
          obtain ⟨G1, k1, k2, k3⟩ := frz_sound hr (hc 0 v c rfl rfl) hd
          obtain ⟨G2, q1, q2, q3, q4⟩ := ih k1 (by simpa using hl) (fun i v x hv hx => (hc (i + 1) v x (by simpa using hv) (by simpa using hx)).ext k3 hr) hds
          refine ⟨G2, q1, k3.trans q2, by simp [q3], fun i v' x hv hx => ?_⟩
          cases i with
          | zero => simp at hv hx; subst hv hx; exact k2.ext q2 k1
          | succ i => simp at hv hx; exact q4 i v' x hv hx
        · cases hf
      · cases hf

theorem foldl_set : ∀ (l : List Value) (o i : Nat) (c : Array Value), o + i + l.length ≤ c.size →
    ((l.zipIdx i).foldl (fun cs (p : Value × Nat) => cs.setIfInBounds (o + p.2) p.1) c).size = c.size ∧
    ∀ k : Nat, ((l.zipIdx i).foldl (fun cs (p : Value × Nat) => cs.setIfInBounds (o + p.2) p.1) c)[k]? = if o + i ≤ k ∧ k < o + i + l.length then l[k - (o + i)]? else c[k]? := by
  intro l
  induction l with
  | nil => intro o i c _; refine ⟨rfl, fun k => ?_⟩; rw [if_neg (by simp)]; rfl
  | cons v l ih =>
    intro o i c hc
    simp only [List.length_cons] at hc
    obtain ⟨h1, h2⟩ := ih o (i + 1) (c.setIfInBounds (o + i) v) (by simp; omega)
    simp only [List.zipIdx_cons, List.foldl_cons]
    refine ⟨by rw [h1]; simp, fun k => ?_⟩
    rw [h2 k, Array.getElem?_setIfInBounds]
    simp only [List.length_cons]
    by_cases hk : k = o + i
    · subst hk
      rw [if_neg (by omega), if_pos rfl, if_pos (by omega)]
      simp
    · have hk' : ¬ o + i = k := fun e => hk e.symm
      simp only [hk', if_false]
      by_cases hin : o + (i + 1) ≤ k ∧ k < o + (i + 1) + l.length
      · rw [if_pos hin, if_pos (by omega), show k - (o + i) = (k - (o + (i + 1))) + 1 by omega]
        simp
      · rw [if_neg hin, if_neg (by omega)]

theorem fill_one (place : Nat → Option (Nat × Nat)) (c : Array Value) (i : Nat) (v : Value) (rest : List (Nat × Value)) (o s : Nat) (hp : place i = some (o, s)) (hs : v.cells.size = s) (ho : o + s ≤ c.size) :
    ∃ c' : Array Value, Instr.fill place c ((i, v) :: rest) = Instr.fill place c' rest ∧ c'.size = c.size ∧
      ∀ k : Nat, c'[k]? = if o ≤ k ∧ k < o + s then v.cells[k - o]? else c[k]? := by
  obtain ⟨h1, h2⟩ := foldl_set v.cells.toList o 0 c (by simp; omega)
  refine ⟨((v.cells.toList.zipIdx 0).foldl (fun cs (p : Value × Nat) => cs.setIfInBounds (o + p.2) p.1) c), ?_, h1, fun k => ?_⟩
  · simp only [Instr.fill, hp]
    rw [if_neg (by simp [hs]; omega)]
    congr 1
    rw [← Array.foldl_toList]
    simp
  · rw [h2 k]
    simp only [Nat.add_zero, Array.length_toList, hs, Array.getElem?_toList]

/-- fill places of a list of cells -/
def fillA (z : List CV) : List (Nat × Nat × List CV) → Option (List CV)
  | [] => some z
  | (o, s, cs) :: r => if cs.length = s ∧ o + s ≤ z.length then fillA (z.take o ++ (cs ++ z.drop (o + cs.length))) r else none

theorem fill_sound (place : Nat → Option (Nat × Nat)) : ∀ (ps : List (Nat × Value)) (as : List (Nat × Nat × List CV)) (c : Array Value) (z z' : List CV), ps.length = as.length →
    (∀ (i : Nat) (p : Nat × Value) (a : Nat × Nat × List CV), ps[i]? = some p → as[i]? = some a → place p.1 = some (a.1, a.2.1) ∧ p.2.cells.size = a.2.2.length ∧
      ∀ (j : Nat) (y : Value) (x : CV), p.2.cells[j]? = some y → a.2.2[j]? = some x → CR G w ι h y x) →
    c.size = z.length → (∀ (j : Nat) (y : Value) (x : CV), c[j]? = some y → z[j]? = some x → CR G w ι h y x) → fillA z as = some z' →
    ∃ c' : Array Value, Instr.fill place c ps = some c' ∧ c'.size = z'.length ∧ ∀ (j : Nat) (y : Value) (x : CV), c'[j]? = some y → z'[j]? = some x → CR G w ι h y x := by
  intro ps
  induction ps with
  | nil =>
    intro as c z z' hl _ hc hr hf
    cases as with
    | nil => simp only [fillA, Option.some.injEq] at hf; subst hf; exact ⟨c, rfl, hc, hr⟩
    | cons => simp at hl
  | cons p ps ih =>
    intro as c z z' hl hp hc hr hf
    cases as with
    | nil => simp at hl
    | cons a as =>
      obtain ⟨o, s, cs⟩ := a
      obtain ⟨i, v⟩ := p
      simp only [fillA] at hf
      split at hf
      · rename_i hcond
        obtain ⟨h1, h2, h3⟩ := hp 0 (i, v) (o, s, cs) rfl rfl
        simp only at h1 h2 h3
        obtain ⟨c', q1, q2, q3⟩ := fill_one place c i v ps o s h1 (by omega) (by omega)
        rw [q1]
        refine ih as c' _ z' (by simpa using hl) (fun k p' a' hp' ha' => hp (k + 1) p' a' (by simpa using hp') (by simpa using ha')) (by rw [q2, splice_len z cs o (by omega)]; exact hc) ?_ hf
        intro j y x hy hx
        rw [splice_get z cs o j (by omega)] at hx
        rw [q3] at hy
        by_cases hin : o ≤ j ∧ j < o + cs.length
        · rw [if_pos hin] at hx
          rw [if_pos (by omega)] at hy
          exact h3 _ y x hy hx
        · rw [if_neg hin] at hx
          rw [if_neg (by omega)] at hy
          exact hr j y x hy hx
      · cases hf

/-- the elements of a composite slice -/
def fillE (sz : Nat) (es : List (List D)) : List (Nat × List D) → Option (List (List D))
  | [] => some es
  | (i, ds) :: r => if ds.length = sz ∧ i < es.length then fillE sz (es.set i ds) r else none

theorem fillE_sound {sz : Nat} : ∀ (ps : List (Nat × Value)) (as : List (Nat × List D)) (c : Array Value) (es es' : List (List D)), ps.length = as.length →
    (∀ (i : Nat) (p : Nat × Value) (a : Nat × List D), ps[i]? = some p → as[i]? = some a → p.1 = a.1 ∧ p.2.cells.size = a.2.length ∧
      ∀ (j : Nat) (y : Value) (x : D), p.2.cells[j]? = some y → a.2[j]? = some x → DR G w y x) →
    laid sz es G w c 0 → c.size = es.length * sz → fillE sz es as = some es' →
    ∃ c' : Array Value, Instr.fill (fun i => some (i * sz, sz)) c ps = some c' ∧ laid sz es' G w c' 0 ∧ c'.size = es'.length * sz ∧ es'.length = es.length := by
  intro ps
  induction ps with
  | nil =>
    intro as c es es' hl _ hla hc hf
    cases as with
    | nil => simp only [fillE, Option.some.injEq] at hf; subst hf; exact ⟨c, rfl, hla, hc, rfl⟩
    | cons => simp at hl
  | cons p ps ih =>
    intro as c es es' hl hp hla hc hf
    cases as with
    | nil => simp at hl
    | cons a as =>
      obtain ⟨i', ds⟩ := a
      obtain ⟨i, v⟩ := p
      simp only [fillE] at hf
      split at hf
      · rename_i hcond
        obtain ⟨h1, h2, h3⟩ := hp 0 (i, v) (i', ds) rfl rfl
        simp only at h1 h2 h3
        subst h1
        have hmul : i * sz + sz ≤ es.length * sz := by
          have : (i + 1) * sz ≤ es.length * sz := Nat.mul_le_mul_right sz hcond.2
          rw [Nat.add_mul, Nat.one_mul] at this; exact this
        obtain ⟨c', q1, q2, q3⟩ := fill_one (fun i => some (i * sz, sz)) c i v ps (i * sz) sz rfl (by omega) (by omega)
        rw [q1]
        have hla' : laid sz (es.set i ds) G w c' 0 := by
          refine ⟨fun k e he => ?_, fun k e j x he hx => ?_⟩
          · rcases get_set he with ⟨_, rfl, _⟩ | ⟨_, he'⟩
            · exact hcond.1
            · exact hla.1 k e he'
          · rcases get_set he with ⟨rfl, rfl, _⟩ | ⟨hne, he'⟩
            · have hj := get_lt hx
              have h1' : v.cells[j]? = some (v.cells[j]'(by omega)) := Array.getElem?_eq_getElem (by omega)
              refine ⟨_, ?_, h3 j _ x h1' hx⟩
              rw [q3, if_pos (by omega), show 0 + k * sz + j - k * sz = j by omega]; exact h1'
            · obtain ⟨y, hy, hd⟩ := hla.2 k e j x he' hx
              refine ⟨y, ?_, hd⟩
              have hj : j < sz := by have := get_lt hx; rw [hla.1 k e he'] at this; exact this
              have hsep : k * sz + j < i * sz ∨ i * sz + sz ≤ k * sz + j := by
                rcases Nat.lt_or_ge k i with hlt | hge
                · left
                  have : (k + 1) * sz ≤ i * sz := Nat.mul_le_mul_right sz hlt
                  rw [Nat.add_mul, Nat.one_mul] at this; omega
                · right
                  have hgt : i < k := by omega
                  have : (i + 1) * sz ≤ k * sz := Nat.mul_le_mul_right sz hgt
                  rw [Nat.add_mul, Nat.one_mul] at this; omega
              rw [q3, if_neg (by omega)]; exact hy
        obtain ⟨c'', r1, r2, r3, r4⟩ := ih as c' (es.set i ds) es' (by simpa using hl) (fun k p' a' hp' ha' => hp (k + 1) p' a' (by simpa using hp') (by simpa using ha')) hla' (by rw [q2]; simpa using hc) hf
        exact ⟨c'', r1, r2, r3, by simpa using r4⟩
      · cases hf

/-- n zero elements, laid one behind the other -/
theorem laid_zero {z : Value} {zd : List D} {sz : Nat} (n m : Nat) (hz : z.cells.size = sz) (hzd : zd.length = sz) (hrel : ∀ (j : Nat) (y : Value) (x : D), z.cells[j]? = some y → zd[j]? = some x → DR G w y x)
    (hm : n * sz ≤ m) : laid sz (List.replicate n zd) G w ((Array.range m).map (z.cells[· % z.cells.size]!)) 0 := by
  refine ⟨fun i e he => ?_, fun i e j x he hx => ?_⟩
  · rw [List.getElem?_replicate] at he
    split at he
    · cases he; exact hzd
    · cases he
  · rw [List.getElem?_replicate] at he
    split at he
    · rename_i hi
      cases he
      have hj : j < sz := by have := get_lt hx; omega
      have h1' : z.cells[j]? = some (z.cells[j]'(by omega)) := Array.getElem?_eq_getElem (by omega)
      refine ⟨_, ?_, hrel j _ x h1' hx⟩
      have hmul : i * sz + sz ≤ n * sz := by
        have : (i + 1) * sz ≤ n * sz := Nat.mul_le_mul_right sz hi
        rw [Nat.add_mul, Nat.one_mul] at this; exact this
      have hlt : 0 + i * sz + j < m := by omega
      rw [Array.getElem?_map, Array.getElem?_range]
      have hmod : (0 + i * sz + j) % z.cells.size = j := by
        rw [hz, Nat.zero_add, Nat.mul_comm, Nat.mul_add_mod, Nat.mod_eq_of_lt hj]
      simp only [hlt, if_true, Option.map_some, hmod, Option.some.injEq]
      rw [getElem!_pos z.cells j (by omega)]
    · cases he

/-- the zero value's data -/
def zds (P : Program) (el : TypeId) : Option (List D) :=
  match P.info? el with
  | some i => match i.zero with
    | some z => match tcav P el z with
      | some av => match cells av with
        | some cs => match toDs cs with
          | some ds => if ds.length = i.size ∧ z.cells.size = i.size then some ds else none
          | none => none
        | none => none
      | none => none
    | none => none
  | none => none

theorem zds_sound {el : TypeId} {zd : List D} (hz : zds P el = some zd) : ∃ i z, P.info? el = some i ∧ i.zero = some z ∧ zd.length = i.size ∧ z.cells.size = i.size ∧
    ∀ (G : Nat → Prop) (w : World) (j : Nat) (y : Value) (x : D), z.cells[j]? = some y → zd[j]? = some x → DR G w y x := by
  unfold zds at hz
  split at hz
  · rename_i i hi
    split at hz
    · rename_i z hzz
      split at hz
      · rename_i av hav
        split at hz
        · rename_i cs hcs
          split at hz
          · rename_i ds hds
            split at hz
            · rename_i hcond
              cases hz
              refine ⟨i, z, hi, hzz, hcond.1, hcond.2, fun G w j y x hy hx => ?_⟩
              obtain ⟨hdl, hdg⟩ := toDs_get hds
              have hrel := (tcav_sound hav G w [] []).cells hcs (toDs_ok hds)
              have hj : j < cs.length := by have := get_lt hx; omega
              have h2' : cs[j]? = some cs[j] := List.getElem?_eq_getElem hj
              exact toD_sound (hrel.2 j y _ hy h2') (hdg j _ x h2' hx)
            · cases hz
          · cases hz
        · cases hz
      · cases hz
    · cases hz
  · cases hz

theorem s_mks {t el : TypeId} {k k' : IntKind} {ln cp : Int} {zd : List D} {ti : TypeInfo} (hr : HR G ι h w) (hu : P.underlying t = some (.slice el)) (hz : zds P el = some zd) (hi : P.info? el = some ti)
    (h0 : 0 ≤ ln) (h1 : ln ≤ cp) (hb : cp.toNat * ti.bytes ≤ 140737488355328) (hc : cp ≤ 9223372036854775807) :
    ∃ v w' G' ι', (Instr.makeSlice t (.int k ln) (.int k' cp)).run P w = .ok v w' ∧ HR G' ι' (h ++ [.da true 0 ti.size (List.replicate ln.toNat zd)]) w' ∧
      VR G' w' ι' (h ++ [.da true 0 ti.size (List.replicate ln.toNat zd)]) v (.c (.arr h.length 0 0 ln.toNat)) ∧ Ext G ι h w G' ι' (h ++ [.da true 0 ti.size (List.replicate ln.toNat zd)]) w' := by
  obtain ⟨i, z, g1, g2, g3, g4, g5⟩ := zds_sound hz
  rw [hi] at g1; cases g1
  have hwl : IntKind.i64.wrap ln = ln := wrap_id (by omega) (by omega)
  have hwc : IntKind.i64.wrap cp = cp := wrap_id (by omega) (by omega)
  have hbI : ¬ (2 : Int) ^ 48 < (ti.bytes : Int) * cp := by
    have : (ti.bytes : Int) * cp = ((cp.toNat * ti.bytes : Nat) : Int) := by
      rw [Int.natCast_mul, Int.toNat_of_nonneg (by omega), Int.mul_comm]
    rw [this]; omega
  have hn : (ln.toNat) * ti.size ≤ cp.toNat * ti.size := Nat.mul_le_mul_right _ (by omega)
  have hl := laid_zero (G := G) (w := w) ln.toNat (cp.toNat * ti.size) g4 g3 (g5 G w) hn
  obtain ⟨q1, q2, q3⟩ := new_da (n := ln.toNat) (cap := cp.toNat) (k := ln.toNat) el hr hl (by simp) (by omega) (by simp) (by simp) (by simp; omega)
  refine ⟨_, _, G, _, ?_, q1, q2, q3⟩
  have e1 : ¬ cp < 0 := by omega
  have e2 : ¬ ln < 0 := by omega
  have e3 : ¬ cp < ln := by omega
  simp only [Instr.makeSlice, Sem.run_bind, r_und hu, Result.andThen_ok, asInt, asIntOf, Sem.run_pure, r_info hi, hwl, hwc, Sem.run_ite, r_size hi, run_askRoom]
  simp only [gt_iff_lt, e1, hbI, e2, e3, decide_false, Bool.or_self, Bool.false_eq_true, if_false]
  by_cases hz0 : cp.toNat * ti.size = 0
  · simp only [hz0, if_true, Result.andThen_ok, newRow, Sem.run_bind, run_newObj, Sem.run_pure]
    have : ∀ f : Nat → Value, Array.map f (Array.range 0) = #[] := fun f => by simp
    simp [push, this]
  · simp only [hz0, if_false, r_zero hi g2, Result.andThen_ok, newRow, Sem.run_bind, run_newObj, Sem.run_pure]
    rfl

end
end Go.Ab
