/-
  Merged texts, part d.
-/
import Derived.Test.YtollegfnkaomeaaZc
import GoSem.Step
/-
  The engine, part f: runs of the model's operations on related values.
-/
namespace Go.Ab
section
variable {P : Program} {w : World}
theorem r_und {t : TypeId} {d : TypeDesc} (h : P.underlying t = some d) : (underlying t).run P w = .ok d w := by
 simp [underlying, h]
theorem r_info {t : TypeId} {i : TypeInfo} (h : P.info? t = some i) : (typeInfo t).run P w = .ok i w := by
 simp [typeInfo, h]
theorem r_size {t : TypeId} {i : TypeInfo} (h : P.info? t = some i) : (sizeOf t).run P w = .ok i.size w := by
 simp [sizeOf, r_info h]
theorem r_zero {t : TypeId} {i : TypeInfo} {z : Value} (h : P.info? t = some i) (hz : i.zero = some z) : (zeroValue t).run P w = .ok z w := by
 simp [zeroValue, r_info h, hz]
def aggD : TypeDesc → Bool
 | .struct _ => true
 | .array _ _ => true
 | _ => false
def ldk (P : Program) (t : TypeId) : Option (Option Nat) :=
 match P.underlying t with
 | some d => if aggD d then (P.info? t).map fun i => some i.size else some none
 | none => none
theorem r_isAgg {t : TypeId} {d : TypeDesc} (hu : P.underlying t = some d) : (isAgg t).run P w = .ok (aggD d) w := by
 simp only [isAgg, Sem.run_bind, r_und hu, Result.andThen_ok]
 cases d <;> rfl
theorem ldk_some {t : TypeId} {n : Nat} (h : ldk P t = some (some n)) : (isAgg t).run P w = .ok true w ∧ (sizeOf t).run P w = .ok n w := by
 unfold ldk at h
 split at h
 ·rename_i d hu
  split at h
  ·rename_i ha
   simp only [Option.map_eq_some_iff, Option.some.injEq] at h
   obtain ⟨i, hi, rfl⟩ := h
   exact ⟨by rw [r_isAgg hu, ha], r_size hi⟩
  ·cases h
 ·cases h
theorem ldk_none {t : TypeId} (h : ldk P t = some none) : (isAgg t).run P w = .ok false w := by
 unfold ldk at h
 split at h
 ·rename_i d hu
  split at h
  ·simp at h
  ·rename_i ha
   rw [r_isAgg hu]; simpa using ha
 ·cases h
variable {G : Nat → Prop} {ι : Io} {h : Hp}
theorem s_ld1 {t : TypeId} {p : Value} {pv : AV} {c : CV} {cs : List CV} (hr : HR G ι h w) (hp : VR G w ι h p pv) (hk : ldk P t = some none) (hd : rd h pv = some (c :: cs)) :
  ∃ v, (Instr.loadAt t p).run P w = .ok v w ∧ VR G w ι h v (.c c) := by
 obtain ⟨b, o, rfl, hc⟩ := rd_sound hr hp hd
 obtain ⟨y, hy, hcr⟩ := hc 0 c rfl
 refine ⟨y, ?_, .c _ _ hcr⟩
 simp only [Nat.add_zero] at hy
 simp [Instr.loadAt, Instr.sureAddr, loadVar, ldk_none hk, hy]
theorem s_ldn {t : TypeId} {p : Value} {pv : AV} {cs : List CV} {n : Nat} (hr : HR G ι h w) (hp : VR G w ι h p pv) (hk : ldk P t = some (some n)) (hd : rd h pv = some cs) (hn : n ≤ cs.length) :
  ∃ v, (Instr.loadAt t p).run P w = .ok v w ∧ VR G w ι h v (.agg (cs.take n)) := by
 obtain ⟨b, o, rfl, hc⟩ := rd_sound hr hp hd
 obtain ⟨vs, h1, h2, h3⟩ := loadCells_sound P hc hn
 obtain ⟨k1, k2⟩ := ldk_some (w := w) hk
 refine ⟨.agg vs, ?_, .agg _ _ (by simp; omega) fun i v x hv hx => ?_⟩
 ·simp [Instr.loadAt, Instr.sureAddr, loadVar, k1, k2, h1]
 ·rw [List.getElem?_take] at hx
  split at hx
  ·exact h3 i v x hv hx
  ·cases hx
theorem s_st {t : TypeId} {i : TypeInfo} {p v : Value} {pv xv : AV} {cs : List CV} {h' : Hp} (hr : HR G ι h w) (hp : VR G w ι h p pv) (hx : VR G w ι h v xv) (hi : P.info? t = some i)
  (hc : cells xv = some cs) (hs : cellsOk h cs = true) (hn : cs.length = i.size) (hw : wr h pv cs = some h' ∨ wrd h pv cs = some h') :
  ∃ w', (Instr.storeAt t p v).run P w = .ok () w' ∧ HR G ι h' w' ∧ Ext G ι h w G ι h' w' := by
 have hsz := (hx.cells hc hs).1
 have key : ∃ b o w', p = .pointer (some ⟨b, o, none⟩) ∧ (storeCells ⟨b, o, none⟩ v.cells.toList).run P w = .ok () w' ∧ HR G ι h' w' ∧ Ext G ι h w G ι h' w' := by
  rcases hw with hw | hw
  ·exact wr_sound P hr hp hx hc hs hw
  ·exact wrd_sound P hr hp hx hc hw
 obtain ⟨b, o, w', rfl, h1, h2, h3⟩ := key
 refine ⟨w', ?_, h2, h3⟩
 simp [Instr.storeAt, Instr.sureAddr, storeVar, r_size hi, hsz, hn, h1]
theorem s_fa {s : TypeId} {fs : Array Field} {f : Nat} {fl : Field} {i : TypeInfo} {p : Value} {cs : List D} (hp : VR G w ι h p (.c (.rp cs))) (hu : P.underlying s = some (.struct fs))
  (hf : fs[f]? = some fl) (hi : P.info? fl.type = some i) (hz : i.size ≠ 0) :
  ∃ v, (Instr.fieldAt s p f).run P w = .ok v w ∧ VR G w ι h v (.c (.rp (cs.drop fl.offset))) := by
 cases hp with
 | c _ _ hc =>
  cases hc with
  | rp b o _ hG hc =>
   refine ⟨.pointer (some ⟨b, o + fl.offset, none⟩), ?_, .c _ _ (.rp b _ _ hG fun j x hx => ?_)⟩
   ·simp [Instr.fieldAt, Instr.sureAddr, r_und hu, hf, fieldPlace, r_size hi, hz, add_none]
   ·rw [List.getElem?_drop] at hx
    obtain ⟨v, h1, h2⟩ := hc _ x hx
    exact ⟨v, by rw [Nat.add_assoc]; exact h1, h2⟩
theorem off_some {k : Blk} {v i j o n : Nat} (h : k.off v i j = some o) : k.off v i (j + n) = some (o + n) := by
 cases k with
 | bx cs => simp only [Blk.off] at h ⊢; split at h <;> simp_all
 | da rl v' sz es => simp only [Blk.off] at h ⊢; split at h <;> simp_all; omega
 | dead => simp [Blk.off] at h
 | mp => simp [Blk.off] at h
 | mi => simp [Blk.off] at h
 | am => simp [Blk.off] at h
theorem ptr_at {p : Value} {l v i j : Nat} (hp : CR G w ι h p (.ptr l v i j)) (hs : solid h (.ptr l v i j) = true) :
  ∃ blk b o k, h[l]? = some blk ∧ blk.allows v = true ∧ ι[l]? = some (b, o) ∧ blk.off v i j = some k ∧ p = .pointer (some ⟨b, o + k, none⟩) := by
 cases hp with
 | ptr _ _ _ _ _ blk hb ha hk =>
  simp only [solid, hb, Option.isSome_iff_exists] at hs
  obtain ⟨k, hk'⟩ := hs
  obtain ⟨b, o, h1, h2⟩ := hk k hk'
  exact ⟨blk, b, o, k, hb, ha, h1, hk', h2⟩
theorem s_fap {s : TypeId} {fs : Array Field} {f : Nat} {fl : Field} {ti : TypeInfo} {p : Value} {l v i j : Nat} (hp : VR G w ι h p (.c (.ptr l v i j))) (hs : solid h (.ptr l v i j) = true)
  (hu : P.underlying s = some (.struct fs)) (hf : fs[f]? = some fl) (hi : P.info? fl.type = some ti) (hz : ti.size ≠ 0) :
  ∃ v', (Instr.fieldAt s p f).run P w = .ok v' w ∧ VR G w ι h v' (.c (.ptr l v i (j + fl.offset))) := by
 cases hp with
 | c _ _ hc =>
  obtain ⟨blk, b, o, k, h1, h2, h3, h4, rfl⟩ := ptr_at hc hs
  refine ⟨.pointer (some ⟨b, o + k + fl.offset, none⟩), ?_, .c _ _ (.ptr _ _ _ _ _ blk h1 h2 fun k' hk' => ⟨b, o, h3, ?_⟩)⟩
  ·simp [Instr.fieldAt, Instr.sureAddr, r_und hu, hf, fieldPlace, r_size hi, hz, add_none]
  ·rw [off_some h4] at hk'; cases hk'; simp [Nat.add_assoc]
def view (h : Hp) : AV → Option (Nat × List (List D))
 | .c (.d (.list _ sz l)) => some (sz, l)
 | .c (.cl _ sz l) => some (sz, l)
 | .c (.arr l v i n) => match h[l]? with
  | some (.da _ v' sz es) => if v' = v then some (sz, (es.drop i).take n) else none
  | _ => none
 | _ => none
theorem view_len {v : Value} {av : AV} {sz : Nat} {l : List (List D)} (hr : HR G ι h w) (hv : VR G w ι h v av) (hw : view h av = some (sz, l)) : ∃ a cap, v = .slice a l.length cap ∧ l.length ≤ cap ∧ l.length ≤ 9223372036854775807 := by
 cases hv with
 | agg => simp [view] at hw
 | tup => simp [view] at hw
 | c _ x hc =>
  cases hc with
  | u => simp [view] at hw
  | rp => simp [view] at hw
  | ptr => simp [view] at hw
  | fn => simp [view] at hw
  | mp => simp [view] at hw
  | it => simp [view] at hw
  | d _ x hd =>
   cases hd with
   | nils => simp only [view, Option.some.injEq, Prod.mk.injEq] at hw; obtain ⟨_, rfl⟩ := hw; exact ⟨_, _, rfl, Nat.le_refl _, by simp⟩
   | emp => simp only [view, Option.some.injEq, Prod.mk.injEq] at hw; obtain ⟨_, rfl⟩ := hw; exact ⟨_, _, rfl, Nat.le_refl _, by simp⟩
   | sl b off cap sz l g hG hcap hmax => simp only [view, Option.some.injEq, Prod.mk.injEq] at hw; obtain ⟨_, rfl⟩ := hw; exact ⟨_, _, rfl, hcap, hmax⟩
   | _ => simp [view] at hw
  | cl _ nl sz l hd _ =>
   simp only [view, Option.some.injEq, Prod.mk.injEq] at hw
   obtain ⟨rfl, rfl⟩ := hw
   cases hd with
   | nils => exact ⟨_, _, rfl, Nat.le_refl _, by simp⟩
   | emp => exact ⟨_, _, rfl, Nat.le_refl _, by simp⟩
   | sl b off cap sz l g hG hcap hmax => exact ⟨_, _, rfl, hcap, hmax⟩
  | arr _ l' ver i n blk hb ha hk hk0 =>
   simp only [view, hb] at hw
   cases blk with
   | bx => simp at hw
   | dead => simp at hw
   | mp => simp at hw
   | mi => simp at hw
   | am => simp at hw
   | da rl v' sz' es =>
    simp only at hw
    split at hw
    ·rename_i hv; subst hv
     cases hw
     cases rl with
     | false => obtain ⟨_, hn, rfl⟩ := hk0 sz es rfl; subst hn; exact ⟨none, 0, by simp, by simp, by simp⟩
     | true =>
     obtain ⟨b, o, cap, h1, h2, h3, h4, h5⟩ := hk sz es rfl
     have hlen : ((es.drop i).take n).length = n := by simp; omega
     obtain ⟨_, _, _, _, _, hmx, _⟩ := hr.blk l' _ hb
     rw [hlen]
     rcases h5 with rfl | ⟨hn, hc, o', rfl⟩
     ·exact ⟨_, _, rfl, h3, by omega⟩
     ·subst hn; exact ⟨_, _, rfl, Nat.le_refl _, by omega⟩
    ·cases hw
theorem view_cells {v : Value} {av : AV} {sz : Nat} {l : List (List D)} (hr : HR G ι h w) (hv : VR G w ι h v av) (hw : view h av = some (sz, l)) :
    ∃ vs : Array Value, (Builtin.firstCells sz l.length v).run P w = .ok vs w ∧ vs.size = l.length * sz ∧ (∀ (i : Nat) (e : List D), l[i]? = some e → e.length = sz) ∧
      ∀ (i : Nat) (e : List D) (j : Nat) (x : D), l[i]? = some e → e[j]? = some x → ∃ y, vs[i * sz + j]? = some y ∧ DR G w y x := by
  have mk : ∀ (b o : Nat), (∀ (i : Nat) (e : List D), l[i]? = some e → e.length = sz) →
      (∀ (i : Nat) (e : List D) (j : Nat) (x : D), l[i]? = some e → e[j]? = some x → ∃ y, w.cell? ⟨b, o + i * sz + j, none⟩ = some y ∧ DR G w y x) →
      ∃ vs : Array Value, (loadCells ⟨b, o, none⟩ (l.length * sz)).run P w = .ok vs w ∧ vs.size = l.length * sz ∧
      ∀ (i : Nat) (e : List D) (j : Nat) (x : D), l[i]? = some e → e[j]? = some x → ∃ y, vs[i * sz + j]? = some y ∧ DR G w y x := by
    intro b o hsz hc
    have hcell : ∀ k, k < l.length * sz → w.cell? ⟨b, o + (0 + k), none⟩ = some ((w.cell? ⟨b, o + (0 + k), none⟩).getD undef) := by
      intro k hk
      have hpos : 0 < sz := by rcases Nat.eq_zero_or_pos sz with h0 | h0; · subst h0; omega
                               · exact h0
      have hi : k / sz < l.length := by rw [Nat.div_lt_iff_lt_mul hpos]; exact hk
      have he : l[k / sz]? = some l[k / sz] := List.getElem?_eq_getElem hi
      have hj : k % sz < (l[k / sz]).length := by rw [hsz _ _ he]; exact Nat.mod_lt _ hpos
      obtain ⟨y, hy, _⟩ := hc (k / sz) _ (k % sz) _ he (List.getElem?_eq_getElem hj)
      have hdm : k / sz * sz + k % sz = k := by have := Nat.div_add_mod k sz; rw [Nat.mul_comm] at this; exact this
      rw [show o + k / sz * sz + k % sz = o + (0 + k) by omega] at hy
      rw [hy]; rfl
    have hrun := loadCells_run P w b o (fun k => (w.cell? ⟨b, o + k, none⟩).getD undef) (l.length * sz) 0 #[] hcell
    refine ⟨_, hrun, by simp, fun i e j x he hx => ?_⟩
    obtain ⟨y, hy, hd⟩ := hc i e j x he hx
    refine ⟨y, ?_, hd⟩
    have hil := get_lt he
    have hjl : j < sz := by have := get_lt hx; rw [hsz i e he] at this; exact this
    have hlt : i * sz + j < l.length * sz := by
      have : (i + 1) * sz ≤ l.length * sz := Nat.mul_le_mul_right sz hil
      rw [Nat.add_mul, Nat.one_mul] at this; omega
    simp only [Array.empty_append]
    rw [Array.getElem?_eq_getElem (by simpa using hlt)]
    simp only [Array.getElem_ofFn, Nat.zero_add]
    rw [← Nat.add_assoc, hy]; rfl
  have dr : ∀ (nl : Bool) (sz' : Nat) (l' : List (List D)), DR G w v (.list nl sz' l') → sz' = sz → l' = l → ∃ vs : Array Value, (Builtin.firstCells sz l.length v).run P w = .ok vs w ∧ vs.size = l.length * sz ∧ (∀ (i : Nat) (e : List D), l[i]? = some e → e.length = sz) ∧
      ∀ (i : Nat) (e : List D) (j : Nat) (x : D), l[i]? = some e → e[j]? = some x → ∃ y, vs[i * sz + j]? = some y ∧ DR G w y x := by
    intro nl sz' l' hd h1 h2
    cases hd with
    | nils => subst h2; exact ⟨#[], by simp [Builtin.firstCells], by simp, by simp, by simp⟩
    | emp => subst h2; exact ⟨#[], by simp [Builtin.firstCells, loadCells, loadCellsFrom], by simp, by simp, by simp⟩
    | sl b off cap _ _ g hG hcap hmax hsz hc hrr =>
      subst h1 h2
      obtain ⟨vs, k1, k2, k3⟩ := mk b off hsz (fun i e j x he hx => ⟨_, hc i e j x he hx, hrr i e j x he hx⟩)
      exact ⟨vs, by simpa [Builtin.firstCells] using k1, k2, hsz, k3⟩
  cases hv with
  | agg => simp [view] at hw
  | tup => simp [view] at hw
  | c _ x hcx =>
    cases hcx with
    | u => simp [view] at hw
    | rp => simp [view] at hw
    | ptr => simp [view] at hw
    | fn => simp [view] at hw
    | mp => simp [view] at hw
    | it => simp [view] at hw
    | d _ x hd =>
      cases x with
      | list nl sz' l' => simp only [view, Option.some.injEq, Prod.mk.injEq] at hw; exact dr nl sz' l' hd hw.1 hw.2
      | _ => simp [view] at hw
    | cl _ nl sz' l' hd _ => simp only [view, Option.some.injEq, Prod.mk.injEq] at hw; exact dr nl sz' l' hd hw.1 hw.2
    | arr _ l' ver i n blk hb ha hk hk0 =>
      simp only [view, hb] at hw
      cases blk with
      | bx => simp at hw
      | dead => simp at hw
      | mp => simp at hw
      | mi => simp at hw
      | am => simp at hw
      | da rl v' sz' es =>
        simp only at hw
        split at hw
        · rename_i hv; subst hv
          cases hw
          cases rl with
          | false => obtain ⟨_, hn, rfl⟩ := hk0 sz es rfl; subst hn; exact ⟨#[], by simp [Builtin.firstCells], by simp, by simp, by simp⟩
          | true =>
          obtain ⟨b, o, cap, h1, h2, h3, h4, h5⟩ := hk sz es rfl
          obtain ⟨b', o', c, t, fr, hmx, g1, g2, g3, g4, g5, g6⟩ := hr.blk l' _ hb
          rw [h1] at g1; cases g1
          have hsz : ∀ (p : Nat) (e : List D), ((es.drop i).take n)[p]? = some e → e.length = sz := by
            intro p e he
            have hp := get_lt he
            simp only [List.length_take, List.length_drop] at hp
            rw [List.getElem?_take, if_pos (by omega), List.getElem?_drop] at he
            exact g5 _ e he
          rcases h5 with rfl | ⟨hn, hc, o', rfl⟩
          · obtain ⟨vs, k1, k2, k3⟩ := mk b (o + i * sz) hsz (fun p e q x he hx => by
              have hp := get_lt he
              simp only [List.length_take, List.length_drop] at hp
              rw [List.getElem?_take, if_pos (by omega), List.getElem?_drop] at he
              obtain ⟨y, hy, hd⟩ := g6 _ e q x he hx
              refine ⟨y, ?_, hd⟩
              rw [cell_of g2, ← hy]
              congr 1; rw [Nat.add_mul]; omega)
            exact ⟨vs, by simpa [Builtin.firstCells] using k1, k2, hsz, k3⟩
          · subst hn
            exact ⟨#[], by simp [Builtin.firstCells, loadCells, loadCellsFrom], by simp, hsz, by simp⟩
        · cases hw
end
end Go.Ab

/-
  The engine, part g: slices: slicing, indexing, making, appending.
-/
namespace Go.Ab
section
variable {P : Program} {w : World} {G : Nat → Prop} {ι : Io} {h : Hp}
def slb (n : Nat) (lo hi mx : Option Int) : Option (Nat × Nat × Option Nat) :=
 match (match mx with
  | none => some none
  | some m => if 0 ≤ m ∧ m ≤ n then some (some m.toNat) else none : Option (Option Nat)) with
 | none => none
 | some m =>
  match (match hi, m with
   | none, none => some n
   | none, some _ => none
   | some x, _ => if 0 ≤ x ∧ x ≤ (m.getD n : Nat) then some x.toNat else none : Option Nat) with
  | none => none
  | some hh =>
   match (match lo with
    | none => some 0
    | some x => if 0 ≤ x ∧ x ≤ hh then some x.toNat else none : Option Nat) with
   | none => none
   | some ll => some (ll, hh, m)
inductive IR : Option Value → Option Int → Prop
 | none : IR none none
 | some (k : IntKind) (n : Int) : IR (some (.int k n)) (some n)
theorem bound_run {k : IntKind} {x : Int} {y : Nat} {code : BoundsCode} (h1 : 0 ≤ x ∧ x ≤ y) : (Instr.sliceBound (.int k x) y code).run P w = .ok x.toNat w := by
 simp [Instr.sliceBound, asIntOf, h1]
theorem slb_run {isS : Bool} {n cap : Nat} {lo hi mx : Option Int} {vlo vhi vmx : Option Value} {l hh : Nat} {m : Option Nat} (hlo : IR vlo lo) (hhi : IR vhi hi) (hmx : IR vmx mx)
  (hs : slb n lo hi mx = some (l, hh, m)) (hcap : n ≤ cap) :
  (Instr.sliceBounds isS n cap vlo vhi vmx).run P w = .ok (l, hh, m.getD cap) w ∧ l ≤ hh ∧ hh ≤ n ∧ (∀ m', m = some m' → hh ≤ m' ∧ m' ≤ n) := by
 unfold slb at hs
 split at hs
 ·cases hs
 ·rename_i m0 hm0
  split at hs
  ·cases hs
  ·rename_i h0 hh0
   split at hs
   ·cases hs
   ·rename_i l0 hl0
    simp only [Option.some.injEq, Prod.mk.injEq] at hs
    obtain ⟨rfl, rfl, rfl⟩ := hs
    have hm1 : (∀ m', m0 = some m' → m' ≤ n) := by
     intro m' hm'
     subst hm'
     cases mx with
     | none => simp at hm0
     | some x =>
      simp only at hm0
      split at hm0
      ·rename_i hx; simp only [Option.some.injEq] at hm0; omega
      ·cases hm0
    have hl1 : l0 ≤ h0 := by
     cases lo with
     | none => simp at hl0; omega
     | some x =>
      simp only at hl0
      split at hl0
      ·rename_i hx; simp only [Option.some.injEq] at hl0; omega
      ·cases hl0
    have hh1 : h0 ≤ m0.getD n := by
     cases hi with
     | none =>
      cases m0 with
      | none => simp at hh0; simp; omega
      | some m => simp at hh0
     | some x =>
      simp only at hh0
      split at hh0
      ·rename_i hx; simp only [Option.some.injEq] at hh0; omega
      ·cases hh0
    refine ⟨?_, hl1, ?_, ?_⟩
    ·have b1 : ∀ (k : IntKind) (x : Int) (code : BoundsCode), mx = some x → (Instr.sliceBound (.int k x) cap code).run P w = .ok (m0.getD cap) w := by
      intro k x code hx
      subst hx
      simp only at hm0
      split at hm0
      ·rename_i hx
       simp only [Option.some.injEq] at hm0; subst hm0
       exact bound_run ⟨hx.1, by omega⟩
      ·cases hm0
     have b2 : ∀ (k : IntKind) (x : Int) (code : BoundsCode), hi = some x → (Instr.sliceBound (.int k x) (m0.getD cap) code).run P w = .ok h0 w := by
      intro k x code hx
      subst hx
      simp only at hh0
      split at hh0
      ·rename_i hx
       simp only [Option.some.injEq] at hh0; subst hh0
       refine bound_run ⟨hx.1, ?_⟩
       cases m0 with
       | none => simp at hx ⊢; omega
       | some m => simpa using hx.2
      ·cases hh0
     have b3 : ∀ (k : IntKind) (x : Int) (code : BoundsCode), lo = some x → (Instr.sliceBound (.int k x) h0 code).run P w = .ok l0 w := by
      intro k x code hx
      subst hx
      simp only at hl0
      split at hl0
      ·rename_i hx; simp only [Option.some.injEq] at hl0; subst hl0; exact bound_run hx
      ·cases hl0
     have c1 : mx = none → m0.getD cap = cap := by intro hx; subst hx; simp at hm0; subst hm0; rfl
     have c2 : hi = none → mx = none ∧ h0 = n := by
      intro hx; subst hx
      cases m0 with
      | none =>
       simp at hh0
       cases mx with
       | none => exact ⟨rfl, hh0.symm⟩
       | some x => simp only at hm0; split at hm0 <;> simp at hm0
      | some m => simp at hh0
     have c3 : lo = none → l0 = 0 := by intro hx; subst hx; simp at hl0; exact hl0.symm
     cases hmx with
     | none =>
      have c1 := c1 rfl
      rw [c1] at b2 ⊢
      cases hhi with
      | none =>
       obtain ⟨_, rfl⟩ := c2 rfl
       cases hlo with
       | none => rw [c3 rfl]; simp [Instr.sliceBounds]
       | some k x => simp [Instr.sliceBounds, b3 k x _ rfl]
      | some k' x' =>
       cases hlo with
       | none => rw [c3 rfl]; simp [Instr.sliceBounds, b2 k' x' _ rfl]
       | some k x => simp [Instr.sliceBounds, b2 k' x' _ rfl, b3 k x _ rfl]
     | some k2 x2 =>
      cases hhi with
      | none => exact absurd (c2 rfl).1 (by simp)
      | some k' x' =>
       cases hlo with
       | none => rw [c3 rfl]; simp [Instr.sliceBounds, b1 k2 x2 _ rfl, b2 k' x' _ rfl]
       | some k x => simp [Instr.sliceBounds, b1 k2 x2 _ rfl, b2 k' x' _ rfl, b3 k x _ rfl]
    ·cases m0 with
     | none => simpa using hh1
     | some m => simp at hh1; have := hm1 m rfl; omega
    ·intro m' hm'
     subst hm'
     exact ⟨by simpa using hh1, hm1 m' rfl⟩
def slv (sz : Nat) (av : AV) (lo hi mx : Option Int) : Option AV :=
 match av with
 | .c (.d (.list nl sz' l)) => if sz' = sz then
   match slb l.length lo hi mx with
   | some (a, b, m) => if m = some b then some (.c (.cl nl sz ((l.take b).drop a))) else some (.c (.d (.list nl sz ((l.take b).drop a))))
   | none => none
  else none
 | .c (.cl nl sz' l) => if sz' = sz then
   match slb l.length lo hi mx with
   | some (a, b, m) => if m = some b ∨ (m = none ∧ b = l.length) then some (.c (.cl nl sz ((l.take b).drop a))) else some (.c (.d (.list nl sz ((l.take b).drop a))))
   | none => none
  else none
 | .c (.arr l v i n) =>
  match slb n lo hi mx with
  | some (a, b, _) => some (.c (.arr l v (i + a) (b - a)))
  | none => none
 | _ => none
theorem take_drop_get {α : Type} {l : List α} {a b p : Nat} {x : α} (h : ((l.take b).drop a)[p]? = some x) : l[a + p]? = some x ∧ a + p < b := by
 rw [List.getElem?_drop, List.getElem?_take] at h
 split at h
 ·exact ⟨h, by omega⟩
 ·cases h
theorem dr_slice {v : Value} {nl : Bool} {sz : Nat} {l : List (List D)} {t el : TypeId} {ti : TypeInfo} {lo hi mx : Option Int} {vlo vhi vmx : Option Value} {a b : Nat} {m : Option Nat}
  (hd : DR G w v (.list nl sz l)) (hu : P.underlying t = some (.slice el)) (hi' : P.info? el = some ti) (hsz : ti.size = sz)
  (hlo : IR vlo lo) (hhi : IR vhi hi) (hmx : IR vmx mx) (hs : slb l.length lo hi mx = some (a, b, m)) :
  ∃ v', (Instr.sliceAt t v vlo vhi vmx).run P w = .ok v' w ∧ DR G w v' (.list nl sz ((l.take b).drop a)) ∧ capOf v' = (m.getD (capOf v)) - a := by
 cases hd with
 | nils nl =>
  obtain ⟨h1, h2, h3, h4⟩ := slb_run (P := P) (w := w) (isS := true) hlo hhi hmx hs (Nat.le_refl 0)
  have ha : a = 0 := by simp at h3; omega
  have hb : b = 0 := by simpa using h3
  have hm : m.getD 0 = 0 := by
   cases m with
   | none => rfl
   | some m' => have := h4 m' rfl; simp at this ⊢; omega
  refine ⟨.slice none 0 0, ?_, by simpa using DR.nils _ sz, ?_⟩
  ·subst ha hb
   simp only [List.length_nil] at h1
   simp [Instr.sliceAt, r_und hu, Instr.slice, h1, r_size hi', hm]
  ·simp [capOf, hm]
 | emp a' =>
  obtain ⟨h1, h2, h3, h4⟩ := slb_run (P := P) (w := w) (isS := true) hlo hhi hmx hs (Nat.le_refl 0)
  have ha : a = 0 := by simp at h3; omega
  have hb : b = 0 := by simpa using h3
  have hm : m.getD 0 = 0 := by
   cases m with
   | none => rfl
   | some m' => have := h4 m' rfl; simp at this ⊢; omega
  refine ⟨.slice (some a') 0 0, ?_, by simpa using DR.emp a' sz, ?_⟩
  ·subst ha hb
   simp only [List.length_nil] at h1
   simp [Instr.sliceAt, r_und hu, Instr.slice, h1, r_size hi', hm]
  ·simp [capOf, hm]
 | sl bb off cap _ _ g hG hcap hmax hszs hc hr =>
  obtain ⟨h1, h2, h3, h4⟩ := slb_run (P := P) (w := w) (isS := true) hlo hhi hmx hs hcap
  refine ⟨.slice (some (if m.getD cap = a then ⟨bb, off, none⟩ else ⟨bb, off + a * sz, none⟩)) (b - a) (m.getD cap - a), ?_, ?_, ?_⟩
  ·simp only [Instr.sliceAt, Sem.run_bind, r_und hu, Result.andThen_ok, Instr.slice, h1, r_size hi', Sem.run_pure, hsz, Option.map_some, add_none]
   split <;> rfl
  ·have hlen : ((l.take b).drop a).length = b - a := by simp; omega
   have hmc : b - a ≤ m.getD cap - a := by
    cases m with
    | none => simp; omega
    | some m' => have := (h4 m' rfl); simp; omega
   by_cases hma : m.getD cap = a
   ·have hba : b - a = 0 := by omega
    have : (l.take b).drop a = [] := by apply List.eq_nil_of_length_eq_zero; omega
    rw [if_pos hma, hba, this]
    exact DR.sl bb off _ sz [] (fun _ _ => undef) (fun h => absurd rfl h) (by simp) (by simp) (by simp) (by simp) (by simp)
   ·rw [if_neg hma]
    have := DR.sl (G := G) (w := w) bb (off + a * sz) (m.getD cap - a) sz ((l.take b).drop a) (fun i j => g (a + i) j) ?_ (by omega) (by simp; omega) ?_ ?_ ?_
    ·rw [hlen] at this; exact this
    ·intro hne
     apply hG
     intro h0; subst h0; simp at hne
    ·intro i e he; exact hszs _ e (take_drop_get he).1
    ·intro i e j x he hx
     have := hc _ e j x (take_drop_get he).1 hx
     rw [← this]
     congr 2
     rw [Nat.add_mul]; omega
    ·intro i e j x he hx
     exact hr _ e j x (take_drop_get he).1 hx
  ·simp [capOf]
theorem s_sl {v : Value} {av av' : AV} {sz : Nat} {t el : TypeId} {ti : TypeInfo} {lo hi mx : Option Int} {vlo vhi vmx : Option Value} (hv : VR G w ι h v av)
  (hu : P.underlying t = some (.slice el)) (hi' : P.info? el = some ti) (hsz : ti.size = sz) (hlo : IR vlo lo) (hhi : IR vhi hi) (hmx : IR vmx mx)
  (hs : slv sz av lo hi mx = some av') (hso : ∀ l v i n, av = .c (.arr l v i n) → ∃ r es, h[l]? = some (.da r v sz es)) :
  ∃ v', (Instr.sliceAt t v vlo vhi vmx).run P w = .ok v' w ∧ VR G w ι h v' av' := by
 cases hv with
 | agg => simp [slv] at hs
 | tup => simp [slv] at hs
 | c _ x hc =>
  cases hc with
  | u => simp [slv] at hs
  | rp => simp [slv] at hs
  | ptr => simp [slv] at hs
  | fn => simp [slv] at hs
  | mp => simp [slv] at hs
  | it => simp [slv] at hs
  | d _ x hd =>
   cases x with
   | list nl sz' l =>
    simp only [slv] at hs
    split at hs
    ·rename_i hz; subst hz
     split at hs
     ·rename_i a b m hb
      obtain ⟨v', k1, k2, k3⟩ := dr_slice hd hu hi' hsz hlo hhi hmx hb
      split at hs
      ·rename_i hm
       cases hs
       refine ⟨v', k1, .c _ _ (.cl _ _ _ _ k2 ?_)⟩
       rw [k3, hm]
       have : slb l.length lo hi mx = some (a, b, m) := hb
       have hx := slb_run (P := P) (w := w) (isS := true) hlo hhi hmx hb (Nat.le_refl _)
       simp; omega
      ·cases hs
       exact ⟨v', k1, .c _ _ (.d _ _ k2)⟩
     ·cases hs
    ·cases hs
   | _ => simp [slv] at hs
  | cl _ nl sz' l hd hcap =>
   simp only [slv] at hs
   split at hs
   ·rename_i hz; subst hz
    split at hs
    ·rename_i a b m hb
     obtain ⟨v', k1, k2, k3⟩ := dr_slice hd hu hi' hsz hlo hhi hmx hb
     have hx := slb_run (P := P) (w := w) (isS := true) hlo hhi hmx hb (Nat.le_refl _)
     split at hs
     ·rename_i hm
      cases hs
      refine ⟨v', k1, .c _ _ (.cl _ _ _ _ k2 ?_)⟩
      rw [k3, hcap]
      rcases hm with rfl | ⟨rfl, rfl⟩
      ·simp; omega
      ·simp
     ·cases hs
      exact ⟨v', k1, .c _ _ (.d _ _ k2)⟩
    ·cases hs
   ·cases hs
  | arr _ l ver i n blk hb ha hk hk0 =>
   obtain ⟨rl, es, hes⟩ := hso l ver i n rfl
   rw [hes] at hb; cases hb
   simp only [slv] at hs
   split at hs
   ·rename_i a bb m hbb
    cases hs
    cases rl with
    | false =>
     obtain ⟨hi0, hn0, rfl⟩ := hk0 sz es rfl
     subst hi0 hn0
     obtain ⟨h1, h2, h3, h4⟩ := slb_run (P := P) (w := w) (isS := true) hlo hhi hmx hbb (Nat.le_refl 0)
     have hm : m.getD 0 = 0 := by
      cases m with
      | none => rfl
      | some m' => have := (h4 m' rfl); simp at this ⊢; omega
     have ha0 : a = 0 := by omega
     have hb0 : bb = 0 := by omega
     subst ha0 hb0
     refine ⟨.slice none 0 0, ?_, .c _ _ (.arr _ _ _ _ _ _ hes ha (fun sz' es' he => by cases he) fun sz' es' he => ⟨rfl, rfl, rfl⟩)⟩
     simp [Instr.sliceAt, r_und hu, Instr.slice, h1, r_size hi', hm]
    | true =>
    obtain ⟨b, o, cap, g1, g2, g3, g4, g5⟩ := hk sz es rfl
    rcases g5 with rfl | ⟨rfl, rfl, o', rfl⟩
    ·obtain ⟨h1, h2, h3, h4⟩ := slb_run (P := P) (w := w) (isS := true) hlo hhi hmx hbb g3
     have hmc : m.getD cap ≤ cap := by
      cases m with
      | none => simp
      | some m' => have := (h4 m' rfl); simp; omega
     have hbm : bb ≤ m.getD cap := by
      cases m with
      | none => simp; omega
      | some m' => have := (h4 m' rfl); simp; omega
     refine ⟨.slice (some (if m.getD cap = a then ⟨b, o + i * sz, none⟩ else ⟨b, o + i * sz + a * sz, none⟩)) (bb - a) (m.getD cap - a), ?_, ?_⟩
     ·simp only [Instr.sliceAt, Sem.run_bind, r_und hu, Result.andThen_ok, Instr.slice, h1, r_size hi', Sem.run_pure, hsz, Option.map_some, add_none]
      split <;> rfl
     ·refine .c _ _ (.arr _ _ _ _ _ _ hes ha (fun sz' es' he => ?_) fun sz' es' he => by cases he)
      cases he
      refine ⟨b, o, m.getD cap - a, g1, by omega, by omega, ?_, ?_⟩
      ·refine Nat.le_trans ?_ g4
       apply Nat.add_le_add_left
       apply Nat.mul_le_mul_right
       omega
      ·by_cases hma : m.getD cap = a
       ·right; rw [if_pos hma]; refine ⟨by omega, by omega, o + i * sz, ?_⟩
        rw [show bb - a = 0 by omega, show m.getD cap - a = 0 by omega]
       ·left; rw [if_neg hma, Nat.add_mul, Nat.add_assoc]
    ·obtain ⟨h1, h2, h3, h4⟩ := slb_run (P := P) (w := w) (isS := true) hlo hhi hmx hbb (Nat.le_refl 0)
     have hm : m.getD 0 = 0 := by
      cases m with
      | none => rfl
      | some m' => have := (h4 m' rfl); simp at this ⊢; omega
     have ha0 : a = 0 := by omega
     have hb0 : bb = 0 := by omega
     subst ha0 hb0
     refine ⟨.slice (some ⟨b, o', none⟩) 0 0, ?_, ?_⟩
     ·simp [Instr.sliceAt, r_und hu, Instr.slice, h1, r_size hi', hm]
     ·refine .c _ _ (.arr _ _ _ _ _ _ hes ha (fun sz' es' he => ?_) fun sz' es' he => by cases he)
      cases he
      exact ⟨b, o, 0, g1, by omega, by omega, by simpa using g4, .inr ⟨rfl, rfl, o', rfl⟩⟩
   ·cases hs
def ixv (h : Hp) (sz : Nat) (av : AV) (i : Int) : Option AV :=
 match av with
 | .c (.d (.list _ sz' l)) => if sz' = sz ∧ 0 ≤ i then (l[i.toNat]?).map fun e => .c (.rp e) else none
 | .c (.cl _ sz' l) => if sz' = sz ∧ 0 ≤ i then (l[i.toNat]?).map fun e => .c (.rp e) else none
 | .c (.d (.sl b o sz' n _)) => if sz' = sz ∧ 0 ≤ i ∧ i < n then some (.c (.d (.adr b (o + i.toNat * sz)))) else none
 | .c (.arr l v k n) => match h[l]? with
  | some (.da _ v' sz' _) => if v' = v ∧ sz' = sz ∧ 0 ≤ i ∧ i < n then some (.c (.ptr l v (k + i.toNat) 0)) else none
  | _ => none
 | _ => none
theorem dr_index {v : Value} {nl : Bool} {sz : Nat} {l : List (List D)} {t el : TypeId} {ti : TypeInfo} {k : IntKind} {i : Int} {e : List D}
  (hd : DR G w v (.list nl sz l)) (hu : P.underlying t = some (.slice el)) (hi' : P.info? el = some ti) (hsz : ti.size = sz) (h0 : 0 ≤ i) (he : l[i.toNat]? = some e) :
  ∃ v', (Instr.indexAt t v (.int k i)).run P w = .ok v' w ∧ CR G w ι h v' (.rp e) := by
 have hl := get_lt he
 cases hd with
 | nils => simp at hl
 | emp => simp at hl
 | sl bb off cap _ _ g hG hcap hmax hszs hc hr =>
  refine ⟨.pointer (some ⟨bb, off + i.toNat * sz, none⟩), ?_, .rp _ _ _ (hG (by intro h0; subst h0; simp at hl)) fun j x hx => ⟨_, ?_, hr _ e j x he hx⟩⟩
  ·have : i < (l.length : Int) := by omega
   simp [Instr.indexAt, asIntOf, r_und hu, h0, this, r_size hi', hsz, add_none]
  ·rw [← hc _ e j x he hx]
theorem s_ias {v : Value} {av av' : AV} {sz : Nat} {t el : TypeId} {ti : TypeInfo} {k : IntKind} {i : Int} (hv : VR G w ι h v av)
  (hu : P.underlying t = some (.slice el)) (hi' : P.info? el = some ti) (hsz : ti.size = sz) (hs : ixv h sz av i = some av') :
  ∃ v', (Instr.indexAt t v (.int k i)).run P w = .ok v' w ∧ VR G w ι h v' av' := by
 cases hv with
 | agg => simp [ixv] at hs
 | tup => simp [ixv] at hs
 | c _ x hc =>
  cases hc with
  | u => simp [ixv] at hs
  | rp => simp [ixv] at hs
  | ptr => simp [ixv] at hs
  | fn => simp [ixv] at hs
  | mp => simp [ixv] at hs
  | it => simp [ixv] at hs
  | d _ x hd =>
   cases x with
   | list nl sz' l =>
    simp only [ixv] at hs
    split at hs
    ·rename_i hz
     obtain ⟨rfl, h0⟩ := hz
     simp only [Option.map_eq_some_iff] at hs
     obtain ⟨e, he, rfl⟩ := hs
     obtain ⟨v', k1, k2⟩ := dr_index (ι := ι) (h := h) (k := k) hd hu hi' hsz h0 he
     exact ⟨v', k1, .c _ _ k2⟩
    ·cases hs
   | sl b o sz' n cap =>
    simp only [ixv] at hs
    split at hs
    ·rename_i hz
     obtain ⟨rfl, h0, hn⟩ := hz
     cases hs
     cases hd
     refine ⟨.pointer (some ⟨b, o + i.toNat * sz', none⟩), ?_, .c _ _ (.d _ _ (.adr _ _))⟩
     simp [Instr.indexAt, asIntOf, r_und hu, h0, hn, r_size hi', hsz, add_none]
    ·cases hs
   | _ => simp [ixv] at hs
  | cl _ nl sz' l hd hcap =>
   simp only [ixv] at hs
   split at hs
   ·rename_i hz
    obtain ⟨rfl, h0⟩ := hz
    simp only [Option.map_eq_some_iff] at hs
    obtain ⟨e, he, rfl⟩ := hs
    obtain ⟨v', k1, k2⟩ := dr_index (ι := ι) (h := h) (k := k) hd hu hi' hsz h0 he
    exact ⟨v', k1, .c _ _ k2⟩
   ·cases hs
  | arr _ l ver p n blk hb ha hk hk0 =>
   simp only [ixv, hb] at hs
   cases blk with
   | bx => simp at hs
   | dead => simp at hs
   | mp => simp at hs
   | mi => simp at hs
   | am => simp at hs
   | da rl v' sz' es =>
    simp only at hs
    split at hs
    ·rename_i hz
     obtain ⟨rfl, rfl, h0, hn⟩ := hz
     cases hs
     cases rl with
     | false => obtain ⟨_, hn0, _⟩ := hk0 sz' es rfl; omega
     | true =>
     obtain ⟨b, o, cap, g1, g2, g3, g4, g5⟩ := hk sz' es rfl
     rcases g5 with rfl | ⟨rfl, rfl, o', rfl⟩
     ·refine ⟨.pointer (some ⟨b, o + p * sz' + i.toNat * sz', none⟩), ?_, .c _ _ (.ptr _ _ _ _ _ _ hb ha fun q hq => ⟨b, o, g1, ?_⟩)⟩
      ·simp [Instr.indexAt, asIntOf, r_und hu, h0, hn, r_size hi', hsz, add_none]
      ·simp only [Blk.off, if_true, Option.some.injEq] at hq
       subst hq
       rw [Nat.add_mul]; simp [Nat.add_assoc]
     ·omega
    ·cases hs
end
end Go.Ab

/-
  The engine, part h: new owned arrays, and append.
-/
namespace Go.Ab
section
variable {P : Program} {w : World} {G : Nat → Prop} {ι : Io} {h : Hp}
def laid (sz : Nat) (es : List (List D)) (G : Nat → Prop) (w : World) (c : Array Value) (o : Nat) : Prop :=
 (∀ (i : Nat) (e : List D), es[i]? = some e → e.length = sz) ∧
 ∀ (i : Nat) (e : List D) (j : Nat) (x : D), es[i]? = some e → e[j]? = some x → ∃ v, c[o + i * sz + j]? = some v ∧ DR G w v x
theorem laid_mono {sz : Nat} {es : List (List D)} {G' : Nat → Prop} {w' : World} {c : Array Value} {o : Nat} (hl : laid sz es G w c o)
  (hg : ∀ b, G b → G' b ∧ w'.heap[b]? = w.heap[b]?) : laid sz es G' w' c o :=
 ⟨hl.1, fun i e j x he hx => let ⟨v, h1, h2⟩ := hl.2 i e j x he hx; ⟨v, h1, h2.mono hg⟩⟩
theorem new_da {sz n : Nat} {es : List (List D)} {c : Array Value} {cap : Nat} (t : TypeId) (hr : HR G ι h w) (hl : laid sz es G w c 0) (hn : es.length ≤ n) (hcap : n ≤ cap)
  (hc : cap * sz ≤ c.size) {k : Nat} (hk : k ≤ es.length) (hmx : es.length ≤ 9223372036854775807) :
  HR G (ι ++ [(w.heap.size, 0)]) (h ++ [.da true 0 sz es]) (push w (.cells c t)) ∧
   VR G (push w (.cells c t)) (ι ++ [(w.heap.size, 0)]) (h ++ [.da true 0 sz es]) (.slice (some ⟨w.heap.size, 0, none⟩) k cap) (.c (.arr h.length 0 0 k)) ∧
   Ext G ι h w G (ι ++ [(w.heap.size, 0)]) (h ++ [.da true 0 sz es]) (push w (.cells c t)) := by
 have hext := Ext.push_own hr (.cells c t) (.da true 0 sz es) rfl
 have hi : (ι ++ [(w.heap.size, 0)])[h.length]? = some (w.heap.size, 0) := by rw [← hr.len]; simp
 have hl' := laid_mono hl (hext.g_same hr)
 have hes : es.length * sz ≤ c.size := Nat.le_trans (Nat.mul_le_mul_right sz (Nat.le_trans hn hcap)) hc
 refine ⟨HR.push_own hr _ _ rfl ⟨w.heap.size, 0, c, t, (0, 0), hmx, hi, push_new w _, by omega, by simp, hl'.1, hl'.2⟩, ?_, hext⟩
 refine .c _ _ (.arr _ _ _ _ _ (.da true 0 sz es) (by simp) rfl (fun sz' es' he => ?_) fun sz' es' he => by cases he)
 cases he
 refine ⟨w.heap.size, 0, cap, hi, by omega, by omega, ?_, .inl ?_⟩
 ·simp only [bsize, push_new, Nat.zero_add]; exact hc
 ·simp
theorem HR.move {w' : World} {l b0 o0 b1 o1 : Nat} {k0 k : Blk} (r : HR G ι h w) (hk0 : h[l]? = some k0) (hi : ι[l]? = some (b0, o0)) (hlive : k0.live = true) (hlk : k.live = true)
    (hkept : Kept ι (ι.set l (b1, o1)) w w' l k0 k) (hsize : w.heap.size ≤ w'.heap.size) (hother : ∀ b, b < w.heap.size → b ≠ b0 → w'.heap[b]? = w.heap[b]?)
    (hb1 : b1 = b0 ∨ b1 = w.heap.size) (hb : BR G w' (ι.set l (b1, o1)) (h.set l k) l k) (hq : Quiet w w' := by first | exact ⟨rfl, rfl, rfl, Nat.le_refl _⟩ | exact ⟨rfl, rfl, rfl, Nat.le_succ _⟩ | assumption | (subst_vars; exact ⟨rfl, rfl, rfl, Nat.le_refl _⟩) | (subst_vars; exact ⟨rfl, rfl, rfl, Nat.le_succ _⟩)) :
    HR G (ι.set l (b1, o1)) (h.set l k) w' ∧ Ext G ι h w G (ι.set l (b1, o1)) (h.set l k) w' := by
  have hlι : l < ι.length := get_lt hi
  have hself : (ι.set l (b1, o1))[l]? = some (b1, o1) := by rw [List.getElem?_set_self hlι]
  have hne : ∀ l', l' ≠ l → (ι.set l (b1, o1))[l']? = ι[l']? := fun l' hl' => List.getElem?_set_ne (fun e => hl' e.symm)
  have hown0 : own1 ι l k0 b0 := own1_of hi hlive
  have atl : ∀ b, own1 (ι.set l (b1, o1)) l k b → b = b1 := by
    intro b hb
    rcases own1_cases hb with ⟨_, o, h5⟩ | ⟨m, x, rfl, _⟩
    · rw [hself] at h5; cases h5; rfl
    · cases hlk
  have off : ∀ l' k' b, l' ≠ l → own1 (ι.set l (b1, o1)) l' k' b → own1 ι l' k' b := fun l' k' b hl' hb => own1_io hb fun _ => (hne l' hl').symm
  have hb0 : owned ι h b0 := ⟨l, k0, hk0, hown0⟩
  have howned : ∀ b, owned (ι.set l (b1, o1)) (h.set l k) b → b = b1 ∨ (owned ι h b ∧ b ≠ b0) := by
    intro b ⟨l', blk, h2, h3⟩
    rcases get_set h2 with ⟨a1, a2, _⟩ | ⟨a1, a2⟩
    · subst a1 a2; exact .inl (atl b h3)
    · have h4 := off l' blk b a1 h3
      refine .inr ⟨⟨l', blk, a2, h4⟩, fun e => a1 ?_⟩
      subst e
      exact (r.own l l' b k0 blk hk0 a2 hown0 h4).symm
  have hext : Ext G ι h w G (ι.set l (b1, o1)) (h.set l k) w' :=
    { size := hsize
      quiet := hq
      frame := fun b hb ho => hother b hb fun e => ho (e ▸ hb0)
      gmono := fun _ h => h
      gnew := fun _ h => .inl h
      onew := fun b ho => by
        rcases howned b ho with e | e
        · rcases hb1 with h1 | h1
          · left; rw [e, h1]; exact hb0
          · right; omega
        · exact .inl e.1
      keep := fun l' k' hk' => by
        by_cases e : l' = l
        · subst e
          rw [hk0] at hk'; cases hk'
          exact ⟨k, by rw [List.getElem?_set_self (get_lt hk0)], hkept⟩
        · exact ⟨k', by rw [List.getElem?_set_ne (fun x => e x.symm)]; exact hk', Kept.frame (hne l' e) fun b hb => hother b (owned_lt r ⟨l', k', hk', hb⟩) fun eb => e (by subst eb; exact (r.own l l' b k0 k' hk0 hk' hown0 hb).symm)⟩ }
  refine ⟨{ len := by simp [r.len]
            own := ?_
            g := ?_
            blk := ?_ }, hext⟩
  · intro l1 l2 b k1 k2 c1 c2 d1 d2
    rcases get_set c1 with ⟨e1, e1', _⟩ | ⟨e1, f1⟩ <;> rcases get_set c2 with ⟨e2, e2', _⟩ | ⟨e2, f2⟩
    · omega
    · exfalso
      subst e1 e1'
      have := atl b d1
      have d3 := off l2 k2 b e2 d2
      rcases hb1 with h1 | h1
      · subst h1 this; exact e2 (r.own l1 l2 _ k0 k2 hk0 f2 hown0 d3).symm
      · have := owned_lt r ⟨l2, k2, f2, d3⟩; omega
    · exfalso
      subst e2 e2'
      have := atl b d2
      have d3 := off l1 k1 b e1 d1
      rcases hb1 with h1 | h1
      · subst h1 this; exact e1 (r.own l2 l1 _ k0 k1 hk0 f1 hown0 d3).symm
      · have := owned_lt r ⟨l1, k1, f1, d3⟩; omega
    · exact r.own l1 l2 b k1 k2 f1 f2 (off l1 k1 b e1 d1) (off l2 k2 b e2 d2)
  · intro b hb'
    have := r.g b hb'
    refine ⟨by omega, fun ho => ?_⟩
    rcases howned b ho with e | e
    · rcases hb1 with h1 | h1
      · exact this.2 (by rw [e, h1]; exact hb0)
      · omega
    · exact this.2 e.1
  · intro l' k' hk'
    rcases get_set hk' with ⟨e1, e2, _⟩ | ⟨e1, e2⟩
    · subst e1 e2; exact hb
    · refine BR.ext hext r e2 (hne l' e1) fun b hbo => hother b (owned_lt r ⟨l', k', e2, hbo⟩) fun eb => e1 ?_
      subst eb; exact (r.own l l' b k0 k' hk0 e2 hown0 hbo).symm
theorem HR.wake {l : Nat} {k0 k : Blk} {o : Obj} (r : HR G ι h w) (hk0 : h[l]? = some k0) (hlk : k.live = true)
    (hkept : Kept ι (ι.set l (w.heap.size, 0)) w (push w o) l k0 k) (hb : BR G (push w o) (ι.set l (w.heap.size, 0)) (h.set l k) l k) :
    HR G (ι.set l (w.heap.size, 0)) (h.set l k) (push w o) ∧ Ext G ι h w G (ι.set l (w.heap.size, 0)) (h.set l k) (push w o) := by
  have hlι : l < ι.length := by rw [r.len]; exact get_lt hk0
  have hself : (ι.set l (w.heap.size, 0))[l]? = some (w.heap.size, 0) := by rw [List.getElem?_set_self hlι]
  have hne : ∀ l', l' ≠ l → (ι.set l (w.heap.size, 0))[l']? = ι[l']? := fun l' hl' => List.getElem?_set_ne (fun e => hl' e.symm)
  have atl : ∀ b, own1 (ι.set l (w.heap.size, 0)) l k b → b = w.heap.size := by
    intro b hb
    rcases own1_cases hb with ⟨_, o, h5⟩ | ⟨m, x, rfl, _⟩
    · rw [hself] at h5; cases h5; rfl
    · cases hlk
  have off : ∀ l' k' b, l' ≠ l → own1 (ι.set l (w.heap.size, 0)) l' k' b → own1 ι l' k' b := fun l' k' b hl' hb => own1_io hb fun _ => (hne l' hl').symm
  have howned : ∀ b, owned (ι.set l (w.heap.size, 0)) (h.set l k) b → b = w.heap.size ∨ owned ι h b := by
    intro b ⟨l', blk, h2, h3⟩
    rcases get_set h2 with ⟨a1, a2, _⟩ | ⟨a1, a2⟩
    · subst a1 a2; exact .inl (atl b h3)
    · exact .inr ⟨l', blk, a2, off l' blk b a1 h3⟩
  have hext : Ext G ι h w G (ι.set l (w.heap.size, 0)) (h.set l k) (push w o) :=
    { size := by simp [push]
      quiet := ⟨rfl, rfl, rfl, Nat.le_refl _⟩
      frame := fun b hb _ => push_old w o hb
      gmono := fun _ h => h
      gnew := fun _ h => .inl h
      onew := fun b ho => by
        rcases howned b ho with e | e
        · right; omega
        · exact .inl e
      keep := fun l' k' hk' => by
        by_cases e : l' = l
        · subst e
          rw [hk0] at hk'; cases hk'
          exact ⟨k, by rw [List.getElem?_set_self (get_lt hk0)], hkept⟩
        · exact ⟨k', by rw [List.getElem?_set_ne (fun x => e x.symm)]; exact hk', Kept.frame (hne l' e) fun b hb => push_old w o (owned_lt r ⟨l', k', hk', hb⟩)⟩ }
  refine ⟨{ len := by simp [r.len]
            own := ?_
            g := ?_
            blk := ?_ }, hext⟩
  · intro l1 l2 b k1 k2 c1 c2 d1 d2
    rcases get_set c1 with ⟨e1, e1', _⟩ | ⟨e1, f1⟩ <;> rcases get_set c2 with ⟨e2, e2', _⟩ | ⟨e2, f2⟩
    · omega
    · exfalso
      subst e1 e1'
      have := atl b d1
      have := owned_lt r ⟨l2, k2, f2, off l2 k2 b e2 d2⟩; omega
    · exfalso
      subst e2 e2'
      have := atl b d2
      have := owned_lt r ⟨l1, k1, f1, off l1 k1 b e1 d1⟩; omega
    · exact r.own l1 l2 b k1 k2 f1 f2 (off l1 k1 b e1 d1) (off l2 k2 b e2 d2)
  · intro b hb'
    have := r.g b hb'
    refine ⟨by simp [push]; omega, fun ho => ?_⟩
    rcases howned b ho with e | e
    · omega
    · exact this.2 e
  · intro l' k' hk'
    rcases get_set hk' with ⟨e1, e2, _⟩ | ⟨e1, e2⟩
    · subst e1 e2; exact hb
    · exact BR.ext hext r e2 (hne l' e1) fun b hbo => push_old w o (owned_lt r ⟨l', k', e2, hbo⟩)
def nz {α : Type} : List α → Bool
 | [] => false
 | _ :: _ => true
theorem new_nil {sz : Nat} (hr : HR G ι h w) :
    HR G (ι ++ [(0, 0)]) (h ++ [.da false 0 sz []]) w ∧ VR G w (ι ++ [(0, 0)]) (h ++ [.da false 0 sz []]) (.slice none 0 0) (.c (.arr h.length 0 0 0)) ∧
      Ext G ι h w G (ι ++ [(0, 0)]) (h ++ [.da false 0 sz []]) w := by
  have hi : ∀ l k, h[l]? = some k → (ι ++ [(0, 0)])[l]? = ι[l]? := fun l k hk => List.getElem?_append_left (by rw [hr.len]; exact get_lt hk)
  have hon : ∀ l k b, (h ++ [.da false 0 sz []])[l]? = some k → own1 (ι ++ [(0, 0)]) l k b → h[l]? = some k ∧ own1 ι l k b := by
    intro l k b h2 h3
    rcases get_snoc h2 with d | ⟨d, d'⟩
    · exact ⟨d, own1_snoc (by rw [hr.len]; exact get_lt d) h3⟩
    · subst d'; cases h3.1
  have howned : ∀ b, owned (ι ++ [(0, 0)]) (h ++ [.da false 0 sz []]) b → owned ι h b := by
    intro b ⟨l', blk, h2, h3⟩
    exact ⟨l', blk, hon l' blk b h2 h3⟩
  have hext : Ext G ι h w G (ι ++ [(0, 0)]) (h ++ [.da false 0 sz []]) w :=
    { size := Nat.le_refl _
      quiet := ⟨rfl, rfl, rfl, Nat.le_refl _⟩
      frame := fun _ _ _ => rfl
      gmono := fun _ h => h
      gnew := fun _ h => .inl h
      onew := fun b ho => .inl (howned b ho)
      keep := fun l' k' hk' => ⟨k', get_snoc_old hk', Kept.frame (hi l' k' hk') fun _ _ => rfl⟩ }
  refine ⟨{ len := by simp [hr.len]
            own := fun l1 l2 b k1 k2 c1 c2 d1 d2 => hr.own l1 l2 b k1 k2 (hon _ _ _ c1 d1).1 (hon _ _ _ c2 d2).1 (hon _ _ _ c1 d1).2 (hon _ _ _ c2 d2).2
            g := fun b hb => ⟨(hr.g b hb).1, fun ho => (hr.g b hb).2 (howned b ho)⟩
            blk := ?_ }, ?_, hext⟩
  · intro l' k' hk'
    rcases get_snoc hk' with e | ⟨_, e⟩
    · exact BR.ext hext hr e (hi l' _ e) fun _ _ => rfl
    · subst e; simp [BR]
  · exact .c _ _ (.arr _ _ _ _ _ (.da false 0 sz []) (by simp) rfl (fun _ _ he => by cases he) fun _ _ _ => ⟨rfl, rfl, rfl⟩)
def appv (h : Hp) (sz bytes : Nat) (xv : AV) (ys : List (List D)) : Option (AV × Hp) :=
 match xv with
 | .c (.d (.list true sz' _)) => if sz' = sz ∧ ys.length * bytes ≤ 140737488355328 then some (.c (.arr h.length 0 0 ys.length), h ++ [.da (nz ys) 0 sz ys]) else none
 | .c (.cl nl sz' l) => if sz' = sz ∧ (l.length + ys.length) * bytes ≤ 140737488355328 then
   (match ys with
   | [] => some (.c (.cl nl sz' l), h)
   | y :: r => some (.c (.arr h.length 0 0 (l.length + (r.length + 1))), h ++ [.da true 0 sz (l ++ y :: r)]))
  else none
 | .c (.arr l v i n) => match h[l]? with
  | some (.da r v' sz' es) => if v' = v ∧ sz' = sz ∧ (n + ys.length) * bytes ≤ 140737488355328 then
    some (.c (.arr l (v + 1) 0 (n + ys.length)), h.set l (.da (r || nz ys) (v + 1) sz ((es.drop i).take n ++ ys)))
   else none
  | _ => none
 | _ => none
theorem growBy_le (n : Nat) : ∀ (r c : Nat), c < n → 256 ≤ c → Builtin.growBy n r c ≤ 2 * n := by
 intro r
 induction r with
 | zero => intro c hc _; simp only [Builtin.growBy]; omega
 | succ r ih =>
  intro c hc h256
  simp only [Builtin.growBy]
  split
  ·omega
  ·by_cases h1 : c + (c + 768) / 4 < n
   ·exact ih _ h1 (by omega)
   ·have hle : c + (c + 768) / 4 ≤ 2 * n := by omega
    generalize hc' : c + (c + 768) / 4 = c' at *
    have : Builtin.growBy n r c' = c' := by
     cases r with
     | zero => rfl
     | succ r => simp only [Builtin.growBy]; rw [if_pos (by omega)]
    omega
theorem nextcap_le {need cap : Nat} (h : cap < need) : Builtin.nextslicecap need cap ≤ 2 * need := by
 unfold Builtin.nextslicecap
 split
 ·omega
 ·split
  ·omega
  ·exact growBy_le need 4 cap h (by omega)
theorem zeroCells_size (z : Array Value) (n : Nat) : (Builtin.zeroCells z n).size = n * z.size := by
 simp [Builtin.zeroCells]
theorem laid_append {sz : Nat} {xs ys : List (List D)} {c1 c2 c3 : Array Value} (h1 : laid sz xs G w c1 0) (hs1 : c1.size = xs.length * sz) (h2 : laid sz ys G w c2 0)
  (hs2 : c2.size = ys.length * sz) : laid sz (xs ++ ys) G w (c1 ++ c2 ++ c3) 0 := by
 refine ⟨fun i e he => ?_, fun i e j x he hx => ?_⟩
 ·rcases Nat.lt_or_ge i xs.length with hi | hi
  ·rw [List.getElem?_append_left hi] at he; exact h1.1 i e he
  ·rw [List.getElem?_append_right hi] at he; exact h2.1 _ e he
 ·rcases Nat.lt_or_ge i xs.length with hi | hi
  ·rw [List.getElem?_append_left hi] at he
   obtain ⟨v, hv, hd⟩ := h1.2 i e j x he hx
   refine ⟨v, ?_, hd⟩
   have hlt : 0 + i * sz + j < c1.size := by
    rcases Nat.lt_or_ge (0 + i * sz + j) c1.size with hlt | hge
    ·exact hlt
    ·rw [Array.getElem?_eq_none hge] at hv; cases hv
   rw [Array.append_assoc, Array.getElem?_append_left hlt]; exact hv
  ·rw [List.getElem?_append_right hi] at he
   obtain ⟨v, hv, hd⟩ := h2.2 _ e j x he hx
   refine ⟨v, ?_, hd⟩
   have hmul : i * sz = xs.length * sz + (i - xs.length) * sz := by
    rw [← Nat.add_mul]; congr 1; omega
   have hlt : 0 + (i - xs.length) * sz + j < c2.size := by
    rcases Nat.lt_or_ge (0 + (i - xs.length) * sz + j) c2.size with hlt | hge
    ·exact hlt
    ·rw [Array.getElem?_eq_none hge] at hv; cases hv
   rw [Array.append_assoc, Array.getElem?_append_right (by omega), Array.getElem?_append_left (by omega)]
   rw [← hv]; congr 1; omega
theorem append_grow_run {vx vy : Value} {sz bytes n : Nat} {ys : List (List D)} {sT yT el el2 : TypeId} {ti : TypeInfo} {z : Value} {a : Option Addr} {sLen sCap : Nat} {xs : List (List D)} {co cn : Array Value} (ty : TypeId)
  (hu : P.underlying sT = some (.slice el)) (hdy : P.underlying yT = some (.slice el2)) (hpos : 0 < bytes) (hi : P.info? el = some ti) (hsz : ti.size = sz) (hby : ti.bytes = bytes)
  (hz : ti.zero = some z) (hzs : z.cells.size = sz) (hvx : vx = .slice a sLen sCap) (hlx : xs.length = sLen) (hly : ys.length = n)
  (hlen : (Builtin.lenOf vy).run P w = .ok n w)
  (w1 : World) (hw1' : w1 = { w with drawn := w.drawn + 1 }) (ho1 : (Builtin.firstCells sz sLen vx).run P w1 = .ok co w1) (ho2 : (Builtin.firstCells sz n vy).run P w1 = .ok cn w1)
  (hco1 : laid sz xs G w1 co 0) (hcos : co.size = xs.length * sz) (hcn1 : laid sz ys G w1 cn 0) (hcns : cn.size = ys.length * sz) (hneed : sCap < sLen + n)
  (hb : (sLen + n) * bytes ≤ 140737488355328) :
  ∃ cap' c, (Builtin.append_ #[sT, yT] ty #[vx, vy]).run P w = .ok (.slice (some ⟨w1.heap.size, 0, none⟩) (sLen + n) cap') (push w1 (.cells c el)) ∧ sLen + n ≤ cap' ∧
   laid sz (xs ++ ys) G w1 c 0 ∧ cap' * sz ≤ c.size := by
 have hq : ∀ a b c, (Question.appendCap a b c).forced = false := fun _ _ _ => rfl
 have hcut : ∃ cap', Question.cut (.appendCap (sLen + n) sCap el) (w.tape w.drawn (.appendCap (sLen + n) sCap el)) = cap' ∧ sLen + n ≤ cap' := ⟨_, rfl, by simp [Question.cut]⟩
 obtain ⟨cap', hcap1, hcap2⟩ := hcut
 have hsmall : ¬ 2 ^ 48 < Builtin.nextslicecap (sLen + n) sCap * bytes := by
  have h1 := nextcap_le hneed
  have h2 : Builtin.nextslicecap (sLen + n) sCap * bytes ≤ (2 * (sLen + n)) * bytes := Nat.mul_le_mul_right bytes h1
  rw [Nat.mul_assoc] at h2
  have h3 : (2 : Nat) ^ 48 = 281474976710656 := by decide
  omega
 have hrun : (Builtin.append_ #[sT, yT] ty #[vx, vy]).run P w =
   (.ok (.slice (some ⟨w1.heap.size, 0, none⟩) (sLen + n) cap') (push w1 (.cells (co ++ cn ++ Builtin.zeroCells z.cells (cap' - (sLen + n))) el)) : Result Value) := by
  subst hvx
  have hle : ¬ sLen + n ≤ sCap := by omega
  have hb0 : ¬ (IntKind.i64.max < ((sLen + n : Nat) : Int) ∧ bytes = 0) := by omega
  simp only [Builtin.append_, List.getElem?_toArray, List.getElem?_cons_zero, List.getElem?_cons_succ, Sem.run_bind, r_und hu, r_und hdy, Result.andThen_ok, r_size hi, Sem.run_pure, hlen, Sem.run_ite, hle, if_false, r_info hi,
    Bool.false_eq_true, false_or, hby, gt_iff_lt, hsmall, run_choose, hq, hcap1, run_askRoom, hsz, Bool.not_false, if_true]
  rw [← hw1']
  simp only [ho1, ho2, Result.andThen_ok, r_zero hi hz, newRow, Sem.run_bind, run_newObj, Sem.run_pure]
  rw [if_neg hb0]
  rfl
 have hl := laid_append (c3 := Builtin.zeroCells z.cells (cap' - (sLen + n))) hco1 hcos hcn1 hcns
 have hsize : cap' * sz ≤ (co ++ cn ++ Builtin.zeroCells z.cells (cap' - (sLen + n))).size := by
  simp only [Array.size_append, hcos, hcns, zeroCells_size, hzs, hlx, hly]
  rw [← Nat.add_mul, ← Nat.add_mul]
  apply Nat.mul_le_mul_right; omega
 exact ⟨cap', _, hrun, hcap2, hl, hsize⟩
theorem append_run {vy : Value} {sz n : Nat} {sT yT el el2 : TypeId} {ti : TypeInfo} {a : Option Addr} {sLen sCap : Nat} {cn : Array Value} {w' : World} (ty : TypeId)
  (hu : P.underlying sT = some (.slice el)) (hdy : P.underlying yT = some (.slice el2)) (hi : P.info? el = some ti) (hsz : ti.size = sz)
  (hlen : (Builtin.lenOf vy).run P w = .ok n w) (hnew : (Builtin.firstCells sz n vy).run P w = .ok cn w) (hneed : sLen + n ≤ sCap)
  (hst : ∀ x, a = some x → (storeCells (x.add (sLen * sz)) cn.toList).run P w = .ok () w') (hnone : a = none → w' = w) :
  (Builtin.append_ #[sT, yT] ty #[.slice a sLen sCap, vy]).run P w = .ok (.slice a (sLen + n) sCap) w' := by
 cases a with
 | none =>
  have := hnone rfl
  subst this
  simp only [Builtin.append_, List.getElem?_toArray, List.getElem?_cons_zero, List.getElem?_cons_succ, Sem.run_bind, r_und hu, r_und hdy, Result.andThen_ok, r_size hi, Sem.run_pure, hlen, Sem.run_ite, hneed, if_true, hsz,
   Bool.false_eq_true, if_false, Bool.not_false, hnew]
 | some x =>
  simp only [Builtin.append_, List.getElem?_toArray, List.getElem?_cons_zero, List.getElem?_cons_succ, Sem.run_bind, r_und hu, r_und hdy, Result.andThen_ok, r_size hi, Sem.run_pure, hlen, Sem.run_ite, hneed, if_true, hsz,
   Bool.false_eq_true, if_false, Bool.not_false, hnew, hst x rfl]
theorem view_laid {v : Value} {av : AV} {sz : Nat} {l : List (List D)} (hr : HR G ι h w) (hv : VR G w ι h v av) (hw : view h av = some (sz, l)) :
  ∃ vs : Array Value, (Builtin.firstCells sz l.length v).run P w = .ok vs w ∧ vs.size = l.length * sz ∧ laid sz l G w vs 0 := by
 obtain ⟨vs, k1, k2, k3, k4⟩ := view_cells (P := P) hr hv hw
 refine ⟨vs, k1, k2, k3, fun i e j x he hx => ?_⟩
 obtain ⟨y, h1, h2⟩ := k4 i e j x he hx
 exact ⟨y, by simpa using h1, h2⟩
theorem DRs_one {sz : Nat} {es : List (List D)} {c : Array Value} (hl : laid sz es G w c 0) (hs : c.size = es.length * sz) : ∀ v ∈ c.toList, v.oneCell' = true := by
 intro v hv
 obtain ⟨k, hk1, hk2⟩ := List.getElem_of_mem hv
 simp only [Array.length_toList] at hk1
 have hpos : 0 < sz := by
  rcases Nat.eq_zero_or_pos sz with h0 | h0
  ·subst h0; omega
  ·exact h0
 have hi : k / sz < es.length := by rw [Nat.div_lt_iff_lt_mul hpos]; omega
 have he : es[k / sz]? = some es[k / sz] := List.getElem?_eq_getElem hi
 have hj : k % sz < (es[k / sz]).length := by rw [hl.1 _ _ he]; exact Nat.mod_lt _ hpos
 obtain ⟨y, hy, hd⟩ := hl.2 (k / sz) _ (k % sz) _ he (List.getElem?_eq_getElem hj)
 have hdm : k / sz * sz + k % sz = k := by have := Nat.div_add_mod k sz; rw [Nat.mul_comm] at this; exact this
 rw [show 0 + k / sz * sz + k % sz = k by omega, Array.getElem?_eq_getElem hk1] at hy
 simp only [Option.some.injEq] at hy
 rw [← hk2]
 simp only [Array.getElem_toList, hy]
 exact hd.one.1
theorem room_le {n bytes : Nat} (hp : 0 < bytes) (hb : n * bytes ≤ 140737488355328) : n ≤ 9223372036854775807 := by
 have : n * 1 ≤ n * bytes := Nat.mul_le_mul_left _ hp
 omega
structure AppTy (P : Program) (sT yT el el2 : TypeId) (ti : TypeInfo) (z : Value) (sz bytes : Nat) : Prop where
 hu : P.underlying sT = some (.slice el)
 hdy : P.underlying yT = some (.slice el2)
 hi : P.info? el = some ti
 hsz : ti.size = sz
 hby : ti.bytes = bytes
 hpos : 0 < bytes
 hz : ti.zero = some z
 hzs : z.cells.size = sz
theorem append_fresh {vx vy : Value} {xv yv : AV} {sz bytes : Nat} {sT yT el el2 : TypeId} {ti : TypeInfo} {z : Value} {a : Option Addr} {sCap : Nat} {xs ys : List (List D)} (ty : TypeId)
  (T : AppTy P sT yT el el2 ti z sz bytes) (hr : HR G ι h w) (hx : VR G w ι h vx xv) (hxv : view h xv = some (sz, xs)) (hy : VR G w ι h vy yv) (hyv : view h yv = some (sz, ys))
  (hvx : vx = .slice a xs.length sCap) (hneed : sCap < xs.length + ys.length) (hb : (xs.length + ys.length) * bytes ≤ 140737488355328) :
  ∃ v w' G' ι', (Builtin.append_ #[sT, yT] ty #[vx, vy]).run P w = .ok v w' ∧ HR G' ι' (h ++ [.da true 0 sz (xs ++ ys)]) w' ∧
   VR G' w' ι' (h ++ [.da true 0 sz (xs ++ ys)]) v (.c (.arr h.length 0 0 (xs.length + ys.length))) ∧ Ext G ι h w G' ι' (h ++ [.da true 0 sz (xs ++ ys)]) w' := by
 obtain ⟨w1, hw1⟩ : ∃ w1 : World, w1 = { w with drawn := w.drawn + 1 } := ⟨_, rfl⟩
 have hh : w1.heap = w.heap := by rw [hw1]
 have hr1 := hr.same_heap hh
 have hx1 := Ext.same_heap (G := G) (ι := ι) (h := h) hh
 obtain ⟨co, a1, a2, a3⟩ := view_laid (P := P) hr1 (hx.ext hx1 hr) hxv
 obtain ⟨cn, b1, b2, b3⟩ := view_laid (P := P) hr1 (hy.ext hx1 hr) hyv
 obtain ⟨ay, capy, hvy, _⟩ := view_len hr hy hyv
 have hlen : (Builtin.lenOf vy).run P w = .ok ys.length w := by rw [hvy]; rfl
 obtain ⟨cap', c, k1, k2, k3, k4⟩ := append_grow_run (G := G) (P := P) (xs := xs) (ys := ys) ty T.hu T.hdy T.hpos T.hi T.hsz T.hby T.hz T.hzs hvx rfl rfl hlen w1 hw1 a1 b1 a3 a2 b3 b2 hneed hb
 obtain ⟨q1, q2, q3⟩ := new_da (n := xs.length + ys.length) (cap := cap') (k := xs.length + ys.length) el hr1 k3 (by simp) k2 k4 (by simp) (by simp only [List.length_append]; exact room_le T.hpos hb)
 exact ⟨_, _, G, _, k1, q1, q2, hx1.trans q3⟩
theorem laid_at {sz : Nat} {es : List (List D)} {c c' : Array Value} {o p : Nat} (hl : laid sz es G w c p) (hc : ∀ k, k < es.length * sz → c'[o + k]? = c[p + k]?) : laid sz es G w c' o := by
 refine ⟨hl.1, fun i e j x he hx => ?_⟩
 obtain ⟨v, h1, h2⟩ := hl.2 i e j x he hx
 refine ⟨v, ?_, h2⟩
 have hil := get_lt he
 have hjl : j < sz := by have := get_lt hx; rw [hl.1 i e he] at this; exact this
 have hlt : i * sz + j < es.length * sz := by
  have : (i + 1) * sz ≤ es.length * sz := Nat.mul_le_mul_right sz hil
  rw [Nat.add_mul, Nat.one_mul] at this; omega
 rw [Nat.add_assoc, hc _ hlt, ← Nat.add_assoc]; exact h1
theorem laid_append2 {sz : Nat} {xs ys : List (List D)} {c : Array Value} {o : Nat} (h1 : laid sz xs G w c o) (h2 : laid sz ys G w c (o + xs.length * sz)) : laid sz (xs ++ ys) G w c o := by
 refine ⟨fun i e he => ?_, fun i e j x he hx => ?_⟩
 ·rcases Nat.lt_or_ge i xs.length with hi | hi
  ·rw [List.getElem?_append_left hi] at he; exact h1.1 i e he
  ·rw [List.getElem?_append_right hi] at he; exact h2.1 _ e he
 ·rcases Nat.lt_or_ge i xs.length with hi | hi
  ·rw [List.getElem?_append_left hi] at he; exact h1.2 i e j x he hx
  ·rw [List.getElem?_append_right hi] at he
   obtain ⟨v, hv, hd⟩ := h2.2 _ e j x he hx
   refine ⟨v, ?_, hd⟩
   have hmul : i * sz = xs.length * sz + (i - xs.length) * sz := by
    rw [← Nat.add_mul]; congr 1; omega
   rw [← hv]; congr 1; omega
theorem append_own0 {vx vy : Value} {yv : AV} {sz bytes : Nat} {sT yT el el2 : TypeId} {ti : TypeInfo} {z : Value} {es ys : List (List D)} {l v i n : Nat} (ty : TypeId)
    (T : AppTy P sT yT el el2 ti z sz bytes) (hr : HR G ι h w) (hx : VR G w ι h vx (.c (.arr l v i n))) (hl : h[l]? = some (.da true v sz es)) (hy : VR G w ι h vy yv) (hyv : view h yv = some (sz, ys))
    (hb : (n + ys.length) * bytes ≤ 140737488355328) :
    ∃ v' w' G' ι', (Builtin.append_ #[sT, yT] ty #[vx, vy]).run P w = .ok v' w' ∧ HR G' ι' (h.set l (.da true (v + 1) sz ((es.drop i).take n ++ ys))) w' ∧
      VR G' w' ι' (h.set l (.da true (v + 1) sz ((es.drop i).take n ++ ys))) v' (.c (.arr l (v + 1) 0 (n + ys.length))) ∧ Ext G ι h w G' ι' (h.set l (.da true (v + 1) sz ((es.drop i).take n ++ ys))) w' ∧ (∀ b0, i = 0 → ι[l]? = some (b0, 0) → ∃ b1, ι'[l]? = some (b1, 0)) := by
  have hxv : view h (.c (.arr l v i n)) = some (sz, (es.drop i).take n) := by simp [view, hl]
  obtain ⟨b, o, cap, g1, g2, g3, g4, g5⟩ : ∃ b o cap, ι[l]? = some (b, o) ∧ i + n ≤ es.length ∧ n ≤ cap ∧ o + (i + cap) * sz ≤ bsize w b ∧
        (vx = .slice (some ⟨b, o + i * sz, none⟩) n cap ∨ (n = 0 ∧ cap = 0 ∧ ∃ o', vx = .slice (some ⟨b, o', none⟩) 0 0)) := by
    cases hx with
    | c _ _ hc =>
      cases hc with
      | arr _ _ _ _ _ blk hb ha hk _ => rw [hl] at hb; cases hb; exact hk sz es rfl
  have hlen : ((es.drop i).take n).length = n := by simp; omega
  obtain ⟨ay, capy, hvy, _⟩ := view_len hr hy hyv
  have hleny : (Builtin.lenOf vy).run P w = .ok ys.length w := by rw [hvy]; rfl
  have hll : l < h.length := get_lt hl
  by_cases hneed : n + ys.length ≤ cap
  · rcases g5 with rfl | ⟨rfl, rfl, o', rfl⟩
    · -- in place
      obtain ⟨cn, b1, b2, b3⟩ := view_laid (P := P) hr hy hyv
      obtain ⟨b', o', c, t, fr, hmx, p1, p2, p3, p4, p5, p6⟩ := hr.blk l _ hl
      rw [g1] at p1; cases p1
      have hbs : bsize w b = c.size := by simp [bsize, p2]
      rw [hbs] at g4
      have hcap : (n + ys.length) * sz ≤ cap * sz := Nat.mul_le_mul_right sz hneed
      rw [Nat.add_mul] at hcap g4
      obtain ⟨w', c', q1, q2, q3, q4, q5, q6, q7⟩ := storeCells_run P b (o + i * sz + n * sz) t fr cn.toList w c 0 p2 p4 (by simp only [Array.length_toList, b2]; omega) (DRs_one b3 b2)
      have hrun := append_run (P := P) (vy := vy) (sz := sz) (n := ys.length) (a := some ⟨b, o + i * sz, none⟩) (sLen := n) (sCap := cap) (cn := cn) (w' := w') ty T.hu T.hdy T.hi T.hsz hleny b1 hneed
        (fun x hx => by cases hx; rw [add_none]; exact q1) (fun hx => by cases hx)
      have hext0 : ∀ b1 : Nat, b1 < w.heap.size → b1 ≠ b → w'.heap[b1]? = w.heap[b1]? := fun b1 _ hb1 => q6 b1 hb1
      have hlaid : laid sz ((es.drop i).take n ++ ys) G w c' (o + i * sz) := by
        refine laid_append2 ?_ ?_
        · have hold : laid sz ((es.drop i).take n) G w c (o + i * sz) := by
            refine ⟨fun p e he => ?_, fun p e q x he hx => ?_⟩
            · have hp := get_lt he
              rw [List.getElem?_take, if_pos (by omega), List.getElem?_drop] at he
              exact p5 _ e he
            · have hp := get_lt he
              rw [List.getElem?_take, if_pos (by omega), List.getElem?_drop] at he
              obtain ⟨y, hy, hd⟩ := p6 _ e q x he hx
              refine ⟨y, ?_, hd⟩
              rw [← hy]; congr 1; rw [Nat.add_mul]; omega
          refine laid_at hold fun k hk => ?_
          rw [hlen] at hk
          rw [q4, if_neg (by omega)]
        · rw [hlen]
          refine laid_at b3 fun k hk => ?_
          rw [q4, if_pos (by simp only [Array.length_toList, b2]; omega)]
          rw [Array.getElem?_toList]
          congr 1; omega
      have hkept : Kept ι (ι.set l (b, o + i * sz)) w w' l (.da true v sz es) (.da true (v + 1) sz ((es.drop i).take n ++ ys)) := .inl (by omega)
      have hframe : ∀ b1, G b1 → G b1 ∧ w'.heap[b1]? = w.heap[b1]? := fun b1 hb1 =>
        ⟨hb1, q6 b1 fun e => (hr.g b1 hb1).2 (e ▸ owned_of g1 hl rfl)⟩
      have hlaid' := laid_mono hlaid hframe
      obtain ⟨r1, r2⟩ := HR.move (k := .da true (v + 1) sz ((es.drop i).take n ++ ys)) (o1 := o + i * sz) hr hl g1 rfl rfl hkept (by omega) hext0 (.inl rfl)
        ⟨b, o + i * sz, c', t, fr, by simp only [List.length_append, hlen]; exact room_le T.hpos hb, by rw [List.getElem?_set_self (by rw [hr.len]; exact hll)], q2, by rw [q3]; simp only [List.length_append, hlen]; rw [Nat.add_mul]; omega, by rw [q3]; exact p4, hlaid'.1, hlaid'.2⟩
      refine ⟨_, w', G, _, hrun, r1, ?_, r2, fun b0 hi0 hb0 => by subst hi0; rw [g1] at hb0; cases hb0; exact ⟨b, by rw [List.getElem?_set_self (by rw [hr.len]; exact hll)]; simp⟩⟩
      refine .c _ _ (.arr _ _ _ _ _ (.da true (v + 1) sz ((es.drop i).take n ++ ys)) (by rw [List.getElem?_set_self hll]) (by simp [Blk.allows]) (fun sz' es' he => ?_) fun sz' es' he => by cases he)
      cases he
      refine ⟨b, o + i * sz, cap, by rw [List.getElem?_set_self (by rw [hr.len]; exact hll)], by simp [hlen], hneed, ?_, .inl (by simp)⟩
      simp only [bsize, q2, q3, Nat.zero_add]; omega
    · -- nothing appended to an empty slice of no room
      have hy0 : ys.length = 0 := by omega
      have hys : ys = [] := List.eq_nil_of_length_eq_zero hy0
      obtain ⟨cn, b1, b2, b3⟩ := view_laid (P := P) hr hy hyv
      have hcn : cn.toList = [] := by apply List.eq_nil_of_length_eq_zero; simp only [Array.length_toList, b2, hy0]; omega
      have hrun := append_run (P := P) (vy := vy) (sz := sz) (n := ys.length) (a := some ⟨b, o', none⟩) (sLen := 0) (sCap := 0) (cn := cn) (w' := w) ty T.hu T.hdy T.hi T.hsz hleny b1 (by omega)
        (fun x hx => by rw [hcn]; rfl) (fun hx => by cases hx)
      obtain ⟨b', o'', c, t, fr, hmx, p1, p2, p3, p4, p5, p6⟩ := hr.blk l _ hl
      rw [g1] at p1; cases p1
      subst hys
      simp only [List.take_zero, List.nil_append, List.length_nil, Nat.add_zero] at *
      have hkept : Kept ι (ι.set l (b, o)) w w l (.da true v sz es) (.da true (v + 1) sz []) := .inl (by omega)
      obtain ⟨r1, r2⟩ := HR.move (k := .da true (v + 1) sz []) (o1 := o) hr hl g1 rfl rfl hkept (Nat.le_refl _) (fun _ _ _ => rfl) (.inl rfl)
        ⟨b, o, c, t, fr, by simp, by rw [List.getElem?_set_self (by rw [hr.len]; exact hll)], p2, by simp; omega, p4, by simp, by simp⟩
      refine ⟨_, w, G, _, hrun, r1, ?_, r2, fun b0 hi0 hb0 => by rw [g1] at hb0; cases hb0; exact ⟨b, by rw [List.getElem?_set_self (by rw [hr.len]; exact hll)]⟩⟩
      refine .c _ _ (.arr _ _ _ _ _ (.da true (v + 1) sz []) (by rw [List.getElem?_set_self hll]) (by simp [Blk.allows]) (fun sz' es' he => ?_) fun sz' es' he => by cases he)
      cases he
      refine ⟨b, o, 0, by rw [List.getElem?_set_self (by rw [hr.len]; exact hll)], by simp, by simp, ?_, .inr ⟨rfl, rfl, o', rfl⟩⟩
      simp only [bsize, p2]; simp; omega
  · -- a new array
    have hvx : ∃ a, vx = .slice a ((es.drop i).take n).length cap := by
      rw [hlen]
      rcases g5 with rfl | ⟨rfl, rfl, o', rfl⟩
      · exact ⟨_, rfl⟩
      · exact ⟨_, rfl⟩
    obtain ⟨a, hvx⟩ := hvx
    obtain ⟨w1, hw1⟩ : ∃ w1 : World, w1 = { w with drawn := w.drawn + 1 } := ⟨_, rfl⟩
    have hh : w1.heap = w.heap := by rw [hw1]
    have hr1 := hr.same_heap hh
    have hx1 := Ext.same_heap (G := G) (ι := ι) (h := h) hh
    obtain ⟨co, a1, a2, a3⟩ := view_laid (P := P) hr1 (hx.ext hx1 hr) hxv
    obtain ⟨cn, b1, b2, b3⟩ := view_laid (P := P) hr1 (hy.ext hx1 hr) hyv
    obtain ⟨cap', c, k1, k2, k3, k4⟩ := append_grow_run (G := G) (P := P) (xs := (es.drop i).take n) (ys := ys) ty T.hu T.hdy T.hpos T.hi T.hsz T.hby T.hz T.hzs hvx rfl rfl hleny w1 hw1 a1 b1 a3 a2 b3 b2
      (by rw [hlen]; omega) (by rw [hlen]; exact hb)
    have hkept : Kept ι (ι.set l (w1.heap.size, 0)) w1 (push w1 (.cells c el)) l (.da true v sz es) (.da true (v + 1) sz ((es.drop i).take n ++ ys)) := .inl (by omega)
    have hframe : ∀ b1, G b1 → G b1 ∧ (push w1 (.cells c el)).heap[b1]? = w1.heap[b1]? := fun b1 hb1 => ⟨hb1, push_old w1 _ (hr1.g b1 hb1).1⟩
    have hlaid' := laid_mono k3 hframe
    have hcl : ((es.drop i).take n ++ ys).length * sz ≤ c.size := Nat.le_trans (Nat.mul_le_mul_right sz (by simp only [List.length_append]; omega)) k4
    obtain ⟨r1, r2⟩ := HR.move (w' := push w1 (.cells c el)) (k := .da true (v + 1) sz ((es.drop i).take n ++ ys)) (b1 := w1.heap.size) (o1 := 0) hr1 hl g1 rfl rfl hkept (by simp [push])
      (fun b2 hb2 _ => push_old w1 _ hb2) (.inr rfl)
      ⟨w1.heap.size, 0, c, el, (0, 0), by simp only [List.length_append, hlen]; exact room_le T.hpos hb, by rw [List.getElem?_set_self (by rw [hr.len]; exact hll)], push_new w1 _, by omega, by simp, hlaid'.1, hlaid'.2⟩
    refine ⟨_, _, G, _, k1, r1, ?_, hx1.trans r2, fun _ _ _ => ⟨w1.heap.size, by rw [List.getElem?_set_self (by rw [hr.len]; exact hll)]⟩⟩
    rw [hlen]
    refine .c _ _ (.arr _ _ _ _ _ (.da true (v + 1) sz ((es.drop i).take n ++ ys)) (by rw [List.getElem?_set_self hll]) (by simp [Blk.allows]) (fun sz' es' he => ?_) fun sz' es' he => by cases he)
    cases he
    rw [hlen] at k2
    refine ⟨w1.heap.size, 0, cap', by rw [List.getElem?_set_self (by rw [hr.len]; exact hll)], by simp [hlen], k2, ?_, .inl (by simp)⟩
    simp only [bsize, push_new, Nat.zero_add]; exact k4
theorem append_own {vx vy : Value} {yv : AV} {sz bytes : Nat} {sT yT el el2 : TypeId} {ti : TypeInfo} {z : Value} {es ys : List (List D)} {l v i n : Nat} (ty : TypeId)
  (T : AppTy P sT yT el el2 ti z sz bytes) (hr : HR G ι h w) (hx : VR G w ι h vx (.c (.arr l v i n))) (hl : h[l]? = some (.da true v sz es)) (hy : VR G w ι h vy yv) (hyv : view h yv = some (sz, ys))
  (hb : (n + ys.length) * bytes ≤ 140737488355328) :
  ∃ v' w' G' ι', (Builtin.append_ #[sT, yT] ty #[vx, vy]).run P w = .ok v' w' ∧ HR G' ι' (h.set l (.da true (v + 1) sz ((es.drop i).take n ++ ys))) w' ∧
   VR G' w' ι' (h.set l (.da true (v + 1) sz ((es.drop i).take n ++ ys))) v' (.c (.arr l (v + 1) 0 (n + ys.length))) ∧ Ext G ι h w G' ι' (h.set l (.da true (v + 1) sz ((es.drop i).take n ++ ys))) w' := by
 obtain ⟨v', w', G', ι', h1, h2, h3, h4, _⟩ := append_own0 ty T hr hx hl hy hyv hb
 exact ⟨v', w', G', ι', h1, h2, h3, h4⟩
theorem HR.bump {l : Nat} {k0 k : Blk} (r : HR G ι h w) (hk0 : h[l]? = some k0) (hdead : ∀ b, own1 ι l k b → own1 ι l k0 b) (hkept : Kept ι ι w w l k0 k) (hb : BR G w ι (h.set l k) l k) :
    HR G ι (h.set l k) w ∧ Ext G ι h w G ι (h.set l k) w := by
  have howned : ∀ b, owned ι (h.set l k) b → owned ι h b := fun b ho => owned_set hk0 (hdead b) ho
  have hext : Ext G ι h w G ι (h.set l k) w :=
    { size := Nat.le_refl _
      quiet := ⟨rfl, rfl, rfl, Nat.le_refl _⟩
      frame := fun _ _ _ => rfl
      gmono := fun _ h => h
      gnew := fun _ h => .inl h
      onew := fun b ho => .inl (howned b ho)
      keep := fun l' k' hk' => by
        by_cases e : l' = l
        · subst e
          rw [hk0] at hk'; cases hk'
          exact ⟨k, by rw [List.getElem?_set_self (get_lt hk0)], hkept⟩
        · exact ⟨k', by rw [List.getElem?_set_ne (fun x => e x.symm)]; exact hk', Kept.refl ι w l' k'⟩ }
  refine ⟨{ len := by simp [r.len]
            own := ?_
            g := fun b hb => ⟨(r.g b hb).1, fun ho => (r.g b hb).2 (howned b ho)⟩
            blk := ?_ }, hext⟩
  · intro l1 l2 b k1 k2 c1 c2 d1 d2
    rcases get_set c1 with ⟨e1, e1', _⟩ | ⟨_, f1⟩ <;> rcases get_set c2 with ⟨e2, e2', _⟩ | ⟨_, f2⟩
    · omega
    · subst e1 e1'; exact r.own _ _ b k0 k2 hk0 f2 (hdead b d1) d2
    · subst e2 e2'; exact r.own _ _ b k1 k0 f1 hk0 d1 (hdead b d2)
    · exact r.own l1 l2 b k1 k2 f1 f2 d1 d2
  · intro l' k' hk'
    rcases get_set hk' with ⟨e1, e2, _⟩ | ⟨e1, e2⟩
    · subst e1 e2; exact hb
    · exact BR.ext hext r e2 rfl fun _ _ => rfl
theorem append_nil {vx vy : Value} {yv : AV} {sz bytes : Nat} {sT yT el el2 : TypeId} {ti : TypeInfo} {z : Value} {es ys : List (List D)} {l v i n : Nat} (ty : TypeId)
  (T : AppTy P sT yT el el2 ti z sz bytes) (hr : HR G ι h w) (hx : VR G w ι h vx (.c (.arr l v i n))) (hl : h[l]? = some (.da false v sz es)) (hy : VR G w ι h vy yv) (hyv : view h yv = some (sz, ys))
  (hb : (n + ys.length) * bytes ≤ 140737488355328) :
  ∃ v' w' G' ι', (Builtin.append_ #[sT, yT] ty #[vx, vy]).run P w = .ok v' w' ∧ HR G' ι' (h.set l (.da (false || nz ys) (v + 1) sz ((es.drop i).take n ++ ys))) w' ∧
   VR G' w' ι' (h.set l (.da (false || nz ys) (v + 1) sz ((es.drop i).take n ++ ys))) v' (.c (.arr l (v + 1) 0 (n + ys.length))) ∧ Ext G ι h w G' ι' (h.set l (.da (false || nz ys) (v + 1) sz ((es.drop i).take n ++ ys))) w' := by
 have hes : es = [] := hr.blk l _ hl
 subst hes
 obtain ⟨hi0, hn0, hvx⟩ : i = 0 ∧ n = 0 ∧ vx = .slice none 0 0 := by
  cases hx with
  | c _ _ hc =>
   cases hc with
   | arr _ _ _ _ _ blk hb ha _ hk => rw [hl] at hb; cases hb; exact hk sz [] rfl
 subst hi0 hn0 hvx
 obtain ⟨ay, capy, hvy, _⟩ := view_len hr hy hyv
 have hleny : (Builtin.lenOf vy).run P w = .ok ys.length w := by rw [hvy]; rfl
 have hll : l < h.length := get_lt hl
 simp only [List.drop_nil, List.take_nil, List.nil_append, Nat.zero_add, Bool.false_or] at *
 cases ys with
 | nil =>
  obtain ⟨cn, b1, b2, b3⟩ := view_laid (P := P) hr hy hyv
  have hcn : cn.toList = [] := by apply List.eq_nil_of_length_eq_zero; simp only [Array.length_toList, b2]; simp
  have hrun := append_run (P := P) (vy := vy) (sz := sz) (n := 0) (a := none) (sLen := 0) (sCap := 0) (cn := cn) (w' := w) ty T.hu T.hdy T.hi T.hsz hleny b1 (by omega)
   (fun x hx => by cases hx) (fun _ => rfl)
  obtain ⟨q1, q2⟩ := HR.bump (k := .da false (v + 1) sz []) hr hl (fun _ hd => by cases hd.1) (.inl (by omega)) rfl
  refine ⟨_, w, G, ι, hrun, q1, ?_, q2⟩
  exact .c _ _ (.arr _ _ _ _ _ (.da false (v + 1) sz []) (by rw [List.getElem?_set_self hll]; rfl) (by simp [Blk.allows]) (fun _ _ he => by cases he) fun _ _ _ => ⟨rfl, rfl, rfl⟩)
 | cons y r =>
  obtain ⟨w1, hw1⟩ : ∃ w1 : World, w1 = { w with drawn := w.drawn + 1 } := ⟨_, rfl⟩
  have hh : w1.heap = w.heap := by rw [hw1]
  have hr1 := hr.same_heap hh
  have hx1 := Ext.same_heap (G := G) (ι := ι) (h := h) hh
  obtain ⟨cn, b1, b2, b3⟩ := view_laid (P := P) hr1 (hy.ext hx1 hr) hyv
  obtain ⟨cap', c, k1, k2, k3, k4⟩ := append_grow_run (G := G) (P := P) (xs := []) (ys := y :: r) (a := none) (sLen := 0) (sCap := 0) (co := #[]) ty T.hu T.hdy T.hpos T.hi T.hsz T.hby T.hz T.hzs rfl rfl rfl hleny w1 hw1
   (by simp [Builtin.firstCells]) b1 ⟨by simp, by simp⟩ (by simp) b3 b2 (by simp) (by simpa using hb)
  simp only [List.nil_append, Nat.zero_add] at k1 k2 k3
  have hkept : Kept ι (ι.set l (w1.heap.size, 0)) w1 (push w1 (.cells c el)) l (.da false v sz []) (.da true (v + 1) sz (y :: r)) := .inl (by omega)
  have hframe : ∀ b1, G b1 → G b1 ∧ (push w1 (.cells c el)).heap[b1]? = w1.heap[b1]? := fun b1 hb1 => ⟨hb1, push_old w1 _ (hr1.g b1 hb1).1⟩
  have hlaid' := laid_mono k3 hframe
  have hcl : (y :: r).length * sz ≤ c.size := Nat.le_trans (Nat.mul_le_mul_right sz k2) k4
  obtain ⟨r1, r2⟩ := HR.wake (o := .cells c el) hr1 hl rfl hkept
   ⟨w1.heap.size, 0, c, el, (0, 0), room_le T.hpos hb, by rw [List.getElem?_set_self (by rw [hr.len]; exact hll)], push_new w1 _, by omega, by simp, hlaid'.1, hlaid'.2⟩
  refine ⟨_, _, G, _, k1, r1, ?_, hx1.trans r2⟩
  refine .c _ _ (.arr _ _ _ _ _ (.da true (v + 1) sz (y :: r)) (by rw [List.getElem?_set_self hll]; rfl) (by simp [Blk.allows]) (fun sz' es' he => ?_) fun sz' es' he => by cases he)
  cases he
  refine ⟨w1.heap.size, 0, cap', by rw [List.getElem?_set_self (by rw [hr.len]; exact hll)], by simp, k2, ?_, .inl (by simp)⟩
  simp only [bsize, push_new, Nat.zero_add]; exact k4
theorem app_sound {vx vy : Value} {xv yv av' : AV} {h' : Hp} {sz bytes : Nat} {sT yT el el2 : TypeId} {ti : TypeInfo} {z : Value} {ys : List (List D)} (ty : TypeId)
  (T : AppTy P sT yT el el2 ti z sz bytes) (hr : HR G ι h w) (hx : VR G w ι h vx xv) (hy : VR G w ι h vy yv) (hyv : view h yv = some (sz, ys)) (hs : appv h sz bytes xv ys = some (av', h')) :
  ∃ v' w' G' ι', (Builtin.append_ #[sT, yT] ty #[vx, vy]).run P w = .ok v' w' ∧ HR G' ι' h' w' ∧ VR G' w' ι' h' v' av' ∧ Ext G ι h w G' ι' h' w' := by
 have hx0 := hx
 have nothing : ∀ (a : Option Addr) (n cap : Nat), vx = .slice a n cap → n ≤ cap → ys = [] →
   (Builtin.append_ #[sT, yT] ty #[vx, vy]).run P w = .ok vx w := by
  intro a n cap hvx hn hys
  subst hys
  obtain ⟨ay, capy, hvy, _⟩ := view_len hr hy hyv
  have hleny : (Builtin.lenOf vy).run P w = .ok 0 w := by rw [hvy]; rfl
  obtain ⟨cn, b1, b2, b3⟩ := view_laid (P := P) hr hy hyv
  have hcn : cn.toList = [] := by apply List.eq_nil_of_length_eq_zero; simp only [Array.length_toList, b2]; simp
  rw [hvx]
  exact append_run (P := P) (vy := vy) (sz := sz) (n := 0) (cn := cn) (w' := w) ty T.hu T.hdy T.hi T.hsz hleny b1 (by omega) (fun x _ => by rw [hcn]; rfl) (fun _ => rfl)
 unfold appv at hs
 split at hs
 ·rename_i sz' l
  split at hs
  ·rename_i hcond
   obtain ⟨rfl, hb⟩ := hcond
   cases hx with
   | c _ _ hc =>
    cases hc with
    | d _ _ hd =>
     cases hd with
     | nils =>
      simp only [Option.some.injEq, Prod.mk.injEq] at hs
      obtain ⟨rfl, rfl⟩ := hs
      cases ys with
      | nil =>
       obtain ⟨q1, q2, q3⟩ := new_nil (sz := sz') hr
       exact ⟨_, w, G, _, nothing none 0 0 rfl (Nat.le_refl _) rfl, q1, q2, q3⟩
      | cons y r =>
       have := append_fresh (xs := []) (ys := y :: r) (a := none) (sCap := 0) ty T hr hx0 (by simp [view]) hy hyv rfl (by simp) (by simpa using hb)
       simpa [nz] using this
  ·cases hs
 ·rename_i nl sz' l
  split at hs
  ·rename_i hcond
   obtain ⟨rfl, hb⟩ := hcond
   cases hx with
   | c _ _ hc =>
    cases hc with
    | cl _ _ _ _ hd hcap =>
     obtain ⟨a, cap, hvx, hle, _⟩ := view_len hr hx0 (sz := sz') (l := l) (by simp [view])
     have hcl : cap = l.length := by rw [hvx] at hcap; exact hcap
     split at hs
     ·simp only [Option.some.injEq, Prod.mk.injEq] at hs
      obtain ⟨rfl, rfl⟩ := hs
      exact ⟨_, w, G, ι, nothing a _ cap hvx hle rfl, hr, hx0, Ext.refl _ _ _ _⟩
     ·rename_i y r
      simp only [Option.some.injEq, Prod.mk.injEq] at hs
      obtain ⟨rfl, rfl⟩ := hs
      have := append_fresh (xs := l) (ys := y :: r) (a := a) (sCap := cap) ty T hr hx0 (by simp [view]) hy hyv hvx (by simp; omega) (by simpa using hb)
      simpa using this
  ·cases hs
 ·rename_i l v i n
  split at hs
  ·rename_i rl v' sz' es hes
   split at hs
   ·rename_i hcond
    obtain ⟨rfl, rfl, hb⟩ := hcond
    simp only [Option.some.injEq, Prod.mk.injEq] at hs
    obtain ⟨rfl, rfl⟩ := hs
    cases rl with
    | true => exact append_own ty T hr hx hes hy hyv hb
    | false => exact append_nil ty T hr hx hes hy hyv hb
   ·cases hs
  ·cases hs
 ·cases hs
end
end Go.Ab

/-
  The engine, part i: composite values and new slices.
-/
namespace Go.Ab
section
variable {P : Program} {w : World} {G : Nat → Prop} {ι : Io} {h : Hp}
theorem wrap_id {n : Int} (h0 : -9223372036854775808 ≤ n) (h1 : n ≤ 9223372036854775807) : IntKind.i64.wrap n = n := by
 simp [IntKind.wrap, IntKind.bits, IntKind.signed]
 omega
def frzs (h : Hp) : List CV → Option (List D × Hp)
 | [] => some ([], h)
 | x :: r => match frz h x with
  | some (d, h1) => match frzs h1 r with
   | some (ds, h2) => some (d :: ds, h2)
   | none => none
  | none => none
theorem frzs_sound : ∀ {cs : List CV} {vs : List Value} {G : Nat → Prop} {h h' : Hp} {ds : List D}, HR G ι h w → vs.length = cs.length →
  (∀ (i : Nat) (v : Value) (x : CV), vs[i]? = some v → cs[i]? = some x → CR G w ι h v x) → frzs h cs = some (ds, h') →
  ∃ G', HR G' ι h' w ∧ Ext G ι h w G' ι h' w ∧ ds.length = cs.length ∧ ∀ (i : Nat) (v : Value) (x : D), vs[i]? = some v → ds[i]? = some x → DR G' w v x := by
 intro cs
 induction cs with
 | nil =>
  intro vs G h h' ds hr hl hc hf
  simp only [frzs, Option.some.injEq, Prod.mk.injEq] at hf
  obtain ⟨rfl, rfl⟩ := hf
  exact ⟨G, hr, Ext.refl _ _ _ _, rfl, by simp⟩
 | cons c cs ih =>
  intro vs G h h' ds hr hl hc hf
  cases vs with
  | nil => simp at hl
  | cons v vs =>
   simp only [frzs] at hf
   split at hf
   ·rename_i d h1 hd
    split at hf
    ·rename_i ds' h2 hds
     simp only [Option.some.injEq, Prod.mk.injEq] at hf
     obtain ⟨rfl, rfl⟩ := hf
     obtain ⟨G1, k1, k2, k3⟩ := frz_sound hr (hc 0 v c rfl rfl) hd
     obtain ⟨G2, q1, q2, q3, q4⟩ := ih k1 (by simpa using hl) (fun i v x hv hx => (hc (i + 1) v x (by simpa using hv) (by simpa using hx)).ext k3 hr) hds
     refine ⟨G2, q1, k3.trans q2, by simp [q3], fun i v' x hv hx => ?_⟩
     cases i with
     | zero => simp at hv hx; subst hv hx; exact k2.ext q2 k1
     | succ i => simp at hv hx; exact q4 i v' x hv hx
    ·cases hf
   ·cases hf
def toK : CV → Option D
 | .d x => some x
 | .cl nl sz l => some (.list nl sz l)
 | _ => none
theorem toK_sound {G : Nat → Prop} {ι : Io} {h : Hp} {w : World} {v : Value} {x : CV} {d : D} (hx : CR G w ι h v x) (hd : toK x = some d) : DR G w v d := by
 cases x with
 | d y =>
  simp only [toK, Option.some.injEq] at hd
  subst hd
  cases hx with | d _ _ h => exact h
 | cl nl sz l =>
  simp only [toK, Option.some.injEq] at hd
  subst hd
  cases hx with | cl _ _ _ _ h _ => exact h
 | _ => cases hd
def frzK (h : Hp) (x : CV) : Option (D × Hp) := match toK x with
 | some d => some (d, h)
 | none => frz h x
theorem frzK_sound {h h' : Hp} {v : Value} {x : CV} {d : D} (r : HR G ι h w) (hx : CR G w ι h v x) (hf : frzK h x = some (d, h')) :
  ∃ G', HR G' ι h' w ∧ DR G' w v d ∧ Ext G ι h w G' ι h' w := by
 unfold frzK at hf
 split at hf
 ·rename_i d' hd
  cases hf
  exact ⟨G, r, toK_sound hx hd, Ext.refl _ _ _ _⟩
 ·exact frz_sound r hx hf
def frzsK (h : Hp) : List CV → Option (List D × Hp)
 | [] => some ([], h)
 | x :: r => match frzK h x with
  | some (d, h1) => match frzsK h1 r with
   | some (ds, h2) => some (d :: ds, h2)
   | none => none
  | none => none
theorem frzsK_sound : ∀ {cs : List CV} {vs : List Value} {G : Nat → Prop} {h h' : Hp} {ds : List D}, HR G ι h w → vs.length = cs.length →
  (∀ (i : Nat) (v : Value) (x : CV), vs[i]? = some v → cs[i]? = some x → CR G w ι h v x) → frzsK h cs = some (ds, h') →
  ∃ G', HR G' ι h' w ∧ Ext G ι h w G' ι h' w ∧ ds.length = cs.length ∧ ∀ (i : Nat) (v : Value) (x : D), vs[i]? = some v → ds[i]? = some x → DR G' w v x := by
 intro cs
 induction cs with
 | nil =>
  intro vs G h h' ds hr hl hc hf
  simp only [frzsK, Option.some.injEq, Prod.mk.injEq] at hf
  obtain ⟨rfl, rfl⟩ := hf
  exact ⟨G, hr, Ext.refl _ _ _ _, rfl, by simp⟩
 | cons c cs ih =>
  intro vs G h h' ds hr hl hc hf
  cases vs with
  | nil => simp at hl
  | cons v vs =>
   simp only [frzsK] at hf
   split at hf
   ·rename_i d h1 hd
    split at hf
    ·rename_i ds' h2 hds
     simp only [Option.some.injEq, Prod.mk.injEq] at hf
     obtain ⟨rfl, rfl⟩ := hf
     obtain ⟨G1, k1, k2, k3⟩ := frzK_sound hr (hc 0 v c rfl rfl) hd
     obtain ⟨G2, q1, q2, q3, q4⟩ := ih k1 (by simpa using hl) (fun i v x hv hx => (hc (i + 1) v x (by simpa using hv) (by simpa using hx)).ext k3 hr) hds
     refine ⟨G2, q1, k3.trans q2, by simp [q3], fun i v' x hv hx => ?_⟩
     cases i with
     | zero => simp at hv hx; subst hv hx; exact k2.ext q2 k1
     | succ i => simp at hv hx; exact q4 i v' x hv hx
    ·cases hf
   ·cases hf
def frzsM (h : Hp) (cs : List CV) : Option (List D × Hp) := match Nat.ble 10 cs.length with
 | true => frzsK h cs
 | false => frzs h cs
theorem frzsM_sound {cs : List CV} {vs : List Value} {G : Nat → Prop} {h h' : Hp} {ds : List D} (hr : HR G ι h w) (hl : vs.length = cs.length)
  (hc : ∀ (i : Nat) (v : Value) (x : CV), vs[i]? = some v → cs[i]? = some x → CR G w ι h v x) (hf : frzsM h cs = some (ds, h')) :
  ∃ G', HR G' ι h' w ∧ Ext G ι h w G' ι h' w ∧ ds.length = cs.length ∧ ∀ (i : Nat) (v : Value) (x : D), vs[i]? = some v → ds[i]? = some x → DR G' w v x := by
 unfold frzsM at hf
 split at hf
 ·exact frzsK_sound hr hl hc hf
 ·exact frzs_sound hr hl hc hf
theorem foldl_set : ∀ (l : List Value) (o i : Nat) (c : Array Value), o + i + l.length ≤ c.size →
  ((l.zipIdx i).foldl (fun cs (p : Value × Nat) => cs.setIfInBounds (o + p.2) p.1) c).size = c.size ∧
  ∀ k : Nat, ((l.zipIdx i).foldl (fun cs (p : Value × Nat) => cs.setIfInBounds (o + p.2) p.1) c)[k]? = if o + i ≤ k ∧ k < o + i + l.length then l[k - (o + i)]? else c[k]? := by
 intro l
 induction l with
 | nil => intro o i c _; refine ⟨rfl, fun k => ?_⟩; rw [if_neg (by simp)]; rfl
 | cons v l ih =>
  intro o i c hc
  simp only [List.length_cons] at hc
  obtain ⟨h1, h2⟩ := ih o (i + 1) (c.setIfInBounds (o + i) v) (by simp; omega)
  simp only [List.zipIdx_cons, List.foldl_cons]
  refine ⟨by rw [h1]; simp, fun k => ?_⟩
  rw [h2 k, Array.getElem?_setIfInBounds]
  simp only [List.length_cons]
  by_cases hk : k = o + i
  ·subst hk
   rw [if_neg (by omega), if_pos rfl, if_pos (by omega)]
   simp
  ·have hk' : ¬ o + i = k := fun e => hk e.symm
   simp only [hk', if_false]
   by_cases hin : o + (i + 1) ≤ k ∧ k < o + (i + 1) + l.length
   ·rw [if_pos hin, if_pos (by omega), show k - (o + i) = (k - (o + (i + 1))) + 1 by omega]
    simp
   ·rw [if_neg hin, if_neg (by omega)]
theorem fill_one (place : Nat → Option (Nat × Nat)) (c : Array Value) (i : Nat) (v : Value) (rest : List (Nat × Value)) (o s : Nat) (hp : place i = some (o, s)) (hs : v.cells.size = s) (ho : o + s ≤ c.size) :
  ∃ c' : Array Value, Instr.fill place c ((i, v) :: rest) = Instr.fill place c' rest ∧ c'.size = c.size ∧
   ∀ k : Nat, c'[k]? = if o ≤ k ∧ k < o + s then v.cells[k - o]? else c[k]? := by
 obtain ⟨h1, h2⟩ := foldl_set v.cells.toList o 0 c (by simp; omega)
 refine ⟨((v.cells.toList.zipIdx 0).foldl (fun cs (p : Value × Nat) => cs.setIfInBounds (o + p.2) p.1) c), ?_, h1, fun k => ?_⟩
 ·simp only [Instr.fill, hp]
  rw [if_neg (by simp [hs]; omega)]
  congr 1
  rw [← Array.foldl_toList]
  simp
 ·rw [h2 k]
  simp only [Nat.add_zero, Array.length_toList, hs, Array.getElem?_toList]
def fillA (z : List CV) : List (Nat × Nat × List CV) → Option (List CV)
 | [] => some z
 | (o, s, cs) :: r => if cs.length = s ∧ o + s ≤ z.length then fillA (z.take o ++ (cs ++ z.drop (o + cs.length))) r else none
theorem fill_sound (place : Nat → Option (Nat × Nat)) : ∀ (ps : List (Nat × Value)) (as : List (Nat × Nat × List CV)) (c : Array Value) (z z' : List CV), ps.length = as.length →
  (∀ (i : Nat) (p : Nat × Value) (a : Nat × Nat × List CV), ps[i]? = some p → as[i]? = some a → place p.1 = some (a.1, a.2.1) ∧ p.2.cells.size = a.2.2.length ∧
   ∀ (j : Nat) (y : Value) (x : CV), p.2.cells[j]? = some y → a.2.2[j]? = some x → CR G w ι h y x) →
  c.size = z.length → (∀ (j : Nat) (y : Value) (x : CV), c[j]? = some y → z[j]? = some x → CR G w ι h y x) → fillA z as = some z' →
  ∃ c' : Array Value, Instr.fill place c ps = some c' ∧ c'.size = z'.length ∧ ∀ (j : Nat) (y : Value) (x : CV), c'[j]? = some y → z'[j]? = some x → CR G w ι h y x := by
 intro ps
 induction ps with
 | nil =>
  intro as c z z' hl _ hc hr hf
  cases as with
  | nil => simp only [fillA, Option.some.injEq] at hf; subst hf; exact ⟨c, rfl, hc, hr⟩
  | cons => simp at hl
 | cons p ps ih =>
  intro as c z z' hl hp hc hr hf
  cases as with
  | nil => simp at hl
  | cons a as =>
   obtain ⟨o, s, cs⟩ := a
   obtain ⟨i, v⟩ := p
   simp only [fillA] at hf
   split at hf
   ·rename_i hcond
    obtain ⟨h1, h2, h3⟩ := hp 0 (i, v) (o, s, cs) rfl rfl
    simp only at h1 h2 h3
    obtain ⟨c', q1, q2, q3⟩ := fill_one place c i v ps o s h1 (by omega) (by omega)
    rw [q1]
    refine ih as c' _ z' (by simpa using hl) (fun k p' a' hp' ha' => hp (k + 1) p' a' (by simpa using hp') (by simpa using ha')) (by rw [q2, splice_len z cs o (by omega)]; exact hc) ?_ hf
    intro j y x hy hx
    rw [splice_get z cs o j (by omega)] at hx
    rw [q3] at hy
    by_cases hin : o ≤ j ∧ j < o + cs.length
    ·rw [if_pos hin] at hx
     rw [if_pos (by omega)] at hy
     exact h3 _ y x hy hx
    ·rw [if_neg hin] at hx
     rw [if_neg (by omega)] at hy
     exact hr j y x hy hx
   ·cases hf
def fillE (sz : Nat) (es : List (List D)) : List (Nat × List D) → Option (List (List D))
 | [] => some es
 | (i, ds) :: r => if ds.length = sz ∧ i < es.length then fillE sz (es.set i ds) r else none
theorem fillE_sound {sz : Nat} : ∀ (ps : List (Nat × Value)) (as : List (Nat × List D)) (c : Array Value) (es es' : List (List D)), ps.length = as.length →
  (∀ (i : Nat) (p : Nat × Value) (a : Nat × List D), ps[i]? = some p → as[i]? = some a → p.1 = a.1 ∧ p.2.cells.size = a.2.length ∧
   ∀ (j : Nat) (y : Value) (x : D), p.2.cells[j]? = some y → a.2[j]? = some x → DR G w y x) →
  laid sz es G w c 0 → c.size = es.length * sz → fillE sz es as = some es' →
  ∃ c' : Array Value, Instr.fill (fun i => some (i * sz, sz)) c ps = some c' ∧ laid sz es' G w c' 0 ∧ c'.size = es'.length * sz ∧ es'.length = es.length := by
 intro ps
 induction ps with
 | nil =>
  intro as c es es' hl _ hla hc hf
  cases as with
  | nil => simp only [fillE, Option.some.injEq] at hf; subst hf; exact ⟨c, rfl, hla, hc, rfl⟩
  | cons => simp at hl
 | cons p ps ih =>
  intro as c es es' hl hp hla hc hf
  cases as with
  | nil => simp at hl
  | cons a as =>
   obtain ⟨i', ds⟩ := a
   obtain ⟨i, v⟩ := p
   simp only [fillE] at hf
   split at hf
   ·rename_i hcond
    obtain ⟨h1, h2, h3⟩ := hp 0 (i, v) (i', ds) rfl rfl
    simp only at h1 h2 h3
    subst h1
    have hmul : i * sz + sz ≤ es.length * sz := by
     have : (i + 1) * sz ≤ es.length * sz := Nat.mul_le_mul_right sz hcond.2
     rw [Nat.add_mul, Nat.one_mul] at this; exact this
    obtain ⟨c', q1, q2, q3⟩ := fill_one (fun i => some (i * sz, sz)) c i v ps (i * sz) sz rfl (by omega) (by omega)
    rw [q1]
    have hla' : laid sz (es.set i ds) G w c' 0 := by
     refine ⟨fun k e he => ?_, fun k e j x he hx => ?_⟩
     ·rcases get_set he with ⟨_, rfl, _⟩ | ⟨_, he'⟩
      ·exact hcond.1
      ·exact hla.1 k e he'
     ·rcases get_set he with ⟨rfl, rfl, _⟩ | ⟨hne, he'⟩
      ·have hj := get_lt hx
       have h1' : v.cells[j]? = some (v.cells[j]'(by omega)) := Array.getElem?_eq_getElem (by omega)
       refine ⟨_, ?_, h3 j _ x h1' hx⟩
       rw [q3, if_pos (by omega), show 0 + k * sz + j - k * sz = j by omega]; exact h1'
      ·obtain ⟨y, hy, hd⟩ := hla.2 k e j x he' hx
       refine ⟨y, ?_, hd⟩
       have hj : j < sz := by have := get_lt hx; rw [hla.1 k e he'] at this; exact this
       have hsep : k * sz + j < i * sz ∨ i * sz + sz ≤ k * sz + j := by
        rcases Nat.lt_or_ge k i with hlt | hge
        ·left
         have : (k + 1) * sz ≤ i * sz := Nat.mul_le_mul_right sz hlt
         rw [Nat.add_mul, Nat.one_mul] at this; omega
        ·right
         have hgt : i < k := by omega
         have : (i + 1) * sz ≤ k * sz := Nat.mul_le_mul_right sz hgt
         rw [Nat.add_mul, Nat.one_mul] at this; omega
       rw [q3, if_neg (by omega)]; exact hy
    obtain ⟨c'', r1, r2, r3, r4⟩ := ih as c' (es.set i ds) es' (by simpa using hl) (fun k p' a' hp' ha' => hp (k + 1) p' a' (by simpa using hp') (by simpa using ha')) hla' (by rw [q2]; simpa using hc) hf
    exact ⟨c'', r1, r2, r3, by simpa using r4⟩
   ·cases hf
theorem laid_zero {z : Value} {zd : List D} {sz : Nat} (n m : Nat) (hz : z.cells.size = sz) (hzd : zd.length = sz) (hrel : ∀ (j : Nat) (y : Value) (x : D), z.cells[j]? = some y → zd[j]? = some x → DR G w y x)
  (hm : n * sz ≤ m) : laid sz (List.replicate n zd) G w ((Array.range m).map (z.cells[· % z.cells.size]!)) 0 := by
 refine ⟨fun i e he => ?_, fun i e j x he hx => ?_⟩
 ·rw [List.getElem?_replicate] at he
  split at he
  ·cases he; exact hzd
  ·cases he
 ·rw [List.getElem?_replicate] at he
  split at he
  ·rename_i hi
   cases he
   have hj : j < sz := by have := get_lt hx; omega
   have h1' : z.cells[j]? = some (z.cells[j]'(by omega)) := Array.getElem?_eq_getElem (by omega)
   refine ⟨_, ?_, hrel j _ x h1' hx⟩
   have hmul : i * sz + sz ≤ n * sz := by
    have : (i + 1) * sz ≤ n * sz := Nat.mul_le_mul_right sz hi
    rw [Nat.add_mul, Nat.one_mul] at this; exact this
   have hlt : 0 + i * sz + j < m := by omega
   rw [Array.getElem?_map, Array.getElem?_range]
   have hmod : (0 + i * sz + j) % z.cells.size = j := by
    rw [hz, Nat.zero_add, Nat.mul_comm, Nat.mul_add_mod, Nat.mod_eq_of_lt hj]
   simp only [hlt, if_true, Option.map_some, hmod, Option.some.injEq]
   rw [getElem!_pos z.cells j (by omega)]
  ·cases he
def toZs : List CV → Option (List D)
 | [] => some []
 | .d x :: r => match toZs r with
  | some l => some (x :: l)
  | none => none
 | _ :: _ => none
theorem toZs_get {cs : List CV} : ∀ {ds : List D}, toZs cs = some ds → ds.length = cs.length ∧ ∀ (i : Nat) (x : CV) (d : D), cs[i]? = some x → ds[i]? = some d → x = .d d := by
 induction cs with
 | nil => intro ds h; simp only [toZs, Option.some.injEq] at h; subst h; simp
 | cons c r ih =>
  intro ds h
  cases c with
  | d x =>
   simp only [toZs] at h
   split at h
   ·rename_i l hl
    cases h
    obtain ⟨h1, h2⟩ := ih hl
    refine ⟨by simp [h1], fun i y d hy hd => ?_⟩
    cases i with
    | zero => simp at hy hd; subst hy hd; rfl
    | succ i => simp at hy hd; exact h2 i y d hy hd
   ·cases h
  | _ => simp [toZs] at h
theorem toZs_ok {h : Hp} {cs : List CV} : ∀ {ds : List D}, toZs cs = some ds → cellsOk h cs = true := by
 intro ds hd
 refine List.all_eq_true.2 fun x hx => ?_
 obtain ⟨i, hi⟩ := List.mem_iff_getElem?.1 hx
 obtain ⟨h1, h2⟩ := toZs_get hd
 have hlt := get_lt hi
 have := h2 i x _ hi (List.getElem?_eq_getElem (by omega))
 rw [this]; rfl
def zds (P : Program) (el : TypeId) : Option (List D) :=
 match P.info? el with
 | some i => match i.zero with
  | some z => match tcav P el z with
   | some av => match cells av with
    | some cs => match toZs cs with
     | some ds => if ds.length = i.size ∧ z.cells.size = i.size then some ds else none
     | none => none
    | none => none
   | none => none
  | none => none
 | none => none
theorem zds_sound {el : TypeId} {zd : List D} (hz : zds P el = some zd) : ∃ i z, P.info? el = some i ∧ i.zero = some z ∧ zd.length = i.size ∧ z.cells.size = i.size ∧
  ∀ (G : Nat → Prop) (w : World) (j : Nat) (y : Value) (x : D), z.cells[j]? = some y → zd[j]? = some x → DR G w y x := by
 unfold zds at hz
 split at hz
 ·rename_i i hi
  split at hz
  ·rename_i z hzz
   split at hz
   ·rename_i av hav
    split at hz
    ·rename_i cs hcs
     split at hz
     ·rename_i ds hds
      split at hz
      ·rename_i hcond
       cases hz
       refine ⟨i, z, hi, hzz, hcond.1, hcond.2, fun G w j y x hy hx => ?_⟩
       obtain ⟨hdl, hdg⟩ := toZs_get hds
       have hrel := (tcav_sound hav G w [] []).cells hcs (toZs_ok hds)
       have hj : j < cs.length := by have := get_lt hx; omega
       have h2' : cs[j]? = some cs[j] := List.getElem?_eq_getElem hj
       have hcr := hrel.2 j y _ hy h2'
       rw [hdg j _ x h2' hx] at hcr
       cases hcr with | d _ _ hd => exact hd
      ·cases hz
     ·cases hz
    ·cases hz
   ·cases hz
  ·cases hz
 ·cases hz
theorem s_mks {t el : TypeId} {k k' : IntKind} {ln cp : Int} {zd : List D} {ti : TypeInfo} (hr : HR G ι h w) (hu : P.underlying t = some (.slice el)) (hz : zds P el = some zd) (hi : P.info? el = some ti)
  (h0 : 0 ≤ ln) (h1 : ln ≤ cp) (hb : cp.toNat * ti.bytes ≤ 140737488355328) (hc : cp ≤ 9223372036854775807) :
  ∃ v w' G' ι', (Instr.makeSlice t (.int k ln) (.int k' cp)).run P w = .ok v w' ∧ HR G' ι' (h ++ [.da true 0 ti.size (List.replicate ln.toNat zd)]) w' ∧
   VR G' w' ι' (h ++ [.da true 0 ti.size (List.replicate ln.toNat zd)]) v (.c (.arr h.length 0 0 ln.toNat)) ∧ Ext G ι h w G' ι' (h ++ [.da true 0 ti.size (List.replicate ln.toNat zd)]) w' := by
 obtain ⟨i, z, g1, g2, g3, g4, g5⟩ := zds_sound hz
 rw [hi] at g1; cases g1
 have hwl : IntKind.i64.wrap ln = ln := wrap_id (by omega) (by omega)
 have hwc : IntKind.i64.wrap cp = cp := wrap_id (by omega) (by omega)
 have hbI : ¬ (2 : Int) ^ 48 < (ti.bytes : Int) * cp := by
  have : (ti.bytes : Int) * cp = ((cp.toNat * ti.bytes : Nat) : Int) := by
   rw [Int.natCast_mul, Int.toNat_of_nonneg (by omega), Int.mul_comm]
  rw [this]; omega
 have hn : (ln.toNat) * ti.size ≤ cp.toNat * ti.size := Nat.mul_le_mul_right _ (by omega)
 have hl := laid_zero (G := G) (w := w) ln.toNat (cp.toNat * ti.size) g4 g3 (g5 G w) hn
 obtain ⟨q1, q2, q3⟩ := new_da (n := ln.toNat) (cap := cp.toNat) (k := ln.toNat) el hr hl (by simp) (by omega) (by simp) (by simp) (by simp; omega)
 refine ⟨_, _, G, _, ?_, q1, q2, q3⟩
 have e1 : ¬ cp < 0 := by omega
 have e2 : ¬ ln < 0 := by omega
 have e3 : ¬ cp < ln := by omega
 simp only [Instr.makeSlice, Sem.run_bind, r_und hu, Result.andThen_ok, asInt, asIntOf, Sem.run_pure, r_info hi, hwl, hwc, Sem.run_ite, r_size hi, run_askRoom]
 simp only [gt_iff_lt, e1, hbI, e2, e3, decide_false, Bool.or_self, Bool.false_eq_true, if_false]
 by_cases hz0 : cp.toNat * ti.size = 0
 ·simp only [hz0, if_true, Result.andThen_ok, newRow, Sem.run_bind, run_newObj, Sem.run_pure]
  have : ∀ f : Nat → Value, Array.map f (Array.range 0) = #[] := fun f => by simp
  simp [push, this]
 ·simp only [hz0, if_false, r_zero hi g2, Result.andThen_ok, newRow, Sem.run_bind, run_newObj, Sem.run_pure]
  rfl
end
end Go.Ab

