/-
  The engine, part f: runs of the model's operations on related values.
-/
import Derived.Test.YtjaodmgeonfkiaaEe
import GoSem.Step
namespace Go.Ab

section
variable {P : Program} {w : World}

theorem r_und {t : TypeId} {d : TypeDesc} (h : P.underlying t = some d) : (underlying t).run P w = .ok d w := by
  simp [underlying, h]
theorem r_info {t : TypeId} {i : TypeInfo} (h : P.info? t = some i) : (typeInfo t).run P w = .ok i w := by
  simp [typeInfo, h]
theorem r_size {t : TypeId} {i : TypeInfo} (h : P.info? t = some i) : (sizeOf t).run P w = .ok i.size w := by
  simp [sizeOf, r_info h]
theorem r_zero {t : TypeId} {i : TypeInfo} {z : Value} (h : P.info? t = some i) (hz : i.zero = some z) : (zeroValue t).run P w = .ok z w := by
  simp [zeroValue, r_info h, hz]

/-- is a type an aggregate, and of how many cells -/
def aggD : TypeDesc → Bool
  | .struct _ => true
  | .array _ _ => true
  | _ => false

def ldk (P : Program) (t : TypeId) : Option (Option Nat) :=
  match P.underlying t with
  | some d => if aggD d then (P.info? t).map fun i => some i.size else some none
  | none => none

theorem r_isAgg {t : TypeId} {d : TypeDesc} (hu : P.underlying t = some d) : (isAgg t).run P w = .ok (aggD d) w := by
  simp only [isAgg, Sem.run_bind, r_und hu, Result.andThen_ok]
  cases d <;> rfl

theorem ldk_some {t : TypeId} {n : Nat} (h : ldk P t = some (some n)) : (isAgg t).run P w = .ok true w ∧ (sizeOf t).run P w = .ok n w := by
  unfold ldk at h
  split at h
  · rename_i d hu
    split at h
    · rename_i ha
      simp only [Option.map_eq_some_iff, Option.some.injEq] at h
      obtain ⟨i, hi, rfl⟩ := h
      exact ⟨by rw [r_isAgg hu, ha], r_size hi⟩
    · cases h
  · cases h

theorem ldk_none {t : TypeId} (h : ldk P t = some none) : (isAgg t).run P w = .ok false w := by
  unfold ldk at h
  split at h
  · rename_i d hu
    split at h
    · simp at h
    · rename_i ha
      rw [r_isAgg hu]; simpa using ha
  · cases h

variable {G : Nat → Prop} {ι : Io} {h : Hp}

theorem s_ld1 {t : TypeId} {p : Value} {pv : AV} {c : CV} {cs : List CV} (hr : HR G ι h w) (hp : VR G w ι h p pv) (hk : ldk P t = some none) (hd : rd h pv = some (c :: cs)) :
    ∃ v, (Instr.loadAt t p).run P w = .ok v w ∧ VR G w ι h v (.c c) := by
  obtain ⟨b, o, rfl, hc⟩ := rd_sound hr hp hd
  obtain ⟨y, hy, hcr⟩ := hc 0 c rfl
  refine ⟨y, ?_, .c _ _ hcr⟩
  simp only [Nat.add_zero] at hy
  simp [Instr.loadAt, Instr.sureAddr, loadVar, ldk_none hk, hy]

theorem s_ldn {t : TypeId} {p : Value} {pv : AV} {cs : List CV} {n : Nat} (hr : HR G ι h w) (hp : VR G w ι h p pv) (hk : ldk P t = some (some n)) (hd : rd h pv = some cs) (hn : n ≤ cs.length) :
    ∃ v, (Instr.loadAt t p).run P w = .ok v w ∧ VR G w ι h v (.agg (cs.take n)) := by
  obtain ⟨b, o, rfl, hc⟩ := rd_sound hr hp hd
  obtain ⟨vs, h1, h2, h3⟩ := loadCells_sound P hc hn
  obtain ⟨k1, k2⟩ := ldk_some (w := w) hk
  refine ⟨.agg vs, ?_, .agg _ _ (by simp; omega) fun i v x hv hx => ?_⟩
  · simp [Instr.loadAt, Instr.sureAddr, loadVar, k1, k2, h1]
  · rw [List.getElem?_take] at hx
    split at hx
    · exact h3 i v x hv hx
    · cases hx

theorem s_st {t : TypeId} {i : TypeInfo} {p v : Value} {pv xv : AV} {cs : List CV} {h' : Hp} (hr : HR G ι h w) (hp : VR G w ι h p pv) (hx : VR G w ι h v xv) (hi : P.info? t = some i)
    (hc : cells xv = some cs) (hs : cellsOk h cs = true) (hn : cs.length = i.size) (hw : wr h pv cs = some h' ∨ wrd h pv cs = some h') :
    ∃ w', (Instr.storeAt t p v).run P w = .ok () w' ∧ HR G ι h' w' ∧ Ext G ι h w G ι h' w' := by
  have hsz := (hx.cells hc hs).1
  have key : ∃ b o w', p = .pointer (some ⟨b, o, none⟩) ∧ (storeCells ⟨b, o, none⟩ v.cells.toList).run P w = .ok () w' ∧ HR G ι h' w' ∧ Ext G ι h w G ι h' w' := by
    rcases hw with hw | hw
    · exact wr_sound P hr hp hx hc hs hw
    · exact wrd_sound P hr hp hx hc hw
  obtain ⟨b, o, w', rfl, h1, h2, h3⟩ := key
  refine ⟨w', ?_, h2, h3⟩
  simp [Instr.storeAt, Instr.sureAddr, storeVar, r_size hi, hsz, hn, h1]

theorem s_fa {s : TypeId} {fs : Array Field} {f : Nat} {fl : Field} {i : TypeInfo} {p : Value} {cs : List D} (hp : VR G w ι h p (.c (.rp cs))) (hu : P.underlying s = some (.struct fs))
    (hf : fs[f]? = some fl) (hi : P.info? fl.type = some i) (hz : i.size ≠ 0) :
    ∃ v, (Instr.fieldAt s p f).run P w = .ok v w ∧ VR G w ι h v (.c (.rp (cs.drop fl.offset))) := by
  cases hp with
  | c _ _ hc =>
    cases hc with
    | rp b o _ hG hc =>
      refine ⟨.pointer (some ⟨b, o + fl.offset, none⟩), ?_, .c _ _ (.rp b _ _ hG fun j x hx => ?_)⟩
      · simp [Instr.fieldAt, Instr.sureAddr, r_und hu, hf, fieldPlace, r_size hi, hz, add_none]
      · rw [List.getElem?_drop] at hx
        obtain ⟨v, h1, h2⟩ := hc _ x hx
        exact ⟨v, by rw [Nat.add_assoc]; exact h1, h2⟩

theorem off_add {k : Blk} {v i j o n : Nat} (h : k.off v i (j + n) = some o) : ∃ o', k.off v i j = some o' ∧ o = o' + n := by
  cases k with
  | bx cs => simp only [Blk.off] at h ⊢; split at h <;> simp_all
  | da rl v' sz es => simp only [Blk.off] at h ⊢; split at h <;> simp_all; omega
  | dead => simp [Blk.off] at h
  | mp => simp [Blk.off] at h
  | mi => simp [Blk.off] at h

theorem off_some {k : Blk} {v i j o n : Nat} (h : k.off v i j = some o) : k.off v i (j + n) = some (o + n) := by
  cases k with
  | bx cs => simp only [Blk.off] at h ⊢; split at h <;> simp_all
  | da rl v' sz es => simp only [Blk.off] at h ⊢; split at h <;> simp_all; omega
  | dead => simp [Blk.off] at h
  | mp => simp [Blk.off] at h
  | mi => simp [Blk.off] at h

/-- a pointer that is known: its block, its place -/
theorem ptr_at {p : Value} {l v i j : Nat} (hp : CR G w ι h p (.ptr l v i j)) (hs : solid h (.ptr l v i j) = true) :
    ∃ blk b o k, h[l]? = some blk ∧ blk.allows v = true ∧ ι[l]? = some (b, o) ∧ blk.off v i j = some k ∧ p = .pointer (some ⟨b, o + k, none⟩) := by
  cases hp with
  | ptr _ _ _ _ _ blk hb ha hk =>
    simp only [solid, hb, Option.isSome_iff_exists] at hs
    obtain ⟨k, hk'⟩ := hs
    obtain ⟨b, o, h1, h2⟩ := hk k hk'
    exact ⟨blk, b, o, k, hb, ha, h1, hk', h2⟩

theorem s_fap {s : TypeId} {fs : Array Field} {f : Nat} {fl : Field} {ti : TypeInfo} {p : Value} {l v i j : Nat} (hp : VR G w ι h p (.c (.ptr l v i j))) (hs : solid h (.ptr l v i j) = true)
    (hu : P.underlying s = some (.struct fs)) (hf : fs[f]? = some fl) (hi : P.info? fl.type = some ti) (hz : ti.size ≠ 0) :
    ∃ v', (Instr.fieldAt s p f).run P w = .ok v' w ∧ VR G w ι h v' (.c (.ptr l v i (j + fl.offset))) := by
  cases hp with
  | c _ _ hc =>
    obtain ⟨blk, b, o, k, h1, h2, h3, h4, rfl⟩ := ptr_at hc hs
    refine ⟨.pointer (some ⟨b, o + k + fl.offset, none⟩), ?_, .c _ _ (.ptr _ _ _ _ _ blk h1 h2 fun k' hk' => ⟨b, o, h3, ?_⟩)⟩
    · simp [Instr.fieldAt, Instr.sureAddr, r_und hu, hf, fieldPlace, r_size hi, hz, add_none]
    · rw [off_some h4] at hk'; cases hk'; simp [Nat.add_assoc]

/-- the elements of a slice, whatever kind it is of -/
def view (h : Hp) : AV → Option (Nat × List (List D))
  | .c (.d (.list _ sz l)) => some (sz, l)
  | .c (.cl _ sz l) => some (sz, l)
  | .c (.arr l v i n) => match h[l]? with
    | some (.da _ v' sz es) => if v' = v then some (sz, (es.drop i).take n) else none
    | _ => none
  | _ => none

theorem view_len {v : Value} {av : AV} {sz : Nat} {l : List (List D)} (hr : HR G ι h w) (hv : VR G w ι h v av) (hw : view h av = some (sz, l)) : ∃ a cap, v = .slice a l.length cap ∧ l.length ≤ cap ∧ l.length ≤ 9223372036854775807 := by
  cases hv with
  | agg => simp [view] at hw
  | tup => simp [view] at hw
  | c _ x hc =>
    cases hc with
    | u => simp [view] at hw
    | rp => simp [view] at hw
    | ptr => simp [view] at hw
    | fn => simp [view] at hw
    | mp => simp [view] at hw
    | it => simp [view] at hw
    | d _ x hd =>
      cases hd with
      | nils => simp only [view, Option.some.injEq, Prod.mk.injEq] at hw; obtain ⟨_, rfl⟩ := hw; exact ⟨_, _, rfl, Nat.le_refl _, by simp⟩
      | emp => simp only [view, Option.some.injEq, Prod.mk.injEq] at hw; obtain ⟨_, rfl⟩ := hw; exact ⟨_, _, rfl, Nat.le_refl _, by simp⟩
      | sl b off cap sz l g hG hcap hmax => simp only [view, Option.some.injEq, Prod.mk.injEq] at hw; obtain ⟨_, rfl⟩ := hw; exact ⟨_, _, rfl, hcap, hmax⟩
      | _ => simp [view] at hw
    | cl _ nl sz l hd _ =>
      simp only [view, Option.some.injEq, Prod.mk.injEq] at hw
      obtain ⟨rfl, rfl⟩ := hw
      cases hd with
      | nils => exact ⟨_, _, rfl, Nat.le_refl _, by simp⟩
      | emp => exact ⟨_, _, rfl, Nat.le_refl _, by simp⟩
      | sl b off cap sz l g hG hcap hmax => exact ⟨_, _, rfl, hcap, hmax⟩
    | arr _ l' ver i n blk hb ha hk hk0 =>
      simp only [view, hb] at hw
      cases blk with
      | bx => simp at hw
      | dead => simp at hw
      | mp => simp at hw
      | mi => simp at hw
      | da rl v' sz' es =>
        simp only at hw
        split at hw
        · rename_i hv; subst hv
          cases hw
          cases rl with
          | false => obtain ⟨_, hn, rfl⟩ := hk0 sz es rfl; subst hn; exact ⟨none, 0, by simp, by simp, by simp⟩
          | true =>
          obtain ⟨b, o, cap, h1, h2, h3, h4, h5⟩ := hk sz es rfl
          have hlen : ((es.drop i).take n).length = n := by simp; omega
          obtain ⟨_, _, _, _, _, hmx, _⟩ := hr.blk l' _ hb
          rw [hlen]
          rcases h5 with rfl | ⟨hn, hc, o', rfl⟩
          · exact ⟨_, _, rfl, h3, by omega⟩
          · subst hn; exact ⟨_, _, rfl, Nat.le_refl _, by omega⟩
        · cases hw

/-- the cells of a slice's first elements, as 'append' and 'copy' read them -/
theorem view_cells {v : Value} {av : AV} {sz : Nat} {l : List (List D)} (hr : HR G ι h w) (hv : VR G w ι h v av) (hw : view h av = some (sz, l)) :
    ∃ vs : Array Value, (Builtin.firstCells sz l.length v).run P w = .ok vs w ∧ vs.size = l.length * sz ∧ (∀ (i : Nat) (e : List D), l[i]? = some e → e.length = sz) ∧
      ∀ (i : Nat) (e : List D) (j : Nat) (x : D), l[i]? = some e → e[j]? = some x → ∃ y, vs[i * sz + j]? = some y ∧ DR G w y x := by
  have mk : ∀ (b o : Nat), (∀ (i : Nat) (e : List D), l[i]? = some e → e.length = sz) →
      (∀ (i : Nat) (e : List D) (j : Nat) (x : D), l[i]? = some e → e[j]? = some x → ∃ y, w.cell? ⟨b, o + i * sz + j, none⟩ = some y ∧ DR G w y x) →
      ∃ vs : Array Value, (loadCells ⟨b, o, none⟩ (l.length * sz)).run P w = .ok vs w ∧ vs.size = l.length * sz ∧
      ∀ (i : Nat) (e : List D) (j : Nat) (x : D), l[i]? = some e → e[j]? = some x → ∃ y, vs[i * sz + j]? = some y ∧ DR G w y x := by
    intro b o hsz hc
    have hcell : ∀ k, k < l.length * sz → w.cell? ⟨b, o + (0 + k), none⟩ = some ((w.cell? ⟨b, o + (0 + k), none⟩).getD undef) := by
      intro k hk
      have hpos : 0 < sz := by rcases Nat.eq_zero_or_pos sz with h0 | h0; · subst h0; omega
                               · exact h0
      have hi : k / sz < l.length := by rw [Nat.div_lt_iff_lt_mul hpos]; exact hk
      have he : l[k / sz]? = some l[k / sz] := List.getElem?_eq_getElem hi
      have hj : k % sz < (l[k / sz]).length := by rw [hsz _ _ he]; exact Nat.mod_lt _ hpos
      obtain ⟨y, hy, _⟩ := hc (k / sz) _ (k % sz) _ he (List.getElem?_eq_getElem hj)
      have hdm : k / sz * sz + k % sz = k := by have := Nat.div_add_mod k sz; rw [Nat.mul_comm] at this; exact this
      rw [show o + k / sz * sz + k % sz = o + (0 + k) by omega] at hy
      rw [hy]; rfl
    have hrun := loadCells_run P w b o (fun k => (w.cell? ⟨b, o + k, none⟩).getD undef) (l.length * sz) 0 #[] hcell
    refine ⟨_, hrun, by simp, fun i e j x he hx => ?_⟩
    obtain ⟨y, hy, hd⟩ := hc i e j x he hx
    refine ⟨y, ?_, hd⟩
    have hil := get_lt he
    have hjl : j < sz := by have := get_lt hx; rw [hsz i e he] at this; exact this
    have hlt : i * sz + j < l.length * sz := by
      have : (i + 1) * sz ≤ l.length * sz := Nat.mul_le_mul_right sz hil
      rw [Nat.add_mul, Nat.one_mul] at this; omega
    simp only [Array.empty_append]
    rw [Array.getElem?_eq_getElem (by simpa using hlt)]
    simp only [Array.getElem_ofFn, Nat.zero_add]
    rw [← Nat.add_assoc, hy]; rfl
  have dr : ∀ (nl : Bool) (sz' : Nat) (l' : List (List D)), DR G w v (.list nl sz' l') → sz' = sz → l' = l → ∃ vs : Array Value, (Builtin.firstCells sz l.length v).run P w = .ok vs w ∧ vs.size = l.length * sz ∧ (∀ (i : Nat) (e : List D), l[i]? = some e → e.length = sz) ∧
      ∀ (i : Nat) (e : List D) (j : Nat) (x : D), l[i]? = some e → e[j]? = some x → ∃ y, vs[i * sz + j]? = some y ∧ DR G w y x := by
    intro nl sz' l' hd h1 h2
    cases hd with
    | nils => subst h2; exact ⟨#[], by simp [Builtin.firstCells], by simp, by simp, by simp⟩
    | emp => subst h2; exact ⟨#[], by simp [Builtin.firstCells, loadCells, loadCellsFrom], by simp, by simp, by simp⟩
    | sl b off cap _ _ g hG hcap hmax hsz hc hrr =>
      subst h1 h2
      obtain ⟨vs, k1, k2, k3⟩ := mk b off hsz (fun i e j x he hx => ⟨_, hc i e j x he hx, hrr i e j x he hx⟩)
      exact ⟨vs, by simpa [Builtin.firstCells] using k1, k2, hsz, k3⟩
  cases hv with
  | agg => simp [view] at hw
  | tup => simp [view] at hw
  | c _ x hcx =>
    cases hcx with
    | u => simp [view] at hw
    | rp => simp [view] at hw
    | ptr => simp [view] at hw
    | fn => simp [view] at hw
    | mp => simp [view] at hw
    | it => simp [view] at hw
    | d _ x hd =>
      cases x with
      | list nl sz' l' => simp only [view, Option.some.injEq, Prod.mk.injEq] at hw; exact dr nl sz' l' hd hw.1 hw.2
      | _ => simp [view] at hw
    | cl _ nl sz' l' hd _ => simp only [view, Option.some.injEq, Prod.mk.injEq] at hw; exact dr nl sz' l' hd hw.1 hw.2
    | arr _ l' ver i n blk hb ha hk hk0 =>
      simp only [view, hb] at hw
      cases blk with
      | bx => simp at hw
      | dead => simp at hw
      | mp => simp at hw
      | mi => simp at hw
      | da rl v' sz' es =>
        simp only at hw
        split at hw
        · rename_i hv; subst hv
          cases hw
          cases rl with
          | false => obtain ⟨_, hn, rfl⟩ := hk0 sz es rfl; subst hn; exact ⟨#[], by simp [Builtin.firstCells], by simp, by simp, by simp⟩
          | true =>
          obtain ⟨b, o, cap, h1, h2, h3, h4, h5⟩ := hk sz es rfl
          obtain ⟨b', o', c, t, fr, hmx, g1, g2, g3, g4, g5, g6⟩ := hr.blk l' _ hb
          rw [h1] at g1; cases g1
          have hsz : ∀ (p : Nat) (e : List D), ((es.drop i).take n)[p]? = some e → e.length = sz := by
            intro p e he
            have hp := get_lt he
            simp only [List.length_take, List.length_drop] at hp
            rw [List.getElem?_take, if_pos (by omega), List.getElem?_drop] at he
            exact g5 _ e he
          rcases h5 with rfl | ⟨hn, hc, o', rfl⟩
          · obtain ⟨vs, k1, k2, k3⟩ := mk b (o + i * sz) hsz (fun p e q x he hx => by
              have hp := get_lt he
              simp only [List.length_take, List.length_drop] at hp
              rw [List.getElem?_take, if_pos (by omega), List.getElem?_drop] at he
              obtain ⟨y, hy, hd⟩ := g6 _ e q x he hx
              refine ⟨y, ?_, hd⟩
              rw [cell_of g2, ← hy]
              congr 1; rw [Nat.add_mul]; omega)
            exact ⟨vs, by simpa [Builtin.firstCells] using k1, k2, hsz, k3⟩
          · subst hn
            exact ⟨#[], by simp [Builtin.firstCells, loadCells, loadCellsFrom], by simp, hsz, by simp⟩
        · cases hw

end
end Go.Ab
