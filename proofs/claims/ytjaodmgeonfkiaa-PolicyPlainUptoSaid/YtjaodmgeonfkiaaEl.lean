/-
  The engine, part l: each operation does in the model what its abstract step says.
-/
import Derived.Test.YtjaodmgeonfkiaaEk
namespace Go.Ab

section
variable {P : Program} {N : Nat} {G : Nat → Prop} {ι : Io} {e : Env} {h h' : Hp} {a : Act} {w : World} {o : Oper} {av : AV}

theorem bad_step {x : AV × Hp} : astep e h .bad ≠ some x := by simp [astep]

theorem inv_d {v : Value} {x : D} (hv : VR G w ι h v (.c (.d x))) : DR G w v x := by
  cases hv with
  | c _ _ hc => cases hc with
    | d _ _ hd => exact hd
theorem inv_bool {v : Value} {b : Bool} (hv : VR G w ι h v (.c (.d (.bool b)))) : v = .bool b := by
  cases inv_d hv; rfl
theorem inv_int {v : Value} {k : IntKind} {n : Int} (hv : VR G w ι h v (.c (.d (.int k n)))) : v = .int k n := by
  cases inv_d hv; rfl
theorem inv_str {v : Value} {l : List UInt8} (hv : VR G w ι h v (.c (.d (.str l)))) : ∃ s : ByteArray, v = .string s ∧ s.data.toList = l := by
  cases inv_d hv; exact ⟨_, rfl, rfl⟩
theorem inv_agg {v : Value} {l : List CV} (hv : VR G w ι h v (.agg l)) : ∃ cs : Array Value, v = .agg cs ∧ cs.size = l.length ∧
    ∀ (i : Nat) (v : Value) (x : CV), cs[i]? = some v → l[i]? = some x → CR G w ι h v x := by
  cases hv with
  | agg cs _ hn hc => exact ⟨cs, rfl, hn, hc⟩
theorem inv_tup {v : Value} {l : List AV} (hv : VR G w ι h v (.tup l)) : ∃ cs : Array Value, v = .tuple cs ∧ cs.size = l.length ∧
    ∀ (i : Nat) (v : Value) (x : AV), cs[i]? = some v → l[i]? = some x → VR G w ι h v x := by
  cases hv with
  | tup cs _ hn hc => exact ⟨cs, rfl, hn, hc⟩

theorem inv_c {v : Value} {x : CV} (hv : VR G w ι h v (.c x)) : CR G w ι h v x := by
  cases hv with
  | c _ _ hc => exact hc
theorem inv_rp {v : Value} {cs : List D} (hv : VR G w ι h v (.c (.rp cs))) : ∃ b o, v = .pointer (some ⟨b, o, none⟩) ∧ G b ∧
    ∀ (j : Nat) (x : D), cs[j]? = some x → ∃ v, w.cell? ⟨b, o + j, none⟩ = some v ∧ DR G w v x := by
  cases inv_c hv with
  | rp b o _ hG hc => exact ⟨b, o, rfl, hG, hc⟩

theorem l_mv {x : Operand} (r : Rel N G ι e h a w) (hop : o.op = .move x ∨ o.op = .assign x) (hs : astep e h (compOp P o) = some (av, h')) :
    OpRes G ι h w av h' ((execOp a.eval o).run P w) := by
  have key : ∀ y, cx P o.type x = some y → ev e y = av → h = h' → (execOp a.eval o).run P w = .ok (.value (a.eval x)) w → OpRes G ι h w av h' ((execOp a.eval o).run P w) := by
    intro y hy h1 h2 h3
    subst h1 h2
    exact OpRes.value r.hr h3 (cx_sound hy r)
  rcases hop with hop | hop
  all_goals
    simp only [compOp, hop] at hs
    split at hs
    · rename_i y hy
      simp only [astep, Option.some.injEq, Prod.mk.injEq] at hs
      exact key y hy hs.1 hs.2 (by simp [execOp, hop])
    · exact absurd hs bad_step

theorem l_pick {c x y : Operand} (r : Rel N G ι e h a w) (hop : o.op = .pick c x y) (hs : astep e h (compOp P o) = some (av, h')) :
    OpRes G ι h w av h' ((execOp a.eval o).run P w) := by
  simp only [compOp, hop] at hs
  split at hs
  · rename_i c' x' y' hc hx hy
    simp only [astep] at hs
    split at hs
    · rename_i t ht
      simp only [Option.some.injEq, Prod.mk.injEq] at hs
      obtain ⟨rfl, rfl⟩ := hs
      have h1 := cx_sound hc r
      rw [ht] at h1
      have hb := inv_bool h1
      refine OpRes.value (v := if t then a.eval x else a.eval y) r.hr (by simp [execOp, hop, hb, asBool]) ?_
      cases t
      · exact cx_sound hy r
      · exact cx_sound hx r
    · cases hs
  · exact absurd hs bad_step

theorem box_res {v : Value} {x : X} (t : TypeId) (hr : HR G ι h w) (hv : VR G w ι h v (ev e x)) (hs : astep e h (.box x) = some (av, h')) :
    OpRes G ι h w av h' ((do pure (.value (.pointer (some (← newVar t v)))) : Sem Next).run P w) := by
  simp only [astep] at hs
  split at hs
  · rename_i cs hcs
    split at hs
    · rename_i hok
      simp only [Option.some.injEq, Prod.mk.injEq] at hs
      obtain ⟨rfl, rfl⟩ := hs
      obtain ⟨k1, k2, k3⟩ := box_sound hr hv hcs hok t
      exact ⟨_, _, G, _, .inl (by simp [newVar, newRow]; rfl), k1, k2, k3⟩
    · cases hs
  · cases hs

theorem l_alloc {el : TypeId} (r : Rel N G ι e h a w) (hop : o.op = .alloc el) (hs : astep e h (compOp P o) = some (av, h')) :
    OpRes G ι h w av h' ((execOp a.eval o).run P w) := by
  simp only [compOp, hop] at hs
  split at hs
  · rename_i i hi
    split at hs
    · rename_i z hz
      split at hs
      · rename_i v hv
        have := box_res (P := P) el r.hr (e := e) (x := .k v) (tcav_sound hv G w ι h) hs
        simp only [execOp, hop, Instr.alloc, Sem.run_bind, r_zero hi hz, Result.andThen_ok] at this ⊢
        exact this
      · exact absurd hs bad_step
    · exact absurd hs bad_step
  · exact absurd hs bad_step

theorem l_box {el : TypeId} {x : Operand} (r : Rel N G ι e h a w) (hop : o.op = .box el x) (hs : astep e h (compOp P o) = some (av, h')) :
    OpRes G ι h w av h' ((execOp a.eval o).run P w) := by
  simp only [compOp, hop] at hs
  split at hs
  · rename_i y hy
    have := box_res (P := P) el r.hr (cx_sound hy r) hs
    simp only [execOp, hop, Instr.box, Sem.run_bind, newVar, newRow, run_newObj, Result.andThen_ok, Sem.run_pure] at this ⊢
    exact this
  · exact absurd hs bad_step

theorem l_load {t : TypeId} {x : Operand} (r : Rel N G ι e h a w) (hop : o.op = .load t x) (hs : astep e h (compOp P o) = some (av, h')) :
    OpRes G ι h w av h' ((execOp a.eval o).run P w) := by
  simp only [compOp, hop] at hs
  split at hs
  · rename_i n y hn hy
    have hv := cx_sound hy r
    cases n with
    | none =>
      simp only [astep] at hs
      split at hs
      · rename_i c cs hrd
        simp only [Option.some.injEq, Prod.mk.injEq] at hs
        obtain ⟨rfl, rfl⟩ := hs
        obtain ⟨v, k1, k2⟩ := s_ld1 (P := P) r.hr hv hn hrd
        exact OpRes.value r.hr (by simp [execOp, hop, k1]) k2
      · cases hs
    | some m =>
      simp only [astep] at hs
      split at hs
      · rename_i cs hrd
        split at hs
        · rename_i hm
          simp only [Option.some.injEq, Prod.mk.injEq] at hs
          obtain ⟨rfl, rfl⟩ := hs
          obtain ⟨v, k1, k2⟩ := s_ldn (P := P) r.hr hv hn hrd hm
          exact OpRes.value r.hr (by simp [execOp, hop, k1]) k2
        · cases hs
      · cases hs
  · exact absurd hs bad_step

theorem l_store {t : TypeId} {x y : Operand} (r : Rel N G ι e h a w) (hop : o.op = .store t x y) (hs : astep e h (compOp P o) = some (av, h')) :
    OpRes G ι h w av h' ((execOp a.eval o).run P w) := by
  simp only [compOp, hop] at hs
  split at hs
  · rename_i i x' y' hi hx hy
    simp only [astep] at hs
    split at hs
    · rename_i cs hcs
      split at hs
      · rename_i hcond
        have key : ∀ h1, (wr h (ev e x') cs = some h1 ∨ wrd h (ev e x') cs = some h1) → OpRes G ι h w (.c .u) h1 ((execOp a.eval o).run P w) := by
          intro h1 hw
          obtain ⟨w', k1, k2, k3⟩ := s_st (P := P) r.hr (cx_sound hx r) (cx_sound hy r) hi hcs hcond.2 hcond.1 hw
          exact ⟨undef, w', G, ι, .inr ⟨by simp [execOp, hop, k1], rfl⟩, k2, .c _ _ (.u _), k3⟩
        split at hs
        · rename_i h1 hw
          simp only [Option.some.injEq, Prod.mk.injEq] at hs
          obtain ⟨rfl, rfl⟩ := hs
          exact key _ (.inl hw)
        · simp only [Option.map_eq_some_iff, Prod.mk.injEq] at hs
          obtain ⟨h1, hw, rfl, rfl⟩ := hs
          exact key _ (.inr hw)
      · cases hs
    · cases hs
  · exact absurd hs bad_step

theorem l_nilc {x : Operand} (r : Rel N G ι e h a w) (hop : o.op = .nilCheck x) (hs : astep e h (compOp P o) = some (av, h')) :
    OpRes G ι h w av h' ((execOp a.eval o).run P w) := by
  simp only [compOp, hop] at hs
  split at hs
  · rename_i y hy
    have hv := cx_sound hy r
    simp only [astep] at hs
    split at hs
    · rename_i cs hcs
      simp only [Option.some.injEq, Prod.mk.injEq] at hs
      obtain ⟨rfl, rfl⟩ := hs
      rw [hcs] at hv
      obtain ⟨b, o', hp, _, _⟩ := inv_rp hv
      exact OpRes.value r.hr (by simp [execOp, hop, hp]) (hp ▸ hv)
    · rename_i l v i j hcs
      split at hs
      · rename_i hsol
        simp only [Option.some.injEq, Prod.mk.injEq] at hs
        obtain ⟨rfl, rfl⟩ := hs
        rw [hcs] at hv
        obtain ⟨blk, b, o', k, _, _, _, _, hp⟩ := ptr_at (inv_c hv) hsol
        exact OpRes.value r.hr (by simp [execOp, hop, hp]) (hp ▸ hv)
      · cases hs
    · cases hs
  · exact absurd hs bad_step

end
end Go.Ab
