/-
  The engine, part o: built-in functions, composite values; every operation.
-/
import Derived.Test.YtjaodmgeonfkiaaEn
import Derived.Test.YtjaodmgeonfkiaaEmn
namespace Go.Ab

section
variable {P : Program} {N : Nat} {G : Nat → Prop} {ι : Io} {e : Env} {h h' : Hp} {a : Act} {w : World} {o : Oper} {av : AV}

theorem arr_of_list {α : Type} {a : Array α} {l : List α} (h : a.toList = l) : a = l.toArray := by
  rw [← h]

theorem exec_len {c : Call} {x : Operand} {t : TypeId} (hop : o.op = .call c) (hc : c.callee = .builtin .len) (ha : c.args.toList = [x]) (ht : c.argTypes.toList = [t]) :
    (execOp a.eval o).run P w = ((Builtin.len_ #[t] o.type #[a.eval x]).run P w).andThen fun v w' => .ok (.value v) w' := by
  rw [execOp, hop]
  simp only [resolve, hc, arr_of_list ha, arr_of_list ht, List.map_toArray, List.map_cons, List.map_nil, Sem.run_bind, Sem.run_pure, Result.andThen_ok, invoke, builtin]

theorem exec_cap {c : Call} {x : Operand} {t : TypeId} (hop : o.op = .call c) (hc : c.callee = .builtin .cap) (ha : c.args.toList = [x]) (ht : c.argTypes.toList = [t]) :
    (execOp a.eval o).run P w = ((Builtin.cap_ #[t] o.type #[a.eval x]).run P w).andThen fun v w' => .ok (.value v) w' := by
  rw [execOp, hop]
  simp only [resolve, hc, arr_of_list ha, arr_of_list ht, List.map_toArray, List.map_cons, List.map_nil, Sem.run_bind, Sem.run_pure, Result.andThen_ok, invoke, builtin]

theorem exec_app {c : Call} {x y : Operand} {t u : TypeId} (hop : o.op = .call c) (hc : c.callee = .builtin .append) (ha : c.args.toList = [x, y]) (ht : c.argTypes.toList = [t, u]) :
    (execOp a.eval o).run P w = ((Builtin.append_ #[t, u] o.type #[a.eval x, a.eval y]).run P w).andThen fun v w' => .ok (.value v) w' := by
  rw [execOp, hop]
  simp only [resolve, hc, arr_of_list ha, arr_of_list ht, List.map_toArray, List.map_cons, List.map_nil, Sem.run_bind, Sem.run_pure, Result.andThen_ok, invoke, builtin]

theorem exec_del {c : Call} {x y : Operand} {t u : TypeId} (hop : o.op = .call c) (hc : c.callee = .builtin .delete) (ha : c.args.toList = [x, y]) (ht : c.argTypes.toList = [t, u]) :
    (execOp a.eval o).run P w = ((Builtin.delete_ #[t, u] o.type #[a.eval x, a.eval y]).run P w).andThen fun v w' => .ok (.value v) w' := by
  rw [execOp, hop]
  simp only [resolve, hc, arr_of_list ha, arr_of_list ht, List.map_toArray, List.map_cons, List.map_nil, Sem.run_bind, Sem.run_pure, Result.andThen_ok, invoke, builtin]

/-- n zeros, appended to the nil slice -/
theorem apz_sound {sT uT el : TypeId} {ti : TypeInfo} {z : Value} {zd : List D} {k : IntKind} {n : Int} (ty : TypeId) (T : P.underlying sT = some (.slice el) ∧ P.underlying uT = some (.int k) ∧ P.info? el = some ti ∧ 0 < ti.bytes ∧ ti.zero = some z)
    (hr : HR G ι h w) (g3 : zd.length = ti.size) (g4 : z.cells.size = ti.size) (g5 : ∀ (j : Nat) (y : Value) (x : D), z.cells[j]? = some y → zd[j]? = some x → DR G w y x) (h2 : 0 < n) (h3 : n.toNat * ti.bytes ≤ 140737488355328) :
    ∃ v' w' G' ι', (Builtin.append_ #[sT, uT] ty #[.slice none 0 0, .int .i64 n]).run P w = .ok v' w' ∧ HR G' ι' (h ++ [.da true 0 ti.size (List.replicate n.toNat zd)]) w' ∧
      VR G' w' ι' (h ++ [.da true 0 ti.size (List.replicate n.toNat zd)]) v' (.c (.arr h.length 0 0 n.toNat)) ∧ Ext G ι h w G' ι' (h ++ [.da true 0 ti.size (List.replicate n.toNat zd)]) w' := by
  obtain ⟨hu, hu2, hi, hpos, hz⟩ := T
  obtain ⟨w1, hw1⟩ : ∃ w1 : World, w1 = { w with drawn := w.drawn + 1 } := ⟨_, rfl⟩
  have hh : w1.heap = w.heap := by rw [hw1]
  have hr1 := hr.same_heap hh
  have hx1 := Ext.same_heap (G := G) (ι := ι) (h := h) hh
  have hnb : n.toNat ≤ 140737488355328 := by
    have : n.toNat * 1 ≤ n.toNat * ti.bytes := Nat.mul_le_mul_left _ hpos
    omega
  have hwn : IntKind.i64.wrap n = n := wrap_id (by omega) (by omega)
  have hq : ∀ a b c, (Question.appendCap a b c).forced = false := fun _ _ _ => rfl
  obtain ⟨cap', hcap1, hcap2⟩ : ∃ cap', Question.cut (.appendCap n.toNat 0 el) (w.tape w.drawn (.appendCap n.toNat 0 el)) = cap' ∧ n.toNat ≤ cap' := ⟨_, rfl, by simp [Question.cut]⟩
  have hnext : Builtin.nextslicecap n.toNat 0 = n.toNat := by
    unfold Builtin.nextslicecap; rw [if_pos (by omega)]
  have h48 : (2 : Nat) ^ 48 = 281474976710656 := by decide
  have h48i : (2 : Int) ^ 48 = 281474976710656 := by decide
  have hbI : ¬ (2 : Int) ^ 48 < n * (ti.bytes : Int) := by
    have : n * (ti.bytes : Int) = ((n.toNat * ti.bytes : Nat) : Int) := by rw [Int.natCast_mul, Int.toNat_of_nonneg (by omega)]
    rw [this, h48i]; omega
  have hsmall : ¬ 2 ^ 48 < n.toNat * ti.bytes := by rw [h48]; omega
  have hnew : (if n.toNat * ti.size = 0 then (#[] : Array Value) else Builtin.zeroCells z.cells n.toNat) = Builtin.zeroCells z.cells n.toNat := by
    split
    · rename_i h0
      have : (Builtin.zeroCells z.cells n.toNat).size = 0 := by rw [zeroCells_size, g4]; exact h0
      exact (Array.eq_empty_of_size_eq_zero this).symm
    · rfl
  have hmax : ¬ IntKind.i64.max < ((n.toNat : Nat) : Int) := by
    have : IntKind.i64.max = 9223372036854775807 := by decide
    omega
  have hrun : (Builtin.append_ #[sT, uT] ty #[.slice none 0 0, .int .i64 n]).run P w =
      (.ok (.slice (some ⟨w1.heap.size, 0, none⟩) n.toNat cap') (push w1 (.cells (Builtin.zeroCells z.cells n.toNat ++ #[] ++ Builtin.zeroCells z.cells (cap' - n.toNat)) el)) : Result Value) := by
    have hle : ¬ n.toNat ≤ 0 := by omega
    have hn0 : ¬ n < 0 := by omega
    have hn0' : ¬ n ≤ 0 := by omega
    by_cases h0 : n.toNat * ti.size = 0
    · rw [if_pos h0] at hnew
      rw [← hnew]
      simp only [Builtin.append_, List.getElem?_toArray, List.getElem?_cons_zero, List.getElem?_cons_succ, Sem.run_bind, r_und hu, r_und hu2, Result.andThen_ok, r_size hi, Sem.run_pure, asInt, asIntOf, hwn, hn0, r_info hi,
        gt_iff_lt, hbI, if_true, if_false, Nat.zero_add, Sem.run_ite, hle, hmax, false_and, hnext, hsmall, run_choose, hq, hcap1, run_askRoom, Bool.not_true, Bool.false_eq_true, h0]
      rw [← hw1]
      simp only [Builtin.firstCells, Sem.run_pure, Result.andThen_ok, r_zero hi hz, newRow, Sem.run_bind, run_newObj]
      rfl
    · simp only [Builtin.append_, List.getElem?_toArray, List.getElem?_cons_zero, List.getElem?_cons_succ, Sem.run_bind, r_und hu, r_und hu2, Result.andThen_ok, r_size hi, Sem.run_pure, asInt, asIntOf, hwn, hn0, r_info hi,
        gt_iff_lt, hbI, if_true, if_false, Nat.zero_add, Sem.run_ite, hle, hmax, false_and, hnext, hsmall, run_choose, hq, hcap1, run_askRoom, Bool.not_true, Bool.false_eq_true, h0]
      rw [← hw1]
      simp only [Builtin.firstCells, Sem.run_pure, Result.andThen_ok, r_zero hi hz, newRow, Sem.run_bind, run_newObj, Array.empty_append, Array.append_empty]
      rfl
  have hl0 : laid ti.size (List.replicate n.toNat zd) G w1 (Builtin.zeroCells z.cells n.toNat) 0 := by
    have := laid_zero (G := G) (w := w1) n.toNat (n.toNat * z.cells.size) g4 g3 (fun j y x hy hx => (g5 j y x hy hx).ext hx1 hr) (by rw [g4]; exact Nat.le_refl _)
    exact this
  have hl := laid_append (c3 := Builtin.zeroCells z.cells (cap' - n.toNat)) hl0 (by rw [zeroCells_size, g4]; simp) (ys := []) (c2 := #[]) ⟨by simp, by simp⟩ (by simp)
  rw [List.append_nil] at hl
  obtain ⟨q1, q2, q3⟩ := new_da (n := n.toNat) (cap := cap') (k := n.toNat) el hr1 hl (by simp) hcap2 (by
    simp only [Array.size_append, zeroCells_size, g4, Array.size_empty, Nat.add_zero]
    rw [← Nat.add_mul]; apply Nat.mul_le_mul_right; omega) (by simp) (by simp; omega)
  exact ⟨_, _, G, _, hrun, q1, q2, hx1.trans q3⟩

/-- no Go function is called -/
def notCall : AOp → Bool
  | .call _ _ => false
  | .callv _ _ => false
  | _ => true

theorem l_call {c : Call} (r : Rel N G ι e h a w) (hop : o.op = .call c) (hs : astep e h (compOp P o) = some (av, h')) :
    OpRes G ι h w av h' ((execOp a.eval o).run P w) := by
  cases hc : c.callee with
  | invoke _ _ => simp only [compOp, hop, hc] at hs; exact absurd hs bad_step
  | value f =>
    simp only [compOp, hop, hc] at hs
    split at hs
    · rename_i heq; cases heq
    · split at hs
      · split at hs
        · simp [astep] at hs
        · exact absurd hs bad_step
      · exact absurd hs bad_step
    · split at hs
      · simp [astep] at hs
      · exact absurd hs bad_step
    · exact absurd hs bad_step
  | builtin b =>
  simp only [compOp, hop, hc] at hs
  unfold compB at hs
  split at hs
  · rename_i x t ha ht
    split at hs
    · rename_i x' hx
      have hv := cx_sound hx r
      split at hs
      · rename_i hu
        simp only [astep] at hs
        have hexec := exec_len (P := P) (a := a) (w := w) hop hc ha ht
        split at hs
        · rename_i s hstr
          simp only [Option.some.injEq, Prod.mk.injEq] at hs
          obtain ⟨rfl, rfl⟩ := hs
          rw [hstr] at hv
          obtain ⟨bs, ex, ebs⟩ := inv_str hv
          refine OpRes.value r.hr (v := .int .i64 s.length) ?_ (.c _ _ (.d _ _ (.int _ _)))
          rw [hexec, ex]
          simp only [Builtin.len_, List.getElem?_toArray, List.getElem?_cons_zero, Sem.run_bind, r_und hu, Result.andThen_ok, goInt, Sem.run_pure]
          rw [str_size, ebs]
        · cases hs
      · rename_i el hu
        simp only [astep] at hs
        have hexec := exec_len (P := P) (a := a) (w := w) hop hc ha ht
        split at hs
        · rename_i sz l hvw
          simp only [Option.some.injEq, Prod.mk.injEq] at hs
          obtain ⟨rfl, rfl⟩ := hs
          obtain ⟨ad, cap, ex, _⟩ := view_len r.hr hv hvw
          refine OpRes.value r.hr (v := .int .i64 l.length) ?_ (.c _ _ (.d _ _ (.int _ _)))
          rw [hexec, ex]
          simp [Builtin.len_, r_und hu, goInt]
        · cases hs
      · rename_i kt el hu
        simp only [astep, evs] at hs
        have hexec := exec_len (P := P) (a := a) (w := w) hop hc ha ht
        obtain ⟨l, ver, es, g1, g2, rfl, rfl⟩ := mstep_lnm hs
        rw [g1] at hv
        refine OpRes.value r.hr (v := .int .i64 es.length) ?_ (.c _ _ (.d _ _ (.int _ _)))
        rw [hexec, s_lnm r.hr hu hv g2]; rfl
      · exact absurd hs bad_step
    · exact absurd hs bad_step
  · rename_i x t ha ht
    split at hs
    · rename_i x' hx
      have hv := cx_sound hx r
      split at hs
      · rename_i el hu
        have hexec := exec_cap (P := P) (a := a) (w := w) hop hc ha ht
        simp only [astep] at hs
        split at hs
        · rename_i sz l hl
          simp only [Option.some.injEq, Prod.mk.injEq] at hs
          obtain ⟨rfl, rfl⟩ := hs
          rw [hl] at hv
          have ex : a.eval x = .slice none 0 0 := by
            revert hv
            generalize a.eval x = v
            intro hv
            cases inv_d hv; rfl
          refine OpRes.value r.hr (v := .int .i64 0) ?_ (.c _ _ (.d _ _ (.int _ _)))
          rw [hexec, ex]
          simp [Builtin.cap_, r_und hu, goInt]
        · rename_i nl sz l hl
          simp only [Option.some.injEq, Prod.mk.injEq] at hs
          obtain ⟨rfl, rfl⟩ := hs
          have hv0 := hv
          rw [hl] at hv
          obtain ⟨ad, cap, ex, _⟩ := view_len r.hr hv (sz := sz) (l := l) (by simp [view])
          have hcap : cap = l.length := by
            revert hv ex
            generalize a.eval x = v
            intro hv ex
            cases inv_c hv with
            | cl _ _ _ _ hd hcap => rw [ex] at hcap; exact hcap
          refine OpRes.value r.hr (v := .int .i64 l.length) ?_ (.c _ _ (.d _ _ (.int _ _)))
          rw [hexec, ex, hcap]
          simp [Builtin.cap_, r_und hu, goInt]
        · cases hs
      · exact absurd hs bad_step
    · exact absurd hs bad_step
  · rename_i x y t u ha ht
    split at hs
    · rename_i x' y' hx hy
      split at hs
      · rename_i kt el hu
        split at hs
        · rename_i sc n ls hk
          simp only [astep, evs] at hs
          have hexec := exec_del (P := P) (a := a) (w := w) hop hc ha ht
          obtain ⟨l, ver, es, kd, r0, g1, g2, g3, g4, rfl, rfl⟩ := mstep_del hs
          have hm := cx_sound hx r
          rw [g1] at hm
          obtain ⟨w', q1, q2, q3⟩ := s_del (P := P) (ty := o.type) (u2 := u) r.hr hu hk hm (cx_sound hy r) g3 g2 g4
          exact ⟨.tuple #[], w', G, ι, .inl (by rw [hexec, q1]; rfl), q2, .tup _ _ rfl (by simp), q3⟩
        · exact absurd hs bad_step
      · exact absurd hs bad_step
    · exact absurd hs bad_step
  · rename_i x y t u ha ht
    split at hs
    · rename_i x' y' hx hy
      split at hs
      · rename_i el el2 hu hu2
        split at hs
        · rename_i z ti hz hti
          split at hs
          · rename_i hpos
            simp only [astep] at hs
            split at hs
            · rename_i sz' ys hys
              split at hs
              · rename_i hsz
                subst hsz
                obtain ⟨i, zv, g1, g2, g3, g4, g5⟩ := zds_sound hz
                rw [hti] at g1; cases g1
                have hexec := exec_app (P := P) (a := a) (w := w) hop hc ha ht
                obtain ⟨v', w', G', ι', k1, k2, k3, k4⟩ := app_sound (P := P) o.type ⟨hu, hu2, hti, rfl, rfl, hpos, g2, g4⟩ r.hr (cx_sound hx r) (cx_sound hy r) hys hs
                exact ⟨v', w', G', ι', .inl (by rw [hexec, k1]; rfl), k2, k3, k4⟩
              · cases hs
            · cases hs
          · exact absurd hs bad_step
        · exact absurd hs bad_step
      · rename_i el k hu hu2
        split at hs
        · rename_i z ti hz hti
          split at hs
          · rename_i hpos
            simp only [astep, evs] at hs
            have hexec := exec_app (P := P) (a := a) (w := w) hop hc ha ht
            have hvx := cx_sound hx r
            have hvy := cx_sound hy r
            revert hs hvx hvy
            generalize ev e x' = xv
            generalize ev e y' = yv
            intro hs hvx hvy
            obtain ⟨l0, n0, rfl, rfl, h2, h3, rfl, rfl⟩ := mstep_apz hs
            obtain ⟨i, zv, g1, g2, g3, g4, g5⟩ := zds_sound hz
            rw [hti] at g1; cases g1
            have ex : a.eval x = .slice none 0 0 := by
              revert hvx
              generalize a.eval x = v
              intro hvx
              cases inv_d hvx; rfl
            obtain ⟨v', w', G', ι', k1, k2, k3, k4⟩ := apz_sound (P := P) (k := k) o.type ⟨hu, hu2, hti, hpos, g2⟩ r.hr g3 g4 (g5 _ _) h2 h3
            exact ⟨v', w', G', ι', .inl (by rw [hexec, ex, inv_int hvy, k1]; rfl), k2, k3, k4⟩
          · exact absurd hs bad_step
        · exact absurd hs bad_step
      · exact absurd hs bad_step
    · exact absurd hs bad_step
  · exact absurd hs bad_step

theorem capsOf_sound {vs : List Value} : ∀ {avs : List AV} {cs : List CV}, capsOf avs = some cs → vs.length = avs.length →
    (∀ (i : Nat) (v : Value) (x : AV), vs[i]? = some v → avs[i]? = some x → VR G w ι h v x) → vs.length = cs.length ∧ ∀ (i : Nat) (v : Value) (x : CV), vs[i]? = some v → cs[i]? = some x → CR G w ι h v x := by
  induction vs with
  | nil =>
    intro avs cs hc hl _
    cases avs with
    | nil => simp only [capsOf, Option.some.injEq] at hc; subst hc; simp
    | cons => simp at hl
  | cons v vs ih =>
    intro avs cs hc hl hr
    cases avs with
    | nil => simp at hl
    | cons av avs =>
      unfold capsOf at hc
      split at hc
      · rename_i h0; cases h0
      · rename_i x r heq
        cases heq
        simp only [Option.map_eq_some_iff] at hc
        obtain ⟨l, hl', rfl⟩ := hc
        obtain ⟨k1, k2⟩ := ih hl' (by simpa using hl) (fun i v x hv hx => hr (i + 1) v x (by simpa using hv) (by simpa using hx))
        refine ⟨by simp [k1], fun i v' x' hv hx => ?_⟩
        cases i with
        | zero => simp at hv hx; subst hv hx; exact inv_c (hr 0 v _ rfl rfl)
        | succ i => simp at hv hx; exact k2 i v' x' hv hx
      · cases hc

theorem evs_get {xs : List X} : (evs e xs).length = xs.length ∧ ∀ (i : Nat) (y : AV), (evs e xs)[i]? = some y → ∃ x, xs[i]? = some x ∧ y = ev e x := by
  induction xs with
  | nil => simp [evs]
  | cons x xs ih =>
    refine ⟨by simp [evs, ih.1], fun i y hy => ?_⟩
    cases i with
    | zero => simp [evs] at hy; exact ⟨x, rfl, hy.symm⟩
    | succ i => simp [evs] at hy; exact ih.2 i y hy

theorem args_sound {os : List Operand} {ts : List TypeId} {xs : List X} (r : Rel N G ι e h a w) (hc : cxs P ts os = some xs) :
    (os.map a.eval).length = (evs e xs).length ∧ ∀ (i : Nat) (v : Value) (x : AV), (os.map a.eval)[i]? = some v → (evs e xs)[i]? = some x → VR G w ι h v x := by
  obtain ⟨h1, h2⟩ := cxs_sound r hc
  obtain ⟨k1, k2⟩ := evs_get (e := e) (xs := xs)
  refine ⟨by simp [h1, k1], fun i v x hv hx => ?_⟩
  obtain ⟨y, hy, rfl⟩ := k2 i x hx
  simp only [List.getElem?_map, Option.map_eq_some_iff] at hv
  obtain ⟨op, hop, rfl⟩ := hv
  exact h2 i op y hop hy

theorem l_mkf {fn : Fn} {first caps : Array Operand} (r : Rel N G ι e h a w) (hop : o.op = .makeFunc fn first caps) (hs : astep e h (compOp P o) = some (av, h')) :
    OpRes G ι h w av h' ((execOp a.eval o).run P w) := by
  cases fn with
  | func f =>
    simp only [compOp, hop] at hs
    split at hs
    · rename_i l hl
      split at hs
      · rename_i hf
        simp only [astep, Option.map_eq_some_iff, Prod.mk.injEq] at hs
        obtain ⟨cs, hcs, rfl, rfl⟩ := hs
        obtain ⟨k1, k2⟩ := args_sound r hl
        obtain ⟨q1, q2⟩ := capsOf_sound hcs k1 k2
        have hfirst : first = #[] := by simpa using hf
        refine OpRes.value r.hr (v := .func (.func f) #[] (caps.map a.eval)) (by simp [execOp, hop, Instr.makeFunc, hfirst]) (.c _ _ (.fn f _ _ (by simpa using q1) fun i v c hv hc => q2 i v c (by simpa using hv) hc))
      · exact absurd hs bad_step
    · exact absurd hs bad_step
  | _ => simp only [compOp, hop] at hs; exact absurd hs bad_step

theorem partsC_sound {place : Nat → Option (Nat × Nat × TypeId)} (r : Rel N G ι e h a w) : ∀ {ps : List (Nat × Operand)} {xs : List (Nat × Nat × X)} {as : List (Nat × Nat × List CV)},
    partsC P place ps = some xs → partsOf e xs = some as → as.all (fun a => cellsOk h a.2.2) = true →
    (ps.map fun p => (p.1, a.eval p.2)).length = as.length ∧ ∀ (i : Nat) (p : Nat × Value) (q : Nat × Nat × List CV), (ps.map fun p => (p.1, a.eval p.2))[i]? = some p → as[i]? = some q →
      (∃ t, place p.1 = some (q.1, q.2.1, t)) ∧ p.2.cells.size = q.2.2.length ∧ ∀ (j : Nat) (y : Value) (x : CV), p.2.cells[j]? = some y → q.2.2[j]? = some x → CR G w ι h y x := by
  intro ps
  induction ps with
  | nil =>
    intro xs as h1 h2 _
    simp only [partsC, Option.some.injEq] at h1; subst h1
    simp only [partsOf, Option.some.injEq] at h2; subst h2
    simp
  | cons p ps ih =>
    intro xs as h1 h2 h3
    obtain ⟨k, op⟩ := p
    simp only [partsC] at h1
    split at h1
    · rename_i off s t hp
      split at h1
      · rename_i x l hx hl
        cases h1
        simp only [partsOf] at h2
        split at h2
        · rename_i cs l2 hcs hl2
          cases h2
          simp only [List.all_cons, Bool.and_eq_true] at h3
          obtain ⟨k1, k2⟩ := ih hl hl2 h3.2
          refine ⟨by simpa using k1, fun i p q hp' hq => ?_⟩
          cases i with
          | zero =>
            simp at hp' hq
            subst hp' hq
            have hc := (cx_sound hx r).cells hcs h3.1
            exact ⟨⟨t, hp⟩, hc.1, hc.2⟩
          | succ i => simp only [List.map_cons, List.getElem?_cons_succ] at hp' hq; exact k2 i p q hp' hq
        · cases h2
      · cases h1
    · cases h1

theorem mapM_places {fs : List Field} {w : World} (hall : ∀ f ∈ fs, (P.info? f.type).isSome = true) :
    (fs.mapM fun f => (do pure (f.offset, ← sizeOf f.type) : Sem (Nat × Nat))).run P w = .ok (fs.map fun f => (f.offset, P.cellsOf f.type)) w := by
  induction fs with
  | nil => simp
  | cons f fs ih =>
    have hf := hall f (by simp)
    rw [Option.isSome_iff_exists] at hf
    obtain ⟨i, hi⟩ := hf
    simp only [List.mapM_cons, Sem.run_bind, r_size hi, Result.andThen_ok, Sem.run_pure, ih (fun g hg => hall g (by simp [hg])), List.map_cons, cellsOf_info hi]

theorem l_build {t : TypeId} {ps : Array (Nat × Operand)} (r : Rel N G ι e h a w) (hop : o.op = .build t ps) (hs : astep e h (compOp P o) = some (av, h')) :
    OpRes G ι h w av h' ((execOp a.eval o).run P w) := by
  simp only [compOp, hop] at hs
  split at hs
  · rename_i ti hti
    split at hs
    · rename_i z hz
      split at hs
      · rename_i zc hzc
        have hzr := tcav_sound hzc G w ι h
        obtain ⟨zv, ez, ez2, ez3⟩ := inv_agg hzr
        have hlist : (ps.map fun (p : Nat × Operand) => (p.1, a.eval p.2)).toList = ps.toList.map fun p => (p.1, a.eval p.2) := by simp
        have fin : ∀ (place : Nat → Option (Nat × Nat × TypeId)) (place' : Nat → Option (Nat × Nat)) (l : List (Nat × Nat × X)), (∀ i x y t', place i = some (x, y, t') → place' i = some (x, y)) →
            partsC P place ps.toList = some l → astep e h (.build zc l) = some (av, h') →
            (∀ c', Instr.fill place' z.cells (ps.map fun (p : Nat × Operand) => (p.1, a.eval p.2)).toList = some c' → (execOp a.eval o).run P w = .ok (.value (.agg c')) w) →
            OpRes G ι h w av h' ((execOp a.eval o).run P w) := by
          intro place place' l hpl hl hs hrun
          simp only [astep] at hs
          split at hs
          · rename_i as has
            split at hs
            · rename_i hok
              simp only [Option.map_eq_some_iff, Prod.mk.injEq] at hs
              obtain ⟨z', hz', rfl, rfl⟩ := hs
              obtain ⟨k1, k2⟩ := partsC_sound r hl has hok
              have hcz : z.cells = zv := by rw [ez]; rfl
              obtain ⟨c', q1, q2, q3⟩ := fill_sound place' _ as z.cells zc z' k1 (fun i p q hp hq => by
                obtain ⟨⟨t', k3⟩, k4, k5⟩ := k2 i p q hp hq
                exact ⟨hpl _ _ _ _ k3, k4, k5⟩) (by rw [hcz]; exact ez2) (by rw [hcz]; exact ez3) hz'
              exact OpRes.value r.hr (hrun c' (by rw [hlist]; exact q1)) (.agg _ _ q2 q3)
            · cases hs
          · cases hs
        split at hs
        · rename_i fs hu
          split at hs
          · rename_i l hl
            split at hs
            · rename_i hall
              refine fin _ (fun i => (fs.map fun f => (f.offset, P.cellsOf f.type))[i]?) l ?_ hl hs ?_
              · intro i x y t' hi
                split at hi
                · rename_i f hf
                  simp only [Option.map_eq_some_iff, Prod.mk.injEq] at hi
                  obtain ⟨fi, hfi, rfl, rfl, rfl⟩ := hi
                  simp [hf, cellsOf_info hfi]
                · cases hi
              · intro c' hc'
                have hm : (fs.mapM fun f => (do pure (f.offset, ← sizeOf f.type) : Sem (Nat × Nat))).run P w = .ok (fs.map fun f => (f.offset, P.cellsOf f.type)) w := by
                  have hm1 := mapM_places (P := P) (w := w) (fs := fs.toList) (fun f hf => by
                    have := Array.all_eq_true_iff_forall_mem.1 hall f (by simpa using hf)
                    exact this)
                  rw [Array.mapM_eq_mapM_toList, Sem.run_map, hm1]
                  simp only [Result.andThen_ok]
                  congr 1
                  apply Array.ext'
                  simp
                simp only [execOp, hop, Instr.build, Sem.run_bind, r_zero hti hz, Result.andThen_ok, r_und hu, hm, hc', Sem.run_pure]
            · exact absurd hs bad_step
          · exact absurd hs bad_step
        · rename_i n el hu
          split at hs
          · rename_i ei hei
            split at hs
            · rename_i l hl
              refine fin _ (fun i => some (i * ei.size, ei.size)) l ?_ hl hs ?_
              · intro i x y t' hi
                simp only [Option.some.injEq, Prod.mk.injEq] at hi ⊢
                exact ⟨hi.1, hi.2.1⟩
              · intro c' hc'
                simp only [execOp, hop, Instr.build, Sem.run_bind, r_zero hti hz, Result.andThen_ok, r_und hu, r_size hei, hc', Sem.run_pure]
            · exact absurd hs bad_step
          · exact absurd hs bad_step
        · exact absurd hs bad_step
      · exact absurd hs bad_step
    · exact absurd hs bad_step
  · exact absurd hs bad_step

theorem frz_solid {h h1 : Hp} {x y : CV} {d : D} (hf : frz h x = some (d, h1)) (hy : solid h1 y = true) : solid h y = true := by
  unfold frz at hf
  split at hf
  · cases hf; exact hy
  · cases hf; exact hy
  · rename_i l v i n
    split at hf
    · rename_i v' sz es hes
      split at hf
      · cases hf
        have hget : ∀ l', l' ≠ l → (h.set l .dead)[l']? = h[l']? := fun l' hl' => List.getElem?_set_ne (fun e => hl' e.symm)
        have hself : (h.set l .dead)[l]? = some .dead := List.getElem?_set_self (get_lt hes)
        cases y with
        | ptr l2 v2 i2 j2 =>
          by_cases hl : l2 = l
          · subst hl; simp [solid, hself, Blk.off] at hy
          · simpa [solid, hget l2 hl] using hy
        | arr l2 v2 i2 j2 =>
          by_cases hl : l2 = l
          · subst hl; simp [solid, hself] at hy
          · simpa [solid, hget l2 hl] using hy
        | mp l2 =>
          by_cases hl : l2 = l
          · subst hl; simp [solid, hself] at hy
          · simpa [solid, hget l2 hl] using hy
        | it l2 =>
          by_cases hl : l2 = l
          · subst hl; simp [solid, hself] at hy
          · simpa [solid, hget l2 hl] using hy
        | u => simp [solid] at hy
        | _ => rfl
      · cases hf
    · cases hf
  · cases hf

theorem frz_ok {h h1 : Hp} {x : CV} {d : D} (hf : frz h x = some (d, h1)) : solid h x = true := by
  unfold frz at hf
  split at hf
  · rfl
  · rfl
  · split at hf
    · rename_i v' sz es hes
      split at hf
      · rename_i hv; simp [solid, hes, hv]
      · cases hf
    · cases hf
  · cases hf

theorem frzs_ok : ∀ {cs : List CV} {h h1 : Hp} {ds : List D}, frzs h cs = some (ds, h1) → cellsOk h cs = true := by
  intro cs
  induction cs with
  | nil => intro h h1 ds _; rfl
  | cons x r ih =>
    intro h h1 ds hf
    simp only [frzs] at hf
    split at hf
    · rename_i d h2 hd
      split at hf
      · rename_i ds' h3 hds
        simp only [cellsOk, List.all_cons, Bool.and_eq_true]
        refine ⟨frz_ok hd, ?_⟩
        have := ih hds
        simp only [cellsOk, List.all_eq_true] at this ⊢
        exact fun y hy => frz_solid hd (this y hy)
      · cases hf
    · cases hf

/-- the elements of a composite slice -/
theorem elems_sound {el : TypeId} : ∀ {ps : List (Nat × Operand)} {G : Nat → Prop} {h h' : Hp} {xs : List (Nat × X)} {as : List (Nat × List D)}, Rel N G ι e h a w →
    elemsC P el ps = some xs → elemsOf h e xs = some (as, h') →
    ∃ G', HR G' ι h' w ∧ Ext G ι h w G' ι h' w ∧ (ps.map fun p => (p.1, a.eval p.2)).length = as.length ∧ ∀ (i : Nat) (p : Nat × Value) (q : Nat × List D), (ps.map fun p => (p.1, a.eval p.2))[i]? = some p → as[i]? = some q →
      p.1 = q.1 ∧ p.2.cells.size = q.2.length ∧ ∀ (j : Nat) (y : Value) (x : D), p.2.cells[j]? = some y → q.2[j]? = some x → DR G' w y x := by
  intro ps
  induction ps with
  | nil =>
    intro G h h' xs as r h1 h2
    simp only [elemsC, Option.some.injEq] at h1; subst h1
    simp only [elemsOf, Option.some.injEq, Prod.mk.injEq] at h2
    obtain ⟨rfl, rfl⟩ := h2
    exact ⟨G, r.hr, Ext.refl _ _ _ _, rfl, by simp⟩
  | cons p ps ih =>
    intro G h h' xs as r h1 h2
    obtain ⟨k, op⟩ := p
    simp only [elemsC] at h1
    split at h1
    · rename_i x l hx hl
      cases h1
      simp only [elemsOf] at h2
      split at h2
      · rename_i cs hcs
        split at h2
        · rename_i ds h3 hds
          split at h2
          · rename_i l2 h4 hl2
            simp only [Option.some.injEq, Prod.mk.injEq] at h2
            obtain ⟨rfl, rfl⟩ := h2
            have hv := cx_sound hx r
            have hok : cellsOk h cs = true := frzs_ok hds
            obtain ⟨c1, c2⟩ := hv.cells hcs hok
            obtain ⟨G1, q1, q2, q3, q4⟩ := frzs_sound r.hr (vs := (a.eval op).cells.toList) (by simpa using c1) (fun i v x hv hx => c2 i v x (by simpa using hv) hx) hds
            have r1 : Rel N G1 ι e h3 a w := { hr := q1, dfr := r.dfr, size := r.size, env := fun i => (r.env i).ext q2 r.hr }
            obtain ⟨G2, t1, t2, t3, t4⟩ := ih r1 hl hl2
            refine ⟨G2, t1, q2.trans t2, by simpa using t3, fun i p q hp hq => ?_⟩
            cases i with
            | zero =>
              simp at hp hq
              subst hp hq
              refine ⟨rfl, by simp only [q3]; exact c1, fun j y x hy hx => ?_⟩
              exact (q4 j y x (by simpa using hy) hx).ext t2 q1
            | succ i => simp only [List.map_cons, List.getElem?_cons_succ] at hp hq; exact t4 i p q hp hq
          · cases h2
        · cases h2
      · cases h2
    · cases h1

theorem l_bsl {t : TypeId} {n : Nat} {ps : Array (Nat × Operand)} (r : Rel N G ι e h a w) (hop : o.op = .buildSlice t n ps) (hs : astep e h (compOp P o) = some (av, h')) :
    OpRes G ι h w av h' ((execOp a.eval o).run P w) := by
  simp only [compOp, hop] at hs
  split at hs
  · rename_i el hu
    split at hs
    · rename_i zd l hz hl
      obtain ⟨ti, z, hti, hzz, g3, g4, g5⟩ := zds_sound hz
      have hsz := cellsOf_info hti
      rw [hsz] at hs
      simp only [astep] at hs
      split at hs
      · rename_i as h1 has
        split at hs
        · rename_i es hes
          split at hs
          · rename_i hn
            simp only [Option.some.injEq, Prod.mk.injEq] at hs
            obtain ⟨rfl, rfl⟩ := hs
            obtain ⟨G1, q1, q2, q3, q4⟩ := elems_sound r hl has
            have hl0 := laid_zero (G := G1) (w := w) n (n * ti.size) g4 g3 (g5 G1 w) (Nat.le_refl _)
            obtain ⟨c', k1, k2, k3, k4⟩ := fillE_sound (ps.toList.map fun p => (p.1, a.eval p.2)) as _ _ es q3 q4 hl0 (by simp) hes
            have hlen : es.length = n := by simpa using k4
            obtain ⟨t1, t2, t3⟩ := new_da (n := n) (cap := n) (k := n) el q1 k2 (by omega) (Nat.le_refl _) (by rw [k3, hlen]; exact Nat.le_refl _) (by omega) (by omega)
            refine ⟨_, _, G1, _, .inl ?_, t1, t2, q2.trans t3⟩
            have hlist : (ps.map fun (p : Nat × Operand) => (p.1, a.eval p.2)).toList = ps.toList.map fun p => (p.1, a.eval p.2) := by simp
            have hbig : ¬ n * ti.size > 2 ^ 24 := by
              have : (2 : Nat) ^ 24 = 16777216 := by decide
              omega
            simp only [execOp, hop, Instr.buildSlice, Sem.run_bind, r_und hu, Result.andThen_ok, r_size hti, Sem.run_ite, hbig, if_false, Sem.run_pure, hlist]
            by_cases h0 : n * ti.size = 0
            · have hnil : ∀ f : Nat → Value, Array.map f (Array.range 0) = #[] := fun f => by simp
              rw [h0, hnil] at k1
              simp only [h0, if_true, Result.andThen_ok, hnil, k1, newRow, Sem.run_bind, run_newObj, Sem.run_pure]
              rfl
            · simp only [h0, if_false, r_zero hti hzz, Result.andThen_ok, k1, newRow, Sem.run_bind, run_newObj, Sem.run_pure]
              rfl
          · cases hs
        · cases hs
      · cases hs
    · exact absurd hs bad_step
  · exact absurd hs bad_step

/-- EVERY OPERATION OTHER THAN A CALL: what the abstract step says, the model does. -/
theorem op_sound (r : Rel N G ι e h a w) (hs : astep e h (compOp P o) = some (av, h')) : OpRes G ι h w av h' ((execOp a.eval o).run P w) := by
  cases hop : o.op
  case move x => exact l_mv r (.inl hop) hs
  case assign x => exact l_mv r (.inr hop) hs
  case pick => exact l_pick r hop hs
  case alloc => exact l_alloc r hop hs
  case box => exact l_box r hop hs
  case build => exact l_build r hop hs
  case buildSlice => exact l_bsl r hop hs
  case load => exact l_load r hop hs
  case store => exact l_store r hop hs
  case nilCheck => exact l_nilc r hop hs
  case binOp => exact l_bin r hop hs
  case unOp => exact l_un r hop hs
  case convert => exact l_conv r hop hs
  case slice => exact l_slice r hop hs
  case fieldAddr => exact l_fa r hop hs
  case field => exact l_field r hop hs
  case indexAddr => exact l_ia r hop hs
  case index => exact l_index r hop hs
  case extract => exact l_ext r hop hs
  case makeSlice => exact l_mks r hop hs
  case makeFunc => exact l_mkf r hop hs
  case call => exact l_call r hop hs
  case makeMap => exact l_makeMap r hop hs
  case lookup => exact l_lookup r hop hs
  case mapUpdate => exact l_update r hop hs
  all_goals (simp only [compOp, hop] at hs; exact absurd hs bad_step)

end
end Go.Ab
