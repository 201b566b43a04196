/-
  The engine, part mm: maps.
-/
import Derived.Test.YtjaodmgeonfkiaaEm
import Derived.MapKept
import Derived.WideKeyRuns
namespace Go.Ab

section
variable {P : Program} {N : Nat} {G : Nat → Prop} {ι : Io} {e : Env} {h h' : Hp} {a : Act} {w : World} {o : Oper} {av : AV}

theorem toD_rel {v : Value} {c : CV} {d : D} (hc : CR G w ι h v c) (hd : toD c = some d) : DR G w v d := by
  cases hc <;> simp [toD] at hd
  case d x hx => subst hd; exact hx.fg
  case cl nl sz l hx _ => subst hd; exact hx.fg

theorem key_rel {kv : Value} {k : AV} {kd : DV} {sc : Bool} {n : Nat} {ls : List (Nat × Nat)} (hv : VR G w ι h kv k) (hk : keyDV ls sc n k = some kd) : DVR G w kv kd ∧ ∃ ds, dvk sc n kd = some ds ∧ ∃ b, eqc (ds.map .d) (ds.map .d) ls = some b := by
  unfold keyDV at hk
  split at hk
  · split at hk
    · rename_i hq
      cases hk
      exact ⟨.s _ _ (inv_d hv), _, rfl, _, hq⟩
    · cases hk
  · rename_i l
    split at hk
    · rename_i ds hds
      split at hk
      · rename_i hn hq
        cases hk
        have hn := Nat.eq_of_beq_eq_true hn
        obtain ⟨cs, rfl, h1, h2⟩ := inv_agg hv
        obtain ⟨g1, g2⟩ := toDs_get hds
        refine ⟨.g cs ds (by omega) fun i v x hv hx => ?_, ds, by simp [dvk, hn], _, hq⟩
        have q1 : l[i]? = some (l[i]'(by have := get_lt hx; omega)) := List.getElem?_eq_getElem _
        exact toD_rel (h2 i v _ hv q1) (g2 i _ x q1 hx)
      · cases hk
    · cases hk
  · cases hk

theorem val_rel {v : Value} {x : AV} {vd : DV} {h1 : Hp} (r : HR G ι h w) (hv : VR G w ι h v x) (hx : valDV h x = some (vd, h1)) :
    ∃ G', HR G' ι h1 w ∧ DVR G' w v vd ∧ Ext G ι h w G' ι h1 w := by
  unfold valDV at hx
  split at hx
  · split at hx
    · rename_i d h2 hf
      cases hx
      obtain ⟨G', g1, g2, g3⟩ := frz_sound r (inv_c hv) hf
      exact ⟨G', g1, .s _ _ g2, g3⟩
    · cases hx
  · split at hx
    · rename_i l ds h2 hf
      cases hx
      obtain ⟨cs, rfl, k1, k2⟩ := inv_agg hv
      obtain ⟨G', g1, g2, g3, g4⟩ := frzs_sound (vs := cs.toList) r (by simpa using k1) (fun i v x hv hx => k2 i v x (by simpa using hv) hx) hf
      exact ⟨G', g1, .g cs ds (by omega) (fun i v x hv hx => g4 i v x (by simpa using hv) hx), g2⟩
    · cases hx
  · cases hx

theorem dvr_cells {v : Value} {k : DV} {sc : Bool} {n : Nat} {ds : List D} (hv : DVR G w v k) (hd : dvk sc n k = some ds) :
    v.cells.size = ds.length ∧ (∀ (i : Nat) (u : Value) (x : D), v.cells[i]? = some u → ds[i]? = some x → DR G w u x) ∧ (sc = false → ∃ cs, v = .agg cs ∧ cs.size = n) ∧ (sc = true → v.cells = #[v]) := by
  cases hv with
  | s _ x hx =>
    cases sc with
    | false => simp [dvk] at hd
    | true =>
      simp only [dvk, Option.some.injEq] at hd
      subst hd
      have hc := hx.one.2
      refine ⟨by rw [hc]; rfl, fun i u y hu hy => ?_, by simp, fun _ => hc⟩
      rw [hc] at hu
      cases i with
      | zero => simp at hu hy; subst hu hy; exact hx
      | succ i => simp at hu
  | g cs l hn hc =>
    cases sc with
    | true => simp [dvk] at hd
    | false =>
      simp only [dvk] at hd
      split at hd
      · rename_i hl
        cases hd
        exact ⟨by simp [Value.cells, hn], fun i u y hu hy => hc i u y (by simpa [Value.cells] using hu) hy, fun _ => ⟨cs, rfl, by omega⟩, by simp⟩
      · cases hd

theorem eq_cells {v v' : Value} {k k' : DV} {sc : Bool} {n : Nat} {ds ds' : List D} {ls : List (Nat × Nat)} {b : Bool} (hv : DVR G w v k) (hv' : DVR G w v' k') (hd : dvk sc n k = some ds) (hd' : dvk sc n k' = some ds')
    (he : eqc (ds.map .d) (ds'.map .d) ls = some b) : eqv v.cells v'.cells ls = some b := by
  obtain ⟨h1, h2, _⟩ := dvr_cells hv hd
  obtain ⟨h1', h2', _⟩ := dvr_cells hv' hd'
  refine eqc_eqv (G := G) (w := w) (ι := []) (h := []) (by simpa using h1) (by simpa using h1') (fun i u x hu hx => ?_) (fun i u x hu hx => ?_) he
  · simp only [List.getElem?_map, Option.map_eq_some_iff] at hx
    obtain ⟨d, hd, rfl⟩ := hx
    exact .d _ _ (h2 i u d hu hd)
  · simp only [List.getElem?_map, Option.map_eq_some_iff] at hx
    obtain ⟨d, hd, rfl⟩ := hx
    exact .d _ _ (h2' i u d hu hd)

/-- a key that is looked at is one -/
def CkOk (P : Program) (dd : Nat) (t : TypeId) (ls : List (Nat × Nat)) : Prop :=
  ∀ (w : World) (em : Bool) (xs : Array Value) (off : Nat) (b : Bool), off + P.cellsOf t ≤ xs.size → eqv xs xs (ls.map fun p => (off + p.1, p.2)) = some b →
    ∃ x, (part t xs off).run P w = .ok x w ∧ (Instr.checkKey em dd t x).run P w = .ok () w

theorem ckFields (em : Bool) (dd : Nat) (xs : Array Value) (w : World) (n : Nat) (hx : n ≤ xs.size) : ∀ (fs : List Field) (g : Field → Option (List (Nat × Nat))) (ls : List (List (Nat × Nat))) (b : Bool),
    (∀ f ∈ fs, ∀ l, g f = some l → f.name ≠ "_" ∧ ∃ l0, l = l0.map (fun p => (f.offset + p.1, p.2)) ∧ CkOk P dd f.type l0 ∧ f.offset + P.cellsOf f.type ≤ n) →
    fs.mapM g = some ls → eqv xs xs ls.flatten = some b →
    ∀ f ∈ fs, f.name ≠ "_" ∧ ∃ x, (part f.type xs f.offset).run P w = .ok x w ∧ (Instr.checkKey em dd f.type x).run P w = .ok () w := by
  intro fs
  induction fs with
  | nil => intro g ls b _ _ _ f hf; cases hf
  | cons f fs ih =>
    intro g ls b hall hm hb
    obtain ⟨l, ls', h1, h2, rfl⟩ := mapM_cons_some hm
    rw [List.flatten_cons] at hb
    obtain ⟨b1, b2, k1, k2, rfl⟩ := eqv_append hb
    obtain ⟨hn, l0, rfl, hok, hle⟩ := hall f (by simp) l h1
    have hrest := ih g ls' b2 (fun f' hf' => hall f' (by simp [hf'])) h2 k2
    intro f' hf'
    rcases List.mem_cons.1 hf' with rfl | hf'
    · exact ⟨hn, hok w em xs _ b1 (by omega) k1⟩
    · exact hrest f' hf'

theorem ckItems (em : Bool) (dd : Nat) (el : TypeId) (xs : Array Value) (w : World) (n : Nat) (hx : n ≤ xs.size) : ∀ (is : List Nat) (g : Nat → Option (List (Nat × Nat))) (ls : List (List (Nat × Nat))) (b : Bool),
    (∀ i ∈ is, ∀ l, g i = some l → ∃ l0, l = l0.map (fun p => (i * P.cellsOf el + p.1, p.2)) ∧ CkOk P dd el l0 ∧ i * P.cellsOf el + P.cellsOf el ≤ n) →
    is.mapM g = some ls → eqv xs xs ls.flatten = some b →
    ∀ i ∈ is, ∃ x, (part el xs (i * P.cellsOf el)).run P w = .ok x w ∧ (Instr.checkKey em dd el x).run P w = .ok () w := by
  intro is
  induction is with
  | nil => intro g ls b _ _ _ f hf; cases hf
  | cons i is ih =>
    intro g ls b hall hm hb
    obtain ⟨l, ls', h1, h2, rfl⟩ := mapM_cons_some hm
    rw [List.flatten_cons] at hb
    obtain ⟨b1, b2, k1, k2, rfl⟩ := eqv_append hb
    obtain ⟨l0, rfl, hok, hle⟩ := hall i (by simp) l h1
    have hrest := ih g ls' b2 (fun i' hi' => hall i' (by simp [hi'])) h2 k2
    intro i' hi'
    rcases List.mem_cons.1 hi' with rfl | hi'
    · exact hok w em xs _ b1 (by omega) k1
    · exact hrest i' hi'

theorem leafCk_ok : ∀ (d : Nat) (t : TypeId) (ls : List (Nat × Nat)), leafEq P d t = some ls → ∀ k, CkOk P (k + d) t ls := by
  intro d
  induction d with
  | zero => intro t ls h; simp [leafEq] at h
  | succ d ih =>
    intro t ls h k w em xs off b hx hb
    unfold leafEq at h
    cases hu : P.underlying t with
    | none => simp [hu] at h
    | some kd =>
      obtain ⟨i, hi⟩ := info_und hu
      have hsz := cellsOf_info hi
      rw [hu] at h
      have scalar : ∀ (q : Nat), aggD kd = false → ls = [(0, q)] → (∀ x c, sv q x x = some c → (Instr.checkKey em (k + (d + 1)) t x).run P w = .ok () w) →
          ∃ x, (part t xs off).run P w = .ok x w ∧ (Instr.checkKey em (k + (d + 1)) t x).run P w = .ok () w := by
        intro q ha hl hrun
        subst hl
        simp only [List.map_cons, List.map_nil, eqv, Nat.add_zero] at hb
        split at hb
        · rename_i x y h1 h2
          rw [h1] at h2
          cases h2
          split at hb
          · rename_i c e hc he
            exact ⟨x, part_run1 hu ha h1, hrun x c hc⟩
          · cases hb
        · cases hb
      cases kd
      case int q =>
        simp only [Option.some.injEq] at h
        refine scalar 0 rfl h.symm fun x c hc => ?_
        cases x <;> simp [sv] at hc
        simp [Instr.checkKey, r_und hu]
      case bool =>
        simp only [Option.some.injEq] at h
        refine scalar 1 rfl h.symm fun x c hc => ?_
        cases x <;> simp [sv] at hc
        simp [Instr.checkKey, r_und hu]
      case string =>
        simp only [Option.some.injEq] at h
        refine scalar 2 rfl h.symm fun x c hc => ?_
        cases x <;> simp [sv] at hc
        simp [Instr.checkKey, r_und hu]
      case struct fs =>
        simp only at h
        split at h
        · rename_i ls' hm
          split at h
          · rename_i hcond
            cases h
            have hall : ∀ p ∈ ls'.flatten, p.1 < i.size := by
              have := hcond.2
              rw [List.all_eq_true] at this
              intro p hp
              have := this p hp
              rw [hsz] at this
              simpa using this
            rw [← eqv_extract (n := i.size) (by omega) (by omega) hall] at hb
            refine ⟨_, part_run hu rfl hi, ?_⟩
            rw [show k + (d + 1) = (k + d) + 1 from rfl, Instr.checkKey]
            simp only [Sem.run_bind, r_und hu, Result.andThen_ok]
            rw [← Array.forIn_toList]
            have each := ckFields (P := P) em (k + d) (xs.extract off (off + i.size)) w i.size (by simp; omega) fs.toList _ ls' b (by
              intro f hf l hl
              split at hl
              · cases hl
              · rename_i hnc
                simp only [Option.map_eq_some_iff] at hl
                obtain ⟨l0, hl0, rfl⟩ := hl
                refine ⟨fun e => hnc (.inl e), l0, rfl, ih f.type l0 hl0 k, ?_⟩
                rw [← hsz]
                exact Decidable.not_not.1 fun e => hnc (.inr e)) hm hb
            clear hm
            generalize fs.toList = L at each
            induction L with
            | nil => simp
            | cons f L ihL =>
              obtain ⟨hn, x, p1, p2⟩ := each f (by simp)
              simp only [List.forIn_cons, Sem.run_bind, hn, ne_eq, not_false_eq_true, if_true, Result.andThen_ok, p1, p2, Sem.run_pure]
              exact ihL (fun y hy => each y (by simp [hy]))
          · cases h
        · cases h
      case array n el =>
        simp only at h
        split at h
        · rename_i ls' hm
          split at h
          · rename_i hcond
            cases h
            have hall : ∀ p ∈ ls'.flatten, p.1 < i.size := by
              have := hcond.2
              rw [List.all_eq_true] at this
              intro p hp
              have := this p hp
              rw [hsz] at this
              simpa using this
            rw [← eqv_extract (n := i.size) (by omega) (by omega) hall] at hb
            refine ⟨_, part_run hu rfl hi, ?_⟩
            cases n with
            | zero => exact absurd rfl hcond.1
            | succ n =>
              have hel : ∃ ie, P.info? el = some ie := by
                have h0 : ∃ l, leafEq P d el = some l := by
                  rw [List.range_succ_eq_map] at hm
                  obtain ⟨l, _, h1, _, _⟩ := mapM_cons_some hm
                  split at h1
                  · cases h1
                  · simp only [Option.map_eq_some_iff] at h1
                    obtain ⟨l0, hl0, _⟩ := h1
                    exact ⟨l0, hl0⟩
                obtain ⟨l, hl⟩ := h0
                cases d with
                | zero => simp [leafEq] at hl
                | succ d =>
                  unfold leafEq at hl
                  cases hue : P.underlying el with
                  | none => simp [hue] at hl
                  | some x => exact info_und hue
              obtain ⟨ie, hie⟩ := hel
              rw [show k + (d + 1) = (k + d) + 1 from rfl, Instr.checkKey]
              simp only [Sem.run_bind, r_und hu, Result.andThen_ok]
              simp only [Std.Legacy.Range.forIn_eq_forIn_range', Std.Legacy.Range.size, Nat.sub_zero, Nat.add_one_sub_one, Nat.div_one]
              have each := ckItems (P := P) em (k + d) el (xs.extract off (off + i.size)) w i.size (by simp; omega) (List.range (n + 1)) _ ls' b (by
                intro j hj l hl
                split at hl
                · cases hl
                · rename_i hnc
                  simp only [Option.map_eq_some_iff] at hl
                  obtain ⟨l0, hl0, rfl⟩ := hl
                  refine ⟨l0, rfl, ih el l0 hl0 k, ?_⟩
                  rw [← hsz]
                  exact Decidable.not_not.1 hnc) hm hb
              rw [List.range_eq_range'] at each
              clear hm
              generalize List.range' 0 (n + 1) = L at each
              induction L with
              | nil => simp
              | cons j L ihL =>
                obtain ⟨x, p1, p2⟩ := each j (by simp)
                rw [cellsOf_info hie] at p1
                simp only [List.forIn_cons, Sem.run_bind, r_size hie, Result.andThen_ok, p1, p2, Sem.run_pure]
                exact ihL (fun y hy => each y (by simp [hy]))
          · cases h
        · cases h
      all_goals simp at h

theorem mfind_at {sc : Bool} {n : Nat} {ls : List (Nat × Nat)} {kd : DV} : ∀ {es : List (DV × DV)} {i : Nat} {j : Nat} {v : DV}, mfind sc n ls kd es i = some (some (j, v)) → i ≤ j ∧ ∃ e, es[j - i]? = some e ∧ e.2 = v
  | [], _, _, _, h => by simp [mfind] at h
  | e :: es, i, j, v, h => by
    simp only [mfind] at h
    split at h
    · split at h
      · simp only [Option.some.injEq, Prod.mk.injEq] at h
        obtain ⟨rfl, rfl⟩ := h
        exact ⟨Nat.le_refl _, e, by simp, rfl⟩
      · obtain ⟨h1, e', h2, h3⟩ := mfind_at h
        refine ⟨by omega, e', ?_, h3⟩
        rw [show j - i = (j - (i + 1)) + 1 by omega]
        simpa using h2
      · cases h
    · cases h

theorem mfind_key {sc : Bool} {n : Nat} {ls : List (Nat × Nat)} {kd : DV} : ∀ {es : List (DV × DV)} {i : Nat} {j : Nat} {v : DV}, mfind sc n ls kd es i = some (some (j, v)) → ∀ e, es[j - i]? = some e → ∃ ds, dvk sc n e.1 = some ds
  | [], _, _, _, h, _, _ => by simp [mfind] at h
  | e :: es, i, j, v, h, e', he => by
    have hle := (mfind_at h).1
    simp only [mfind] at h
    split at h
    · rename_i xs ys hx hy
      split at h
      · simp only [Option.some.injEq, Prod.mk.injEq] at h
        obtain ⟨rfl, rfl⟩ := h
        simp at he; subst he; exact ⟨ys, hy⟩
      · have h1 := (mfind_at h).1
        rw [show j - i = (j - (i + 1)) + 1 by omega] at he
        exact mfind_key h e' (by simpa using he)
      · cases h
    · cases h

theorem leafEq_int {t : TypeId} {k : IntKind} {ls : List (Nat × Nat)} (hu : P.underlying t = some (.int k)) (hl : leafEq P 12 t = some ls) : ls = [(0, 0)] := by
  unfold leafEq at hl; rw [hu] at hl; cases hl; rfl
theorem leafEq_bool {t : TypeId} {ls : List (Nat × Nat)} (hu : P.underlying t = some .bool) (hl : leafEq P 12 t = some ls) : ls = [(0, 1)] := by
  unfold leafEq at hl; rw [hu] at hl; cases hl; rfl
theorem leafEq_string {t : TypeId} {ls : List (Nat × Nat)} (hu : P.underlying t = some .string) (hl : leafEq P 12 t = some ls) : ls = [(0, 2)] := by
  unfold leafEq at hl; rw [hu] at hl; cases hl; rfl

theorem cells1 {v : Value} (h : v.cells = #[v]) (i : Nat) : v.cells[i]? = if i = 0 then some v else none := by
  rw [h]; cases i <;> simp

theorem key_ck {kt : TypeId} {sc : Bool} {n : Nat} {ls : List (Nat × Nat)} {kv : Value} {kd : DV} {ds : List D} (hk : keyInfo P kt = some (sc, n, ls)) (hv : DVR G w kv kd) (hd : dvk sc n kd = some ds)
    (he : ∃ b, eqc (ds.map .d) (ds.map .d) ls = some b) (em : Bool) : (Instr.checkKey em 10000 kt kv).run P w = .ok () w := by
  obtain ⟨b, he⟩ := he
  have hq := eq_cells hv hv hd hd he
  obtain ⟨h1, h2, h3, h4⟩ := dvr_cells hv hd
  unfold keyInfo at hk
  split at hk
  · rename_i q ls' hu hl
    cases hk
    have hc := h4 rfl
    obtain ⟨i, hi⟩ := info_und hu
    have hlk := leafEq_int hu hl
    subst hlk
    simp only [eqv, cells1 hc, if_true] at hq
    cases kv <;> simp [sv] at hq
    rw [show (10000 : Nat) = 9999 + 1 from rfl, Instr.checkKey]
    simp only [Sem.run_bind, r_und hu, Result.andThen_ok, Sem.run_pure]
  · rename_i ls' hu hl
    cases hk
    have hc := h4 rfl
    have hlk := leafEq_bool hu hl
    subst hlk
    simp only [eqv, cells1 hc, if_true] at hq
    cases kv <;> simp [sv] at hq
    rw [show (10000 : Nat) = 9999 + 1 from rfl, Instr.checkKey]
    simp only [Sem.run_bind, r_und hu, Result.andThen_ok, Sem.run_pure]
  · rename_i ls' hu hl
    cases hk
    have hc := h4 rfl
    have hlk := leafEq_string hu hl
    subst hlk
    simp only [eqv, cells1 hc, if_true] at hq
    cases kv <;> simp [sv] at hq
    rw [show (10000 : Nat) = 9999 + 1 from rfl, Instr.checkKey]
    simp only [Sem.run_bind, r_und hu, Result.andThen_ok, Sem.run_pure]
  all_goals first | (cases hk; done) | skip
  all_goals
    rename_i ls' hu hl
    split at hk
    · cases hk
      obtain ⟨cs, rfl, hsz⟩ := h3 rfl
      obtain ⟨i, hi⟩ := info_und hu
      obtain ⟨x, p1, p2⟩ := leafCk_ok 12 kt ls hl 9988 w em cs 0 b (by omega) (by simpa [Value.cells] using hq)
      rw [part_run hu rfl hi] at p1
      cases p1
      rw [← cellsOf_info hi, ← hsz] at p2
      simpa using p2
    · cases hk

/-- what a search in a map comes to -/
def FR (kv : Value) (ls : List (Nat × Nat)) (i : Nat) (ces : List MapEntry) : Option (Nat × DV) → Option (Nat × Value) → Prop
  | none, none => True
  | some (j, _), some (j', u) => j' = j ∧ i ≤ j ∧ ∃ c, ces[j - i]? = some c ∧ u = c.val ∧ eqv kv.cells c.key.cells ls = some true
  | _, _ => False

theorem FR.succ {kv : Value} {ls : List (Nat × Nat)} {i : Nat} {c : MapEntry} {ces : List MapEntry} {r : Option (Nat × DV)} {u : Option (Nat × Value)} (hf : FR kv ls (i + 1) ces r u) : FR kv ls i (c :: ces) r u := by
  cases r with
  | none => cases u with
    | none => trivial
    | some u => exact hf.elim
  | some r =>
    obtain ⟨j, v⟩ := r
    cases u with
    | none => exact hf.elim
    | some u =>
      obtain ⟨h1, h2, c', h3, h4, h5⟩ := hf
      refine ⟨h1, by omega, c', ?_, h4, h5⟩
      rw [show j - i = (j - (i + 1)) + 1 by omega]
      simpa using h3

def ERl (G : Nat → Prop) (w : World) : List MapEntry → List (DV × DV) → Prop
  | [], [] => True
  | c :: ces, e :: es => (DVR G w c.key e.1 ∧ DVR G w c.val e.2) ∧ ERl G w ces es
  | _, _ => False

theorem ERl_of : ∀ {ces : List MapEntry} {es : List (DV × DV)}, ER G w ces es → ERl G w ces es
  | [], [], _ => trivial
  | [], _ :: _, h => by have := h.1; simp at this
  | _ :: _, [], h => by have := h.1; simp at this
  | c :: ces, e :: es, h => ⟨h.2 0 c e rfl rfl, ERl_of ⟨by simpa using h.1, fun i c e h1 h2 => h.2 (i + 1) c e (by simpa using h1) (by simpa using h2)⟩⟩

theorem find_agg {kt : TypeId} {n : Nat} {ls : List (Nat × Nat)} {kv : Value} {kd : DV} (hl : leafEq P 12 kt = some ls) (hn : n = P.cellsOf kt) {d : TypeDesc} (hu : P.underlying kt = some d) (hg : aggD d = true) (hv : DVR G w kv kd) :
    ∀ (ces : List MapEntry) (es : List (DV × DV)) (i : Nat) (r : Option (Nat × DV)), ERl G w ces es → mfind false n ls kd es i = some r → ∃ u, (Instr.findAsking kt kv ces i).run P w = .ok u w ∧ FR kv ls i ces r u := by
  intro ces
  induction ces with
  | nil =>
    intro es i r he hm
    cases es with
    | nil => simp only [mfind, Option.some.injEq] at hm; subst hm; exact ⟨none, by simp [Instr.findAsking], trivial⟩
    | cons => exact he.elim
  | cons c ces ih =>
    intro es i r he hm
    cases es with
    | nil => exact he.elim
    | cons e es =>
      obtain ⟨⟨hk, hvl⟩, he⟩ := he
      simp only [mfind] at hm
      split at hm
      · rename_i xs ys hx hy
        obtain ⟨i0, hi0⟩ := info_und hu
        have key : ∀ b, eqc (xs.map .d) (ys.map .d) ls = some b → eqv kv.cells c.key.cells ls = some b ∧ (Op.equal kt kv c.key).run P w = .ok b w := by
          intro b hb
          have hq := eq_cells hv hk hx hy hb
          refine ⟨hq, ?_⟩
          obtain ⟨cs, rfl, hs1⟩ := (dvr_cells hv hx).2.2.1 rfl
          obtain ⟨cs', hck, hs2⟩ := (dvr_cells hk hy).2.2.1 rfl
          rw [hck] at hq ⊢
          obtain ⟨x, y, p1, p2, p3⟩ := leafEq_ok 12 kt ls hl 9988 w cs cs' 0 b (by omega) (by omega) (by simpa [Value.cells] using hq)
          rw [part_run hu hg hi0] at p1 p2
          cases p1; cases p2
          rw [← cellsOf_info hi0, ← hn] at p3
          rw [show (0 + n) = cs.size by omega, Array.extract_size] at p3
          rw [show cs.size = cs'.size by omega, Array.extract_size] at p3
          exact p3
        split at hm
        · rename_i hb
          cases hm
          obtain ⟨q1, q2⟩ := key true hb
          exact ⟨some (i, c.val), by simp [Instr.findAsking, q2], rfl, Nat.le_refl _, c, by simp, rfl, q1⟩
        · rename_i hb
          obtain ⟨q1, q2⟩ := key false hb
          obtain ⟨u, g1, g2⟩ := ih es (i + 1) r he hm
          exact ⟨u, by simp [Instr.findAsking, q2, g1], g2.succ⟩
        · cases hm
      · cases hm

theorem find_scal {d : TypeDesc} {q : Nat} {kv : Value} {kd : DV} (hd : ∀ a b c, sv q a b = some c → Instr.sameNow d a b = some c) (hv : DVR G w kv kd) :
    ∀ (ces : List MapEntry) (es : List (DV × DV)) (i : Nat) (r : Option (Nat × DV)), ERl G w ces es → mfind true 1 [(0, q)] kd es i = some r → ∃ u, Instr.findNow d kv ces i = some u ∧ FR kv [(0, q)] i ces r u := by
  intro ces
  induction ces with
  | nil =>
    intro es i r he hm
    cases es with
    | nil => simp only [mfind, Option.some.injEq] at hm; subst hm; exact ⟨none, by simp [Instr.findNow], trivial⟩
    | cons => exact he.elim
  | cons c ces ih =>
    intro es i r he hm
    cases es with
    | nil => exact he.elim
    | cons e es =>
      obtain ⟨⟨hk, hvl⟩, he⟩ := he
      simp only [mfind] at hm
      split at hm
      · rename_i xs ys hx hy
        have key : ∀ b, eqc (xs.map .d) (ys.map .d) [(0, q)] = some b → eqv kv.cells c.key.cells [(0, q)] = some b ∧ Instr.sameNow d kv c.key = some b := by
          intro b hb
          have hq := eq_cells hv hk hx hy hb
          refine ⟨hq, ?_⟩
          have h1 := (dvr_cells hv hx).2.2.2 rfl
          have h2 := (dvr_cells hk hy).2.2.2 rfl
          simp only [eqv, cells1 h1, cells1 h2, if_true] at hq
          split at hq
          · rename_i c0 d0 hc0 hd0
            cases hd0; cases hq
            simpa using hd _ _ _ hc0
          · cases hq
        split at hm
        · rename_i hb
          cases hm
          obtain ⟨q1, q2⟩ := key true hb
          exact ⟨some (i, c.val), by simp [Instr.findNow, q2], rfl, Nat.le_refl _, c, by simp, rfl, q1⟩
        · rename_i hb
          obtain ⟨q1, q2⟩ := key false hb
          obtain ⟨u, g1, g2⟩ := ih es (i + 1) r he hm
          exact ⟨u, by simp [Instr.findNow, q2, g1], g2.succ⟩
        · cases hm
      · cases hm

theorem sv_bits {q : Nat} {a b : Value} (n : Nat) (hs : sv q a b = some true) : Instr.sameBits n a b = true := by
  unfold sv at hs
  split at hs
  · split at hs
    · simp only [Option.some.injEq] at hs; rename_i hk; subst hk; simp [Instr.sameBits, hs]
    · cases hs
  · simp only [Option.some.injEq] at hs; simp [Instr.sameBits, hs]
  · simp only [Option.some.injEq, beq_iff_eq] at hs
    rename_i s t
    have : s = t := by
      cases s; cases t; simp only at hs; congr 1; exact Array.toList_inj.1 hs
    subst this
    simp only [Instr.sameBits]; exact (MapKept.bytes_beq s s).2 rfl
  · cases hs

theorem eqv_bits {xs ys : Array Value} : ∀ {ls : List (Nat × Nat)}, eqv xs ys ls = some true → ∀ p ∈ ls, ∃ a b, xs[p.1]? = some a ∧ ys[p.1]? = some b ∧ sv p.2 a b = some true
  | [], _ => by intro p hp; cases hp
  | (o, k) :: r, hq => by
    simp only [eqv] at hq
    split at hq
    · rename_i a b ha hb
      split at hq
      · rename_i c d hc hd
        simp only [Option.some.injEq, Bool.and_eq_true] at hq
        obtain ⟨rfl, rfl⟩ := hq
        intro p hp
        rcases List.mem_cons.1 hp with rfl | hp
        · exact ⟨a, b, ha, hb, hc⟩
        · exact eqv_bits hd p hp
      · cases hq
    · cases hq

theorem sv_symm {q : Nat} {a b : Value} {c : Bool} (hs : sv q a b = some c) : sv q b a = some c := by
  unfold sv at hs
  split at hs
  · split at hs
    · rename_i hk; subst hk; simp only [sv, if_true]; rw [← hs, Bool.beq_comm]
    · cases hs
  · simp only [sv]; rw [← hs, Bool.beq_comm]
  · simp only [sv]; rw [← hs, Bool.beq_comm]
  · cases hs

theorem eqv_symm {xs ys : Array Value} : ∀ {ls : List (Nat × Nat)} {c : Bool}, eqv xs ys ls = some c → eqv ys xs ls = some c
  | [], _, h => h
  | (o, k) :: r, c, hq => by
    simp only [eqv] at hq ⊢
    split at hq
    · rename_i a b ha hb
      split at hq
      · rename_i c d hc hd
        simp only [ha, hb, sv_symm hc, eqv_symm hd]; exact hq
      · cases hq
    · cases hq

theorem agg_bits {xs ys : Array Value} {ls : List (Nat × Nat)} (n : Nat) (hx : xs.size = ys.size) (hl : ls.map (·.1) = List.range xs.size) (hq : eqv xs ys ls = some true) : Instr.sameBits (n + 1) (.agg xs) (.agg ys) = true := by
  simp only [Instr.sameBits, hx, beq_self_eq_true, Bool.true_and, List.all_eq_true]
  intro p hp
  obtain ⟨i, hi⟩ := List.getElem?_of_mem hp
  have hi1 := List.getElem?_zip_eq_some.1 hi
  have hlt : i < xs.size := by have := get_lt hi1.1; simpa using this
  have hm : i ∈ ls.map (·.1) := by rw [hl]; exact List.mem_range.2 hlt
  obtain ⟨⟨o, k⟩, hpk, rfl⟩ := List.mem_map.1 hm
  obtain ⟨a, b, h1, h2, h3⟩ := eqv_bits hq _ hpk
  have e1 : p.1 = a := by have := hi1.1; simp only [Array.getElem?_toList] at this; rw [h1] at this; exact (Option.some.inj this).symm
  have e2 : p.2 = b := by have := hi1.2; simp only [Array.getElem?_toList] at this; rw [h2] at this; exact (Option.some.inj this).symm
  rw [e1, e2]
  exact sv_bits n h3

theorem stays_of {a b : Value} (hb : Instr.sameBits 10000 a b = true) : (Instr.keyThatStays a b).run P w = .ok b w := by
  simp only [Instr.keyThatStays, hb, if_true, Sem.run_pure]

/-- A SEARCH IN A MAP. -/
theorem find_run {kt : TypeId} {sc : Bool} {n : Nat} {ls : List (Nat × Nat)} {kv : Value} {kd : DV} {ces : List MapEntry} {es : List (DV × DV)} {r : Option (Nat × DV)} (hk : keyInfo P kt = some (sc, n, ls)) (hv : DVR G w kv kd)
    (he : ER G w ces es) (hm : mfind sc n ls kd es 0 = some r) :
    ∃ u, (Instr.findKey kt kv ces).run P w = .ok u w ∧ FR kv ls 0 ces r u := by
  have he := ERl_of he
  unfold keyInfo at hk
  split at hk
  · rename_i q ls' hu hl
    cases hk
    have hlk := leafEq_int hu hl
    subst hlk
    obtain ⟨u, g1, g2⟩ := find_scal (d := .int q) (q := 0) (fun a b c hs => by
      cases a <;> cases b <;> simp [sv] at hs
      simp [Instr.sameNow, hs]) hv ces es 0 r he hm
    exact ⟨u, MapKept.run_findKey hu g1, g2⟩
  · rename_i ls' hu hl
    cases hk
    have hlk := leafEq_bool hu hl
    subst hlk
    obtain ⟨u, g1, g2⟩ := find_scal (d := .bool) (q := 1) (fun a b c hs => by
      cases a <;> cases b <;> simp [sv] at hs
      simp [Instr.sameNow, hs]) hv ces es 0 r he hm
    exact ⟨u, MapKept.run_findKey hu g1, g2⟩
  · rename_i ls' hu hl
    cases hk
    have hlk := leafEq_string hu hl
    subst hlk
    obtain ⟨u, g1, g2⟩ := find_scal (d := .string) (q := 2) (fun a b c hs => by
      cases a <;> cases b <;> simp only [sv, Option.some.injEq, reduceCtorEq] at hs
      rename_i s t
      simp only [Instr.sameNow, Option.some.injEq, ← hs]
      rw [Bool.eq_iff_iff, MapKept.bytes_beq, beq_iff_eq]
      exact ⟨fun h => by rw [h], fun h => by cases s; cases t; simp only at h; congr 1; exact Array.toList_inj.1 h⟩) hv ces es 0 r he hm
    exact ⟨u, MapKept.run_findKey hu g1, g2⟩
  all_goals first | (cases hk; done) | skip
  all_goals
    rename_i ls' hu hl
    split at hk
    · cases hk
      obtain ⟨u, g1, g2⟩ := find_agg hl rfl hu rfl hv ces es 0 r he hm
      exact ⟨u, by rw [run_findKey_eq w (by rw [hu]) kv ces]; exact g1, g2⟩
    · cases hk

theorem key_stays {kt : TypeId} {sc : Bool} {n : Nat} {ls : List (Nat × Nat)} {kv kv' : Value} {kd kd' : DV} {ds ds' : List D} (hk : keyInfo P kt = some (sc, n, ls)) (hv : DVR G w kv kd) (hv' : DVR G w kv' kd') (hd : dvk sc n kd = some ds) (hd' : dvk sc n kd' = some ds')
    (hq : eqv kv.cells kv'.cells ls = some true) : (Instr.keyThatStays kv' kv).run P w = .ok kv w := by
  have hq' : eqv kv'.cells kv.cells ls = some true := eqv_symm hq
  obtain ⟨h1, h2, h3, h4⟩ := dvr_cells hv hd
  obtain ⟨h1', h2', h3', h4'⟩ := dvr_cells hv' hd'
  have scal : ∀ q, ls = [(0, q)] → sc = true → (Instr.keyThatStays kv' kv).run P w = .ok kv w := by
    intro q hl hs
    subst hl
    simp only [eqv, cells1 (h4 hs), cells1 (h4' hs), if_true] at hq'
    split at hq'
    · rename_i c0 d0 hc0 hd0
      cases hd0
      simp only [Bool.and_true, Option.some.injEq] at hq'
      subst hq'
      exact stays_of (sv_bits _ hc0)
    · cases hq'
  unfold keyInfo at hk
  split at hk
  · rename_i q ls' hu hl
    cases hk
    exact scal _ (leafEq_int hu hl) rfl
  · rename_i ls' hu hl
    cases hk
    exact scal _ (leafEq_bool hu hl) rfl
  · rename_i ls' hu hl
    cases hk
    exact scal _ (leafEq_string hu hl) rfl
  all_goals first | (cases hk; done) | skip
  all_goals
    rename_i ls' hu hl
    split at hk
    · rename_i hr
      cases hk
      obtain ⟨cs, rfl, hsz⟩ := h3 rfl
      obtain ⟨cs', rfl, hsz'⟩ := h3' rfl
      exact stays_of (agg_bits 9999 (by omega) (by rw [hsz']; exact hr) (by simpa [Value.cells] using hq'))
    · cases hk

end
end Go.Ab
