/-
  Merged texts, part f.
-/
import Derived.Test.YtollegfnkaomeaaZe
import Derived.MapKept
import Derived.WideKeyRuns
/-
  The engine, part mm: maps.
-/
namespace Go.Ab
section
variable {P : Program} {N : Nat} {G : Nat → Prop} {ι : Io} {e : Env} {h h' : Hp} {a : Act} {w : World} {o : Oper} {av : AV}
theorem toD_rel {v : Value} {c : CV} {d : D} (hc : CR G w ι h v c) (hd : toD c = some d) : DR G w v d := by
 cases hc <;> simp [toD] at hd
 case d x hx => subst hd; exact hx.fg
 case cl nl sz l hx _ => subst hd; exact hx.fg
theorem key_rel {kv : Value} {k : AV} {kd : DV} {sc : Bool} {n : Nat} {ls : List (Nat × Nat)} (hv : VR G w ι h kv k) (hk : keyDV ls sc n k = some kd) : DVR G w kv kd ∧ ∃ ds, dvk sc n kd = some ds ∧ ∃ b, eqc (ds.map .d) (ds.map .d) ls = some b := by
 unfold keyDV at hk
 split at hk
 ·split at hk
  ·rename_i hq
   cases hk
   exact ⟨.s _ _ (inv_d hv), _, rfl, _, hq⟩
  ·cases hk
 ·rename_i l
  split at hk
  ·rename_i ds hds
   split at hk
   ·rename_i hn hq
    cases hk
    have hn := Nat.eq_of_beq_eq_true hn
    obtain ⟨cs, rfl, h1, h2⟩ := inv_agg hv
    obtain ⟨g1, g2⟩ := toDs_get hds
    refine ⟨.g cs ds (by omega) fun i v x hv hx => ?_, ds, by simp [dvk, hn], _, hq⟩
    have q1 : l[i]? = some (l[i]'(by have := get_lt hx; omega)) := List.getElem?_eq_getElem _
    exact toD_rel (h2 i v _ hv q1) (g2 i _ x q1 hx)
   ·cases hk
  ·cases hk
 ·cases hk
theorem val_rel {v : Value} {x : AV} {vd : DV} {h1 : Hp} (r : HR G ι h w) (hv : VR G w ι h v x) (hx : valDV h x = some (vd, h1)) :
  ∃ G', HR G' ι h1 w ∧ DVR G' w v vd ∧ Ext G ι h w G' ι h1 w := by
 unfold valDV at hx
 split at hx
 ·split at hx
  ·rename_i d h2 hf
   cases hx
   obtain ⟨G', g1, g2, g3⟩ := frz_sound r (inv_c hv) hf
   exact ⟨G', g1, .s _ _ g2, g3⟩
  ·cases hx
 ·split at hx
  ·rename_i l ds h2 hf
   cases hx
   obtain ⟨cs, rfl, k1, k2⟩ := inv_agg hv
   obtain ⟨G', g1, g2, g3, g4⟩ := frzs_sound (vs := cs.toList) r (by simpa using k1) (fun i v x hv hx => k2 i v x (by simpa using hv) hx) hf
   exact ⟨G', g1, .g cs ds (by omega) (fun i v x hv hx => g4 i v x (by simpa using hv) hx), g2⟩
  ·cases hx
 ·cases hx
theorem dvr_cells {v : Value} {k : DV} {sc : Bool} {n : Nat} {ds : List D} (hv : DVR G w v k) (hd : dvk sc n k = some ds) :
  v.cells.size = ds.length ∧ (∀ (i : Nat) (u : Value) (x : D), v.cells[i]? = some u → ds[i]? = some x → DR G w u x) ∧ (sc = false → ∃ cs, v = .agg cs ∧ cs.size = n) ∧ (sc = true → v.cells = #[v]) := by
 cases hv with
 | s _ x hx =>
  cases sc with
  | false => simp [dvk] at hd
  | true =>
   simp only [dvk, Option.some.injEq] at hd
   subst hd
   have hc := hx.one.2
   refine ⟨by rw [hc]; rfl, fun i u y hu hy => ?_, by simp, fun _ => hc⟩
   rw [hc] at hu
   cases i with
   | zero => simp at hu hy; subst hu hy; exact hx
   | succ i => simp at hu
 | g cs l hn hc =>
  cases sc with
  | true => simp [dvk] at hd
  | false =>
   simp only [dvk] at hd
   split at hd
   ·rename_i hl
    cases hd
    exact ⟨by simp [Value.cells, hn], fun i u y hu hy => hc i u y (by simpa [Value.cells] using hu) hy, fun _ => ⟨cs, rfl, by omega⟩, by simp⟩
   ·cases hd
theorem eq_cells {v v' : Value} {k k' : DV} {sc : Bool} {n : Nat} {ds ds' : List D} {ls : List (Nat × Nat)} {b : Bool} (hv : DVR G w v k) (hv' : DVR G w v' k') (hd : dvk sc n k = some ds) (hd' : dvk sc n k' = some ds')
  (he : eqc (ds.map .d) (ds'.map .d) ls = some b) : eqv v.cells v'.cells ls = some b := by
 obtain ⟨h1, h2, _⟩ := dvr_cells hv hd
 obtain ⟨h1', h2', _⟩ := dvr_cells hv' hd'
 refine eqc_eqv (G := G) (w := w) (ι := []) (h := []) (by simpa using h1) (by simpa using h1') (fun i u x hu hx => ?_) (fun i u x hu hx => ?_) he
 ·simp only [List.getElem?_map, Option.map_eq_some_iff] at hx
  obtain ⟨d, hd, rfl⟩ := hx
  exact .d _ _ (h2 i u d hu hd)
 ·simp only [List.getElem?_map, Option.map_eq_some_iff] at hx
  obtain ⟨d, hd, rfl⟩ := hx
  exact .d _ _ (h2' i u d hu hd)
def CkOk (P : Program) (dd : Nat) (t : TypeId) (ls : List (Nat × Nat)) : Prop :=
 ∀ (w : World) (em : Bool) (xs : Array Value) (off : Nat) (b : Bool), off + P.cellsOf t ≤ xs.size → eqv xs xs (ls.map fun p => (off + p.1, p.2)) = some b →
  ∃ x, (part t xs off).run P w = .ok x w ∧ (Instr.checkKey em dd t x).run P w = .ok () w
theorem ckFields (em : Bool) (dd : Nat) (xs : Array Value) (w : World) (n : Nat) (hx : n ≤ xs.size) : ∀ (fs : List Field) (g : Field → Option (List (Nat × Nat))) (ls : List (List (Nat × Nat))) (b : Bool),
  (∀ f ∈ fs, ∀ l, g f = some l → f.name ≠ "_" ∧ ∃ l0, l = l0.map (fun p => (f.offset + p.1, p.2)) ∧ CkOk P dd f.type l0 ∧ f.offset + P.cellsOf f.type ≤ n) →
  fs.mapM g = some ls → eqv xs xs ls.flatten = some b →
  ∀ f ∈ fs, f.name ≠ "_" ∧ ∃ x, (part f.type xs f.offset).run P w = .ok x w ∧ (Instr.checkKey em dd f.type x).run P w = .ok () w := by
 intro fs
 induction fs with
 | nil => intro g ls b _ _ _ f hf; cases hf
 | cons f fs ih =>
  intro g ls b hall hm hb
  obtain ⟨l, ls', h1, h2, rfl⟩ := mapM_cons_some hm
  rw [List.flatten_cons] at hb
  obtain ⟨b1, b2, k1, k2, rfl⟩ := eqv_append hb
  obtain ⟨hn, l0, rfl, hok, hle⟩ := hall f (by simp) l h1
  have hrest := ih g ls' b2 (fun f' hf' => hall f' (by simp [hf'])) h2 k2
  intro f' hf'
  rcases List.mem_cons.1 hf' with rfl | hf'
  ·exact ⟨hn, hok w em xs _ b1 (by omega) k1⟩
  ·exact hrest f' hf'
theorem ckItems (em : Bool) (dd : Nat) (el : TypeId) (xs : Array Value) (w : World) (n : Nat) (hx : n ≤ xs.size) : ∀ (is : List Nat) (g : Nat → Option (List (Nat × Nat))) (ls : List (List (Nat × Nat))) (b : Bool),
  (∀ i ∈ is, ∀ l, g i = some l → ∃ l0, l = l0.map (fun p => (i * P.cellsOf el + p.1, p.2)) ∧ CkOk P dd el l0 ∧ i * P.cellsOf el + P.cellsOf el ≤ n) →
  is.mapM g = some ls → eqv xs xs ls.flatten = some b →
  ∀ i ∈ is, ∃ x, (part el xs (i * P.cellsOf el)).run P w = .ok x w ∧ (Instr.checkKey em dd el x).run P w = .ok () w := by
 intro is
 induction is with
 | nil => intro g ls b _ _ _ f hf; cases hf
 | cons i is ih =>
  intro g ls b hall hm hb
  obtain ⟨l, ls', h1, h2, rfl⟩ := mapM_cons_some hm
  rw [List.flatten_cons] at hb
  obtain ⟨b1, b2, k1, k2, rfl⟩ := eqv_append hb
  obtain ⟨l0, rfl, hok, hle⟩ := hall i (by simp) l h1
  have hrest := ih g ls' b2 (fun i' hi' => hall i' (by simp [hi'])) h2 k2
  intro i' hi'
  rcases List.mem_cons.1 hi' with rfl | hi'
  ·exact hok w em xs _ b1 (by omega) k1
  ·exact hrest i' hi'
theorem leafCk_ok : ∀ (d : Nat) (t : TypeId) (ls : List (Nat × Nat)), leafEq P d t = some ls → ∀ k, CkOk P (k + d) t ls := by
 intro d
 induction d with
 | zero => intro t ls h; simp [leafEq] at h
 | succ d ih =>
  intro t ls h k w em xs off b hx hb
  unfold leafEq at h
  cases hu : P.underlying t with
  | none => simp [hu] at h
  | some kd =>
   obtain ⟨i, hi⟩ := info_und hu
   have hsz := cellsOf_info hi
   rw [hu] at h
   have scalar : ∀ (q : Nat), aggD kd = false → ls = [(0, q)] → (∀ x c, sv q x x = some c → (Instr.checkKey em (k + (d + 1)) t x).run P w = .ok () w) →
     ∃ x, (part t xs off).run P w = .ok x w ∧ (Instr.checkKey em (k + (d + 1)) t x).run P w = .ok () w := by
    intro q ha hl hrun
    subst hl
    simp only [List.map_cons, List.map_nil, eqv, Nat.add_zero] at hb
    split at hb
    ·rename_i x y h1 h2
     rw [h1] at h2
     cases h2
     split at hb
     ·rename_i c e hc he
      exact ⟨x, part_run1 hu ha h1, hrun x c hc⟩
     ·cases hb
    ·cases hb
   cases kd
   case int q =>
    simp only [Option.some.injEq] at h
    refine scalar 0 rfl h.symm fun x c hc => ?_
    cases x <;> simp [sv] at hc
    simp [Instr.checkKey, r_und hu]
   case bool =>
    simp only [Option.some.injEq] at h
    refine scalar 1 rfl h.symm fun x c hc => ?_
    cases x <;> simp [sv] at hc
    simp [Instr.checkKey, r_und hu]
   case string =>
    simp only [Option.some.injEq] at h
    refine scalar 2 rfl h.symm fun x c hc => ?_
    cases x <;> simp [sv] at hc
    simp [Instr.checkKey, r_und hu]
   case struct fs =>
    simp only at h
    split at h
    ·rename_i ls' hm
     split at h
     ·rename_i hcond
      cases h
      have hall : ∀ p ∈ ls'.flatten, p.1 < i.size := by
       have := hcond.2
       rw [List.all_eq_true] at this
       intro p hp
       have := this p hp
       rw [hsz] at this
       simpa using this
      rw [← eqv_extract (n := i.size) (by omega) (by omega) hall] at hb
      refine ⟨_, part_run hu rfl hi, ?_⟩
      rw [show k + (d + 1) = (k + d) + 1 from rfl, Instr.checkKey]
      simp only [Sem.run_bind, r_und hu, Result.andThen_ok]
      rw [← Array.forIn_toList]
      have each := ckFields (P := P) em (k + d) (xs.extract off (off + i.size)) w i.size (by simp; omega) fs.toList _ ls' b (by
       intro f hf l hl
       split at hl
       ·cases hl
       ·rename_i hnc
        simp only [Option.map_eq_some_iff] at hl
        obtain ⟨l0, hl0, rfl⟩ := hl
        refine ⟨fun e => hnc (.inl e), l0, rfl, ih f.type l0 hl0 k, ?_⟩
        rw [← hsz]
        exact Decidable.not_not.1 fun e => hnc (.inr e)) hm hb
      clear hm
      generalize fs.toList = L at each
      induction L with
      | nil => simp
      | cons f L ihL =>
       obtain ⟨hn, x, p1, p2⟩ := each f (by simp)
       simp only [List.forIn_cons, Sem.run_bind, hn, ne_eq, not_false_eq_true, if_true, Result.andThen_ok, p1, p2, Sem.run_pure]
       exact ihL (fun y hy => each y (by simp [hy]))
     ·cases h
    ·cases h
   case array n el =>
    simp only at h
    split at h
    ·rename_i ls' hm
     split at h
     ·rename_i hcond
      cases h
      have hall : ∀ p ∈ ls'.flatten, p.1 < i.size := by
       have := hcond.2
       rw [List.all_eq_true] at this
       intro p hp
       have := this p hp
       rw [hsz] at this
       simpa using this
      rw [← eqv_extract (n := i.size) (by omega) (by omega) hall] at hb
      refine ⟨_, part_run hu rfl hi, ?_⟩
      cases n with
      | zero => exact absurd rfl hcond.1
      | succ n =>
       have hel : ∃ ie, P.info? el = some ie := by
        have h0 : ∃ l, leafEq P d el = some l := by
         rw [List.range_succ_eq_map] at hm
         obtain ⟨l, _, h1, _, _⟩ := mapM_cons_some hm
         split at h1
         ·cases h1
         ·simp only [Option.map_eq_some_iff] at h1
          obtain ⟨l0, hl0, _⟩ := h1
          exact ⟨l0, hl0⟩
        obtain ⟨l, hl⟩ := h0
        cases d with
        | zero => simp [leafEq] at hl
        | succ d =>
         unfold leafEq at hl
         cases hue : P.underlying el with
         | none => simp [hue] at hl
         | some x => exact info_und hue
       obtain ⟨ie, hie⟩ := hel
       rw [show k + (d + 1) = (k + d) + 1 from rfl, Instr.checkKey]
       simp only [Sem.run_bind, r_und hu, Result.andThen_ok]
       simp only [Std.Legacy.Range.forIn_eq_forIn_range', Std.Legacy.Range.size, Nat.sub_zero, Nat.add_one_sub_one, Nat.div_one]
       have each := ckItems (P := P) em (k + d) el (xs.extract off (off + i.size)) w i.size (by simp; omega) (List.range (n + 1)) _ ls' b (by
        intro j hj l hl
        split at hl
        ·cases hl
        ·rename_i hnc
         simp only [Option.map_eq_some_iff] at hl
         obtain ⟨l0, hl0, rfl⟩ := hl
         refine ⟨l0, rfl, ih el l0 hl0 k, ?_⟩
         rw [← hsz]
         exact Decidable.not_not.1 hnc) hm hb
       rw [List.range_eq_range'] at each
       clear hm
       generalize List.range' 0 (n + 1) = L at each
       induction L with
       | nil => simp
       | cons j L ihL =>
        obtain ⟨x, p1, p2⟩ := each j (by simp)
        rw [cellsOf_info hie] at p1
        simp only [List.forIn_cons, Sem.run_bind, r_size hie, Result.andThen_ok, p1, p2, Sem.run_pure]
        exact ihL (fun y hy => each y (by simp [hy]))
     ·cases h
    ·cases h
   all_goals simp at h
theorem mfind_at {sc : Bool} {n : Nat} {ls : List (Nat × Nat)} {kd : DV} : ∀ {es : List (DV × DV)} {i : Nat} {j : Nat} {v : DV}, mfind sc n ls kd es i = some (some (j, v)) → i ≤ j ∧ ∃ e, es[j - i]? = some e ∧ e.2 = v
 | [], _, _, _, h => by simp [mfind] at h
 |e :: es, i, j, v, h => by
  simp only [mfind] at h
  split at h
  ·split at h
   ·simp only [Option.some.injEq, Prod.mk.injEq] at h
    obtain ⟨rfl, rfl⟩ := h
    exact ⟨Nat.le_refl _, e, by simp, rfl⟩
   ·obtain ⟨h1, e', h2, h3⟩ := mfind_at h
    refine ⟨by omega, e', ?_, h3⟩
    rw [show j - i = (j - (i + 1)) + 1 by omega]
    simpa using h2
   ·cases h
  ·cases h
theorem mfind_key {sc : Bool} {n : Nat} {ls : List (Nat × Nat)} {kd : DV} : ∀ {es : List (DV × DV)} {i : Nat} {j : Nat} {v : DV}, mfind sc n ls kd es i = some (some (j, v)) → ∀ e, es[j - i]? = some e → ∃ ds, dvk sc n e.1 = some ds
 | [], _, _, _, h, _, _ => by simp [mfind] at h
 |e :: es, i, j, v, h, e', he => by
  have hle := (mfind_at h).1
  simp only [mfind] at h
  split at h
  ·rename_i xs ys hx hy
   split at h
   ·simp only [Option.some.injEq, Prod.mk.injEq] at h
    obtain ⟨rfl, rfl⟩ := h
    simp at he; subst he; exact ⟨ys, hy⟩
   ·have h1 := (mfind_at h).1
    rw [show j - i = (j - (i + 1)) + 1 by omega] at he
    exact mfind_key h e' (by simpa using he)
   ·cases h
  ·cases h
theorem leafEq_int {t : TypeId} {k : IntKind} {ls : List (Nat × Nat)} (hu : P.underlying t = some (.int k)) (hl : leafEq P 12 t = some ls) : ls = [(0, 0)] := by
 unfold leafEq at hl; rw [hu] at hl; cases hl; rfl
theorem leafEq_bool {t : TypeId} {ls : List (Nat × Nat)} (hu : P.underlying t = some .bool) (hl : leafEq P 12 t = some ls) : ls = [(0, 1)] := by
 unfold leafEq at hl; rw [hu] at hl; cases hl; rfl
theorem leafEq_string {t : TypeId} {ls : List (Nat × Nat)} (hu : P.underlying t = some .string) (hl : leafEq P 12 t = some ls) : ls = [(0, 2)] := by
 unfold leafEq at hl; rw [hu] at hl; cases hl; rfl
theorem cells1 {v : Value} (h : v.cells = #[v]) (i : Nat) : v.cells[i]? = if i = 0 then some v else none := by
 rw [h]; cases i <;> simp
theorem key_ck {kt : TypeId} {sc : Bool} {n : Nat} {ls : List (Nat × Nat)} {kv : Value} {kd : DV} {ds : List D} (hk : keyInfo P kt = some (sc, n, ls)) (hv : DVR G w kv kd) (hd : dvk sc n kd = some ds)
  (he : ∃ b, eqc (ds.map .d) (ds.map .d) ls = some b) (em : Bool) : (Instr.checkKey em 10000 kt kv).run P w = .ok () w := by
 obtain ⟨b, he⟩ := he
 have hq := eq_cells hv hv hd hd he
 obtain ⟨h1, h2, h3, h4⟩ := dvr_cells hv hd
 unfold keyInfo at hk
 split at hk
 ·rename_i q ls' hu hl
  cases hk
  have hc := h4 rfl
  obtain ⟨i, hi⟩ := info_und hu
  have hlk := leafEq_int hu hl
  subst hlk
  simp only [eqv, cells1 hc, if_true] at hq
  cases kv <;> simp [sv] at hq
  rw [show (10000 : Nat) = 9999 + 1 from rfl, Instr.checkKey]
  simp only [Sem.run_bind, r_und hu, Result.andThen_ok, Sem.run_pure]
 ·rename_i ls' hu hl
  cases hk
  have hc := h4 rfl
  have hlk := leafEq_bool hu hl
  subst hlk
  simp only [eqv, cells1 hc, if_true] at hq
  cases kv <;> simp [sv] at hq
  rw [show (10000 : Nat) = 9999 + 1 from rfl, Instr.checkKey]
  simp only [Sem.run_bind, r_und hu, Result.andThen_ok, Sem.run_pure]
 ·rename_i ls' hu hl
  cases hk
  have hc := h4 rfl
  have hlk := leafEq_string hu hl
  subst hlk
  simp only [eqv, cells1 hc, if_true] at hq
  cases kv <;> simp [sv] at hq
  rw [show (10000 : Nat) = 9999 + 1 from rfl, Instr.checkKey]
  simp only [Sem.run_bind, r_und hu, Result.andThen_ok, Sem.run_pure]
 all_goals first | (cases hk; done) | skip
 all_goals
  rename_i ls' hu hl
  split at hk
  ·cases hk
   obtain ⟨cs, rfl, hsz⟩ := h3 rfl
   obtain ⟨i, hi⟩ := info_und hu
   obtain ⟨x, p1, p2⟩ := leafCk_ok 12 kt ls hl 9988 w em cs 0 b (by omega) (by simpa [Value.cells] using hq)
   rw [part_run hu rfl hi] at p1
   cases p1
   rw [← cellsOf_info hi, ← hsz] at p2
   simpa using p2
  ·cases hk
def FR (kv : Value) (ls : List (Nat × Nat)) (i : Nat) (ces : List MapEntry) : Option (Nat × DV) → Option (Nat × Value) → Prop
 | none, none => True
 | some (j, _), some (j', u) => j' = j ∧ i ≤ j ∧ ∃ c, ces[j - i]? = some c ∧ u = c.val ∧ eqv kv.cells c.key.cells ls = some true
 | _, _ => False
theorem FR.succ {kv : Value} {ls : List (Nat × Nat)} {i : Nat} {c : MapEntry} {ces : List MapEntry} {r : Option (Nat × DV)} {u : Option (Nat × Value)} (hf : FR kv ls (i + 1) ces r u) : FR kv ls i (c :: ces) r u := by
 cases r with
 | none => cases u with
  | none => trivial
  | some u => exact hf.elim
 | some r =>
  obtain ⟨j, v⟩ := r
  cases u with
  | none => exact hf.elim
  | some u =>
   obtain ⟨h1, h2, c', h3, h4, h5⟩ := hf
   refine ⟨h1, by omega, c', ?_, h4, h5⟩
   rw [show j - i = (j - (i + 1)) + 1 by omega]
   simpa using h3
def ERl (G : Nat → Prop) (w : World) : List MapEntry → List (DV × DV) → Prop
 | [], [] => True
 | c :: ces, e :: es => (DVR G w c.key e.1 ∧ DVR G w c.val e.2) ∧ ERl G w ces es
 | _, _ => False
theorem ERl_of : ∀ {ces : List MapEntry} {es : List (DV × DV)}, ER G w ces es → ERl G w ces es
 | [], [], _ => trivial
 | [], _ :: _, h => by have := h.1; simp at this
 | _ :: _, [], h => by have := h.1; simp at this
 | c :: ces, e :: es, h => ⟨h.2 0 c e rfl rfl, ERl_of ⟨by simpa using h.1, fun i c e h1 h2 => h.2 (i + 1) c e (by simpa using h1) (by simpa using h2)⟩⟩
theorem find_agg {kt : TypeId} {n : Nat} {ls : List (Nat × Nat)} {kv : Value} {kd : DV} (hl : leafEq P 12 kt = some ls) (hn : n = P.cellsOf kt) {d : TypeDesc} (hu : P.underlying kt = some d) (hg : aggD d = true) (hv : DVR G w kv kd) :
  ∀ (ces : List MapEntry) (es : List (DV × DV)) (i : Nat) (r : Option (Nat × DV)), ERl G w ces es → mfind false n ls kd es i = some r → ∃ u, (Instr.findAsking kt kv ces i).run P w = .ok u w ∧ FR kv ls i ces r u := by
 intro ces
 induction ces with
 | nil =>
  intro es i r he hm
  cases es with
  | nil => simp only [mfind, Option.some.injEq] at hm; subst hm; exact ⟨none, by simp [Instr.findAsking], trivial⟩
  | cons => exact he.elim
 | cons c ces ih =>
  intro es i r he hm
  cases es with
  | nil => exact he.elim
  | cons e es =>
   obtain ⟨⟨hk, hvl⟩, he⟩ := he
   simp only [mfind] at hm
   split at hm
   ·rename_i xs ys hx hy
    obtain ⟨i0, hi0⟩ := info_und hu
    have key : ∀ b, eqc (xs.map .d) (ys.map .d) ls = some b → eqv kv.cells c.key.cells ls = some b ∧ (Op.equal kt kv c.key).run P w = .ok b w := by
     intro b hb
     have hq := eq_cells hv hk hx hy hb
     refine ⟨hq, ?_⟩
     obtain ⟨cs, rfl, hs1⟩ := (dvr_cells hv hx).2.2.1 rfl
     obtain ⟨cs', hck, hs2⟩ := (dvr_cells hk hy).2.2.1 rfl
     rw [hck] at hq ⊢
     obtain ⟨x, y, p1, p2, p3⟩ := leafEq_ok 12 kt ls hl 9988 w cs cs' 0 b (by omega) (by omega) (by simpa [Value.cells] using hq)
     rw [part_run hu hg hi0] at p1 p2
     cases p1; cases p2
     rw [← cellsOf_info hi0, ← hn] at p3
     rw [show (0 + n) = cs.size by omega, Array.extract_size] at p3
     rw [show cs.size = cs'.size by omega, Array.extract_size] at p3
     exact p3
    split at hm
    ·rename_i hb
     cases hm
     obtain ⟨q1, q2⟩ := key true hb
     exact ⟨some (i, c.val), by simp [Instr.findAsking, q2], rfl, Nat.le_refl _, c, by simp, rfl, q1⟩
    ·rename_i hb
     obtain ⟨q1, q2⟩ := key false hb
     obtain ⟨u, g1, g2⟩ := ih es (i + 1) r he hm
     exact ⟨u, by simp [Instr.findAsking, q2, g1], g2.succ⟩
    ·cases hm
   ·cases hm
theorem find_scal {d : TypeDesc} {q : Nat} {kv : Value} {kd : DV} (hd : ∀ a b c, sv q a b = some c → Instr.sameNow d a b = some c) (hv : DVR G w kv kd) :
  ∀ (ces : List MapEntry) (es : List (DV × DV)) (i : Nat) (r : Option (Nat × DV)), ERl G w ces es → mfind true 1 [(0, q)] kd es i = some r → ∃ u, Instr.findNow d kv ces i = some u ∧ FR kv [(0, q)] i ces r u := by
 intro ces
 induction ces with
 | nil =>
  intro es i r he hm
  cases es with
  | nil => simp only [mfind, Option.some.injEq] at hm; subst hm; exact ⟨none, by simp [Instr.findNow], trivial⟩
  | cons => exact he.elim
 | cons c ces ih =>
  intro es i r he hm
  cases es with
  | nil => exact he.elim
  | cons e es =>
   obtain ⟨⟨hk, hvl⟩, he⟩ := he
   simp only [mfind] at hm
   split at hm
   ·rename_i xs ys hx hy
    have key : ∀ b, eqc (xs.map .d) (ys.map .d) [(0, q)] = some b → eqv kv.cells c.key.cells [(0, q)] = some b ∧ Instr.sameNow d kv c.key = some b := by
     intro b hb
     have hq := eq_cells hv hk hx hy hb
     refine ⟨hq, ?_⟩
     have h1 := (dvr_cells hv hx).2.2.2 rfl
     have h2 := (dvr_cells hk hy).2.2.2 rfl
     simp only [eqv, cells1 h1, cells1 h2, if_true] at hq
     split at hq
     ·rename_i c0 d0 hc0 hd0
      cases hd0; cases hq
      simpa using hd _ _ _ hc0
     ·cases hq
    split at hm
    ·rename_i hb
     cases hm
     obtain ⟨q1, q2⟩ := key true hb
     exact ⟨some (i, c.val), by simp [Instr.findNow, q2], rfl, Nat.le_refl _, c, by simp, rfl, q1⟩
    ·rename_i hb
     obtain ⟨q1, q2⟩ := key false hb
     obtain ⟨u, g1, g2⟩ := ih es (i + 1) r he hm
     exact ⟨u, by simp [Instr.findNow, q2, g1], g2.succ⟩
    ·cases hm
   ·cases hm
theorem sv_bits {q : Nat} {a b : Value} (n : Nat) (hs : sv q a b = some true) : Instr.sameBits n a b = true := by
 unfold sv at hs
 split at hs
 ·split at hs
  ·simp only [Option.some.injEq] at hs; rename_i hk; subst hk; simp [Instr.sameBits, hs]
  ·cases hs
 ·simp only [Option.some.injEq] at hs; simp [Instr.sameBits, hs]
 ·simp only [Option.some.injEq, beq_iff_eq] at hs
  rename_i s t
  have : s = t := by
   cases s; cases t; simp only at hs; congr 1; exact Array.toList_inj.1 hs
  subst this
  simp only [Instr.sameBits]; exact (MapKept.bytes_beq s s).2 rfl
 ·cases hs
theorem eqv_bits {xs ys : Array Value} : ∀ {ls : List (Nat × Nat)}, eqv xs ys ls = some true → ∀ p ∈ ls, ∃ a b, xs[p.1]? = some a ∧ ys[p.1]? = some b ∧ sv p.2 a b = some true
 | [], _ => by intro p hp; cases hp
 |(o, k) :: r, hq => by
  simp only [eqv] at hq
  split at hq
  ·rename_i a b ha hb
   split at hq
   ·rename_i c d hc hd
    simp only [Option.some.injEq, Bool.and_eq_true] at hq
    obtain ⟨rfl, rfl⟩ := hq
    intro p hp
    rcases List.mem_cons.1 hp with rfl | hp
    ·exact ⟨a, b, ha, hb, hc⟩
    ·exact eqv_bits hd p hp
   ·cases hq
  ·cases hq
theorem sv_symm {q : Nat} {a b : Value} {c : Bool} (hs : sv q a b = some c) : sv q b a = some c := by
 unfold sv at hs
 split at hs
 ·split at hs
  ·rename_i hk; subst hk; simp only [sv, if_true]; rw [← hs, Bool.beq_comm]
  ·cases hs
 ·simp only [sv]; rw [← hs, Bool.beq_comm]
 ·simp only [sv]; rw [← hs, Bool.beq_comm]
 ·cases hs
theorem eqv_symm {xs ys : Array Value} : ∀ {ls : List (Nat × Nat)} {c : Bool}, eqv xs ys ls = some c → eqv ys xs ls = some c
 | [], _, h => h
 |(o, k) :: r, c, hq => by
  simp only [eqv] at hq ⊢
  split at hq
  ·rename_i a b ha hb
   split at hq
   ·rename_i c d hc hd
    simp only [ha, hb, sv_symm hc, eqv_symm hd]; exact hq
   ·cases hq
  ·cases hq
theorem agg_bits {xs ys : Array Value} {ls : List (Nat × Nat)} (n : Nat) (hx : xs.size = ys.size) (hl : ls.map (·.1) = List.range xs.size) (hq : eqv xs ys ls = some true) : Instr.sameBits (n + 1) (.agg xs) (.agg ys) = true := by
 simp only [Instr.sameBits, hx, beq_self_eq_true, Bool.true_and, List.all_eq_true]
 intro p hp
 obtain ⟨i, hi⟩ := List.getElem?_of_mem hp
 have hi1 := List.getElem?_zip_eq_some.1 hi
 have hlt : i < xs.size := by have := get_lt hi1.1; simpa using this
 have hm : i ∈ ls.map (·.1) := by rw [hl]; exact List.mem_range.2 hlt
 obtain ⟨⟨o, k⟩, hpk, rfl⟩ := List.mem_map.1 hm
 obtain ⟨a, b, h1, h2, h3⟩ := eqv_bits hq _ hpk
 have e1 : p.1 = a := by have := hi1.1; simp only [Array.getElem?_toList] at this; rw [h1] at this; exact (Option.some.inj this).symm
 have e2 : p.2 = b := by have := hi1.2; simp only [Array.getElem?_toList] at this; rw [h2] at this; exact (Option.some.inj this).symm
 rw [e1, e2]
 exact sv_bits n h3
theorem stays_of {a b : Value} (hb : Instr.sameBits 10000 a b = true) : (Instr.keyThatStays a b).run P w = .ok b w := by
 simp only [Instr.keyThatStays, hb, if_true, Sem.run_pure]
theorem find_run {kt : TypeId} {sc : Bool} {n : Nat} {ls : List (Nat × Nat)} {kv : Value} {kd : DV} {ces : List MapEntry} {es : List (DV × DV)} {r : Option (Nat × DV)} (hk : keyInfo P kt = some (sc, n, ls)) (hv : DVR G w kv kd)
  (he : ER G w ces es) (hm : mfind sc n ls kd es 0 = some r) :
  ∃ u, (Instr.findKey kt kv ces).run P w = .ok u w ∧ FR kv ls 0 ces r u := by
 have he := ERl_of he
 unfold keyInfo at hk
 split at hk
 ·rename_i q ls' hu hl
  cases hk
  have hlk := leafEq_int hu hl
  subst hlk
  obtain ⟨u, g1, g2⟩ := find_scal (d := .int q) (q := 0) (fun a b c hs => by
   cases a <;> cases b <;> simp [sv] at hs
   simp [Instr.sameNow, hs]) hv ces es 0 r he hm
  exact ⟨u, MapKept.run_findKey hu g1, g2⟩
 ·rename_i ls' hu hl
  cases hk
  have hlk := leafEq_bool hu hl
  subst hlk
  obtain ⟨u, g1, g2⟩ := find_scal (d := .bool) (q := 1) (fun a b c hs => by
   cases a <;> cases b <;> simp [sv] at hs
   simp [Instr.sameNow, hs]) hv ces es 0 r he hm
  exact ⟨u, MapKept.run_findKey hu g1, g2⟩
 ·rename_i ls' hu hl
  cases hk
  have hlk := leafEq_string hu hl
  subst hlk
  obtain ⟨u, g1, g2⟩ := find_scal (d := .string) (q := 2) (fun a b c hs => by
   cases a <;> cases b <;> simp only [sv, Option.some.injEq, reduceCtorEq] at hs
   rename_i s t
   simp only [Instr.sameNow, Option.some.injEq, ← hs]
   rw [Bool.eq_iff_iff, MapKept.bytes_beq, beq_iff_eq]
   exact ⟨fun h => by rw [h], fun h => by cases s; cases t; simp only at h; congr 1; exact Array.toList_inj.1 h⟩) hv ces es 0 r he hm
  exact ⟨u, MapKept.run_findKey hu g1, g2⟩
 all_goals first | (cases hk; done) | skip
 all_goals
  rename_i ls' hu hl
  split at hk
  ·cases hk
   obtain ⟨u, g1, g2⟩ := find_agg hl rfl hu rfl hv ces es 0 r he hm
   exact ⟨u, by rw [run_findKey_eq w (by rw [hu]) kv ces]; exact g1, g2⟩
  ·cases hk
theorem key_stays {kt : TypeId} {sc : Bool} {n : Nat} {ls : List (Nat × Nat)} {kv kv' : Value} {kd kd' : DV} {ds ds' : List D} (hk : keyInfo P kt = some (sc, n, ls)) (hv : DVR G w kv kd) (hv' : DVR G w kv' kd') (hd : dvk sc n kd = some ds) (hd' : dvk sc n kd' = some ds')
  (hq : eqv kv.cells kv'.cells ls = some true) : (Instr.keyThatStays kv' kv).run P w = .ok kv w := by
 have hq' : eqv kv'.cells kv.cells ls = some true := eqv_symm hq
 obtain ⟨h1, h2, h3, h4⟩ := dvr_cells hv hd
 obtain ⟨h1', h2', h3', h4'⟩ := dvr_cells hv' hd'
 have scal : ∀ q, ls = [(0, q)] → sc = true → (Instr.keyThatStays kv' kv).run P w = .ok kv w := by
  intro q hl hs
  subst hl
  simp only [eqv, cells1 (h4 hs), cells1 (h4' hs), if_true] at hq'
  split at hq'
  ·rename_i c0 d0 hc0 hd0
   cases hd0
   simp only [Bool.and_true, Option.some.injEq] at hq'
   subst hq'
   exact stays_of (sv_bits _ hc0)
  ·cases hq'
 unfold keyInfo at hk
 split at hk
 ·rename_i q ls' hu hl
  cases hk
  exact scal _ (leafEq_int hu hl) rfl
 ·rename_i ls' hu hl
  cases hk
  exact scal _ (leafEq_bool hu hl) rfl
 ·rename_i ls' hu hl
  cases hk
  exact scal _ (leafEq_string hu hl) rfl
 all_goals first | (cases hk; done) | skip
 all_goals
  rename_i ls' hu hl
  split at hk
  ·rename_i hr
   cases hk
   obtain ⟨cs, rfl, hsz⟩ := h3 rfl
   obtain ⟨cs', rfl, hsz'⟩ := h3' rfl
   exact stays_of (agg_bits 9999 (by omega) (by rw [hsz']; exact hr) (by simpa [Value.cells] using hq'))
  ·cases hk
end
end Go.Ab

/-
  The engine, part mn: what the operations on maps do.
-/
namespace Go.Ab
section
variable {P : Program} {N : Nat} {G : Nat → Prop} {ι : Io} {e : Env} {h h' : Hp} {a : Act} {w : World} {o : Oper} {av : AV}
def lkRes (ok : Bool) (z : AV) : Option (Nat × DV) → AV
 | none => lkR ok z false
 | some (_, v) => lkR ok (avDV v) true
def upRes (es : List (DV × DV)) (kd vd : DV) : Option (Nat × DV) → List (DV × DV)
 | none => es ++ [(kd, vd)]
 | some (i, _) => es.set i (kd, vd)
def delRes (h : Hp) (l ver : Nat) (es : List (DV × DV)) : Option (Nat × DV) → Hp
 | none => h
 | some (i, _) => h.set l (.mp (ver + 1) (es.eraseIdx i))
theorem avDV_rel {v : Value} {x : DV} (hv : DVR G w v x) : VR G w ι h v (avDV x) := by
 cases hv with
 | s _ _ hd => exact .c _ _ (.d _ _ hd)
 | g cs l hn hc =>
  refine .agg cs _ (by simpa using hn) fun i u x hu hx => ?_
  simp only [List.getElem?_map, Option.map_eq_some_iff] at hx
  obtain ⟨d, hd, rfl⟩ := hx
  exact .d _ _ (hc i u d hu hd)
theorem map_at {v : Value} {l : Nat} {ver : Nat} {es : List (DV × DV)} (r : HR G ι h w) (hv : VR G w ι h v (.c (.mp l))) (hl : h[l]? = some (.mp ver es)) :
  ∃ b o ces clock, v = .map (some b) ∧ ι[l]? = some (b, o) ∧ w.heap[b]? = some (.map ces clock) ∧ Stamps ces.toList clock ∧ ER G w ces.toList es := by
 cases inv_c hv with
 | mp _ _ blk hb hk =>
  rw [hl] at hb
  cases hb
  obtain ⟨b, o, h1, h2⟩ := hk ver es rfl
  obtain ⟨b', o', ces, clock, g1, g2, g3, g4⟩ := r.blk l _ hl
  rw [h1] at g1
  cases g1
  exact ⟨b, o, ces, clock, h2, h1, g2, g3, g4⟩
theorem s_mkm (r : HR G ι h w) (t : TypeId) : OpRes G ι h w (.c (.mp h.length)) (h ++ [.mp 0 []]) ((do pure (.value (← Instr.makeMap t none)) : Sem Next).run P w) := by
 have hx := Ext.push_own r (.map #[] 0) (.mp 0 []) rfl
 have hr : HR G (ι ++ [(w.heap.size, 0)]) (h ++ [.mp 0 []]) (push w (.map #[] 0)) := HR.push_own r _ _ rfl ⟨w.heap.size, 0, #[], 0, by rw [← r.len]; simp, push_new w _, ⟨by simp, by simp⟩, ⟨rfl, by simp⟩⟩
 refine ⟨.map (some w.heap.size), push w (.map #[] 0), G, ι ++ [(w.heap.size, 0)], .inl ?_, hr, ?_, hx⟩
 ·simp [Instr.makeMap, push]
 ·refine .c _ _ (.mp _ _ (.mp 0 []) (by simp) fun ver es he => ⟨w.heap.size, 0, by rw [← r.len]; simp, rfl⟩)
theorem s_lkb {t kt el : TypeId} {sc : Bool} {n : Nat} {ls : List (Nat × Nat)} {ok : Bool} {z : Value} {ti : TypeInfo} {zv : AV} {kv : Value} {b clock : Nat} {ces : Array MapEntry} {es : List (DV × DV)} {k : AV} {kd : DV} {r0 : Option (Nat × DV)} (r : HR G ι h w)
  (hu : P.underlying t = some (.map kt el)) (hk : keyInfo P kt = some (sc, n, ls)) (hi : P.info? el = some ti) (hz : ti.zero = some z) (hzv : VR G w ι h z zv)
  (h2 : w.heap[b]? = some (.map ces clock)) (h4 : ER G w ces.toList es) (hkv : VR G w ι h kv k) (hkd : keyDV ls sc n k = some kd) (hf : mfind sc n ls kd es 0 = some r0) :
  OpRes G ι h w (lkRes ok zv r0) h ((do pure (.value (← Instr.lookup t (.map (some b)) kv ok)) : Sem Next).run P w) := by
 obtain ⟨g1, ds, g2, g3⟩ := key_rel hkv hkd
 obtain ⟨u, q1, q2⟩ := find_run hk g1 h4 hf
 have hck := key_ck hk g1 g2 g3 ces.isEmpty
 cases r0 with
 | none =>
  cases u with
  | some u => exact q2.elim
  | none =>
   refine OpRes.value (v := if ok then .tuple #[z, .bool false] else z) r ?_ ?_
   ·simp only [Instr.lookup, Sem.run_bind, r_und hu, Result.andThen_ok, MapKept.run_getObj_map h2, Sem.run_pure, hck, q1, r_zero hi hz]
   ·cases ok with
    | false => exact hzv
    | true =>
     refine .tup _ _ rfl fun i v x hv hx => ?_
     match i, hv, hx with
     | 0, hv, hx => simp at hv hx; subst hv hx; exact hzv
     | 1, hv, hx => simp at hv hx; subst hv hx; exact .c _ _ (.d _ _ (.bool _))
     | i + 2, hv, hx => simp at hv
 | some p =>
  obtain ⟨j, v⟩ := p
  cases u with
  | none => exact q2.elim
  | some u =>
   obtain ⟨j', uv⟩ := u
   obtain ⟨rfl, _, c, hc, rfl, _⟩ := q2
   have hev : VR G w ι h c.val (avDV v) := by
    obtain ⟨_, e0, he0, he1⟩ := mfind_at hf
    have := (h4.2 (j' - 0) c e0 (by simpa using hc) (by simpa using he0)).2
    rw [he1] at this
    exact avDV_rel this
   refine OpRes.value (v := if ok then .tuple #[c.val, .bool true] else c.val) r ?_ ?_
   ·simp only [Instr.lookup, Sem.run_bind, r_und hu, Result.andThen_ok, MapKept.run_getObj_map h2, Sem.run_pure, hck, q1]
   ·cases ok with
    | false => exact hev
    | true =>
     refine .tup _ _ rfl fun i v x hv hx => ?_
     match i, hv, hx with
     | 0, hv, hx => simp at hv hx; subst hv hx; exact hev
     | 1, hv, hx => simp at hv hx; subst hv hx; exact .c _ _ (.d _ _ (.bool _))
     | i + 2, hv, hx => simp at hv
theorem s_lk {t kt el : TypeId} {sc : Bool} {n : Nat} {ls : List (Nat × Nat)} {ok : Bool} {z : Value} {ti : TypeInfo} {zv : AV} {mv kv : Value} {l ver : Nat} {es : List (DV × DV)} {k : AV} {kd : DV} {r0 : Option (Nat × DV)} (r : HR G ι h w)
  (hu : P.underlying t = some (.map kt el)) (hk : keyInfo P kt = some (sc, n, ls)) (hi : P.info? el = some ti) (hz : ti.zero = some z) (hzv : VR G w ι h z zv)
  (hm : VR G w ι h mv (.c (.mp l))) (hl : h[l]? = some (.mp ver es)) (hkv : VR G w ι h kv k) (hkd : keyDV ls sc n k = some kd) (hf : mfind sc n ls kd es 0 = some r0) :
  OpRes G ι h w (lkRes ok zv r0) h ((do pure (.value (← Instr.lookup t mv kv ok)) : Sem Next).run P w) := by
 obtain ⟨b, o, ces, clock, rfl, h1, h2, h3, h4⟩ := map_at r hm hl
 exact s_lkb r hu hk hi hz hzv h2 h4 hkv hkd hf
theorem hasK_perm {sc : Bool} {n : Nat} {ls : List (Nat × Nat)} {k : DV} {a b : List (D × D)} (h : a.Perm b) : hasK sc n ls k a = hasK sc n ls k b := by
 induction h with
 | nil => rfl
 | cons x _ ih => simp only [hasK, ih]
 | swap x y l =>
  simp only [hasK]
  generalize cmpK sc n ls k x.1 = a
  generalize cmpK sc n ls k y.1 = b
  generalize hasK sc n ls k l = c
  cases a <;> cases b <;> cases c <;> simp only [orO, Option.some.injEq, reduceCtorEq]
  rename_i u v x
  cases u <;> cases v <;> rfl
 | trans _ _ i1 i2 => exact i1.trans i2
theorem setOk_mem : ∀ {es : List (D × D)}, setOk es = true ↔ ∀ e ∈ es, e.2 = .bool true
 | [] => by simp [setOk]
 |(x, y) :: r => by
  have ih := setOk_mem (es := r)
  constructor
  ·intro h
   unfold setOk at h
   split at h
   ·rename_i heq; cases heq
   ·rename_i heq
    cases heq
    intro e he
    rcases List.mem_cons.1 he with rfl | he
    ·rfl
    ·exact ih.1 h e he
   ·cases h
  ·intro h
   have h1 : y = .bool true := h (x, y) (by simp)
   subst h1
   exact ih.2 fun e he => h e (by simp [he])
theorem hasK_find {sc : Bool} {n : Nat} {ls : List (Nat × Nat)} {k : DV} : ∀ {es : List (D × D)} {b : Bool} {i : Nat}, hasK sc n ls k es = some b → setOk es = true →
  ∃ r, mfind sc n ls k (es.map fun e => (.s e.1, .s e.2)) i = some r ∧ (b = false → r = none) ∧ (b = true → ∃ j, r = some (j, .s (.bool true)))
 |[], b, i, h, _ => by
  simp only [hasK, Option.some.injEq] at h
  subst h
  exact ⟨none, rfl, fun _ => rfl, fun h => by cases h⟩
 |(x, y) :: r, b, i, h, ho => by
  have hy : y = .bool true := setOk_mem.1 ho (x, y) (by simp)
  subst hy
  have ho2 : setOk r = true := setOk_mem.2 fun e he => setOk_mem.1 ho e (by simp [he])
  simp only [hasK] at h
  cases hc : cmpK sc n ls k x with
  | none => rw [hc] at h; simp [orO] at h
  | some b0 =>
   cases h3 : hasK sc n ls k r with
   | none => rw [hc, h3] at h; simp [orO] at h
   | some c =>
    rw [hc, h3] at h
    simp only [orO, Option.some.injEq] at h
    subst h
    unfold cmpK at hc
    split at hc
    ·rename_i xs ys h1 h2
     simp only [List.map_cons, mfind, h1, h2, hc]
     cases b0 with
     | true => exact ⟨_, rfl, (fun h => by cases h), fun _ => ⟨i, rfl⟩⟩
     | false =>
      obtain ⟨r0, g1, g2, g3⟩ := hasK_find (i := i + 1) h3 ho2
      exact ⟨r0, g1, by simpa using g2, by simpa using g3⟩
    ·cases hc
theorem s_lkf {t kt el : TypeId} {sc : Bool} {n : Nat} {ls : List (Nat × Nat)} {ok : Bool} {z : Value} {ti : TypeInfo} {zv : AV} {mv kv : Value} {es : List (D × D)} {k : AV} {kd : DV} {b0 : Bool} (r : HR G ι h w)
  (hu : P.underlying t = some (.map kt el)) (hk : keyInfo P kt = some (sc, n, ls)) (hi : P.info? el = some ti) (hz : ti.zero = some z) (hzv : VR G w ι h z zv)
  (hm : VR G w ι h mv (.c (.d (.mpf es)))) (hkv : VR G w ι h kv k) (hkd : keyDV ls sc n k = some kd) (hf : hasK sc n ls kd es = some b0) (ho : setOk es = true) :
  OpRes G ι h w (lkR ok (if b0 then .c (.d (.bool true)) else zv) b0) h ((do pure (.value (← Instr.lookup t mv kv ok)) : Sem Next).run P w) := by
 have hd := inv_d hm
 cases hd with
 | mpf b clock ces es0 es1 hp hG hb hlen hst h1 h2 =>
  have her : ER G w ces.toList (es1.map fun e => (.s e.1, .s e.2)) := by
   refine ⟨by simpa using hlen, fun i c e hc he => ?_⟩
   rw [List.getElem?_map, Option.map_eq_some_iff] at he
   obtain ⟨e0, he0, rfl⟩ := he
   exact ⟨.s _ _ (h1 i c e0 hc he0), .s _ _ (h2 i c e0 hc he0)⟩
  have ho2 : setOk es1 = true := setOk_mem.2 fun e he => setOk_mem.1 ho e (hp.mem_iff.1 he)
  obtain ⟨r0, g1, g2, g3⟩ := hasK_find (i := 0) ((hasK_perm hp).trans hf) ho2
  have := s_lkb (P := P) (ok := ok) r hu hk hi hz hzv hb her hkv hkd g1
  cases b0 with
  | false =>
   have := g2 rfl
   subst this
   assumption
  | true =>
   obtain ⟨j, rfl⟩ := g3 rfl
   assumption
theorem s_lkn {t kt el : TypeId} {sc : Bool} {n : Nat} {ls : List (Nat × Nat)} {ok : Bool} {z : Value} {ti : TypeInfo} {zv : AV} {mv kv : Value} {k : AV} {kd : DV} (r : HR G ι h w)
  (hu : P.underlying t = some (.map kt el)) (hk : keyInfo P kt = some (sc, n, ls)) (hi : P.info? el = some ti) (hz : ti.zero = some z) (hzv : VR G w ι h z zv)
  (hm : VR G w ι h mv (.c (.d .nilm))) (hkv : VR G w ι h kv k) (hkd : keyDV ls sc n k = some kd) :
  OpRes G ι h w (lkR ok zv false) h ((do pure (.value (← Instr.lookup t mv kv ok)) : Sem Next).run P w) := by
 have hd := inv_d hm
 cases hd with
 | nilm =>
  obtain ⟨g1, ds, g2, g3⟩ := key_rel hkv hkd
  have hck := key_ck hk g1 g2 g3 true
  have h4 : ER G w (#[] : Array MapEntry).toList [] := ⟨rfl, fun i c e hc _ => by simp at hc⟩
  have hf : mfind sc n ls kd [] 0 = some none := rfl
  obtain ⟨u, q1, q2⟩ := find_run hk g1 h4 hf
  cases u with
  | some u => exact q2.elim
  | none =>
  refine OpRes.value (v := if ok then .tuple #[z, .bool false] else z) r ?_ ?_
  ·have hck2 : (Instr.checkKey (#[] : Array MapEntry).isEmpty 10000 kt kv).run P w = .ok () w := hck
   simp only [Instr.lookup, Sem.run_bind, r_und hu, Result.andThen_ok, Sem.run_pure, hck2, q1, r_zero hi hz]
  ·cases ok with
   | false => exact hzv
   | true =>
    refine .tup _ _ rfl fun i v x hv hx => ?_
    match i, hv, hx with
    | 0, hv, hx => simp at hv hx; subst hv hx; exact hzv
    | 1, hv, hx => simp at hv hx; subst hv hx; exact .c _ _ (.d _ _ (.bool _))
    | i + 2, hv, hx => simp at hv
theorem set_map {l b o ver : Nat} {es es' : List (DV × DV)} {ces ces' : Array MapEntry} {clock clock' : Nat} (r : HR G ι h w) (hl : h[l]? = some (.mp ver es)) (hi : ι[l]? = some (b, o)) (hb : w.heap[b]? = some (.map ces clock))
  (hs : Stamps ces'.toList clock') (he : ER G w ces'.toList es') :
  HR G ι (h.set l (.mp (ver + 1) es')) { w with heap := w.heap.setIfInBounds b (.map ces' clock') } ∧ Ext G ι h w G ι (h.set l (.mp (ver + 1) es')) { w with heap := w.heap.setIfInBounds b (.map ces' clock') } := by
 have hset := MapKept.heap_set (o' := .map ces' clock') hb
 have hkept : Kept ι ι w { w with heap := w.heap.setIfInBounds b (.map ces' clock') } l (.mp ver es) (.mp (ver + 1) es') := ⟨rfl, .inl (by omega)⟩
 have hx : Ext G ι h w G ι (h.set l (.mp (ver + 1) es')) { w with heap := w.heap.setIfInBounds b (.map ces' clock') } := Ext.set_own r hl hi rfl rfl hkept (by simp) (fun b' hb' => hset.2 b' hb')
 refine ⟨HR.set_own r hl hi rfl rfl hkept (by simp) (fun b' hb' => hset.2 b' hb') ⟨b, o, ces', clock', hi, hset.1, hs, he.mono (hx.g_same r)⟩, hx⟩
theorem er_push {ces : Array MapEntry} {es : List (DV × DV)} {kv xv : Value} {kd vd : DV} {n : Nat} (he : ER G w ces.toList es) (hk : DVR G w kv kd) (hv : DVR G w xv vd) : ER G w (ces.push { key := kv, val := xv, born := n }).toList (es ++ [(kd, vd)]) := by
 refine ⟨by simp [← he.1], fun i c e hc he' => ?_⟩
 rw [Array.toList_push] at hc
 rcases get_snoc hc with g | ⟨g, g'⟩
 ·rcases get_snoc he' with q | ⟨q, q'⟩
  ·exact he.2 i c e g q
  ·have := get_lt g; have := he.1; omega
 ·rcases get_snoc he' with q | ⟨q, q'⟩
  ·have := get_lt q; have := he.1; omega
  ·subst g' q'; exact ⟨hk, hv⟩
theorem er_set {ces : Array MapEntry} {es : List (DV × DV)} {kv xv : Value} {kd vd : DV} {i : Nat} (he : ER G w ces.toList es) (hk : DVR G w kv kd) (hv : DVR G w xv vd) : ER G w (ces.modify i fun e => { e with key := kv, val := xv }).toList (es.set i (kd, vd)) := by
 refine ⟨by simp [← he.1], fun j c e hc he' => ?_⟩
 rw [Array.getElem?_toList, Array.getElem?_modify] at hc
 rcases get_set he' with ⟨q1, q2, _⟩ | ⟨q1, q2⟩
 ·subst q1 q2
  rw [if_pos rfl, Option.map_eq_some_iff] at hc
  obtain ⟨c0, _, rfl⟩ := hc
  exact ⟨hk, hv⟩
 ·rw [if_neg (fun e => q1 e.symm)] at hc
  exact he.2 j c e (by simpa using hc) q2
theorem er_erase {ces : Array MapEntry} {es : List (DV × DV)} {i : Nat} (he : ER G w ces.toList es) : ER G w (ces.eraseIdxIfInBounds i).toList (es.eraseIdx i) := by
 have e : (ces.eraseIdxIfInBounds i).toList = ces.toList.eraseIdx i := by simp
 rw [e]
 refine ⟨by simp [List.length_eraseIdx, he.1], fun j c e hc he' => ?_⟩
 rw [List.getElem?_eraseIdx] at hc he'
 split at hc
 ·rename_i hj; rw [if_pos hj] at he'; exact he.2 _ c e hc he'
 ·rename_i hj; rw [if_neg hj] at he'; exact he.2 _ c e hc he'
theorem s_up {t kt el : TypeId} {sc : Bool} {n : Nat} {ls : List (Nat × Nat)} {mv kv xv : Value} {l ver : Nat} {es : List (DV × DV)} {k x : AV} {kd vd : DV} {h1 : Hp} {r0 : Option (Nat × DV)} (r : HR G ι h w)
  (hu : P.underlying t = some (.map kt el)) (hk : keyInfo P kt = some (sc, n, ls)) (hm : VR G w ι h mv (.c (.mp l))) (hkv : VR G w ι h kv k) (hkd : keyDV ls sc n k = some kd) (hxv : VR G w ι h xv x) (hvd : valDV h x = some (vd, h1))
  (hl : h1[l]? = some (.mp ver es)) (hf : mfind sc n ls kd es 0 = some r0) :
  ∃ w' G', (Instr.mapUpdate t mv kv xv).run P w = .ok () w' ∧ HR G' ι (h1.set l (.mp (ver + 1) (upRes es kd vd r0))) w' ∧
   Ext G ι h w G' ι (h1.set l (.mp (ver + 1) (upRes es kd vd r0))) w' := by
 obtain ⟨G1, r1, dv, x1⟩ := val_rel r hxv hvd
 obtain ⟨b, o, ces, clock, rfl, g1, g2, g3, g4⟩ := map_at r1 (hm.ext x1 r) hl
 obtain ⟨q1, ds, q2, q3⟩ := key_rel (hkv.ext x1 r) hkd
 obtain ⟨u, p1, p2⟩ := find_run hk q1 g4 hf
 have hck := key_ck hk q1 q2 q3 false
 cases r0 with
 | none =>
  cases u with
  | some u => exact p2.elim
  | none =>
   obtain ⟨a1, a2⟩ := set_map (ces' := ces.push { key := kv, val := xv, born := clock }) (clock' := clock + 1) r1 hl g1 g2 (by
    refine ⟨fun c hc => ?_, ?_⟩
    ·rw [Array.toList_push] at hc
     rcases List.mem_append.1 hc with hc | hc
     ·have := g3.1 c hc; omega
     ·rw [List.mem_singleton.1 hc]; exact Nat.lt_succ_self _
    ·rw [Array.toList_push, List.map_append, List.nodup_append]
     refine ⟨g3.2, by simp, fun x hx y hy => ?_⟩
     simp only [List.map_cons, List.map_nil, List.mem_singleton] at hy
     obtain ⟨c, hc, rfl⟩ := List.mem_map.1 hx
     have := g3.1 c hc
     omega) (er_push g4 q1 dv)
   refine ⟨_, G1, ?_, a1, x1.trans a2⟩
   simp only [Instr.mapUpdate, Sem.run_bind, r_und hu, Result.andThen_ok, MapKept.run_getObj_map g2, hck, p1, MapKept.run_setObj_map _ g2]
 | some p =>
  obtain ⟨j, v⟩ := p
  cases u with
  | none => exact p2.elim
  | some u =>
   obtain ⟨j', uv⟩ := u
   obtain ⟨rfl, _, c, hc, rfl, hq⟩ := p2
   simp only [Nat.sub_zero, Array.getElem?_toList] at hc
   obtain ⟨_, e0, he0, _⟩ := mfind_at hf
   have hckey := (g4.2 j' c e0 (by simpa using hc) (by simpa using he0)).1
   obtain ⟨ds', hds'⟩ := mfind_key hf e0 he0
   have hst := key_stays (w := w) hk q1 hckey q2 hds' hq
   obtain ⟨a1, a2⟩ := set_map (ces' := ces.modify j' fun e => { e with key := kv, val := xv }) (clock' := clock) r1 hl g1 g2 (by
    have hborn : (ces.modify j' fun e => { e with key := kv, val := xv }).toList.map (·.born) = ces.toList.map (·.born) := by
     apply List.ext_getElem?
     intro i
     simp only [List.getElem?_map, Array.getElem?_toList, Array.getElem?_modify]
     split
     ·cases ces[i]? <;> rfl
     ·rfl
    refine ⟨fun c' hc' => ?_, by rw [hborn]; exact g3.2⟩
    have : c'.born ∈ ces.toList.map (·.born) := by rw [← hborn]; exact List.mem_map.2 ⟨c', hc', rfl⟩
    obtain ⟨c2, hc2, e2⟩ := List.mem_map.1 this
    rw [← e2]; exact g3.1 c2 hc2) (er_set g4 q1 dv)
   refine ⟨_, G1, ?_, a1, x1.trans a2⟩
   simp only [Instr.mapUpdate, Sem.run_bind, r_und hu, Result.andThen_ok, MapKept.run_getObj_map g2, hck, p1, hc, Option.map_some, Option.getD_some, hst, MapKept.run_setObj_map _ g2]
theorem s_del {t kt el ty : TypeId} {u2 : TypeId} {sc : Bool} {n : Nat} {ls : List (Nat × Nat)} {mv kv : Value} {l ver : Nat} {es : List (DV × DV)} {k : AV} {kd : DV} {r0 : Option (Nat × DV)} (r : HR G ι h w)
  (hu : P.underlying t = some (.map kt el)) (hk : keyInfo P kt = some (sc, n, ls)) (hm : VR G w ι h mv (.c (.mp l))) (hkv : VR G w ι h kv k) (hkd : keyDV ls sc n k = some kd)
  (hl : h[l]? = some (.mp ver es)) (hf : mfind sc n ls kd es 0 = some r0) :
  ∃ w', (Builtin.delete_ #[t, u2] ty #[mv, kv]).run P w = .ok (.tuple #[]) w' ∧ HR G ι (delRes h l ver es r0) w' ∧
   Ext G ι h w G ι (delRes h l ver es r0) w' := by
 obtain ⟨b, o, ces, clock, rfl, g1, g2, g3, g4⟩ := map_at r hm hl
 obtain ⟨q1, ds, q2, q3⟩ := key_rel hkv hkd
 obtain ⟨u, p1, p2⟩ := find_run hk q1 g4 hf
 have hck := key_ck hk q1 q2 q3 ces.isEmpty
 cases r0 with
 | none =>
  cases u with
  | some u => exact p2.elim
  | none =>
   have hset : w.heap.setIfInBounds b (.map ces clock) = w.heap := by
    apply Array.ext_getElem?
    intro i
    by_cases e : i = b
    ·subst e; rw [(MapKept.heap_set g2).1, g2]
    ·exact (MapKept.heap_set g2).2 i e
   refine ⟨w, ?_, r, Ext.refl _ _ _ _⟩
   simp [Builtin.delete_, r_und hu, MapKept.run_getObj_map g2, hck, p1, MapKept.run_setObj_map _ g2, hset]
 | some p =>
  obtain ⟨j, v⟩ := p
  cases u with
  | none => exact p2.elim
  | some u =>
   obtain ⟨j', uv⟩ := u
   obtain ⟨rfl, _, c, hc, rfl, hq⟩ := p2
   have e : (ces.eraseIdxIfInBounds j').toList = ces.toList.eraseIdx j' := by simp
   obtain ⟨a1, a2⟩ := set_map (ces' := ces.eraseIdxIfInBounds j') (clock' := clock) r hl g1 g2 (by
    rw [e]
    refine ⟨fun c hc => g3.1 c (List.mem_of_mem_eraseIdx hc), ?_⟩
    exact List.Nodup.sublist ((List.eraseIdx_sublist _ _).map _) g3.2) (er_erase g4)
   refine ⟨_, ?_, a1, a2⟩
   simp [Builtin.delete_, r_und hu, MapKept.run_getObj_map g2, hck, p1, MapKept.run_setObj_map _ g2]
theorem s_lnm {t kt el ty : TypeId} {mv : Value} {l ver : Nat} {es : List (DV × DV)} (r : HR G ι h w) (hu : P.underlying t = some (.map kt el)) (hm : VR G w ι h mv (.c (.mp l))) (hl : h[l]? = some (.mp ver es)) :
  (Builtin.len_ #[t] ty #[mv]).run P w = .ok (.int .i64 es.length) w := by
 obtain ⟨b, o, ces, clock, rfl, g1, g2, g3, g4⟩ := map_at r hm hl
 have := g4.1
 simp only [Array.length_toList] at this
 simp [Builtin.len_, r_und hu, MapKept.run_getObj_map g2, goInt, this]
theorem mstep_apz {sz bytes : Nat} {z : List D} {x y : AV} (hs : mstep h (.apz sz bytes z) [x, y] = some (av, h')) :
  ∃ l n, x = .c (.d (.list true sz l)) ∧ y = .c (.d (.int .i64 n)) ∧ 0 < n ∧ n.toNat * bytes ≤ 140737488355328 ∧ av = .c (.arr h.length 0 0 n.toNat) ∧ h' = h ++ [.da true 0 sz (List.replicate n.toNat z)] := by
 unfold mstep at hs
 split at hs
 all_goals rename_i heq1 heq2
 all_goals first | (cases heq1; done) | skip
 ·simp only [MOp.apz.injEq] at heq1
  obtain ⟨rfl, rfl, rfl⟩ := heq1
  simp only [List.cons.injEq, and_true] at heq2
  obtain ⟨rfl, rfl⟩ := heq2
  split at hs
  ·rename_i hc
   obtain ⟨rfl, h2, h3⟩ := hc
   simp only [Option.some.injEq, Prod.mk.injEq] at hs
   exact ⟨_, _, rfl, rfl, h2, h3, hs.1.symm, hs.2.symm⟩
  ·cases hs
 ·cases hs
theorem mstep_lk {sc : Bool} {n : Nat} {ls : List (Nat × Nat)} {ok : Bool} {z m k : AV} (hs : mstep h (.lk sc n ls ok z) [m, k] = some (av, h')) :
  (∃ l ver es kd r0, m = .c (.mp l) ∧ h[l]? = some (.mp ver es) ∧ keyDV ls sc n k = some kd ∧ mfind sc n ls kd es 0 = some r0 ∧ av = (lkRes ok z r0) ∧ h' = h) ∨
  (∃ es kd b, m = .c (.d (.mpf es)) ∧ keyDV ls sc n k = some kd ∧ setOk es = true ∧ hasK sc n ls kd es = some b ∧ av = lkR ok (if b then .c (.d (.bool true)) else z) b ∧ h' = h) ∨
  (∃ kd, m = .c (.d .nilm) ∧ keyDV ls sc n k = some kd ∧ av = lkR ok z false ∧ h' = h) := by
 unfold mstep at hs
 split at hs
 all_goals rename_i heq1 heq2
 all_goals first | (cases heq1; done) | skip
 ·simp only [MOp.lk.injEq] at heq1
  obtain ⟨rfl, rfl, rfl, rfl, rfl⟩ := heq1
  simp only [List.cons.injEq, and_true] at heq2
  obtain ⟨rfl, rfl⟩ := heq2
  split at hs
  ·rename_i ver es kd h1 h2
   split at hs
   ·rename_i h3
    simp only [Option.some.injEq, Prod.mk.injEq] at hs
    exact .inl ⟨_, ver, es, kd, none, rfl, h1, h2, h3, hs.1.symm, hs.2.symm⟩
   ·rename_i j v h3
    simp only [Option.some.injEq, Prod.mk.injEq] at hs
    exact .inl ⟨_, ver, es, kd, some (j, v), rfl, h1, h2, h3, hs.1.symm, hs.2.symm⟩
   ·cases hs
  ·cases hs
 ·simp only [MOp.lk.injEq] at heq1
  obtain ⟨rfl, rfl, rfl, rfl, rfl⟩ := heq1
  simp only [List.cons.injEq, and_true] at heq2
  obtain ⟨rfl, rfl⟩ := heq2
  split at hs
  ·rename_i kd h1 h2
   split at hs
   ·rename_i h3
    simp only [Option.some.injEq, Prod.mk.injEq] at hs
    exact .inr (.inl ⟨_, kd, true, rfl, h1, h2, h3, hs.1.symm, hs.2.symm⟩)
   ·rename_i h3
    simp only [Option.some.injEq, Prod.mk.injEq] at hs
    exact .inr (.inl ⟨_, kd, false, rfl, h1, h2, h3, hs.1.symm, hs.2.symm⟩)
   ·cases hs
  ·cases hs
 ·simp only [MOp.lk.injEq] at heq1
  obtain ⟨rfl, rfl, rfl, rfl, rfl⟩ := heq1
  simp only [List.cons.injEq, and_true] at heq2
  obtain ⟨rfl, rfl⟩ := heq2
  split at hs
  ·rename_i kd h1
   simp only [Option.some.injEq, Prod.mk.injEq] at hs
   exact .inr (.inr ⟨kd, rfl, h1, hs.1.symm, hs.2.symm⟩)
  ·cases hs
 ·cases hs
theorem mstep_up {sc : Bool} {n : Nat} {ls : List (Nat × Nat)} {m k x : AV} (hs : mstep h (.up sc n ls) [m, k, x] = some (av, h')) :
  ∃ l ver es kd vd h1 r0, m = .c (.mp l) ∧ keyDV ls sc n k = some kd ∧ valDV h x = some (vd, h1) ∧ h1[l]? = some (.mp ver es) ∧ mfind sc n ls kd es 0 = some r0 ∧ av = .c .u ∧ h' = h1.set l (.mp (ver + 1) (upRes es kd vd r0)) := by
 unfold mstep at hs
 split at hs
 all_goals rename_i heq1 heq2
 all_goals first | (cases heq1; done) | skip
 ·simp only [MOp.up.injEq] at heq1
  obtain ⟨rfl, rfl, rfl⟩ := heq1
  simp only [List.cons.injEq, and_true] at heq2
  obtain ⟨rfl, rfl, rfl⟩ := heq2
  split at hs
  ·rename_i kd vd h1 hk hv
   split at hs
   ·rename_i ver es hl
    split at hs
    ·rename_i h3
     simp only [Option.some.injEq, Prod.mk.injEq] at hs
     exact ⟨_, ver, es, kd, vd, h1, none, rfl, hk, hv, hl, h3, hs.1.symm, hs.2.symm⟩
    ·rename_i j v h3
     simp only [Option.some.injEq, Prod.mk.injEq] at hs
     exact ⟨_, ver, es, kd, vd, h1, some (j, v), rfl, hk, hv, hl, h3, hs.1.symm, hs.2.symm⟩
    ·cases hs
   ·cases hs
  ·cases hs
 ·cases hs
theorem mstep_del {sc : Bool} {n : Nat} {ls : List (Nat × Nat)} {m k : AV} (hs : mstep h (.del sc n ls) [m, k] = some (av, h')) :
  ∃ l ver es kd r0, m = .c (.mp l) ∧ h[l]? = some (.mp ver es) ∧ keyDV ls sc n k = some kd ∧ mfind sc n ls kd es 0 = some r0 ∧ av = .tup [] ∧ h' = (delRes h l ver es r0) := by
 unfold mstep at hs
 split at hs
 all_goals rename_i heq1 heq2
 all_goals first | (cases heq1; done) | skip
 ·simp only [MOp.del.injEq] at heq1
  obtain ⟨rfl, rfl, rfl⟩ := heq1
  simp only [List.cons.injEq, and_true] at heq2
  obtain ⟨rfl, rfl⟩ := heq2
  split at hs
  ·rename_i ver es kd h1 h2
   split at hs
   ·rename_i h3
    simp only [Option.some.injEq, Prod.mk.injEq] at hs
    exact ⟨_, ver, es, kd, none, rfl, h1, h2, h3, hs.1.symm, hs.2.symm⟩
   ·rename_i j v h3
    simp only [Option.some.injEq, Prod.mk.injEq] at hs
    exact ⟨_, ver, es, kd, some (j, v), rfl, h1, h2, h3, hs.1.symm, hs.2.symm⟩
   ·cases hs
  ·cases hs
 ·cases hs
theorem mstep_lnm {m : AV} (hs : mstep h .lnm [m] = some (av, h')) : ∃ l ver es, m = .c (.mp l) ∧ h[l]? = some (.mp ver es) ∧ av = .c (.d (.int .i64 es.length)) ∧ h' = h := by
 unfold mstep at hs
 split at hs
 all_goals rename_i heq1 heq2
 all_goals first | (cases heq1; done) | skip
 ·simp only [List.cons.injEq, and_true] at heq2
  subst heq2
  split at hs
  ·rename_i ver es h1
   simp only [Option.some.injEq, Prod.mk.injEq] at hs
   exact ⟨_, ver, es, rfl, h1, hs.1.symm, hs.2.symm⟩
  ·cases hs
 ·cases hs
theorem mstep_mm {mx : Bool} {x y : AV} (hs : mstep h (.mm mx) [x, y] = some (av, h')) : ∃ k a b, x = .c (.d (.int k a)) ∧ y = .c (.d (.int k b)) ∧ av = .c (.d (.int k (if mx then (if a < b then b else a) else (if b < a then b else a)))) ∧ h' = h := by
 unfold mstep at hs
 split at hs
 all_goals rename_i heq1 heq2
 all_goals first | (cases heq1; done) | skip
 ·simp only [MOp.mm.injEq] at heq1
  subst heq1
  simp only [List.cons.injEq, and_true] at heq2
  obtain ⟨rfl, rfl⟩ := heq2
  split at hs
  ·rename_i hk
   subst hk
   simp only [Option.some.injEq, Prod.mk.injEq] at hs
   exact ⟨_, _, _, rfl, rfl, hs.1.symm, hs.2.symm⟩
  ·cases hs
 ·cases hs
theorem mstep_clr {sz : Nat} {z : List D} {x : AV} (hs : mstep h (.clr sz z) [x] = some (av, h')) :
  ∃ l v i n r es, x = .c (.arr l v i n) ∧ h[l]? = some (.da r v sz es) ∧ av = .tup [] ∧ h' = h.set l (.da r v sz (es.take i ++ (List.replicate n z ++ es.drop (i + n)))) := by
 unfold mstep at hs
 split at hs
 all_goals rename_i heq1 heq2
 all_goals first | (cases heq1; done) | skip
 ·simp only [MOp.clr.injEq] at heq1
  obtain ⟨rfl, rfl⟩ := heq1
  simp only [List.cons.injEq, and_true] at heq2
  subst heq2
  split at hs
  ·rename_i r v' sz' es hl
   split at hs
   ·rename_i hc
    obtain ⟨rfl, rfl⟩ := hc
    simp only [Option.some.injEq, Prod.mk.injEq] at hs
    exact ⟨_, _, _, _, _, _, rfl, hl, hs.1.symm, hs.2.symm⟩
   ·cases hs
  ·cases hs
 ·cases hs
theorem set_same {α : Type} {l : List α} {i : Nat} {a : α} (h : l[i]? = some a) : l.set i a = l := by
 apply List.ext_getElem?
 intro j
 rw [List.getElem?_set]
 split
 ·rename_i hij
  subst hij
  rw [if_pos (get_lt h), h]
 ·rfl
theorem s_clr {t el ty : TypeId} {ti : TypeInfo} {zv : Value} {x : Value} {l ver i n : Nat} {rl : Bool} {z : List D} {es : List (List D)} (r : HR G ι h w) (hu : P.underlying t = some (.slice el)) (hti : P.info? el = some ti) (hz0 : ti.zero = some zv)
  (hzl : z.length = ti.size) (hzs : zv.cells.size = ti.size) (hzr : ∀ (G : Nat → Prop) (w : World) (j : Nat) (y : Value) (x : D), zv.cells[j]? = some y → z[j]? = some x → DR G w y x)
  (hx : VR G w ι h x (.c (.arr l ver i n))) (hl : h[l]? = some (.da rl ver ti.size es)) :
  ∃ w', (Builtin.clear_ #[t] ty #[x]).run P w = .ok (.tuple #[]) w' ∧ HR G ι (h.set l (.da rl ver ti.size (es.take i ++ (List.replicate n z ++ es.drop (i + n))))) w' ∧ Ext G ι h w G ι (h.set l (.da rl ver ti.size (es.take i ++ (List.replicate n z ++ es.drop (i + n))))) w' := by
 have hnone : n = 0 → (∃ a c, x = .slice a 0 c) → ∃ w', (Builtin.clear_ #[t] ty #[x]).run P w = .ok (.tuple #[]) w' ∧ HR G ι (h.set l (.da rl ver ti.size (es.take i ++ (List.replicate n z ++ es.drop (i + n))))) w' ∧ Ext G ι h w G ι (h.set l (.da rl ver ti.size (es.take i ++ (List.replicate n z ++ es.drop (i + n))))) w' := by
  intro hn hx0
  subst hn
  have hes : es.take i ++ (List.replicate 0 z ++ es.drop (i + 0)) = es := by simp
  rw [hes, set_same hl]
  refine ⟨w, ?_, r, Ext.refl _ _ _ _⟩
  obtain ⟨a, c, rfl⟩ := hx0
  cases a <;> simp [Builtin.clear_, r_und hu]
 cases hx with
 | c _ _ hc =>
  cases hc with
  | arr _ _ _ _ _ blk hb ha hk hk0 =>
   rw [hl] at hb
   cases hb
   cases rl with
   | false =>
    obtain ⟨_, hn, rfl⟩ := hk0 _ _ rfl
    exact hnone hn ⟨_, _, rfl⟩
   | true =>
    obtain ⟨b, o, cap, h1, h2, h3, h4, hv⟩ := hk _ _ rfl
    rcases hv with rfl | ⟨hn, _, o', rfl⟩
    ·by_cases hn : n = 0
     ·exact hnone hn ⟨some _, _, by rw [hn]⟩
     ·obtain ⟨b', o', c, tt, fr, hmx, g1, g2, g3, g4, g5, g6⟩ := r.blk l _ hl
      rw [h1] at g1; cases g1
      have hzc : Builtin.zeroCells zv.cells n = (Array.range (n * zv.cells.size)).map (zv.cells[· % zv.cells.size]!) := rfl
      have hlz := laid_zero (G := G) (w := w) n (n * zv.cells.size) hzs hzl (hzr G w) (by rw [hzs]; exact Nat.le_refl _)
      rw [← hzc] at hlz
      have hzsz : (Builtin.zeroCells zv.cells n).toList.length = n * ti.size := by simp [zeroCells_size, hzs]
      have hone : ∀ y ∈ (Builtin.zeroCells zv.cells n).toList, y.oneCell' = true := by
       intro y hy
       obtain ⟨k, hk⟩ := List.mem_iff_getElem?.1 hy
       have hkl := get_lt hk
       rw [hzsz] at hkl
       have hs0 : 0 < ti.size := by
        rcases Nat.eq_zero_or_pos ti.size with h0 | h0
        ·rw [h0] at hkl; simp at hkl
        ·exact h0
       have hdiv : k / ti.size < n := (Nat.div_lt_iff_lt_mul hs0).2 hkl
       have hmod := Nat.mod_lt k hs0
       obtain ⟨v, g7, g8⟩ := hlz.2 (k / ti.size) z (k % ti.size) (z[k % ti.size]'(by omega)) (by rw [List.getElem?_replicate, if_pos hdiv]) (List.getElem?_eq_getElem _)
       rw [Nat.zero_add, Nat.div_add_mod'] at g7
       rw [Array.getElem?_toList, g7] at hk
       cases hk
       exact g8.one.1
      have hmul : (i + n) * ti.size ≤ es.length * ti.size := Nat.mul_le_mul_right _ h2
      rw [Nat.add_mul] at hmul
      obtain ⟨w', c', q1, q2, q3, q4, q5, q6, q7⟩ := storeCells_run P b (o + i * ti.size) tt fr (Builtin.zeroCells zv.cells n).toList w c 0 g2 g4 (by rw [hzsz]; omega) hone
      have hlen : (es.take i ++ (List.replicate n z ++ es.drop (i + n))).length = es.length := by
       simp only [List.length_append, List.length_take, List.length_replicate, List.length_drop]; omega
      have hsp : ∀ k, (es.take i ++ (List.replicate n z ++ es.drop (i + n)))[k]? = if i ≤ k ∧ k < i + n then some z else es[k]? := fun k => by
       have := splice_get es (List.replicate n z) i k (by simp; omega)
       rw [List.length_replicate] at this
       rw [this]
       by_cases hc : i ≤ k ∧ k < i + n
       ·rw [if_pos hc, if_pos hc, List.getElem?_replicate, if_pos (by omega)]
       ·rw [if_neg hc, if_neg hc]
      have hkept : Kept ι ι w w' l (.da true ver ti.size es) (.da true ver ti.size (es.take i ++ (List.replicate n z ++ es.drop (i + n)))) := by
       refine .inr ⟨rfl, rfl, rfl, hlen, rfl, fun _ b1 o1 hb1 => ?_⟩
       rw [h1] at hb1; cases hb1
       simp [bsize, q2, g2, q3]
      have hext := Ext.set_own (G := G) r hl h1 rfl rfl hkept q5 q6
      refine ⟨w', ?_, HR.set_own r hl h1 rfl rfl hkept q5 q6 ?_, hext⟩
      ·obtain ⟨m, rfl⟩ : ∃ m, n = m + 1 := ⟨n - 1, by omega⟩
       simp [Builtin.clear_, r_und hu, r_zero hti hz0, q1]
      ·refine ⟨b, o, c', tt, fr, by rw [hlen]; exact hmx, h1, q2, by rw [hlen, q3]; exact g3, by rw [q3]; exact g4, fun i1 e1 he1 => ?_, fun i1 e1 k x he1 hkx => ?_⟩
       ·rw [hsp] at he1
        split at he1
        ·cases he1; exact hzl
        ·exact g5 i1 e1 he1
       ·rw [hsp] at he1
        split at he1
        ·rename_i hin
         cases he1
         have hk' : k < ti.size := by have := get_lt hkx; omega
         obtain ⟨v, g7, g8⟩ := hlz.2 (i1 - i) z k x (by rw [List.getElem?_replicate, if_pos (by omega)]) hkx
         refine ⟨v, ?_, g8.ext hext r⟩
         have e1 : i1 * ti.size = i * ti.size + (i1 - i) * ti.size := by rw [← Nat.add_mul]; congr 1; omega
         have e2 : (i1 - i) * ti.size + ti.size ≤ n * ti.size := by
          have : (i1 - i + 1) * ti.size ≤ n * ti.size := Nat.mul_le_mul_right _ (by omega)
          rw [Nat.add_mul, Nat.one_mul] at this; exact this
         rw [q4, hzsz, if_pos (by omega), Array.getElem?_toList, ← g7]
         congr 1
         omega
        ·rename_i hin
         obtain ⟨y, hy, hcr⟩ := g6 i1 e1 k x he1 hkx
         refine ⟨y, ?_, hcr.ext hext r⟩
         have hk' : k < ti.size := by have := get_lt hkx; rw [g5 i1 e1 he1] at this; exact this
         have hsep : i1 * ti.size + k < i * ti.size ∨ i * ti.size + n * ti.size ≤ i1 * ti.size + k := by
          rcases Nat.lt_or_ge i1 i with hlt | hge
          ·left
           have : (i1 + 1) * ti.size ≤ i * ti.size := Nat.mul_le_mul_right _ hlt
           rw [Nat.add_mul, Nat.one_mul] at this; omega
          ·right
           have : (i + n) * ti.size ≤ i1 * ti.size := Nat.mul_le_mul_right _ (by omega)
           rw [Nat.add_mul] at this; omega
         rw [q4, hzsz, if_neg (by omega)]; exact hy
    ·exact hnone hn ⟨some _, _, rfl⟩
theorem l_makeMap {t : TypeId} {rs : Option Operand} (r : Rel N G ι e h a w) (hop : o.op = .makeMap t rs) (hs : astep e h (compOp P o) = some (av, h')) : OpRes G ι h w av h' ((execOp a.eval o).run P w) := by
 cases rs with
 | some x => simp only [compOp, hop] at hs; exact absurd hs bad_step
 | none =>
  simp only [compOp, hop, astep, evs, mstep, Option.some.injEq, Prod.mk.injEq] at hs
  obtain ⟨rfl, rfl⟩ := hs
  have := s_mkm (P := P) r.hr t
  simp only [execOp, hop, Option.map_none]
  exact this
theorem l_lookup {t : TypeId} {x i : Operand} {ok : Bool} (r : Rel N G ι e h a w) (hop : o.op = .lookup t x i ok) (hs : astep e h (compOp P o) = some (av, h')) : OpRes G ι h w av h' ((execOp a.eval o).run P w) := by
 simp only [compOp, hop] at hs
 split at hs
 ·rename_i kt el hu
  split at hs
  ·rename_i sc n ls x' i' ti hk hx hi hti
   split at hs
   ·rename_i z hz
    split at hs
    ·rename_i zv hzv
     simp only [astep, evs] at hs
     have hm := cx_sound hx r
     rcases mstep_lk hs with ⟨l, ver, es, kd, r0, h1, h2, h3, h4, rfl, rfl⟩ | ⟨es, kd, b, h1, h2, h3, h4, rfl, rfl⟩ | ⟨kd, h1, h2, rfl, rfl⟩
     ·rw [h1] at hm
      have := s_lk (P := P) (ok := ok) r.hr hu hk hti hz (tcav_sound hzv G w ι h') hm h2 (cx_sound hi r) h3 h4
      simp only [execOp, hop]
      exact this
     ·rw [h1] at hm
      have := s_lkf (P := P) (ok := ok) r.hr hu hk hti hz (tcav_sound hzv G w ι h') hm (cx_sound hi r) h2 h4 h3
      simp only [execOp, hop]
      exact this
     ·rw [h1] at hm
      have := s_lkn (P := P) (ok := ok) r.hr hu hk hti hz (tcav_sound hzv G w ι h') hm (cx_sound hi r) h2
      simp only [execOp, hop]
      exact this
    ·exact absurd hs bad_step
   ·exact absurd hs bad_step
  ·exact absurd hs bad_step
 ·exact absurd hs bad_step
theorem l_update {t : TypeId} {m k v : Operand} (r : Rel N G ι e h a w) (hop : o.op = .mapUpdate t m k v) (hs : astep e h (compOp P o) = some (av, h')) : OpRes G ι h w av h' ((execOp a.eval o).run P w) := by
 simp only [compOp, hop] at hs
 split at hs
 ·rename_i kt el hu
  split at hs
  ·rename_i sc n ls m' k' v' hk hm hkk hvv
   simp only [astep, evs] at hs
   obtain ⟨l, ver, es, kd, vd, h1, r0, g1, g2, g3, g4, g5, rfl, rfl⟩ := mstep_up hs
   have hmv := cx_sound hm r
   rw [g1] at hmv
   obtain ⟨w', G', q1, q2, q3⟩ := s_up (P := P) r.hr hu hk hmv (cx_sound hkk r) g2 (cx_sound hvv r) g3 g4 g5
   refine ⟨undef, w', G', ι, .inr ⟨?_, rfl⟩, q2, .c _ _ (.u _), q3⟩
   simp [execOp, hop, q1]
  ·exact absurd hs bad_step
 ·exact absurd hs bad_step
theorem l_insert {t : TypeId} {m k v : Operand} (r : Rel N G ι e h a w) (hop : o.op = .insert t m k v) (hs : astep e h (compOp P o) = some (av, h')) : OpRes G ι h w av h' ((execOp a.eval o).run P w) := by
 simp only [compOp, hop] at hs
 split at hs
 ·rename_i kt el hu
  split at hs
  ·rename_i sc n ls m' k' v' hk hm hkk hvv
   simp only [astep, evs] at hs
   obtain ⟨l, ver, es, kd, vd, h1, r0, g1, g2, g3, g4, g5, rfl, rfl⟩ := mstep_up hs
   have hmv := cx_sound hm r
   rw [g1] at hmv
   obtain ⟨w', G', q1, q2, q3⟩ := s_up (P := P) r.hr hu hk hmv (cx_sound hkk r) g2 (cx_sound hvv r) g3 g4 g5
   refine ⟨undef, w', G', ι, .inr ⟨?_, rfl⟩, q2, .c _ _ (.u _), q3⟩
   simp [execOp, hop, q1]
  ·exact absurd hs bad_step
 ·exact absurd hs bad_step
end
end Go.Ab

/-
  The engine, part o: built-in functions, composite values; every operation.
-/
namespace Go.Ab
section
variable {P : Program} {N : Nat} {G : Nat → Prop} {ι : Io} {e : Env} {h h' : Hp} {a : Act} {w : World} {o : Oper} {av : AV}
theorem arr_of_list {α : Type} {a : Array α} {l : List α} (h : a.toList = l) : a = l.toArray := by
 rw [← h]
theorem exec_len {c : Call} {x : Operand} {t : TypeId} (hop : o.op = .call c) (hc : c.callee = .builtin .len) (ha : c.args.toList = [x]) (ht : c.argTypes.toList = [t]) :
  (execOp a.eval o).run P w = ((Builtin.len_ #[t] o.type #[a.eval x]).run P w).andThen fun v w' => .ok (.value v) w' := by
 rw [execOp, hop]
 simp only [resolve, hc, arr_of_list ha, arr_of_list ht, List.map_toArray, List.map_cons, List.map_nil, Sem.run_bind, Sem.run_pure, Result.andThen_ok, invoke, builtin]
theorem exec_cap {c : Call} {x : Operand} {t : TypeId} (hop : o.op = .call c) (hc : c.callee = .builtin .cap) (ha : c.args.toList = [x]) (ht : c.argTypes.toList = [t]) :
  (execOp a.eval o).run P w = ((Builtin.cap_ #[t] o.type #[a.eval x]).run P w).andThen fun v w' => .ok (.value v) w' := by
 rw [execOp, hop]
 simp only [resolve, hc, arr_of_list ha, arr_of_list ht, List.map_toArray, List.map_cons, List.map_nil, Sem.run_bind, Sem.run_pure, Result.andThen_ok, invoke, builtin]
theorem exec_app {c : Call} {x y : Operand} {t u : TypeId} (hop : o.op = .call c) (hc : c.callee = .builtin .append) (ha : c.args.toList = [x, y]) (ht : c.argTypes.toList = [t, u]) :
  (execOp a.eval o).run P w = ((Builtin.append_ #[t, u] o.type #[a.eval x, a.eval y]).run P w).andThen fun v w' => .ok (.value v) w' := by
 rw [execOp, hop]
 simp only [resolve, hc, arr_of_list ha, arr_of_list ht, List.map_toArray, List.map_cons, List.map_nil, Sem.run_bind, Sem.run_pure, Result.andThen_ok, invoke, builtin]
theorem exec_del {c : Call} {x y : Operand} {t u : TypeId} (hop : o.op = .call c) (hc : c.callee = .builtin .delete) (ha : c.args.toList = [x, y]) (ht : c.argTypes.toList = [t, u]) :
  (execOp a.eval o).run P w = ((Builtin.delete_ #[t, u] o.type #[a.eval x, a.eval y]).run P w).andThen fun v w' => .ok (.value v) w' := by
 rw [execOp, hop]
 simp only [resolve, hc, arr_of_list ha, arr_of_list ht, List.map_toArray, List.map_cons, List.map_nil, Sem.run_bind, Sem.run_pure, Result.andThen_ok, invoke, builtin]
theorem exec_min {c : Call} {x y : Operand} {t u : TypeId} (hop : o.op = .call c) (hc : c.callee = .builtin .min) (ha : c.args.toList = [x, y]) (ht : c.argTypes.toList = [t, u]) :
  (execOp a.eval o).run P w = ((Builtin.min_ #[t, u] o.type #[a.eval x, a.eval y]).run P w).andThen fun v w' => .ok (.value v) w' := by
 rw [execOp, hop]
 simp only [resolve, hc, arr_of_list ha, arr_of_list ht, List.map_toArray, List.map_cons, List.map_nil, Sem.run_bind, Sem.run_pure, Result.andThen_ok, invoke, builtin]
theorem exec_max {c : Call} {x y : Operand} {t u : TypeId} (hop : o.op = .call c) (hc : c.callee = .builtin .max) (ha : c.args.toList = [x, y]) (ht : c.argTypes.toList = [t, u]) :
  (execOp a.eval o).run P w = ((Builtin.max_ #[t, u] o.type #[a.eval x, a.eval y]).run P w).andThen fun v w' => .ok (.value v) w' := by
 rw [execOp, hop]
 simp only [resolve, hc, arr_of_list ha, arr_of_list ht, List.map_toArray, List.map_cons, List.map_nil, Sem.run_bind, Sem.run_pure, Result.andThen_ok, invoke, builtin]
theorem exec_clr {c : Call} {x : Operand} {t : TypeId} (hop : o.op = .call c) (hc : c.callee = .builtin .clear) (ha : c.args.toList = [x]) (ht : c.argTypes.toList = [t]) :
  (execOp a.eval o).run P w = ((Builtin.clear_ #[t] o.type #[a.eval x]).run P w).andThen fun v w' => .ok (.value v) w' := by
 rw [execOp, hop]
 simp only [resolve, hc, arr_of_list ha, arr_of_list ht, List.map_toArray, List.map_cons, List.map_nil, Sem.run_bind, Sem.run_pure, Result.andThen_ok, invoke, builtin]
theorem apz_sound {sT uT el : TypeId} {ti : TypeInfo} {z : Value} {zd : List D} {k : IntKind} {n : Int} (ty : TypeId) (T : P.underlying sT = some (.slice el) ∧ P.underlying uT = some (.int k) ∧ P.info? el = some ti ∧ 0 < ti.bytes ∧ ti.zero = some z)
  (hr : HR G ι h w) (g3 : zd.length = ti.size) (g4 : z.cells.size = ti.size) (g5 : ∀ (j : Nat) (y : Value) (x : D), z.cells[j]? = some y → zd[j]? = some x → DR G w y x) (h2 : 0 < n) (h3 : n.toNat * ti.bytes ≤ 140737488355328) :
  ∃ v' w' G' ι', (Builtin.append_ #[sT, uT] ty #[.slice none 0 0, .int .i64 n]).run P w = .ok v' w' ∧ HR G' ι' (h ++ [.da true 0 ti.size (List.replicate n.toNat zd)]) w' ∧
   VR G' w' ι' (h ++ [.da true 0 ti.size (List.replicate n.toNat zd)]) v' (.c (.arr h.length 0 0 n.toNat)) ∧ Ext G ι h w G' ι' (h ++ [.da true 0 ti.size (List.replicate n.toNat zd)]) w' := by
 obtain ⟨hu, hu2, hi, hpos, hz⟩ := T
 obtain ⟨w1, hw1⟩ : ∃ w1 : World, w1 = { w with drawn := w.drawn + 1 } := ⟨_, rfl⟩
 have hh : w1.heap = w.heap := by rw [hw1]
 have hr1 := hr.same_heap hh
 have hx1 := Ext.same_heap (G := G) (ι := ι) (h := h) hh
 have hnb : n.toNat ≤ 140737488355328 := by
  have : n.toNat * 1 ≤ n.toNat * ti.bytes := Nat.mul_le_mul_left _ hpos
  omega
 have hwn : IntKind.i64.wrap n = n := wrap_id (by omega) (by omega)
 have hq : ∀ a b c, (Question.appendCap a b c).forced = false := fun _ _ _ => rfl
 obtain ⟨cap', hcap1, hcap2⟩ : ∃ cap', Question.cut (.appendCap n.toNat 0 el) (w.tape w.drawn (.appendCap n.toNat 0 el)) = cap' ∧ n.toNat ≤ cap' := ⟨_, rfl, by simp [Question.cut]⟩
 have hnext : Builtin.nextslicecap n.toNat 0 = n.toNat := by
  unfold Builtin.nextslicecap; rw [if_pos (by omega)]
 have h48 : (2 : Nat) ^ 48 = 281474976710656 := by decide
 have h48i : (2 : Int) ^ 48 = 281474976710656 := by decide
 have hbI : ¬ (2 : Int) ^ 48 < n * (ti.bytes : Int) := by
  have : n * (ti.bytes : Int) = ((n.toNat * ti.bytes : Nat) : Int) := by rw [Int.natCast_mul, Int.toNat_of_nonneg (by omega)]
  rw [this, h48i]; omega
 have hsmall : ¬ 2 ^ 48 < n.toNat * ti.bytes := by rw [h48]; omega
 have hnew : (if n.toNat * ti.size = 0 then (#[] : Array Value) else Builtin.zeroCells z.cells n.toNat) = Builtin.zeroCells z.cells n.toNat := by
  split
  ·rename_i h0
   have : (Builtin.zeroCells z.cells n.toNat).size = 0 := by rw [zeroCells_size, g4]; exact h0
   exact (Array.eq_empty_of_size_eq_zero this).symm
  ·rfl
 have hmax : ¬ IntKind.i64.max < ((n.toNat : Nat) : Int) := by
  have : IntKind.i64.max = 9223372036854775807 := by decide
  omega
 have hrun : (Builtin.append_ #[sT, uT] ty #[.slice none 0 0, .int .i64 n]).run P w =
   (.ok (.slice (some ⟨w1.heap.size, 0, none⟩) n.toNat cap') (push w1 (.cells (Builtin.zeroCells z.cells n.toNat ++ #[] ++ Builtin.zeroCells z.cells (cap' - n.toNat)) el)) : Result Value) := by
  have hle : ¬ n.toNat ≤ 0 := by omega
  have hn0 : ¬ n < 0 := by omega
  have hn0' : ¬ n ≤ 0 := by omega
  by_cases h0 : n.toNat * ti.size = 0
  ·rw [if_pos h0] at hnew
   rw [← hnew]
   simp only [Builtin.append_, List.getElem?_toArray, List.getElem?_cons_zero, List.getElem?_cons_succ, Sem.run_bind, r_und hu, r_und hu2, Result.andThen_ok, r_size hi, Sem.run_pure, asInt, asIntOf, hwn, hn0, r_info hi,
    gt_iff_lt, hbI, if_true, if_false, Nat.zero_add, Sem.run_ite, hle, hmax, false_and, hnext, hsmall, run_choose, hq, hcap1, run_askRoom, Bool.not_true, Bool.false_eq_true, h0]
   rw [← hw1]
   simp only [Builtin.firstCells, Sem.run_pure, Result.andThen_ok, r_zero hi hz, newRow, Sem.run_bind, run_newObj]
   rfl
  ·simp only [Builtin.append_, List.getElem?_toArray, List.getElem?_cons_zero, List.getElem?_cons_succ, Sem.run_bind, r_und hu, r_und hu2, Result.andThen_ok, r_size hi, Sem.run_pure, asInt, asIntOf, hwn, hn0, r_info hi,
    gt_iff_lt, hbI, if_true, if_false, Nat.zero_add, Sem.run_ite, hle, hmax, false_and, hnext, hsmall, run_choose, hq, hcap1, run_askRoom, Bool.not_true, Bool.false_eq_true, h0]
   rw [← hw1]
   simp only [Builtin.firstCells, Sem.run_pure, Result.andThen_ok, r_zero hi hz, newRow, Sem.run_bind, run_newObj, Array.empty_append, Array.append_empty]
   rfl
 have hl0 : laid ti.size (List.replicate n.toNat zd) G w1 (Builtin.zeroCells z.cells n.toNat) 0 := by
  have := laid_zero (G := G) (w := w1) n.toNat (n.toNat * z.cells.size) g4 g3 (fun j y x hy hx => (g5 j y x hy hx).ext hx1 hr) (by rw [g4]; exact Nat.le_refl _)
  exact this
 have hl := laid_append (c3 := Builtin.zeroCells z.cells (cap' - n.toNat)) hl0 (by rw [zeroCells_size, g4]; simp) (ys := []) (c2 := #[]) ⟨by simp, by simp⟩ (by simp)
 rw [List.append_nil] at hl
 obtain ⟨q1, q2, q3⟩ := new_da (n := n.toNat) (cap := cap') (k := n.toNat) el hr1 hl (by simp) hcap2 (by
  simp only [Array.size_append, zeroCells_size, g4, Array.size_empty, Nat.add_zero]
  rw [← Nat.add_mul]; apply Nat.mul_le_mul_right; omega) (by simp) (by simp; omega)
 exact ⟨_, _, G, _, hrun, q1, q2, hx1.trans q3⟩
theorem l_call {c : Call} (r : Rel N G ι e h a w) (hop : o.op = .call c) (hs : astep e h (compOp P o) = some (av, h')) :
  OpRes G ι h w av h' ((execOp a.eval o).run P w) := by
 cases hc : c.callee with
 | invoke _ _ =>
  simp only [compOp, hop, hc] at hs
  split at hs
  ·simp [astep] at hs
  ·exact absurd hs bad_step
 | value f =>
  simp only [compOp, hop, hc] at hs
  split at hs
  ·rename_i heq; cases heq
  ·split at hs
   ·split at hs
    ·simp [astep] at hs
    ·exact absurd hs bad_step
   ·exact absurd hs bad_step
  ·split at hs
   ·simp [astep] at hs
   ·exact absurd hs bad_step
  ·rename_i heq; cases heq
  ·exact absurd hs bad_step
 | builtin b =>
 simp only [compOp, hop, hc] at hs
 unfold compB at hs
 split at hs
 ·rename_i x t ha ht
  split at hs
  ·rename_i x' hx
   have hv := cx_sound hx r
   split at hs
   ·rename_i hu
    simp only [astep] at hs
    have hexec := exec_len (P := P) (a := a) (w := w) hop hc ha ht
    split at hs
    ·rename_i s hstr
     simp only [Option.some.injEq, Prod.mk.injEq] at hs
     obtain ⟨rfl, rfl⟩ := hs
     rw [hstr] at hv
     obtain ⟨bs, ex, ebs⟩ := inv_str hv
     refine OpRes.value r.hr (v := .int .i64 s.length) ?_ (.c _ _ (.d _ _ (.int _ _)))
     rw [hexec, ex]
     simp only [Builtin.len_, List.getElem?_toArray, List.getElem?_cons_zero, Sem.run_bind, r_und hu, Result.andThen_ok, goInt, Sem.run_pure]
     rw [str_size, ebs]
    ·cases hs
   ·rename_i el hu
    simp only [astep] at hs
    have hexec := exec_len (P := P) (a := a) (w := w) hop hc ha ht
    split at hs
    ·rename_i n hvw
     simp only [Option.some.injEq, Prod.mk.injEq] at hs
     obtain ⟨rfl, rfl⟩ := hs
     have hx : ∃ ad cap, a.eval x = .slice ad n cap := by
      unfold lenv at hvw
      split at hvw
      ·rename_i b o' sz' n' cap hsl
       cases hvw
       rw [hsl] at hv
       exact ⟨_, _, inv_sl hv⟩
      ·rename_i hxe
       obtain ⟨⟨sz, l⟩, h1, rfl⟩ := Option.map_eq_some_iff.1 hvw
       obtain ⟨ad, cap, ex, _⟩ := view_len r.hr hv h1
       exact ⟨ad, cap, ex⟩
     obtain ⟨ad, cap, ex⟩ := hx
     refine OpRes.value r.hr (v := .int .i64 n) ?_ (.c _ _ (.d _ _ (.int _ _)))
     rw [hexec, ex]
     simp [Builtin.len_, r_und hu, goInt]
    ·cases hs
   ·rename_i kt el hu
    simp only [astep, evs] at hs
    have hexec := exec_len (P := P) (a := a) (w := w) hop hc ha ht
    obtain ⟨l, ver, es, g1, g2, rfl, rfl⟩ := mstep_lnm hs
    rw [g1] at hv
    refine OpRes.value r.hr (v := .int .i64 es.length) ?_ (.c _ _ (.d _ _ (.int _ _)))
    rw [hexec, s_lnm r.hr hu hv g2]; rfl
   ·exact absurd hs bad_step
  ·exact absurd hs bad_step
 ·rename_i x t ha ht
  split at hs
  ·rename_i x' hx
   have hv := cx_sound hx r
   split at hs
   ·rename_i el hu
    have hexec := exec_cap (P := P) (a := a) (w := w) hop hc ha ht
    simp only [astep] at hs
    split at hs
    ·rename_i sz l hl
     simp only [Option.some.injEq, Prod.mk.injEq] at hs
     obtain ⟨rfl, rfl⟩ := hs
     rw [hl] at hv
     have ex : a.eval x = .slice none 0 0 := by
      revert hv
      generalize a.eval x = v
      intro hv
      cases inv_d hv; rfl
     refine OpRes.value r.hr (v := .int .i64 0) ?_ (.c _ _ (.d _ _ (.int _ _)))
     rw [hexec, ex]
     simp [Builtin.cap_, r_und hu, goInt]
    ·rename_i nl sz l hl
     simp only [Option.some.injEq, Prod.mk.injEq] at hs
     obtain ⟨rfl, rfl⟩ := hs
     have hv0 := hv
     rw [hl] at hv
     obtain ⟨ad, cap, ex, _⟩ := view_len r.hr hv (sz := sz) (l := l) (by simp [view])
     have hcap : cap = l.length := by
      revert hv ex
      generalize a.eval x = v
      intro hv ex
      cases inv_c hv with
      | cl _ _ _ _ hd hcap => rw [ex] at hcap; exact hcap
     refine OpRes.value r.hr (v := .int .i64 l.length) ?_ (.c _ _ (.d _ _ (.int _ _)))
     rw [hexec, ex, hcap]
     simp [Builtin.cap_, r_und hu, goInt]
    ·cases hs
   ·exact absurd hs bad_step
  ·exact absurd hs bad_step
 ·rename_i x y t u ha ht
  split at hs
  ·rename_i x' y' hx hy
   split at hs
   ·simp only [astep, evs] at hs
    have hexec := exec_min (P := P) (a := a) (w := w) hop hc ha ht
    obtain ⟨k, n1, n2, g1, g2, rfl, rfl⟩ := mstep_mm hs
    have hvx := cx_sound hx r
    have hvy := cx_sound hy r
    rw [g1] at hvx
    rw [g2] at hvy
    refine OpRes.value r.hr (v := .int k (if n2 < n1 then n2 else n1)) ?_ (.c _ _ (.d _ _ (.int _ _)))
    rw [hexec, inv_int hvx, inv_int hvy]
    simp [Builtin.min_, Builtin.min2]
   ·exact absurd hs bad_step
  ·exact absurd hs bad_step
 ·rename_i x y t u ha ht
  split at hs
  ·rename_i x' y' hx hy
   split at hs
   ·simp only [astep, evs] at hs
    have hexec := exec_max (P := P) (a := a) (w := w) hop hc ha ht
    obtain ⟨k, n1, n2, g1, g2, rfl, rfl⟩ := mstep_mm hs
    have hvx := cx_sound hx r
    have hvy := cx_sound hy r
    rw [g1] at hvx
    rw [g2] at hvy
    refine OpRes.value r.hr (v := .int k (if n1 < n2 then n2 else n1)) ?_ (.c _ _ (.d _ _ (.int _ _)))
    rw [hexec, inv_int hvx, inv_int hvy]
    simp [Builtin.max_, Builtin.max2]
   ·exact absurd hs bad_step
  ·exact absurd hs bad_step
 ·rename_i x t ha ht
  split at hs
  ·rename_i x' hx
   split at hs
   ·rename_i el hu
    split at hs
    ·rename_i z ti hz hti
     simp only [astep, evs] at hs
     have hexec := exec_clr (P := P) (a := a) (w := w) hop hc ha ht
     obtain ⟨l, v, i, n, rl, es, g1, g2, rfl, rfl⟩ := mstep_clr hs
     have hvx := cx_sound hx r
     rw [g1] at hvx
     obtain ⟨ti', zv, k1, k2, k3, k4, k5⟩ := zds_sound hz
     rw [hti] at k1; cases k1
     obtain ⟨w', q1, q2, q3⟩ := s_clr (P := P) (ty := o.type) r.hr hu hti k2 k3 k4 k5 hvx g2
     exact ⟨.tuple #[], w', G, ι, .inl (by rw [hexec, q1]; rfl), q2, .tup _ _ rfl (by simp), q3⟩
    ·exact absurd hs bad_step
   ·exact absurd hs bad_step
  ·exact absurd hs bad_step
 ·rename_i x y t u ha ht
  split at hs
  ·rename_i x' y' hx hy
   split at hs
   ·rename_i kt el hu
    split at hs
    ·rename_i sc n ls hk
     simp only [astep, evs] at hs
     have hexec := exec_del (P := P) (a := a) (w := w) hop hc ha ht
     obtain ⟨l, ver, es, kd, r0, g1, g2, g3, g4, rfl, rfl⟩ := mstep_del hs
     have hm := cx_sound hx r
     rw [g1] at hm
     obtain ⟨w', q1, q2, q3⟩ := s_del (P := P) (ty := o.type) (u2 := u) r.hr hu hk hm (cx_sound hy r) g3 g2 g4
     exact ⟨.tuple #[], w', G, ι, .inl (by rw [hexec, q1]; rfl), q2, .tup _ _ rfl (by simp), q3⟩
    ·exact absurd hs bad_step
   ·exact absurd hs bad_step
  ·exact absurd hs bad_step
 ·rename_i x y t u ha ht
  split at hs
  ·rename_i x' y' hx hy
   split at hs
   ·rename_i el el2 hu hu2
    split at hs
    ·rename_i z ti hz hti
     split at hs
     ·rename_i hpos
      simp only [astep] at hs
      split at hs
      ·rename_i sz' ys hys
       split at hs
       ·rename_i hsz
        subst hsz
        obtain ⟨i, zv, g1, g2, g3, g4, g5⟩ := zds_sound hz
        rw [hti] at g1; cases g1
        have hexec := exec_app (P := P) (a := a) (w := w) hop hc ha ht
        obtain ⟨v', w', G', ι', k1, k2, k3, k4⟩ := app_sound (P := P) o.type ⟨hu, hu2, hti, rfl, rfl, hpos, g2, g4⟩ r.hr (cx_sound hx r) (cx_sound hy r) hys hs
        exact ⟨v', w', G', ι', .inl (by rw [hexec, k1]; rfl), k2, k3, k4⟩
       ·cases hs
      ·cases hs
     ·exact absurd hs bad_step
    ·exact absurd hs bad_step
   ·rename_i el k hu hu2
    split at hs
    ·rename_i z ti hz hti
     split at hs
     ·rename_i hpos
      simp only [astep, evs] at hs
      have hexec := exec_app (P := P) (a := a) (w := w) hop hc ha ht
      have hvx := cx_sound hx r
      have hvy := cx_sound hy r
      revert hs hvx hvy
      generalize ev e x' = xv
      generalize ev e y' = yv
      intro hs hvx hvy
      obtain ⟨l0, n0, rfl, rfl, h2, h3, rfl, rfl⟩ := mstep_apz hs
      obtain ⟨i, zv, g1, g2, g3, g4, g5⟩ := zds_sound hz
      rw [hti] at g1; cases g1
      have ex : a.eval x = .slice none 0 0 := by
       revert hvx
       generalize a.eval x = v
       intro hvx
       cases inv_d hvx; rfl
      obtain ⟨v', w', G', ι', k1, k2, k3, k4⟩ := apz_sound (P := P) (k := k) o.type ⟨hu, hu2, hti, hpos, g2⟩ r.hr g3 g4 (g5 _ _) h2 h3
      exact ⟨v', w', G', ι', .inl (by rw [hexec, ex, inv_int hvy, k1]; rfl), k2, k3, k4⟩
     ·exact absurd hs bad_step
    ·exact absurd hs bad_step
   ·exact absurd hs bad_step
  ·exact absurd hs bad_step
 ·exact absurd hs bad_step
theorem capsOf_sound {vs : List Value} : ∀ {avs : List AV} {cs : List CV}, capsOf avs = some cs → vs.length = avs.length →
  (∀ (i : Nat) (v : Value) (x : AV), vs[i]? = some v → avs[i]? = some x → VR G w ι h v x) → vs.length = cs.length ∧ ∀ (i : Nat) (v : Value) (x : CV), vs[i]? = some v → cs[i]? = some x → CR G w ι h v x := by
 induction vs with
 | nil =>
  intro avs cs hc hl _
  cases avs with
  | nil => simp only [capsOf, Option.some.injEq] at hc; subst hc; simp
  | cons => simp at hl
 | cons v vs ih =>
  intro avs cs hc hl hr
  cases avs with
  | nil => simp at hl
  | cons av avs =>
   unfold capsOf at hc
   split at hc
   ·rename_i h0; cases h0
   ·rename_i x r heq
    cases heq
    simp only [Option.map_eq_some_iff] at hc
    obtain ⟨l, hl', rfl⟩ := hc
    obtain ⟨k1, k2⟩ := ih hl' (by simpa using hl) (fun i v x hv hx => hr (i + 1) v x (by simpa using hv) (by simpa using hx))
    refine ⟨by simp [k1], fun i v' x' hv hx => ?_⟩
    cases i with
    | zero => simp at hv hx; subst hv hx; exact inv_c (hr 0 v _ rfl rfl)
    | succ i => simp at hv hx; exact k2 i v' x' hv hx
   ·cases hc
theorem evs_get {xs : List X} : (evs e xs).length = xs.length ∧ ∀ (i : Nat) (y : AV), (evs e xs)[i]? = some y → ∃ x, xs[i]? = some x ∧ y = ev e x := by
 induction xs with
 | nil => simp [evs]
 | cons x xs ih =>
  refine ⟨by simp [evs, ih.1], fun i y hy => ?_⟩
  cases i with
  | zero => simp [evs] at hy; exact ⟨x, rfl, hy.symm⟩
  | succ i => simp [evs] at hy; exact ih.2 i y hy
theorem args_sound {os : List Operand} {ts : List TypeId} {xs : List X} (r : Rel N G ι e h a w) (hc : cxs P ts os = some xs) :
  (os.map a.eval).length = (evs e xs).length ∧ ∀ (i : Nat) (v : Value) (x : AV), (os.map a.eval)[i]? = some v → (evs e xs)[i]? = some x → VR G w ι h v x := by
 obtain ⟨h1, h2⟩ := cxs_sound r hc
 obtain ⟨k1, k2⟩ := evs_get (e := e) (xs := xs)
 refine ⟨by simp [h1, k1], fun i v x hv hx => ?_⟩
 obtain ⟨y, hy, rfl⟩ := k2 i x hx
 simp only [List.getElem?_map, Option.map_eq_some_iff] at hv
 obtain ⟨op, hop, rfl⟩ := hv
 exact h2 i op y hop hy
theorem l_mkf {fn : Fn} {first caps : Array Operand} (r : Rel N G ι e h a w) (hop : o.op = .makeFunc fn first caps) (hs : astep e h (compOp P o) = some (av, h')) :
  OpRes G ι h w av h' ((execOp a.eval o).run P w) := by
 cases fn with
 | func f =>
  simp only [compOp, hop] at hs
  split at hs
  ·rename_i l hl
   split at hl
   rotate_left
   ·cases hl
   rename_i hlt
   split at hs
   ·rename_i hf
    simp only [astep, Option.map_eq_some_iff, Prod.mk.injEq] at hs
    obtain ⟨cs, hcs, rfl, rfl⟩ := hs
    obtain ⟨k1, k2⟩ := args_sound r hl
    obtain ⟨q1, q2⟩ := capsOf_sound hcs k1 k2
    have hfirst : first = #[] := by simpa using hf
    refine OpRes.value r.hr (v := .func (.func f) #[] (caps.map a.eval)) (by simp [execOp, hop, Instr.makeFunc, hfirst]) (.c _ _ (.fn _ false f (caps.map a.eval) _ (by rw [fnV_fn hlt]) (by simpa using q1) fun i v c hv hc => q2 i v c (by simpa using hv) hc))
   ·split at hs
    ·rename_i l' hl'
     split at hs
     ·rename_i hf
      simp only [astep, Option.map_eq_some_iff, Prod.mk.injEq] at hs
      obtain ⟨cs, hcs, rfl, rfl⟩ := hs
      obtain ⟨k1, k2⟩ := args_sound r hl'
      obtain ⟨q1, q2⟩ := capsOf_sound hcs k1 k2
      have hcaps : caps = #[] := by simpa using hf
      refine OpRes.value r.hr (v := .func (.func f) (first.map a.eval) #[]) (by simp [execOp, hop, Instr.makeFunc, hcaps]) (.c _ _ (.fn _ true f (first.map a.eval) _ (by rw [fnV_fn hlt]) (by simpa using q1) fun i v c hv hc => q2 i v c (by simpa using hv) hc))
     ·exact absurd hs bad_step
    ·exact absurd hs bad_step
  ·exact absurd hs bad_step
 | _ => simp only [compOp, hop] at hs; exact absurd hs bad_step
theorem l_mki {t : TypeId} {x : Operand} (r : Rel N G ι e h a w) (hop : o.op = .makeInterface t x) (hs : astep e h (compOp P o) = some (av, h')) : OpRes G ι h w av h' ((execOp a.eval o).run P w) := by
 simp only [compOp, hop] at hs
 split at hs
 ·exact absurd hs bad_step
 ·rename_i d x' hni hu hx
  have hv := cx_sound hx r
  have hexec : (execOp a.eval o).run P w = .ok (.value (.iface t (a.eval x))) w := by
   simp only [execOp, hop, Instr.makeInterface, Sem.run_bind, r_und hu, Result.andThen_ok]
   cases d <;> first | rfl | exact absurd rfl (hni _)
  simp only [astep, evs] at hs
  revert hs hv
  generalize ev e x' = xv
  intro hs hv
  cases xv with
  | c c =>
   simp only [mstep, Option.some.injEq, Prod.mk.injEq] at hs
   obtain ⟨rfl, rfl⟩ := hs
   refine OpRes.value r.hr hexec (.c _ _ (.fn _ false _ #[a.eval x] [c] (by rw [fnV_if]; rfl) rfl fun i v c' h1 h2 => ?_))
   cases i with
   | zero => simp at h1 h2; subst h1 h2; exact inv_c hv
   | succ i => simp at h1
  | agg l =>
   simp only [mstep, Option.some.injEq, Prod.mk.injEq] at hs
   obtain ⟨rfl, rfl⟩ := hs
   obtain ⟨cs, ex, e2, e3⟩ := inv_agg hv
   exact OpRes.value r.hr hexec (.c _ _ (.fn _ true _ cs l (by rw [fnV_if, ex]) e2 e3))
  | tup l => simp [mstep] at hs
 ·exact absurd hs bad_step
theorem inv_fn {v : Value} {b : Bool} {f : Nat} {caps : List CV} (hv : VR G w ι h v (.c (.fn b f caps))) : ∃ vs : Array Value, v = fnV b f vs ∧ vs.size = caps.length ∧ ∀ (i : Nat) (v : Value) (c : CV), vs[i]? = some v → caps[i]? = some c → CR G w ι h v c := by
 cases inv_c hv with
 | fn _ _ _ vs _ hv hn hc => exact ⟨vs, hv, hn, hc⟩
theorem ble_up {f : Nat} (h : Nat.blt f 4294967296 = false) : ∃ t, f = 4294967296 + t := by
 refine ⟨f - 4294967296, ?_⟩
 rcases Nat.lt_or_ge f 4294967296 with hl | hl
 ·have : Nat.blt f 4294967296 = true := Nat.ble_eq_true_of_le hl
  rw [h] at this; cases this
 ·omega
theorem pay_sound {b : Bool} {t : Nat} {vs : Array Value} {caps : List CV} {pv : AV} (hn : vs.size = caps.length) (hc : ∀ (i : Nat) (v : Value) (c : CV), vs[i]? = some v → caps[i]? = some c → CR G w ι h v c) (hp : payA b caps = some pv) :
  ∃ v, fnV b (4294967296 + t) vs = .iface t v ∧ VR G w ι h v pv := by
 rw [fnV_if]
 cases b with
 | true => simp only [payA, Option.some.injEq] at hp; subst hp; exact ⟨_, rfl, .agg _ _ hn hc⟩
 | false =>
  match caps, hp with
  | [c], hp =>
   simp only [payA, Option.some.injEq] at hp
   subst hp
   have h1 : 0 < vs.size := by rw [hn]; simp
   have h0 : vs[0]? = some (vs[0]'h1) := Array.getElem?_eq_getElem h1
   refine ⟨_, rfl, .c _ _ (hc 0 _ _ ?_ rfl)⟩
   rw [h0]; simp [Array.getD, h1]
theorem l_tya {x : Operand} {xt t : TypeId} {ok : Bool} (r : Rel N G ι e h a w) (hop : o.op = .typeAssert x xt t ok) (hs : astep e h (compOp P o) = some (av, h')) : OpRes G ι h w av h' ((execOp a.eval o).run P w) := by
 simp only [compOp, hop] at hs
 split at hs
 ·exact absurd hs bad_step
 ·rename_i d x' i hni hu hx hi
  split at hs
  ·rename_i z hz
   split at hs
   ·rename_i zv hzv
    have hv := cx_sound hx r
    simp only [astep, evs] at hs
    revert hs hv
    generalize ev e x' = xv
    intro hs hv
    match xv, hs with
    | .c (.fn b f caps), hs =>
     simp only [mstep, Option.map_eq_some_iff, Prod.mk.injEq] at hs
     obtain ⟨v0, hs1, rfl, rfl⟩ := hs
     unfold tyaS at hs1
     split at hs1
     ·cases hs1
     ·rename_i hf
      obtain ⟨t', rfl⟩ := ble_up hf
      obtain ⟨vs, ex, hn, hc⟩ := inv_fn hv
      split at hs1
      ·rename_i heq
       have heq : t' = t := by have := Nat.eq_of_beq_eq_true heq; omega
       subst heq
       split at hs1
       ·rename_i pv hp
        cases hs1
        obtain ⟨v, e1, e2⟩ := pay_sound (t := t') hn hc hp
        rw [e1] at ex
        have hexec : (execOp a.eval o).run P w = .ok (.value (if ok then .tuple #[v, .bool true] else v)) w := by
         simp only [execOp, hop, Instr.typeAssert, Sem.run_bind, r_und hu, Result.andThen_ok, ex]
         cases d <;> first | (simp; done) | exact absurd rfl (hni _)
        cases ok with
        | true =>
         refine OpRes.value r.hr hexec (.tup _ _ (by simp) fun i v' x h1 h2 => ?_)
         match i with
         | 0 => simp at h1 h2; subst h1 h2; exact e2
         | 1 => simp at h1 h2; subst h1 h2; exact .c _ _ (.d _ _ (.bool _))
         | i + 2 => simp at h1
        | false => exact OpRes.value r.hr hexec e2
       ·cases hs1
      ·rename_i hne
       have hne : t' ≠ t := fun e => by subst e; rw [Nat.beq_refl] at hne; cases hne
       split at hs1
       ·cases hs1
        rw [fnV_if] at ex
        have hexec : (execOp a.eval o).run P w = .ok (.value (.tuple #[z, .bool false])) w := by
         simp only [execOp, hop, Instr.typeAssert, Sem.run_bind, r_und hu, Result.andThen_ok, ex]
         cases d <;> first | (simp [hne, r_zero hi hz]; done) | exact absurd rfl (hni _)
        refine OpRes.value r.hr hexec (.tup _ _ (by simp) fun i v' x h1 h2 => ?_)
        match i with
        | 0 => simp at h1 h2; subst h1 h2; exact tcav_sound hzv G w ι _
        | 1 => simp at h1 h2; subst h1 h2; exact .c _ _ (.d _ _ (.bool _))
        | i + 2 => simp at h1
       ·cases hs1
    | .c (.u), hs => simp [mstep] at hs
    | .c (.d _), hs => simp [mstep] at hs
    | .c (.cl _ _ _), hs => simp [mstep] at hs
    | .c (.rp _), hs => simp [mstep] at hs
    | .c (.ptr _ _ _ _), hs => simp [mstep] at hs
    | .c (.arr _ _ _ _), hs => simp [mstep] at hs
    | .c (.mp _), hs => simp [mstep] at hs
    | .c (.it _), hs => simp [mstep] at hs
    | .agg _, hs => simp [mstep] at hs
    | .tup _, hs => simp [mstep] at hs
   ·exact absurd hs bad_step
  ·exact absurd hs bad_step
 ·exact absurd hs bad_step
theorem partsC_sound {place : Nat → Option (Nat × Nat × TypeId)} (r : Rel N G ι e h a w) : ∀ {ps : List (Nat × Operand)} {xs : List (Nat × Nat × X)} {as : List (Nat × Nat × List CV)},
  partsC P place ps = some xs → partsOf e xs = some as → as.all (fun a => cellsOk h a.2.2) = true →
  (ps.map fun p => (p.1, a.eval p.2)).length = as.length ∧ ∀ (i : Nat) (p : Nat × Value) (q : Nat × Nat × List CV), (ps.map fun p => (p.1, a.eval p.2))[i]? = some p → as[i]? = some q →
   (∃ t, place p.1 = some (q.1, q.2.1, t)) ∧ p.2.cells.size = q.2.2.length ∧ ∀ (j : Nat) (y : Value) (x : CV), p.2.cells[j]? = some y → q.2.2[j]? = some x → CR G w ι h y x := by
 intro ps
 induction ps with
 | nil =>
  intro xs as h1 h2 _
  simp only [partsC, Option.some.injEq] at h1; subst h1
  simp only [partsOf, Option.some.injEq] at h2; subst h2
  simp
 | cons p ps ih =>
  intro xs as h1 h2 h3
  obtain ⟨k, op⟩ := p
  simp only [partsC] at h1
  split at h1
  ·rename_i off s t hp
   split at h1
   ·rename_i x l hx hl
    cases h1
    simp only [partsOf] at h2
    split at h2
    ·rename_i cs l2 hcs hl2
     cases h2
     simp only [List.all_cons, Bool.and_eq_true] at h3
     obtain ⟨k1, k2⟩ := ih hl hl2 h3.2
     refine ⟨by simpa using k1, fun i p q hp' hq => ?_⟩
     cases i with
     | zero =>
      simp at hp' hq
      subst hp' hq
      have hc := (cx_sound hx r).cells hcs h3.1
      exact ⟨⟨t, hp⟩, hc.1, hc.2⟩
     | succ i => simp only [List.map_cons, List.getElem?_cons_succ] at hp' hq; exact k2 i p q hp' hq
    ·cases h2
   ·cases h1
  ·cases h1
theorem mapM_places {fs : List Field} {w : World} (hall : ∀ f ∈ fs, (P.info? f.type).isSome = true) :
  (fs.mapM fun f => (do pure (f.offset, ← sizeOf f.type) : Sem (Nat × Nat))).run P w = .ok (fs.map fun f => (f.offset, P.cellsOf f.type)) w := by
 induction fs with
 | nil => simp
 | cons f fs ih =>
  have hf := hall f (by simp)
  rw [Option.isSome_iff_exists] at hf
  obtain ⟨i, hi⟩ := hf
  simp only [List.mapM_cons, Sem.run_bind, r_size hi, Result.andThen_ok, Sem.run_pure, ih (fun g hg => hall g (by simp [hg])), List.map_cons, cellsOf_info hi]
theorem l_build {t : TypeId} {ps : Array (Nat × Operand)} (r : Rel N G ι e h a w) (hop : o.op = .build t ps) (hs : astep e h (compOp P o) = some (av, h')) :
  OpRes G ι h w av h' ((execOp a.eval o).run P w) := by
 simp only [compOp, hop] at hs
 split at hs
 ·rename_i ti hti
  split at hs
  ·rename_i z hz
   split at hs
   ·rename_i zc hzc
    have hzr := tcav_sound hzc G w ι h
    obtain ⟨zv, ez, ez2, ez3⟩ := inv_agg hzr
    have hlist : (ps.map fun (p : Nat × Operand) => (p.1, a.eval p.2)).toList = ps.toList.map fun p => (p.1, a.eval p.2) := by simp
    have fin : ∀ (place : Nat → Option (Nat × Nat × TypeId)) (place' : Nat → Option (Nat × Nat)) (l : List (Nat × Nat × X)), (∀ i x y t', place i = some (x, y, t') → place' i = some (x, y)) →
      partsC P place ps.toList = some l → astep e h (.build zc l) = some (av, h') →
      (∀ c', Instr.fill place' z.cells (ps.map fun (p : Nat × Operand) => (p.1, a.eval p.2)).toList = some c' → (execOp a.eval o).run P w = .ok (.value (.agg c')) w) →
      OpRes G ι h w av h' ((execOp a.eval o).run P w) := by
     intro place place' l hpl hl hs hrun
     simp only [astep] at hs
     split at hs
     ·rename_i as has
      split at hs
      ·rename_i hok
       simp only [Option.map_eq_some_iff, Prod.mk.injEq] at hs
       obtain ⟨z', hz', rfl, rfl⟩ := hs
       obtain ⟨k1, k2⟩ := partsC_sound r hl has hok
       have hcz : z.cells = zv := by rw [ez]; rfl
       obtain ⟨c', q1, q2, q3⟩ := fill_sound place' _ as z.cells zc z' k1 (fun i p q hp hq => by
        obtain ⟨⟨t', k3⟩, k4, k5⟩ := k2 i p q hp hq
        exact ⟨hpl _ _ _ _ k3, k4, k5⟩) (by rw [hcz]; exact ez2) (by rw [hcz]; exact ez3) hz'
       exact OpRes.value r.hr (hrun c' (by rw [hlist]; exact q1)) (.agg _ _ q2 q3)
      ·cases hs
     ·cases hs
    split at hs
    ·rename_i fs hu
     split at hs
     ·rename_i l hl
      split at hs
      ·rename_i hall
       refine fin _ (fun i => (fs.map fun f => (f.offset, P.cellsOf f.type))[i]?) l ?_ hl hs ?_
       ·intro i x y t' hi
        split at hi
        ·rename_i f hf
         simp only [Option.map_eq_some_iff, Prod.mk.injEq] at hi
         obtain ⟨fi, hfi, rfl, rfl, rfl⟩ := hi
         simp [hf, cellsOf_info hfi]
        ·cases hi
       ·intro c' hc'
        have hm : (fs.mapM fun f => (do pure (f.offset, ← sizeOf f.type) : Sem (Nat × Nat))).run P w = .ok (fs.map fun f => (f.offset, P.cellsOf f.type)) w := by
         have hm1 := mapM_places (P := P) (w := w) (fs := fs.toList) (fun f hf => by
          have := Array.all_eq_true_iff_forall_mem.1 hall f (by simpa using hf)
          exact this)
         rw [Array.mapM_eq_mapM_toList, Sem.run_map, hm1]
         simp only [Result.andThen_ok]
         congr 1
         apply Array.ext'
         simp
        simp only [execOp, hop, Instr.build, Sem.run_bind, r_zero hti hz, Result.andThen_ok, r_und hu, hm, hc', Sem.run_pure]
      ·exact absurd hs bad_step
     ·exact absurd hs bad_step
    ·rename_i n el hu
     split at hs
     ·rename_i ei hei
      split at hs
      ·rename_i l hl
       refine fin _ (fun i => some (i * ei.size, ei.size)) l ?_ hl hs ?_
       ·intro i x y t' hi
        simp only [Option.some.injEq, Prod.mk.injEq] at hi ⊢
        exact ⟨hi.1, hi.2.1⟩
       ·intro c' hc'
        simp only [execOp, hop, Instr.build, Sem.run_bind, r_zero hti hz, Result.andThen_ok, r_und hu, r_size hei, hc', Sem.run_pure]
      ·exact absurd hs bad_step
     ·exact absurd hs bad_step
    ·exact absurd hs bad_step
   ·exact absurd hs bad_step
  ·exact absurd hs bad_step
 ·exact absurd hs bad_step
theorem frz_solid {h h1 : Hp} {x y : CV} {d : D} (hf : frz h x = some (d, h1)) (hy : solid h1 y = true) : solid h y = true := by
 unfold frz at hf
 split at hf
 ·cases hf; exact hy
 ·cases hf; exact hy
 ·rename_i l v i n
  split at hf
  ·rename_i v' sz es hes
   split at hf
   ·cases hf
    have hget : ∀ l', l' ≠ l → (h.set l .dead)[l']? = h[l']? := fun l' hl' => List.getElem?_set_ne (fun e => hl' e.symm)
    have hself : (h.set l .dead)[l]? = some .dead := List.getElem?_set_self (get_lt hes)
    cases y with
    | ptr l2 v2 i2 j2 =>
     by_cases hl : l2 = l
     ·subst hl; simp [solid, hself, Blk.off] at hy
     ·simpa [solid, hget l2 hl] using hy
    | arr l2 v2 i2 j2 =>
     by_cases hl : l2 = l
     ·subst hl; simp [solid, hself] at hy
     ·simpa [solid, hget l2 hl] using hy
    | mp l2 =>
     by_cases hl : l2 = l
     ·subst hl; simp [solid, hself] at hy
     ·simpa [solid, hget l2 hl] using hy
    | it l2 =>
     by_cases hl : l2 = l
     ·subst hl; simp [solid, hself] at hy
     ·simpa [solid, hget l2 hl] using hy
    | u => simp [solid] at hy
    | _ => rfl
   ·cases hf
  ·cases hf
 ·cases hf; exact hy
 ·rename_i l
  split at hf
  ·rename_i v' es hes
   split at hf
   ·cases hf
    have hget : ∀ l', l' ≠ l → (h.set l .dead)[l']? = h[l']? := fun l' hl' => List.getElem?_set_ne (fun e => hl' e.symm)
    have hself : (h.set l .dead)[l]? = some .dead := List.getElem?_set_self (get_lt hes)
    cases y with
    | ptr l2 v2 i2 j2 =>
     by_cases hl : l2 = l
     ·subst hl; simp [solid, hself, Blk.off] at hy
     ·simpa [solid, hget l2 hl] using hy
    | arr l2 v2 i2 j2 =>
     by_cases hl : l2 = l
     ·subst hl; simp [solid, hself] at hy
     ·simpa [solid, hget l2 hl] using hy
    | mp l2 =>
     by_cases hl : l2 = l
     ·subst hl; simp [solid, hself] at hy
     ·simpa [solid, hget l2 hl] using hy
    | it l2 =>
     by_cases hl : l2 = l
     ·subst hl; simp [solid, hself] at hy
     ·simpa [solid, hget l2 hl] using hy
    | u => simp [solid] at hy
    | _ => rfl
   ·cases hf
  ·cases hf
 ·cases hf
theorem frz_ok {h h1 : Hp} {x : CV} {d : D} (hf : frz h x = some (d, h1)) : solid h x = true := by
 unfold frz at hf
 split at hf
 ·rfl
 ·rfl
 ·split at hf
  ·rename_i v' sz es hes
   split at hf
   ·rename_i hv; simp [solid, hes, hv]
   ·cases hf
  ·cases hf
 ·rfl
 ·split at hf
  ·rename_i v' es hes
   split at hf
   ·simp [solid, hes]
   ·cases hf
  ·cases hf
 ·cases hf
theorem frzs_ok : ∀ {cs : List CV} {h h1 : Hp} {ds : List D}, frzs h cs = some (ds, h1) → cellsOk h cs = true := by
 intro cs
 induction cs with
 | nil => intro h h1 ds _; rfl
 | cons x r ih =>
  intro h h1 ds hf
  simp only [frzs] at hf
  split at hf
  ·rename_i d h2 hd
   split at hf
   ·rename_i ds' h3 hds
    simp only [cellsOk, List.all_cons, Bool.and_eq_true]
    refine ⟨frz_ok hd, ?_⟩
    have := ih hds
    simp only [cellsOk, List.all_eq_true] at this ⊢
    exact fun y hy => frz_solid hd (this y hy)
   ·cases hf
  ·cases hf
theorem frzK_ok {h h1 : Hp} {x : CV} {d : D} (hf : frzK h x = some (d, h1)) : solid h x = true := by
 unfold frzK at hf
 split at hf
 ·rename_i d' hd
  cases x <;> first | rfl | (simp [toK] at hd)
 ·exact frz_ok hf
theorem frzK_solid {h h1 : Hp} {x : CV} {d : D} (hf : frzK h x = some (d, h1)) {y : CV} (hy : solid h1 y = true) : solid h y = true := by
 unfold frzK at hf
 split at hf
 ·cases hf; exact hy
 ·exact frz_solid hf hy
theorem frzsK_ok : ∀ {cs : List CV} {h h1 : Hp} {ds : List D}, frzsK h cs = some (ds, h1) → cellsOk h cs = true := by
 intro cs
 induction cs with
 | nil => intro h h1 ds _; rfl
 | cons x r ih =>
  intro h h1 ds hf
  simp only [frzsK] at hf
  split at hf
  ·rename_i d h2 hd
   split at hf
   ·rename_i ds' h3 hds
    simp only [cellsOk, List.all_cons, Bool.and_eq_true]
    refine ⟨frzK_ok hd, ?_⟩
    have := ih hds
    simp only [cellsOk, List.all_eq_true] at this ⊢
    exact fun y hy => frzK_solid hd (this y hy)
   ·cases hf
  ·cases hf
theorem frzsM_ok {cs : List CV} {h h1 : Hp} {ds : List D} (hf : frzsM h cs = some (ds, h1)) : cellsOk h cs = true := by
 unfold frzsM at hf
 split at hf
 ·exact frzsK_ok hf
 ·exact frzs_ok hf
theorem elems_sound {el : TypeId} : ∀ {ps : List (Nat × Operand)} {G : Nat → Prop} {h h' : Hp} {xs : List (Nat × X)} {as : List (Nat × List D)}, Rel N G ι e h a w →
  elemsC P el ps = some xs → elemsOf h e xs = some (as, h') →
  ∃ G', HR G' ι h' w ∧ Ext G ι h w G' ι h' w ∧ (ps.map fun p => (p.1, a.eval p.2)).length = as.length ∧ ∀ (i : Nat) (p : Nat × Value) (q : Nat × List D), (ps.map fun p => (p.1, a.eval p.2))[i]? = some p → as[i]? = some q →
   p.1 = q.1 ∧ p.2.cells.size = q.2.length ∧ ∀ (j : Nat) (y : Value) (x : D), p.2.cells[j]? = some y → q.2[j]? = some x → DR G' w y x := by
 intro ps
 induction ps with
 | nil =>
  intro G h h' xs as r h1 h2
  simp only [elemsC, Option.some.injEq] at h1; subst h1
  simp only [elemsOf, Option.some.injEq, Prod.mk.injEq] at h2
  obtain ⟨rfl, rfl⟩ := h2
  exact ⟨G, r.hr, Ext.refl _ _ _ _, rfl, by simp⟩
 | cons p ps ih =>
  intro G h h' xs as r h1 h2
  obtain ⟨k, op⟩ := p
  simp only [elemsC] at h1
  split at h1
  ·rename_i x l hx hl
   cases h1
   simp only [elemsOf] at h2
   split at h2
   ·rename_i cs hcs
    split at h2
    ·rename_i ds h3 hds
     split at h2
     ·rename_i l2 h4 hl2
      simp only [Option.some.injEq, Prod.mk.injEq] at h2
      obtain ⟨rfl, rfl⟩ := h2
      have hv := cx_sound hx r
      have hok : cellsOk h cs = true := frzsM_ok hds
      obtain ⟨c1, c2⟩ := hv.cells hcs hok
      obtain ⟨G1, q1, q2, q3, q4⟩ := frzsM_sound r.hr (vs := (a.eval op).cells.toList) (by simpa using c1) (fun i v x hv hx => c2 i v x (by simpa using hv) hx) hds
      have r1 : Rel N G1 ι e h3 a w := { hr := q1, size := r.size, env := fun i => (r.env i).ext q2 r.hr }
      obtain ⟨G2, t1, t2, t3, t4⟩ := ih r1 hl hl2
      refine ⟨G2, t1, q2.trans t2, by simpa using t3, fun i p q hp hq => ?_⟩
      cases i with
      | zero =>
       simp at hp hq
       subst hp hq
       refine ⟨rfl, by simp only [q3]; exact c1, fun j y x hy hx => ?_⟩
       exact (q4 j y x (by simpa using hy) hx).ext t2 q1
      | succ i => simp only [List.map_cons, List.getElem?_cons_succ] at hp hq; exact t4 i p q hp hq
     ·cases h2
    ·cases h2
   ·cases h2
  ·cases h1
theorem HR_nil {w : World} {G1 : Nat → Prop} (hg : ∀ b, G1 b → b < w.heap.size) : HR G1 [] [] w where
 len := rfl
 own := by intro l l' b k k' h1; simp at h1
 g b hb := ⟨hg b hb, fun ⟨l, blk, h1, _⟩ => by simp at h1⟩
 blk := by intro l k hk; simp at hk
theorem Ext.of_pure {G G1 G2 : Nat → Prop} {ι ι2 : Io} {h h2 : Hp} {w w2 : World} (r : HR G ι h w) (e : Ext G1 [] [] w G2 ι2 h2 w2) (r2 : HR G2 ι2 h2 w2) :
    Ext G ι h w (fun b => G b ∨ (G2 b ∧ w.heap.size ≤ b)) ι h w2 ∧ HR (fun b => G b ∨ (G2 b ∧ w.heap.size ≤ b)) ι h w2 := by
  have hsame : ∀ b, b < w.heap.size → w2.heap[b]? = w.heap[b]? := fun b hb => e.frame b hb fun ⟨l, blk, h1, _⟩ => by simp at h1
  have hext : Ext G ι h w (fun b => G b ∨ (G2 b ∧ w.heap.size ≤ b)) ι h w2 :=
    { size := e.size
      quiet := e.quiet
      frame := fun b hb _ => hsame b hb
      gmono := fun _ h => .inl h
      gnew := fun b hb => by rcases hb with h | h; exact .inl h; exact .inr (.inl h.2)
      onew := fun b hb => .inl hb
      keep := fun l k hk => ⟨k, hk, Kept.frame rfl fun b hb => hsame b (owned_lt r ⟨l, k, hk, hb⟩)⟩ }
  refine ⟨hext, { len := r.len, own := r.own, g := ?_, blk := ?_ }⟩
  · intro b hb
    rcases hb with hb | hb
    · have := r.g b hb; exact ⟨Nat.lt_of_lt_of_le this.1 e.size, this.2⟩
    · exact ⟨(r2.g b hb.1).1, fun ho => by have := owned_lt r ho; omega⟩
  · intro l k hk
    exact BR.ext hext r hk rfl fun b hb => hsame b (owned_lt r ⟨l, k, hk, hb⟩)
theorem l_bsl {t : TypeId} {n : Nat} {ps : Array (Nat × Operand)} (r : Rel N G ι e h a w) (hop : o.op = .buildSlice t n ps) (hs : astep e h (compOp P o) = some (av, h')) :
  OpRes G ι h w av h' ((execOp a.eval o).run P w) := by
 simp only [compOp, hop] at hs
 split at hs
 ·rename_i el hu
  split at hs
  ·rename_i zd l hz hl
   obtain ⟨ti, z, hti, hzz, g3, g4, g5⟩ := zds_sound hz
   have hsz := cellsOf_info hti
   rw [hsz] at hs
   split at hs
   ·rename_i es hlit
    simp only [astep, evs, mstep, Option.some.injEq, Prod.mk.injEq] at hs
    obtain ⟨rfl, rfl⟩ := hs
    obtain ⟨hn0, as, hla, hes, hn⟩ := litS_spec hlit
    have has := litE_elems (e := e) (h := h) hla
    obtain ⟨G1, q1, q2, q3, q4⟩ := elems_sound r hl has
    have hl0 := laid_zero (G := G1) (w := w) n (n * ti.size) g4 g3 (g5 G1 w) (Nat.le_refl _)
    obtain ⟨c', k1, k2, k3, k4⟩ := fillE_sound (ps.toList.map fun p => (p.1, a.eval p.2)) as _ _ es q3 q4 hl0 (by simp) hes
    have hlen : es.length = n := by simpa using k4
    have q0 : HR G1 [] [] w := HR_nil fun b hb => (q1.g b hb).1
    obtain ⟨t1, t2, t3⟩ := new_da (n := n) (cap := n) (k := n) el q0 k2 (by omega) (Nat.le_refl _) (by rw [k3, hlen]; exact Nat.le_refl _) (by omega) (by omega)
    have hfz : frz ([] ++ [Blk.da true 0 ti.size es]) (.arr ([] : Hp).length 0 0 n) = some (.list false ti.size es, [Blk.dead]) := by
     simp [frz, List.take_of_length_le (Nat.le_of_eq hlen)]
    obtain ⟨G2, u1, u2, u3⟩ := frz_sound t1 (inv_c t2) hfz
    obtain ⟨x1, x2⟩ := Ext.of_pure q1 (t3.trans u3) u1
    have hgn := (t3.trans u3).gnew
    refine ⟨_, _, _, _, .inl ?_, x2, .c _ _ (.d _ _ (u2.mono fun b hb => ⟨?_, rfl⟩)), q2.trans x1⟩
    ·have hlist : (ps.map fun (p : Nat × Operand) => (p.1, a.eval p.2)).toList = ps.toList.map fun p => (p.1, a.eval p.2) := by simp
     have hbig : ¬ n * ti.size > 2 ^ 24 := by
      have : (2 : Nat) ^ 24 = 16777216 := by decide
      omega
     simp only [execOp, hop, Instr.buildSlice, Sem.run_bind, r_und hu, Result.andThen_ok, r_size hti, Sem.run_ite, hbig, if_false, Sem.run_pure, hlist]
     by_cases h0 : n * ti.size = 0
     ·have hnil : ∀ f : Nat → Value, Array.map f (Array.range 0) = #[] := fun f => by simp
      rw [h0, hnil] at k1
      simp only [h0, if_true, Result.andThen_ok, hnil, k1, newRow, Sem.run_bind, run_newObj, Sem.run_pure]
      rfl
     ·simp only [h0, if_false, r_zero hti hzz, Result.andThen_ok, k1, newRow, Sem.run_bind, run_newObj, Sem.run_pure]
      rfl
    ·rcases hgn b hb with h1 | h1 | ⟨l0, k0, h1, _⟩
     ·exact .inl h1
     ·exact .inr ⟨hb, h1⟩
     ·simp at h1
   ·simp only [astep] at hs
    split at hs
    ·rename_i as h1 has
     split at hs
     ·rename_i es hes
      split at hs
      ·rename_i hn
       simp only [Option.some.injEq, Prod.mk.injEq] at hs
       obtain ⟨rfl, rfl⟩ := hs
       obtain ⟨G1, q1, q2, q3, q4⟩ := elems_sound r hl has
       have hl0 := laid_zero (G := G1) (w := w) n (n * ti.size) g4 g3 (g5 G1 w) (Nat.le_refl _)
       obtain ⟨c', k1, k2, k3, k4⟩ := fillE_sound (ps.toList.map fun p => (p.1, a.eval p.2)) as _ _ es q3 q4 hl0 (by simp) hes
       have hlen : es.length = n := by simpa using k4
       obtain ⟨t1, t2, t3⟩ := new_da (n := n) (cap := n) (k := n) el q1 k2 (by omega) (Nat.le_refl _) (by rw [k3, hlen]; exact Nat.le_refl _) (by omega) (by omega)
       refine ⟨_, _, G1, _, .inl ?_, t1, t2, q2.trans t3⟩
       have hlist : (ps.map fun (p : Nat × Operand) => (p.1, a.eval p.2)).toList = ps.toList.map fun p => (p.1, a.eval p.2) := by simp
       have hbig : ¬ n * ti.size > 2 ^ 24 := by
        have : (2 : Nat) ^ 24 = 16777216 := by decide
        omega
       simp only [execOp, hop, Instr.buildSlice, Sem.run_bind, r_und hu, Result.andThen_ok, r_size hti, Sem.run_ite, hbig, if_false, Sem.run_pure, hlist]
       by_cases h0 : n * ti.size = 0
       ·have hnil : ∀ f : Nat → Value, Array.map f (Array.range 0) = #[] := fun f => by simp
        rw [h0, hnil] at k1
        simp only [h0, if_true, Result.andThen_ok, hnil, k1, newRow, Sem.run_bind, run_newObj, Sem.run_pure]
        rfl
       ·simp only [h0, if_false, r_zero hti hzz, Result.andThen_ok, k1, newRow, Sem.run_bind, run_newObj, Sem.run_pure]
        rfl
      ·cases hs
     ·cases hs
    ·cases hs
  ·exact absurd hs bad_step
 ·exact absurd hs bad_step
theorem op_sound (r : Rel N G ι e h a w) (hs : astep e h (compOp P o) = some (av, h')) : OpRes G ι h w av h' ((execOp a.eval o).run P w) := by
 cases hop : o.op
 case move x => exact l_mv r (.inl hop) hs
 case assign x => exact l_mv r (.inr hop) hs
 case pick => exact l_pick r hop hs
 case alloc => exact l_alloc r hop hs
 case box => exact l_box r hop hs
 case build => exact l_build r hop hs
 case buildSlice => exact l_bsl r hop hs
 case load => exact l_load r hop hs
 case store => exact l_store r hop hs
 case nilCheck => exact l_nilc r hop hs
 case binOp => exact l_bin r hop hs
 case unOp => exact l_un r hop hs
 case convert => exact l_conv r hop hs
 case slice => exact l_slice r hop hs
 case fieldAddr => exact l_fa r hop hs
 case field => exact l_field r hop hs
 case indexAddr => exact l_ia r hop hs
 case index => exact l_index r hop hs
 case extract => exact l_ext r hop hs
 case makeSlice => exact l_mks r hop hs
 case makeFunc => exact l_mkf r hop hs
 case call => exact l_call r hop hs
 case makeMap => exact l_makeMap r hop hs
 case lookup => exact l_lookup r hop hs
 case mapUpdate => exact l_update r hop hs
 case insert => exact l_insert r hop hs
 case makeInterface => exact l_mki r hop hs
 case typeAssert => exact l_tya r hop hs
 all_goals (simp only [compOp, hop] at hs; (repeat' split at hs) <;> first | exact absurd hs bad_step | (simp [astep] at hs; done))
end
end Go.Ab

